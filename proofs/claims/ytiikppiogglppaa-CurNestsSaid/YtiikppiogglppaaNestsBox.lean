/-
  The variables of the law CurNests in memory, and what a store into each leaves.
-/
import Derived.Test.YtiikppiogglppaaTriesRead
namespace Go.Proofs.Ytiikppiogglppaa
open Go.RowKit

/-- Where the variables lie, and what does not change. -/
structure NP where
  TW : Nat
  TK : Nat
  WH : Nat
  go : Nat
  Ao : Option Addr
  co : Nat
  OT : Nat
  K : Nat
  IN : Nat
  FA : Nat
  RE : Nat
  BE : Nat
  A0 : Option Addr
  n0 : Nat
  c0 : Nat
  A1 : Option Addr
  n1 : Nat
  c1 : Nat
  t0 : Int
  t1 : Int
  w : Int

structure Nest (w0 wr : World) (p : NP) (kp : Option Addr) (inn f1 f2 : Int) (re be : Bool) : Prop where
  tw : wr.heap[p.TW]? = some (.cells #[.slice p.A0 p.n0 p.c0, .slice p.A1 p.n1 p.c1] 23 (0, 0))
  tk : wr.heap[p.TK]? = some (.cells #[.int .i64 p.t0, .int .i64 p.t1] 24 (0, 0))
  wh : wr.heap[p.WH]? = some (.cells #[.int .i64 p.w] 3 (0, 0))
  ot : wr.heap[p.OT]? = some (.cells #[.pointer (some ⟨p.go, 0, none⟩)] 26 (0, 0))
  kp : wr.heap[p.K]? = some (.cells #[.pointer kp] 26 (0, 0))
  inn : wr.heap[p.IN]? = some (.cells #[.int .i64 inn] 3 (0, 0))
  fa : wr.heap[p.FA]? = some (.cells #[.int .i64 f1, .int .i64 f2] 31 (0, 0))
  re : wr.heap[p.RE]? = some (.cells #[.bool re] 4 (0, 0))
  be : wr.heap[p.BE]? = some (.cells #[.bool be] 4 (0, 0))
  other : IsCur wr p.go p.Ao p.co [] ⟨0, 13, 0⟩ false
  ord : w0.heap.size ≤ p.TW ∧ p.TW < p.TK ∧ p.TK < p.WH ∧ p.WH < p.go ∧ p.go < p.OT ∧ p.OT < p.K ∧ p.K < p.IN ∧ p.IN < p.FA ∧ p.FA < p.RE ∧ p.RE < p.BE
  below : Below w0.heap.size w0 wr

section
variable {w0 wr w' : World} {p : NP} {kp : Option Addr} {inn f1 f2 : Int} {re be : Bool}
theorem Nest.grown (h : Nest w0 wr p kp inn f1 f2 re be) {g : Nat} (hg : wr.grownBy w' (some g)) (hn : p.BE < g) : Nest w0 w' p kp inn f1 f2 re be := by
  have ho := h.ord
  exact { h with
    tw := (hg.block _ (Array.getElem?_eq_some_iff.1 h.tw).1 (fun e => by have := Option.some.inj e; omega)).trans h.tw
    tk := (hg.block _ (Array.getElem?_eq_some_iff.1 h.tk).1 (fun e => by have := Option.some.inj e; omega)).trans h.tk
    wh := (hg.block _ (Array.getElem?_eq_some_iff.1 h.wh).1 (fun e => by have := Option.some.inj e; omega)).trans h.wh
    ot := (hg.block _ (Array.getElem?_eq_some_iff.1 h.ot).1 (fun e => by have := Option.some.inj e; omega)).trans h.ot
    kp := (hg.block _ (Array.getElem?_eq_some_iff.1 h.kp).1 (fun e => by have := Option.some.inj e; omega)).trans h.kp
    inn := (hg.block _ (Array.getElem?_eq_some_iff.1 h.inn).1 (fun e => by have := Option.some.inj e; omega)).trans h.inn
    fa := (hg.block _ (Array.getElem?_eq_some_iff.1 h.fa).1 (fun e => by have := Option.some.inj e; omega)).trans h.fa
    re := (hg.block _ (Array.getElem?_eq_some_iff.1 h.re).1 (fun e => by have := Option.some.inj e; omega)).trans h.re
    be := (hg.block _ (Array.getElem?_eq_some_iff.1 h.be).1 (fun e => by have := Option.some.inj e; omega)).trans h.be
    other := h.other.kept' hg (fun e => by have := Option.some.inj e; omega) (fun h0 => by simp at h0)
    below := h.below.grown hg h.below.size (fun j e => by cases e; omega) }
theorem Nest.later (h : Nest w0 wr p kp inn f1 f2 re be) {B : Nat} (hb : Below B wr w') (hB : p.BE < B) : Nest w0 w' p kp inn f1 f2 re be := by
  have ho := h.ord
  exact { h with
    tw := (hb.block _ (by omega)).trans h.tw
    tk := (hb.block _ (by omega)).trans h.tk
    wh := (hb.block _ (by omega)).trans h.wh
    ot := (hb.block _ (by omega)).trans h.ot
    kp := (hb.block _ (by omega)).trans h.kp
    inn := (hb.block _ (by omega)).trans h.inn
    fa := (hb.block _ (by omega)).trans h.fa
    re := (hb.block _ (by omega)).trans h.re
    be := (hb.block _ (by omega)).trans h.be
    other := ⟨(hb.block _ (by omega)).trans h.other.1, ⟨rfl, (by intro z hz; cases hz), .inl rfl⟩, h.other.2.2.1, h.other.2.2.2⟩
    below := h.below.trans (hb.mono (by omega)) }
theorem Nest.cells (h : Nest w0 wr p kp inn f1 f2 re be) :
    wr.cell? ⟨p.TW, 0, none⟩ = some (.slice p.A0 p.n0 p.c0) ∧ wr.cell? ⟨p.TW, 1, none⟩ = some (.slice p.A1 p.n1 p.c1) ∧ wr.cell? ⟨p.TK, 0, none⟩ = some (.int .i64 p.t0) ∧ wr.cell? ⟨p.TK, 1, none⟩ = some (.int .i64 p.t1) ∧ wr.cell? ⟨p.WH, 0, none⟩ = some (.int .i64 p.w) ∧
      wr.cell? ⟨p.OT, 0, none⟩ = some (.pointer (some ⟨p.go, 0, none⟩)) ∧ wr.cell? ⟨p.K, 0, none⟩ = some (.pointer kp) ∧ wr.cell? ⟨p.IN, 0, none⟩ = some (.int .i64 inn) ∧ wr.cell? ⟨p.FA, 0, none⟩ = some (.int .i64 f1) ∧ wr.cell? ⟨p.FA, 1, none⟩ = some (.int .i64 f2) ∧ wr.cell? ⟨p.RE, 0, none⟩ = some (.bool re) ∧ wr.cell? ⟨p.BE, 0, none⟩ = some (.bool be) := by
  refine ⟨?_, ?_, ?_, ?_, ?_, ?_, ?_, ?_, ?_, ?_, ?_, ?_⟩
  · rw [cell_of_row _ _ _ _ 23 (0, 0) h.tw]; rfl
  · rw [cell_of_row _ _ _ _ 23 (0, 0) h.tw]; rfl
  · rw [cell_of_row _ _ _ _ 24 (0, 0) h.tk]; rfl
  · rw [cell_of_row _ _ _ _ 24 (0, 0) h.tk]; rfl
  · rw [cell_of_row _ _ _ _ 3 (0, 0) h.wh]; rfl
  · rw [cell_of_row _ _ _ _ 26 (0, 0) h.ot]; rfl
  · rw [cell_of_row _ _ _ _ 26 (0, 0) h.kp]; rfl
  · rw [cell_of_row _ _ _ _ 3 (0, 0) h.inn]; rfl
  · rw [cell_of_row _ _ _ _ 31 (0, 0) h.fa]; rfl
  · rw [cell_of_row _ _ _ _ 31 (0, 0) h.fa]; rfl
  · rw [cell_of_row _ _ _ _ 4 (0, 0) h.re]; rfl
  · rw [cell_of_row _ _ _ _ 4 (0, 0) h.be]; rfl
theorem Nest.free (h : Nest w0 wr p kp inn f1 f2 re be) : wr.frozen? ⟨p.K, 0, none⟩ = false ∧ wr.frozen? ⟨p.IN, 0, none⟩ = false ∧ wr.frozen? ⟨p.FA, 0, none⟩ = false ∧ wr.frozen? ⟨p.FA, 1, none⟩ = false ∧ wr.frozen? ⟨p.RE, 0, none⟩ = false ∧ wr.frozen? ⟨p.BE, 0, none⟩ = false :=
  ⟨frozen_of_row _ _ 0 _ 26 h.kp, frozen_of_row _ _ 0 _ 3 h.inn, frozen_of_row _ _ 0 _ 31 h.fa, frozen_of_row _ _ 1 _ 31 h.fa, frozen_of_row _ _ 0 _ 4 h.re, frozen_of_row _ _ 0 _ 4 h.be⟩
theorem Nest.put_k (h : Nest w0 wr p kp inn f1 f2 re be) (x : Option Addr) : Nest w0 (wr.setCell ⟨p.K, 0, none⟩ (.pointer x)) p x inn f1 f2 re be := by
  have ho := h.ord
  exact { h with
    tw := (heap_setCell_other _ _ _ _ (by show p.TW ≠ p.K; omega)).trans h.tw
    tk := (heap_setCell_other _ _ _ _ (by show p.TK ≠ p.K; omega)).trans h.tk
    wh := (heap_setCell_other _ _ _ _ (by show p.WH ≠ p.K; omega)).trans h.wh
    ot := (heap_setCell_other _ _ _ _ (by show p.OT ≠ p.K; omega)).trans h.ot
    kp := by rw [heap_setCell_same _ _ 0 _ 26 _ h.kp]; rfl
    inn := (heap_setCell_other _ _ _ _ (by show p.IN ≠ p.K; omega)).trans h.inn
    fa := (heap_setCell_other _ _ _ _ (by show p.FA ≠ p.K; omega)).trans h.fa
    re := (heap_setCell_other _ _ _ _ (by show p.RE ≠ p.K; omega)).trans h.re
    be := (heap_setCell_other _ _ _ _ (by show p.BE ≠ p.K; omega)).trans h.be
    other := h.other.kept' (grown_set wr p.K 0 _) (fun e => by have := Option.some.inj e; omega) (fun h0 => by simp at h0)
    below := h.below.setCell (p := ⟨p.K, 0, none⟩) (by show w0.heap.size ≤ p.K; omega) _ }
theorem Nest.put_in (h : Nest w0 wr p kp inn f1 f2 re be) (x : Int) : Nest w0 (wr.setCell ⟨p.IN, 0, none⟩ (.int .i64 x)) p kp x f1 f2 re be := by
  have ho := h.ord
  exact { h with
    tw := (heap_setCell_other _ _ _ _ (by show p.TW ≠ p.IN; omega)).trans h.tw
    tk := (heap_setCell_other _ _ _ _ (by show p.TK ≠ p.IN; omega)).trans h.tk
    wh := (heap_setCell_other _ _ _ _ (by show p.WH ≠ p.IN; omega)).trans h.wh
    ot := (heap_setCell_other _ _ _ _ (by show p.OT ≠ p.IN; omega)).trans h.ot
    kp := (heap_setCell_other _ _ _ _ (by show p.K ≠ p.IN; omega)).trans h.kp
    inn := by rw [heap_setCell_same _ _ 0 _ 3 _ h.inn]; rfl
    fa := (heap_setCell_other _ _ _ _ (by show p.FA ≠ p.IN; omega)).trans h.fa
    re := (heap_setCell_other _ _ _ _ (by show p.RE ≠ p.IN; omega)).trans h.re
    be := (heap_setCell_other _ _ _ _ (by show p.BE ≠ p.IN; omega)).trans h.be
    other := h.other.kept' (grown_set wr p.IN 0 _) (fun e => by have := Option.some.inj e; omega) (fun h0 => by simp at h0)
    below := h.below.setCell (p := ⟨p.IN, 0, none⟩) (by show w0.heap.size ≤ p.IN; omega) _ }
theorem Nest.put_f1 (h : Nest w0 wr p kp inn f1 f2 re be) (x : Int) : Nest w0 (wr.setCell ⟨p.FA, 0, none⟩ (.int .i64 x)) p kp inn x f2 re be := by
  have ho := h.ord
  exact { h with
    tw := (heap_setCell_other _ _ _ _ (by show p.TW ≠ p.FA; omega)).trans h.tw
    tk := (heap_setCell_other _ _ _ _ (by show p.TK ≠ p.FA; omega)).trans h.tk
    wh := (heap_setCell_other _ _ _ _ (by show p.WH ≠ p.FA; omega)).trans h.wh
    ot := (heap_setCell_other _ _ _ _ (by show p.OT ≠ p.FA; omega)).trans h.ot
    kp := (heap_setCell_other _ _ _ _ (by show p.K ≠ p.FA; omega)).trans h.kp
    inn := (heap_setCell_other _ _ _ _ (by show p.IN ≠ p.FA; omega)).trans h.inn
    fa := by rw [heap_setCell_same _ _ 0 _ 31 _ h.fa]; rfl
    re := (heap_setCell_other _ _ _ _ (by show p.RE ≠ p.FA; omega)).trans h.re
    be := (heap_setCell_other _ _ _ _ (by show p.BE ≠ p.FA; omega)).trans h.be
    other := h.other.kept' (grown_set wr p.FA 0 _) (fun e => by have := Option.some.inj e; omega) (fun h0 => by simp at h0)
    below := h.below.setCell (p := ⟨p.FA, 0, none⟩) (by show w0.heap.size ≤ p.FA; omega) _ }
theorem Nest.put_f2 (h : Nest w0 wr p kp inn f1 f2 re be) (x : Int) : Nest w0 (wr.setCell ⟨p.FA, 1, none⟩ (.int .i64 x)) p kp inn f1 x re be := by
  have ho := h.ord
  exact { h with
    tw := (heap_setCell_other _ _ _ _ (by show p.TW ≠ p.FA; omega)).trans h.tw
    tk := (heap_setCell_other _ _ _ _ (by show p.TK ≠ p.FA; omega)).trans h.tk
    wh := (heap_setCell_other _ _ _ _ (by show p.WH ≠ p.FA; omega)).trans h.wh
    ot := (heap_setCell_other _ _ _ _ (by show p.OT ≠ p.FA; omega)).trans h.ot
    kp := (heap_setCell_other _ _ _ _ (by show p.K ≠ p.FA; omega)).trans h.kp
    inn := (heap_setCell_other _ _ _ _ (by show p.IN ≠ p.FA; omega)).trans h.inn
    fa := by rw [heap_setCell_same _ _ 1 _ 31 _ h.fa]; rfl
    re := (heap_setCell_other _ _ _ _ (by show p.RE ≠ p.FA; omega)).trans h.re
    be := (heap_setCell_other _ _ _ _ (by show p.BE ≠ p.FA; omega)).trans h.be
    other := h.other.kept' (grown_set wr p.FA 1 _) (fun e => by have := Option.some.inj e; omega) (fun h0 => by simp at h0)
    below := h.below.setCell (p := ⟨p.FA, 1, none⟩) (by show w0.heap.size ≤ p.FA; omega) _ }
theorem Nest.put_re (h : Nest w0 wr p kp inn f1 f2 re be) (x : Bool) : Nest w0 (wr.setCell ⟨p.RE, 0, none⟩ (.bool x)) p kp inn f1 f2 x be := by
  have ho := h.ord
  exact { h with
    tw := (heap_setCell_other _ _ _ _ (by show p.TW ≠ p.RE; omega)).trans h.tw
    tk := (heap_setCell_other _ _ _ _ (by show p.TK ≠ p.RE; omega)).trans h.tk
    wh := (heap_setCell_other _ _ _ _ (by show p.WH ≠ p.RE; omega)).trans h.wh
    ot := (heap_setCell_other _ _ _ _ (by show p.OT ≠ p.RE; omega)).trans h.ot
    kp := (heap_setCell_other _ _ _ _ (by show p.K ≠ p.RE; omega)).trans h.kp
    inn := (heap_setCell_other _ _ _ _ (by show p.IN ≠ p.RE; omega)).trans h.inn
    fa := (heap_setCell_other _ _ _ _ (by show p.FA ≠ p.RE; omega)).trans h.fa
    re := by rw [heap_setCell_same _ _ 0 _ 4 _ h.re]; rfl
    be := (heap_setCell_other _ _ _ _ (by show p.BE ≠ p.RE; omega)).trans h.be
    other := h.other.kept' (grown_set wr p.RE 0 _) (fun e => by have := Option.some.inj e; omega) (fun h0 => by simp at h0)
    below := h.below.setCell (p := ⟨p.RE, 0, none⟩) (by show w0.heap.size ≤ p.RE; omega) _ }
theorem Nest.put_be (h : Nest w0 wr p kp inn f1 f2 re be) (x : Bool) : Nest w0 (wr.setCell ⟨p.BE, 0, none⟩ (.bool x)) p kp inn f1 f2 re x := by
  have ho := h.ord
  exact { h with
    tw := (heap_setCell_other _ _ _ _ (by show p.TW ≠ p.BE; omega)).trans h.tw
    tk := (heap_setCell_other _ _ _ _ (by show p.TK ≠ p.BE; omega)).trans h.tk
    wh := (heap_setCell_other _ _ _ _ (by show p.WH ≠ p.BE; omega)).trans h.wh
    ot := (heap_setCell_other _ _ _ _ (by show p.OT ≠ p.BE; omega)).trans h.ot
    kp := (heap_setCell_other _ _ _ _ (by show p.K ≠ p.BE; omega)).trans h.kp
    inn := (heap_setCell_other _ _ _ _ (by show p.IN ≠ p.BE; omega)).trans h.inn
    fa := (heap_setCell_other _ _ _ _ (by show p.FA ≠ p.BE; omega)).trans h.fa
    re := (heap_setCell_other _ _ _ _ (by show p.RE ≠ p.BE; omega)).trans h.re
    be := by rw [heap_setCell_same _ _ 0 _ 4 _ h.be]; rfl
    other := h.other.kept' (grown_set wr p.BE 0 _) (fun e => by have := Option.some.inj e; omega) (fun h0 => by simp at h0)
    below := h.below.setCell (p := ⟨p.BE, 0, none⟩) (by show w0.heap.size ≤ p.BE; omega) _ }
end

/-- Behind k bytes taken one by one. -/
def CS.bytes (l : List Int) (k : Nat) : CS := if k ≤ l.length then ⟨k, 0, 0⟩ else ⟨l.length, 13, l.length⟩
theorem bytes_fits {l : List Int} (h : l.length ≤ 1000) (k : Nat) : (CS.bytes l k).fits l := by
  unfold CS.bytes
  split
  · exact ⟨by show k ≤ l.length; assumption, h, fun _ => rfl⟩
  · exact ⟨Nat.le_refl _, h, fun e => by cases e⟩
theorem bytes_next (l : List Int) (k : Nat) : ((CS.bytes l k).take l 1).2 = CS.bytes l (k + 1) := by
  unfold CS.bytes
  by_cases h : k + 1 ≤ l.length
  · rw [if_pos (by omega), if_pos h]
    exact at_byte_state (by omega)
  · rw [if_neg h]
    by_cases h2 : k ≤ l.length
    · obtain rfl : k = l.length := by omega
      rw [if_pos h2]
      unfold CS.take CS.fail
      rw [if_pos rfl, if_neg (by omega), if_pos (by show (l.length : Int) - (l.length : Int) < 1; omega), if_pos rfl, if_neg (by decide)]
    · rw [if_neg h2]
      unfold CS.take
      rw [if_neg (by show ¬ ((13 : Int) = 0); decide)]
theorem bytes_start (l : List Int) : CS.bytes l 0 = CS.start := by unfold CS.bytes; rw [if_pos (Nat.zero_le _)]; rfl

/-- What stands in the outer read: the variables, its Cur, and the box that holds it. -/
structure Deep (w0 w1 : World) (p : NP) (base g : Nat) (A : Option Addr) (c : Nat) (l : List Int) (s : CS) (CB : Nat) (kp : Option Addr) (inn f1 f2 : Int) (re be : Bool) (wr : World) : Prop where
  nest : Nest w0 wr p kp inn f1 f2 re be
  cur : IsCur wr g A c l s true
  cb : wr.heap[CB]? = some (.cells #[.pointer (some ⟨g, 0, none⟩)] 26 (0, 0))
  same : ∀ k, base ≤ k → k < w1.heap.size → k ≠ g → wr.heap[k]? = w1.heap[k]?
  size : w1.heap.size ≤ wr.heap.size
  ord : p.BE < base ∧ base ≤ g ∧ g < w1.heap.size ∧ w1.heap.size ≤ CB
  ab : 0 < l.length → ∀ ad, A = some ad → base ≤ ad.block ∧ ad.block < w1.heap.size

section
variable {w0 w1 wr w' : World} {p : NP} {base g : Nat} {A : Option Addr} {c : Nat} {l : List Int} {s : CS} {CB : Nat} {kp : Option Addr} {inn f1 f2 : Int} {re be : Bool}
theorem Deep.cbcell (h : Deep w0 w1 p base g A c l s CB kp inn f1 f2 re be wr) : wr.cell? ⟨CB, 0, none⟩ = some (.pointer (some ⟨g, 0, none⟩)) := by rw [cell_of_row _ _ _ _ 26 (0, 0) h.cb]; rfl
/-- The outer Cur's own step. -/
theorem Deep.step (h : Deep w0 w1 p base g A c l s CB kp inn f1 f2 re be wr) {s' : CS} (hc : IsCur w' g A c l s' true) (hg : wr.grownBy w' (some g)) : Deep w0 w1 p base g A c l s' CB kp inn f1 f2 re be w' := by
  have ho := h.ord
  exact { h with
    nest := h.nest.grown hg (by omega)
    cur := hc
    cb := (hg.block _ (Array.getElem?_eq_some_iff.1 h.cb).1 (fun e => by have := Option.some.inj e; omega)).trans h.cb
    same := fun k h1 h2 h3 => (hg.block k (Nat.lt_of_lt_of_le h2 h.size) (fun e => h3 (Option.some.inj e))).trans (h.same k h1 h2 h3)
    size := Nat.le_trans h.size hg.size }
/-- What changes only beyond all of it. -/
theorem Deep.far (h : Deep w0 w1 p base g A c l s CB kp inn f1 f2 re be wr) {g' : Nat} (hg : wr.grownBy w' (some g')) (hn : CB < g') : Deep w0 w1 p base g A c l s CB kp inn f1 f2 re be w' := by
  have ho := h.ord
  exact { h with
    nest := h.nest.grown hg (by omega)
    cur := h.cur.kept' hg (fun e => by have := Option.some.inj e; omega) (fun h0 ad e e2 => by have := Option.some.inj e2; have := h.ab h0 ad e; omega)
    cb := (hg.block _ (Array.getElem?_eq_some_iff.1 h.cb).1 (fun e => by have := Option.some.inj e; omega)).trans h.cb
    same := fun k h1 h2 h3 => (hg.block k (Nat.lt_of_lt_of_le h2 h.size) (fun e => by have := Option.some.inj e; omega)).trans (h.same k h1 h2 h3)
    size := Nat.le_trans h.size hg.size }
theorem Deep.later (h : Deep w0 w1 p base g A c l s CB kp inn f1 f2 re be wr) {B : Nat} (hb : Below B wr w') (hB : CB < B) : Deep w0 w1 p base g A c l s CB kp inn f1 f2 re be w' := by
  have ho := h.ord
  have hs : Sl w' A l.length l := by
    by_cases h0 : 0 < l.length
    · obtain ⟨b, off, e, hlt, _⟩ := h.cur.2.1.at 0 h0
      have hab := h.ab h0 _ e
      refine ⟨rfl, h.cur.2.1.2.1, .inr ⟨b, off, e, Nat.lt_of_lt_of_le hlt hb.size, fun i hi => ?_⟩⟩
      obtain ⟨b', off', e', _, hc⟩ := h.cur.2.1.at i hi
      rw [e] at e'
      cases e'
      exact (hb.cell (p := ⟨b, off + i, none⟩) (by show b < B; simp at hab; omega)).trans hc
    · exact ⟨rfl, h.cur.2.1.2.1, .inl (by omega)⟩
  exact { h with
    nest := h.nest.later hb (by omega)
    cur := ⟨(hb.block _ (by omega)).trans h.cur.1, hs, h.cur.2.2.1, h.cur.2.2.2⟩
    cb := (hb.block _ hB).trans h.cb
    same := fun k h1 h2 h3 => (hb.block k (by omega)).trans (h.same k h1 h2 h3)
    size := Nat.le_trans h.size hb.size }
theorem Deep.put_k (h : Deep w0 w1 p base g A c l s CB kp inn f1 f2 re be wr) (x : Option Addr) : Deep w0 w1 p base g A c l s CB x inn f1 f2 re be (wr.setCell ⟨p.K, 0, none⟩ (.pointer x)) := by
  have ho := h.ord
  have hn := h.nest.ord
  exact { h with
    nest := h.nest.put_k x
    cur := h.cur.kept' (grown_set wr p.K 0 _) (fun e => by have := Option.some.inj e; omega) (fun h0 ad e e2 => by have := Option.some.inj e2; have := h.ab h0 ad e; omega)
    cb := (heap_setCell_other _ _ _ _ (by show CB ≠ p.K; omega)).trans h.cb
    same := fun k h1 h2 h3 => (heap_setCell_other _ _ _ _ (by show k ≠ p.K; omega)).trans (h.same k h1 h2 h3)
    size := by simpa [World.setCell] using h.size }
theorem Deep.put_in (h : Deep w0 w1 p base g A c l s CB kp inn f1 f2 re be wr) (x : Int) : Deep w0 w1 p base g A c l s CB kp x f1 f2 re be (wr.setCell ⟨p.IN, 0, none⟩ (.int .i64 x)) := by
  have ho := h.ord
  have hn := h.nest.ord
  exact { h with
    nest := h.nest.put_in x
    cur := h.cur.kept' (grown_set wr p.IN 0 _) (fun e => by have := Option.some.inj e; omega) (fun h0 ad e e2 => by have := Option.some.inj e2; have := h.ab h0 ad e; omega)
    cb := (heap_setCell_other _ _ _ _ (by show CB ≠ p.IN; omega)).trans h.cb
    same := fun k h1 h2 h3 => (heap_setCell_other _ _ _ _ (by show k ≠ p.IN; omega)).trans (h.same k h1 h2 h3)
    size := by simpa [World.setCell] using h.size }
theorem Deep.put_f1 (h : Deep w0 w1 p base g A c l s CB kp inn f1 f2 re be wr) (x : Int) : Deep w0 w1 p base g A c l s CB kp inn x f2 re be (wr.setCell ⟨p.FA, 0, none⟩ (.int .i64 x)) := by
  have ho := h.ord
  have hn := h.nest.ord
  exact { h with
    nest := h.nest.put_f1 x
    cur := h.cur.kept' (grown_set wr p.FA 0 _) (fun e => by have := Option.some.inj e; omega) (fun h0 ad e e2 => by have := Option.some.inj e2; have := h.ab h0 ad e; omega)
    cb := (heap_setCell_other _ _ _ _ (by show CB ≠ p.FA; omega)).trans h.cb
    same := fun k h1 h2 h3 => (heap_setCell_other _ _ _ _ (by show k ≠ p.FA; omega)).trans (h.same k h1 h2 h3)
    size := by simpa [World.setCell] using h.size }
theorem Deep.put_f2 (h : Deep w0 w1 p base g A c l s CB kp inn f1 f2 re be wr) (x : Int) : Deep w0 w1 p base g A c l s CB kp inn f1 x re be (wr.setCell ⟨p.FA, 1, none⟩ (.int .i64 x)) := by
  have ho := h.ord
  have hn := h.nest.ord
  exact { h with
    nest := h.nest.put_f2 x
    cur := h.cur.kept' (grown_set wr p.FA 1 _) (fun e => by have := Option.some.inj e; omega) (fun h0 ad e e2 => by have := Option.some.inj e2; have := h.ab h0 ad e; omega)
    cb := (heap_setCell_other _ _ _ _ (by show CB ≠ p.FA; omega)).trans h.cb
    same := fun k h1 h2 h3 => (heap_setCell_other _ _ _ _ (by show k ≠ p.FA; omega)).trans (h.same k h1 h2 h3)
    size := by simpa [World.setCell] using h.size }
theorem Deep.put_re (h : Deep w0 w1 p base g A c l s CB kp inn f1 f2 re be wr) (x : Bool) : Deep w0 w1 p base g A c l s CB kp inn f1 f2 x be (wr.setCell ⟨p.RE, 0, none⟩ (.bool x)) := by
  have ho := h.ord
  have hn := h.nest.ord
  exact { h with
    nest := h.nest.put_re x
    cur := h.cur.kept' (grown_set wr p.RE 0 _) (fun e => by have := Option.some.inj e; omega) (fun h0 ad e e2 => by have := Option.some.inj e2; have := h.ab h0 ad e; omega)
    cb := (heap_setCell_other _ _ _ _ (by show CB ≠ p.RE; omega)).trans h.cb
    same := fun k h1 h2 h3 => (heap_setCell_other _ _ _ _ (by show k ≠ p.RE; omega)).trans (h.same k h1 h2 h3)
    size := by simpa [World.setCell] using h.size }
theorem Deep.put_be (h : Deep w0 w1 p base g A c l s CB kp inn f1 f2 re be wr) (x : Bool) : Deep w0 w1 p base g A c l s CB kp inn f1 f2 re x (wr.setCell ⟨p.BE, 0, none⟩ (.bool x)) := by
  have ho := h.ord
  have hn := h.nest.ord
  exact { h with
    nest := h.nest.put_be x
    cur := h.cur.kept' (grown_set wr p.BE 0 _) (fun e => by have := Option.some.inj e; omega) (fun h0 ad e e2 => by have := Option.some.inj e2; have := h.ab h0 ad e; omega)
    cb := (heap_setCell_other _ _ _ _ (by show CB ≠ p.BE; omega)).trans h.cb
    same := fun k h1 h2 h3 => (heap_setCell_other _ _ _ _ (by show k ≠ p.BE; omega)).trans (h.same k h1 h2 h3)
    size := by simpa [World.setCell] using h.size }
end
end Go.Proofs.Ytiikppiogglppaa

/-
 What the arguments' readings give: bytes, numbers, and two of each.
-/
import Derived.Test.YtngmgpmkjdacaaaGreatDoorMLnA
import Derived.WideShapes
import Derived.ProofKit
import Derived.OpenShut
import Derived.Deep.Slices
import Derived.Deep.Fields
import Derived.Deep.Strs
import Derived.ChangeSame
set_option linter.unusedSimpArgs false
set_option linter.unusedVariables false
namespace Go.Proofs.YtngmgpmkjdacaaaGreatDoor
set_option maxRecDepth 100000
open Go.RowKit Go.ChangeShapes Go.WideShapes Go.Deep

theorem tidy_of {W : World} {base len cap t e : Nat} {A : Option Addr} (ht : Tryz.prog.underlying t = some (.slice e)) (h : Value.okWide Tryz.prog W .any base t (.slice A len cap)) : Tidy A cap ∧ ∀ ad, A = some ad → ad.block < W.heap.size := by
 unfold Value.okWide at h
 rw [ht] at h
 unfold Cell.okWide at h
 rw [ht] at h
 unfold Cell.ok at h
 rw [ht] at h
 cases A with
 | none =>
  refine ⟨.inl ⟨rfl, ?_⟩, fun ad e => by cases e⟩
  cases cap with
  | zero => rfl
  | succ c => cases len <;> exact absurd h (by simp)
 | some a =>
  obtain ⟨b, o, spot⟩ := a
  have h3 := h.2.2
  obtain ⟨_, hs, r, cs, hsh, _⟩ := h3
  have hs' : spot = none := hs
  subst hs'
  refine ⟨.inr ⟨b, o, rfl⟩, fun ad e => ?_⟩
  cases e
  rcases Nat.lt_or_ge b W.heap.size with h4 | h4
  ·exact h4
  ·simp [World.shape?, Array.getElem?_eq_none h4] at hsh

theorem okWide_array {P : Program} {w : World} {r : Reach} {base : Nat} {t e : TypeId} {n : Nat} {v : Value} (ht : P.underlying t = some (.array n e)) (h : Value.okWide P w r base t v) : ∃ cs, v = .agg cs ∧ cs.size = P.cellsOf t := by
 unfold Value.okWide at h
 rw [ht] at h
 obtain ⟨cs, e, hs, _⟩ := h
 exact ⟨cs, e, hs⟩

section
variable (H : Type) (enc : TypeId × Value → H) (w : World) (base : Nat) (spare : Nat → Bool) (held : Bool) (fuel : Nat) (cs : List Value) (x : DataW H × List MemPlace)

theorem add_off {b off i : Nat} : (⟨b, off, none⟩ : Addr).add i = ⟨b, off + i, none⟩ := by
 unfold Addr.add
 by_cases h : i = 0
 ·subst h; simp
 ·simp [h]

theorem openBytes (h : DataW.trod enc Tryz.prog w base spare held fuel 22 cs = some x) : ∃ (l : List Int) (A : Option Addr) (C : Nat), cs = [.slice A l.length C] ∧ (l.length ≤ C ∧ (A = none → C = 0)) ∧ Sl w A l.length l := by
 rcases open_ints Tryz.underlying22 Tryz.underlying5 (by kernel_rfl) h with ⟨rfl, _⟩ | ⟨a, len, c, zs, rfl, _, hl, hm, hz, _, hcell, hwz⟩
 ·exact ⟨[], none, 0, rfl, ⟨Nat.le_refl _, fun _ => rfl⟩, sl_nil _ _⟩
 ·have hlen : len ≤ zs.length := by rw [hz]; split <;> omega
  have e : (zs.take len).length = len := by rw [List.length_take]; omega
  refine ⟨zs.take len, some a, c, by rw [e], ⟨by rw [e]; exact hl, fun h => by cases h⟩, rfl, fun z hz => wf_u8 (hwz z (List.mem_of_mem_take hz)), ?_⟩
  rw [e]
  by_cases h0 : len = 0
  ·exact .inl h0
  ·right
   obtain ⟨b, off, spot⟩ := a
   have hc := hcell 0 (by omega)
   have hspot : spot = none := by simpa [Addr.add] using World.cell?_spot hc
   subst hspot
   refine ⟨b, off, rfl, block_lt_of_cell hc, fun i hi => ?_⟩
   rw [getD_take zs len i hi, ← add_off]
   exact hcell i (by omega)

theorem openTwo (h : DataW.trod enc Tryz.prog w base spare held fuel 23 cs = some x) : ∃ p : List Int × List Int, ∃ (A0 : Option Addr) (C0 : Nat) (A1 : Option Addr) (C1 : Nat), cs = [.slice A0 p.1.length C0, .slice A1 p.2.length C1] ∧ (p.1.length ≤ C0 ∧ Sl w A0 p.1.length p.1) ∧ p.2.length ≤ C1 ∧ Sl w A1 p.2.length p.2 := by
 have hC : Tryz.prog.cellsOf 23 = 2 := by kernel_rfl
 have h1 : Tryz.prog.cellsOf 22 = 1 := by kernel_rfl
 obtain ⟨xs, m, _, _, hlen, hxl, hf⟩ := DataW.trod_array Tryz.underlying23 h
 match cs, hlen.trans hC with
 | [a, b], _ =>
  have e0 := hf 0 (by decide)
  have e1 := hf 1 (by decide)
  rw [h1] at e0 e1
  have hx0 : xs[0]? = some (xs[0]'(by omega)) := List.getElem?_eq_getElem (by omega)
  have hx1 : xs[1]? = some (xs[1]'(by omega)) := List.getElem?_eq_getElem (by omega)
  have t0 : DataW.trod enc Tryz.prog w base spare held m 22 [a] = some _ := (by simpa using e0 : DataW.trod enc Tryz.prog w base spare held m 22 [a] = xs[0]?).trans hx0
  have t1 : DataW.trod enc Tryz.prog w base spare held m 22 [b] = some _ := (by simpa using e1 : DataW.trod enc Tryz.prog w base spare held m 22 [b] = xs[1]?).trans hx1
  obtain ⟨l0, A0, C0, f0, g0, i0⟩ := openBytes H enc w base spare held m _ _ t0
  obtain ⟨l1, A1, C1, f1, g1, i1⟩ := openBytes H enc w base spare held m _ _ t1
  cases f0
  cases f1
  exact ⟨(l0, l1), A0, C0, A1, C1, rfl, ⟨g0.1, i0⟩, g1.1, i1⟩


end
theorem agg2 {cs : Array Value} {a b : Value} (h : (Value.agg cs).cells.toList = [a, b]) : cs = #[a, b] := by
 have e' : cs.toList = [a, b] := h
 exact Array.toList_inj.1 e'

theorem ct23 : Tryz.prog.cellTypes Tryz.prog.depth 23 = some [22, 22] := by kernel_rfl

theorem tidy_two {W : World} {base n0 c0 n1 c1 : Nat} {A0 A1 : Option Addr} (h : Value.okWide Tryz.prog W .any base 23 (.agg #[.slice A0 n0 c0, .slice A1 n1 c1])) :
  (Tidy A0 c0 ∧ ∀ ad, A0 = some ad → ad.block < W.heap.size) ∧ (Tidy A1 c1 ∧ ∀ ad, A1 = some ad → ad.block < W.heap.size) := by
 unfold Value.okWide at h
 rw [Tryz.underlying23] at h
 obtain ⟨cs, e, _, ts, hts, _, hall⟩ := h
 cases e
 rw [ct23] at hts
 cases hts
 obtain ⟨u0, e0, k0⟩ := hall 0 _ rfl
 obtain ⟨u1, e1, k1⟩ := hall 1 _ rfl
 cases e0
 cases e1
 exact ⟨tidy_of (base := base) (len := n0) Tryz.underlying22 (by unfold Value.okWide; rw [Tryz.underlying22]; exact k0), tidy_of (base := base) (len := n1) Tryz.underlying22 (by unfold Value.okWide; rw [Tryz.underlying22]; exact k1)⟩
end Go.Proofs.YtngmgpmkjdacaaaGreatDoor

/-
  The walk of the closure in crc.Combine that lets the table stand for twice as many steps.
-/
import Derived.Test.YtjbcflbhaehncaaTab
namespace Go.Proofs.Ytjbcflbhaehncaa
open Go.RowKit
open Crc (U U_lo U_hi bv)

/-- Block B is an array of 32 numbers, the first k of which are f's values at single bits. -/
def TabTo (w : World) (B k : Nat) (f : BitVec 32 → BitVec 32) : Prop :=
  ∃ cs : Array Value, w.heap[B]? = some (.cells cs 43 (0, 0)) ∧ cs.size = 32 ∧ (∀ j, j < k → cs[j]? = some (.int .u32 (U (f (1#32 <<< j))))) ∧ (∀ v ∈ cs, v.oneCell' = true)

theorem TabTo.is {w : World} {B : Nat} {f : BitVec 32 → BitVec 32} (h : TabTo w B 32 f) : IsTab w B f := by
  obtain ⟨cs, hg, _, hc, _⟩ := h
  intro j hj
  rw [cell_of_row w B j cs 43 (0, 0) hg]
  exact hc j hj

theorem TabTo.lt {w : World} {B k : Nat} {f : BitVec 32 → BitVec 32} (h : TabTo w B k f) : B < w.heap.size := by
  obtain ⟨cs, hg, _⟩ := h
  exact (Array.getElem?_eq_some_iff.1 hg).1

theorem TabTo.keep {w w' : World} {B k : Nat} {f : BitVec 32 → BitVec 32} (h : TabTo w B k f) (e : w'.heap[B]? = w.heap[B]?) : TabTo w' B k f := by
  obtain ⟨cs, hg, r⟩ := h
  exact ⟨cs, e.trans hg, r⟩

theorem TabTo.cell {w : World} {B k : Nat} {f : BitVec 32 → BitVec 32} (h : TabTo w B k f) (j : Nat) (hj : j < 32) : ∃ v, w.cell? ⟨B, j, none⟩ = some v ∧ w.frozen? ⟨B, j, none⟩ = false := by
  obtain ⟨cs, hg, hs, _⟩ := h
  refine ⟨cs[j]'(by omega), ?_, frozen_of_row w B j cs 43 hg⟩
  rw [cell_of_row w B j cs 43 (0, 0) hg, Array.getElem?_eq_getElem]

theorem TabTo.set {w : World} {B k : Nat} {f : BitVec 32 → BitVec 32} (h : TabTo w B k f) (hk : k < 32) : TabTo (w.setCell ⟨B, k, none⟩ (.int .u32 (U (f (1#32 <<< k))))) B (k + 1) f := by
  obtain ⟨cs, hg, hs, hc, ho⟩ := h
  refine ⟨_, heap_setCell_same w B k cs 43 _ hg, by simp [hs], ?_, ?_⟩
  · intro j hj
    by_cases e : j = k
    · subst e
      rw [Array.getElem?_setIfInBounds]; simp [hs, hk]
    · rw [Array.getElem?_setIfInBounds, if_neg (fun h => e h.symm)]
      exact hc j (by omega)
  · intro v hv
    obtain ⟨i, hi, rfl⟩ := Array.mem_iff_getElem.1 hv
    by_cases e : k = i
    · subst e; simp; rfl
    · rw [Array.getElem_setIfInBounds_ne (by simpa using hi) e]
      exact ho _ (Array.getElem_mem _)

theorem tabTo_new (w : World) (f : BitVec 32 → BitVec 32) : TabTo (w.alloc (.cells (Array.replicate 32 (.int .u32 0)) 43)) w.heap.size 0 f := by
  refine ⟨_, heap_alloc_new w _, by simp, fun j hj => by omega, ?_⟩
  intro v hv
  obtain rfl := Array.eq_of_mem_replicate hv
  rfl

theorem info43 : (Try.prog.info? 43).map (·.size) = some 32 := by kernel_rfl

/-- What twice does: the table stands for f behind f; only its block, and new ones, have turned. -/
def Twiced (w : World) (B : Nat) (f : BitVec 32 → BitVec 32) (e : Ending) (w' : World) : Prop :=
  e = .returned (.tuple #[]) ∧ TabTo w' B 32 (fun x => f (f x)) ∧ w.grownBy w' (some B)

set_option maxHeartbeats 400000 in
theorem twice_any (B : Nat) (f : BitVec 32 → BitVec 32) (hf : Crc.Lin f) (w : World) (ht : TabTo w B 32 f) :
    Calls Try.prog 20 #[.pointer (some ⟨B, 0, none⟩)] w (Twiced w B f) := by
  have hlt := ht.lt
  have HT := Lib.hid ht
  clear ht
  have HF := Lib.hid hf
  clear hf
  go_enter Try.func20, Try.ntmps20
  go_wp2
  go_loopw [3] (fun i wr => ∃ (k : Nat), k ≤ 32 ∧ i = .int .i64 k ∧ TabTo wr w.heap.size k (fun x => f (f x)) ∧ Below w.heap.size w wr) (fun i _ => 32 - (intOf i).toNat)
  case atStart => exact ⟨0, by omega, rfl, tabTo_new w _, (Below.refl _ _).alloc (Nat.le_refl _) _⟩
  case round =>
    obtain ⟨k, hk, rfl, HU, HB⟩ := hrel
    have HU' := Lib.hid HU
    have HB' := Lib.hid HB
    clear HU HB
    have hsz : w.heap.size < wr.heap.size := HU'.out.lt
    have HT2 : Hid (IsTab wr B f) := Lib.hid (HT.out.keep (HB'.out.block B hlt)).is
    by_cases hkl : k < 32
    · have hc := HT2.out k hkl
      obtain ⟨z, hz⟩ : ∃ z, z = f (1#32 <<< k) := ⟨_, rfl⟩
      rw [← hz] at hc
      have HZ := Lib.hid hz
      clear hz
      obtain ⟨vu, hcu, hfu⟩ := HU'.out.cell k hkl
      have hki : (k : Int) < 32 := by omega
      go_wp2_with (go_at_call 21; refine (of_any B f HF.out _ _ HT2.out).mono ?_; rintro e w' ⟨rfl, n, rfl⟩)
      go_roundw
      case rel =>
        refine ⟨k + 1, by omega, by go_num, ?_, ?_⟩
        · have := HU'.out.set hkl
          rw [← HZ.out] at this
          exact this
        · exact (HB'.out.setCell (p := ⟨w.heap.size, k, none⟩) (Nat.le_refl _) _).trans ⟨rfl, rfl, rfl, Nat.le_refl _, fun _ _ => rfl⟩
      case measure => simp [intOf]; omega
    · have hkl' : k = 32 := by omega
      subst hkl'
      obtain ⟨cs, hg, hs, hc, ho⟩ := HU'.out
      obtain ⟨ct, hgt, hst, hct, hot⟩ := (HT.out.keep (HB'.out.block B hlt))
      have h1 : cs.all (·.oneCell') = true := by rw [Array.all_eq_true']; exact ho
      have hi : (Try.prog.info? 43).map (·.size) = some cs.size := info43.trans (by rw [hs])
      have hst' : ct.size = cs.size := by rw [hst, hs]
      have HA := Lib.hid hg
      have HBt := Lib.hid hgt
      have HI := Lib.hid hi
      have HO := Lib.hid hst'
      have H1 := Lib.hid h1
      have HC := Lib.hid hc
      have HO2 := Lib.hid ho
      have HS := Lib.hid hs
      clear hg hgt hi hst' h1 hst hot hct hc ho hs
      go_wp2_with (first | (refine wpList_load_row rfl 43 _ rfl w.heap.size rfl 43 cs (0, 0) _ HA.out Try.underlying43 rfl HI.out ?_) | (refine wpList_store_row rfl 43 _ _ rfl B cs rfl rfl 43 ct HBt.out HI.out HO.out H1.out ?_))
      go_end0
      refine ⟨rfl, ⟨cs, setRow_heap wr B ct cs 43 (0, 0) HBt.out, HS.out, HC.out, HO2.out⟩, ?_⟩
      have hb := HB'.out
      exact ⟨hb.os, hb.tape, hb.output, by simpa using hb.size, fun j hj hne => (setRow_other wr B j cs (fun e => hne (by rw [e]))).trans (hb.block j hj)⟩
end Go.Proofs.Ytjbcflbhaehncaa

/-
  A Cur in memory, and what its methods do to it: New, At, Left, Fault, Fail.
-/
import Derived.Test.YtiikppiogglppaaBase
namespace Go.Proofs.Ytiikppiogglppaa
open Go.RowKit

/-- How far a Cur is, and what is wrong. -/
structure CS where
  n : Nat
  code : Int
  fat : Int

def CS.start : CS := ⟨0, 0, 0⟩
def CS.ok (s : CS) : Bool := s.code == 0
/-- What is wrong first stays. -/
def CS.fail (s : CS) (c a : Int) : CS := if s.code = 0 then (if c = 0 then s else ⟨s.n, c, a⟩) else s
def CS.fits (s : CS) (l : List Int) : Prop := s.n ≤ l.length ∧ l.length ≤ 1000 ∧ (s.code = 0 → s.fat = 0)

theorem CS.fits_start {l : List Int} (h : l.length ≤ 1000) : CS.start.fits l := ⟨Nat.zero_le _, h, fun _ => rfl⟩
theorem CS.fits_fail {s : CS} {l : List Int} (h : s.fits l) (c a : Int) : (s.fail c a).fits l := by
  unfold CS.fail
  split
  · split
    · exact h
    · rename_i h1 h2
      exact ⟨h.1, h.2.1, fun e => absurd e h2⟩
  · exact h

def curCells (A : Option Addr) (c : Nat) (l : List Int) (s : CS) (tr : Bool) : Array Value := #[.slice A l.length c, .int .i64 s.n, .int .i64 s.code, .int .i64 s.fat, .bool tr]
/-- Block g is a Cur over bytes that read as l. -/
def IsCur (w : World) (g : Nat) (A : Option Addr) (c : Nat) (l : List Int) (s : CS) (tr : Bool) : Prop :=
  w.heap[g]? = some (.cells (curCells A c l s tr) 64 (0, 0)) ∧ Sl w A l.length l ∧ (∀ ad, A = some ad → ad.block ≠ g) ∧ l.length ≤ c ∧ Tidy A c

theorem IsCur.lt {w : World} {g c : Nat} {A : Option Addr} {l : List Int} {s : CS} {tr : Bool} (h : IsCur w g A c l s tr) : g < w.heap.size := (Array.getElem?_eq_some_iff.1 h.1).1

theorem IsCur.cells {w : World} {g c : Nat} {A : Option Addr} {l : List Int} {s : CS} {tr : Bool} (h : IsCur w g A c l s tr) :
    w.cell? ⟨g, 0, none⟩ = some (.slice A l.length c) ∧ w.cell? ⟨g, 1, none⟩ = some (.int .i64 s.n) ∧ w.cell? ⟨g, 2, none⟩ = some (.int .i64 s.code) ∧ w.cell? ⟨g, 3, none⟩ = some (.int .i64 s.fat) ∧ w.cell? ⟨g, 4, none⟩ = some (.bool tr) := by
  refine ⟨?_, ?_, ?_, ?_, ?_⟩
  all_goals rw [cell_of_row _ g _ _ 64 (0, 0) h.1]; rfl

theorem IsCur.free {w : World} {g c : Nat} {A : Option Addr} {l : List Int} {s : CS} {tr : Bool} (h : IsCur w g A c l s tr) (j : Nat) : w.frozen? ⟨g, j, none⟩ = false := frozen_of_row w g j _ 64 h.1

/-- Another world in which the Cur's own block, and its bytes, stand as they stood. -/
theorem IsCur.kept {w w' : World} {g c : Nat} {A : Option Addr} {l : List Int} {s : CS} {tr : Bool} {row : Option Nat} (h : IsCur w g A c l s tr) (hg : w.grownBy w' row) (h1 : some g ≠ row) (h2 : ∀ ad, A = some ad → row ≠ some ad.block) : IsCur w' g A c l s tr :=
  ⟨(hg.block g h.lt h1).trans h.1, h.2.1.grown hg h2, h.2.2.1, h.2.2.2⟩

theorem IsCur.below {w w' : World} {g c : Nat} {A : Option Addr} {l : List Int} {s : CS} {tr : Bool} (h : IsCur w g A c l s tr) (hb : Below w.heap.size w w') : IsCur w' g A c l s tr :=
  ⟨(hb.block g h.lt).trans h.1, h.2.1.below hb, h.2.2.1, h.2.2.2⟩

theorem grown_below {w w' : World} {row : Option Nat} (hb : Below w.heap.size w w') : w.grownBy w' row := ⟨hb.os, hb.tape, hb.output, hb.size, fun k hk _ => hb.block k hk⟩
theorem grown_set (w : World) (g j : Nat) (v : Value) : w.grownBy (w.setCell ⟨g, j, none⟩ v) (some g) :=
  ⟨rfl, rfl, rfl, by simp [World.setCell], fun k _ hn => heap_setCell_other _ _ _ _ (fun e => hn (by rw [e]))⟩

/-- A store into the Cur's own block. -/
theorem IsCur.put_n {w : World} {g c : Nat} {A : Option Addr} {l : List Int} {s : CS} {tr : Bool} (h : IsCur w g A c l s tr) (n : Nat) :
    IsCur (w.setCell ⟨g, 1, none⟩ (.int .i64 (n : Int))) g A c l ⟨n, s.code, s.fat⟩ tr := by
  refine ⟨?_, h.2.1.grown (grown_set w g 1 _) (fun ad e => fun e2 => h.2.2.1 ad e (Option.some.inj e2).symm), h.2.2⟩
  rw [heap_setCell_same w g 1 _ 64 _ h.1]; rfl
theorem IsCur.put_fault {w : World} {g c : Nat} {A : Option Addr} {l : List Int} {s : CS} {tr : Bool} (h : IsCur w g A c l s tr) (x y : Int) :
    IsCur ((w.setCell ⟨g, 2, none⟩ (.int .i64 x)).setCell ⟨g, 3, none⟩ (.int .i64 y)) g A c l ⟨s.n, x, y⟩ tr := by
  have hne : ∀ ad, A = some ad → some g ≠ some ad.block := fun ad e e2 => h.2.2.1 ad e (Option.some.inj e2).symm
  refine ⟨?_, (h.2.1.grown (grown_set w g 2 _) hne).grown (grown_set _ g 3 _) hne, h.2.2⟩
  have h1 : (w.setCell ⟨g, 2, none⟩ (.int .i64 x)).heap[g]? = some (.cells #[.slice A l.length c, .int .i64 s.n, .int .i64 x, .int .i64 s.fat, .bool tr] 64 (0, 0)) := by rw [heap_setCell_same w g 2 _ 64 _ h.1]; rfl
  rw [heap_setCell_same _ g 3 _ 64 _ h1]; rfl
theorem IsCur.put_tried {w : World} {g c : Nat} {A : Option Addr} {l : List Int} {s : CS} {tr : Bool} (h : IsCur w g A c l s tr) (t : Bool) :
    IsCur (w.setCell ⟨g, 4, none⟩ (.bool t)) g A c l s t := by
  refine ⟨?_, h.2.1.grown (grown_set w g 4 _) (fun ad e => fun e2 => h.2.2.1 ad e (Option.some.inj e2).symm), h.2.2⟩
  rw [heap_setCell_same w g 4 _ 64 _ h.1]; rfl

theorem elem_nil {A : Option Addr} {w : World} {n : Nat} {l : List Int} (h : Sl w A n l) (hA : A = none) : n = 0 := by subst hA; exact h.none_nil

set_option maxHeartbeats 400000 in
/-- bytes.Clone: bytes of the call's own. -/
theorem clone_any (A : Option Addr) (n c : Nat) (l : List Int) (w : World) (hs : Sl w A n l) (hA : A = none → c = 0) (hn : n ≤ 1000) :
    Calls Try.prog 28 #[.slice A n c] w fun e w' => ∃ v, e = .returned v ∧ OwnB w' w.heap.size v n l ∧ Below w.heap.size w w' := by
  have HS := Lib.hid hs
  clear hs
  cases A with
  | none =>
    have h0 : n = 0 := HS.out.none_nil
    have hc := hA rfl
    subst h0 hc
    have hl : l = [] := List.length_eq_zero_iff.1 HS.out.1
    subst hl
    have hnil := fun w' => eql_nil none 0 0 w'
    go_enter Try.func28, Try.ntmps28
    go_wp2
    go_ret
    exact ⟨_, rfl, ⟨rfl, (by intro z hz; cases hz), World.ownsRow_nil _ _ _ _⟩, Below.refl _ _⟩
  | some ad =>
    have hnil := fun w' => eql_nil (some ad) n c w'
    go_enter Try.func28, Try.ntmps28
    go_wp2_with (at_builtin; refine append_bytes _ rfl _ _ rfl w.heap.size (.slice (some ⟨w.heap.size, 0, none⟩) 0 0) 0 [] rfl (ownB_made w w.heap.size (Nat.le_refl _)) (some ad) n c l rfl (HS.out.below ((Below.refl _ _).alloc (Nat.le_refl _) _)) (fun e => by cases e) (by omega) (by simp) ?_; intro v' w' hown hg hat)
    go_ret
    refine ⟨v', rfl, by simpa using hown, ((Below.refl _ _).alloc (Nat.le_refl _) _).grown hg (by simp) (fun k hk => ?_)⟩
    simp [Value.ownBlock] at hk
    omega

set_option maxHeartbeats 400000 in
/-- New: a Cur of its own, over bytes of its own. -/
theorem new_any (A : Option Addr) (n c : Nat) (l : List Int) (w : World) (hs : Sl w A n l) (hA : A = none → c = 0) (hn : n ≤ 1000) :
    Calls Try.prog 10 #[.slice A n c] w fun e w' => ∃ g A' c', e = .returned (.pointer (some ⟨g, 0, none⟩)) ∧ IsCur w' g A' c' l CS.start false ∧ w.heap.size ≤ g ∧ (∀ ad, A' = some ad → w.heap.size ≤ ad.block) ∧ Below w.heap.size w w' := by
  have hln := hs.1
  go_enter Try.func10, Try.ntmps10
  go_wp2_with fail
  refine (clone_any A n c l w hs hA hn).mono ?_
  rintro e w1 ⟨v, rfl, hown, hb⟩
  subst hln
  have hform : ∃ A' c', v = .slice A' l.length c' ∧ Sl w1 A' l.length l ∧ (∀ ad, A' = some ad → w.heap.size ≤ ad.block ∧ ad.block < w1.heap.size) ∧ l.length ≤ c' ∧ Tidy A' c' := by
    rcases hown.2.2.2 with ⟨rfl, h0⟩ | ⟨g, cap, cur, rfl, hbase, hg, hnc, _⟩
    · refine ⟨none, 0, by rw [h0], ?_, (fun ad e => by cases e), by omega, .inl ⟨rfl, rfl⟩⟩
      exact ⟨rfl, hown.2.1, .inl h0⟩
    · refine ⟨_, cap, rfl, OwnB.slice hown, (fun ad e => ?_), hnc, .inr ⟨_, _, rfl⟩⟩
      cases e
      exact ⟨hbase, (Array.getElem?_eq_some_iff.1 hg).1⟩
  obtain ⟨A', c', rfl, hsl, hblk, hlc, hnone⟩ := hform
  have HS := Lib.hid hsl
  have HB := Lib.hid hb
  have HK := Lib.hid hblk
  clear hown hsl hb hblk hs
  go_wp2
  go_ret
  refine ⟨w1.heap.size, A', c', rfl, ⟨heap_alloc_new w1 _, HS.out.below ((Below.refl _ _).alloc (Nat.le_refl _) _), fun ad e => by have := (HK.out ad e).2; omega, hlc, hnone⟩, HB.out.size, fun ad e => (HK.out ad e).1, HB.out.alloc HB.out.size _⟩

theorem at_any (w : World) (g : Nat) (A : Option Addr) (c : Nat) (l : List Int) (s : CS) (tr : Bool) (h : IsCur w g A c l s tr) :
    Calls Try.prog 25 #[.pointer (some ⟨g, 0, none⟩)] w fun e w' => e = .returned (.int .i64 s.n) ∧ Below w.heap.size w w' := by
  obtain ⟨c0, c1, c2, c3, c4⟩ := h.cells
  clear h
  go_enter Try.func25, Try.ntmps25
  go_wp2
  go_ret
  exact ⟨rfl, Below.refl _ _⟩

theorem left_any (w : World) (g : Nat) (A : Option Addr) (c : Nat) (l : List Int) (s : CS) (tr : Bool) (h : IsCur w g A c l s tr) (hf : s.fits l) :
    Calls Try.prog 19 #[.pointer (some ⟨g, 0, none⟩)] w fun e w' => e = .returned (.int .i64 ((l.length : Int) - s.n)) ∧ Below w.heap.size w w' := by
  obtain ⟨c0, c1, c2, c3, c4⟩ := h.cells
  have h1 := hf.1
  have h2 := hf.2.1
  clear h hf
  go_enter Try.func19, Try.ntmps19
  go_wp2
  go_quiet (fail)
  go_wp2
  go_ret
  exact ⟨rfl, below_drewN' (Below.refl _ _) _⟩

theorem info31 : (Try.prog.info? 31).map (·.size) = some 2 := by kernel_rfl

theorem fault_any (w : World) (g : Nat) (A : Option Addr) (c : Nat) (l : List Int) (s : CS) (tr : Bool) (h : IsCur w g A c l s tr) :
    Calls Try.prog 24 #[.pointer (some ⟨g, 0, none⟩)] w fun e w' => e = .returned (.agg #[.int .i64 s.code, .int .i64 s.fat]) ∧ Below w.heap.size w w' := by
  have hb := (Below.refl w.heap.size w).alloc (Nat.le_refl _) (.cells #[.int .i64 0, .int .i64 0] 31)
  obtain ⟨c0, c1, c2, c3, c4⟩ := (h.below hb).cells
  have HB := Lib.hid hb
  clear h hb
  go_enter Try.func24, Try.ntmps24
  go_wp2
  refine bodyPost_ret (results_cell_row rfl _ _ w.heap.size 31 #[.int .i64 s.code, .int .i64 s.fat] (0, 0) _ rfl (heap_alloc_new w _) Try.underlying31 rfl info31) rfl ⟨rfl, (Below.refl _ _).alloc (Nat.le_refl _) _⟩

theorem ok_any (w : World) (g : Nat) (A : Option Addr) (c : Nat) (l : List Int) (s : CS) (tr : Bool) (h : IsCur w g A c l s tr) (hf : s.fits l) :
    Calls Try.prog 29 #[.pointer (some ⟨g, 0, none⟩)] w fun e w' => e = .returned (.bool s.ok) ∧ Below w.heap.size w w' := by
  obtain ⟨c0, c1, c2, c3, c4⟩ := h.cells
  by_cases h0 : s.code = 0
  · have e1 : s.ok = true := by unfold CS.ok; rw [h0]; rfl
    rw [e1]
    rw [h0] at c2
    rw [hf.2.2 h0] at c3
    clear h hf h0 e1
    go_enter Try.func29, Try.ntmps29
    go_wp2
    go_ret
    exact ⟨rfl, Below.refl _ _⟩
  · have e1 : s.ok = false := by unfold CS.ok; exact beq_eq_false_iff_ne.mpr h0
    rw [e1]
    have e2 : (s.code == 0) = false := beq_eq_false_iff_ne.mpr h0
    clear h hf e1
    go_enter Try.func29, Try.ntmps29
    go_wp2
    go_ret
    exact ⟨by simp, Below.refl _ _⟩
end Go.Proofs.Ytiikppiogglppaa

/-
  The walks of NewTally, and of a Tally's Add and Counts: the lock is free ahead of the call, and behind it.
-/
import Derived.Test.YtigchloekolaoaaEventTallyCnt
import Derived.Test.YtigchloekolaoaaLocks
import Derived.Deep.RegionWith
import Derived.Deep.RegionHeld3
import Derived.Deep.AppendLies
import Derived.Deep.RegionLaw
import Derived.Defers
import Derived.Lib.Hide
namespace Go.Proofs.Ytigchloekolaoaa.PEventTally
open Go.RowKit Go.Proofs.YtigchloekolaoaaW.PrintWords Go.Proofs.YtigchloekolaoaaW.PrintLast Go.Proofs.YtigchloekolaoaaW.PrintMore
open Go.MuLone

/-- A tally whose lock is free, with its counts. -/
def tallyCells (s : Int) (c : C7) : Array Value := #[.int .i32 s, .int .u32 0, .int .i64 c.1, .int .i64 c.2.1, .int .i64 c.2.2.1, .int .i64 c.2.2.2.1, .int .i64 c.2.2.2.2.1, .int .i64 c.2.2.2.2.2.1, .int .i64 c.2.2.2.2.2.2]
def IsTally (w : World) (T : Nat) (c : C7) : Prop := w.heap[T]? = some (.cells (tallyCells 0 c) 75 (0, 0))


/-- Seven numbers stored, one behind the other. -/
def put7 (W : World) (g o : Nat) (c : C7) : World := (((((((W.setCell ⟨g, o, none⟩ (.int .i64 c.1)).setCell ⟨g, o + 1, none⟩ (.int .i64 c.2.1)).setCell ⟨g, o + 2, none⟩ (.int .i64 c.2.2.1)).setCell ⟨g, o + 3, none⟩ (.int .i64 c.2.2.2.1)).setCell ⟨g, o + 4, none⟩ (.int .i64 c.2.2.2.2.1)).setCell ⟨g, o + 5, none⟩ (.int .i64 c.2.2.2.2.2.1)).setCell ⟨g, o + 6, none⟩ (.int .i64 c.2.2.2.2.2.2))

theorem put7_other (W : World) (g o : Nat) (c : C7) (k : Nat) (hk : k ≠ g) : (put7 W g o c).heap[k]? = W.heap[k]? := by
  unfold put7
  repeat rw [heap_setCell_other _ _ _ _ hk]

theorem setCell_out (W : World) (a : Addr) (v : Value) : (W.setCell a v).os = W.os ∧ (W.setCell a v).tape = W.tape ∧ (W.setCell a v).output = W.output := ⟨rfl, rfl, rfl⟩

theorem put7_out (W : World) (g o : Nat) (c : C7) : (put7 W g o c).os = W.os ∧ (put7 W g o c).tape = W.tape ∧ (put7 W g o c).output = W.output := by
  unfold put7
  simp only [(setCell_out _ _ _).1, (setCell_out _ _ _).2.1, (setCell_out _ _ _).2.2, and_self]

theorem put7_size (W : World) (g o : Nat) (c : C7) : (put7 W g o c).heap.size = W.heap.size := by
  unfold put7; simp [World.setCell]

theorem put7_row (W : World) (g : Nat) (c : C7) (z0 z1 z2 z3 z4 z5 z6 : Value) (hg : W.heap[g]? = some (.cells #[z0, z1, z2, z3, z4, z5, z6] 24 (0, 0))) : (put7 W g 0 c).heap[g]? = some (.cells #[.int .i64 c.1, .int .i64 c.2.1, .int .i64 c.2.2.1, .int .i64 c.2.2.2.1, .int .i64 c.2.2.2.2.1, .int .i64 c.2.2.2.2.2.1, .int .i64 c.2.2.2.2.2.2] 24 (0, 0)) := by
  unfold put7
  have h0 : (W.setCell ⟨g, 0, none⟩ (.int .i64 c.1)).heap[g]? = some (.cells #[.int .i64 c.1, z1, z2, z3, z4, z5, z6] 24 (0, 0)) := by rw [heap_setCell_same _ g 0 _ 24 _ hg]; rfl
  have h1 : ((W.setCell ⟨g, 0, none⟩ (.int .i64 c.1)).setCell ⟨g, 1, none⟩ (.int .i64 c.2.1)).heap[g]? = some (.cells #[.int .i64 c.1, .int .i64 c.2.1, z2, z3, z4, z5, z6] 24 (0, 0)) := by rw [heap_setCell_same _ g 1 _ 24 _ h0]; rfl
  have h2 : (((W.setCell ⟨g, 0, none⟩ (.int .i64 c.1)).setCell ⟨g, 1, none⟩ (.int .i64 c.2.1)).setCell ⟨g, 2, none⟩ (.int .i64 c.2.2.1)).heap[g]? = some (.cells #[.int .i64 c.1, .int .i64 c.2.1, .int .i64 c.2.2.1, z3, z4, z5, z6] 24 (0, 0)) := by rw [heap_setCell_same _ g 2 _ 24 _ h1]; rfl
  have h3 : ((((W.setCell ⟨g, 0, none⟩ (.int .i64 c.1)).setCell ⟨g, 1, none⟩ (.int .i64 c.2.1)).setCell ⟨g, 2, none⟩ (.int .i64 c.2.2.1)).setCell ⟨g, 3, none⟩ (.int .i64 c.2.2.2.1)).heap[g]? = some (.cells #[.int .i64 c.1, .int .i64 c.2.1, .int .i64 c.2.2.1, .int .i64 c.2.2.2.1, z4, z5, z6] 24 (0, 0)) := by rw [heap_setCell_same _ g 3 _ 24 _ h2]; rfl
  have h4 : (((((W.setCell ⟨g, 0, none⟩ (.int .i64 c.1)).setCell ⟨g, 1, none⟩ (.int .i64 c.2.1)).setCell ⟨g, 2, none⟩ (.int .i64 c.2.2.1)).setCell ⟨g, 3, none⟩ (.int .i64 c.2.2.2.1)).setCell ⟨g, 4, none⟩ (.int .i64 c.2.2.2.2.1)).heap[g]? = some (.cells #[.int .i64 c.1, .int .i64 c.2.1, .int .i64 c.2.2.1, .int .i64 c.2.2.2.1, .int .i64 c.2.2.2.2.1, z5, z6] 24 (0, 0)) := by rw [heap_setCell_same _ g 4 _ 24 _ h3]; rfl
  have h5 : ((((((W.setCell ⟨g, 0, none⟩ (.int .i64 c.1)).setCell ⟨g, 1, none⟩ (.int .i64 c.2.1)).setCell ⟨g, 2, none⟩ (.int .i64 c.2.2.1)).setCell ⟨g, 3, none⟩ (.int .i64 c.2.2.2.1)).setCell ⟨g, 4, none⟩ (.int .i64 c.2.2.2.2.1)).setCell ⟨g, 5, none⟩ (.int .i64 c.2.2.2.2.2.1)).heap[g]? = some (.cells #[.int .i64 c.1, .int .i64 c.2.1, .int .i64 c.2.2.1, .int .i64 c.2.2.2.1, .int .i64 c.2.2.2.2.1, .int .i64 c.2.2.2.2.2.1, z6] 24 (0, 0)) := by rw [heap_setCell_same _ g 5 _ 24 _ h4]; rfl
  have h6 : (((((((W.setCell ⟨g, 0, none⟩ (.int .i64 c.1)).setCell ⟨g, 1, none⟩ (.int .i64 c.2.1)).setCell ⟨g, 2, none⟩ (.int .i64 c.2.2.1)).setCell ⟨g, 3, none⟩ (.int .i64 c.2.2.2.1)).setCell ⟨g, 4, none⟩ (.int .i64 c.2.2.2.2.1)).setCell ⟨g, 5, none⟩ (.int .i64 c.2.2.2.2.2.1)).setCell ⟨g, 6, none⟩ (.int .i64 c.2.2.2.2.2.2)).heap[g]? = some (.cells #[.int .i64 c.1, .int .i64 c.2.1, .int .i64 c.2.2.1, .int .i64 c.2.2.2.1, .int .i64 c.2.2.2.2.1, .int .i64 c.2.2.2.2.2.1, .int .i64 c.2.2.2.2.2.2] 24 (0, 0)) := by rw [heap_setCell_same _ g 6 _ 24 _ h5]; rfl
  exact h6

theorem put7_tally (W : World) (g : Nat) (s : Int) (b c : C7) (hg : W.heap[g]? = some (.cells (tallyCells s b) 75 (0, 0))) : (put7 W g 2 c).heap[g]? = some (.cells (tallyCells s c) 75 (0, 0)) := by
  unfold put7
  have h0 : (W.setCell ⟨g, 2, none⟩ (.int .i64 c.1)).heap[g]? = some (.cells #[.int .i32 s, .int .u32 0, .int .i64 c.1, .int .i64 b.2.1, .int .i64 b.2.2.1, .int .i64 b.2.2.2.1, .int .i64 b.2.2.2.2.1, .int .i64 b.2.2.2.2.2.1, .int .i64 b.2.2.2.2.2.2] 75 (0, 0)) := by rw [heap_setCell_same _ g 2 _ 75 _ hg]; rfl
  have h1 : ((W.setCell ⟨g, 2, none⟩ (.int .i64 c.1)).setCell ⟨g, 3, none⟩ (.int .i64 c.2.1)).heap[g]? = some (.cells #[.int .i32 s, .int .u32 0, .int .i64 c.1, .int .i64 c.2.1, .int .i64 b.2.2.1, .int .i64 b.2.2.2.1, .int .i64 b.2.2.2.2.1, .int .i64 b.2.2.2.2.2.1, .int .i64 b.2.2.2.2.2.2] 75 (0, 0)) := by rw [heap_setCell_same _ g 3 _ 75 _ h0]; rfl
  have h2 : (((W.setCell ⟨g, 2, none⟩ (.int .i64 c.1)).setCell ⟨g, 3, none⟩ (.int .i64 c.2.1)).setCell ⟨g, 4, none⟩ (.int .i64 c.2.2.1)).heap[g]? = some (.cells #[.int .i32 s, .int .u32 0, .int .i64 c.1, .int .i64 c.2.1, .int .i64 c.2.2.1, .int .i64 b.2.2.2.1, .int .i64 b.2.2.2.2.1, .int .i64 b.2.2.2.2.2.1, .int .i64 b.2.2.2.2.2.2] 75 (0, 0)) := by rw [heap_setCell_same _ g 4 _ 75 _ h1]; rfl
  have h3 : ((((W.setCell ⟨g, 2, none⟩ (.int .i64 c.1)).setCell ⟨g, 3, none⟩ (.int .i64 c.2.1)).setCell ⟨g, 4, none⟩ (.int .i64 c.2.2.1)).setCell ⟨g, 5, none⟩ (.int .i64 c.2.2.2.1)).heap[g]? = some (.cells #[.int .i32 s, .int .u32 0, .int .i64 c.1, .int .i64 c.2.1, .int .i64 c.2.2.1, .int .i64 c.2.2.2.1, .int .i64 b.2.2.2.2.1, .int .i64 b.2.2.2.2.2.1, .int .i64 b.2.2.2.2.2.2] 75 (0, 0)) := by rw [heap_setCell_same _ g 5 _ 75 _ h2]; rfl
  have h4 : (((((W.setCell ⟨g, 2, none⟩ (.int .i64 c.1)).setCell ⟨g, 3, none⟩ (.int .i64 c.2.1)).setCell ⟨g, 4, none⟩ (.int .i64 c.2.2.1)).setCell ⟨g, 5, none⟩ (.int .i64 c.2.2.2.1)).setCell ⟨g, 6, none⟩ (.int .i64 c.2.2.2.2.1)).heap[g]? = some (.cells #[.int .i32 s, .int .u32 0, .int .i64 c.1, .int .i64 c.2.1, .int .i64 c.2.2.1, .int .i64 c.2.2.2.1, .int .i64 c.2.2.2.2.1, .int .i64 b.2.2.2.2.2.1, .int .i64 b.2.2.2.2.2.2] 75 (0, 0)) := by rw [heap_setCell_same _ g 6 _ 75 _ h3]; rfl
  have h5 : ((((((W.setCell ⟨g, 2, none⟩ (.int .i64 c.1)).setCell ⟨g, 3, none⟩ (.int .i64 c.2.1)).setCell ⟨g, 4, none⟩ (.int .i64 c.2.2.1)).setCell ⟨g, 5, none⟩ (.int .i64 c.2.2.2.1)).setCell ⟨g, 6, none⟩ (.int .i64 c.2.2.2.2.1)).setCell ⟨g, 7, none⟩ (.int .i64 c.2.2.2.2.2.1)).heap[g]? = some (.cells #[.int .i32 s, .int .u32 0, .int .i64 c.1, .int .i64 c.2.1, .int .i64 c.2.2.1, .int .i64 c.2.2.2.1, .int .i64 c.2.2.2.2.1, .int .i64 c.2.2.2.2.2.1, .int .i64 b.2.2.2.2.2.2] 75 (0, 0)) := by rw [heap_setCell_same _ g 7 _ 75 _ h4]; rfl
  have h6 : (((((((W.setCell ⟨g, 2, none⟩ (.int .i64 c.1)).setCell ⟨g, 3, none⟩ (.int .i64 c.2.1)).setCell ⟨g, 4, none⟩ (.int .i64 c.2.2.1)).setCell ⟨g, 5, none⟩ (.int .i64 c.2.2.2.1)).setCell ⟨g, 6, none⟩ (.int .i64 c.2.2.2.2.1)).setCell ⟨g, 7, none⟩ (.int .i64 c.2.2.2.2.2.1)).setCell ⟨g, 8, none⟩ (.int .i64 c.2.2.2.2.2.2)).heap[g]? = some (.cells #[.int .i32 s, .int .u32 0, .int .i64 c.1, .int .i64 c.2.1, .int .i64 c.2.2.1, .int .i64 c.2.2.2.1, .int .i64 c.2.2.2.2.1, .int .i64 c.2.2.2.2.2.1, .int .i64 c.2.2.2.2.2.2] 75 (0, 0)) := by rw [heap_setCell_same _ g 8 _ 75 _ h5]; rfl
  exact h6

theorem counts_end (w W1 : World) (T : Nat) (c : C7) (hlt : T < w.heap.size) (g1 : W1.heap[T]? = some (.cells (tallyCells 1 c) 75 (0, 0)))
    (g2 : W1.heap[w.heap.size]? = some (.cells #[.int .i64 0, .int .i64 0, .int .i64 0, .int .i64 0, .int .i64 0, .int .i64 0, .int .i64 0] 24 (0, 0))) (gg : w.grownBy W1 (some T)) :
    (put7 W1 w.heap.size 0 c).cell? ⟨T, 0, none⟩ = some (.int .i32 1) ∧ (put7 W1 w.heap.size 0 c).frozen? ⟨T, 0, none⟩ = false ∧
    ((put7 W1 w.heap.size 0 c).setCell ⟨T, 0, none⟩ (.int .i32 0)).heap[w.heap.size]? = some (.cells #[.int .i64 c.1, .int .i64 c.2.1, .int .i64 c.2.2.1, .int .i64 c.2.2.2.1, .int .i64 c.2.2.2.2.1, .int .i64 c.2.2.2.2.2.1, .int .i64 c.2.2.2.2.2.2] 24 (0, 0)) ∧
    IsTally ((put7 W1 w.heap.size 0 c).setCell ⟨T, 0, none⟩ (.int .i32 0)) T c ∧ w.grownBy ((put7 W1 w.heap.size 0 c).setCell ⟨T, 0, none⟩ (.int .i32 0)) (some T) := by
  have hT : (put7 W1 w.heap.size 0 c).heap[T]? = some (.cells (tallyCells 1 c) 75 (0, 0)) := (put7_other W1 w.heap.size 0 c T (by omega)).trans g1
  have hR : (put7 W1 w.heap.size 0 c).heap[w.heap.size]? = some (.cells #[.int .i64 c.1, .int .i64 c.2.1, .int .i64 c.2.2.1, .int .i64 c.2.2.2.1, .int .i64 c.2.2.2.2.1, .int .i64 c.2.2.2.2.2.1, .int .i64 c.2.2.2.2.2.2] 24 (0, 0)) := put7_row W1 w.heap.size c _ _ _ _ _ _ _ g2
  have hos : (put7 W1 w.heap.size 0 c).os = W1.os ∧ (put7 W1 w.heap.size 0 c).tape = W1.tape ∧ (put7 W1 w.heap.size 0 c).output = W1.output := put7_out W1 w.heap.size 0 c
  have hsz := put7_size W1 w.heap.size 0 c
  have hoth := put7_other W1 w.heap.size 0 c
  generalize put7 W1 w.heap.size 0 c = V at *
  refine ⟨by rw [cell_of_row _ T 0 _ 75 (0, 0) hT]; rfl, frozen_of_row _ T 0 _ 75 hT, (heap_setCell_other _ _ _ _ (by show w.heap.size ≠ T; omega)).trans hR, (by unfold IsTally; rw [heap_setCell_same _ T 0 _ 75 _ hT]; rfl), ?_⟩
  refine ⟨hos.1.trans gg.os, hos.2.1.trans gg.tape, hos.2.2.trans gg.output, ?_, fun k hk hn => ?_⟩
  · have := gg.size
    simp only [World.setCell, Array.size_modify]
    omega
  · refine (heap_setCell_other _ _ _ _ ?_).trans ((hoth k (by omega)).trans (gg.block k hk hn))
    intro e
    exact hn (by rw [e])

theorem info24 : (Try.prog.info? 24).map (·.size) = some 7 := by kernel_rfl

set_option maxHeartbeats 400000 in
theorem new_any (w : World) : Calls Try.prog 22 #[] w fun e w' => e = .returned (.pointer (some ⟨w.heap.size, 0, none⟩)) ∧ w' = w.alloc (.cells (tallyCells 0 zero7) 75) := by
  go_enter Try.func22, Try.ntmps22
  go_wp2
  go_ret
  exact ⟨rfl, rfl⟩

set_option maxHeartbeats 400000 in
theorem add_nil (v : Value) (w : World) : Calls Try.prog 20 #[.pointer none, v] w fun e w' => e = .returned (.int .i64 2) ∧ w = w' := by
  go_enter_defers Try.func20, Try.ntmps20
  go_wp2
  exact ⟨_, results_tmp rfl _ _ _, rfl, rfl⟩

set_option maxHeartbeats 400000 in
theorem counts_nil (w : World) : Calls Try.prog 21 #[.pointer none] w fun e w' => e = .returned (.agg #[.int .i64 0, .int .i64 0, .int .i64 0, .int .i64 0, .int .i64 0, .int .i64 0, .int .i64 0]) ∧ Below w.heap.size w w' := by
  go_enter_defers Try.func21, Try.ntmps21
  go_wp2
  refine ⟨_, results_cell_row rfl _ _ w.heap.size 24 #[.int .i64 0, .int .i64 0, .int .i64 0, .int .i64 0, .int .i64 0, .int .i64 0, .int .i64 0] (0, 0) _ rfl (heap_alloc_new w _) Try.underlying24 rfl info24, rfl, (Below.refl _ _).alloc (Nat.le_refl _) _⟩

set_option maxRecDepth 100000 in
set_option maxHeartbeats 1000000 in
theorem counts_any (T : Nat) (c : C7) (w : World) (ht : IsTally w T c) : Calls Try.prog 21 #[.pointer (some ⟨T, 0, none⟩)] w fun e w' => e = .returned (.agg #[.int .i64 c.1, .int .i64 c.2.1, .int .i64 c.2.2.1, .int .i64 c.2.2.2.1, .int .i64 c.2.2.2.2.1, .int .i64 c.2.2.2.2.2.1, .int .i64 c.2.2.2.2.2.2]) ∧ IsTally w' T c ∧ w.grownBy w' (some T) := by
  have hlt : T < w.heap.size := (Array.getElem?_eq_some_iff.1 ht).1
  have hw1 : (w.alloc (.cells #[.int .i64 0, .int .i64 0, .int .i64 0, .int .i64 0, .int .i64 0, .int .i64 0, .int .i64 0] 24)).heap[T]? = some (.cells (tallyCells 0 c) 75 (0, 0)) := (Below.heap_alloc w _ T hlt).trans ht
  have l1 : (w.alloc (.cells #[.int .i64 0, .int .i64 0, .int .i64 0, .int .i64 0, .int .i64 0, .int .i64 0, .int .i64 0] 24)).cell? ⟨T, 0, none⟩ = some (.int .i32 0) := by rw [cell_of_row _ T 0 _ 75 (0, 0) hw1]; rfl
  have l2 : (w.alloc (.cells #[.int .i64 0, .int .i64 0, .int .i64 0, .int .i64 0, .int .i64 0, .int .i64 0, .int .i64 0] 24)).frozen? ⟨T, 0, none⟩ = false := frozen_of_row _ T 0 _ 75 hw1
  go_enter_defers Try.func21, Try.ntmps21
  go_wp2_with fail
  refine (lock_free (L := muLink) muLib ⟨T, 0, none⟩ _ l1 l2).mono ?_
  rintro e W1 ⟨rfl, hW1⟩
  have g1 : W1.heap[T]? = some (.cells (tallyCells 1 c) 75 (0, 0)) := by
    rw [hW1]
    exact heap_setCell_same _ T 0 _ 75 _ hw1
  have g2 : W1.heap[w.heap.size]? = some (.cells #[.int .i64 0, .int .i64 0, .int .i64 0, .int .i64 0, .int .i64 0, .int .i64 0, .int .i64 0] 24 (0, 0)) := by
    rw [hW1]
    exact (heap_setCell_other _ _ _ _ (by show w.heap.size ≠ T; omega)).trans (heap_alloc_new w _)
  have gg : (w.grownBy W1 (some T)) := by
    rw [hW1]
    exact ⟨rfl, rfl, rfl, by simp [World.setCell], fun k hk hne => (heap_setCell_other _ _ _ _ (fun e => hne (by rw [e]))).trans (Below.heap_alloc w _ k hk)⟩
  have gg' := Lib.hid gg
  clear hW1 hw1 l1 l2 gg
  have gg := gg'
  clear gg'
  have c2 : W1.cell? ⟨T, 2, none⟩ = some (.int .i64 c.1) := by rw [cell_of_row _ T 2 _ 75 (0, 0) g1]; rfl
  have c3 : W1.cell? ⟨T, 3, none⟩ = some (.int .i64 c.2.1) := by rw [cell_of_row _ T 3 _ 75 (0, 0) g1]; rfl
  have c4 : W1.cell? ⟨T, 4, none⟩ = some (.int .i64 c.2.2.1) := by rw [cell_of_row _ T 4 _ 75 (0, 0) g1]; rfl
  have c5 : W1.cell? ⟨T, 5, none⟩ = some (.int .i64 c.2.2.2.1) := by rw [cell_of_row _ T 5 _ 75 (0, 0) g1]; rfl
  have c6 : W1.cell? ⟨T, 6, none⟩ = some (.int .i64 c.2.2.2.2.1) := by rw [cell_of_row _ T 6 _ 75 (0, 0) g1]; rfl
  have c7 : W1.cell? ⟨T, 7, none⟩ = some (.int .i64 c.2.2.2.2.2.1) := by rw [cell_of_row _ T 7 _ 75 (0, 0) g1]; rfl
  have c8 : W1.cell? ⟨T, 8, none⟩ = some (.int .i64 c.2.2.2.2.2.2) := by rw [cell_of_row _ T 8 _ 75 (0, 0) g1]; rfl
  have z0 : W1.cell? ⟨w.heap.size, 0, none⟩ = some (.int .i64 0) := by rw [cell_of_row _ w.heap.size 0 _ 24 (0, 0) g2]; rfl
  have f0 : W1.frozen? ⟨w.heap.size, 0, none⟩ = false := frozen_of_row _ w.heap.size 0 _ 24 g2
  have z1 : W1.cell? ⟨w.heap.size, 1, none⟩ = some (.int .i64 0) := by rw [cell_of_row _ w.heap.size 1 _ 24 (0, 0) g2]; rfl
  have f1 : W1.frozen? ⟨w.heap.size, 1, none⟩ = false := frozen_of_row _ w.heap.size 1 _ 24 g2
  have z2 : W1.cell? ⟨w.heap.size, 2, none⟩ = some (.int .i64 0) := by rw [cell_of_row _ w.heap.size 2 _ 24 (0, 0) g2]; rfl
  have f2 : W1.frozen? ⟨w.heap.size, 2, none⟩ = false := frozen_of_row _ w.heap.size 2 _ 24 g2
  have z3 : W1.cell? ⟨w.heap.size, 3, none⟩ = some (.int .i64 0) := by rw [cell_of_row _ w.heap.size 3 _ 24 (0, 0) g2]; rfl
  have f3 : W1.frozen? ⟨w.heap.size, 3, none⟩ = false := frozen_of_row _ w.heap.size 3 _ 24 g2
  have z4 : W1.cell? ⟨w.heap.size, 4, none⟩ = some (.int .i64 0) := by rw [cell_of_row _ w.heap.size 4 _ 24 (0, 0) g2]; rfl
  have f4 : W1.frozen? ⟨w.heap.size, 4, none⟩ = false := frozen_of_row _ w.heap.size 4 _ 24 g2
  have z5 : W1.cell? ⟨w.heap.size, 5, none⟩ = some (.int .i64 0) := by rw [cell_of_row _ w.heap.size 5 _ 24 (0, 0) g2]; rfl
  have f5 : W1.frozen? ⟨w.heap.size, 5, none⟩ = false := frozen_of_row _ w.heap.size 5 _ 24 g2
  have z6 : W1.cell? ⟨w.heap.size, 6, none⟩ = some (.int .i64 0) := by rw [cell_of_row _ w.heap.size 6 _ 24 (0, 0) g2]; rfl
  have f6 : W1.frozen? ⟨w.heap.size, 6, none⟩ = false := frozen_of_row _ w.heap.size 6 _ 24 g2
  have hne : ¬ w.heap.size = T := by omega
  have G1 := Lib.hid g1
  have G2 := Lib.hid g2
  clear g1 g2
  go_wp2
  show bodyPostD _ _ _ _ _ (put7 W1 w.heap.size 0 c)
  have HEND := Lib.hid (counts_end w W1 T c hlt G1.out G2.out gg.out)
  refine leaves_cons (f := 37) (args := #[.pointer (some ⟨T, 0, none⟩)]) (by simp) (by simp [go_sem]) ?_
  refine (unlock_deferred (L := muLink) muLib ⟨T, 0, none⟩ .returning _ HEND.out.1 HEND.out.2.1).mono ?_
  rintro e u' w'' ⟨rfl, rfl, rfl⟩
  exact ⟨_, results_cell_row rfl _ _ w.heap.size 24 #[.int .i64 c.1, .int .i64 c.2.1, .int .i64 c.2.2.1, .int .i64 c.2.2.2.1, .int .i64 c.2.2.2.2.1, .int .i64 c.2.2.2.2.2.1, .int .i64 c.2.2.2.2.2.2] (0, 0) _ rfl HEND.out.2.2.1 Try.underlying24 rfl info24, rfl, HEND.out.2.2.2⟩

theorem bcell {W w1 : World} (hb : Below W.heap.size W w1) : (∀ b o, b < W.heap.size → w1.cell? ⟨b, o, none⟩ = W.cell? ⟨b, o, none⟩) ∧ (∀ b o, b < W.heap.size → w1.frozen? ⟨b, o, none⟩ = W.frozen? ⟨b, o, none⟩) :=
  ⟨fun b o h => hb.cell (p := ⟨b, o, none⟩) h, fun b o h => hb.frozen (p := ⟨b, o, none⟩) h⟩

theorem count_calls (A : Option Addr) (cc : Nat) (l : List S46) (w : World) (hr : Kd.C k46 w A l.length l) (hc : l.length ≤ cc) (hl : l.length ≤ 1000) :
    Calls Try.prog 11 #[.slice A l.length cc] w fun e w' => e = .returned (.agg #[.int .i64 (cnt l zero7).1, .int .i64 (cnt l zero7).2.1, .int .i64 (cnt l zero7).2.2.1, .int .i64 (cnt l zero7).2.2.2.1, .int .i64 (cnt l zero7).2.2.2.2.1, .int .i64 (cnt l zero7).2.2.2.2.2.1, .int .i64 (cnt l zero7).2.2.2.2.2.2]) ∧ Below w.heap.size w w' := by
  obtain ⟨k, hk⟩ := (count_ev l hl).rounds
  exact event_Count.calls k A cc l _ _ _ _ _ _ _ w hr hc hk

theorem add_calls (a b : C7) (w : World) :
    Calls Try.prog 13 #[.agg #[.int .i64 a.1, .int .i64 a.2.1, .int .i64 a.2.2.1, .int .i64 a.2.2.2.1, .int .i64 a.2.2.2.2.1, .int .i64 a.2.2.2.2.2.1, .int .i64 a.2.2.2.2.2.2], .agg #[.int .i64 b.1, .int .i64 b.2.1, .int .i64 b.2.2.1, .int .i64 b.2.2.2.1, .int .i64 b.2.2.2.2.1, .int .i64 b.2.2.2.2.2.1, .int .i64 b.2.2.2.2.2.2]] w fun e w' => e = .returned (.agg #[.int .i64 (add7 a b).1, .int .i64 (add7 a b).2.1, .int .i64 (add7 a b).2.2.1, .int .i64 (add7 a b).2.2.2.1, .int .i64 (add7 a b).2.2.2.2.1, .int .i64 (add7 a b).2.2.2.2.2.1, .int .i64 (add7 a b).2.2.2.2.2.2]) ∧ Below w.heap.size w w' :=
  event_Add.calls _ _ _ _ _ _ _ _ _ _ _ _ _ _ _ _ _ _ _ _ _ w rfl

theorem tally_cells (w : World) (T : Nat) (s : Int) (c : C7) (h : w.heap[T]? = some (.cells (tallyCells s c) 75 (0, 0))) : (w.cell? ⟨T, 2, none⟩ = some (.int .i64 c.1) ∧ w.cell? ⟨T, 3, none⟩ = some (.int .i64 c.2.1) ∧ w.cell? ⟨T, 4, none⟩ = some (.int .i64 c.2.2.1) ∧ w.cell? ⟨T, 5, none⟩ = some (.int .i64 c.2.2.2.1) ∧ w.cell? ⟨T, 6, none⟩ = some (.int .i64 c.2.2.2.2.1) ∧ w.cell? ⟨T, 7, none⟩ = some (.int .i64 c.2.2.2.2.2.1) ∧ w.cell? ⟨T, 8, none⟩ = some (.int .i64 c.2.2.2.2.2.2)) ∧ (w.frozen? ⟨T, 2, none⟩ = false ∧ w.frozen? ⟨T, 3, none⟩ = false ∧ w.frozen? ⟨T, 4, none⟩ = false ∧ w.frozen? ⟨T, 5, none⟩ = false ∧ w.frozen? ⟨T, 6, none⟩ = false ∧ w.frozen? ⟨T, 7, none⟩ = false ∧ w.frozen? ⟨T, 8, none⟩ = false) := by
  refine ⟨⟨?_, ?_, ?_, ?_, ?_, ?_, ?_⟩, ⟨frozen_of_row _ T _ _ 75 h, frozen_of_row _ T _ _ 75 h, frozen_of_row _ T _ _ 75 h, frozen_of_row _ T _ _ 75 h, frozen_of_row _ T _ _ 75 h, frozen_of_row _ T _ _ 75 h, frozen_of_row _ T _ _ 75 h⟩⟩
  all_goals rw [cell_of_row _ T _ _ 75 (0, 0) h]; rfl

theorem put7_below (B : Nat) (w W : World) (g o : Nat) (c : C7) (h : Below B w W) (hg : B ≤ g) : Below B w (put7 W g o c) := by
  unfold put7
  exact ((((((h.setCell (p := ⟨g, _, none⟩) hg _).setCell (p := ⟨g, _, none⟩) hg _).setCell (p := ⟨g, _, none⟩) hg _).setCell (p := ⟨g, _, none⟩) hg _).setCell (p := ⟨g, _, none⟩) hg _).setCell (p := ⟨g, _, none⟩) hg _).setCell (p := ⟨g, _, none⟩) hg _

theorem add_end (w0 w2 : World) (T : Nat) (c d : C7) (hT : w0.heap.size ≤ T) (g1 : w2.heap[T]? = some (.cells (tallyCells 1 c) 75 (0, 0))) (hb : Below w0.heap.size w0 w2) :
    (put7 w2 T 2 d).cell? ⟨T, 0, none⟩ = some (.int .i32 1) ∧ (put7 w2 T 2 d).frozen? ⟨T, 0, none⟩ = false ∧
    IsTally ((put7 w2 T 2 d).setCell ⟨T, 0, none⟩ (.int .i32 0)) T d ∧ Below w0.heap.size w0 ((put7 w2 T 2 d).setCell ⟨T, 0, none⟩ (.int .i32 0)) := by
  have hp := put7_tally w2 T 1 c d g1
  have hq := put7_below w0.heap.size w0 w2 T 2 d hb hT
  generalize put7 w2 T 2 d = V at *
  exact ⟨by rw [cell_of_row _ T 0 _ 75 (0, 0) hp]; rfl, frozen_of_row _ T 0 _ 75 hp, (by unfold IsTally; rw [heap_setCell_same _ T 0 _ 75 _ hp]; rfl), hq.setCell (p := ⟨T, 0, none⟩) hT _⟩

set_option maxRecDepth 100000 in
set_option maxHeartbeats 4000000 in
theorem add_any (T : Nat) (c : C7) (A : Option Addr) (cc : Nat) (l : List S46) (w0 w : World) (ht : IsTally w T c) (hT : w0.heap.size ≤ T) (hb : Below w0.heap.size w0 w) (hr : Kd.C k46 w0 A l.length l) (hcc : l.length ≤ cc) (hl : l.length ≤ 1000) :
    Calls Try.prog 20 #[.pointer (some ⟨T, 0, none⟩), .slice A l.length cc] w fun e w' => e = .returned (.int .i64 0) ∧ IsTally w' T (add7 c (cnt l zero7)) ∧ Below w0.heap.size w0 w' := by
  have hlt : T < w.heap.size := (Array.getElem?_eq_some_iff.1 ht).1
  have l1 : w.cell? ⟨T, 0, none⟩ = some (.int .i32 0) := by rw [cell_of_row _ T 0 _ 75 (0, 0) ht]; rfl
  have l2 : w.frozen? ⟨T, 0, none⟩ = false := frozen_of_row _ T 0 _ 75 ht
  have HR := Lib.hid hr
  have HT := Lib.hid ht
  have HB := Lib.hid hb
  clear hr ht hb
  go_enter_defers Try.func20, Try.ntmps20
  go_wp2_with fail
  refine (lock_free (L := muLink) muLib ⟨T, 0, none⟩ _ l1 l2).mono ?_
  rintro e W1 ⟨rfl, hW1⟩
  have g1 : W1.heap[T]? = some (.cells (tallyCells 1 c) 75 (0, 0)) := by
    rw [hW1]
    rw [heap_setCell_same _ T 0 _ 75 _ HT.out]; rfl
  have hlt1 : T < W1.heap.size := (Array.getElem?_eq_some_iff.1 g1).1
  have GG : Hid (Below w0.heap.size w0 W1.drew) := Lib.hid (by
    rw [hW1]
    exact (HB.out.setCell (p := ⟨T, 0, none⟩) hT _).drew)
  have HC : Hid (Kd.C k46 W1.drew A l.length l) := Lib.hid (Kd.C_below HR.out GG.out)
  clear hW1 l1 l2
  have c2 : W1.cell? ⟨T, 2, none⟩ = some (.int .i64 c.1) := by rw [cell_of_row _ T 2 _ 75 (0, 0) g1]; rfl
  have f2 : W1.frozen? ⟨T, 2, none⟩ = false := frozen_of_row _ T 2 _ 75 g1
  have c3 : W1.cell? ⟨T, 3, none⟩ = some (.int .i64 c.2.1) := by rw [cell_of_row _ T 3 _ 75 (0, 0) g1]; rfl
  have f3 : W1.frozen? ⟨T, 3, none⟩ = false := frozen_of_row _ T 3 _ 75 g1
  have c4 : W1.cell? ⟨T, 4, none⟩ = some (.int .i64 c.2.2.1) := by rw [cell_of_row _ T 4 _ 75 (0, 0) g1]; rfl
  have f4 : W1.frozen? ⟨T, 4, none⟩ = false := frozen_of_row _ T 4 _ 75 g1
  have c5 : W1.cell? ⟨T, 5, none⟩ = some (.int .i64 c.2.2.2.1) := by rw [cell_of_row _ T 5 _ 75 (0, 0) g1]; rfl
  have f5 : W1.frozen? ⟨T, 5, none⟩ = false := frozen_of_row _ T 5 _ 75 g1
  have c6 : W1.cell? ⟨T, 6, none⟩ = some (.int .i64 c.2.2.2.2.1) := by rw [cell_of_row _ T 6 _ 75 (0, 0) g1]; rfl
  have f6 : W1.frozen? ⟨T, 6, none⟩ = false := frozen_of_row _ T 6 _ 75 g1
  have c7 : W1.cell? ⟨T, 7, none⟩ = some (.int .i64 c.2.2.2.2.2.1) := by rw [cell_of_row _ T 7 _ 75 (0, 0) g1]; rfl
  have f7 : W1.frozen? ⟨T, 7, none⟩ = false := frozen_of_row _ T 7 _ 75 g1
  have c8 : W1.cell? ⟨T, 8, none⟩ = some (.int .i64 c.2.2.2.2.2.2) := by rw [cell_of_row _ T 8 _ 75 (0, 0) g1]; rfl
  have f8 : W1.frozen? ⟨T, 8, none⟩ = false := frozen_of_row _ T 8 _ 75 g1
  have G1 := Lib.hid g1
  clear g1
  go_wp2_with fail
  have hlt1d : Hid (T < W1.drew.heap.size) := Lib.hid hlt1
  have G1d : Hid (W1.drew.heap[T]? = some (.cells (tallyCells 1 c) 75 (0, 0))) := G1
  refine wp_region_noPanic ?_
  go_region_law (first | (go_simp; go_at_call 11; refine (count_calls _ _ _ _ HC.out hcc hl).mono ?_; rintro e w1 ⟨rfl, hb1⟩; have G2 := Lib.hid ((hb1.block T hlt1d.out).trans G1d.out); have hs1 := Lib.hid (Nat.lt_of_lt_of_le hlt1d.out hb1.size); have HB1 := Lib.hid hb1; clear hb1; obtain ⟨⟨y2, y3, y4, y5, y6, y7, y8⟩, _⟩ := tally_cells w1 T 1 c G2.out) | (go_simp; go_at_call 13; refine (add_calls c (cnt l zero7) _).mono ?_; rintro e w2 ⟨rfl, hb2⟩; have G3 := Lib.hid ((hb2.block T hs1.out).trans G2.out); have HB2 := Lib.hid hb2; clear hb2; obtain ⟨⟨x2, x3, x4, x5, x6, x7, x8⟩, ⟨xf2, xf3, xf4, xf5, xf6, xf7, xf8⟩⟩ := tally_cells w2 T 1 c G3.out))
  all_goals (
    have H2 : Hid (Below w0.heap.size w0 w2) := Lib.hid ((GG.out.trans (HB1.out.mono GG.out.size)).trans (HB2.out.mono (GG.out.trans (HB1.out.mono GG.out.size)).size))
    refine NoPanic.normal ?_
    go_wp2
    show bodyPostD _ _ _ _ _ (put7 w2 T 2 (add7 c (cnt l zero7)))
    have HEND := Lib.hid (add_end w0 w2 T c (add7 c (cnt l zero7)) hT G3.out H2.out)
    refine leaves_cons (f := 37) (args := #[.pointer (some ⟨T, 0, none⟩)]) (by simp) (by simp [go_sem]) ?_
    refine (unlock_deferred (L := muLink) muLib ⟨T, 0, none⟩ .returning _ HEND.out.1 HEND.out.2.1).mono ?_
    rintro e u' w'' ⟨rfl, rfl, rfl⟩
    exact ⟨_, results_tmp rfl _ _ _, rfl, HEND.out.2.2⟩)
end Go.Proofs.Ytigchloekolaoaa.PEventTally

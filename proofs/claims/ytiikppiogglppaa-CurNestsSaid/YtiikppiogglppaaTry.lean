/-
  Must, and the closure that Try defers.
-/
import Derived.Test.YtiikppiogglppaaReads
import Derived.Defers
import Derived.Recover
import Derived.LaidEqlPtr
import Derived.Lib.Builder
namespace Go.Proofs.Ytiikppiogglppaa
open Go.RowKit

/-- What a read is stopped by. -/
def stopOf (g : Nat) : Value := .iface 66 (.agg #[.pointer (some ⟨g, 0, none⟩)])

set_option maxHeartbeats 1000000 in
/-- A Must behind a fault, of a Cur that a Try waits for. -/
theorem must_stop (w : World) (g : Nat) (A : Option Addr) (c : Nat) (l : List Int) (s : CS) (h : IsCur w g A c l s true) (hf : s.fits l) (h0 : s.code ≠ 0) :
    Calls Try.prog 12 #[.pointer (some ⟨g, 0, none⟩)] w fun e w' => e = .panicked [{ v := stopOf g, recovered := false }] ∧ Below w.heap.size w w' := by
  have e1 : s.ok = false := by unfold CS.ok; exact beq_eq_false_iff_ne.mpr h0
  obtain ⟨c0, c1, c2, c3, c4⟩ := h.cells
  have H := Lib.hid h
  clear h h0
  go_enter Try.func12, Try.ntmps12
  go_wp2_with fail
  refine (ok_any w g A c l s true H.out hf).mono ?_
  rintro e w1 ⟨rfl, hb⟩
  rw [e1]
  have HB := Lib.hid hb
  clear hb
  go_wp2
  exact ⟨rfl, rfl, HB.out⟩

theorem must_idle (w : World) (g : Nat) (A : Option Addr) (c : Nat) (l : List Int) (s : CS) (tr : Bool) (h : IsCur w g A c l s tr) (hf : s.fits l) (h0 : tr = false ∨ s.code = 0) :
    Calls Try.prog 12 #[.pointer (some ⟨g, 0, none⟩)] w fun e w' => e = .returned (.tuple #[]) ∧ Below w.heap.size w w' := by
  obtain ⟨c0, c1, c2, c3, c4⟩ := h.cells
  have H := Lib.hid h
  cases tr with
  | false =>
    clear h
    go_enter Try.func12, Try.ntmps12
    go_wp2
    (first | go_end0 | ((try simp only [Exit.inBlock, Exit.then]); refine bodyPost_ret (results_none rfl _ _ _) rfl ?_))
    exact ⟨rfl, Below.refl _ _⟩
  | true =>
    have h1 : s.code = 0 := by rcases h0 with h | h; · cases h
                               · exact h
    have e1 : s.ok = true := by unfold CS.ok; rw [h1]; rfl
    clear h h0 h1
    go_enter Try.func12, Try.ntmps12
    go_wp2_with fail
    refine (ok_any w g A c l s true H.out hf).mono ?_
    rintro e w1 ⟨rfl, hb⟩
    rw [e1]
    have HB := Lib.hid hb
    clear hb
    go_wp2
    (first | go_end0 | ((try simp only [Exit.inBlock, Exit.then]); refine bodyPost_ret (results_none rfl _ _ _) rfl ?_))
    exact ⟨rfl, HB.out⟩

/-- Try's own variables: the Cur, how many bytes, the fault. -/
structure Vars (w : World) (V N F g : Nat) : Prop where
  v : w.heap[V]? = some (.cells #[.pointer (some ⟨g, 0, none⟩)] 26 (0, 0))
  n : ∃ x, w.heap[N]? = some (.cells #[.int .i64 x] 3 (0, 0))
  f : ∃ x y, w.heap[F]? = some (.cells #[.int .i64 x, .int .i64 y] 31 (0, 0))
  ne : g ≠ V ∧ g ≠ N ∧ g ≠ F ∧ V ≠ N ∧ V ≠ F ∧ N ≠ F

theorem Vars.grown {w w' : World} {V N F g : Nat} (h : Vars w V N F g) (hg : w.grownBy w' (some g)) : Vars w' V N F g := by
  obtain ⟨hv, ⟨x, hn⟩, ⟨y, z, hf⟩, h1, h2, h3, h4⟩ := h
  refine ⟨(hg.block V (Array.getElem?_eq_some_iff.1 hv).1 (fun e => h1 (Option.some.inj e).symm)).trans hv, ⟨x, (hg.block N (Array.getElem?_eq_some_iff.1 hn).1 (fun e => h2 (Option.some.inj e).symm)).trans hn⟩, ⟨y, z, (hg.block F (Array.getElem?_eq_some_iff.1 hf).1 (fun e => h3 (Option.some.inj e).symm)).trans hf⟩, h1, h2, h3, h4⟩

/-- The world behind the closure that Try defers: the Cur waits no more, and the results are told. -/
def Caught (w : World) (N F g : Nat) (A : Option Addr) (c : Nat) (l : List Int) (s : CS) (w' : World) : Prop :=
  w'.heap[N]? = some (.cells #[.int .i64 s.n] 3 (0, 0)) ∧ w'.heap[F]? = some (.cells #[.int .i64 s.code, .int .i64 s.fat] 31 (0, 0)) ∧ IsCur w' g A c l s false ∧
    (w'.os = w.os ∧ w'.tape = w.tape ∧ w'.output = w.output ∧ w.heap.size ≤ w'.heap.size ∧ ∀ k, k < w.heap.size → k ≠ g → k ≠ N → k ≠ F → w'.heap[k]? = w.heap[k]?)

theorem Vars.cells {w : World} {V N F g : Nat} (h : Vars w V N F g) : w.cell? ⟨V, 0, none⟩ = some (.pointer (some ⟨g, 0, none⟩)) ∧ (∃ x, w.cell? ⟨N, 0, none⟩ = some (.int .i64 x)) ∧ w.frozen? ⟨N, 0, none⟩ = false ∧ (∃ x, w.cell? ⟨F, 0, none⟩ = some (.int .i64 x)) ∧ (∃ x, w.cell? ⟨F, 1, none⟩ = some (.int .i64 x)) ∧ w.frozen? ⟨F, 0, none⟩ = false ∧ w.frozen? ⟨F, 1, none⟩ = false := by
  obtain ⟨x, hn⟩ := h.n
  obtain ⟨y, z, hf⟩ := h.f
  refine ⟨by rw [cell_of_row _ V 0 _ 26 (0, 0) h.v]; rfl, ⟨x, by rw [cell_of_row _ N 0 _ 3 (0, 0) hn]; rfl⟩, frozen_of_row _ N 0 _ 3 hn, ⟨y, by rw [cell_of_row _ F 0 _ 31 (0, 0) hf]; rfl⟩, ⟨z, by rw [cell_of_row _ F 1 _ 31 (0, 0) hf]; rfl⟩, frozen_of_row _ F 0 _ 31 hf, frozen_of_row _ F 1 _ 31 hf⟩

/-- The world behind the closure's stores. -/
def told (w : World) (N F : Nat) (s : CS) : World := ((w.setCell ⟨N, 0, none⟩ (.int .i64 s.n)).setCell ⟨F, 0, none⟩ (.int .i64 s.code)).setCell ⟨F, 1, none⟩ (.int .i64 s.fat)

theorem caught_end (w w1 : World) (V N F g : Nat) (A : Option Addr) (c : Nat) (l : List Int) (s : CS) (hg : w.grownBy w1 (some g)) (hv : Vars w1 V N F g) (h : IsCur w1 g A c l s false) : Caught w N F g A c l s (told w1 N F s).drew := by
  obtain ⟨hV, ⟨x, hn⟩, ⟨y, z, hf⟩, h1, h2, h3, h4, h5, h6⟩ := hv
  have N1 : (w1.setCell ⟨N, 0, none⟩ (.int .i64 s.n)).heap[N]? = some (.cells #[.int .i64 s.n] 3 (0, 0)) := by
    rw [heap_setCell_same _ N 0 _ 3 _ hn]; rfl
  have F0 : (w1.setCell ⟨N, 0, none⟩ (.int .i64 s.n)).heap[F]? = some (.cells #[.int .i64 y, .int .i64 z] 31 (0, 0)) :=
    (heap_setCell_other _ _ _ _ (Ne.symm h6)).trans hf
  have F1 : ((w1.setCell ⟨N, 0, none⟩ (.int .i64 s.n)).setCell ⟨F, 0, none⟩ (.int .i64 s.code)).heap[F]? = some (.cells #[.int .i64 s.code, .int .i64 z] 31 (0, 0)) := by
    rw [heap_setCell_same _ F 0 _ 31 _ F0]; rfl
  have F2 : (told w1 N F s).heap[F]? = some (.cells #[.int .i64 s.code, .int .i64 s.fat] 31 (0, 0)) := by
    unfold told
    rw [heap_setCell_same _ F 1 _ 31 _ F1]; rfl
  have far : ∀ j, j ≠ N → j ≠ F → (told w1 N F s).heap[j]? = w1.heap[j]? := fun j e1 e2 => by
    unfold told
    rw [heap_setCell_other _ _ _ _ e2, heap_setCell_other _ _ _ _ e2, heap_setCell_other _ _ _ _ e1]
  have N2 : (told w1 N F s).heap[N]? = some (.cells #[.int .i64 s.n] 3 (0, 0)) := by
    unfold told
    rw [heap_setCell_other _ _ _ _ h6, heap_setCell_other _ _ _ _ h6]
    exact N1
  have hsz : (told w1 N F s).heap.size = w1.heap.size := by unfold told; simp [World.setCell]
  have hsl : Sl (told w1 N F s) A l.length l := by
    have c1 : w1.cell? ⟨N, 0, none⟩ = some (.int .i64 x) := by rw [cell_of_row _ N 0 _ 3 (0, 0) hn]; rfl
    have c2 : (w1.setCell ⟨N, 0, none⟩ (.int .i64 s.n)).cell? ⟨F, 0, none⟩ = some (.int .i64 y) := by rw [cell_of_row _ F 0 _ 31 (0, 0) F0]; rfl
    have c3 : ((w1.setCell ⟨N, 0, none⟩ (.int .i64 s.n)).setCell ⟨F, 0, none⟩ (.int .i64 s.code)).cell? ⟨F, 1, none⟩ = some (.int .i64 z) := by rw [cell_of_row _ F 1 _ 31 (0, 0) F1]; rfl
    exact (((h.2.1.put _ c1 (fun z e => by cases e)).put _ c2 (fun z e => by cases e)).put _ c3 (fun z e => by cases e))
  have os : (told w1 N F s).os = w1.os ∧ (told w1 N F s).tape = w1.tape ∧ (told w1 N F s).output = w1.output := ⟨rfl, rfl, rfl⟩
  generalize told w1 N F s = u at *
  exact ⟨N2, F2, ⟨(far g h2 h3).trans h.1, hsl, h.2.2⟩, os.1.trans hg.os, os.2.1.trans hg.tape, os.2.2.trans hg.output, Nat.le_trans hg.size (Nat.le_of_eq hsz.symm), fun k hk a1 a2 a3 => (far k a2 a3).trans (hg.block k hk (fun e => a1 (Option.some.inj e)))⟩

theorem info64 : Try.prog.info? 64 = some ((Try.prog.info? 64).get (by kernel_rfl)) := by kernel_rfl
theorem ptr_same (g : Nat) (w : World) : (binOp .neq 26 (.pointer (some ⟨g, 0, none⟩)) (.pointer (some ⟨g, 0, none⟩))).run Try.prog w = .ok (.bool false) w :=
  Lib.run_neq_ptr_same w ⟨g, 0, none⟩ Try.underlying26 info64

theorem assert_stop (v : Value) (w : World) : (Instr.typeAssert (.iface 66 v) 20 66 true).run Try.prog w = .ok (.tuple #[v, .bool true]) w := by kernel_rfl

set_option maxHeartbeats 2000000 in
/-- The closure, entered as a deferred call of a frame that returns. -/
theorem catch_idle (w : World) (V N F g : Nat) (A : Option Addr) (c : Nat) (l : List Int) (s : CS) (tr : Bool) (hv : Vars w V N F g) (h : IsCur w g A c l s tr) :
    CallsD Try.prog 30 #[.pointer (some ⟨V, 0, none⟩), .pointer (some ⟨N, 0, none⟩), .pointer (some ⟨F, 0, none⟩)] .returning w fun e u' w' => e = .returned (.tuple #[]) ∧ u' = .returning ∧ Caught w N F g A c l s w' := by
  obtain ⟨x0, x1, x2, x3, x4⟩ := h.cells
  have hvc : w.cell? ⟨V, 0, none⟩ = some (.pointer (some ⟨g, 0, none⟩)) := by rw [cell_of_row _ V 0 _ 26 (0, 0) hv.v]; rfl
  have f4 := h.free 4
  refine callsD_of_wpS Try.func30 rfl fun c₀ cs hu => ?_
  simp only [Try.ntmps30, List.size_toArray, List.length_cons, List.length_nil, Nat.reduceAdd, Nat.reduceSub, Array.replicate_succ, Array.replicate_zero, List.push_toArray, List.append_toArray, List.nil_append, List.cons_append]
  apply wpS_seq
  apply wpS_region
  simp [wpOpsS, go_sem, recoverD, hu, Exit.thenS, hvc, x4, f4]
  apply wpS_seq
  apply wpS_seq
  apply wpS_region
  simp [wpOpsS, go_sem, recoverD, hu, Exit.thenS]
  refine wpS_of_wp ?_
  have P1 := h.put_tried false
  obtain ⟨y0, y1, y2, y3, y4⟩ := P1.cells
  have V1 := hv.grown (grown_set w g 4 (.bool false))
  have CA := Lib.hid (caught_end w _ V N F g A c l s (grown_set w g 4 (.bool false)) V1 P1)
  obtain ⟨z1, ⟨_, z2⟩, z3, ⟨_, z4⟩, ⟨_, z5⟩, z6, z7⟩ := V1.cells
  obtain ⟨n1, n2, n3, n4, n5, n6⟩ := hv.ne
  clear hv h P1 V1 hvc x0 x1 x2 x3 x4
  go_wp2_with fail
  simp only [Exit.thenS]
  refine wpS_of_wp ?_
  refine wp_region_noPanic ?_
  go_region_law (fail)
  all_goals (
    refine NoPanic.normal ?_
    show bodyPostS _ _ _ _ _ _ _ _ (told (w.setCell ⟨g, 4, none⟩ (.bool false)) N F s).drew
    simp [bodyPostS, results, Try.results30]
    exact ⟨c₀.mode, rfl, hu, CA.out⟩)

set_option maxHeartbeats 2000000 in
/-- The closure, entered as a deferred call of a frame that a Must of this Cur has stopped. -/
theorem catch_stop (w : World) (V N F g : Nat) (A : Option Addr) (c : Nat) (l : List Int) (s : CS) (tr : Bool) (hv : Vars w V N F g) (h : IsCur w g A c l s tr) :
    CallsD Try.prog 30 #[.pointer (some ⟨V, 0, none⟩), .pointer (some ⟨N, 0, none⟩), .pointer (some ⟨F, 0, none⟩)] (.panicking [{ v := stopOf g, recovered := false }]) w fun e u' w' => e = .returned (.tuple #[]) ∧ u' = .panicking [{ v := stopOf g, recovered := true }] ∧ Caught w N F g A c l s w' := by
  obtain ⟨x0, x1, x2, x3, x4⟩ := h.cells
  have hvc : w.cell? ⟨V, 0, none⟩ = some (.pointer (some ⟨g, 0, none⟩)) := by rw [cell_of_row _ V 0 _ 26 (0, 0) hv.v]; rfl
  have f4 := h.free 4
  refine callsD_of_wpS Try.func30 rfl fun c₀ cs hu => ?_
  simp only [Try.ntmps30, List.size_toArray, List.length_cons, List.length_nil, Nat.reduceAdd, Nat.reduceSub, Array.replicate_succ, Array.replicate_zero, List.push_toArray, List.append_toArray, List.nil_append, List.cons_append]
  apply wpS_seq
  apply wpS_region
  simp [wpOpsS, go_sem, recoverD, hu, Exit.thenS, hvc, x4, f4]
  apply wpS_seq
  apply wpS_seq
  apply wpS_region
  simp [wpOpsS, go_sem, recoverD, hu, Exit.thenS, stopOf]
  refine wpS_of_wp ?_
  have P1 := h.put_tried false
  have V1 := hv.grown (grown_set w g 4 (.bool false))
  have hb := (Below.refl (w.setCell ⟨g, 4, none⟩ (.bool false)).heap.size (w.setCell ⟨g, 4, none⟩ (.bool false))).alloc (Nat.le_refl _) (.cells #[.pointer (some ⟨g, 0, none⟩)] 66)
  have P2 := P1.below hb
  have V2 := V1.grown (grown_below (row := some g) hb)
  have CA := Lib.hid (caught_end w _ V N F g A c l s ((grown_set w g 4 (.bool false)).trans (grown_below (row := some g) hb)) V2 P2)
  obtain ⟨y0, y1, y2, y3, y4⟩ := P2.cells
  obtain ⟨z1, ⟨_, z2⟩, z3, ⟨_, z4⟩, ⟨_, z5⟩, z6, z7⟩ := V2.cells
  have v1 := V1.cells.1
  obtain ⟨n1, n2, n3, n4, n5, n6⟩ := hv.ne
  have has := assert_stop
  have hps := ptr_same g
  clear hv h P1 V1 P2 V2 hb hvc x0 x1 x2 x3 x4
  go_wp2_with fail
  simp only [Exit.thenS]
  refine wpS_of_wp ?_
  refine wp_region_noPanic ?_
  go_region_law (fail)
  all_goals (
    refine NoPanic.normal ?_
    show bodyPostS _ _ _ _ _ _ _ _ (told ((w.setCell ⟨g, 4, none⟩ (.bool false)).alloc (.cells #[.pointer (some ⟨g, 0, none⟩)] 66)) N F s).drew
    simp [bodyPostS, results, Try.results30]
    exact CA.out)
end Go.Proofs.Ytiikppiogglppaa

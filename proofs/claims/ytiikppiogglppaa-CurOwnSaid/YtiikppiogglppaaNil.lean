/-
  What a nil Cur, and a nil read, tell.
-/
import Derived.Test.YtiikppiogglppaaDoes
namespace Go.Proofs.Ytiikppiogglppaa
open Go.RowKit

theorem ok_nil (w : World) : Calls Try.prog 29 #[.pointer none] w fun e w' => e = .returned (.bool false) ∧ w = w' := by
  go_enter Try.func29, Try.ntmps29
  go_wp2
  go_ret
  exact ⟨rfl, rfl⟩

theorem at_nil (w : World) : Calls Try.prog 25 #[.pointer none] w fun e w' => e = .returned (.int .i64 0) ∧ w = w' := by
  go_enter Try.func25, Try.ntmps25
  go_wp2
  go_ret
  exact ⟨rfl, rfl⟩

theorem left_nil (w : World) : Calls Try.prog 19 #[.pointer none] w fun e w' => e = .returned (.int .i64 0) ∧ w = w' := by
  go_enter Try.func19, Try.ntmps19
  go_wp2
  go_ret
  exact ⟨rfl, rfl⟩

theorem fault_nil (w : World) : Calls Try.prog 24 #[.pointer none] w fun e w' => e = .returned (.agg #[.int .i64 2, .int .i64 0]) ∧ Below w.heap.size w w' := by
  go_enter Try.func24, Try.ntmps24
  go_wp2
  exact bodyPost_ret (results_cell_row rfl _ _ w.heap.size 31 #[.int .i64 2, .int .i64 0] (0, 0) _ rfl (heap_alloc_new w _) Try.underlying31 rfl info31) rfl ⟨rfl, (Below.refl _ _).alloc (Nat.le_refl _) _⟩

theorem must_nil (w : World) : Calls Try.prog 12 #[.pointer none] w fun e w' => e = .returned (.tuple #[]) ∧ w = w' := by
  go_enter Try.func12, Try.ntmps12
  go_wp2
  (first | go_end0 | ((try simp only [Exit.inBlock, Exit.then]); refine bodyPost_ret (results_none rfl _ _ _) rfl ?_))
  exact ⟨rfl, rfl⟩

theorem fail_nil (x y : Int) (w : World) : Calls Try.prog 26 #[.pointer none, .int .i64 x, .int .i64 y] w fun e w' => e = .returned (.tuple #[]) ∧ w = w' := by
  go_enter Try.func26, Try.ntmps26
  go_wp2_with fail
  refine (ok_nil w).mono ?_
  rintro e w' ⟨rfl, rfl⟩
  go_wp2
  (first | go_end0 | ((try simp only [Exit.inBlock, Exit.then]); refine bodyPost_ret (results_none rfl _ _ _) rfl ?_))
  exact ⟨rfl, rfl⟩

theorem peek_nil (w : World) : Calls Try.prog 21 #[.pointer none] w fun e w' => e = .returned (.tuple #[.int .u8 0, .bool false]) ∧ w = w' := by
  go_enter Try.func21, Try.ntmps21
  go_wp2_with fail
  refine (ok_nil w).mono ?_
  rintro e w' ⟨rfl, rfl⟩
  go_wp2
  go_ret2
  exact ⟨rfl, rfl⟩

theorem take_nil (n : Int) (w : World) : Calls Try.prog 20 #[.pointer none, .int .i64 n] w fun e w' => e = .returned (.slice none 0 0) ∧ w = w' := by
  go_enter Try.func20, Try.ntmps20
  go_wp2_with fail
  refine (ok_nil w).mono ?_
  rintro e w' ⟨rfl, rfl⟩
  go_wp2
  go_ret
  exact ⟨rfl, rfl⟩

theorem byte_nil (w : World) : Calls Try.prog 11 #[.pointer none] w fun e w' => e = .returned (.int .u8 0) ∧ w = w' := by
  go_enter Try.func11, Try.ntmps11
  go_wp2_with fail
  refine (take_nil 1 w).mono ?_
  rintro e w' ⟨rfl, rfl⟩
  go_wp2
  go_ret
  exact ⟨rfl, rfl⟩

theorem until_nil (x : Int) (w : World) : Calls Try.prog 22 #[.pointer none, .int .u8 x] w fun e w' => e = .returned (.tuple #[.slice none 0 0, .bool false]) ∧ w = w' := by
  go_enter Try.func22, Try.ntmps22
  go_wp2_with fail
  refine (ok_nil w).mono ?_
  rintro e w' ⟨rfl, rfl⟩
  go_wp2
  go_ret2
  exact ⟨rfl, rfl⟩

theorem try_nil (v : Value) (w : World) : Calls Try.prog 13 #[v, .nilFunc] w fun e w' => e = .returned (.tuple #[.int .i64 0, .agg #[.int .i64 2, .int .i64 0]]) ∧ Below w.heap.size w w' := by
  have hnf : ∀ w : World, (binOp .eql 34 .nilFunc .nilFunc).run Try.prog w = .ok (.bool true) w := fun _ => by kernel_rfl
  have hb := ((Below.refl w.heap.size w).alloc (Nat.le_refl _) (.cells #[.int .i64 0] 3)).alloc (by simp) (.cells #[.int .i64 2, .int .i64 0] 31)
  have HB := Lib.hid hb
  clear hb
  go_enter_defers Try.func13, Try.ntmps13
  go_wp2
  have hF := heap_alloc_new (w.alloc (.cells #[.int .i64 0] 3)) (.cells #[.int .i64 2, .int .i64 0] 31)
  rw [World.size_alloc] at hF
  have e1 : ((w.alloc (.cells #[.int .i64 0] 3)).alloc (.cells #[.int .i64 2, .int .i64 0] 31)).cell? ⟨w.heap.size, 0, none⟩ = some (.int .i64 0) := by
    rw [cell_of_row _ _ 0 _ 3 (0, 0) ((Below.heap_alloc _ _ _ (by simp)).trans (heap_alloc_new w _))]; rfl
  have e2 : ((w.alloc (.cells #[.int .i64 0] 3)).alloc (.cells #[.int .i64 2, .int .i64 0] 31)).cell? ⟨w.heap.size + 1, 0, none⟩ = some (.int .i64 2) := by rw [cell_of_row _ _ 0 _ 31 (0, 0) hF]; rfl
  have e3 : ((w.alloc (.cells #[.int .i64 0] 3)).alloc (.cells #[.int .i64 2, .int .i64 0] 31)).cell? ⟨w.heap.size + 1, 1, none⟩ = some (.int .i64 0) := by rw [cell_of_row _ _ 1 _ 31 (0, 0) hF]; rfl
  refine ⟨.tuple #[.int .i64 0, .agg #[.int .i64 2, .int .i64 0]], ?_, rfl, HB.out⟩
  simp [results, Try.results13, go_sem, e1, e2, e3]
end Go.Proofs.Ytiikppiogglppaa

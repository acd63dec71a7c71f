/-
  What is left as all ends; and what a nil Framer tells.
-/
import Derived.Test.YtnlnadpbbcjfdaaFeed
namespace Go.Proofs.Ytnlnadpbbcjfdaa
open Go.RowKit Go.Shelf

theorem region_plain {P : Program} {id : Nat} {ops : Array Oper} {Q : Exit → Act → World → Prop} (S : World → Prop) (z : Nat) {a : Act} {w : World} (hm : P.follows .mixedOrders = true)
    (h : wpAnyZ P .any ops Q S z ops.size (Array.replicate ops.size false) a w.drew) : (Code.region id ops true).wp P Q a w := wp_region_any hm (any_of_z _ _ _ _ h)

def noLine : LV := ⟨0, 0, [], false⟩
theorem lvv_no : lvv noLine = #[.int .i64 0, .int .i64 0, .string ⟨#[]⟩, .bool false] := rfl

theorem res18 (tmps : Array Value) (w : World) (g : Nat) (cs : Array Value) (x y : Value) (hg : w.heap[g]? = some (.cells cs 31 (0, 0))) (hs : cs.size = 4) (hp : tmps.getD 2 undef = .pointer (some ⟨g, 0, none⟩)) (hx : tmps.getD 3 undef = x) (hy : tmps.getD 4 undef = y) :
    (results Try.f18 tmps).run Try.prog w = .ok (.tuple #[.agg cs, x, y]) w := by
  have hp' : tmps[2]?.getD undef = .pointer (some ⟨g, 0, none⟩) := by simpa using hp
  have hx' : tmps[3]?.getD undef = x := by simpa using hx
  have hy' : tmps[4]?.getD undef = y := by simpa using hy
  have hl := run_loadVar_row (P := Try.prog) w g 31 31 cs (0, 0) _ hg Try.underlying31 rfl (by rw [hs]; exact info31)
  simp [results, hp', hx', hy', asAddr, hl]

/-- A line stored into the result's box. -/
def rs (W : World) (r : Nat) (x y : Int) (t : ByteArray) (b : Bool) : World := (((W.setCell ⟨r, 0, none⟩ (.int .i64 x)).setCell ⟨r, 1, none⟩ (.int .i64 y)).setCell ⟨r, 2, none⟩ (.string t)).setCell ⟨r, 3, none⟩ (.bool b)

theorem res_store {w W : World} {g m at_ fr co r : Nat} {cur : List Int} {cl : Bool} {O : Option Addr} (hf : IsFr W g m at_ fr cur cl O co) (hg : w.grownBy W (some g)) (hr : w.heap.size ≤ r) (hne : g ≠ r)
    (hrow : W.heap[r]? = some (.cells #[.int .i64 0, .int .i64 0, .string ⟨#[]⟩, .bool false] 31 (0, 0))) (x y : Int) (t : ByteArray) (b : Bool) :
    IsFr (rs W r x y t b) g m at_ fr cur cl O co ∧ (rs W r x y t b).heap[r]? = some (.cells #[.int .i64 x, .int .i64 y, .string t, .bool b] 31 (0, 0)) ∧ w.grownBy (rs W r x y t b) (some g) := by
  have h0 := heap_setCell_same _ r 0 _ 31 (.int .i64 x) hrow
  have h1 := heap_setCell_same _ r 1 _ 31 (.int .i64 y) h0
  have h2 := heap_setCell_same _ r 2 _ 31 (.string t) h1
  have h3 := heap_setCell_same _ r 3 _ 31 (.bool b) h2
  have s0 := hf.sl.put (g := r) (j := 0) (v := .int .i64 0) (.int .i64 x) (by rw [cell_of_row _ _ _ _ 31 (0, 0) hrow]; rfl) (fun z e => by cases e)
  have s1 := s0.put (g := r) (j := 1) (v := .int .i64 0) (.int .i64 y) (by rw [cell_of_row _ _ _ _ 31 (0, 0) h0]; rfl) (fun z e => by cases e)
  have s2 := s1.put (g := r) (j := 2) (v := .string ⟨#[]⟩) (.string t) (by rw [cell_of_row _ _ _ _ 31 (0, 0) h1]; rfl) (fun z e => by cases e)
  have s3 := s2.put (g := r) (j := 3) (v := .bool false) (.bool b) (by rw [cell_of_row _ _ _ _ 31 (0, 0) h2]; rfl) (fun z e => by cases e)
  refine ⟨{ hf with row := ?_, sl := s3 }, h3, grown_step (grown_step (grown_step (grown_step hg _ (.inr hr) _) _ (.inr hr) _) _ (.inr hr) _) _ (.inr hr) _⟩
  exact (heap_setCell_other _ _ _ _ hne).trans ((heap_setCell_other _ _ _ _ hne).trans ((heap_setCell_other _ _ _ _ hne).trans ((heap_setCell_other _ _ _ _ hne).trans hf.row)))

set_option maxHeartbeats 1000000 in
theorem close_again (w : World) (g m at_ fr : Nat) (cur : List Int) (O : Option Addr) (co : Nat) (h : IsFr w g m at_ fr cur true O co) :
    Calls Try.prog 18 #[.pointer (some ⟨g, 0, none⟩)] w fun e w' => e = .returned (.tuple #[.agg (lvv noLine), .bool false, .int .i64 28]) ∧ Below w.heap.size w w' := by
  have b0 := (Below.refl w.heap.size w).alloc (Nat.le_refl _) (.cells #[.int .i64 0, .int .i64 0, .string ⟨#[]⟩, .bool false] 31)
  have H0 := Lib.hid (h.below b0)
  have HB := Lib.hid b0
  clear h b0
  go_enter Try.func18, Try.ntmps18
  go_wp2_with fail
  refine (check_any _ g m at_ fr cur true O co H0.out).mono ?_
  rintro e w1 ⟨rfl, rfl⟩
  rw [if_pos rfl]
  go_wp2_with fail
  exact bodyPost_ret (res18 _ _ w.heap.size _ (.bool false) (.int .i64 28) (heap_alloc_new w _) rfl rfl rfl rfl) rfl ⟨by rw [lvv_no], HB.out⟩

set_option maxHeartbeats 1000000 in
theorem close_any (w : World) (g m at_ fr : Nat) (cur : List Int) (O : Option Addr) (co : Nat) (h : IsFr w g m at_ fr cur false O co) (ha : at_ = fr + cur.length) (hb : at_ ≤ 100000) :
    Calls Try.prog 18 #[.pointer (some ⟨g, 0, none⟩)] w fun e w' => ∃ O' co', e = .returned (.tuple #[.agg (lvv (if cur = [] then noLine else mkLine m fr cur 0)), .bool (decide (cur ≠ [])), .int .i64 0]) ∧ IsFr w' g m at_ at_ [] true O' co' ∧ w.grownBy w' (some g) := by
  have b0 := (Below.refl w.heap.size w).alloc (Nat.le_refl _) (.cells #[.int .i64 0, .int .i64 0, .string ⟨#[]⟩, .bool false] 31)
  have hlt := h.lt
  have hn0 : w.heap.size ≠ g := by omega
  have f0 := h.below b0
  have f1 := f0.put_closed true
  have c4 := f0.cells.2.2.2.2
  have q4 := f0.free 4
  have g1 := grown_step (grown_below (row := some g) b0) ⟨g, 4, none⟩ (.inl rfl) (.bool true)
  have hres : ((w.alloc (.cells #[.int .i64 0, .int .i64 0, .string ⟨#[]⟩, .bool false] 31)).setCell ⟨g, 4, none⟩ (.bool true)).heap[w.heap.size]? = some (.cells #[.int .i64 0, .int .i64 0, .string ⟨#[]⟩, .bool false] 31 (0, 0)) :=
    (heap_setCell_other _ _ _ _ hn0).trans (heap_alloc_new w _)
  have H0 := Lib.hid f0
  have H1 := Lib.hid f1
  have HG := Lib.hid g1
  have HR := Lib.hid hres
  have HA := Lib.hid ha
  have HB := Lib.hid hb
  have HL := Lib.hid hlt
  clear h b0 f0 f1 g1 hres ha hb hlt hn0
  go_enter Try.func18, Try.ntmps18
  go_wp2_with fail
  refine (check_any _ g m at_ fr cur false O co H0.out).mono ?_
  rintro e w1 ⟨rfl, rfl⟩
  rw [if_neg (by decide)]
  go_wp2_with fail
  have M1 := H1.out
  have G1 := HG.out
  have R1 := HR.out
  generalize (w.alloc (.cells #[.int .i64 0, .int .i64 0, .string ⟨#[]⟩, .bool false] 31)).setCell ⟨g, 4, none⟩ (.bool true) = X at M1 G1 R1 ⊢
  clear c4 q4 H0 H1 HG HR
  obtain ⟨e0, e1, e2, e3, e4⟩ := M1.cells
  have HM := Lib.hid M1
  have HG := Lib.hid G1
  have HR := Lib.hid R1
  clear M1 G1 R1
  refine region_plain (fun W => W.cell? ⟨g, 1, none⟩ = some (.int .i64 (at_ : Int)) ∧ W.cell? ⟨g, 2, none⟩ = some (.int .i64 (fr : Int))) 99 (by kernel_rfl) ?_
  have hS : X.drew.cell? ⟨g, 1, none⟩ = some (.int .i64 (at_ : Int)) ∧ X.drew.cell? ⟨g, 2, none⟩ = some (.int .i64 (fr : Int)) := ⟨e1, e2⟩
  refine z_take (i := 0) (v := ?_) rfl (by kernel_rfl) (by kernel_rfl) (by kernel_rfl) (by kernel_rfl) (fun _ _ _ h => h) (Or.inl ⟨by rfl, ?_⟩) hS ?_
  rotate_left
  · (rintro wS ⟨s0, s1⟩; (try simp only [List.getElem_toArray, List.getElem_cons_zero]); go_simp <;> with_reducible rfl)
  simp only [Act.put, List.getElem_toArray, List.getElem_cons_zero, List.setIfInBounds_toArray, List.set_cons_zero, List.set_cons_succ]
  refine z_take (i := 1) (v := ?_) rfl (by kernel_rfl) (by kernel_rfl) (by kernel_rfl) (by kernel_rfl) (fun _ _ _ h => h) (Or.inl ⟨by rfl, ?_⟩) hS ?_
  rotate_left
  · (rintro wS ⟨s0, s1⟩; (try simp only [List.getElem_toArray, List.getElem_cons_zero, List.getElem_cons_succ]); go_simp <;> with_reducible rfl)
  simp only [Act.put, List.getElem_toArray, List.getElem_cons_zero, List.getElem_cons_succ, List.setIfInBounds_toArray, List.set_cons_zero, List.set_cons_succ]
  refine z_take (i := 2) (v := ?_) rfl (by kernel_rfl) (by kernel_rfl) (by kernel_rfl) (by kernel_rfl) (fun _ _ _ h => h) (Or.inl ⟨by rfl, ?_⟩) hS ?_
  rotate_left
  · (rintro wS ⟨s0, s1⟩; (try simp only [List.getElem_toArray, List.getElem_cons_zero, List.getElem_cons_succ]); go_simp <;> with_reducible rfl)
  simp only [Act.put, List.getElem_toArray, List.getElem_cons_zero, List.getElem_cons_succ, List.setIfInBounds_toArray, List.set_cons_zero, List.set_cons_succ]
  refine z_take (i := 3) (v := ?_) rfl (by kernel_rfl) (by kernel_rfl) (by kernel_rfl) (by kernel_rfl) (fun _ _ _ h => h) (Or.inl ⟨by rfl, ?_⟩) hS ?_
  rotate_left
  · (rintro wS ⟨s0, s1⟩; (try simp only [List.getElem_toArray, List.getElem_cons_zero, List.getElem_cons_succ]); go_simp <;> with_reducible rfl)
  simp only [Act.put, List.getElem_toArray, List.getElem_cons_zero, List.getElem_cons_succ, List.setIfInBounds_toArray, List.set_cons_zero, List.set_cons_succ]
  refine z_take (i := 4) (v := ?_) rfl (by kernel_rfl) (by kernel_rfl) (by kernel_rfl) (by kernel_rfl) (fun _ _ _ h => h) (Or.inl ⟨by rfl, ?_⟩) hS ?_
  rotate_left
  · (rintro wS ⟨s0, s1⟩; (try simp only [List.getElem_toArray, List.getElem_cons_zero, List.getElem_cons_succ]); go_simp <;> with_reducible rfl)
  simp only [Act.put, List.getElem_toArray, List.getElem_cons_zero, List.getElem_cons_succ, List.setIfInBounds_toArray, List.set_cons_zero, List.set_cons_succ]
  refine z_take (i := 5) (v := ?_) rfl (by kernel_rfl) (by kernel_rfl) (by kernel_rfl) (by kernel_rfl) (fun _ _ _ h => h) (Or.inl ⟨by rfl, ?_⟩) hS ?_
  rotate_left
  · (rintro wS ⟨s0, s1⟩; (try simp only [List.getElem_toArray, List.getElem_cons_zero, List.getElem_cons_succ]); go_simp <;> with_reducible rfl)
  simp only [Act.put, List.getElem_toArray, List.getElem_cons_zero, List.getElem_cons_succ, List.setIfInBounds_toArray, List.set_cons_zero, List.set_cons_succ]
  refine z_take (i := 6) (v := ?_) rfl (by kernel_rfl) (by kernel_rfl) (by kernel_rfl) (by kernel_rfl) (fun _ _ _ h => h) (Or.inl ⟨by rfl, ?_⟩) hS ?_
  rotate_left
  · (rintro wS ⟨s0, s1⟩; (try simp only [List.getElem_toArray, List.getElem_cons_zero, List.getElem_cons_succ]); go_simp <;> with_reducible rfl)
  simp only [Act.put, List.getElem_toArray, List.getElem_cons_zero, List.getElem_cons_succ, List.setIfInBounds_toArray, List.set_cons_zero, List.set_cons_succ]
  refine z_take (i := 7) (v := ?_) rfl (by kernel_rfl) (by kernel_rfl) (by kernel_rfl) (by kernel_rfl) (fun _ _ _ h => h) (Or.inl ⟨by rfl, ?_⟩) hS ?_
  rotate_left
  · (rintro wS ⟨s0, s1⟩; (try simp only [List.getElem_toArray, List.getElem_cons_zero, List.getElem_cons_succ]); go_simp <;> with_reducible rfl)
  simp only [Act.put, List.getElem_toArray, List.getElem_cons_zero, List.getElem_cons_succ, List.setIfInBounds_toArray, List.set_cons_zero, List.set_cons_succ]
  refine z_take (i := 8) (v := ?_) rfl (by kernel_rfl) (by kernel_rfl) (by kernel_rfl) (by kernel_rfl) (fun _ _ _ h => h) (Or.inl ⟨by rfl, ?_⟩) hS ?_
  rotate_left
  · (rintro wS ⟨s0, s1⟩; (try simp only [List.getElem_toArray, List.getElem_cons_zero, List.getElem_cons_succ]); go_simp <;> with_reducible rfl)
  simp only [Act.put, List.getElem_toArray, List.getElem_cons_zero, List.getElem_cons_succ, List.setIfInBounds_toArray, List.set_cons_zero, List.set_cons_succ]
  refine z_done (by kernel_rfl) ?_ _
  have M2 := HM.out.below (Below.refl _ _).drew
  have G2 := grown_drew HG.out
  have R2 : X.drew.heap[w.heap.size]? = some (.cells #[.int .i64 0, .int .i64 0, .string ⟨#[]⟩, .bool false] 31 (0, 0)) := HR.out
  generalize X.drew = X2 at M2 G2 R2 ⊢
  clear HM HG HR hS e0 e1 e2 e3 e4
  obtain ⟨e0, e1, e2, e3, e4⟩ := M2.cells
  have r0 : X2.cell? ⟨w.heap.size, 0, none⟩ = some (.int .i64 0) := by rw [cell_of_row _ _ _ _ 31 (0, 0) R2]; rfl
  have r1 : X2.cell? ⟨w.heap.size, 1, none⟩ = some (.int .i64 0) := by rw [cell_of_row _ _ _ _ 31 (0, 0) R2]; rfl
  have r2 : X2.cell? ⟨w.heap.size, 2, none⟩ = some (.string ⟨#[]⟩) := by rw [cell_of_row _ _ _ _ 31 (0, 0) R2]; rfl
  have r3 : X2.cell? ⟨w.heap.size, 3, none⟩ = some (.bool false) := by rw [cell_of_row _ _ _ _ 31 (0, 0) R2]; rfl
  have q0 := frozen_of_row X2 w.heap.size 0 _ 31 R2
  have q1 := frozen_of_row X2 w.heap.size 1 _ 31 R2
  have q2 := frozen_of_row X2 w.heap.size 2 _ 31 R2
  have q3 := frozen_of_row X2 w.heap.size 3 _ 31 R2
  have HM := Lib.hid M2
  have HG := Lib.hid G2
  have HR := Lib.hid R2
  clear M2 G2 R2
  by_cases hcur : cur = []
  · have hz : ((at_ : Int) == (fr : Int)) = true := by rw [HA.out, hcur]; simp
    rw [hz]
    clear hz
    go_wp2_with fail
    have hlt := HL.out
    obtain ⟨z1, z2, z3⟩ := res_store HM.out HG.out (Nat.le_refl _) (by omega) HR.out 0 0 ⟨#[]⟩ false
    have hfr : fr = at_ := by rw [HA.out, hcur]; rfl
    rw [hcur, hfr] at z1
    exact bodyPost_ret (res18 _ _ w.heap.size _ (.bool false) (.int .i64 0) z2 rfl rfl rfl rfl) rfl ⟨by rw [lvv_no], ⟨_, _, z1⟩, z3⟩
  · have hz : ((at_ : Int) == (fr : Int)) = false := by
      have := List.length_pos_iff.2 hcur
      rw [HA.out, beq_eq_false_iff_ne]
      omega
    rw [hz]
    clear hz
    go_wp2_with fail
    refine region_plain (fun W => W.cell? ⟨g, 1, none⟩ = some (.int .i64 (at_ : Int))) 99 (by kernel_rfl) ?_
    have hS : X2.drew.cell? ⟨g, 1, none⟩ = some (.int .i64 (at_ : Int)) := e1
    refine z_take (i := 0) (v := ?_) rfl (by kernel_rfl) (by kernel_rfl) (by kernel_rfl) (by kernel_rfl) (fun _ _ _ h => h) (Or.inl ⟨by rfl, ?_⟩) hS ?_
    rotate_left
    · (rintro wS s0; (try simp only [List.getElem_toArray, List.getElem_cons_zero]); go_simp <;> with_reducible rfl)
    simp only [Act.put, List.getElem_toArray, List.getElem_cons_zero, List.setIfInBounds_toArray, List.set_cons_zero, List.set_cons_succ]
    refine z_take (i := 1) (v := ?_) rfl (by kernel_rfl) (by kernel_rfl) (by kernel_rfl) (by kernel_rfl) (fun _ _ _ h => h) (Or.inl ⟨by rfl, ?_⟩) hS ?_
    rotate_left
    · (rintro wS s0; (try simp only [List.getElem_toArray, List.getElem_cons_zero, List.getElem_cons_succ]); go_simp <;> with_reducible rfl)
    simp only [Act.put, List.getElem_toArray, List.getElem_cons_zero, List.getElem_cons_succ, List.setIfInBounds_toArray, List.set_cons_zero, List.set_cons_succ]
    refine z_take (i := 2) (v := ?_) rfl (by kernel_rfl) (by kernel_rfl) (by kernel_rfl) (by kernel_rfl) (fun _ _ _ h => h) (Or.inl ⟨by rfl, ?_⟩) hS ?_
    rotate_left
    · (rintro wS s0; (try simp only [List.getElem_toArray, List.getElem_cons_zero, List.getElem_cons_succ]); go_simp <;> with_reducible rfl)
    simp only [Act.put, List.getElem_toArray, List.getElem_cons_zero, List.getElem_cons_succ, List.setIfInBounds_toArray, List.set_cons_zero, List.set_cons_succ]
    refine z_take (i := 3) (v := ?_) rfl (by kernel_rfl) (by kernel_rfl) (by kernel_rfl) (by kernel_rfl) (fun _ _ _ h => h) (Or.inl ⟨by rfl, ?_⟩) hS ?_
    rotate_left
    · (rintro wS s0; (try simp only [List.getElem_toArray, List.getElem_cons_zero, List.getElem_cons_succ]); go_simp <;> with_reducible rfl)
    simp only [Act.put, List.getElem_toArray, List.getElem_cons_zero, List.getElem_cons_succ, List.setIfInBounds_toArray, List.set_cons_zero, List.set_cons_succ]
    refine z_take (i := 4) (v := ?_) rfl (by kernel_rfl) (by kernel_rfl) (by kernel_rfl) (by kernel_rfl) (fun _ _ _ h => h) (Or.inl ⟨by rfl, ?_⟩) hS ?_
    rotate_left
    · (rintro wS s0; (try simp only [List.getElem_toArray, List.getElem_cons_zero, List.getElem_cons_succ]); go_simp <;> with_reducible rfl)
    simp only [Act.put, List.getElem_toArray, List.getElem_cons_zero, List.getElem_cons_succ, List.setIfInBounds_toArray, List.set_cons_zero, List.set_cons_succ]
    refine z_take (i := 5) (v := ?_) rfl (by kernel_rfl) (by kernel_rfl) (by kernel_rfl) (by kernel_rfl) (fun _ _ _ h => h) (Or.inl ⟨by rfl, ?_⟩) hS ?_
    rotate_left
    · (rintro wS s0; (try simp only [List.getElem_toArray, List.getElem_cons_zero, List.getElem_cons_succ]); go_simp <;> with_reducible rfl)
    simp only [Act.put, List.getElem_toArray, List.getElem_cons_zero, List.getElem_cons_succ, List.setIfInBounds_toArray, List.set_cons_zero, List.set_cons_succ]
    refine z_take (i := 6) (v := ?_) rfl (by kernel_rfl) (by kernel_rfl) (by kernel_rfl) (by kernel_rfl) (fun _ _ _ h => h) (Or.inl ⟨by rfl, ?_⟩) hS ?_
    rotate_left
    · (rintro wS s0; (try simp only [List.getElem_toArray, List.getElem_cons_zero, List.getElem_cons_succ]); go_simp <;> with_reducible rfl)
    simp only [Act.put, List.getElem_toArray, List.getElem_cons_zero, List.getElem_cons_succ, List.setIfInBounds_toArray, List.set_cons_zero, List.set_cons_succ]
    refine z_take (i := 7) (v := ?_) rfl (by kernel_rfl) (by kernel_rfl) (by kernel_rfl) (by kernel_rfl) (fun _ _ _ h => h) (Or.inl ⟨by rfl, ?_⟩) hS ?_
    rotate_left
    · (rintro wS s0; (try simp only [List.getElem_toArray, List.getElem_cons_zero, List.getElem_cons_succ]); go_simp <;> with_reducible rfl)
    simp only [Act.put, List.getElem_toArray, List.getElem_cons_zero, List.getElem_cons_succ, List.setIfInBounds_toArray, List.set_cons_zero, List.set_cons_succ]
    refine z_take (i := 8) (v := ?_) rfl (by kernel_rfl) (by kernel_rfl) (by kernel_rfl) (by kernel_rfl) (fun _ _ _ h => h) (Or.inl ⟨by rfl, ?_⟩) hS ?_
    rotate_left
    · (rintro wS s0; (try simp only [List.getElem_toArray, List.getElem_cons_zero, List.getElem_cons_succ]); go_simp <;> with_reducible rfl)
    simp only [Act.put, List.getElem_toArray, List.getElem_cons_zero, List.getElem_cons_succ, List.setIfInBounds_toArray, List.set_cons_zero, List.set_cons_succ]
    have hline := line_any X2.drew g m at_ fr cur true O co (HM.out.below (Below.refl _ _).drew) 0 (by omega) (by have := HA.out; have := HB.out; omega)
    rw [Nat.add_zero, ← HA.out] at hline
    have HLI := Lib.hid hline
    clear hline
    refine z_one (i := 9) (by kernel_rfl) rfl rfl ?_
    go_simp
    refine HLI.out.mono ?_
    rintro e w1 ⟨rfl, hf, hgw⟩
    clear r0 r1 r2 r3 q0 q1 q2 q3 e0 e1 e2 e3 e4 HLI hS
    have hlt := HL.out
    have R3 : w1.heap[w.heap.size]? = some (.cells #[.int .i64 0, .int .i64 0, .string ⟨#[]⟩, .bool false] 31 (0, 0)) := (hgw.block _ (Array.getElem?_eq_some_iff.1 HR.out).1 (fun e => by cases e; omega)).trans HR.out
    have r0 : w1.cell? ⟨w.heap.size, 0, none⟩ = some (.int .i64 0) := by rw [cell_of_row _ _ _ _ 31 (0, 0) R3]; rfl
    have r1 : w1.cell? ⟨w.heap.size, 1, none⟩ = some (.int .i64 0) := by rw [cell_of_row _ _ _ _ 31 (0, 0) R3]; rfl
    have r2 : w1.cell? ⟨w.heap.size, 2, none⟩ = some (.string ⟨#[]⟩) := by rw [cell_of_row _ _ _ _ 31 (0, 0) R3]; rfl
    have r3 : w1.cell? ⟨w.heap.size, 3, none⟩ = some (.bool false) := by rw [cell_of_row _ _ _ _ 31 (0, 0) R3]; rfl
    have q0 := frozen_of_row w1 w.heap.size 0 _ 31 R3
    have q1 := frozen_of_row w1 w.heap.size 1 _ 31 R3
    have q2 := frozen_of_row w1 w.heap.size 2 _ 31 R3
    have q3 := frozen_of_row w1 w.heap.size 3 _ 31 R3
    have e1 := hf.cells.2.1
    have hgne : w.heap.size ≠ g := by omega
    have HG3 : Hid (w.grownBy w1 (some g)) := Lib.hid ⟨hgw.os.trans HG.out.os, hgw.tape.trans HG.out.tape, hgw.output.trans HG.out.output, Nat.le_trans HG.out.size hgw.size, fun k hk hn => (hgw.block k (Nat.lt_of_lt_of_le hk HG.out.size) hn).trans (HG.out.block k hk hn)⟩
    have HF3 := Lib.hid hf
    have HR3 := Lib.hid R3
    clear hf hgw R3 hlt
    refine ⟨e1, ?_⟩
    simp only [lvv]
    refine z_one (i := 10) (by kernel_rfl) rfl rfl ?_
    go_simp
    refine z_one (i := 11) (by kernel_rfl) rfl rfl ?_
    go_simp
    refine z_one (i := 12) (by kernel_rfl) rfl rfl ?_
    go_simp
    refine z_done (by kernel_rfl) ?_ _
    have hlt := HL.out
    obtain ⟨z1, z2, z3⟩ := res_store HF3.out HG3.out (Nat.le_refl _) (by omega) HR3.out (mkLine m fr cur 0).a (mkLine m fr cur 0).b (strOfNums (mkLine m fr cur 0).t) (mkLine m fr cur 0).long
    go_wp2_with fail
    exact bodyPost_ret (res18 _ _ w.heap.size _ (.bool true) (.int .i64 0) z2 rfl rfl rfl rfl) rfl ⟨rfl, ⟨_, _, z1⟩, z3⟩

theorem check_nil (w : World) : Calls Try.prog 21 #[.pointer none] w fun e w' => e = .returned (.int .i64 2) ∧ w = w' := by
  go_enter Try.func21, Try.ntmps21
  go_wp2
  go_ret
  exact ⟨rfl, rfl⟩

theorem at_nil (w : World) : Calls Try.prog 15 #[.pointer none] w fun e w' => e = .returned (.int .i64 0) ∧ w = w' := by
  go_enter Try.func15, Try.ntmps15
  go_wp2
  go_ret
  exact ⟨rfl, rfl⟩

theorem held_nil (w : World) : Calls Try.prog 16 #[.pointer none] w fun e w' => e = .returned (.int .i64 0) ∧ w = w' := by
  go_enter Try.func16, Try.ntmps16
  go_wp2
  go_ret
  exact ⟨rfl, rfl⟩

set_option maxHeartbeats 1000000 in
theorem close_nil (w : World) : Calls Try.prog 18 #[.pointer none] w fun e w' => e = .returned (.tuple #[.agg (lvv noLine), .bool false, .int .i64 2]) ∧ Below w.heap.size w w' := by
  have b0 := (Below.refl w.heap.size w).alloc (Nat.le_refl _) (.cells #[.int .i64 0, .int .i64 0, .string ⟨#[]⟩, .bool false] 31)
  have HB := Lib.hid b0
  clear b0
  go_enter Try.func18, Try.ntmps18
  go_wp2_with fail
  refine (check_nil _).mono ?_
  rintro e w1 ⟨rfl, rfl⟩
  go_wp2_with fail
  exact bodyPost_ret (res18 _ _ w.heap.size _ (.bool false) (.int .i64 2) (heap_alloc_new w _) rfl rfl rfl rfl) rfl ⟨by rw [lvv_no], HB.out⟩

set_option maxRecDepth 100000 in
set_option maxHeartbeats 1000000 in
theorem feed_nil (w : World) (v : Value) : Calls Try.prog 12 #[.pointer none, v] w fun e w' => e = .returned (.tuple #[.slice none 0 0, .int .i64 2]) ∧ Below w.heap.size w w' := by
  have b0 := (Below.refl w.heap.size w).alloc (Nat.le_refl _) (.cells #[.pointer none] 36)
  have HB := Lib.hid b0
  clear b0
  go_enter Try.func12, Try.ntmps12
  go_wp2_with fail
  refine (check_nil _).mono ?_
  rintro e w1 ⟨rfl, rfl⟩
  go_wp2_with fail
  go_ret2
  exact ⟨rfl, HB.out⟩

set_option maxRecDepth 100000 in
set_option maxHeartbeats 1000000 in
theorem feed_again (w : World) (g m at_ fr : Nat) (cur : List Int) (O : Option Addr) (co : Nat) (h : IsFr w g m at_ fr cur true O co) (v : Value) : Calls Try.prog 12 #[.pointer (some ⟨g, 0, none⟩), v] w fun e w' => e = .returned (.tuple #[.slice none 0 0, .int .i64 28]) ∧ Below w.heap.size w w' := by
  have b0 := (Below.refl w.heap.size w).alloc (Nat.le_refl _) (.cells #[.pointer (some ⟨g, 0, none⟩)] 36)
  have H0 := Lib.hid (h.below b0)
  have HB := Lib.hid b0
  clear b0 h
  go_enter Try.func12, Try.ntmps12
  go_wp2_with fail
  refine (check_any _ g m at_ fr cur true O co H0.out).mono ?_
  rintro e w1 ⟨rfl, rfl⟩
  rw [if_pos rfl]
  go_wp2_with fail
  go_ret2
  exact ⟨rfl, HB.out⟩
end Go.Proofs.Ytnlnadpbbcjfdaa

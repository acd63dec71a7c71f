/-
 What is left as all ends; and what a nil Framer tells. The chapter's example.
-/
import Derived.Test.YtngmgpmkjdacaaaGreatDoorMLnC
import Derived.Lib.SlBytesConst
set_option linter.unusedSimpArgs false
set_option linter.unusedVariables false
namespace Go.Proofs.YtngmgpmkjdacaaaGreatDoor
set_option maxRecDepth 100000
open Go.RowKit Go.Shelf

theorem region_plain {P : Program} {id : Nat} {ops : Array Oper} {Q : Exit → Act → World → Prop} (S : World → Prop) (z : Nat) {a : Act} {w : World} (hm : P.follows .mixedOrders = true)
  (h : wpAnyZ P .any ops Q S z ops.size (Array.replicate ops.size false) a w.drew) : (Code.region id ops true).wp P Q a w := wp_region_any hm (any_of_z _ _ _ _ h)

def noLine : LV := ⟨0, 0, [], false⟩
theorem lvv_no : lvv noLine = #[.int .i64 0, .int .i64 0, .string ⟨#[]⟩, .bool false] := rfl

theorem res18 (tmps : Array Value) (w : World) (g : Nat) (cs : Array Value) (x y : Value) (hg : w.heap[g]? = some (.cells cs 119 (0, 0))) (hs : cs.size = 4) (hp : tmps.getD 2 undef = .pointer (some ⟨g, 0, none⟩)) (hx : tmps.getD 3 undef = x) (hy : tmps.getD 4 undef = y) :
  (results Tryz.f58 tmps).run Tryz.prog w = .ok (.tuple #[.agg cs, x, y]) w := by
 have hp' : tmps[2]?.getD undef = .pointer (some ⟨g, 0, none⟩) := by simpa using hp
 have hx' : tmps[3]?.getD undef = x := by simpa using hx
 have hy' : tmps[4]?.getD undef = y := by simpa using hy
 have hl := run_loadVar_row (P := Tryz.prog) w g 119 119 cs (0, 0) _ hg Tryz.underlying119 rfl (by rw [hs]; exact info119)
 simp [results, hp', hx', hy', asAddr, hl]

/-- A line stored into the result's box. -/
def rs (W : World) (r : Nat) (x y : Int) (t : ByteArray) (b : Bool) : World := (((W.setCell ⟨r, 0, none⟩ (.int .i64 x)).setCell ⟨r, 1, none⟩ (.int .i64 y)).setCell ⟨r, 2, none⟩ (.string t)).setCell ⟨r, 3, none⟩ (.bool b)

theorem res_store {w W : World} {g m at_ fr co r : Nat} {cur : List Int} {cl : Bool} {O : Option Addr} (hf : IsFr W g m at_ fr cur cl O co) (hg : w.grownBy W (some g)) (hr : w.heap.size ≤ r) (hne : g ≠ r)
  (hrow : W.heap[r]? = some (.cells #[.int .i64 0, .int .i64 0, .string ⟨#[]⟩, .bool false] 119 (0, 0))) (x y : Int) (t : ByteArray) (b : Bool) :
  IsFr (rs W r x y t b) g m at_ fr cur cl O co ∧ (rs W r x y t b).heap[r]? = some (.cells #[.int .i64 x, .int .i64 y, .string t, .bool b] 119 (0, 0)) ∧ w.grownBy (rs W r x y t b) (some g) := by
 have h0 := heap_setCell_same _ r 0 _ 119 (.int .i64 x) hrow
 have h1 := heap_setCell_same _ r 1 _ 119 (.int .i64 y) h0
 have h2 := heap_setCell_same _ r 2 _ 119 (.string t) h1
 have h3 := heap_setCell_same _ r 3 _ 119 (.bool b) h2
 have s0 := hf.sl.put (g := r) (j := 0) (v := .int .i64 0) (.int .i64 x) (by rw [cell_of_row _ _ _ _ 119 (0, 0) hrow]; rfl) (fun z e => by cases e)
 have s1 := s0.put (g := r) (j := 1) (v := .int .i64 0) (.int .i64 y) (by rw [cell_of_row _ _ _ _ 119 (0, 0) h0]; rfl) (fun z e => by cases e)
 have s2 := s1.put (g := r) (j := 2) (v := .string ⟨#[]⟩) (.string t) (by rw [cell_of_row _ _ _ _ 119 (0, 0) h1]; rfl) (fun z e => by cases e)
 have s3 := s2.put (g := r) (j := 3) (v := .bool false) (.bool b) (by rw [cell_of_row _ _ _ _ 119 (0, 0) h2]; rfl) (fun z e => by cases e)
 refine ⟨{ hf with row := ?_, sl := s3 }, h3, grown_step (grown_step (grown_step (grown_step hg _ (.inr hr) _) _ (.inr hr) _) _ (.inr hr) _) _ (.inr hr) _⟩
 exact (heap_setCell_other _ _ _ _ hne).trans ((heap_setCell_other _ _ _ _ hne).trans ((heap_setCell_other _ _ _ _ hne).trans ((heap_setCell_other _ _ _ _ hne).trans hf.row)))

set_option maxHeartbeats 1000000 in
theorem close_any (w : World) (g m at_ fr : Nat) (cur : List Int) (O : Option Addr) (co : Nat) (h : IsFr w g m at_ fr cur false O co) (ha : at_ = fr + cur.length) (hb : at_ ≤ 100000) :
  Calls Tryz.prog 58 #[.pointer (some ⟨g, 0, none⟩)] w fun e w' => ∃ O' co', e = .returned (.tuple #[.agg (lvv (if cur = [] then noLine else mkLine m fr cur 0)), .bool (decide (cur ≠ [])), .int .i64 0]) ∧ IsFr w' g m at_ at_ [] true O' co' ∧ w.grownBy w' (some g) := by
 have b0 := (Below.refl w.heap.size w).alloc (Nat.le_refl _) (.cells #[.int .i64 0, .int .i64 0, .string ⟨#[]⟩, .bool false] 119)
 have hlt := h.lt
 have hn0 : w.heap.size ≠ g := by omega
 have f0 := h.below b0
 have f1 := f0.put_closed true
 have c4 := f0.cells.2.2.2.2
 have q4 := f0.free 4
 have g1 := grown_step (grown_below (row := some g) b0) ⟨g, 4, none⟩ (.inl rfl) (.bool true)
 have hres : ((w.alloc (.cells #[.int .i64 0, .int .i64 0, .string ⟨#[]⟩, .bool false] 119)).setCell ⟨g, 4, none⟩ (.bool true)).heap[w.heap.size]? = some (.cells #[.int .i64 0, .int .i64 0, .string ⟨#[]⟩, .bool false] 119 (0, 0)) :=
  (heap_setCell_other _ _ _ _ hn0).trans (heap_alloc_new w _)
 have H0 := Lib.hid f0
 have H1 := Lib.hid f1
 have HG := Lib.hid g1
 have HR := Lib.hid hres
 have HA := Lib.hid ha
 have HB := Lib.hid hb
 have HL := Lib.hid hlt
 clear h b0 f0 f1 g1 hres ha hb hlt hn0
 go_enter Tryz.func58, Tryz.ntmps58
 go_wp2_with fail
 refine (check_any _ g m at_ fr cur false O co H0.out).mono ?_
 rintro e w1 ⟨rfl, rfl⟩
 rw [if_neg (by decide)]
 go_wp2_with fail
 have M1 := H1.out
 have G1 := HG.out
 have R1 := HR.out
 generalize (w.alloc (.cells #[.int .i64 0, .int .i64 0, .string ⟨#[]⟩, .bool false] 119)).setCell ⟨g, 4, none⟩ (.bool true) = X at M1 G1 R1 ⊢
 clear c4 q4 H0 H1 HG HR
 obtain ⟨e0, e1, e2, e3, e4⟩ := M1.cells
 have HM := Lib.hid M1
 have HG := Lib.hid G1
 have HR := Lib.hid R1
 clear M1 G1 R1
 refine region_plain (fun W => W.cell? ⟨g, 1, none⟩ = some (.int .i64 (at_ : Int)) ∧ W.cell? ⟨g, 2, none⟩ = some (.int .i64 (fr : Int))) 99 (by kernel_rfl) ?_
 have hS : X.drew.cell? ⟨g, 1, none⟩ = some (.int .i64 (at_ : Int)) ∧ X.drew.cell? ⟨g, 2, none⟩ = some (.int .i64 (fr : Int)) := ⟨e1, e2⟩
 refine z_t 0 (v := ?_) hS ?_ ?_
 rotate_left
 ·(rintro wS ⟨s0, s1⟩; go_simp <;> with_reducible rfl)
 simp only [Act.put, List.setIfInBounds_toArray, List.set_cons_zero, List.set_cons_succ]
 refine z_t 1 (v := ?_) hS ?_ ?_
 rotate_left
 ·(rintro wS ⟨s0, s1⟩; go_simp <;> with_reducible rfl)
 simp only [Act.put, List.setIfInBounds_toArray, List.set_cons_zero, List.set_cons_succ]
 refine z_t 2 (v := ?_) hS ?_ ?_
 rotate_left
 ·(rintro wS ⟨s0, s1⟩; go_simp <;> with_reducible rfl)
 simp only [Act.put, List.setIfInBounds_toArray, List.set_cons_zero, List.set_cons_succ]
 refine z_t 3 (v := ?_) hS ?_ ?_
 rotate_left
 ·(rintro wS ⟨s0, s1⟩; go_simp <;> with_reducible rfl)
 simp only [Act.put, List.setIfInBounds_toArray, List.set_cons_zero, List.set_cons_succ]
 refine z_t 4 (v := ?_) hS ?_ ?_
 rotate_left
 ·(rintro wS ⟨s0, s1⟩; go_simp <;> with_reducible rfl)
 simp only [Act.put, List.setIfInBounds_toArray, List.set_cons_zero, List.set_cons_succ]
 refine z_t 5 (v := ?_) hS ?_ ?_
 rotate_left
 ·(rintro wS ⟨s0, s1⟩; go_simp <;> with_reducible rfl)
 simp only [Act.put, List.setIfInBounds_toArray, List.set_cons_zero, List.set_cons_succ]
 refine z_t 6 (v := ?_) hS ?_ ?_
 rotate_left
 ·(rintro wS ⟨s0, s1⟩; go_simp <;> with_reducible rfl)
 simp only [Act.put, List.setIfInBounds_toArray, List.set_cons_zero, List.set_cons_succ]
 refine z_t 7 (v := ?_) hS ?_ ?_
 rotate_left
 ·(rintro wS ⟨s0, s1⟩; go_simp <;> with_reducible rfl)
 simp only [Act.put, List.setIfInBounds_toArray, List.set_cons_zero, List.set_cons_succ]
 refine z_t 8 (v := ?_) hS ?_ ?_
 rotate_left
 ·(rintro wS ⟨s0, s1⟩; go_simp <;> with_reducible rfl)
 simp only [Act.put, List.setIfInBounds_toArray, List.set_cons_zero, List.set_cons_succ]
 refine z_done (by kernel_rfl) ?_ _
 have M2 := HM.out.below (Below.refl _ _).drew
 have G2 := grown_drew HG.out
 have R2 : X.drew.heap[w.heap.size]? = some (.cells #[.int .i64 0, .int .i64 0, .string ⟨#[]⟩, .bool false] 119 (0, 0)) := HR.out
 generalize X.drew = X2 at M2 G2 R2 ⊢
 clear HM HG HR hS e0 e1 e2 e3 e4
 obtain ⟨e0, e1, e2, e3, e4⟩ := M2.cells
 have r0 : X2.cell? ⟨w.heap.size, 0, none⟩ = some (.int .i64 0) := by rw [cell_of_row _ _ _ _ 119 (0, 0) R2]; rfl
 have r1 : X2.cell? ⟨w.heap.size, 1, none⟩ = some (.int .i64 0) := by rw [cell_of_row _ _ _ _ 119 (0, 0) R2]; rfl
 have r2 : X2.cell? ⟨w.heap.size, 2, none⟩ = some (.string ⟨#[]⟩) := by rw [cell_of_row _ _ _ _ 119 (0, 0) R2]; rfl
 have r3 : X2.cell? ⟨w.heap.size, 3, none⟩ = some (.bool false) := by rw [cell_of_row _ _ _ _ 119 (0, 0) R2]; rfl
 have q0 := frozen_of_row X2 w.heap.size 0 _ 119 R2
 have q1 := frozen_of_row X2 w.heap.size 1 _ 119 R2
 have q2 := frozen_of_row X2 w.heap.size 2 _ 119 R2
 have q3 := frozen_of_row X2 w.heap.size 3 _ 119 R2
 have HM := Lib.hid M2
 have HG := Lib.hid G2
 have HR := Lib.hid R2
 clear M2 G2 R2
 by_cases hcur : cur = []
 ·have hz : ((at_ : Int) == (fr : Int)) = true := by rw [HA.out, hcur]; simp
  rw [hz]
  clear hz
  go_wp2_with fail
  have hlt := HL.out
  obtain ⟨z1, z2, z3⟩ := res_store HM.out HG.out (Nat.le_refl _) (by omega) HR.out 0 0 ⟨#[]⟩ false
  have hfr : fr = at_ := by rw [HA.out, hcur]; rfl
  rw [hcur, hfr] at z1
  exact bodyPost_ret (res18 _ _ w.heap.size _ (.bool false) (.int .i64 0) z2 rfl rfl rfl rfl) rfl ⟨by rw [lvv_no], ⟨_, _, z1⟩, z3⟩
 ·have hz : ((at_ : Int) == (fr : Int)) = false := by
   have := List.length_pos_iff.2 hcur
   rw [HA.out, beq_eq_false_iff_ne]
   omega
  rw [hz]
  clear hz
  go_wp2_with fail
  refine region_plain (fun W => W.cell? ⟨g, 1, none⟩ = some (.int .i64 (at_ : Int))) 99 (by kernel_rfl) ?_
  have hS : X2.drew.cell? ⟨g, 1, none⟩ = some (.int .i64 (at_ : Int)) := e1
  refine z_t 0 (v := ?_) hS ?_ ?_
  rotate_left
  ·(rintro wS s0; go_simp <;> with_reducible rfl)
  simp only [Act.put, List.setIfInBounds_toArray, List.set_cons_zero, List.set_cons_succ]
  refine z_t 1 (v := ?_) hS ?_ ?_
  rotate_left
  ·(rintro wS s0; go_simp <;> with_reducible rfl)
  simp only [Act.put, List.setIfInBounds_toArray, List.set_cons_zero, List.set_cons_succ]
  refine z_t 2 (v := ?_) hS ?_ ?_
  rotate_left
  ·(rintro wS s0; go_simp <;> with_reducible rfl)
  simp only [Act.put, List.setIfInBounds_toArray, List.set_cons_zero, List.set_cons_succ]
  refine z_t 3 (v := ?_) hS ?_ ?_
  rotate_left
  ·(rintro wS s0; go_simp <;> with_reducible rfl)
  simp only [Act.put, List.setIfInBounds_toArray, List.set_cons_zero, List.set_cons_succ]
  refine z_t 4 (v := ?_) hS ?_ ?_
  rotate_left
  ·(rintro wS s0; go_simp <;> with_reducible rfl)
  simp only [Act.put, List.setIfInBounds_toArray, List.set_cons_zero, List.set_cons_succ]
  refine z_t 5 (v := ?_) hS ?_ ?_
  rotate_left
  ·(rintro wS s0; go_simp <;> with_reducible rfl)
  simp only [Act.put, List.setIfInBounds_toArray, List.set_cons_zero, List.set_cons_succ]
  refine z_t 6 (v := ?_) hS ?_ ?_
  rotate_left
  ·(rintro wS s0; go_simp <;> with_reducible rfl)
  simp only [Act.put, List.setIfInBounds_toArray, List.set_cons_zero, List.set_cons_succ]
  refine z_t 7 (v := ?_) hS ?_ ?_
  rotate_left
  ·(rintro wS s0; go_simp <;> with_reducible rfl)
  simp only [Act.put, List.setIfInBounds_toArray, List.set_cons_zero, List.set_cons_succ]
  refine z_t 8 (v := ?_) hS ?_ ?_
  rotate_left
  ·(rintro wS s0; go_simp <;> with_reducible rfl)
  simp only [Act.put, List.setIfInBounds_toArray, List.set_cons_zero, List.set_cons_succ]
  have hline := line_any X2.drew g m at_ fr cur true O co (HM.out.below (Below.refl _ _).drew) 0 (by omega) (by have := HA.out; have := HB.out; omega)
  rw [Nat.add_zero, ← HA.out] at hline
  have HLI := Lib.hid hline
  clear hline
  refine z_one (i := 9) (by kernel_rfl) rfl rfl ?_
  go_simp
  refine HLI.out.mono ?_
  rintro e w1 ⟨rfl, hf, hgw⟩
  clear r0 r1 r2 r3 q0 q1 q2 q3 e0 e1 e2 e3 e4 HLI hS
  have hlt := HL.out
  have R3 : w1.heap[w.heap.size]? = some (.cells #[.int .i64 0, .int .i64 0, .string ⟨#[]⟩, .bool false] 119 (0, 0)) := (hgw.block _ (Array.getElem?_eq_some_iff.1 HR.out).1 (fun e => by cases e; omega)).trans HR.out
  have r0 : w1.cell? ⟨w.heap.size, 0, none⟩ = some (.int .i64 0) := by rw [cell_of_row _ _ _ _ 119 (0, 0) R3]; rfl
  have r1 : w1.cell? ⟨w.heap.size, 1, none⟩ = some (.int .i64 0) := by rw [cell_of_row _ _ _ _ 119 (0, 0) R3]; rfl
  have r2 : w1.cell? ⟨w.heap.size, 2, none⟩ = some (.string ⟨#[]⟩) := by rw [cell_of_row _ _ _ _ 119 (0, 0) R3]; rfl
  have r3 : w1.cell? ⟨w.heap.size, 3, none⟩ = some (.bool false) := by rw [cell_of_row _ _ _ _ 119 (0, 0) R3]; rfl
  have q0 := frozen_of_row w1 w.heap.size 0 _ 119 R3
  have q1 := frozen_of_row w1 w.heap.size 1 _ 119 R3
  have q2 := frozen_of_row w1 w.heap.size 2 _ 119 R3
  have q3 := frozen_of_row w1 w.heap.size 3 _ 119 R3
  have e1 := hf.cells.2.1
  have hgne : w.heap.size ≠ g := by omega
  have HG3 : Hid (w.grownBy w1 (some g)) := Lib.hid ⟨hgw.os.trans HG.out.os, hgw.tape.trans HG.out.tape, hgw.output.trans HG.out.output, Nat.le_trans HG.out.size hgw.size, fun k hk hn => (hgw.block k (Nat.lt_of_lt_of_le hk HG.out.size) hn).trans (HG.out.block k hk hn)⟩
  have HF3 := Lib.hid hf
  have HR3 := Lib.hid R3
  clear hf hgw R3 hlt
  refine ⟨e1, ?_⟩
  simp only [lvv]
  refine z_one (i := 10) (by kernel_rfl) rfl rfl ?_
  go_simp
  refine z_one (i := 11) (by kernel_rfl) rfl rfl ?_
  go_simp
  refine z_one (i := 12) (by kernel_rfl) rfl rfl ?_
  go_simp
  refine z_done (by kernel_rfl) ?_ _
  have hlt := HL.out
  obtain ⟨z1, z2, z3⟩ := res_store HF3.out HG3.out (Nat.le_refl _) (by omega) HR3.out (mkLine m fr cur 0).a (mkLine m fr cur 0).b (strOfNums (mkLine m fr cur 0).t) (mkLine m fr cur 0).long
  go_wp2_with fail
  exact bodyPost_ret (res18 _ _ w.heap.size _ (.bool true) (.int .i64 0) z2 rfl rfl rfl rfl) rfl ⟨rfl, ⟨_, _, z1⟩, z3⟩

end Go.Proofs.YtngmgpmkjdacaaaGreatDoor
namespace Go.Proofs.YtngmgpmkjdacaaaGreatDoor
set_option maxRecDepth 100000
open Go.RowKit Go.Shelf

/-- A literal's row, marked or not. -/
theorem sl_made' (w : World) (l : List Int) (hb : ∀ z ∈ l, 0 ≤ z ∧ z < 256) (cs : Array Value) (hc : cs = (l.map (Value.int .u8)).toArray) (fr : Nat × Nat) : Sl (w.alloc (.cells cs 5 fr)) (some ⟨w.heap.size, 0, none⟩) l.length l := by
 subst hc
 refine ⟨rfl, hb, .inr ⟨w.heap.size, 0, rfl, by simp, fun i hi => ?_⟩⟩
 rw [cell_of_row _ _ _ _ 5 fr (heap_alloc_new w _), Nat.zero_add]
 simp [hi]

/-- A row of lines, in its shape. -/
theorem OwnL.form {w : World} {base : Nat} {v : Value} {ls : List LV} (h : OwnL w base v ls) : ∃ O cap, v = .slice O ls.length cap ∧ ls.length ≤ cap ∧ (∀ ad, O = some ad → base ≤ ad.block ∧ ad.block < w.heap.size) ∧
  (ls ≠ [] → ∃ q, O = some ⟨q, 0, none⟩ ∧ ∀ i x, ls[i]? = some x → ∀ j u, (lvv x)[j]? = some u → w.cell? ⟨q, i * 4 + j, none⟩ = some u) := by
 have hl := h.lt
 have hcs := fun q e => World.ownsRow.cells h (g := q) e
 rcases h.2 with ⟨rfl, h0⟩ | ⟨q, cap, cs, rfl, hb, hg, hc, hR⟩
 ·exact ⟨none, 0, by rw [h0], by omega, fun ad e => (by cases e), fun hn => absurd (List.length_eq_zero_iff.1 h0) hn⟩
 ·refine ⟨some ⟨q, 0, none⟩, cap, rfl, hc, fun ad e => (by cases e; exact hl q rfl), fun hne => ⟨q, rfl, fun i x hx j u hj => ?_⟩⟩
  have e : (⟨q, 0, none⟩ : Addr).add (i * 4 + j) = ⟨q, i * 4 + j, none⟩ := by unfold Addr.add; split <;> simp_all
  rw [← e]
  refine hcs q rfl _ _ ?_
  have hj4 : j < 4 := by
   have := (Array.getElem?_eq_some_iff.1 hj).1
   exact this
  clear hne hR hcs hl h hg hc e
  induction ls generalizing i with
  | nil => cases hx
  | cons y ls ih =>
   unfold lcells
   rw [List.flatMap_cons]
   cases i with
   | zero =>
    cases hx
    rw [List.getElem?_append_left (by show 0 * 4 + j < 4; omega), Nat.zero_mul, Nat.zero_add, Array.getElem?_toList]
    exact hj
   | succ i =>
    rw [List.getElem?_append_right (by show 4 ≤ (i + 1) * 4 + j; omega)]
    rw [show (i + 1) * 4 + j - (lvv y).toList.length = i * 4 + j from by show (i + 1) * 4 + j - 4 = _; omega]
    exact ih i hx

theorem OwnL.cell {w : World} {base q n cap : Nat} {ls : List LV} (h : OwnL w base (.slice (some ⟨q, 0, none⟩) n cap) ls) {i : Nat} {x : LV} (hx : ls[i]? = some x) :
  w.cell? ⟨q, i * 4 + 0, none⟩ = some (.int .i64 x.a) ∧ w.cell? ⟨q, i * 4 + 1, none⟩ = some (.int .i64 x.b) ∧ w.cell? ⟨q, i * 4 + 2, none⟩ = some (.string (strOfNums x.t)) ∧ w.cell? ⟨q, i * 4 + 3, none⟩ = some (.bool x.long) := by
 obtain ⟨O, c, e, _, _, hc⟩ := h.form
 obtain ⟨q', e2, hc⟩ := hc (by rintro rfl; simp at hx)
 cases e
 cases e2
 exact ⟨hc i x hx 0 _ rfl, hc i x hx 1 _ rfl, hc i x hx 2 _ rfl, hc i x hx 3 _ rfl⟩

end Go.Proofs.YtngmgpmkjdacaaaGreatDoor

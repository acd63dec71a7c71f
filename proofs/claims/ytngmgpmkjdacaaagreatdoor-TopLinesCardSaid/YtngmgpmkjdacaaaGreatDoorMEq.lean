/-
 Rows that read alike are equal: slices.Equal at values and at tags. Metrics and events that read alike are equal. Rows of events that read alike are equal.
-/
import Derived.Test.YtngmgpmkjdacaaaGreatDoorMGraph
import Derived.Test.YtngmgpmkjdacaaaGreatDoorMLnD
import Derived.Deep.LoopGhost
import Derived.Test.YtngmgpmkjdacaaaGreatDoorMSa
set_option linter.unusedSimpArgs false
set_option linter.unusedVariables false
namespace Go.Eng
set_option maxRecDepth 100000
open Go Go.Proofs Go.RowKit Go.Shelf Go.Proofs.YtngmgpmkjdacaaaGreatDoor

theorem hidQ {p : Prop} (h : p) : Hid p := h
theorem slAt_form {w : World} {V : Value} {el e : Nat} {cells : List Value} (he : 0 < e) (h : SlAt w V el e cells) : ∃ A n c, V = .slice A n c ∧ n * e = cells.length ∧ (0 < n → ∃ b o, A = some ⟨b, o, none⟩ ∧ ∀ k v, cells[k]? = some v → w.cell? ⟨b, o + k, none⟩ = some v) := by
 rcases h with ⟨rfl, rfl⟩ | ⟨b, o, len, cap, c, fz, rfl, h1, h2, h3, h4, h5, h6⟩
 ·exact ⟨none, 0, 0, rfl, by simp, fun h => by omega⟩
 ·refine ⟨_, len, cap, rfl, h4.symm, fun _ => ⟨b, o, rfl, fun k v hk => ?_⟩⟩
  rw [cell_of_row _ _ _ _ _ _ h5]
  exact h6 k v hk
theorem dec_ne (a : Bool) (b c : Int) (w : World) : (binOp .neq 36 (.agg #[.bool a, .int .u64 b, .int .i64 c]) (.agg #[.bool a, .int .u64 b, .int .i64 c])).run Tryz.prog w = .ok (.bool false) w := by
 have u3 := Tryz.underlying3
 have a3 := Tryz.isAgg3
 have z3 := Tryz.sizeOf3
 have hS : Tryz.prog.underlying 36 = some (.struct (Tryz.prog.fieldsOf 36)) := by kernel_rfl
 have hp : Tryz.prog.stoodInHeld 36 = false := by kernel_rfl
 rw [run_neq_struct, show (10000 : Nat) = 9999 + 1 from rfl, run_equalIn_agg w 9999 36 _ _ hS hp]
 simp only [Program.fieldsOf, Tryz.underlying36]
 go_simp
theorem tag_same (x y : ByteArray) (w : World) : (binOp .neq 39 (.agg #[.string x, .string y]) (.agg #[.string x, .string y])).run Tryz.prog w = .ok (.bool false) w := by
 have u9 := Tryz.underlying9
 have a9 := Tryz.isAgg9
 have z9 := Tryz.sizeOf9
 have hS : Tryz.prog.underlying 39 = some (.struct (Tryz.prog.fieldsOf 39)) := by kernel_rfl
 have hp : Tryz.prog.stoodInHeld 39 = false := by kernel_rfl
 rw [run_neq_struct, show (10000 : Nat) = 9999 + 1 from rfl, run_equalIn_agg w 9999 39 _ _ hS hp]
 simp only [Program.fieldsOf, Tryz.underlying39]
 go_simp

set_option maxHeartbeats 4000000 in
theorem eqTag_any {w : World} {V V' : Value} {cells : List Value} (h : SlAt w V 39 2 cells) (h' : SlAt w V' 39 2 cells) (ht : RowTy tagTys cells) (hb : cells.length ≤ 3000000) :
  Calls Tryz.prog 83 #[V, V'] w fun e w' => e = .returned (.bool true) ∧ ∃ q, w' = w.drewN q := by
 obtain ⟨A, n, c, rfl, hn, hA⟩ := slAt_form (by decide) h
 obtain ⟨A', n', c', rfl, hn', hA'⟩ := slAt_form (by decide) h'
 have hnn : n = n' := by omega
 subst hnn
 have hn2 : n ≤ 1500000 := by omega
 have HA := hidQ hA
 have HA' := hidQ hA'
 have HT := hidQ ht
 have HN := hidQ hn
 clear hA hA' ht hn hn' h h' hb
 go_enter Tryz.func83, Tryz.ntmps83
 go_wp2
 go_loopg [13] n (fun kk s13 wr => ∃ (i q : Nat), s13 = .int .i64 i ∧ i ≤ n ∧ kk = n - i ∧ wr = w.drewN q)
 case atStart => exact ⟨0, 0, rfl, Nat.zero_le _, rfl, rfl⟩
 case round =>
  obtain ⟨i, q, rfl, hi, rfl, rfl⟩ := hrel
  by_cases hlt : i < n
  ·have hltz : (i : Int) < (n : Int) := by omega
   obtain ⟨b, o, rfl, hc⟩ := HA.out (by omega)
   obtain ⟨b', o', rfl, hc'⟩ := HA'.out (by omega)
   have hl0 : i * 2 < cells.length := by rw [← HN.out]; omega
   have hl1 : i * 2 + 1 < cells.length := by rw [← HN.out]; omega
   have g0 : cells[i * 2]? = some cells[i * 2] := List.getElem?_eq_getElem hl0
   have g1 : cells[i * 2 + 1]? = some cells[i * 2 + 1] := List.getElem?_eq_getElem hl1
   obtain ⟨y0, e0, ⟨x0, f0⟩⟩ := HT.out _ _ g0
   obtain ⟨y1, e1, ⟨x1, f1⟩⟩ := HT.out _ _ g1
   rw [show tagTys.length = 2 from rfl, show i * 2 % 2 = 0 by omega] at e0
   rw [show tagTys.length = 2 from rfl, show (i * 2 + 1) % 2 = 1 by omega] at e1
   cases e0
   cases e1
   rw [f0] at g0
   rw [f1] at g1
   have s0 := hc _ _ g0
   have s1 := hc _ _ g1
   have s2 := hc' _ _ g0
   have s3 := hc' _ _ g1
   rw [← Nat.add_assoc] at s1 s3
   simp only [Ty.val] at s0 s1 s2 s3
   generalize ByteArray.mk x0.toS.toArray = z0 at s0 s2
   generalize ByteArray.mk x1.toS.toArray = z1 at s1 s3
   have ne := tag_same z0 z1
   clear hc hc' hl0 hl1 g0 g1 f0 f1
   have hw : ∃ wr, wr = w.drewN q := ⟨_, rfl⟩
   go_wp2_with fail
   refine region_plain (fun Z => Z.cell? ⟨b, o + i * 2, none⟩ = some (.string z0) ∧ Z.cell? ⟨b, o + i * 2 + 1, none⟩ = some (.string z1) ∧ Z.cell? ⟨b', o' + i * 2, none⟩ = some (.string z0) ∧ Z.cell? ⟨b', o' + i * 2 + 1, none⟩ = some (.string z1)) 99 (by kernel_rfl) ?_
   have hS : (w.drewN q).drew.cell? ⟨b, o + i * 2, none⟩ = some (.string z0) ∧ (w.drewN q).drew.cell? ⟨b, o + i * 2 + 1, none⟩ = some (.string z1) ∧ (w.drewN q).drew.cell? ⟨b', o' + i * 2, none⟩ = some (.string z0) ∧ (w.drewN q).drew.cell? ⟨b', o' + i * 2 + 1, none⟩ = some (.string z1) := ⟨s0, s1, s2, s3⟩
   refine z_t 0 (v := ?_) hS ?_ ?_
   rotate_left
   ·(rintro wS ⟨s0, s1, s2, s3⟩; go_simp <;> with_reducible rfl)
   simp only [Act.put, List.setIfInBounds_toArray, List.set_cons_zero, List.set_cons_succ]
   refine z_t 1 (v := ?_) hS ?_ ?_
   rotate_left
   ·(rintro wS ⟨s0, s1, s2, s3⟩; go_simp <;> with_reducible rfl)
   simp only [Act.put, List.setIfInBounds_toArray, List.set_cons_zero, List.set_cons_succ]
   refine z_t 2 (v := ?_) hS ?_ ?_
   rotate_left
   ·(rintro wS ⟨s0, s1, s2, s3⟩; go_simp <;> with_reducible rfl)
   simp only [Act.put, List.setIfInBounds_toArray, List.set_cons_zero, List.set_cons_succ]
   refine z_t 3 (v := ?_) hS ?_ ?_
   rotate_left
   ·(rintro wS ⟨s0, s1, s2, s3⟩; go_simp <;> with_reducible rfl)
   simp only [Act.put, List.setIfInBounds_toArray, List.set_cons_zero, List.set_cons_succ]
   refine z_t 4 (v := ?_) hS ?_ ?_
   rotate_left
   ·(rintro wS ⟨s0, s1, s2, s3⟩; go_simp <;> with_reducible rfl)
   simp only [Act.put, List.setIfInBounds_toArray, List.set_cons_zero, List.set_cons_succ]
   refine z_t 5 (v := ?_) hS ?_ ?_
   rotate_left
   ·(rintro wS ⟨s0, s1, s2, s3⟩; go_simp <;> with_reducible rfl)
   simp only [Act.put, List.setIfInBounds_toArray, List.set_cons_zero, List.set_cons_succ]
   refine z_t 6 (v := ?_) hS ?_ ?_
   rotate_left
   ·(rintro wS ⟨s0, s1, s2, s3⟩; go_simp <;> with_reducible rfl)
   simp only [Act.put, List.setIfInBounds_toArray, List.set_cons_zero, List.set_cons_succ]
   refine z_t 7 (v := ?_) hS ?_ ?_
   rotate_left
   ·(rintro wS ⟨s0, s1, s2, s3⟩; go_simp <;> with_reducible rfl)
   simp only [Act.put, List.setIfInBounds_toArray, List.set_cons_zero, List.set_cons_succ]
   refine z_t 8 (v := ?_) hS ?_ ?_
   rotate_left
   ·(rintro wS ⟨s0, s1, s2, s3⟩; go_simp <;> with_reducible rfl)
   simp only [Act.put, List.setIfInBounds_toArray, List.set_cons_zero, List.set_cons_succ]
   refine z_done (by kernel_rfl) ?_ _
   clear hS
   go_wp2_with fail
   go_roundg (n - (i + 1))
   ·exact ⟨i + 1, q + 1, by rw [Int.natCast_add]; rfl, by omega, rfl, rfl⟩
   all_goals omega
  ·have hge : ¬ (i : Int) < (n : Int) := by omega
   go_wp2
   go_ret
   exact ⟨rfl, q, rfl⟩
set_option maxHeartbeats 4000000 in
theorem eqDec_any {w : World} {V V' : Value} {cells : List Value} (h : SlAt w V 36 3 cells) (h' : SlAt w V' 36 3 cells) (ht : RowTy decTys cells) (hb : cells.length ≤ 3000000) :
  Calls Tryz.prog 82 #[V, V'] w fun e w' => e = .returned (.bool true) ∧ ∃ q, w' = w.drewN q := by
 obtain ⟨A, n, c, rfl, hn, hA⟩ := slAt_form (by decide) h
 obtain ⟨A', n', c', rfl, hn', hA'⟩ := slAt_form (by decide) h'
 have hnn : n = n' := by omega
 subst hnn
 have hn2 : n ≤ 1000000 := by omega
 have HA := hidQ hA
 have HA' := hidQ hA'
 have HT := hidQ ht
 have HN := hidQ hn
 clear hA hA' ht hn hn' h h' hb
 go_enter Tryz.func82, Tryz.ntmps82
 go_wp2
 go_loopg [13] n (fun kk s13 wr => ∃ (i q : Nat), s13 = .int .i64 i ∧ i ≤ n ∧ kk = n - i ∧ wr = w.drewN q)
 case atStart => exact ⟨0, 0, rfl, Nat.zero_le _, rfl, rfl⟩
 case round =>
  obtain ⟨i, q, rfl, hi, rfl, rfl⟩ := hrel
  by_cases hlt : i < n
  ·have hltz : (i : Int) < (n : Int) := by omega
   obtain ⟨b, o, rfl, hc⟩ := HA.out (by omega)
   obtain ⟨b', o', rfl, hc'⟩ := HA'.out (by omega)
   have hl0 : i * 3 < cells.length := by rw [← HN.out]; omega
   have hl1 : i * 3 + 1 < cells.length := by rw [← HN.out]; omega
   have hl2 : i * 3 + 2 < cells.length := by rw [← HN.out]; omega
   have g0 : cells[i * 3]? = some cells[i * 3] := List.getElem?_eq_getElem hl0
   have g1 : cells[i * 3 + 1]? = some cells[i * 3 + 1] := List.getElem?_eq_getElem hl1
   have g2 : cells[i * 3 + 2]? = some cells[i * 3 + 2] := List.getElem?_eq_getElem hl2
   obtain ⟨y0, e0, ⟨x0, f0⟩⟩ := HT.out _ _ g0
   obtain ⟨y1, e1, ⟨x1, f1⟩⟩ := HT.out _ _ g1
   obtain ⟨y2, e2, ⟨x2, f2⟩⟩ := HT.out _ _ g2
   rw [show decTys.length = 3 from rfl, show i * 3 % 3 = 0 by omega] at e0
   rw [show decTys.length = 3 from rfl, show (i * 3 + 1) % 3 = 1 by omega] at e1
   rw [show decTys.length = 3 from rfl, show (i * 3 + 2) % 3 = 2 by omega] at e2
   cases e0
   cases e1
   cases e2
   rw [f0] at g0
   rw [f1] at g1
   rw [f2] at g2
   have s0 := hc _ _ g0
   have s1 := hc _ _ g1
   have s4 := hc _ _ g2
   have s2 := hc' _ _ g0
   have s3 := hc' _ _ g1
   have s5 := hc' _ _ g2
   rw [← Nat.add_assoc] at s1 s3 s4 s5
   simp only [Ty.val] at s0 s1 s2 s3 s4 s5
   generalize x0.toB = z0 at s0 s2
   generalize x1.toI = z1 at s1 s3
   generalize x2.toI = z2 at s4 s5
   have ne := dec_ne z0 z1 z2
   clear hc hc' hl0 hl1 hl2 g0 g1 g2 f0 f1 f2
   have hw : ∃ wr, wr = w.drewN q := ⟨_, rfl⟩
   go_wp2_with fail
   refine region_plain (fun Z => Z.cell? ⟨b, o + i * 3, none⟩ = some (.bool z0) ∧ Z.cell? ⟨b, o + i * 3 + 1, none⟩ = some (.int .u64 z1) ∧ Z.cell? ⟨b, o + i * 3 + 2, none⟩ = some (.int .i64 z2) ∧ Z.cell? ⟨b', o' + i * 3, none⟩ = some (.bool z0) ∧ Z.cell? ⟨b', o' + i * 3 + 1, none⟩ = some (.int .u64 z1) ∧ Z.cell? ⟨b', o' + i * 3 + 2, none⟩ = some (.int .i64 z2)) 99 (by kernel_rfl) ?_
   have hS : (w.drewN q).drew.cell? ⟨b, o + i * 3, none⟩ = some (.bool z0) ∧ (w.drewN q).drew.cell? ⟨b, o + i * 3 + 1, none⟩ = some (.int .u64 z1) ∧ (w.drewN q).drew.cell? ⟨b, o + i * 3 + 2, none⟩ = some (.int .i64 z2) ∧ (w.drewN q).drew.cell? ⟨b', o' + i * 3, none⟩ = some (.bool z0) ∧ (w.drewN q).drew.cell? ⟨b', o' + i * 3 + 1, none⟩ = some (.int .u64 z1) ∧ (w.drewN q).drew.cell? ⟨b', o' + i * 3 + 2, none⟩ = some (.int .i64 z2) := ⟨s0, s1, s4, s2, s3, s5⟩
   refine z_t 0 (v := ?_) hS ?_ ?_
   rotate_left
   ·(rintro wS ⟨s0, s1, s2, s3, s4, s5⟩; go_simp <;> with_reducible rfl)
   simp only [Act.put, List.setIfInBounds_toArray, List.set_cons_zero, List.set_cons_succ]
   refine z_t 1 (v := ?_) hS ?_ ?_
   rotate_left
   ·(rintro wS ⟨s0, s1, s2, s3, s4, s5⟩; go_simp <;> with_reducible rfl)
   simp only [Act.put, List.setIfInBounds_toArray, List.set_cons_zero, List.set_cons_succ]
   refine z_t 2 (v := ?_) hS ?_ ?_
   rotate_left
   ·(rintro wS ⟨s0, s1, s2, s3, s4, s5⟩; go_simp <;> with_reducible rfl)
   simp only [Act.put, List.setIfInBounds_toArray, List.set_cons_zero, List.set_cons_succ]
   refine z_t 3 (v := ?_) hS ?_ ?_
   rotate_left
   ·(rintro wS ⟨s0, s1, s2, s3, s4, s5⟩; go_simp <;> with_reducible rfl)
   simp only [Act.put, List.setIfInBounds_toArray, List.set_cons_zero, List.set_cons_succ]
   refine z_t 4 (v := ?_) hS ?_ ?_
   rotate_left
   ·(rintro wS ⟨s0, s1, s2, s3, s4, s5⟩; go_simp <;> with_reducible rfl)
   simp only [Act.put, List.setIfInBounds_toArray, List.set_cons_zero, List.set_cons_succ]
   refine z_t 5 (v := ?_) hS ?_ ?_
   rotate_left
   ·(rintro wS ⟨s0, s1, s2, s3, s4, s5⟩; go_simp <;> with_reducible rfl)
   simp only [Act.put, List.setIfInBounds_toArray, List.set_cons_zero, List.set_cons_succ]
   refine z_t 6 (v := ?_) hS ?_ ?_
   rotate_left
   ·(rintro wS ⟨s0, s1, s2, s3, s4, s5⟩; go_simp <;> with_reducible rfl)
   simp only [Act.put, List.setIfInBounds_toArray, List.set_cons_zero, List.set_cons_succ]
   refine z_t 7 (v := ?_) hS ?_ ?_
   rotate_left
   ·(rintro wS ⟨s0, s1, s2, s3, s4, s5⟩; go_simp <;> with_reducible rfl)
   simp only [Act.put, List.setIfInBounds_toArray, List.set_cons_zero, List.set_cons_succ]
   refine z_t 8 (v := ?_) hS ?_ ?_
   rotate_left
   ·(rintro wS ⟨s0, s1, s2, s3, s4, s5⟩; go_simp <;> with_reducible rfl)
   simp only [Act.put, List.setIfInBounds_toArray, List.set_cons_zero, List.set_cons_succ]
   refine z_done (by kernel_rfl) ?_ _
   clear hS
   go_wp2_with fail
   go_roundg (n - (i + 1))
   ·exact ⟨i + 1, q + 1, by rw [Int.natCast_add]; rfl, by omega, rfl, rfl⟩
   all_goals omega
  ·have hge : ¬ (i : Int) < (n : Int) := by omega
   go_wp2
   go_ret
   exact ⟨rfl, q, rfl⟩

theorem eqTags {w : World} {V V' : Value} {cells : List Value} (h : SlAt w V 39 2 cells) (h' : SlAt w V' 39 2 cells) (ht : RowTy tagTys cells) (hb : cells.length ≤ 3000000) :
  Calls Tryz.prog 50 #[V, V'] w fun e w' => e = .returned (.bool true) ∧ ∃ q, w' = w.drewN q := by
 have hc := eqTag_any h h' ht hb
 have HC := hidQ hc
 clear hc h h' ht hb
 go_enter Tryz.func50, Tryz.ntmps50
 go_wp2_with (go_at_call 83; refine HC.out.mono ?_; rintro e w' ⟨rfl, q, rfl⟩)
 go_ret
 exact ⟨rfl, q, rfl⟩
theorem eqDecs {w : World} {V V' : Value} {cells : List Value} (h : SlAt w V 36 3 cells) (h' : SlAt w V' 36 3 cells) (ht : RowTy decTys cells) (hb : cells.length ≤ 3000000) :
  Calls Tryz.prog 49 #[V, V'] w fun e w' => e = .returned (.bool true) ∧ ∃ q, w' = w.drewN q := by
 have hc := eqDec_any h h' ht hb
 have HC := hidQ hc
 clear hc h h' ht hb
 go_enter Tryz.func49, Tryz.ntmps49
 go_wp2_with (go_at_call 82; refine HC.out.mono ?_; rintro e w' ⟨rfl, q, rfl⟩)
 go_ret
 exact ⟨rfl, q, rfl⟩
end Go.Eng
namespace Go.Eng
set_option maxRecDepth 100000
open Go Go.Proofs Go.RowKit Go.Shelf Go.Proofs.YtngmgpmkjdacaaaGreatDoor

theorem belowDrewN {B : Nat} {a w : World} (h : RowKit.Below B a w) (n : Nat) : RowKit.Below B a (w.drewN n) := ⟨h.os, h.tape, h.output, h.size, h.block⟩
set_option maxHeartbeats 4000000 in
theorem eqMet {w : World} {cs cs' : List Value} {out : Value} (h : MetAt w cs out) (h' : MetAt w cs' out) :
  Calls Tryz.prog 27 #[.agg (List.toArray cs), .agg (List.toArray cs')] w fun e w' => e = .returned (.bool true) ∧ RowKit.Below w.heap.size w w' := by
 obtain ⟨x0, x1, V, x3, T, x5, f0, f1, cells, tags, ho, rfl, hV, hT, hc, ht, l1, l2⟩ := h
 obtain ⟨y0, y1, V', y3, T', y5, g0, g1, cells', tags', ho', rfl, hV', hT', hc', ht', l1', l2'⟩ := h'
 rw [ho] at ho'
 simp only [Value.tuple.injEq, Array.mk.injEq, List.cons.injEq, Value.agg.injEq, Value.string.injEq, Value.int.injEq, true_and, and_true] at ho'
 obtain ⟨⟨rfl, rfl, rfl, rfl, _, _⟩, rfl, rfl⟩ := ho'
 obtain ⟨VA, Vn, Vc, rfl⟩ := hV.slice
 obtain ⟨TA, Tn, Tc, rfl⟩ := hT.slice
 obtain ⟨VA', Vn', Vc', rfl⟩ := hV'.slice
 obtain ⟨TA', Tn', Tc', rfl⟩ := hT'.slice
 have HH := hidQ (fun (Z : World) (hb : RowKit.Below w.heap.size w Z) => And.intro (eqDecs (SlAt.below hV hb) (SlAt.below hV' hb) hc l1) (eqTags (SlAt.below hT hb) (SlAt.below hT' hb) ht l2))
 clear hV hV' hT hT' hc ht hc' ht' l1 l2 l1' l2' ho
 go_enter Tryz.func27, Tryz.ntmps27
 go_wp2_with (first
  | (go_at_call 49; refine (HH.out _ ?_).1.mono ?_; rotate_left; rintro e w2 ⟨rfl, q, rfl⟩; rotate_left; exact ((Below.refl _ w).alloc (Nat.le_refl _) _).alloc (by simp) _)
  | (go_at_call 50; refine (HH.out _ ?_).2.mono ?_; rotate_left; rintro e w2 ⟨rfl, q2, rfl⟩; rotate_left; exact belowDrewN (((Below.refl _ w).alloc (Nat.le_refl _) _).alloc (by simp) _) _))
 go_ret
 refine ⟨by simp, ?_⟩
 first
  | exact belowDrewN (belowDrewN (((Below.refl _ w).alloc (Nat.le_refl _) _).alloc (by simp) _) _) _
  | exact belowDrewN (((Below.refl _ w).alloc (Nat.le_refl _) _).alloc (by simp) _) _

set_option maxHeartbeats 4000000 in
theorem eqFun0 (w : World) : Calls Tryz.prog 26 #[.slice none 0 0, .slice none 0 0, .func (.func 27) #[] #[]] w fun e w' => e = .returned (.bool true) ∧ RowKit.Below w.heap.size w w' := by
 go_enter Tryz.func26, Tryz.ntmps26
 go_wp2
 go_loopg [17] 0 (fun kk s17 wr => s17 = .int .i64 0 ∧ kk = 0 ∧ wr = w)
 case atStart => exact ⟨rfl, rfl, rfl⟩
 case round =>
  obtain ⟨rfl, rfl, rfl⟩ := hrel
  go_wp2
  go_ret
  exact ⟨rfl, Below.refl _ _⟩
set_option maxHeartbeats 4000000 in
theorem eqFun1 {w : World} {g g' : Nat} {cs cs' : List Value} {out : Value} (hg : w.heap[g]? = some (.cells (List.toArray cs) 42 (0, 0))) (hg' : w.heap[g']? = some (.cells (List.toArray cs') 42 (0, 0))) (h : MetAt w cs out) (h' : MetAt w cs' out) :
  Calls Tryz.prog 26 #[.slice (some ⟨g, 0, none⟩) 1 1, .slice (some ⟨g', 0, none⟩) 1 1, .func (.func 27) #[] #[]] w fun e w' => e = .returned (.bool true) ∧ RowKit.Below w.heap.size w w' := by
 have hm := fun (Z : World) (hb : RowKit.Below w.heap.size w Z) => eqMet (h.km (Km.below hb)) (h'.km (Km.below hb))
 obtain ⟨x0, x1, V, x3, T, x5, f0, f1, cells, tags, ho, rfl, hV, hT, hc, ht, l1, l2⟩ := h
 obtain ⟨y0, y1, V', y3, T', y5, g0, g1, cells', tags', ho', rfl, hV', hT', hc', ht', l1', l2'⟩ := h'
 obtain ⟨VA, Vn, Vc, rfl⟩ := hV.slice
 obtain ⟨TA, Tn, Tc, rfl⟩ := hT.slice
 obtain ⟨VA', Vn', Vc', rfl⟩ := hV'.slice
 obtain ⟨TA', Tn', Tc', rfl⟩ := hT'.slice
 clear hV hV' hT hT' hc ht hc' ht' l1 l2 l1' l2' ho ho'
 have HM := hidQ hm
 have c0 : w.cell? ⟨g, 0, none⟩ = some (.string x0) := by rw [cell_of_row _ _ _ _ _ _ hg]; rfl
 have c1 : w.cell? ⟨g, 1, none⟩ = some (.int .i64 x1) := by rw [cell_of_row _ _ _ _ _ _ hg]; rfl
 have c2 : w.cell? ⟨g, 2, none⟩ = some (.slice VA Vn Vc) := by rw [cell_of_row _ _ _ _ _ _ hg]; rfl
 have c3 : w.cell? ⟨g, 3, none⟩ = some (.int .i64 x3) := by rw [cell_of_row _ _ _ _ _ _ hg]; rfl
 have c4 : w.cell? ⟨g, 4, none⟩ = some (.slice TA Tn Tc) := by rw [cell_of_row _ _ _ _ _ _ hg]; rfl
 have c5 : w.cell? ⟨g, 5, none⟩ = some (.int .i64 x5) := by rw [cell_of_row _ _ _ _ _ _ hg]; rfl
 have hba : RowKit.Below w.heap.size w (w.alloc (.cells #[.string x0, .int .i64 x1, .slice VA Vn Vc, .int .i64 x3, .slice TA Tn Tc, .int .i64 x5] 42)) := (Below.refl _ w).alloc (Nat.le_refl _) _
 have hg2 := (hba.block g' (Array.getElem?_eq_some_iff.1 hg').1).trans hg'
 have d0 : (w.alloc (.cells #[.string x0, .int .i64 x1, .slice VA Vn Vc, .int .i64 x3, .slice TA Tn Tc, .int .i64 x5] 42)).cell? ⟨g', 0, none⟩ = some (.string y0) := by rw [cell_of_row _ _ _ _ _ _ hg2]; rfl
 have d1 : (w.alloc (.cells #[.string x0, .int .i64 x1, .slice VA Vn Vc, .int .i64 x3, .slice TA Tn Tc, .int .i64 x5] 42)).cell? ⟨g', 1, none⟩ = some (.int .i64 y1) := by rw [cell_of_row _ _ _ _ _ _ hg2]; rfl
 have d2 : (w.alloc (.cells #[.string x0, .int .i64 x1, .slice VA Vn Vc, .int .i64 x3, .slice TA Tn Tc, .int .i64 x5] 42)).cell? ⟨g', 2, none⟩ = some (.slice VA' Vn' Vc') := by rw [cell_of_row _ _ _ _ _ _ hg2]; rfl
 have d3 : (w.alloc (.cells #[.string x0, .int .i64 x1, .slice VA Vn Vc, .int .i64 x3, .slice TA Tn Tc, .int .i64 x5] 42)).cell? ⟨g', 3, none⟩ = some (.int .i64 y3) := by rw [cell_of_row _ _ _ _ _ _ hg2]; rfl
 have d4 : (w.alloc (.cells #[.string x0, .int .i64 x1, .slice VA Vn Vc, .int .i64 x3, .slice TA Tn Tc, .int .i64 x5] 42)).cell? ⟨g', 4, none⟩ = some (.slice TA' Tn' Tc') := by rw [cell_of_row _ _ _ _ _ _ hg2]; rfl
 have d5 : (w.alloc (.cells #[.string x0, .int .i64 x1, .slice VA Vn Vc, .int .i64 x3, .slice TA Tn Tc, .int .i64 x5] 42)).cell? ⟨g', 5, none⟩ = some (.int .i64 y5) := by rw [cell_of_row _ _ _ _ _ _ hg2]; rfl
 have hbb : RowKit.Below w.heap.size w ((w.alloc (.cells #[.string x0, .int .i64 x1, .slice VA Vn Vc, .int .i64 x3, .slice TA Tn Tc, .int .i64 x5] 42)).alloc (.cells #[.string y0, .int .i64 y1, .slice VA' Vn' Vc', .int .i64 y3, .slice TA' Tn' Tc', .int .i64 y5] 42)) := hba.alloc (by simp) _
 have HBB := hidQ hbb
 clear hg hg' hba hg2 hbb hm
 go_enter Tryz.func26, Tryz.ntmps26
 go_wp2
 go_loopg [17] 1 (fun kk s17 wr => ∃ i : Nat, s17 = .int .i64 i ∧ ((i = 0 ∧ wr = w ∧ kk = 1) ∨ (i = 1 ∧ kk = 0 ∧ Hid (RowKit.Below w.heap.size w wr))))
 case atStart => exact ⟨0, rfl, .inl ⟨rfl, rfl, rfl⟩⟩
 case round =>
  obtain ⟨i, rfl, ⟨rfl, rfl, rfl⟩ | ⟨rfl, rfl, HB⟩⟩ := hrel
  ·go_wp2_with fail
   refine (HM.out _ HBB.out).mono ?_
   rintro e w2 ⟨rfl, hb2⟩
   have HB2 := hidQ (HBB.out.trans (hb2.mono HBB.out.size))
   clear hb2
   go_wp2
   go_roundg 0
   ·exact ⟨1, rfl, .inr ⟨rfl, rfl, HB2⟩⟩
   all_goals omega
  ·clear c0 c1 c2 c3 c4 c5 d0 d1 d2 d3 d4 d5
   go_wp2
   go_ret
   exact ⟨rfl, HB.out⟩
theorem eqMets {w : World} {M M' : Value} {met : Option Value} (h : MetsAt w M met) (h' : MetsAt w M' met) : Calls Tryz.prog 12 #[M, M'] w fun e w' => e = .returned (.bool true) ∧ RowKit.Below w.heap.size w w' := by
 have hc : Calls Tryz.prog 26 #[M, M', .func (.func 27) #[] #[]] w fun e w' => e = .returned (.bool true) ∧ RowKit.Below w.heap.size w w' := by
  cases met with
  | none =>
   rw [show M = _ from h, show M' = _ from h']
   exact eqFun0 w
  | some out =>
   obtain ⟨g, cs, rfl, h2, h3⟩ := h
   obtain ⟨g', cs', rfl, h2', h3'⟩ := h'
   exact eqFun1 h2 h2' h3 h3'
 have HC := hidQ hc
 clear hc h h'
 go_enter Tryz.func12, Tryz.ntmps12
 go_wp2_with (go_at_call 26; refine HC.out.mono ?_; rintro e w' ⟨rfl, hb⟩; have HB := hidQ hb; clear hb)
 go_ret
 exact ⟨rfl, HB.out⟩
end Go.Eng
namespace Go.Eng
set_option maxRecDepth 100000
open Go Go.Proofs Go.RowKit Go.Shelf Go.Proofs.YtngmgpmkjdacaaaGreatDoor

set_option maxHeartbeats 4000000 in
theorem eqEv {w : World} {M M' : Value} {ev : EV} (h : MetsAt w M ev.met) (h' : MetsAt w M' ev.met) :
  Calls Tryz.prog 17 #[.agg (List.toArray (evCells ev M)), .agg (List.toArray (evCells ev M'))] w fun e w' => e = .returned (.bool true) ∧ RowKit.Below w.heap.size w w' := by
 have hm := fun (Z : World) (hb : RowKit.Below w.heap.size w Z) => eqMets (h.km (Km.below hb)) (h'.km (Km.below hb))
 obtain ⟨A, n, c, rfl⟩ := h.slice
 obtain ⟨A', n', c', rfl⟩ := h'.slice
 have HM := hidQ hm
 clear h h' hm
 simp only [evCells]
 go_enter Tryz.func17, Tryz.ntmps17
 go_wp2_with fail
 refine (HM.out _ (((Below.refl _ w).alloc (Nat.le_refl _) _).alloc (by simp) _)).mono ?_
 rintro e w2 ⟨rfl, hb2⟩
 have HB2 := hidQ (((((Below.refl _ w).alloc (Nat.le_refl _) _).alloc (by simp) _) : RowKit.Below w.heap.size w _).trans (hb2.mono (by simp; omega)))
 clear hb2
 go_wp2
 go_ret
 exact ⟨by simp, HB2.out⟩

/-- a slice of events, read -/
def EvSl (w : World) (V : Value) (xs : List EV) : Prop := ∃ A c Ms, V = .slice A xs.length c ∧ Ms.length = xs.length ∧ (xs ≠ [] → ∃ b o, A = some ⟨b, o, none⟩ ∧ ∀ k u, (ecells xs Ms)[k]? = some u → w.cell? ⟨b, o + k, none⟩ = some u) ∧
 ∀ (i : Nat) (M : Value) (ev : EV), Ms[i]? = some M → xs[i]? = some ev → MetsAt w M ev.met
theorem OwnE.sl {w : World} {base : Nat} {v : Value} {xs : List EV} (h : OwnE w base v xs) : EvSl w v xs := by
 obtain ⟨Ms, g1, g2, g3⟩ := h
 have hlen := ecells_length xs Ms g1
 rcases g2.2 with ⟨rfl, h0⟩ | ⟨b', cap, cur, rfl, _, q3, _, _, q6, q7⟩
 ·exact ⟨none, 0, Ms, by rw [h0], g1, fun hne => absurd (List.length_eq_zero_iff.1 h0) hne, g3⟩
 ·refine ⟨_, cap, Ms, rfl, g1, fun _ => ⟨b', 0, rfl, fun k u hk => ?_⟩, g3⟩
  rw [Nat.zero_add, cell_of_row _ _ _ _ _ _ q3]
  have hkl : k < xs.length * 6 := by rw [← hlen]; exact (List.getElem?_eq_some_iff.1 hk).1
  rw [← q7, List.getElem?_take_of_lt hkl, Array.getElem?_toList] at hk
  exact hk
/-- an event of such a slice -/
theorem EvSl.at {w : World} {A : Option Addr} {n c : Nat} {xs : List EV} (h : EvSl w (.slice A n c) xs) {i : Nat} {ev : EV} (hi : xs[i]? = some ev) : ∃ b o M, A = some ⟨b, o, none⟩ ∧ b < w.heap.size ∧ MetsAt w M ev.met ∧ ∀ j u, (evCells ev M)[j]? = some u → w.cell? ⟨b, o + (i * 6 + j), none⟩ = some u := by
 obtain ⟨A', c', Ms, e, h1, h2, h3⟩ := h
 cases e
 have hil : i < xs.length := (List.getElem?_eq_some_iff.1 hi).1
 obtain ⟨M, hM⟩ : ∃ M, Ms[i]? = some M := ⟨_, List.getElem?_eq_getElem (by omega)⟩
 obtain ⟨b, o, rfl, hc⟩ := h2 (by rintro rfl; simp at hi)
 have hat := fun j (hj : j < 6) => ecells_at xs Ms i j ev M h1 hi hM hj
 have hcell : ∀ j u, (evCells ev M)[j]? = some u → w.cell? ⟨b, o + (i * 6 + j), none⟩ = some u := fun j u hj => by
  have hj6 : j < 6 := (List.getElem?_eq_some_iff.1 hj).1
  exact hc _ _ ((hat j hj6).trans hj)
 exact ⟨b, o, M, rfl, lt_of_cell (hcell 0 _ rfl), h3 i M ev hM hi, hcell⟩

set_option maxHeartbeats 4000000 in
theorem eqEvs {w : World} {V V' : Value} {xs : List EV} (h : EvSl w V xs) (h' : EvSl w V' xs) (hb : xs.length ≤ 200000) :
  Calls Tryz.prog 16 #[V, V', .func (.func 17) #[] #[]] w fun e w' => e = .returned (.bool true) ∧ RowKit.Below w.heap.size w w' := by
 have hs := h
 have hs' := h'
 obtain ⟨A, c, Ms, rfl, _⟩ := h
 obtain ⟨A', c', Ms', rfl, _⟩ := h'
 obtain ⟨n, hn⟩ : ∃ n, n = xs.length := ⟨_, rfl⟩
 rw [← hn] at hs hs' hb ⊢
 have HS := hidQ hs
 have HS' := hidQ hs'
 have HN := hidQ hn
 clear hs hs' hn
 go_enter Tryz.func16, Tryz.ntmps16
 go_wp2
 go_loopg [17] n (fun kk s17 wr => ∃ i : Nat, s17 = .int .i64 i ∧ i ≤ n ∧ kk = n - i ∧ Hid (RowKit.Below w.heap.size w wr))
 case atStart => exact ⟨0, rfl, Nat.zero_le _, rfl, hidQ (Below.refl _ _)⟩
 case round =>
  obtain ⟨i, rfl, hi, rfl, HB⟩ := hrel
  by_cases hlt : i < n
  ·have hltz : (i : Int) < (n : Int) := by omega
   obtain ⟨ev, hev⟩ : ∃ ev, xs[i]? = some ev := ⟨_, List.getElem?_eq_getElem (by rw [← HN.out]; exact hlt)⟩
   obtain ⟨b, o, M, rfl, hbl, hM, hc⟩ := HS.out.at hev
   obtain ⟨b', o', M', rfl, hbl', hM', hc'⟩ := HS'.out.at hev
   have hcw : ∀ j u, (evCells ev M)[j]? = some u → wr.cell? ⟨b, o + (i * 6 + j), none⟩ = some u := fun j u hj => (HB.out.cell (p := ⟨b, o + (i * 6 + j), none⟩) hbl).trans (hc j u hj)
   obtain ⟨MA, Mn, Mc, rfl⟩ := hM.slice
   obtain ⟨MA', Mn', Mc', rfl⟩ := hM'.slice
   have hbe : RowKit.Below wr.heap.size wr (wr.alloc (.cells (List.toArray (evCells ev (.slice MA Mn Mc))) 32)) := (Below.refl _ wr).alloc (Nat.le_refl _) _
   have hbe2 : RowKit.Below w.heap.size w (wr.alloc (.cells (List.toArray (evCells ev (.slice MA Mn Mc))) 32)) := HB.out.trans (hbe.mono HB.out.size)
   have hcx : ∀ j u, (evCells ev (.slice MA' Mn' Mc'))[j]? = some u → (wr.alloc (.cells (List.toArray (evCells ev (.slice MA Mn Mc))) 32)).cell? ⟨b', o' + (i * 6 + j), none⟩ = some u := fun j u hj => (hbe2.cell (p := ⟨b', o' + (i * 6 + j), none⟩) hbl').trans (hc' j u hj)
   have hbe3 : RowKit.Below w.heap.size w ((wr.alloc (.cells (List.toArray (evCells ev (.slice MA Mn Mc))) 32)).alloc (.cells (List.toArray (evCells ev (.slice MA' Mn' Mc'))) 32)) := hbe2.alloc hbe2.size _
   have hq := eqEv (hM.km (Km.below hbe3)) (hM'.km (Km.below hbe3))
   have c0 := hcw 0 _ rfl
   have c1 := hcw 1 _ rfl
   have c2 := hcw 2 _ rfl
   have c3 := hcw 3 _ rfl
   have c4 := hcw 4 _ rfl
   have c5 := hcw 5 _ rfl
   have d0 := hcx 0 _ rfl
   have d1 := hcx 1 _ rfl
   have d2 := hcx 2 _ rfl
   have d3 := hcx 3 _ rfl
   have d4 := hcx 4 _ rfl
   have d5 := hcx 5 _ rfl
   simp only [← Nat.add_assoc, Nat.add_zero, evCells] at c0 c1 c2 c3 c4 c5 d0 d1 d2 d3 d4 d5
   simp only [evCells] at hq
   have HQ := hidQ hq
   have HB3 := hidQ hbe3
   clear hev hbl hM hc hbl' hM' hc' hcw hbe hbe2 hcx hbe3 hq
   go_wp2_with fail
   refine HQ.out.mono ?_
   rintro e w2 ⟨rfl, hb2⟩
   have HB4 := hidQ (HB3.out.trans (hb2.mono HB3.out.size))
   clear hb2 c0 c1 c2 c3 c4 c5 d0 d1 d2 d3 d4 d5
   go_wp2
   go_roundg (n - (i + 1))
   ·exact ⟨i + 1, by rw [Int.natCast_add]; rfl, by omega, rfl, HB4⟩
   all_goals omega
  ·have hge : ¬ (i : Int) < (n : Int) := by omega
   go_wp2
   go_ret
   exact ⟨rfl, HB.out⟩
theorem event_Equal {w : World} {V V' : Value} {xs : List EV} (h : EvSl w V xs) (h' : EvSl w V' xs) (hb : xs.length ≤ 200000) :
  Calls Tryz.prog 6 #[V, V'] w fun e w' => e = .returned (.bool true) ∧ RowKit.Below w.heap.size w w' := by
 have hc := eqEvs h h' hb
 obtain ⟨A, c, Ms, rfl, _⟩ := h
 obtain ⟨A', c', Ms', rfl, _⟩ := h'
 have HC := hidQ hc
 clear hc
 go_enter Tryz.func6, Tryz.ntmps6
 go_wp2_with (go_at_call 16; refine HC.out.mono ?_; rintro e w' ⟨rfl, hb⟩; have HB := hidQ hb; clear hb)
 go_ret
 exact ⟨rfl, HB.out⟩
end Go.Eng

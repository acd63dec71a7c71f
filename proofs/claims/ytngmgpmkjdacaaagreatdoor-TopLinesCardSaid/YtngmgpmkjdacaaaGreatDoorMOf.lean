/-
 sess.of: a line's event.
-/
import Derived.Test.YtngmgpmkjdacaaaGreatDoorMParse
set_option linter.unusedSimpArgs false
set_option linter.unusedVariables false
namespace Go.Eng
set_option maxRecDepth 100000
open Go Go.Proofs Go.RowKit Go.Proofs.YtngmgpmkjdacaaaGreatDoor

/-- an event, in plain words: a metric by what its reader told -/
structure EV where
 kind : Int
 a : Int
 b : Int
 met : Option Value
 code : Int
 pos : Int
/-- the fault that a reader told -/
def faultOf (out : Value) : Int × Int := match out with
 | .tuple #[.agg #[_, _, _, _, .int _ c, .int _ q], _, _] => (c, q)
 | _ => (0, 0)
def evOf (x : LV) (out : Value) : EV :=
 if x.long then ⟨2, x.a, x.b, none, 12, x.a⟩
 else if faultOf out = (0, 0) then ⟨1, x.a, x.b, some out, 0, 0⟩ else ⟨2, x.a, x.b, none, (faultOf out).1, IntKind.i64.wrap (x.a + (faultOf out).2)⟩
/-- the cells of a metric that reads as told -/
def MetAt (w : World) (cs : List Value) (out : Value) : Prop :=
 ∃ x0 x1 V x3 T x5 f0 f1 cells tags, out = .tuple #[.agg #[.string x0, .int .i64 x1, .int .i64 x3, .int .i64 x5, f0, f1], .agg (List.toArray cells), .agg (List.toArray tags)] ∧ cs = [.string x0, .int .i64 x1, V, .int .i64 x3, T, .int .i64 x5] ∧
  SlAt w V 36 3 cells ∧ SlAt w T 39 2 tags ∧ RowTy decTys cells ∧ RowTy tagTys tags ∧ cells.length ≤ 3000000 ∧ tags.length ≤ 3000000
/-- the metrics of an event -/
def MetsAt (w : World) (M : Value) : Option Value → Prop
 | none => M = .slice none 0 0
 | some out => ∃ g cs, M = .slice (some ⟨g, 0, none⟩) 1 1 ∧ w.heap[g]? = some (.cells (List.toArray cs) 42 (0, 0)) ∧ MetAt w cs out
def EvAt (w : World) (V : Value) (ev : EV) : Prop := ∃ M, V = .agg #[.int .i64 ev.kind, .int .i64 ev.a, .int .i64 ev.b, M, .int .i64 ev.code, .int .i64 ev.pos] ∧ MetsAt w M ev.met

theorem SlAt.below {w w' : World} {V : Value} {el e : Nat} {cells : List Value} (h : SlAt w V el e cells) (hb : RowKit.Below w.heap.size w w') : SlAt w' V el e cells :=
 SlAt.kept h fun k c fz hk => hb.block k (Array.getElem?_eq_some_iff.1 hk).1
theorem lt_of_cell {w : World} {b o : Nat} {v : Value} (h : w.cell? ⟨b, o, none⟩ = some v) : b < w.heap.size := World.block_lt_of_cell? _ _ h
theorem S_below {w w' : World} {b o b2 o2 : Nat} {v v2 : Value} (h : w.cell? ⟨b, o, none⟩ = some v ∧ w.cell? ⟨b2, o2, none⟩ = some v2) (hb : RowKit.Below w.heap.size w w') : w'.cell? ⟨b, o, none⟩ = some v ∧ w'.cell? ⟨b2, o2, none⟩ = some v2 :=
 ⟨(hb.cell (p := ⟨b, o, none⟩) (lt_of_cell h.1)).trans h.1, (hb.cell (p := ⟨b2, o2, none⟩) (lt_of_cell h.2)).trans h.2⟩
theorem S_keep {w w' : World} {b o b2 o2 : Nat} {v v2 : Value} (h : w.cell? ⟨b, o, none⟩ = some v ∧ w.cell? ⟨b2, o2, none⟩ = some v2) (h1 : w'.heap[b]? = w.heap[b]?) (h2 : w'.heap[b2]? = w.heap[b2]?) : w'.cell? ⟨b, o, none⟩ = some v ∧ w'.cell? ⟨b2, o2, none⟩ = some v2 :=
 ⟨(World.cell?_of_block (w := w) h1).trans h.1, (World.cell?_of_block (w := w) h2).trans h.2⟩
/-- a metric stored into its box -/
def put6 (w : World) (m : Nat) (v0 v1 v2 v3 v4 v5 : Value) : World := (((((w.setCell ⟨m, 0, none⟩ v0).setCell ⟨m, 1, none⟩ v1).setCell ⟨m, 2, none⟩ v2).setCell ⟨m, 3, none⟩ v3).setCell ⟨m, 4, none⟩ v4).setCell ⟨m, 5, none⟩ v5
theorem put6_at {w : World} {m : Nat} {c0 c1 c2 c3 c4 c5 : Value} {t : TypeId} (hm : w.heap[m]? = some (.cells #[c0, c1, c2, c3, c4, c5] t (0, 0))) (v0 v1 v2 v3 v4 v5 : Value) :
  (put6 w m v0 v1 v2 v3 v4 v5).heap[m]? = some (.cells #[v0, v1, v2, v3, v4, v5] t (0, 0)) ∧ (∀ k, k ≠ m → (put6 w m v0 v1 v2 v3 v4 v5).heap[k]? = w.heap[k]?) := by
 unfold put6
 refine ⟨?_, fun k k1 => ?_⟩
 ·have a : _ = some (Obj.cells #[v0, c1, c2, c3, c4, c5] t (0, 0)) := heap_setCell_same _ m 0 _ t v0 hm
  have a : _ = some (Obj.cells #[v0, v1, c2, c3, c4, c5] t (0, 0)) := heap_setCell_same _ m 1 _ t v1 a
  have a : _ = some (Obj.cells #[v0, v1, v2, c3, c4, c5] t (0, 0)) := heap_setCell_same _ m 2 _ t v2 a
  have a : _ = some (Obj.cells #[v0, v1, v2, v3, c4, c5] t (0, 0)) := heap_setCell_same _ m 3 _ t v3 a
  have a : _ = some (Obj.cells #[v0, v1, v2, v3, v4, c5] t (0, 0)) := heap_setCell_same _ m 4 _ t v4 a
  have a : _ = some (Obj.cells #[v0, v1, v2, v3, v4, v5] t (0, 0)) := heap_setCell_same _ m 5 _ t v5 a
  exact a
 ·rw [heap_setCell_other _ _ _ _ k1, heap_setCell_other _ _ _ _ k1, heap_setCell_other _ _ _ _ k1, heap_setCell_other _ _ _ _ k1, heap_setCell_other _ _ _ _ k1, heap_setCell_other _ _ _ _ k1]
theorem put6_kp (w : World) (m : Nat) (v0 v1 v2 v3 v4 v5 : Value) {B : Nat} (hm : B ≤ m) : Kp (fun k => B ≤ k) w (put6 w m v0 v1 v2 v3 v4 v5) :=
 (kp_set _ m 0 v0 hm).trans ((kp_set _ m 1 v1 hm).trans ((kp_set _ m 2 v2 hm).trans ((kp_set _ m 3 v3 hm).trans ((kp_set _ m 4 v4 hm).trans (kp_set _ m 5 v5 hm)))))
def put2 (w : World) (n : Nat) (u0 u1 : Value) : World := (w.setCell ⟨n, 0, none⟩ u0).setCell ⟨n, 1, none⟩ u1
theorem put2_at {w : World} {n : Nat} {d0 d1 : Value} (hn : w.heap[n]? = some (.cells #[d0, d1] 127 (0, 0))) (u0 u1 : Value) : (put2 w n u0 u1).heap[n]? = some (.cells #[u0, u1] 127 (0, 0)) ∧ (∀ k, k ≠ n → (put2 w n u0 u1).heap[k]? = w.heap[k]?) := by
 unfold put2
 refine ⟨?_, fun k k1 => ?_⟩
 ·have a : _ = some (Obj.cells #[u0, d1] 127 (0, 0)) := heap_setCell_same _ n 0 _ 127 u0 hn
  have a : _ = some (Obj.cells #[u0, u1] 127 (0, 0)) := heap_setCell_same _ n 1 _ 127 u1 a
  exact a
 ·rw [heap_setCell_other _ _ _ _ k1, heap_setCell_other _ _ _ _ k1]
theorem put2_kp (w : World) (n : Nat) (u0 u1 : Value) {B : Nat} (hn : B ≤ n) : Kp (fun k => B ≤ k) w (put2 w n u0 u1) := (kp_set _ n 0 u0 hn).trans (kp_set _ n 1 u1 hn)
theorem fault_ne (c q : Int) (w : World) : (binOp .neq 127 (.agg #[.int .i64 c, .int .i64 q]) (.agg #[.int .i64 0, .int .i64 0])).run Tryz.prog w = .ok (.bool (decide ((c, q) ≠ ((0, 0) : Int × Int)))) w := by
 have u3 := Tryz.underlying3
 have a3 := Tryz.isAgg3
 have z3 := Tryz.sizeOf3
 have u26 := Tryz.underlying26
 have a26 := Tryz.isAgg26
 have z26 := Tryz.sizeOf26
 have hS : Tryz.prog.underlying 127 = some (.struct (Tryz.prog.fieldsOf 127)) := by kernel_rfl
 have hp : Tryz.prog.stoodInHeld 127 = false := by kernel_rfl
 rw [run_neq_struct, show (10000 : Nat) = 9999 + 1 from rfl, run_equalIn_agg w 9999 127 _ _ hS hp]
 simp only [Program.fieldsOf, Tryz.underlying127]
 go_simp
 by_cases h1 : c = 0 <;> by_cases h2 : q = 0 <;> simp [h1, h2]
section
variable {P : Program} {md : Region.Mode} {ops : Array Oper} {Q : Exit → Act → World → Prop} {S : World → Prop} {z : Nat}
theorem z_pick {fuel : Nat} {listed : Array Bool} {a : Act} {w : World} (l : List Nat) (hr : Region.ready md ops listed = l) (hne : l ≠ [])
  (h : ∀ i ∈ l, ∃ oi, ops[i]? = some oi ∧ Region.wanted oi (yielded ops a.tmps) = true ∧ oi.wp P a w (fun a' w' => (i = z ∨ S w') ∧ wpAnyZ P md ops Q S z fuel (listed.setIfInBounds i true) a' w') Q) : wpAnyZ P md ops Q S z (fuel + 1) listed a w := by
 subst hr
 refine ⟨fun h0 => absurd h0 hne, fun j hj => ?_⟩
 obtain ⟨oi, ho, hw, hh⟩ := h j hj
 unfold wpOp
 rw [ho]
 dsimp only
 rw [if_pos hw]
 exact .inl hh
end
set_option maxHeartbeats 4000000 in
theorem of_calls (fmt : Int) (p : Nat) (L F U : Value) (en cl : Bool) (x : LV) (out : Value) (w : World) (hW : W w) (hp : w.heap[p]? = some (.cells #[.int .i64 fmt, L, F, U, .bool en, .bool cl] 77 (0, 0)))
  (hrd : x.long = false → FnT 88 [.string (strOfNums x.t), .int .i64 fmt] out) :
  Calls Tryz.prog 53 #[.pointer (some ⟨p, 0, none⟩), .agg (lvv x)] w fun e w' => ∃ V, e = .returned V ∧ EvAt w' V (evOf x out) ∧ RowKit.Below w.heap.size w w' := by
 obtain ⟨xa, xb, xt, xl⟩ := x
 simp only [lvv]
 have c0 : w.cell? ⟨p, 0, none⟩ = some (.int .i64 fmt) := by rw [cell_of_row _ _ _ _ _ _ hp]; rfl
 have hplt : p < w.heap.size := (Array.getElem?_eq_some_iff.1 hp).1
 have HP := hidden hp
 clear hp
 cases xl with
 | true =>
  go_enter Tryz.func53, Tryz.ntmps53
  go_wp2_with fail
  refine bodyPost_ret (results_cell_row rfl _ _ (w.heap.size + 1) 32 #[.int .i64 2, .int .i64 xa, .int .i64 xb, .slice none 0 0, .int .i64 12, .int .i64 xa] (0, 0) _ rfl ?_ Tryz.underlying32 rfl (by kernel_rfl)) rfl ⟨_, rfl, ⟨.slice none 0 0, rfl, rfl⟩, ?_⟩
  ·refine (Below.heap_alloc _ _ _ (by simp)).trans ?_
   have := heap_alloc_new (w.alloc (.cells #[.int .i64 xa, .int .i64 xb, .string (strOfNums xt), .bool true] 119)) (.cells #[.int .i64 2, .int .i64 xa, .int .i64 xb, .slice none 0 0, .int .i64 12, .int .i64 xa] 32)
   rwa [World.size_alloc] at this
  ·exact (((Below.refl _ w).alloc (Nat.le_refl _) _).alloc (by simp) _).alloc (by simp; omega) _
 | false =>
  have HR := hidden (hrd rfl)
  clear hrd
  go_enter Tryz.func53, Tryz.ntmps53
  go_wp2_with fail
  obtain ⟨wB, hwB⟩ : ∃ Y, Y = ((w.alloc (.cells #[.int .i64 xa, .int .i64 xb, .string (strOfNums xt), .bool false] 119)).alloc (.cells #[.int .i64 0, .int .i64 0, .int .i64 0, .slice none 0 0, .int .i64 0, .int .i64 0] 32)).alloc (.cells #[.int .i64 2, .int .i64 xa, .int .i64 xb, .slice none 0 0, .int .i64 12, .int .i64 xa] 32) := ⟨_, rfl⟩
  rw [← hwB]
  obtain ⟨X0, hX0⟩ : ∃ Y, Y = wB.drew := ⟨_, rfl⟩
  refine region_plain (fun X => X.cell? ⟨w.heap.size, 2, none⟩ = some (.string (strOfNums xt)) ∧ X.cell? ⟨p, 0, none⟩ = some (.int .i64 fmt)) 99 (by kernel_rfl) ?_
  rw [← hX0]
  have hbB : RowKit.Below w.heap.size w X0 := by
   rw [hX0, hwB]
   exact ((((Below.refl _ w).alloc (Nat.le_refl _) _).alloc (by simp) _).alloc (by simp; omega) _).drew
  have zA : X0.heap[w.heap.size]? = some (.cells #[.int .i64 xa, .int .i64 xb, .string (strOfNums xt), .bool false] 119 (0, 0)) := by
   rw [hX0, hwB]
   exact (Below.heap_alloc _ _ _ (by simp only [World.size_alloc]; omega)).trans ((Below.heap_alloc _ _ _ (by simp only [World.size_alloc]; omega)).trans (heap_alloc_new _ _))
  have z4 : X0.heap[w.heap.size + 1]? = some (.cells #[.int .i64 0, .int .i64 0, .int .i64 0, .slice none 0 0, .int .i64 0, .int .i64 0] 32 (0, 0)) := by
   rw [hX0, hwB]
   refine (Below.heap_alloc _ _ _ (by simp)).trans ?_
   have := heap_alloc_new (w.alloc (.cells #[.int .i64 xa, .int .i64 xb, .string (strOfNums xt), .bool false] 119)) (.cells #[.int .i64 0, .int .i64 0, .int .i64 0, .slice none 0 0, .int .i64 0, .int .i64 0] 32)
   rwa [World.size_alloc] at this
  have z5 : X0.heap[w.heap.size + 1 + 1]? = some (.cells #[.int .i64 2, .int .i64 xa, .int .i64 xb, .slice none 0 0, .int .i64 12, .int .i64 xa] 32 (0, 0)) := by
   rw [hX0, hwB]
   have := heap_alloc_new ((w.alloc (.cells #[.int .i64 xa, .int .i64 xb, .string (strOfNums xt), .bool false] 119)).alloc (.cells #[.int .i64 0, .int .i64 0, .int .i64 0, .slice none 0 0, .int .i64 0, .int .i64 0] 32)) (.cells #[.int .i64 2, .int .i64 xa, .int .i64 xb, .slice none 0 0, .int .i64 12, .int .i64 xa] 32)
   rwa [World.size_alloc, World.size_alloc] at this
  have hWB : Hid (W X0) := hidden (hW.below hbB)
  have hS : X0.cell? ⟨w.heap.size, 2, none⟩ = some (.string (strOfNums xt)) ∧ X0.cell? ⟨p, 0, none⟩ = some (.int .i64 fmt) := ⟨by rw [cell_of_row _ _ _ _ _ _ zA]; rfl, (hbB.cell (p := ⟨p, 0, none⟩) hplt).trans c0⟩
  have HZ := hidden (And.intro zA (And.intro z4 z5))
  have HbB := hidden hbB
  have HB0 := hidden (Below.refl X0.heap.size X0)
  clear hX0 hwB hbB zA z4 z5 c0
  generalize hn0 : w.heap.size = n0 at hS HZ ⊢
  refine z_t 0 (v := ?_) hS ?_ ?_
  rotate_left
  ·(rintro wS ⟨s0, s1⟩; go_simp <;> with_reducible rfl)
  simp only [Act.put, List.setIfInBounds_toArray, List.set_cons_zero, List.set_cons_succ]
  refine z_t 1 (v := ?_) hS ?_ ?_
  rotate_left
  ·(rintro wS ⟨s0, s1⟩; go_simp <;> with_reducible rfl)
  simp only [Act.put, List.setIfInBounds_toArray, List.set_cons_zero, List.set_cons_succ]
  refine z_t 2 (v := ?_) hS ?_ ?_
  rotate_left
  ·(rintro wS ⟨s0, s1⟩; go_simp <;> with_reducible rfl)
  simp only [Act.put, List.setIfInBounds_toArray, List.set_cons_zero, List.set_cons_succ]
  refine z_t 3 (v := ?_) hS ?_ ?_
  rotate_left
  ·(rintro wS ⟨s0, s1⟩; go_simp <;> with_reducible rfl)
  simp only [Act.put, List.setIfInBounds_toArray, List.set_cons_zero, List.set_cons_succ]
  refine z_t 4 (v := ?_) hS ?_ ?_
  rotate_left
  ·(rintro wS ⟨s0, s1⟩; go_simp <;> with_reducible rfl)
  simp only [Act.put, List.setIfInBounds_toArray, List.set_cons_zero, List.set_cons_succ]
  refine z_t 5 (v := ?_) hS ?_ ?_
  rotate_left
  ·(rintro wS ⟨s0, s1⟩; go_simp <;> with_reducible rfl)
  simp only [Act.put, List.setIfInBounds_toArray, List.set_cons_zero, List.set_cons_succ]
  refine z_pick [6, 10, 11] (by kernel_rfl) (by simp) fun i hi => ?_
  simp only [List.mem_cons, List.not_mem_nil, or_false] at hi
  rcases hi with rfl | rfl | rfl
  refine ⟨_, rfl, by rfl, ?_⟩
  go_simp
  refine (HR.out X0 (hWB.out.below HB0.out)).mono ?_
  rintro e X1 ⟨⟨a0, a1, a3, a5, f0, f1, V, cells, T, tags, ho, rfl, hV, hT, ⟨⟨x0, rfl⟩, ⟨x1, rfl⟩, ⟨x3, rfl⟩, ⟨x5, rfl⟩, ⟨y0, rfl⟩, ⟨y1, rfl⟩⟩, hc, ht⟩, hk⟩
  have b0 : RowKit.Below X0.heap.size X0 X1 := belowK hk
  obtain ⟨VA, Vn, Vc, rfl⟩ := hV.slice
  obtain ⟨TA, Tn, Tc, rfl⟩ := hT.slice
  have HO := hidden ho
  have HC := hidden (And.intro hc ht)
  clear ho hc ht hk
  simp only [Ty.val]
  have HB1 := hidden (HB0.out.trans (b0.mono HB0.out.size))
  replace hS := S_below hS b0
  clear b0
  refine ⟨hS, ?_⟩
  refine z_t 7 (v := ?_) hS ?_ ?_
  rotate_left
  ·(rintro wS ⟨s0, s1⟩; go_simp <;> with_reducible rfl)
  simp only [Act.put, List.setIfInBounds_toArray, List.set_cons_zero, List.set_cons_succ]
  refine z_t 8 (v := ?_) hS ?_ ?_
  rotate_left
  ·(rintro wS ⟨s0, s1⟩; go_simp <;> with_reducible rfl)
  simp only [Act.put, List.setIfInBounds_toArray, List.set_cons_zero, List.set_cons_succ]
  refine z_t 9 (v := ?_) hS ?_ ?_
  rotate_left
  ·(rintro wS ⟨s0, s1⟩; go_simp <;> with_reducible rfl)
  simp only [Act.put, List.setIfInBounds_toArray, List.set_cons_zero, List.set_cons_succ]
  refine z_pick [10, 11] (by kernel_rfl) (by simp) fun i hi => ?_
  simp only [List.mem_cons, List.not_mem_nil, or_false] at hi
  rcases hi with rfl | rfl
  refine ⟨_, rfl, by rfl, ?_⟩
  go_simp
  obtain ⟨X2, hX2⟩ : ∃ Y, Y = X1.alloc (.cells #[.string ⟨#[]⟩, .int .i64 0, .slice none 0 0, .int .i64 0, .slice none 0 0, .int .i64 0] 42) := ⟨_, rfl⟩
  rw [← hX2]
  have b1 : RowKit.Below X1.heap.size X1 X2 := by rw [hX2]; exact (Below.refl _ _).alloc (Nat.le_refl _) _
  have z10 : X2.heap[X1.heap.size]? = some (.cells #[.string ⟨#[]⟩, .int .i64 0, .slice none 0 0, .int .i64 0, .slice none 0 0, .int .i64 0] 42 (0, 0)) := by rw [hX2]; exact heap_alloc_new _ _
  clear hX2
  obtain ⟨n6, hn6⟩ : ∃ n, n = X1.heap.size := ⟨_, rfl⟩
  rw [← hn6] at z10 ⊢
  have l10 : X0.heap.size ≤ n6 := by rw [hn6]; exact HB1.out.size
  clear hn6
  replace hV := SlAt.below hV b1
  replace hT := SlAt.below hT b1
  have HB2 := hidden (HB1.out.trans (b1.mono HB1.out.size))
  replace hS := S_below hS b1
  clear b1
  refine ⟨hS, ?_⟩
  refine z_one (i := 11) (by kernel_rfl) rfl rfl ?_
  go_simp
  obtain ⟨X3, hX3⟩ : ∃ Y, Y = X2.alloc (.cells #[.int .i64 0, .int .i64 0] 127) := ⟨_, rfl⟩
  rw [← hX3]
  have b2 : RowKit.Below X2.heap.size X2 X3 := by rw [hX3]; exact (Below.refl _ _).alloc (Nat.le_refl _) _
  have z11 : X3.heap[X2.heap.size]? = some (.cells #[.int .i64 0, .int .i64 0] 127 (0, 0)) := by rw [hX3]; exact heap_alloc_new _ _
  clear hX3
  obtain ⟨n7, hn7⟩ : ∃ n, n = X2.heap.size := ⟨_, rfl⟩
  rw [← hn7] at z11 ⊢
  have l11 : X0.heap.size ≤ n7 := by rw [hn7]; exact HB2.out.size
  clear hn7
  replace hV := SlAt.below hV b2
  replace hT := SlAt.below hT b2
  replace z10 := (b2.block _ (Array.getElem?_eq_some_iff.1 z10).1).trans z10
  have HB3 := hidden (HB2.out.trans (b2.mono HB2.out.size))
  replace hS := S_below hS b2
  clear b2
  refine ⟨hS, ?_⟩
  rotate_left
  refine ⟨_, rfl, by rfl, ?_⟩
  go_simp
  obtain ⟨X2, hX2⟩ : ∃ Y, Y = X1.alloc (.cells #[.int .i64 0, .int .i64 0] 127) := ⟨_, rfl⟩
  rw [← hX2]
  have b1 : RowKit.Below X1.heap.size X1 X2 := by rw [hX2]; exact (Below.refl _ _).alloc (Nat.le_refl _) _
  have z11 : X2.heap[X1.heap.size]? = some (.cells #[.int .i64 0, .int .i64 0] 127 (0, 0)) := by rw [hX2]; exact heap_alloc_new _ _
  clear hX2
  obtain ⟨n7, hn7⟩ : ∃ n, n = X1.heap.size := ⟨_, rfl⟩
  rw [← hn7] at z11 ⊢
  have l11 : X0.heap.size ≤ n7 := by rw [hn7]; exact HB1.out.size
  clear hn7
  replace hV := SlAt.below hV b1
  replace hT := SlAt.below hT b1
  have HB2 := hidden (HB1.out.trans (b1.mono HB1.out.size))
  replace hS := S_below hS b1
  clear b1
  refine ⟨hS, ?_⟩
  refine z_one (i := 10) (by kernel_rfl) rfl rfl ?_
  go_simp
  obtain ⟨X3, hX3⟩ : ∃ Y, Y = X2.alloc (.cells #[.string ⟨#[]⟩, .int .i64 0, .slice none 0 0, .int .i64 0, .slice none 0 0, .int .i64 0] 42) := ⟨_, rfl⟩
  rw [← hX3]
  have b2 : RowKit.Below X2.heap.size X2 X3 := by rw [hX3]; exact (Below.refl _ _).alloc (Nat.le_refl _) _
  have z10 : X3.heap[X2.heap.size]? = some (.cells #[.string ⟨#[]⟩, .int .i64 0, .slice none 0 0, .int .i64 0, .slice none 0 0, .int .i64 0] 42 (0, 0)) := by rw [hX3]; exact heap_alloc_new _ _
  clear hX3
  obtain ⟨n6, hn6⟩ : ∃ n, n = X2.heap.size := ⟨_, rfl⟩
  rw [← hn6] at z10 ⊢
  have l10 : X0.heap.size ≤ n6 := by rw [hn6]; exact HB2.out.size
  clear hn6
  replace hV := SlAt.below hV b2
  replace hT := SlAt.below hT b2
  replace z11 := (b2.block _ (Array.getElem?_eq_some_iff.1 z11).1).trans z11
  have HB3 := hidden (HB2.out.trans (b2.mono HB2.out.size))
  replace hS := S_below hS b2
  clear b2
  refine ⟨hS, ?_⟩
  rotate_left
  refine ⟨_, rfl, by rfl, ?_⟩
  go_simp
  obtain ⟨X1, hX1⟩ : ∃ Y, Y = X0.alloc (.cells #[.string ⟨#[]⟩, .int .i64 0, .slice none 0 0, .int .i64 0, .slice none 0 0, .int .i64 0] 42) := ⟨_, rfl⟩
  rw [← hX1]
  have b0 : RowKit.Below X0.heap.size X0 X1 := by rw [hX1]; exact (Below.refl _ _).alloc (Nat.le_refl _) _
  have z10 : X1.heap[X0.heap.size]? = some (.cells #[.string ⟨#[]⟩, .int .i64 0, .slice none 0 0, .int .i64 0, .slice none 0 0, .int .i64 0] 42 (0, 0)) := by rw [hX1]; exact heap_alloc_new _ _
  clear hX1
  obtain ⟨n6, hn6⟩ : ∃ n, n = X0.heap.size := ⟨_, rfl⟩
  rw [← hn6] at z10 ⊢
  have l10 : X0.heap.size ≤ n6 := by rw [hn6]; exact HB0.out.size
  clear hn6
  have HB1 := hidden (HB0.out.trans (b0.mono HB0.out.size))
  replace hS := S_below hS b0
  clear b0
  refine ⟨hS, ?_⟩
  refine z_pick [6, 11] (by kernel_rfl) (by simp) fun i hi => ?_
  simp only [List.mem_cons, List.not_mem_nil, or_false] at hi
  rcases hi with rfl | rfl
  refine ⟨_, rfl, by rfl, ?_⟩
  go_simp
  refine (HR.out X1 (hWB.out.below HB1.out)).mono ?_
  rintro e X2 ⟨⟨a0, a1, a3, a5, f0, f1, V, cells, T, tags, ho, rfl, hV, hT, ⟨⟨x0, rfl⟩, ⟨x1, rfl⟩, ⟨x3, rfl⟩, ⟨x5, rfl⟩, ⟨y0, rfl⟩, ⟨y1, rfl⟩⟩, hc, ht⟩, hk⟩
  have b1 : RowKit.Below X1.heap.size X1 X2 := belowK hk
  obtain ⟨VA, Vn, Vc, rfl⟩ := hV.slice
  obtain ⟨TA, Tn, Tc, rfl⟩ := hT.slice
  have HO := hidden ho
  have HC := hidden (And.intro hc ht)
  clear ho hc ht hk
  simp only [Ty.val]
  replace z10 := (b1.block _ (Array.getElem?_eq_some_iff.1 z10).1).trans z10
  have HB2 := hidden (HB1.out.trans (b1.mono HB1.out.size))
  replace hS := S_below hS b1
  clear b1
  refine ⟨hS, ?_⟩
  refine z_t 7 (v := ?_) hS ?_ ?_
  rotate_left
  ·(rintro wS ⟨s0, s1⟩; go_simp <;> with_reducible rfl)
  simp only [Act.put, List.setIfInBounds_toArray, List.set_cons_zero, List.set_cons_succ]
  refine z_t 8 (v := ?_) hS ?_ ?_
  rotate_left
  ·(rintro wS ⟨s0, s1⟩; go_simp <;> with_reducible rfl)
  simp only [Act.put, List.setIfInBounds_toArray, List.set_cons_zero, List.set_cons_succ]
  refine z_t 9 (v := ?_) hS ?_ ?_
  rotate_left
  ·(rintro wS ⟨s0, s1⟩; go_simp <;> with_reducible rfl)
  simp only [Act.put, List.setIfInBounds_toArray, List.set_cons_zero, List.set_cons_succ]
  refine z_one (i := 11) (by kernel_rfl) rfl rfl ?_
  go_simp
  obtain ⟨X3, hX3⟩ : ∃ Y, Y = X2.alloc (.cells #[.int .i64 0, .int .i64 0] 127) := ⟨_, rfl⟩
  rw [← hX3]
  have b2 : RowKit.Below X2.heap.size X2 X3 := by rw [hX3]; exact (Below.refl _ _).alloc (Nat.le_refl _) _
  have z11 : X3.heap[X2.heap.size]? = some (.cells #[.int .i64 0, .int .i64 0] 127 (0, 0)) := by rw [hX3]; exact heap_alloc_new _ _
  clear hX3
  obtain ⟨n7, hn7⟩ : ∃ n, n = X2.heap.size := ⟨_, rfl⟩
  rw [← hn7] at z11 ⊢
  have l11 : X0.heap.size ≤ n7 := by rw [hn7]; exact HB2.out.size
  clear hn7
  replace z10 := (b2.block _ (Array.getElem?_eq_some_iff.1 z10).1).trans z10
  replace hV := SlAt.below hV b2
  replace hT := SlAt.below hT b2
  have HB3 := hidden (HB2.out.trans (b2.mono HB2.out.size))
  replace hS := S_below hS b2
  clear b2
  refine ⟨hS, ?_⟩
  rotate_left
  refine ⟨_, rfl, by rfl, ?_⟩
  go_simp
  obtain ⟨X2, hX2⟩ : ∃ Y, Y = X1.alloc (.cells #[.int .i64 0, .int .i64 0] 127) := ⟨_, rfl⟩
  rw [← hX2]
  have b1 : RowKit.Below X1.heap.size X1 X2 := by rw [hX2]; exact (Below.refl _ _).alloc (Nat.le_refl _) _
  have z11 : X2.heap[X1.heap.size]? = some (.cells #[.int .i64 0, .int .i64 0] 127 (0, 0)) := by rw [hX2]; exact heap_alloc_new _ _
  clear hX2
  obtain ⟨n7, hn7⟩ : ∃ n, n = X1.heap.size := ⟨_, rfl⟩
  rw [← hn7] at z11 ⊢
  have l11 : X0.heap.size ≤ n7 := by rw [hn7]; exact HB1.out.size
  clear hn7
  replace z10 := (b1.block _ (Array.getElem?_eq_some_iff.1 z10).1).trans z10
  have HB2 := hidden (HB1.out.trans (b1.mono HB1.out.size))
  replace hS := S_below hS b1
  clear b1
  refine ⟨hS, ?_⟩
  refine z_one (i := 6) (by kernel_rfl) rfl rfl ?_
  go_simp
  refine (HR.out X2 (hWB.out.below HB2.out)).mono ?_
  rintro e X3 ⟨⟨a0, a1, a3, a5, f0, f1, V, cells, T, tags, ho, rfl, hV, hT, ⟨⟨x0, rfl⟩, ⟨x1, rfl⟩, ⟨x3, rfl⟩, ⟨x5, rfl⟩, ⟨y0, rfl⟩, ⟨y1, rfl⟩⟩, hc, ht⟩, hk⟩
  have b2 : RowKit.Below X2.heap.size X2 X3 := belowK hk
  obtain ⟨VA, Vn, Vc, rfl⟩ := hV.slice
  obtain ⟨TA, Tn, Tc, rfl⟩ := hT.slice
  have HO := hidden ho
  have HC := hidden (And.intro hc ht)
  clear ho hc ht hk
  simp only [Ty.val]
  replace z10 := (b2.block _ (Array.getElem?_eq_some_iff.1 z10).1).trans z10
  replace z11 := (b2.block _ (Array.getElem?_eq_some_iff.1 z11).1).trans z11
  have HB3 := hidden (HB2.out.trans (b2.mono HB2.out.size))
  replace hS := S_below hS b2
  clear b2
  refine ⟨hS, ?_⟩
  refine z_t 7 (v := ?_) hS ?_ ?_
  rotate_left
  ·(rintro wS ⟨s0, s1⟩; go_simp <;> with_reducible rfl)
  simp only [Act.put, List.setIfInBounds_toArray, List.set_cons_zero, List.set_cons_succ]
  refine z_t 8 (v := ?_) hS ?_ ?_
  rotate_left
  ·(rintro wS ⟨s0, s1⟩; go_simp <;> with_reducible rfl)
  simp only [Act.put, List.setIfInBounds_toArray, List.set_cons_zero, List.set_cons_succ]
  refine z_t 9 (v := ?_) hS ?_ ?_
  rotate_left
  ·(rintro wS ⟨s0, s1⟩; go_simp <;> with_reducible rfl)
  simp only [Act.put, List.setIfInBounds_toArray, List.set_cons_zero, List.set_cons_succ]
  rotate_left
  refine ⟨_, rfl, by rfl, ?_⟩
  go_simp
  obtain ⟨X1, hX1⟩ : ∃ Y, Y = X0.alloc (.cells #[.int .i64 0, .int .i64 0] 127) := ⟨_, rfl⟩
  rw [← hX1]
  have b0 : RowKit.Below X0.heap.size X0 X1 := by rw [hX1]; exact (Below.refl _ _).alloc (Nat.le_refl _) _
  have z11 : X1.heap[X0.heap.size]? = some (.cells #[.int .i64 0, .int .i64 0] 127 (0, 0)) := by rw [hX1]; exact heap_alloc_new _ _
  clear hX1
  obtain ⟨n7, hn7⟩ : ∃ n, n = X0.heap.size := ⟨_, rfl⟩
  rw [← hn7] at z11 ⊢
  have l11 : X0.heap.size ≤ n7 := by rw [hn7]; exact HB0.out.size
  clear hn7
  have HB1 := hidden (HB0.out.trans (b0.mono HB0.out.size))
  replace hS := S_below hS b0
  clear b0
  refine ⟨hS, ?_⟩
  refine z_pick [6, 10] (by kernel_rfl) (by simp) fun i hi => ?_
  simp only [List.mem_cons, List.not_mem_nil, or_false] at hi
  rcases hi with rfl | rfl
  refine ⟨_, rfl, by rfl, ?_⟩
  go_simp
  refine (HR.out X1 (hWB.out.below HB1.out)).mono ?_
  rintro e X2 ⟨⟨a0, a1, a3, a5, f0, f1, V, cells, T, tags, ho, rfl, hV, hT, ⟨⟨x0, rfl⟩, ⟨x1, rfl⟩, ⟨x3, rfl⟩, ⟨x5, rfl⟩, ⟨y0, rfl⟩, ⟨y1, rfl⟩⟩, hc, ht⟩, hk⟩
  have b1 : RowKit.Below X1.heap.size X1 X2 := belowK hk
  obtain ⟨VA, Vn, Vc, rfl⟩ := hV.slice
  obtain ⟨TA, Tn, Tc, rfl⟩ := hT.slice
  have HO := hidden ho
  have HC := hidden (And.intro hc ht)
  clear ho hc ht hk
  simp only [Ty.val]
  replace z11 := (b1.block _ (Array.getElem?_eq_some_iff.1 z11).1).trans z11
  have HB2 := hidden (HB1.out.trans (b1.mono HB1.out.size))
  replace hS := S_below hS b1
  clear b1
  refine ⟨hS, ?_⟩
  refine z_t 7 (v := ?_) hS ?_ ?_
  rotate_left
  ·(rintro wS ⟨s0, s1⟩; go_simp <;> with_reducible rfl)
  simp only [Act.put, List.setIfInBounds_toArray, List.set_cons_zero, List.set_cons_succ]
  refine z_t 8 (v := ?_) hS ?_ ?_
  rotate_left
  ·(rintro wS ⟨s0, s1⟩; go_simp <;> with_reducible rfl)
  simp only [Act.put, List.setIfInBounds_toArray, List.set_cons_zero, List.set_cons_succ]
  refine z_t 9 (v := ?_) hS ?_ ?_
  rotate_left
  ·(rintro wS ⟨s0, s1⟩; go_simp <;> with_reducible rfl)
  simp only [Act.put, List.setIfInBounds_toArray, List.set_cons_zero, List.set_cons_succ]
  refine z_one (i := 10) (by kernel_rfl) rfl rfl ?_
  go_simp
  obtain ⟨X3, hX3⟩ : ∃ Y, Y = X2.alloc (.cells #[.string ⟨#[]⟩, .int .i64 0, .slice none 0 0, .int .i64 0, .slice none 0 0, .int .i64 0] 42) := ⟨_, rfl⟩
  rw [← hX3]
  have b2 : RowKit.Below X2.heap.size X2 X3 := by rw [hX3]; exact (Below.refl _ _).alloc (Nat.le_refl _) _
  have z10 : X3.heap[X2.heap.size]? = some (.cells #[.string ⟨#[]⟩, .int .i64 0, .slice none 0 0, .int .i64 0, .slice none 0 0, .int .i64 0] 42 (0, 0)) := by rw [hX3]; exact heap_alloc_new _ _
  clear hX3
  obtain ⟨n6, hn6⟩ : ∃ n, n = X2.heap.size := ⟨_, rfl⟩
  rw [← hn6] at z10 ⊢
  have l10 : X0.heap.size ≤ n6 := by rw [hn6]; exact HB2.out.size
  clear hn6
  replace z11 := (b2.block _ (Array.getElem?_eq_some_iff.1 z11).1).trans z11
  replace hV := SlAt.below hV b2
  replace hT := SlAt.below hT b2
  have HB3 := hidden (HB2.out.trans (b2.mono HB2.out.size))
  replace hS := S_below hS b2
  clear b2
  refine ⟨hS, ?_⟩
  rotate_left
  refine ⟨_, rfl, by rfl, ?_⟩
  go_simp
  obtain ⟨X2, hX2⟩ : ∃ Y, Y = X1.alloc (.cells #[.string ⟨#[]⟩, .int .i64 0, .slice none 0 0, .int .i64 0, .slice none 0 0, .int .i64 0] 42) := ⟨_, rfl⟩
  rw [← hX2]
  have b1 : RowKit.Below X1.heap.size X1 X2 := by rw [hX2]; exact (Below.refl _ _).alloc (Nat.le_refl _) _
  have z10 : X2.heap[X1.heap.size]? = some (.cells #[.string ⟨#[]⟩, .int .i64 0, .slice none 0 0, .int .i64 0, .slice none 0 0, .int .i64 0] 42 (0, 0)) := by rw [hX2]; exact heap_alloc_new _ _
  clear hX2
  obtain ⟨n6, hn6⟩ : ∃ n, n = X1.heap.size := ⟨_, rfl⟩
  rw [← hn6] at z10 ⊢
  have l10 : X0.heap.size ≤ n6 := by rw [hn6]; exact HB1.out.size
  clear hn6
  replace z11 := (b1.block _ (Array.getElem?_eq_some_iff.1 z11).1).trans z11
  have HB2 := hidden (HB1.out.trans (b1.mono HB1.out.size))
  replace hS := S_below hS b1
  clear b1
  refine ⟨hS, ?_⟩
  refine z_one (i := 6) (by kernel_rfl) rfl rfl ?_
  go_simp
  refine (HR.out X2 (hWB.out.below HB2.out)).mono ?_
  rintro e X3 ⟨⟨a0, a1, a3, a5, f0, f1, V, cells, T, tags, ho, rfl, hV, hT, ⟨⟨x0, rfl⟩, ⟨x1, rfl⟩, ⟨x3, rfl⟩, ⟨x5, rfl⟩, ⟨y0, rfl⟩, ⟨y1, rfl⟩⟩, hc, ht⟩, hk⟩
  have b2 : RowKit.Below X2.heap.size X2 X3 := belowK hk
  obtain ⟨VA, Vn, Vc, rfl⟩ := hV.slice
  obtain ⟨TA, Tn, Tc, rfl⟩ := hT.slice
  have HO := hidden ho
  have HC := hidden (And.intro hc ht)
  clear ho hc ht hk
  simp only [Ty.val]
  replace z11 := (b2.block _ (Array.getElem?_eq_some_iff.1 z11).1).trans z11
  replace z10 := (b2.block _ (Array.getElem?_eq_some_iff.1 z10).1).trans z10
  have HB3 := hidden (HB2.out.trans (b2.mono HB2.out.size))
  replace hS := S_below hS b2
  clear b2
  refine ⟨hS, ?_⟩
  refine z_t 7 (v := ?_) hS ?_ ?_
  rotate_left
  ·(rintro wS ⟨s0, s1⟩; go_simp <;> with_reducible rfl)
  simp only [Act.put, List.setIfInBounds_toArray, List.set_cons_zero, List.set_cons_succ]
  refine z_t 8 (v := ?_) hS ?_ ?_
  rotate_left
  ·(rintro wS ⟨s0, s1⟩; go_simp <;> with_reducible rfl)
  simp only [Act.put, List.setIfInBounds_toArray, List.set_cons_zero, List.set_cons_succ]
  refine z_t 9 (v := ?_) hS ?_ ?_
  rotate_left
  ·(rintro wS ⟨s0, s1⟩; go_simp <;> with_reducible rfl)
  simp only [Act.put, List.setIfInBounds_toArray, List.set_cons_zero, List.set_cons_succ]
  rotate_left
  all_goals
   have e0 : n0 < X0.heap.size := (Array.getElem?_eq_some_iff.1 HZ.out.1).1
   have ep : p < X0.heap.size := by have := HbB.out.size; omega
   have d1 : n0 ≠ n6 := by omega
   have d2 : p ≠ n6 := by omega
   have d3 : n0 ≠ n7 := by omega
   have d4 : p ≠ n7 := by omega
   have d5 : n7 ≠ n6 := fun e => by rw [e, z10] at z11; cases z11
   have c60 : X3.cell? ⟨n6, 0, none⟩ = some (.string ⟨#[]⟩) := by rw [cell_of_row _ _ _ _ _ _ z10]; rfl
   have c61 : X3.cell? ⟨n6, 1, none⟩ = some (.int .i64 0) := by rw [cell_of_row _ _ _ _ _ _ z10]; rfl
   have c62 : X3.cell? ⟨n6, 2, none⟩ = some (.slice none 0 0) := by rw [cell_of_row _ _ _ _ _ _ z10]; rfl
   have c63 : X3.cell? ⟨n6, 3, none⟩ = some (.int .i64 0) := by rw [cell_of_row _ _ _ _ _ _ z10]; rfl
   have c64 : X3.cell? ⟨n6, 4, none⟩ = some (.slice none 0 0) := by rw [cell_of_row _ _ _ _ _ _ z10]; rfl
   have c65 : X3.cell? ⟨n6, 5, none⟩ = some (.int .i64 0) := by rw [cell_of_row _ _ _ _ _ _ z10]; rfl
   have f6 := fun j => frozen_of_row X3 n6 j _ 42 z10
   obtain ⟨p1, p2⟩ := put6_at z10 (.string ⟨x0.toS.toArray⟩) (.int .i64 x1.toI) (.slice VA Vn Vc) (.int .i64 x3.toI) (.slice TA Tn Tc) (.int .i64 x5.toI)
   have hK6 := put6_kp X3 n6 (.string ⟨x0.toS.toArray⟩) (.int .i64 x1.toI) (.slice VA Vn Vc) (.int .i64 x3.toI) (.slice TA Tn Tc) (.int .i64 x5.toI) l10
   obtain ⟨Y6, hY6⟩ : ∃ Y, Y = put6 X3 n6 (.string ⟨x0.toS.toArray⟩) (.int .i64 x1.toI) (.slice VA Vn Vc) (.int .i64 x3.toI) (.slice TA Tn Tc) (.int .i64 x5.toI) := ⟨_, rfl⟩
   rw [← hY6] at p1 p2 hK6
   have HP1 := hidden p1
   have HP2 := hidden p2
   have HK6 := hidden hK6
   have HY6 := hidden hY6
   have HV := hidden hV
   have HT := hidden hT
   have Z11 := hidden z11
   have Z10 := hidden z10
   clear z10 z11 p1 p2 hK6 hY6 hV hT
   refine z_one (i := 12) (by kernel_rfl) rfl rfl ?_
   go_simp
   have hY6 := HY6.out
   unfold put6 at hY6
   rw [← hY6]
   clear hY6
   replace hS := S_keep hS (HP2.out _ d1) (HP2.out _ d2)
   try refine ⟨hS, ?_⟩
   clear c60 c61 c62 c63 c64 c65 f6
   have z11 := (HP2.out _ d5).trans Z11.out
   have c70 : Y6.cell? ⟨n7, 0, none⟩ = some (.int .i64 0) := by rw [cell_of_row _ _ _ _ _ _ z11]; rfl
   have c71 : Y6.cell? ⟨n7, 1, none⟩ = some (.int .i64 0) := by rw [cell_of_row _ _ _ _ _ _ z11]; rfl
   have f7 := fun j => frozen_of_row Y6 n7 j _ 127 z11
   obtain ⟨q1, q2⟩ := put2_at z11 (.int .i64 y0.toI) (.int .i64 y1.toI)
   have hK2 := put2_kp Y6 n7 (.int .i64 y0.toI) (.int .i64 y1.toI) l11
   obtain ⟨Y, hY⟩ : ∃ Y, Y = put2 Y6 n7 (.int .i64 y0.toI) (.int .i64 y1.toI) := ⟨_, rfl⟩
   rw [← hY] at q1 q2 hK2
   have HQ1 := hidden q1
   have HQ2 := hidden q2
   have HK2 := hidden hK2
   have HY := hidden hY
   clear z11 q1 q2 hK2 hY
   refine z_one (i := 13) (by kernel_rfl) rfl rfl ?_
   go_simp
   have hY := HY.out
   unfold put2 at hY
   rw [← hY]
   clear hY c70 c71 f7
   refine ⟨by kernel_rfl, ?_⟩
   have hHZ : RowKit.Below X0.heap.size X0 Y := HB3.out.trans ((⟨(HK6.out.trans HK2.out).os, (HK6.out.trans HK2.out).tape, (HK6.out.trans HK2.out).output, (HK6.out.trans HK2.out).size, fun k hk => (HK6.out.trans HK2.out).heap k (Nat.lt_of_lt_of_le hk HB3.out.size) (by omega)⟩ : RowKit.Below X0.heap.size X3 Y))
   have rA := (hHZ.block _ e0).trans HZ.out.1
   have r4 := (hHZ.block _ (Array.getElem?_eq_some_iff.1 HZ.out.2.1).1).trans HZ.out.2.1
   have r5 := (hHZ.block _ (Array.getElem?_eq_some_iff.1 HZ.out.2.2).1).trans HZ.out.2.2
   have r6 := (HQ2.out _ d5.symm).trans HP1.out
   have r7 := HQ1.out
   have HYB := hidden hHZ
   have R := hidden (And.intro rA (And.intro r4 (And.intro r5 (And.intro r6 r7))))
   clear hHZ
   have g70 : Y.cell? ⟨n7, 0, none⟩ = some (.int .i64 y0.toI) := by rw [cell_of_row _ _ _ _ _ _ r7]; rfl
   have g71 : Y.cell? ⟨n7, 1, none⟩ = some (.int .i64 y1.toI) := by rw [cell_of_row _ _ _ _ _ _ r7]; rfl
   have gA0 : Y.cell? ⟨n0, 0, none⟩ = some (.int .i64 xa) := by rw [cell_of_row _ _ _ _ _ _ rA]; rfl
   have gA1 : Y.cell? ⟨n0, 1, none⟩ = some (.int .i64 xb) := by rw [cell_of_row _ _ _ _ _ _ rA]; rfl
   have g50 : Y.cell? ⟨n0 + 1 + 1, 0, none⟩ = some (.int .i64 2) := by rw [cell_of_row _ _ _ _ _ _ r5]; rfl
   have g51 : Y.cell? ⟨n0 + 1 + 1, 1, none⟩ = some (.int .i64 xa) := by rw [cell_of_row _ _ _ _ _ _ r5]; rfl
   have g52 : Y.cell? ⟨n0 + 1 + 1, 2, none⟩ = some (.int .i64 xb) := by rw [cell_of_row _ _ _ _ _ _ r5]; rfl
   have g53 : Y.cell? ⟨n0 + 1 + 1, 3, none⟩ = some (.slice none 0 0) := by rw [cell_of_row _ _ _ _ _ _ r5]; rfl
   have g54 : Y.cell? ⟨n0 + 1 + 1, 4, none⟩ = some (.int .i64 12) := by rw [cell_of_row _ _ _ _ _ _ r5]; rfl
   have g55 : Y.cell? ⟨n0 + 1 + 1, 5, none⟩ = some (.int .i64 xa) := by rw [cell_of_row _ _ _ _ _ _ r5]; rfl
   have f5 := fun j => frozen_of_row Y (n0 + 1 + 1) j _ 32 r5
   have g60 : Y.cell? ⟨n6, 0, none⟩ = some (.string ⟨x0.toS.toArray⟩) := by rw [cell_of_row _ _ _ _ _ _ r6]; rfl
   have g61 : Y.cell? ⟨n6, 1, none⟩ = some (.int .i64 x1.toI) := by rw [cell_of_row _ _ _ _ _ _ r6]; rfl
   have g62 : Y.cell? ⟨n6, 2, none⟩ = some (.slice VA Vn Vc) := by rw [cell_of_row _ _ _ _ _ _ r6]; rfl
   have g63 : Y.cell? ⟨n6, 3, none⟩ = some (.int .i64 x3.toI) := by rw [cell_of_row _ _ _ _ _ _ r6]; rfl
   have g64 : Y.cell? ⟨n6, 4, none⟩ = some (.slice TA Tn Tc) := by rw [cell_of_row _ _ _ _ _ _ r6]; rfl
   have g65 : Y.cell? ⟨n6, 5, none⟩ = some (.int .i64 x5.toI) := by rw [cell_of_row _ _ _ _ _ _ r6]; rfl
   have g40 : Y.cell? ⟨n0 + 1, 0, none⟩ = some (.int .i64 0) := by rw [cell_of_row _ _ _ _ _ _ r4]; rfl
   have g41 : Y.cell? ⟨n0 + 1, 1, none⟩ = some (.int .i64 0) := by rw [cell_of_row _ _ _ _ _ _ r4]; rfl
   have g42 : Y.cell? ⟨n0 + 1, 2, none⟩ = some (.int .i64 0) := by rw [cell_of_row _ _ _ _ _ _ r4]; rfl
   have g43 : Y.cell? ⟨n0 + 1, 3, none⟩ = some (.slice none 0 0) := by rw [cell_of_row _ _ _ _ _ _ r4]; rfl
   have g44 : Y.cell? ⟨n0 + 1, 4, none⟩ = some (.int .i64 0) := by rw [cell_of_row _ _ _ _ _ _ r4]; rfl
   have g45 : Y.cell? ⟨n0 + 1, 5, none⟩ = some (.int .i64 0) := by rw [cell_of_row _ _ _ _ _ _ r4]; rfl
   have f4 := fun j => frozen_of_row Y (n0 + 1) j _ 32 r4
   have l4 : n0 + 1 < Y.heap.size := (Array.getElem?_eq_some_iff.1 r4).1
   have hnf := fun v => fault_ne y0.toI y1.toI v
   clear rA r4 r5 r6 r7 hS
   have hkeep : ∀ (el k : Nat) (c : Array Value) (fz : Nat × Nat), el ≠ 42 → el ≠ 127 → el ≠ 32 → X3.heap[k]? = some (.cells c el fz) → k ≠ n0 + 1 ∧ k ≠ n0 + 1 + 1 ∧ k < Y.heap.size ∧ Y.heap[k]? = X3.heap[k]? := fun el k c fz h1 h2 h3 hk => by
    have k6 : k ≠ n6 := fun e => by
     subst e
     have := Z10.out
     rw [hk] at this
     cases this
     exact h1 rfl
    have k7 : k ≠ n7 := fun e => by
     subst e
     have := Z11.out
     rw [hk] at this
     cases this
     exact h2 rfl
    have hy : Y.heap[k]? = X3.heap[k]? := (HQ2.out k k7).trans (HP2.out k k6)
    refine ⟨fun e => ?_, fun e => ?_, ?_, hy⟩
    ·rw [← hy, e, R.out.2.1] at hk
     cases hk
     exact h3 rfl
    ·rw [← hy, e, R.out.2.2.1] at hk
     cases hk
     exact h3 rfl
    ·rw [← hy] at hk
     exact (Array.getElem?_eq_some_iff.1 hk).1
   have HKp := hidden hkeep
   have hfo : faultOf out = (y0.toI, y1.toI) := by rw [HO.out]; rfl
   have HFO := hidden hfo
   clear hkeep hfo d1 d2 d3 d4 d5
   go_wp2_with fail
   ·rename_i hz _ _
    have hz : (y0.toI, y1.toI) ≠ ((0, 0) : Int × Int) := fun e => by
     simp only [Prod.mk.injEq] at e
     simp [e.1, e.2] at hz
    have HN := hidden hz
    obtain ⟨Y1, hY1⟩ : ∃ Z, Z = Y.drew := ⟨_, rfl⟩
    refine region_plain (fun Z => Z.cell? ⟨n7, 0, none⟩ = some (.int .i64 y0.toI) ∧ Z.cell? ⟨n7, 1, none⟩ = some (.int .i64 y1.toI) ∧ Z.cell? ⟨n0, 0, none⟩ = some (.int .i64 xa)) 99 (by kernel_rfl) ?_
    rw [← hY1]
    have hS : Y1.cell? ⟨n7, 0, none⟩ = some (.int .i64 y0.toI) ∧ Y1.cell? ⟨n7, 1, none⟩ = some (.int .i64 y1.toI) ∧ Y1.cell? ⟨n0, 0, none⟩ = some (.int .i64 xa) := by rw [hY1]; exact ⟨g70, g71, gA0⟩
    have r5 : Y1.heap[n0 + 1 + 1]? = some (.cells #[.int .i64 2, .int .i64 xa, .int .i64 xb, .slice none 0 0, .int .i64 12, .int .i64 xa] 32 (0, 0)) := by rw [hY1]; exact R.out.2.2.1
    have r4 : Y1.heap[n0 + 1]? = some (.cells #[.int .i64 0, .int .i64 0, .int .i64 0, .slice none 0 0, .int .i64 0, .int .i64 0] 32 (0, 0)) := by rw [hY1]; exact R.out.2.1
    have hBY1 : RowKit.Below Y.heap.size Y Y1 := by rw [hY1]; exact (Below.refl _ _).drew
    have HBY1 := hidden hBY1
    clear hz hY1 hBY1 g70 g71 gA0 gA1 g50 g51 g52 g53 g54 g55 g60 g61 g62 g63 g64 g65 g40 g41 g42 g43 g44 g45 f4 f5 hnf
    have hd7 : n7 ≠ n0 + 1 + 1 := fun e => by
     have h1 := R.out.2.2.2.2
     rw [e, R.out.2.2.1] at h1
     simp only [Option.some.injEq, Obj.cells.injEq] at h1
     exact absurd h1.2.1 (by decide)
    have hd0 : n0 ≠ n0 + 1 + 1 := by omega
    have g54 : Y1.cell? ⟨n0 + 1 + 1, 4, none⟩ = some (.int .i64 12) := by rw [cell_of_row _ _ _ _ _ _ r5]; rfl
    have g55 : Y1.cell? ⟨n0 + 1 + 1, 5, none⟩ = some (.int .i64 xa) := by rw [cell_of_row _ _ _ _ _ _ r5]; rfl
    have f5 := fun j => frozen_of_row Y1 (n0 + 1 + 1) j _ 32 r5
    have t5 : _ = some (Obj.cells #[.int .i64 2, .int .i64 xa, .int .i64 xb, .slice none 0 0, .int .i64 y0.toI, .int .i64 xa] 32 (0, 0)) := heap_setCell_same _ (n0 + 1 + 1) 4 _ 32 (.int .i64 y0.toI) r5
    have t5 : _ = some (Obj.cells #[.int .i64 2, .int .i64 xa, .int .i64 xb, .slice none 0 0, .int .i64 y0.toI, .int .i64 (IntKind.i64.wrap (xa + y1.toI))] 32 (0, 0)) := heap_setCell_same _ (n0 + 1 + 1) 5 _ 32 (.int .i64 (IntKind.i64.wrap (xa + y1.toI))) t5
    have T5 := hidden t5
    have R4 := hidden r4
    clear r5 r4 t5
    refine z_t 0 (v := ?_) hS ?_ ?_
    rotate_left
    ·(rintro wS ⟨s0, s1, s2⟩; go_simp <;> with_reducible rfl)
    simp only [Act.put, List.setIfInBounds_toArray, List.set_cons_zero, List.set_cons_succ]
    refine z_t 1 (v := ?_) hS ?_ ?_
    rotate_left
    ·(rintro wS ⟨s0, s1, s2⟩; go_simp <;> with_reducible rfl)
    simp only [Act.put, List.setIfInBounds_toArray, List.set_cons_zero, List.set_cons_succ]
    refine z_t 2 (v := ?_) hS ?_ ?_
    rotate_left
    ·(rintro wS ⟨s0, s1, s2⟩; go_simp <;> with_reducible rfl)
    simp only [Act.put, List.setIfInBounds_toArray, List.set_cons_zero, List.set_cons_succ]
    refine z_t 3 (v := ?_) hS ?_ ?_
    rotate_left
    ·(rintro wS ⟨s0, s1, s2⟩; go_simp <;> with_reducible rfl)
    simp only [Act.put, List.setIfInBounds_toArray, List.set_cons_zero, List.set_cons_succ]
    refine z_t 4 (v := ?_) hS ?_ ?_
    rotate_left
    ·(rintro wS ⟨s0, s1, s2⟩; go_simp <;> with_reducible rfl)
    simp only [Act.put, List.setIfInBounds_toArray, List.set_cons_zero, List.set_cons_succ]
    refine z_t 5 (v := ?_) hS ?_ ?_
    rotate_left
    ·(rintro wS ⟨s0, s1, s2⟩; go_simp <;> with_reducible rfl)
    simp only [Act.put, List.setIfInBounds_toArray, List.set_cons_zero, List.set_cons_succ]
    refine z_t 6 (v := ?_) hS ?_ ?_
    rotate_left
    ·(rintro wS ⟨s0, s1, s2⟩; go_simp <;> with_reducible rfl)
    simp only [Act.put, List.setIfInBounds_toArray, List.set_cons_zero, List.set_cons_succ]
    refine z_t 7 (v := ?_) hS ?_ ?_
    rotate_left
    ·(rintro wS ⟨s0, s1, s2⟩; go_simp <;> with_reducible rfl)
    simp only [Act.put, List.setIfInBounds_toArray, List.set_cons_zero, List.set_cons_succ]
    refine z_one (i := 8) (by kernel_rfl) rfl rfl ?_
    go_simp
    refine z_one (i := 9) (by kernel_rfl) rfl rfl ?_
    go_simp
    refine z_one (i := 10) (by kernel_rfl) rfl rfl ?_
    go_simp
    refine z_done (by kernel_rfl) ?_ _
    generalize hkk : IntKind.i64.wrap ((xa : Int) + y1.toI) = kk at T5 ⊢
    have HKk := hidden hkk
    clear hkk
    obtain ⟨Y2, hY2⟩ : ∃ Z, Z = (Y1.setCell ⟨n0 + 1 + 1, 4, none⟩ (.int .i64 y0.toI)).setCell ⟨n0 + 1 + 1, 5, none⟩ (.int .i64 kk) := ⟨_, rfl⟩
    rw [← hY2]
    have t5 := T5.out
    rw [← hY2] at t5
    have t4 : Y2.heap[n0 + 1]? = some (.cells #[.int .i64 0, .int .i64 0, .int .i64 0, .slice none 0 0, .int .i64 0, .int .i64 0] 32 (0, 0)) := by
     rw [hY2, heap_setCell_other _ _ _ _ (by show n0 + 1 ≠ n0 + 1 + 1; omega), heap_setCell_other _ _ _ _ (by show n0 + 1 ≠ n0 + 1 + 1; omega)]
     exact R4.out
    have hK2 : Kp (fun k => n0 ≤ k) Y1 Y2 := by
     rw [hY2]
     exact (kp_set _ (n0 + 1 + 1) 4 _ (by omega)).trans (kp_set _ (n0 + 1 + 1) 5 _ (by omega))
    have HK2' := hidden hK2
    clear hY2 hK2 hS g54 g55 f5 hd7 hd0
    have g50 : Y2.cell? ⟨n0 + 1 + 1, 0, none⟩ = some (.int .i64 2) := by rw [cell_of_row _ _ _ _ _ _ t5]; rfl
    have g51 : Y2.cell? ⟨n0 + 1 + 1, 1, none⟩ = some (.int .i64 xa) := by rw [cell_of_row _ _ _ _ _ _ t5]; rfl
    have g52 : Y2.cell? ⟨n0 + 1 + 1, 2, none⟩ = some (.int .i64 xb) := by rw [cell_of_row _ _ _ _ _ _ t5]; rfl
    have g53 : Y2.cell? ⟨n0 + 1 + 1, 3, none⟩ = some (.slice none 0 0) := by rw [cell_of_row _ _ _ _ _ _ t5]; rfl
    have g54 : Y2.cell? ⟨n0 + 1 + 1, 4, none⟩ = some (.int .i64 y0.toI) := by rw [cell_of_row _ _ _ _ _ _ t5]; rfl
    have g55 : Y2.cell? ⟨n0 + 1 + 1, 5, none⟩ = some (.int .i64 kk) := by rw [cell_of_row _ _ _ _ _ _ t5]; rfl
    have g40 : Y2.cell? ⟨n0 + 1, 0, none⟩ = some (.int .i64 0) := by rw [cell_of_row _ _ _ _ _ _ t4]; rfl
    have g41 : Y2.cell? ⟨n0 + 1, 1, none⟩ = some (.int .i64 0) := by rw [cell_of_row _ _ _ _ _ _ t4]; rfl
    have g42 : Y2.cell? ⟨n0 + 1, 2, none⟩ = some (.int .i64 0) := by rw [cell_of_row _ _ _ _ _ _ t4]; rfl
    have g43 : Y2.cell? ⟨n0 + 1, 3, none⟩ = some (.slice none 0 0) := by rw [cell_of_row _ _ _ _ _ _ t4]; rfl
    have g44 : Y2.cell? ⟨n0 + 1, 4, none⟩ = some (.int .i64 0) := by rw [cell_of_row _ _ _ _ _ _ t4]; rfl
    have g45 : Y2.cell? ⟨n0 + 1, 5, none⟩ = some (.int .i64 0) := by rw [cell_of_row _ _ _ _ _ _ t4]; rfl
    have f4 := fun j => frozen_of_row Y2 (n0 + 1) j _ 32 t4
    obtain ⟨q1, q2⟩ := put6_at t4 (.int .i64 2) (.int .i64 xa) (.int .i64 xb) (.slice none 0 0) (.int .i64 y0.toI) (.int .i64 kk)
    have hK := put6_kp Y2 (n0 + 1) (.int .i64 2) (.int .i64 xa) (.int .i64 xb) (.slice none 0 0) (.int .i64 y0.toI) (.int .i64 kk) (B := n0) (Nat.le_succ _)
    obtain ⟨Z, hZ⟩ : ∃ Z, Z = put6 Y2 (n0 + 1) (.int .i64 2) (.int .i64 xa) (.int .i64 xb) (.slice none 0 0) (.int .i64 y0.toI) (.int .i64 kk) := ⟨_, rfl⟩
    rw [← hZ] at q1 hK
    unfold put6 at hZ
    have HZZ := hidden hZ
    have HQ := hidden q1
    have HKK := hidden hK
    clear t4 t5 q1 q2 hK hZ
    go_wp2_with fail
    have hZ := HZZ.out
    rw [← hZ]
    clear hZ
    have hev : evOf ⟨xa, xb, xt, false⟩ out = ⟨2, xa, xb, none, y0.toI, kk⟩ := by
     unfold evOf
     rw [if_neg (by simp), if_neg (by rw [HFO.out]; exact HN.out), HFO.out, ← HKk.out]
    rw [hev]
    have hB1 : RowKit.Below w.heap.size w Y1 := (HbB.out.trans (HYB.out.mono HbB.out.size)).trans (HBY1.out.mono (by have := HbB.out.size; have := HYB.out.size; omega))
    have hsz := hB1.size
    have hsz2 := HK2'.out.size
    refine bodyPost_ret (results_cell_row rfl _ _ (n0 + 1) 32 #[.int .i64 2, .int .i64 xa, .int .i64 xb, .slice none 0 0, .int .i64 y0.toI, .int .i64 kk] (0, 0) _ rfl HQ.out Tryz.underlying32 rfl (by kernel_rfl)) rfl
     ⟨_, rfl, ⟨.slice none 0 0, rfl, rfl⟩, hB1.trans ((⟨(HK2'.out.trans HKK.out).os, (HK2'.out.trans HKK.out).tape, (HK2'.out.trans HKK.out).output, (HK2'.out.trans HKK.out).size, fun k hk => (HK2'.out.trans HKK.out).heap k (by omega) (by omega)⟩ : RowKit.Below w.heap.size Y1 Z))⟩
   ·rename_i hz
    have hz : (y0.toI, y1.toI) = ((0, 0) : Int × Int) := by simpa using hz
    obtain ⟨q1, q2⟩ := put6_at R.out.2.1 (.int .i64 1) (.int .i64 xa) (.int .i64 xb) (.slice (some ⟨Y.heap.size, 0, none⟩) 1 1) (.int .i64 0) (.int .i64 0)
    have hK := put6_kp Y (n0 + 1) (.int .i64 1) (.int .i64 xa) (.int .i64 xb) (.slice (some ⟨Y.heap.size, 0, none⟩) 1 1) (.int .i64 0) (.int .i64 0) (B := n0) (Nat.le_succ _)
    have hsz : (put6 Y (n0 + 1) (.int .i64 1) (.int .i64 xa) (.int .i64 xb) (.slice (some ⟨Y.heap.size, 0, none⟩) 1 1) (.int .i64 0) (.int .i64 0)).heap.size = Y.heap.size := by simp [put6, World.setCell]
    have hev : evOf ⟨xa, xb, xt, false⟩ out = ⟨1, xa, xb, some out, 0, 0⟩ := by
     unfold evOf
     rw [if_neg (by simp), if_pos (HFO.out.trans hz)]
    rw [hev]
    refine bodyPost_ret (results_cell_row rfl _ _ (n0 + 1) 32 #[.int .i64 1, .int .i64 xa, .int .i64 xb, .slice (some ⟨Y.heap.size, 0, none⟩) 1 1, .int .i64 0, .int .i64 0] (0, 0) _ rfl ((Below.heap_alloc _ _ _ (by show n0 + 1 < (put6 Y _ _ _ _ _ _ _).heap.size; rw [hsz]; exact l4)).trans q1) Tryz.underlying32 rfl (by kernel_rfl)) rfl
     ⟨_, rfl, ⟨.slice (some ⟨Y.heap.size, 0, none⟩) 1 1, rfl, Y.heap.size, _, rfl, by have := heap_alloc_new (put6 Y (n0 + 1) (.int .i64 1) (.int .i64 xa) (.int .i64 xb) (.slice (some ⟨Y.heap.size, 0, none⟩) 1 1) (.int .i64 0) (.int .i64 0)) (.cells #[.string ⟨x0.toS.toArray⟩, .int .i64 x1.toI, .slice VA Vn Vc, .int .i64 x3.toI, .slice TA Tn Tc, .int .i64 x5.toI] 42); rw [hsz] at this; exact this,
      _, _, _, _, _, _, _, _, _, _, HO.out, rfl, HV.out.kept fun k c fz hk => ?_, HT.out.kept fun k c fz hk => ?_, HC.out.1, HC.out.2⟩, ?_⟩
    ·obtain ⟨m1, m2, m3, m4⟩ := HKp.out 36 k c fz (by decide) (by decide) (by decide) hk
     exact (Below.heap_alloc _ _ _ (by show k < (put6 Y _ _ _ _ _ _ _).heap.size; rw [hsz]; exact m3)).trans ((q2 k m1).trans m4)
    ·obtain ⟨m1, m2, m3, m4⟩ := HKp.out 39 k c fz (by decide) (by decide) (by decide) hk
     exact (Below.heap_alloc _ _ _ (by show k < (put6 Y _ _ _ _ _ _ _).heap.size; rw [hsz]; exact m3)).trans ((q2 k m1).trans m4)
    ·have hB1 : RowKit.Below w.heap.size w Y := HbB.out.trans (HYB.out.mono HbB.out.size)
     have hB2 : RowKit.Below w.heap.size Y (put6 Y (n0 + 1) (.int .i64 1) (.int .i64 xa) (.int .i64 xb) (.slice (some ⟨Y.heap.size, 0, none⟩) 1 1) (.int .i64 0) (.int .i64 0)) := ⟨hK.os, hK.tape, hK.output, hK.size, fun k hk => hK.heap k (by omega) (by omega)⟩
     exact (hB1.trans hB2).alloc (by rw [hsz]; omega) _
end Go.Eng

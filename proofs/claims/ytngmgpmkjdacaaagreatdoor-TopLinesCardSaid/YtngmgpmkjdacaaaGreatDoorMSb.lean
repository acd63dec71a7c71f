/-
 A new session; its Close; the events of a whole stream. What is left as a session ends. The events of a whole stream.
-/
import Derived.Test.YtngmgpmkjdacaaaGreatDoorMSa
import Derived.Test.YtngmgpmkjdacaaaGreatDoorMLayG
import Derived.Laws.OwnMore
set_option linter.unusedSimpArgs false
set_option linter.unusedVariables false
namespace Go.Eng
set_option maxRecDepth 100000
open Go Go.Proofs Go.RowKit Go.Shelf Go.Proofs.YtngmgpmkjdacaaaGreatDoor

set_option maxHeartbeats 4000000 in
theorem snew_any (fmt : Int) (hf : fmt = 1 ∨ fmt = 2 ∨ fmt = 3) (w : World) : Calls Tryz.prog 13 #[.int .i64 fmt, .int .i64 100] w fun e w' => ∃ p g, e = .returned (.tuple #[.pointer (some ⟨p, 0, none⟩), .int .i64 0]) ∧ SessAt w' p g fmt false ∧
  IsFr w' g 100 0 0 [] false none 0 ∧ RowKit.Below w.heap.size w w' ∧ w.heap.size ≤ p ∧ w.heap.size ≤ g := by
 rcases hf with rfl | rfl | rfl
 ·go_enter Tryz.func13, Tryz.ntmps13
  go_wp2_with fail
  refine (new_any 100 _ (by decide) (by decide)).mono ?_
  rintro e w2 ⟨rfl, hfr, hb2⟩
  rw [World.size_alloc] at hfr hb2 ⊢
  have r0 := heap_alloc_new w (.cells #[.int .i64 1, .pointer none, .pointer none, .func (.func 28) #[.pointer (some ⟨w.heap.size, 0, none⟩)] #[], .bool false, .bool false] 77)
  have hb1 : RowKit.Below w.heap.size w w2 := ((Below.refl _ w).alloc (Nat.le_refl _) _).trans (hb2.mono (Nat.le_succ _))
  have r2 := (hb2.block w.heap.size (Nat.lt_succ_self _)).trans r0
  have c1 : w2.cell? ⟨w.heap.size, 1, none⟩ = some (.pointer none) := by rw [cell_of_row _ _ _ _ _ _ r2]; rfl
  have f1 := frozen_of_row w2 w.heap.size 1 _ 77 r2
  have z1 := heap_setCell_same w2 w.heap.size 1 _ 77 (.pointer (some ⟨w.heap.size + 1, 0, none⟩)) r2
  have hk := kp_set w2 w.heap.size 1 (.pointer (some ⟨w.heap.size + 1, 0, none⟩)) (B := w.heap.size) (Nat.le_refl _)
  have hfr3 := hfr.kept (grown_set w2 w.heap.size 1 (.pointer (some ⟨w.heap.size + 1, 0, none⟩))) (fun e => by have := Option.some.inj e; omega) (fun ad e => by cases e)
  have HH := hidden (And.intro z1 (And.intro hk (And.intro hfr3 hb1)))
  clear hb2 hb1 r0 r2 z1 hk hfr hfr3
  go_wp2
  go_ret2
  obtain ⟨z1, hk, hfr3, hb1⟩ := HH.out
  exact ⟨_, _, rfl, z1, hfr3, ⟨hk.os.trans hb1.os, hk.tape.trans hb1.tape, hk.output.trans hb1.output, Nat.le_trans hb1.size hk.size, fun k hk2 => (hk.heap k (Nat.lt_of_lt_of_le hk2 hb1.size) (by omega)).trans (hb1.block k hk2)⟩, Nat.le_refl _, Nat.le_succ _⟩
 ·go_enter Tryz.func13, Tryz.ntmps13
  go_wp2_with fail
  refine (new_any 100 _ (by decide) (by decide)).mono ?_
  rintro e w2 ⟨rfl, hfr, hb2⟩
  rw [World.size_alloc] at hfr hb2 ⊢
  have r0 := heap_alloc_new w (.cells #[.int .i64 2, .pointer none, .pointer none, .func (.func 28) #[.pointer (some ⟨w.heap.size, 0, none⟩)] #[], .bool false, .bool false] 77)
  have hb1 : RowKit.Below w.heap.size w w2 := ((Below.refl _ w).alloc (Nat.le_refl _) _).trans (hb2.mono (Nat.le_succ _))
  have r2 := (hb2.block w.heap.size (Nat.lt_succ_self _)).trans r0
  have c1 : w2.cell? ⟨w.heap.size, 1, none⟩ = some (.pointer none) := by rw [cell_of_row _ _ _ _ _ _ r2]; rfl
  have f1 := frozen_of_row w2 w.heap.size 1 _ 77 r2
  have z1 := heap_setCell_same w2 w.heap.size 1 _ 77 (.pointer (some ⟨w.heap.size + 1, 0, none⟩)) r2
  have hk := kp_set w2 w.heap.size 1 (.pointer (some ⟨w.heap.size + 1, 0, none⟩)) (B := w.heap.size) (Nat.le_refl _)
  have hfr3 := hfr.kept (grown_set w2 w.heap.size 1 (.pointer (some ⟨w.heap.size + 1, 0, none⟩))) (fun e => by have := Option.some.inj e; omega) (fun ad e => by cases e)
  have HH := hidden (And.intro z1 (And.intro hk (And.intro hfr3 hb1)))
  clear hb2 hb1 r0 r2 z1 hk hfr hfr3
  go_wp2
  go_ret2
  obtain ⟨z1, hk, hfr3, hb1⟩ := HH.out
  exact ⟨_, _, rfl, z1, hfr3, ⟨hk.os.trans hb1.os, hk.tape.trans hb1.tape, hk.output.trans hb1.output, Nat.le_trans hb1.size hk.size, fun k hk2 => (hk.heap k (Nat.lt_of_lt_of_le hk2 hb1.size) (by omega)).trans (hb1.block k hk2)⟩, Nat.le_refl _, Nat.le_succ _⟩
 ·go_enter Tryz.func13, Tryz.ntmps13
  go_wp2_with fail
  refine (new_any 100 _ (by decide) (by decide)).mono ?_
  rintro e w2 ⟨rfl, hfr, hb2⟩
  rw [World.size_alloc] at hfr hb2 ⊢
  have r0 := heap_alloc_new w (.cells #[.int .i64 3, .pointer none, .pointer none, .func (.func 28) #[.pointer (some ⟨w.heap.size, 0, none⟩)] #[], .bool false, .bool false] 77)
  have hb1 : RowKit.Below w.heap.size w w2 := ((Below.refl _ w).alloc (Nat.le_refl _) _).trans (hb2.mono (Nat.le_succ _))
  have r2 := (hb2.block w.heap.size (Nat.lt_succ_self _)).trans r0
  have c1 : w2.cell? ⟨w.heap.size, 1, none⟩ = some (.pointer none) := by rw [cell_of_row _ _ _ _ _ _ r2]; rfl
  have f1 := frozen_of_row w2 w.heap.size 1 _ 77 r2
  have z1 := heap_setCell_same w2 w.heap.size 1 _ 77 (.pointer (some ⟨w.heap.size + 1, 0, none⟩)) r2
  have hk := kp_set w2 w.heap.size 1 (.pointer (some ⟨w.heap.size + 1, 0, none⟩)) (B := w.heap.size) (Nat.le_refl _)
  have hfr3 := hfr.kept (grown_set w2 w.heap.size 1 (.pointer (some ⟨w.heap.size + 1, 0, none⟩))) (fun e => by have := Option.some.inj e; omega) (fun ad e => by cases e)
  have HH := hidden (And.intro z1 (And.intro hk (And.intro hfr3 hb1)))
  clear hb2 hb1 r0 r2 z1 hk hfr hfr3
  go_wp2
  go_ret2
  obtain ⟨z1, hk, hfr3, hb1⟩ := HH.out
  exact ⟨_, _, rfl, z1, hfr3, ⟨hk.os.trans hb1.os, hk.tape.trans hb1.tape, hk.output.trans hb1.output, Nat.le_trans hb1.size hk.size, fun k hk2 => (hk.heap k (Nat.lt_of_lt_of_le hk2 hb1.size) (by omega)).trans (hb1.block k hk2)⟩, Nat.le_refl _, Nat.le_succ _⟩
theorem snew_none (fmt : Int) (hf : fmt ≠ 1 ∧ fmt ≠ 2 ∧ fmt ≠ 3 ∧ fmt ≠ 4) (w : World) : Calls Tryz.prog 13 #[.int .i64 fmt, .int .i64 100] w fun e w' => e = .returned (.tuple #[.pointer none, .int .i64 29]) ∧ RowKit.Below w.heap.size w w' := by
 obtain ⟨h1, h2, h3, h4⟩ := hf
 have e1 : (fmt == 1) = false := beq_eq_false_iff_ne.2 h1
 have e2 : (fmt == 2) = false := beq_eq_false_iff_ne.2 h2
 have e3 : (fmt == 3) = false := beq_eq_false_iff_ne.2 h3
 have e4 : (fmt == 4) = false := beq_eq_false_iff_ne.2 h4
 go_enter Tryz.func13, Tryz.ntmps13
 go_wp2
 go_ret2
 refine ⟨rfl, (Below.refl _ w).alloc (Nat.le_refl _) _⟩
end Go.Eng
namespace Go.Eng
set_option maxRecDepth 100000
open Go Go.Proofs Go.RowKit Go.Shelf Go.Proofs.YtngmgpmkjdacaaaGreatDoor

/-- the line that is left -/
def lastL (m fr : Nat) (cur : List Int) : LV := if cur = [] then noLine else mkLine m fr cur 0
def tailEv (m fr : Nat) (cur : List Int) : List EV := if cur = [] then [] else [⟨3, fr, (fr + cur.length : Nat), none, 30, fr⟩]

set_option maxHeartbeats 4000000 in
theorem stail_any {w : World} {p g m at_ fr : Nat} {fmt : Int} {cur : List Int} {O : Option Addr} {co : Nat} {cl : Bool} (hf : fmt ≠ 4) (hp : SessAt w p g fmt cl) (h : IsFr w g m at_ fr cur false O co) (ha : at_ = fr + cur.length) (hb : at_ ≤ 100000) :
  Calls Tryz.prog 33 #[.pointer (some ⟨p, 0, none⟩)] w fun e w' => e = .returned (.tuple #[.int .i64 (lastL m fr cur).a, .int .i64 (lastL m fr cur).b, .bool (decide (cur ≠ []))]) ∧ w.grownBy w' (some g) := by
 have p0 : w.cell? ⟨p, 0, none⟩ = some (.int .i64 fmt) := by rw [cell_of_row _ _ _ _ _ _ hp]; rfl
 have p1 : w.cell? ⟨p, 1, none⟩ = some (.pointer (some ⟨g, 0, none⟩)) := by rw [cell_of_row _ _ _ _ _ _ hp]; rfl
 have hf4 : (fmt == 4) = false := beq_eq_false_iff_ne.2 hf
 have hcl := close_any w g m at_ fr cur O co h ha hb
 have hX : (if cur = [] then noLine else mkLine m fr cur 0) = lastL m fr cur := rfl
 rw [hX] at hcl
 generalize lastL m fr cur = X at hcl ⊢
 generalize decide (cur ≠ []) = d at hcl ⊢
 obtain ⟨xa, xb, xt, xl⟩ := X
 simp only [lvv] at hcl
 have HC := hidden hcl
 clear hcl hX h hp ha hb hf
 go_enter Tryz.func33, Tryz.ntmps33
 go_wp2_with fail
 refine HC.out.mono ?_
 rintro e w1 ⟨O', co', rfl, _, hgr⟩
 have HG := hidden hgr
 clear hgr p0 p1
 go_wp2_with fail
 have r0 := heap_alloc_new w1 (.cells #[.int .i64 xa, .int .i64 xb, .string (strOfNums xt), .bool xl] 119)
 obtain ⟨Y, hY⟩ : ∃ Y, Y = (w1.alloc (.cells #[.int .i64 xa, .int .i64 xb, .string (strOfNums xt), .bool xl] 119)).drew := ⟨_, rfl⟩
 have s0 : Y.cell? ⟨w1.heap.size, 0, none⟩ = some (.int .i64 xa) := by rw [hY]; exact (cell_of_row _ _ _ _ _ _ r0).trans rfl
 have s1 : Y.cell? ⟨w1.heap.size, 1, none⟩ = some (.int .i64 xb) := by rw [hY]; exact (cell_of_row _ _ _ _ _ _ r0).trans rfl
 refine region_plain (fun Z => Z.cell? ⟨w1.heap.size, 0, none⟩ = some (.int .i64 xa) ∧ Z.cell? ⟨w1.heap.size, 1, none⟩ = some (.int .i64 xb)) 99 (by kernel_rfl) ?_
 rw [← hY]
 have hS : Y.cell? ⟨w1.heap.size, 0, none⟩ = some (.int .i64 xa) ∧ Y.cell? ⟨w1.heap.size, 1, none⟩ = some (.int .i64 xb) := ⟨s0, s1⟩
 have HY := hidden hY
 clear hY r0 s0 s1
 generalize w1.heap.size = nb at hS ⊢
 refine z_t 0 (v := ?_) hS ?_ ?_
 rotate_left
 ·(rintro wS ⟨s0, s1⟩; go_simp <;> with_reducible rfl)
 simp only [Act.put, List.setIfInBounds_toArray, List.set_cons_zero, List.set_cons_succ]
 refine z_t 1 (v := ?_) hS ?_ ?_
 rotate_left
 ·(rintro wS ⟨s0, s1⟩; go_simp <;> with_reducible rfl)
 simp only [Act.put, List.setIfInBounds_toArray, List.set_cons_zero, List.set_cons_succ]
 refine z_t 2 (v := ?_) hS ?_ ?_
 rotate_left
 ·(rintro wS ⟨s0, s1⟩; go_simp <;> with_reducible rfl)
 simp only [Act.put, List.setIfInBounds_toArray, List.set_cons_zero, List.set_cons_succ]
 refine z_t 3 (v := ?_) hS ?_ ?_
 rotate_left
 ·(rintro wS ⟨s0, s1⟩; go_simp <;> with_reducible rfl)
 simp only [Act.put, List.setIfInBounds_toArray, List.set_cons_zero, List.set_cons_succ]
 refine z_t 4 (v := ?_) hS ?_ ?_
 rotate_left
 ·(rintro wS ⟨s0, s1⟩; go_simp <;> with_reducible rfl)
 simp only [Act.put, List.setIfInBounds_toArray, List.set_cons_zero, List.set_cons_succ]
 refine z_t 5 (v := ?_) hS ?_ ?_
 rotate_left
 ·(rintro wS ⟨s0, s1⟩; go_simp <;> with_reducible rfl)
 simp only [Act.put, List.setIfInBounds_toArray, List.set_cons_zero, List.set_cons_succ]
 refine z_t 6 (v := ?_) hS ?_ ?_
 rotate_left
 ·(rintro wS ⟨s0, s1⟩; go_simp <;> with_reducible rfl)
 simp only [Act.put, List.setIfInBounds_toArray, List.set_cons_zero, List.set_cons_succ]
 refine z_t 7 (v := ?_) hS ?_ ?_
 rotate_left
 ·(rintro wS ⟨s0, s1⟩; go_simp <;> with_reducible rfl)
 simp only [Act.put, List.setIfInBounds_toArray, List.set_cons_zero, List.set_cons_succ]
 refine z_done (by kernel_rfl) ?_ _
 clear hS
 go_wp2_with fail
 go_ret3
 refine ⟨rfl, ?_⟩
 rw [HY.out]
 exact grown_drew ⟨HG.out.os, HG.out.tape, HG.out.output, Nat.le_trans HG.out.size (by simp), fun k hk hne => (Below.heap_alloc _ _ _ (Nat.lt_of_lt_of_le hk HG.out.size)).trans (HG.out.block k hk hne)⟩

/-- a row of one event -/
theorem ownE_new (w : World) (x : EV) (M : Value) (hM : MetsAt w M x.met) {base : Nat} (hb : base ≤ w.heap.size) : OwnE (w.alloc (.cells (List.toArray (evCells x M)) 32)) base (.slice (some ⟨w.heap.size, 0, none⟩) 1 1) [x] := by
 refine ⟨[M], rfl, ⟨rfl, .inr ⟨w.heap.size, 1, _, rfl, hb, heap_alloc_new w _, Nat.le_refl _, by unfold maxLen; omega, rfl, rfl⟩⟩, fun i M' ev h1 h2 => ?_⟩
 match i with
 | 0 =>
  cases h1
  cases h2
  exact hM.km (Km.below ((Below.refl _ w).alloc (Nat.le_refl _) _))
 | i + 1 => simp at h1

set_option maxHeartbeats 4000000 in
theorem sclose_any {w : World} {p g m at_ fr : Nat} {fmt : Int} {cur : List Int} {O : Option Addr} {co : Nat} (hf : fmt ≠ 4) (hp : SessAt w p g fmt false) (h : IsFr w g m at_ fr cur false O co) (hO : ∀ ad, O = some ad → ad.block ≠ p) (ha : at_ = fr + cur.length) (hb : at_ ≤ 100000) :
  Calls Tryz.prog 15 #[.pointer (some ⟨p, 0, none⟩)] w fun e w' => ∃ v, e = .returned (.tuple #[v, .int .i64 0]) ∧ OwnE w' w.heap.size v (tailEv m fr cur) ∧
   (w'.os = w.os ∧ w'.tape = w.tape ∧ w'.output = w.output ∧ w.heap.size ≤ w'.heap.size ∧ ∀ k, k < w.heap.size → k ≠ p → k ≠ g → w'.heap[k]? = w.heap[k]?) := by
 have p4 : w.cell? ⟨p, 4, none⟩ = some (.bool false) := by rw [cell_of_row _ _ _ _ _ _ hp]; rfl
 have p5 : w.cell? ⟨p, 5, none⟩ = some (.bool false) := by rw [cell_of_row _ _ _ _ _ _ hp]; rfl
 have f5 := frozen_of_row w p 5 _ 77 hp
 have z1 : SessAt (w.setCell ⟨p, 5, none⟩ (.bool true)) p g fmt true := heap_setCell_same w p 5 _ 77 (.bool true) hp
 have hgp : g ≠ p := fun e => by
  have := h.row
  rw [e, hp] at this
  simp only [Option.some.injEq, Obj.cells.injEq] at this
  exact absurd this.2.1 (by decide)
 have hfr := h.kept (grown_set w p 5 (.bool true)) (fun e => hgp (Option.some.inj e)) (fun ad e e2 => hO ad e (Option.some.inj e2).symm)
 have q4 : (w.setCell ⟨p, 5, none⟩ (.bool true)).cell? ⟨p, 4, none⟩ = some (.bool false) := by rw [cell_of_row _ _ _ _ _ _ z1]; rfl
 have ht := stail_any hf z1 hfr ha hb
 have hks := kp_set w p 5 (.bool true) (B := p) (Nat.le_refl _)
 have hother : ∀ k, k ≠ p → (w.setCell ⟨p, 5, none⟩ (.bool true)).heap[k]? = w.heap[k]? := fun k hk => heap_setCell_other _ _ _ _ hk
 have hss : (w.setCell ⟨p, 5, none⟩ (.bool true)).heap.size = w.heap.size := by simp [World.setCell]
 have hX : lastL m fr cur = if cur = [] then noLine else mkLine m fr cur 0 := rfl
 have HH := hidden (And.intro hks (And.intro hother (And.intro hss hX)))
 clear hks hother hss hX h hp hfr z1 hgp hO ha hb hf
 have hte : ∀ d, (tailEv m fr cur = if d = true then [⟨3, (lastL m fr cur).a, (lastL m fr cur).b, none, 30, (lastL m fr cur).a⟩] else []) ∨ d ≠ decide (cur ≠ []) := fun d => by
  by_cases hd : d = decide (cur ≠ [])
  ·refine .inl ?_
   subst hd
   unfold tailEv lastL
   by_cases hc : cur = []
   ·simp [hc]
   ·simp only [hc, if_false, ne_eq, not_false_eq_true, decide_true, if_true]
    unfold mkLine
    split <;> simp
  ·exact .inr hd
 have hte := (hte (decide (cur ≠ []))).resolve_right (fun h => h rfl)
 generalize lastL m fr cur = X at ht hte HH
 generalize decide (cur ≠ []) = d at ht hte
 have HTE := hidden hte
 have HT := hidden ht
 clear ht hte
 cases d with
 | true =>
  go_enter Tryz.func15, Tryz.ntmps15
  go_wp2_with (go_at_call 33; refine HT.out.mono ?_; rintro e w1 ⟨rfl, hgr⟩; have HG := hidden hgr; clear hgr)
  go_ret2
  obtain ⟨hks, hother, hss, _⟩ := HH.out
  have hsz : w.heap.size ≤ w1.heap.size := Nat.le_trans (Nat.le_of_eq hss.symm) HG.out.size
  refine ⟨_, rfl, ?_, ?_⟩
  ·rw [HTE.out]
   exact ownE_new w1 ⟨3, X.a, X.b, none, 30, X.a⟩ (.slice none 0 0) rfl hsz
  ·exact ⟨HG.out.os.trans hks.os, HG.out.tape.trans hks.tape, HG.out.output.trans hks.output, Nat.le_trans hsz (by simp), fun k hk h1 h2 => (Below.heap_alloc _ _ _ (Nat.lt_of_lt_of_le hk hsz)).trans ((HG.out.block k (by omega) (fun e => h2 (Option.some.inj e))).trans (hother k h1))⟩
 | false =>
  go_enter Tryz.func15, Tryz.ntmps15
  go_wp2_with (go_at_call 33; refine HT.out.mono ?_; rintro e w1 ⟨rfl, hgr⟩; have HG := hidden hgr; clear hgr)
  go_ret2
  refine ⟨_, rfl, ?_, ?_⟩
  ·rw [HTE.out]
   exact ownE_nil _ _
  ·obtain ⟨hks, hother, hss, _⟩ := HH.out
   exact ⟨HG.out.os.trans hks.os, HG.out.tape.trans hks.tape, HG.out.output.trans hks.output, Nat.le_trans (Nat.le_of_eq hss.symm) HG.out.size, fun k hk h1 h2 => (HG.out.block k (by omega) (fun e => h2 (Option.some.inj e))).trans (hother k h1)⟩
end Go.Eng
namespace Go.Eng
set_option maxRecDepth 100000
open Go Go.Proofs Go.RowKit Go.Shelf Go.Proofs.YtngmgpmkjdacaaaGreatDoor

theorem ecells_appends : ∀ (xs : List EV) (Ms : List Value) (ys : List EV) (Ns : List Value), Ms.length = xs.length → ecells (xs ++ ys) (Ms ++ Ns) = ecells xs Ms ++ ecells ys Ns
 | [], [], ys, Ns, _ => by simp [ecells]
 | a :: xs, b :: Ms, ys, Ns, h => by
  simp only [List.cons_append, ecells, List.append_assoc]
  rw [ecells_appends xs Ms ys Ns (by simpa using h)]
 | [], _ :: _, _, _, h => by simp at h
 | _ :: _, [], _, _, h => by simp at h
/-- a row of events put behind another one -/
theorem run_append_events (w : World) (ty : TypeId) (base b2 : Nat) (v v2 : Value) (xs ys : List EV) (hown : OwnE w base v xs) (h2 : OwnE w b2 v2 ys) (hb : xs.length + ys.length ≤ 200000) (hbase : base ≤ w.heap.size) :
  ∃ v' w', (Builtin.append_ #[25, 25] ty #[v, v2]).run Tryz.prog w = .ok v' w' ∧ OwnE w' base v' (xs ++ ys) ∧ w.grownBy w' v.ownBlock := by
 obtain ⟨Ms, g1, g2, g3⟩ := hown
 obtain ⟨Ns, k1, k2, k3⟩ := h2
 obtain ⟨i0, hi, hz0, hz1, hz2⟩ := info_parts info32b
 rcases k2.2 with ⟨rfl, h0⟩ | ⟨q, cap, cur, rfl, _, hq, hcap, _, hcs, htk⟩
 ·have hy : ys = [] := List.length_eq_zero_iff.1 h0
  subst hy
  refine ⟨v, w, run_append_owned_none w base 25 ty 32 i0 6 Tryz.underlying25 hi v _ _ g2, ?_, ⟨rfl, rfl, rfl, Nat.le_refl _, fun _ _ _ => rfl⟩⟩
  rw [List.append_nil]
  exact ⟨Ms, g1, g2, g3⟩
 ·have hlen := ecells_length ys Ns k1
  obtain ⟨v', w', q1, q2, q3, _, q5⟩ := run_append_own_at (P := Tryz.prog) w base 25 ty 32 i0 _ 6 64 Tryz.underlying25 hi hz0 hz1 hz2 rfl (by decide) v xs.length _ g2 ⟨q, 0, none⟩ ys.length cap (ecells ys Ns) hlen (fun j u hj => by
    rw [show (⟨q, 0, none⟩ : Addr).add j = ⟨q, j, none⟩ by unfold Addr.add; by_cases h0 : j = 0 <;> simp [h0], cell_of_row _ _ _ _ _ _ hq]
    have hjl : j < ys.length * 6 := by rw [← hlen]; exact (List.getElem?_eq_some_iff.1 hj).1
    rw [← htk, List.getElem?_take_of_lt hjl, Array.getElem?_toList] at hj
    exact hj) (ecells_one (w := w) ys Ns k3) (by unfold maxLen; omega) (by omega) hbase
  have hk : Km w w' := fun k cc t fz ht hk => by
   refine q3.block k (Array.getElem?_eq_some_iff.1 hk).1 (fun e => ?_)
   rcases g2.2 with ⟨h0, _⟩ | ⟨b, cap, cur, h0, _, h2, _⟩
   ·rw [h0] at e; cases e
   ·rw [h0] at e
    have e := Option.some.inj e
    subst e
    rw [h2] at hk
    cases hk
    exact absurd ht (by decide)
  refine ⟨v', w', q1, ⟨Ms ++ Ns, by simp [g1, k1], by rw [List.length_append, ecells_appends _ _ _ _ g1]; exact q2, fun i M' ev h1 h2 => ?_⟩, q3⟩
  rcases Nat.lt_or_ge i xs.length with h | h
  ·rw [List.getElem?_append_left (by omega)] at h1
   rw [List.getElem?_append_left h] at h2
   exact (g3 i M' ev h1 h2).km hk
  ·rw [List.getElem?_append_right (by omega)] at h1
   rw [List.getElem?_append_right h] at h2
   rw [g1] at h1
   exact (k3 _ M' ev h1 h2).km hk

theorem wpList_run {P : Program} {ops : Array Oper} {rest : List Oper} {o : Oper} {a : Act} {w : World} {Q : Exit → Act → World → Prop} (hg : o.guard = none)
  (h : o.wp P a w (fun a' w' => wpList P ops Q rest a' w') Q) : wpList P ops Q (o :: rest) a w := by
 unfold wpList
 rw [if_pos (by simp [Region.wanted, hg])]
 exact .inl h
theorem tailEv_length (m fr : Nat) (cur : List Int) : (tailEv m fr cur).length ≤ 1 := by
 unfold tailEv
 split <;> simp
open Classical in
/-- what a format's reader tells of a line -/
noncomputable def rdF (fmt : Int) (x : LV) : Value := if h : ∃ out, FnT 88 [.string (strOfNums x.t), .int .i64 fmt] out then Classical.choose h else .bool false
theorem rdF_is {fmt : Int} (hf : fmt = 1 ∨ fmt = 2 ∨ fmt = 3) {x : LV} (hx : x.t.length ≤ 8192) : FnT 88 [.string (strOfNums x.t), .int .i64 fmt] (rdF fmt x) := by
 have hl : (x.t.map fun n => UInt8.ofNat n.toNat).length ≤ 1000000 := by rw [List.length_map]; omega
 have hs : (strOfNums x.t).size ≤ 8192 := by
  rw [Lib.size_eq]
  simpa [strOfNums] using hx
 have h : ∃ out, FnT 88 [.string (strOfNums x.t), .int .i64 fmt] out := by
  have hr : ReadsT (readerF fmt) := by
   rcases hf with rfl | rfl | rfl
   ·exact statsdT
   ·exact dogT
   ·exact graphiteT
  obtain ⟨out, ho⟩ := hr (x.t.map fun n => UInt8.ofNat n.toNat) hl
  exact ⟨out, parse_any fmt hf (strOfNums x.t) hs out ho⟩
 unfold rdF
 rw [dif_pos h]
 exact Classical.choose_spec h
/-- a line that is not too long -/
theorem mkLine_short {m fr k : Nat} {cur : List Int} (h : (mkLine m fr cur k).long = false) : (mkLine m fr cur k).t.length ≤ m := by
 unfold mkLine at h ⊢
 split
 ·simp
 ·rename_i h1
  simp only
  omega
theorem lin_short (m : Nat) : ∀ (l : List Int) (fr : Nat) (cur : List Int), ∀ x ∈ lin m fr cur l, x.long = false → x.t.length ≤ m
 | [], fr, cur, x, hx, _ => by simp [lin] at hx
 | z :: l, fr, cur, x, hx, hl => by
  rw [lin_cons] at hx
  split at hx
  ·rcases List.mem_cons.1 hx with rfl | hx
   ·exact mkLine_short hl
   ·exact lin_short m l _ _ x hx hl
  ·exact lin_short m l _ _ x hx hl

/-- the events of a whole stream -/
noncomputable def evsAll (fmt : Int) (l : List Int) : List EV := evsOf (rdF fmt) (lin 100 0 [] l) ++ tailEv 100 (fin 0 [] l).1 (fin 0 [] l).2

/-- the two rows together -/
theorem whole_app {w w1 w2 w3 : World} {p g : Nat} {v v3 : Value} {cp : Array Value} {n : Nat} {fmt : Int} {l : List Int} {m fr : Nat} {cur : List Int} (hown : OwnE w2 w1.heap.size v (evsOf (rdF fmt) (lin 100 0 [] l))) (hp : w2.heap[p]? = some (.cells cp 77 (0, 0))) (hg : ∃ cg, w2.heap[g]? = some (.cells cg 122 (0, 0)))
  (hpw : w.heap.size ≤ p) (hgw : w.heap.size ≤ g) (hb1 : RowKit.Below w.heap.size w w1) (hgr : w1.grownBy w2 (some g)) (hl : l.length = n) (h3 : OwnE w3 w2.heap.size v3 (tailEv m fr cur))
  (hst : w3.os = w2.os ∧ w3.tape = w2.tape ∧ w3.output = w2.output ∧ w2.heap.size ≤ w3.heap.size ∧ ∀ k, k < w2.heap.size → k ≠ p → k ≠ g → w3.heap[k]? = w2.heap[k]?) (hn : n ≤ 90000) (ty : TypeId) :
  ∃ v' w', (Builtin.append_ #[25, 25] ty #[v, v3]).run Tryz.prog w3 = .ok v' w' ∧ OwnE w' w.heap.size v' (evsOf (rdF fmt) (lin 100 0 [] l) ++ tailEv m fr cur) ∧ RowKit.Below w.heap.size w w' := by
 obtain ⟨cg, hg⟩ := hg
 obtain ⟨s1, s2, s3, s4, s5⟩ := hst
 have hneq : ∀ (k : Nat) (c : Array Value) (t : TypeId) (fz : Nat × Nat), t ≠ 77 → t ≠ 122 → w2.heap[k]? = some (.cells c t fz) → w3.heap[k]? = w2.heap[k]? := fun k c t fz h1 h2 hk =>
  s5 k (Array.getElem?_eq_some_iff.1 hk).1 (fun e => by subst e; rw [hp] at hk; cases hk; exact h1 rfl) (fun e => by subst e; rw [hg] at hk; cases hk; exact h2 rfl)
 have hown3 : OwnE w3 w.heap.size v (evsOf (rdF fmt) (lin 100 0 [] l)) := by
  have h := hown.km (w' := w3) (fun k c t fz ht hk => hneq k c t fz (by rcases ht with rfl | rfl | rfl <;> decide) (by rcases ht with rfl | rfl | rfl <;> decide) hk) (fun b hb => by
   obtain ⟨Ms, _, g2, _⟩ := hown
   rcases g2.2 with ⟨h0, _⟩ | ⟨b', cap, cur, h0, _, g3, _⟩
   ·rw [h0] at hb; cases hb
   ·rw [h0] at hb
    have e := Option.some.inj hb
    subst e
    exact hneq _ _ _ _ (by decide) (by decide) g3)
  obtain ⟨Ms, k1, k2, k3⟩ := h
  refine ⟨Ms, k1, ⟨k2.1, ?_⟩, k3⟩
  rcases k2.2 with h0 | ⟨b', cap, cur, h0, q1, q2⟩
  ·exact .inl h0
  ·exact .inr ⟨b', cap, cur, h0, Nat.le_trans hb1.size q1, q2⟩
 have hsz3 : w.heap.size ≤ w3.heap.size := Nat.le_trans hb1.size (Nat.le_trans hgr.size s4)
 have hlen : (evsOf (rdF fmt) (lin 100 0 [] l)).length + (tailEv m fr cur).length ≤ 200000 := by
  have h1 := lin_length 100 l 0 []
  have h2 := tailEv_length m fr cur
  simp only [evsOf, List.length_map]
  omega
 obtain ⟨v', w', q1, q2, q3⟩ := run_append_events w3 ty w.heap.size w2.heap.size v v3 _ _ hown3 h3 hlen hsz3
 refine ⟨v', w', q1, q2, ⟨q3.os.trans (s1.trans (hgr.os.trans hb1.os)), q3.tape.trans (s2.trans (hgr.tape.trans hb1.tape)), q3.output.trans (s3.trans (hgr.output.trans hb1.output)), Nat.le_trans hsz3 q3.size, fun k hk => ?_⟩⟩
 refine (q3.block k (Nat.lt_of_lt_of_le hk hsz3) (fun e => ?_)).trans ((s5 k (Nat.lt_of_lt_of_le hk (Nat.le_trans hb1.size hgr.size)) (by omega) (by omega)).trans ((hgr.block k (Nat.lt_of_lt_of_le hk hb1.size) (fun e => by have := Option.some.inj e; omega)).trans (hb1.block k hk)))
 have := (hown3.lt e.symm).1
 omega

set_option maxHeartbeats 4000000 in
theorem swhole_any {w : World} {fmt : Int} (hf : fmt = 1 ∨ fmt = 2 ∨ fmt = 3) {A : Option Addr} {n c : Nat} {l : List Int} (hW : Go.Eng.W w) (hs : Sl w A n l) (ht : Tidy A c) (hc : n ≤ c) (hn : n ≤ 90000) (hA : ∀ ad, A = some ad → ad.block < w.heap.size) :
  Calls Tryz.prog 5 #[.int .i64 fmt, .int .i64 100, .slice A n c] w fun e w' => ∃ v, e = .returned (.tuple #[v, .int .i64 0]) ∧ OwnE w' w.heap.size v (evsAll fmt l) ∧ RowKit.Below w.heap.size w w' := by
 have hnew := snew_any fmt hf w
 have HN := hidden hnew
 have HS := hidden hs
 have hl : l.length = n := hs.1
 clear hnew hs
 go_enter Tryz.func5, Tryz.ntmps5
 go_wp2_with (go_at_call 13; refine HN.out.mono ?_; rintro e w1 ⟨p, g, rfl, hp, hfr, hb1, hpw, hgw⟩; have HP := hidden (And.intro hp (And.intro hfr (And.intro hb1 (And.intro hpw hgw)))); clear hp hfr hb1 hpw hgw HN)
 obtain ⟨hp, hfr, hb1, hpw, hgw⟩ := HP.out
 have hfeed := sfeed_any (rd := rdF fmt) (hW.below hb1) hp (h := hfr) (l0 := l) (A0 := A) (n0 := n) (c0 := c) (HS.out.below hb1) ht hc (fun ad e => by have := hA ad e; omega) (fun ad e => Nat.lt_of_lt_of_le (hA ad e) hb1.size) (fun ad e => by cases e) (by simp; omega) (fun ad e => by cases e)
  (fun x hx hlx => rdF_is hf (Nat.le_trans (lin_short 100 l 0 [] x hx hlx) (by decide)))
 have HPL := hidden (Array.getElem?_eq_some_iff.1 hp).1
 have HGL := hidden hfr.lt
 have HX := hidden (And.intro hb1 (And.intro hpw hgw))
 clear hp hfr hb1 hpw hgw HP
 refine hfeed.mono ?_
 rintro e w2 ⟨v, rfl, hown, hp2, ⟨O2, co2, hfr2, hO2⟩, hgr⟩
 obtain ⟨VA, Vc, rfl⟩ := hown.slice
 have hclose := sclose_any (by rcases hf with rfl | rfl | rfl <;> decide) hp2 hfr2 (fun ad e => (hO2 ad e).2) rfl (by have := fin_size l 0 []; simp at this; omega)
 have HPP := hidden hp2
 have HG2 := hidden (⟨_, hfr2.row⟩ : ∃ cc, w2.heap[g]? = some (.cells cc 122 (0, 0)))
 have HOW := hidden hown
 have HGR := hidden hgr
 have HCL := hidden hclose
 clear hfeed hown hp2 hfr2 hO2 hgr hclose
 have hgt : ∃ cc, w2.heap[g]? = some (.cells cc 122 (0, 0)) := HG2.out
 have hgt2 := hgt
 have HGT := hidden hgt
 clear hgt hgt2
 go_wp2_with (first
  | (go_at_call 15; refine HCL.out.mono ?_; rintro e w3 ⟨v3, rfl, hown3, hst3⟩; obtain ⟨A3, c3, rfl⟩ := hown3.slice; obtain ⟨v', w', q1, q2, q3⟩ := whole_app HOW.out (HPP.out : w2.heap[p]? = some _) HGT.out HX.out.2.1 HX.out.2.2 HX.out.1 HGR.out hl hown3 hst3 hn 25; have H3 := hidden (And.intro q2 (And.intro q3 (And.intro hown3 hst3))); clear q2 q3 hown3 hst3)
  | (at_builtin; refine wpList_run rfl (wp_append_run rfl rfl rfl q1 ?_); clear q1))
 go_ret2
 exact ⟨_, rfl, H3.out.1, H3.out.2.1⟩
theorem swhole_none {w : World} {fmt : Int} (hf : fmt ≠ 1 ∧ fmt ≠ 2 ∧ fmt ≠ 3 ∧ fmt ≠ 4) (b : Value) : Calls Tryz.prog 5 #[.int .i64 fmt, .int .i64 100, b] w fun e w' => e = .returned (.tuple #[.slice none 0 0, .int .i64 29]) ∧ RowKit.Below w.heap.size w w' := by
 have hnew := snew_none fmt hf w
 have HN := hidden hnew
 clear hnew hf
 go_enter Tryz.func5, Tryz.ntmps5
 go_wp2_with (go_at_call 13; refine HN.out.mono ?_; rintro e w1 ⟨rfl, hb1⟩; have HB := hidden hb1; clear hb1)
 go_ret2
 exact ⟨rfl, HB.out⟩
end Go.Eng

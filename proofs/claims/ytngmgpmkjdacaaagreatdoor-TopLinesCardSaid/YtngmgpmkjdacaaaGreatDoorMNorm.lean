/-
 Regions that draw their order, with takes: the last store may break what the loads read. tag.Normal's comparing closure: a number below, at or above zero, whatever the world. Tags in order, each once: plain laws. tag.Normal's pieces: the copy, the sorted row as a world, stores into it. tag.Normal: a new row of the tags in order, each once, whatever the world.
-/
import Derived.Test.YtngmgpmkjdacaaaGreatDoorProg
import Derived.Shelf.Abstract
import Derived.Shelf.RegionOpen
import Derived.OwnWalkIn
import Derived.TacticsInMore
import Derived.LoopNIn
import Derived.LoopIn
import Derived.OrdersHeld
import Derived.OrdersIn
import Derived.Test.YtngmgpmkjdacaaaGreatDoorMAtoi
import Derived.Test.YtngmgpmkjdacaaaGreatDoorMSplit
import Derived.Shelf.SlicesG.Cmp
import Derived.Sort.Walk0
set_option linter.unusedSimpArgs false
set_option linter.unusedVariables false
namespace Go.Eng
open Go Go.Proofs
open Go.RowKit

section
variable {P : Program} {md : Region.Mode} {ops : Array Oper} {Q : Exit → Act → World → Prop} {S : World → Prop} {z : Nat}
/-- Whatever order is picked from here on, and S holds behind every operation but number z. -/
def wpAnyZ (P : Program) (md : Region.Mode) (ops : Array Oper) (Q : Exit → Act → World → Prop) (S : World → Prop) (z : Nat) : Nat → Array Bool → Act → World → Prop
 | 0, listed, a, w => Region.ready md ops listed = [] ∧ Q .normal a w
 | fuel + 1, listed, a, w => (Region.ready md ops listed = [] → Q .normal a w) ∧
  ∀ i ∈ Region.ready md ops listed, wpOp P ops Q i (fun a' w' => (i = z ∨ S w') ∧ wpAnyZ P md ops Q S z fuel (listed.setIfInBounds i true) a' w') a w

theorem any_of_z : ∀ (fuel : Nat) (listed : Array Bool) (a : Act) (w : World), wpAnyZ P md ops Q S z fuel listed a w → wpAny P md ops Q fuel listed a w
 | 0, _, _, _, h => h
 | fuel + 1, _, _, _, h => ⟨h.1, fun i hi => wpOp_mono (fun a' w' h' => any_of_z fuel _ a' w' h'.2) (h.2 i hi)⟩

/-- Number z waits for number i. -/
def waits (md : Region.Mode) (ops : Array Oper) (z i : Nat) : Bool := match ops[z]? with
 | some o => o.after.any fun e => Region.binds md e && e.on == i
 | none => true

theorem not_ready {i : Nat} {listed : Array Bool} (hz : waits md ops z i = true) (hi : i ∈ Region.ready md ops listed) : z ∉ Region.ready md ops listed := by
 intro h
 obtain ⟨_, o, ho, hall⟩ := mem_ready.1 h
 unfold waits at hz
 rw [ho] at hz
 obtain ⟨e, he, hb⟩ : ∃ e ∈ o.after, (Region.binds md e && e.on == i) = true := by
  obtain ⟨k, hk, h⟩ := Array.any_eq_true.1 hz
  exact ⟨_, Array.getElem_mem hk, h⟩
 rw [Bool.and_eq_true, beq_iff_eq] at hb
 have h1 := hall e he hb.1
 have h0 := (mem_ready.1 hi).1
 rw [hb.2] at h1
 rcases Nat.lt_or_ge i listed.size with h' | h'
 ·simp [h'] at h0 h1
  rw [h0] at h1
  cases h1
 ·simp [Array.getElem?_eq_none h'] at h1

theorem z_first {i : Nat} {oi : Oper} {v : Value} (hi : ops[i]? = some oi) (hsel : ∀ (j : Nat) (o : Oper) cs b, ops[j]? = some o → o.op ≠ .select cs b)
  (hQ : ∀ c a w, Q (.panic c) (a.put oi.dst v) w → Q (.panic c) a w) (hz : waits md ops z i = true) : ∀ (fuel : Nat) (listed : Array Bool) (a : Act) (w : World),
   (∀ j oj, ops[j]? = some oj → j ≠ i → listed.getD j true = false → (∀ e ∈ oj.after, Region.binds md e = true → e.on ≠ i) → oi.apart ops oj = true) →
   i ∈ Region.ready md ops listed → YieldsIf P ops S oi v a → S w →
   wpAnyZ P md ops Q S z fuel (listed.setIfInBounds i true) (a.put oi.dst v) w → wpAnyZ P md ops Q S z (fuel + 1) listed a w := by
 intro fuel
 induction fuel with
 | zero =>
  intro listed a w _ hr hy hS H
  refine ⟨fun h => absurd hr (by rw [h]; simp), fun j hj => ?_⟩
  by_cases hji : j = i
  ·subst hji
   exact hy.wpOp hi hS ⟨.inr hS, H⟩
  ·have := ready_mono hj hji
   rw [H.1] at this
   cases this
 | succ fuel ih =>
  intro listed a w hfree hr hy hS H
  refine ⟨fun h => absurd hr (by rw [h]; simp), fun j hj => ?_⟩
  by_cases hji : j = i
  ·subst hji
   exact hy.wpOp hi hS ⟨.inr hS, H⟩
  ·have hjz : j ≠ z := fun e => not_ready hz hr (e ▸ hj)
   obtain ⟨hjun, oj, hoj, hall⟩ := mem_ready.1 hj
   have hnot : ∀ e ∈ oj.after, Region.binds md e = true → e.on ≠ i := fun e he hb heq => by
    have h1 := hall e he hb
    have h0 := (mem_ready.1 hr).1
    rw [heq] at h1
    rcases Nat.lt_or_ge i listed.size with h' | h'
    ·simp [h'] at h0 h1; rw [h0] at h1; cases h1
    ·simp [Array.getElem?_eq_none h'] at h1
   refine wpOp_mono (fun a' w' h3 => ?_) (wpOp_putIf hoj (hfree j oj hoj hji hjun hnot) (fun cs b => hsel i oi cs b hi) (fun cs b => hsel j oj cs b hoj) hQ hy (H.2 j (ready_mono hj hji)))
   have hS' := h3.2.1.resolve_left hjz
   refine ⟨.inr hS', ih (listed.setIfInBounds j true) a' w' (fun k ok hk hki hun hno => hfree k ok hk hki ?_ hno) (ready_mono hr (Ne.symm hji)) h3.1 hS' ?_⟩
   ·by_cases hjk : j = k
    ·subst hjk; exact hjun
    ·rwa [getD_set_ne true hjk] at hun
   ·rw [Array.setIfInBounds_comm _ _ hji]
    exact h3.2.2

theorem z_take {i : Nat} {oi : Oper} {v : Value} {fuel : Nat} {listed : Array Bool} {a : Act} {w : World} (hi : ops[i]? = some oi)
  (hs : Region.noSelect ops = true) (hf : Region.free md ops listed i = true) (hr : (Region.ready md ops listed).contains i = true) (hz : waits md ops z i = true)
  (hQ : ∀ c a w, Q (.panic c) (a.put oi.dst v) w → Q (.panic c) a w) (hy : YieldsIf P ops S oi v a) (hS : S w)
  (h : wpAnyZ P md ops Q S z fuel (listed.setIfInBounds i true) (a.put oi.dst v) w) : wpAnyZ P md ops Q S z (fuel + 1) listed a w :=
 z_first hi (Region.noSelect_spec hs) hQ hz fuel listed a w (Region.free_spec hi hf) (by simpa using hr) hy hS h

/-- One operation alone may come up. -/
theorem z_one {i : Nat} {oi : Oper} {fuel : Nat} {listed : Array Bool} {a : Act} {w : World} (hr : Region.ready md ops listed = [i]) (hi : ops[i]? = some oi) (hg : oi.guard = none)
  (h : oi.wp P a w (fun a' w' => (i = z ∨ S w') ∧ wpAnyZ P md ops Q S z fuel (listed.setIfInBounds i true) a' w') Q) : wpAnyZ P md ops Q S z (fuel + 1) listed a w := by
 refine ⟨fun h0 => (by rw [h0] at hr; cases hr), fun j hj => ?_⟩
 rw [hr] at hj
 obtain rfl : j = i := by simpa using hj
 unfold wpOp
 rw [hi]
 dsimp only
 rw [if_pos (by simp [Region.wanted, hg])]
 exact .inl h

theorem z_done {listed : Array Bool} {a : Act} {w : World} (hr : Region.ready md ops listed = []) (h : Q .normal a w) : ∀ fuel, wpAnyZ P md ops Q S z fuel listed a w
 | 0 => ⟨hr, h⟩
 | _ + 1 => ⟨fun _ => h, by rw [hr]; simp⟩
end

/-- an operation of a list, by its number -/
def nthO : Nat → List Oper → Option Oper
 | _, [] => none
 | 0, o :: _ => some o
 | n + 1, _ :: l => nthO n l
theorem nthO_eq : ∀ (i : Nat) (l : List Oper), nthO i l = l[i]?
 | 0, [] => rfl
 | _ + 1, [] => rfl
 | 0, _ :: _ => rfl
 | n + 1, _ :: l => by rw [List.getElem?_cons_succ]; exact nthO_eq n l
/-- 'z_take' of an operation that its guard lets by, the closed facts by themselves -/
theorem z_t {P : Program} {md : Region.Mode} {ops : Array Oper} {Q : Exit → Act → World → Prop} {S : World → Prop} {z : Nat} (i : Nat) {oi : Oper} {v : Value} {fuel : Nat} {listed : Array Bool} {a : Act} {w : World} (hS : S w)
  (hy : ∀ w, S w → (execOp a.eval oi).run P w = .ok (.value v) w) (h : wpAnyZ P md ops Q S z fuel (listed.setIfInBounds i true) (a.put oi.dst v) w) (hi : nthO i ops.toList = some oi := by rfl)
  (hb : (Region.noSelect ops && (Region.free md ops listed i && ((Region.ready md ops listed).contains i && waits md ops z i))) = true := by kernel_rfl)
  (hQ : ∀ c a w, Q (.panic c) (a.put oi.dst v) w → Q (.panic c) a w := by exact fun _ _ _ h => h) (hw : Region.wanted oi (yielded ops a.tmps) = true := by rfl) : wpAnyZ P md ops Q S z (fuel + 1) listed a w := by
 simp only [Bool.and_eq_true] at hb
 exact z_take (by rw [← hi, nthO_eq, Array.getElem?_toList]) hb.1 hb.2.1 hb.2.2.1 hb.2.2.2 hQ (.inl ⟨hw, hy⟩) hS h

theorem region_plain {P : Program} {id : Nat} {ops : Array Oper} {Q : Exit → Act → World → Prop} (S : World → Prop) (z : Nat) {a : Act} {w : World} (hm : P.follows .mixedOrders = true)
  (h : wpAnyZ P .any ops Q S z ops.size (Array.replicate ops.size false) a w.drew) : (Code.region id ops true).wp P Q a w := wp_region_any hm (any_of_z _ _ _ _ h)
end Go.Eng
namespace Go.Eng
open Go Go.Proofs Go.Shelf Go.RowKit Go.Lib Go.Sort

/-- how two texts stand -/
def cmpS (x y : List UInt8) : Int := if x < y then -1 else if y < x then 1 else 0
/-- the first number that is not zero -/
def orI (a b : Int) : Int := if a ≠ 0 then a else b

theorem lt_tri {x y : List UInt8} (h1 : ¬ x < y) (h2 : x ≠ y) : y < x := by
 have := List.not_lt.1 h1
 rcases List.le_iff_lt_or_eq.1 this with h | h
 ·exact h
 ·exact absurd h.symm h2
theorem isNaN_calls (x : ByteArray) (w : World) : Calls Tryz.prog 184 #[.string x] w fun e w' => e = .returned (.bool false) ∧ w' = w := by
 go_enter Tryz.func184, Tryz.ntmps184
 go_wp2
 go_ret
 exact ⟨by simp, rfl⟩

set_option maxHeartbeats 1000000 in
theorem compare_calls (x y : List UInt8) (w : World) : Calls Tryz.prog 130 #[.string ⟨x.toArray⟩, .string ⟨y.toArray⟩] w fun e w' => e = .returned (.int .i64 (cmpS x y)) ∧ w' = w := by
 have h1 : (ByteArray.mk x.toArray).toList = x := by simp [Lib.toList_data]
 have h2 : (ByteArray.mk y.toArray).toList = y := by simp [Lib.toList_data]
 go_enter Tryz.func130, Tryz.ntmps130
 go_wp2_with (go_at_call 184; refine (isNaN_calls _ _).mono ?_; rintro e w' ⟨rfl, rfl⟩)
 all_goals go_ret
 all_goals refine ⟨?_, rfl⟩
 ·rename_i h
  rw [bytesLess_eq] at h
  show Ending.returned (Value.int .i64 (-1)) = _
  rw [cmpS, if_pos (of_decide_eq_true h)]
 ·rename_i h _ _ h'
  rw [bytesLess_eq] at h
  have g := of_decide_eq_false h
  show Ending.returned (Value.int .i64 1) = _
  rw [cmpS, if_neg g, if_pos (lt_tri g (by simpa using h'))]
 ·rename_i h h'
  rw [bytesLess_eq] at h
  have g := of_decide_eq_false h
  have e : x = y := by simpa using h'
  subst e
  show Ending.returned (Value.int .i64 0) = _
  rw [cmpS, if_neg g, if_neg g]

set_option maxHeartbeats 1000000 in
theorem or_calls (a b : Int) (k : Nat) (w : World) (h0 : w.cell? ⟨k, 0, none⟩ = some (.int .i64 a)) (h1 : w.cell? ⟨k, 1, none⟩ = some (.int .i64 b)) :
  Calls Tryz.prog 129 #[.slice (some ⟨k, 0, none⟩) 2 2] w fun e w' => e = .returned (.int .i64 (orI a b)) ∧ w' = w := by
 go_enter Tryz.func129, Tryz.ntmps129
 go_wp2
 go_loopg [8] 2 (fun g s8 wr => ∃ i : Nat, s8 = .int .i64 i ∧ i ≤ 2 ∧ g = 2 - i ∧ (1 ≤ i → a = 0) ∧ (2 ≤ i → b = 0) ∧ wr = w)
 case atStart => exact ⟨0, rfl, by omega, rfl, fun h => by omega, fun h => by omega, rfl⟩
 case round =>
  obtain ⟨i, rfl, hi, rfl, ha, hb, rfl⟩ := hrel
  match i, hi with
  | 0, _ =>
   go_wp2
   ·rename_i h
    go_ret
    have h : a ≠ 0 := by simpa using h
    refine ⟨?_, rfl⟩
    rw [orI, if_pos h]
    rfl
   ·rename_i h
    have h : a = 0 := by simpa using h
    go_roundg 1
    ·exact ⟨1, rfl, by omega, rfl, fun _ => h, fun h => by omega, rfl⟩
    all_goals omega
  | 1, _ =>
   go_wp2
   ·rename_i h
    go_ret
    have h : b ≠ 0 := by simpa using h
    refine ⟨?_, rfl⟩
    rw [orI, if_neg (by rw [ha (Nat.le_refl _)]; decide)]
    rfl
   ·rename_i h
    have h : b = 0 := by simpa using h
    go_roundg 0
    ·exact ⟨2, rfl, by omega, rfl, fun _ => ha (Nat.le_refl _), fun _ => h, rfl⟩
    all_goals omega
  | 2, _ =>
   go_wp2
   go_ret
   refine ⟨?_, rfl⟩
   rw [orI, if_neg (by rw [ha (by omega)]; decide), hb (Nat.le_refl _)]
   rfl
theorem hidN {p : Prop} (h : p) : Hid p := h
/-- a tag's cells -/
def encT (p : List UInt8 × List UInt8) : List Value := [.string ⟨p.1.toArray⟩, .string ⟨p.2.toArray⟩]
def cfT (x y : List UInt8 × List UInt8) : Int := orI (cmpS x.1 y.1) (cmpS x.2 y.2)

set_option maxHeartbeats 4000000 in
set_option maxRecDepth 100000 in
theorem closure_calls (x y : List UInt8 × List UInt8) (W : World) : Calls Tryz.prog 128 #[.agg (encT x).toArray, .agg (encT y).toArray] W fun e w' => e = .returned (.int .i64 (cfT x y)) ∧ ∃ q os', w' = grow (W.drewN q) os' := by
 obtain ⟨x1, x2⟩ := x
 obtain ⟨y1, y2⟩ := y
 have c1 := compare_calls x1 y1
 have c2 := compare_calls x2 y2
 show Calls Tryz.prog 128 #[.agg #[.string ⟨x1.toArray⟩, .string ⟨x2.toArray⟩], .agg #[.string ⟨y1.toArray⟩, .string ⟨y2.toArray⟩]] W fun e w' => e = .returned (.int .i64 (orI (cmpS x1 y1) (cmpS x2 y2))) ∧ ∃ q os', w' = grow (W.drewN q) os'
 generalize cmpS x1 y1 = r1 at c1 ⊢
 generalize cmpS x2 y2 = r2 at c2 ⊢
 generalize ByteArray.mk x1.toArray = a1 at c1 ⊢
 generalize ByteArray.mk x2.toArray = a2 at c2 ⊢
 generalize ByteArray.mk y1.toArray = b1 at c1 ⊢
 generalize ByteArray.mk y2.toArray = b2 at c2 ⊢
 go_enter Tryz.func128, Tryz.ntmps128
 go_wp2_with fail
 have hS : (((W.alloc (.cells #[.string a1, .string a2] 39)).alloc (.cells #[.string b1, .string b2] 39)).drew).cell? ⟨W.heap.size, 0, none⟩ = some (.string a1) ∧ (((W.alloc (.cells #[.string a1, .string a2] 39)).alloc (.cells #[.string b1, .string b2] 39)).drew).cell? ⟨W.heap.size, 1, none⟩ = some (.string a2) ∧
   (((W.alloc (.cells #[.string a1, .string a2] 39)).alloc (.cells #[.string b1, .string b2] 39)).drew).cell? ⟨W.heap.size + 1, 0, none⟩ = some (.string b1) ∧ (((W.alloc (.cells #[.string a1, .string a2] 39)).alloc (.cells #[.string b1, .string b2] 39)).drew).cell? ⟨W.heap.size + 1, 1, none⟩ = some (.string b2) := by
  refine ⟨?_, ?_, ?_, ?_⟩ <;> go_simp
 have hw2 : ∃ q os', ((W.alloc (.cells #[.string a1, .string a2] 39)).alloc (.cells #[.string b1, .string b2] 39)).drew = grow (W.drewN q) os' := ⟨1, _, by rw [alloc_eq_grow, alloc_eq_grow, grow_grow]; rfl⟩
 refine region_plain (fun w => w.cell? ⟨W.heap.size, 0, none⟩ = some (.string a1) ∧ w.cell? ⟨W.heap.size, 1, none⟩ = some (.string a2) ∧ w.cell? ⟨W.heap.size + 1, 0, none⟩ = some (.string b1) ∧ w.cell? ⟨W.heap.size + 1, 1, none⟩ = some (.string b2)) 99 (by kernel_rfl) ?_
 generalize ((W.alloc (.cells #[.string a1, .string a2] 39)).alloc (.cells #[.string b1, .string b2] 39)).drew = w1 at hS hw2 ⊢
 have HW := hidN hw2
 clear hw2
 generalize W.heap.size = n0 at hS ⊢
 refine z_t 0 (v := ?_) hS ?_ ?_
 rotate_left
 ·(rintro wS ⟨s0, s1, s2, s3⟩; go_simp <;> with_reducible rfl)
 simp only [Act.put, List.setIfInBounds_toArray, List.set_cons_zero, List.set_cons_succ]
 refine z_t 1 (v := ?_) hS ?_ ?_
 rotate_left
 ·(rintro wS ⟨s0, s1, s2, s3⟩; go_simp <;> with_reducible rfl)
 simp only [Act.put, List.setIfInBounds_toArray, List.set_cons_zero, List.set_cons_succ]
 refine z_t 2 (v := ?_) hS ?_ ?_
 rotate_left
 ·(rintro wS ⟨s0, s1, s2, s3⟩; go_simp <;> with_reducible rfl)
 simp only [Act.put, List.setIfInBounds_toArray, List.set_cons_zero, List.set_cons_succ]
 refine z_t 3 (v := ?_) hS ?_ ?_
 rotate_left
 ·(rintro wS ⟨s0, s1, s2, s3⟩; go_simp <;> with_reducible rfl)
 simp only [Act.put, List.setIfInBounds_toArray, List.set_cons_zero, List.set_cons_succ]
 refine z_t 5 (v := ?_) hS ?_ ?_
 rotate_left
 ·(rintro wS ⟨s0, s1, s2, s3⟩; go_simp <;> with_reducible rfl)
 simp only [Act.put, List.setIfInBounds_toArray, List.set_cons_zero, List.set_cons_succ]
 refine z_t 6 (v := ?_) hS ?_ ?_
 rotate_left
 ·(rintro wS ⟨s0, s1, s2, s3⟩; go_simp <;> with_reducible rfl)
 simp only [Act.put, List.setIfInBounds_toArray, List.set_cons_zero, List.set_cons_succ]
 refine z_t 7 (v := ?_) hS ?_ ?_
 rotate_left
 ·(rintro wS ⟨s0, s1, s2, s3⟩; go_simp <;> with_reducible rfl)
 simp only [Act.put, List.setIfInBounds_toArray, List.set_cons_zero, List.set_cons_succ]
 refine z_t 8 (v := ?_) hS ?_ ?_
 rotate_left
 ·(rintro wS ⟨s0, s1, s2, s3⟩; go_simp <;> with_reducible rfl)
 simp only [Act.put, List.setIfInBounds_toArray, List.set_cons_zero, List.set_cons_succ]
 refine z_one (i := 4) (by kernel_rfl) rfl rfl ?_
 go_simp
 refine (c1 _).mono ?_
 rintro e w1 ⟨rfl, rfl⟩
 refine ⟨hS, ?_⟩
 refine z_one (i := 9) (by kernel_rfl) rfl rfl ?_
 go_simp
 refine (c2 _).mono ?_
 rintro e w1 ⟨rfl, rfl⟩
 refine ⟨hS, ?_⟩
 refine z_one (i := 10) (by kernel_rfl) rfl rfl ?_
 go_simp
 obtain ⟨s0, s1, s2, s3⟩ := hS
 have old : ∀ {b o : Nat} {v : Value}, w1.cell? ⟨b, o, none⟩ = some v → (w1.alloc (Obj.cells #[Value.int IntKind.i64 r1, Value.int IntKind.i64 r2] 3)).cell? ⟨b, o, none⟩ = some v := fun h => by
  rw [World.cell?_alloc_old _ _ _ (Nat.ne_of_lt (World.block_lt_of_cell? _ _ h))]
  exact h
 have hS : (w1.alloc (Obj.cells #[Value.int IntKind.i64 r1, Value.int IntKind.i64 r2] 3)).cell? ⟨n0, 0, none⟩ = some (.string a1) ∧ (w1.alloc (Obj.cells #[Value.int IntKind.i64 r1, Value.int IntKind.i64 r2] 3)).cell? ⟨n0, 1, none⟩ = some (.string a2) ∧
   (w1.alloc (Obj.cells #[Value.int IntKind.i64 r1, Value.int IntKind.i64 r2] 3)).cell? ⟨n0 + 1, 0, none⟩ = some (.string b1) ∧ (w1.alloc (Obj.cells #[Value.int IntKind.i64 r1, Value.int IntKind.i64 r2] 3)).cell? ⟨n0 + 1, 1, none⟩ = some (.string b2) := ⟨old s0, old s1, old s2, old s3⟩
 have k0 : (w1.alloc (Obj.cells #[Value.int IntKind.i64 r1, Value.int IntKind.i64 r2] 3)).cell? ⟨w1.heap.size, 0, none⟩ = some (.int .i64 r1) := by go_simp
 have k1 : (w1.alloc (Obj.cells #[Value.int IntKind.i64 r1, Value.int IntKind.i64 r2] 3)).cell? ⟨w1.heap.size, 1, none⟩ = some (.int .i64 r2) := by go_simp
 have hY : ∃ q2 os2, w1.alloc (Obj.cells #[Value.int IntKind.i64 r1, Value.int IntKind.i64 r2] 3) = grow (W.drewN q2) os2 := by
  obtain ⟨q, os', h⟩ := HW.out
  exact ⟨q, _, by rw [h, alloc_eq_grow, grow_grow]⟩
 clear s0 s1 s2 s3 old HW
 refine ⟨hS, ?_⟩
 generalize w1.alloc (Obj.cells #[Value.int IntKind.i64 r1, Value.int IntKind.i64 r2] 3) = wY at *
 generalize w1.heap.size = kk at *
 have HC := hidN (or_calls r1 r2 kk wY k0 k1)
 have HY := hidN hY
 clear k0 k1 hY c1 c2
 refine z_one (i := 11) (by kernel_rfl) rfl rfl ?_
 go_simp
 refine HC.out.mono ?_
 rintro e w2 ⟨rfl, rfl⟩
 refine ⟨hS, ?_⟩
 refine z_one (i := 12) (by kernel_rfl) rfl rfl ?_
 go_simp
 refine ⟨by kernel_rfl, ?_⟩
 clear hS
 go_wp2_with fail
 go_ret
 exact ⟨rfl, HY.out⟩
theorem cmpLays_norm (blk off size : Nat) (w : World) : CmpLays Tryz.prog 128 #[] encT 2 cfT blk off size w := fun _ _ _ _ x y => closure_calls x y _
end Go.Eng
namespace Go.Eng
open Go Go.Proofs Go.Sort

abbrev Tg := List UInt8 × List UInt8

theorem lstr_irrefl (x : List UInt8) : ¬ x < x := List.lt_irrefl x
theorem lstr_trans {x y z : List UInt8} (h : x < y) (h' : y < z) : x < z := List.lt_trans h h'
theorem tagLt_irrefl (x : Tg) : ¬ tagLt x x := fun h => h.elim (lstr_irrefl _) fun h => lstr_irrefl _ h.2
theorem tagLt_trans {x y z : Tg} (h : tagLt x y) (h' : tagLt y z) : tagLt x z := by
 rcases h with h | ⟨h1, h2⟩ <;> rcases h' with g | ⟨g1, g2⟩
 ·exact .inl (lstr_trans h g)
 ·exact .inl (g1 ▸ h)
 ·exact .inl (h1 ▸ g)
 ·exact .inr ⟨h1.trans g1, lstr_trans h2 g2⟩
theorem tagLt_tri (x y : Tg) : tagLt x y ∨ x = y ∨ tagLt y x := by
 by_cases h : x.1 < y.1
 ·exact .inl (.inl h)
 ·by_cases e : x.1 = y.1
  ·by_cases h' : x.2 < y.2
   ·exact .inl (.inr ⟨e, h'⟩)
   ·by_cases e' : x.2 = y.2
    ·exact .inr (.inl (Prod.ext e e'))
    ·exact .inr (.inr (.inr ⟨e.symm, lt_tri h' e'⟩))
  ·exact .inr (.inr (.inl (lt_tri h e)))
open Classical in
theorem cmpS_neg (x y : List UInt8) : cmpS x y < 0 ↔ x < y := by
 unfold cmpS
 by_cases h : x < y
 ·simp [h]
 ·by_cases h' : y < x <;> simp [h, h']
theorem cmpS_zero (x y : List UInt8) : cmpS x y = 0 ↔ x = y := by
 unfold cmpS
 by_cases h : x < y
 ·simp only [h, if_true]
  exact ⟨fun e => (by cases e), fun e => absurd (e ▸ h) (lstr_irrefl _)⟩
 ·by_cases h' : y < x
  ·simp only [h, h', if_true, if_false]
   exact ⟨fun e => (by cases e), fun e => absurd (e ▸ h') (lstr_irrefl _)⟩
  ·simp only [h, h', if_false, true_iff]
   exact Classical.byContradiction fun e => h' (lt_tri h e)
theorem ltOf_cfT (x y : Tg) : ltOf cfT x y = true ↔ tagLt x y := by
 unfold ltOf cfT orI tagLt
 rw [decide_eq_true_iff]
 by_cases h : cmpS x.1 y.1 = 0
 ·have e := (cmpS_zero _ _).1 h
  rw [if_neg (by simp [h]), cmpS_neg, e]
  exact ⟨fun g => .inr ⟨rfl, g⟩, fun g => g.elim (fun g => absurd g (lstr_irrefl _)) And.right⟩
 ·rw [if_pos h, cmpS_neg]
  exact ⟨.inl, fun g => g.elim id fun g => absurd ((cmpS_zero _ _).2 g.1) h⟩
theorem ltOf_false (x y : Tg) : ltOf cfT x y = false ↔ ¬ tagLt x y := by
 rw [← ltOf_cfT, Bool.not_eq_true]
theorem swoT : SWO (ltOf cfT) where
 irrefl x := (ltOf_false _ _).2 (tagLt_irrefl x)
 trans x y z h h' := (ltOf_cfT _ _).2 (tagLt_trans ((ltOf_cfT _ _).1 h) ((ltOf_cfT _ _).1 h'))
 ntrans x y z h h' := by
  rw [ltOf_false] at *
  intro g
  rcases tagLt_tri x y with a | a | a
  ·exact h a
  ·subst a; exact h' g
  ·exact h' (tagLt_trans a g)

/-- neighbours alike: one of them -/
def ddS (acc : List Tg) (t : Tg) : List Tg := if acc.getLast? = some t then acc else acc ++ [t]
def ddl (l : List Tg) : List Tg := l.foldl ddS []
theorem ddl_snoc (l : List Tg) (t : Tg) : ddl (l ++ [t]) = ddS (ddl l) t := by simp [ddl, List.foldl_append]

theorem ddl_acc : ∀ (l acc : List Tg), acc.Pairwise tagLt → (∀ x ∈ l, ∀ a ∈ acc, ¬ tagLt x a) → l.Pairwise (fun x y => ¬ tagLt y x) →
  (l.foldl ddS acc).Pairwise tagLt ∧ ∀ x, x ∈ l.foldl ddS acc ↔ x ∈ acc ∨ x ∈ l
 | [], acc, h, _, _ => ⟨h, fun x => by simp⟩
 | t :: l, acc, h, h1, h2 => by
  simp only [List.foldl_cons]
  obtain ⟨h3, h4⟩ := List.pairwise_cons.1 h2
  by_cases hl : acc.getLast? = some t
  ·have e : ddS acc t = acc := if_pos hl
   rw [e]
   obtain ⟨g1, g2⟩ := ddl_acc l acc h (fun x hx a ha => h1 x (List.mem_cons_of_mem _ hx) a ha) h4
   have ht : t ∈ acc := List.mem_of_getLast? hl
   refine ⟨g1, fun x => ?_⟩
   rw [g2, List.mem_cons]
   exact ⟨fun g => g.elim .inl fun g => .inr (.inr g), fun g => g.elim .inl fun g => g.elim (fun g => .inl (g ▸ ht)) .inr⟩
  ·have e : ddS acc t = acc ++ [t] := if_neg hl
   rw [e]
   have hlt : ∀ a ∈ acc, tagLt a t := fun a ha => by
    have hn := h1 t (List.mem_cons_self) a ha
    rcases tagLt_tri a t with g | g | g
    ·exact g
    ·exfalso
     subst g
     obtain ⟨s1, s2, rfl⟩ := List.append_of_mem ha
     cases s2 with
     | nil => exact hl (by simp)
     | cons z s2 =>
      have hz : tagLt a z := by
       have := (List.pairwise_append.1 h).2.1
       exact (List.pairwise_cons.1 this).1 z (by simp)
      exact h1 a (List.mem_cons_self) z (by simp) hz
    ·exact absurd g hn
   obtain ⟨g1, g2⟩ := ddl_acc l (acc ++ [t]) (List.pairwise_append.2 ⟨h, by simp, fun a ha b hb => by rw [List.mem_singleton.1 hb]; exact hlt a ha⟩)
    (fun x hx a ha => (List.mem_append.1 ha).elim (h1 x (List.mem_cons_of_mem _ hx) a) fun g => by rw [List.mem_singleton.1 g]; exact h3 x hx) h4
   refine ⟨g1, fun x => ?_⟩
   rw [g2, List.mem_append, List.mem_singleton, List.mem_cons, or_assoc]
theorem norm_unique : ∀ (l1 l2 : List Tg), l1.Pairwise tagLt → l2.Pairwise tagLt → (∀ x, x ∈ l1 ↔ x ∈ l2) → l1 = l2
 | [], [], _, _, _ => rfl
 | [], b :: l2, _, _, h => by have := (h b).2 List.mem_cons_self; cases this
 | a :: l1, [], _, _, h => by have := (h a).1 List.mem_cons_self; cases this
 | a :: l1, b :: l2, h1, h2, h => by
  obtain ⟨p1, p2⟩ := List.pairwise_cons.1 h1
  obtain ⟨q1, q2⟩ := List.pairwise_cons.1 h2
  have e : a = b := by
   rcases List.mem_cons.1 ((h a).1 List.mem_cons_self) with e | e
   ·exact e
   ·rcases List.mem_cons.1 ((h b).2 List.mem_cons_self) with e' | e'
    ·exact e'.symm
    ·exact absurd (tagLt_trans (p1 b e') (q1 a e)) (tagLt_irrefl _)
  subst e
  rw [norm_unique l1 l2 p2 q2 fun x => ?_]
  constructor
  ·intro hx
   rcases List.mem_cons.1 ((h x).1 (List.mem_cons_of_mem _ hx)) with g | g
   ·subst g; exact absurd (p1 x hx) (tagLt_irrefl _)
   ·exact g
  ·intro hx
   rcases List.mem_cons.1 ((h x).2 (List.mem_cons_of_mem _ hx)) with g | g
   ·subst g; exact absurd (q1 x hx) (tagLt_irrefl _)
   ·exact g
theorem normP_eq {L l : List Tg} (hp : l.Perm L) (hs : l.Pairwise fun x y => ¬ tagLt y x) : normP L = ddl l := by
 obtain ⟨g1, g2⟩ := ddl_acc l [] List.Pairwise.nil (fun x _ a ha => by cases ha) hs
 have hx : ∃ L', IsNorm L L' := ⟨ddl l, g1, fun x => by rw [show ddl l = l.foldl ddS [] from rfl, g2]; simp [hp.mem_iff]⟩
 have h := Classical.choose_spec hx
 unfold normP
 rw [dif_pos hx]
 exact norm_unique _ _ h.1 g1 fun x => by
  show _ ↔ x ∈ l.foldl ddS []
  rw [h.2, g2]
  simp [hp.mem_iff]
end Go.Eng
namespace Go.Eng
open Go Go.Proofs Go.Shelf Go.RowKit Go.Lib Go.Sort

theorem encT_len (x : Tg) : (encT x).length = 2 := rfl
theorem encT_one (x : Tg) : ∀ v ∈ encT x, v.oneCell' = true := fun v hv => by
 simp only [encT, List.mem_cons, List.not_mem_nil, or_false] at hv
 rcases hv with rfl | rfl <;> rfl
/-- the world of the sort -/
abbrev SWt (w : World) (g m : Nat) (dk : Array Tg) (os : Array Obj) : World := sortWorldK encT 2 w g 0 m dk os

theorem setMany_at (dk : Array Tg) (i : Nat) (x : Tg) (hi : i < dk.size) : Sort.setMany (flatK encT 2 dk) (i * 2) (encT x) = flatK encT 2 (dk.setIfInBounds i x) := by
 refine ext_get! (by simp) fun t ht => ?_
 have ht' : t < dk.size * 2 := by simpa using ht
 rw [Sort.get_setMany _ _ _ t (by simpa using ht'), get_flatK _ _ _ t ht', get_flatK _ _ _ t (by simpa using ht'), encT_len]
 by_cases h : i * 2 ≤ t ∧ t < i * 2 + 2
 ·have hd : t / 2 = i := by omega
  rw [if_pos h, hd]
  have e : (dk.setIfInBounds i x)[i]! = x := by simp [hi]
  rw [e]
  congr 1
  omega
 ·have hd : i ≠ t / 2 := by omega
  rw [if_neg h]
  have e : (dk.setIfInBounds i x)[t / 2]! = dk[t / 2]! := by
   simp [Array.getElem!_eq_getD, Array.getD_eq_getD_getElem?, hd]
  rw [e]
theorem SWt.store {w : World} {g m : Nat} {dk : Array Tg} {os : Array Obj} (hg : g < w.heap.size) {i : Nat} (hi : i < dk.size) (x : Tg) :
  (SWt w g m dk os).setCells g (0 + i * 2) (encT x) = SWt w g m (dk.setIfInBounds i x) os := by
 unfold SWt sortWorldK
 rw [setCells_grow os g _ _ _ (by rw [size_putRowK]; exact hg)]
 congr 1
 unfold putRowK
 rw [setCells_putRow _ _ _ _ _ _ (by rw [encT_len, size_flatK]; omega), setMany_at dk i x hi]
theorem SWt.grown {w : World} {g m : Nat} {dk : Array Tg} {os : Array Obj} (q : Nat) (os' : Array Obj) : grow ((SWt w g m dk os).drewN q) os' = SWt w g (m + q) dk (os ++ os') := sortWorldK_grown_c encT 2 w g 0 m q dk os os'
theorem SWt.block {w : World} {g m : Nat} {dk : Array Tg} {os : Array Obj} {cur : Array Value} {fz : Nat × Nat} (h : w.heap[g]? = some (.cells cur 39 fz)) :
  (SWt w g m dk os).heap[g]? = some (.cells (putCells id 0 (flatK encT 2 dk) cur) 39 fz) := by
 have hg : g < w.heap.size := (Array.getElem?_eq_some_iff.1 h).1
 unfold SWt sortWorldK putRowK putRow grow
 have hs : g < (mapBlock (Sort.ahead w m) g (putCells id 0 (flatK encT 2 dk))).heap.size := by simp [mapBlock, Sort.ahead, hg]
 rw [Array.getElem?_append_left hs]
 simp [mapBlock, Sort.ahead, Array.getElem?_modify, h, onCells]
theorem putCells_get {dk : Array Tg} {cur : Array Value} {i j : Nat} (hi : i < dk.size) (hj : j < 2) (hs : dk.size * 2 ≤ cur.size) : (putCells id 0 (flatK encT 2 dk) cur)[i * 2 + j]? = (encT dk[i]!)[j]? := by
 have hlt : i * 2 + j < dk.size * 2 := by omega
 unfold putCells
 rw [Array.getElem?_mapIdx]
 have hc : i * 2 + j < cur.size := by omega
 rw [Array.getElem?_eq_getElem hc]
 simp only [Option.map_some, Nat.zero_le, true_and, Nat.zero_add, size_flatK, hlt, if_true, id_eq, Nat.sub_zero]
 rw [get_flatK _ _ _ _ hlt, show (i * 2 + j) / 2 = i by omega, show (i * 2 + j) % 2 = j by omega, List.getElem?_eq_getElem (by rw [encT_len]; exact hj), getElem!_pos _ _ (by rw [encT_len]; exact hj)]
theorem SWt.kp {w : World} {g m : Nat} {dk : Array Tg} {os : Array Obj} {B : Nat} (hB : B ≤ g) : Kp (fun k => B ≤ k) w (SWt w g m dk os) := by
 refine ⟨rfl, rfl, rfl, ?_, fun k hk hn => ?_⟩
 ·simp [SWt, sortWorldK, grow, putRowK, putRow, mapBlock, Sort.ahead]
 ·unfold SWt sortWorldK putRowK putRow grow
  have hs : k < (mapBlock (Sort.ahead w m) g (putCells id 0 (flatK encT 2 dk))).heap.size := by simp [mapBlock, Sort.ahead, hk]
  rw [Array.getElem?_append_left hs]
  have : g ≠ k := by omega
  simp [mapBlock, Sort.ahead, Array.getElem?_modify, this]

/-- the cells of tags -/
def cellsT (d : List Tg) : List Value := d.flatMap encT
theorem cellsT_len (d : List Tg) : (cellsT d).length = d.length * 2 := by
 induction d with
 | nil => rfl
 | cons a d ih => simp [cellsT, encT] at ih ⊢; omega
theorem cellsT_at : ∀ (d : List Tg) (i j : Nat), j < 2 → (cellsT d)[i * 2 + j]? = (d[i]?).bind fun x => (encT x)[j]?
 | [], i, j, _ => by simp [cellsT]
 | a :: d, 0, j, hj => by
  rw [Nat.zero_mul, Nat.zero_add]
  simp only [cellsT, List.flatMap_cons, List.getElem?_cons_zero, Option.bind_some]
  rw [List.getElem?_append_left (by rw [encT_len]; exact hj)]
 | a :: d, i + 1, j, hj => by
  have := cellsT_at d i j hj
  simp only [cellsT, List.flatMap_cons, List.getElem?_cons_succ] at this ⊢
  rw [List.getElem?_append_right (by rw [encT_len]; omega), encT_len, show (i + 1) * 2 + j - 2 = i * 2 + j by omega, this]

set_option maxRecDepth 100000 in
theorem clone_tags {w : World} {b o n cap : Nat} {d : List Tg} (hd : d.length = n) (hn : n ≤ 1000000) (hc : ∀ i j v, (d[i]?).bind (fun x => (encT x)[j]?) = some v → j < 2 → w.cell? ⟨b, o + (i * 2 + j), none⟩ = some v) :
  Calls Tryz.prog 48 #[.slice (some ⟨b, o, none⟩) n cap] w fun e w' => ∃ g cap' cur, e = .returned (.slice (some ⟨g, 0, none⟩) n cap') ∧ w.heap.size ≤ g ∧ w'.heap[g]? = some (.cells cur 39 (0, 0)) ∧ n ≤ cap' ∧ cur.size = cap' * 2 ∧
   HoldsK encT 2 w' g 0 d.toArray ∧ Below w.heap.size w w' := by
 have hz : (Tryz.prog.info? 39).map (fun i => (i.zero, i.size, i.bytes)) = some (some (.agg #[.string ByteArray.empty, .string ByteArray.empty]), 2, 32) := by kernel_rfl
 obtain ⟨i0, hi, hh⟩ := Option.map_eq_some_iff.1 hz
 simp only [Prod.mk.injEq] at hh
 obtain ⟨z1, z2, z3⟩ := hh
 have hcon := AnyE.slices_Clone YtngmgpmkjdacaaaGreatDoor.cloneA i0 _ 2 32 hi z1 z2 z3 rfl (by decide) Tryz.sizeOf39 b o n cap (cellsT d) w (by rw [cellsT_len, hd]) (by unfold maxLen; omega) (by omega)
  (fun t u ht => by
   have := cellsT_at d (t / 2) (t % 2) (by omega)
   rw [show t / 2 * 2 + t % 2 = t by omega, ht] at this
   have := hc (t / 2) (t % 2) u this.symm (by omega)
   rwa [show t / 2 * 2 + t % 2 = t by omega] at this)
  (fun u hu => by
   obtain ⟨x, _, hx⟩ := List.mem_flatMap.1 hu
   exact encT_one x u hx)
 refine hcon.mono ?_
 rintro e w' ⟨v', rfl, ⟨ho1, ho⟩, hne, hb⟩
 rcases ho with ⟨h, _⟩ | ⟨g, cap', cur, rfl, h1, h2, h3, h4, h5, h6⟩
 ·exact absurd h hne
 ·refine ⟨g, cap', cur, rfl, h1, h2, h3, h5, ?_, hb⟩
  intro t ht
  rw [size_flatK] at ht
  have hdn : d.toArray.size = n := by simpa using hd
  rw [hdn] at ht
  have e : (flatK encT 2 d.toArray)[t]! = ((cellsT d)[t]?).getD default := by
   rw [get_flatK _ _ _ _ (by rw [hdn]; exact ht)]
   have := cellsT_at d (t / 2) (t % 2) (by omega)
   rw [show t / 2 * 2 + t % 2 = t by omega] at this
   rw [this]
   have hlt : t / 2 < d.length := by omega
   simp [hlt]
  have hl : t < (cellsT d).length := by rw [cellsT_len, hd]; exact ht
  have hct : cur[t]? = (cellsT d)[t]? := by
   have : (cur.toList.take (n * 2))[t]? = (cellsT d)[t]? := by rw [h6]
   rwa [List.getElem?_take_of_lt ht, Array.getElem?_toList] at this
  refine ⟨?_, ?_⟩
  ·have hc1 : w'.cell? ⟨g, 0 + t, none⟩ = cur[0 + t]? := by simp [World.cell?, h2]
   rw [hc1, Nat.zero_add, hct, e, List.getElem?_eq_getElem hl]
   rfl
  ·simp [World.frozen?, h2]
end Go.Eng
namespace Go.Eng
open Go Go.Proofs Go.Shelf Go.RowKit Go.Lib Go.Sort

theorem clip_calls (g n cap : Nat) (w : World) (hn : n ≤ cap) : Calls Tryz.prog 131 #[.slice (some ⟨g, 0, none⟩) n cap] w fun e w' => e = .returned (.slice (some ⟨g, 0, none⟩) n n) ∧ w' = w := by
 go_enter Tryz.func131, Tryz.ntmps131
 go_wp2
 go_ret
 exact ⟨rfl, rfl⟩
theorem tag_ne (x y : Tg) (w : World) : (binOp .neq 39 (.agg #[.string ⟨x.1.toArray⟩, .string ⟨x.2.toArray⟩]) (.agg #[.string ⟨y.1.toArray⟩, .string ⟨y.2.toArray⟩])).run Tryz.prog w = .ok (.bool (decide (x ≠ y))) w := by
 have u9 := Tryz.underlying9
 have a9 := Tryz.isAgg9
 have z9 := Tryz.sizeOf9
 have hS : Tryz.prog.underlying 39 = some (.struct (Tryz.prog.fieldsOf 39)) := by kernel_rfl
 have hp : Tryz.prog.stoodInHeld 39 = false := by kernel_rfl
 rw [run_neq_struct, show (10000 : Nat) = 9999 + 1 from rfl, run_equalIn_agg w 9999 39 _ _ hS hp]
 simp only [Program.fieldsOf, Tryz.underlying39]
 go_simp
 obtain ⟨x1, x2⟩ := x
 obtain ⟨y1, y2⟩ := y
 by_cases h1 : x1 = y1 <;> by_cases h2 : x2 = y2 <;> simp [h1, h2]

/-- what a round leaves -/
def Mid (d' : List Tg) (i nn : Nat) (dk : Array Tg) : Prop := nn ≤ i ∧ dk.size = d'.length ∧ dk.toList.take nn = ddl (d'.take i) ∧ ∀ j, i ≤ j → dk[j]! = d'[j]!

theorem ddS_ne (acc : List Tg) (t : Tg) : ddS acc t ≠ [] := by
 unfold ddS
 split
 ·rename_i h
  intro e
  rw [e] at h
  cases h
 ·simp
theorem take_one (d' : List Tg) (i : Nat) (hi : i < d'.length) : d'.take (i + 1) = d'.take i ++ [d'[i]!] := by
 rw [List.take_add_one, List.getElem?_eq_getElem hi, getElem!_pos d' i hi]
 rfl
theorem Mid.first {d' : List Tg} {dk : Array Tg} : (ddl (d'.take 0)).getLast? ≠ some dk[0]! := by simp [ddl]
theorem Mid.last {d' : List Tg} {i nn : Nat} {dk : Array Tg} (h : Mid d' i nn dk) (hi : i < d'.length) (h1 : 1 ≤ i) : 1 ≤ nn ∧ (ddl (d'.take i)).getLast? = some dk[nn - 1]! := by
 obtain ⟨a1, a2, a3, a4⟩ := h
 obtain ⟨k, rfl⟩ : ∃ k, i = k + 1 := ⟨i - 1, by omega⟩
 have hne : ddl (d'.take (k + 1)) ≠ [] := by
  rw [take_one d' k (by omega), ddl_snoc]
  exact ddS_ne _ _
 have hn : 1 ≤ nn := by
  rcases Nat.eq_zero_or_pos nn with e | e
  ·subst e
   rw [← a3] at hne
   simp at hne
  ·exact e
 refine ⟨hn, ?_⟩
 rw [← a3, List.getLast?_eq_getElem?, List.length_take, Array.length_toList, Nat.min_eq_left (by omega), List.getElem?_take_of_lt (by omega), Array.getElem?_toList, Array.getElem?_eq_getElem (by omega), getElem!_pos dk (nn - 1) (by omega)]
theorem Mid.keep {d' : List Tg} {i nn : Nat} {dk : Array Tg} (h : Mid d' i nn dk) (hi : i < d'.length) (he : (ddl (d'.take i)).getLast? = some dk[i]!) : Mid d' (i + 1) nn dk := by
 obtain ⟨a1, a2, a3, a4⟩ := h
 refine ⟨by omega, a2, ?_, fun j hj => a4 j (by omega)⟩
 rw [take_one d' i hi, ddl_snoc, ← a4 i (Nat.le_refl i)]
 unfold ddS
 rw [if_pos he]
 exact a3
theorem Mid.push {d' : List Tg} {i nn : Nat} {dk : Array Tg} (h : Mid d' i nn dk) (hi : i < d'.length) (he : (ddl (d'.take i)).getLast? ≠ some dk[i]!) : Mid d' (i + 1) (nn + 1) (dk.setIfInBounds nn dk[i]!) := by
 obtain ⟨a1, a2, a3, a4⟩ := h
 refine ⟨by omega, by simpa using a2, ?_, fun j hj => ?_⟩
 ·rw [take_one d' i hi, ddl_snoc, ← a4 i (Nat.le_refl i)]
  unfold ddS
  rw [if_neg he, ← a3]
  have hn : nn < dk.toList.length := by simp; omega
  rw [Array.toList_setIfInBounds, List.take_add_one, List.take_set_of_le (Nat.le_refl nn), List.getElem?_set_self hn]
  rfl
 ·rw [← a4 j (by omega)]
  have : nn ≠ j := by omega
  simp [Array.getElem!_eq_getD, Array.getD_eq_getD_getElem?, Array.getElem?_setIfInBounds, this]

set_option maxHeartbeats 4000000 in
set_option maxRecDepth 100000 in
theorem norm_walk (w : World) (b o cap m : Nat) (d : List Tg) (hd : d.length = m) (hm : 1 ≤ m) (hm2 : m ≤ 1000000)
  (hcl : Calls Tryz.prog 48 #[.slice (some ⟨b, o, none⟩) m cap] w fun e w' => ∃ g cap' cur, e = .returned (.slice (some ⟨g, 0, none⟩) m cap') ∧ w.heap.size ≤ g ∧ w'.heap[g]? = some (.cells cur 39 (0, 0)) ∧ m ≤ cap' ∧ cur.size = cap' * 2 ∧
   HoldsK encT 2 w' g 0 d.toArray ∧ Below w.heap.size w w') :
  Calls Tryz.prog 70 #[.slice (some ⟨b, o, none⟩) m cap] w fun e w' => ∃ g cur nn dk w1 q os d', e = .returned (.slice (some ⟨g, 0, none⟩) nn nn) ∧ w.heap.size ≤ g ∧ w1.heap[g]? = some (.cells cur 39 (0, 0)) ∧ m * 2 ≤ cur.size ∧
   Below w.heap.size w w1 ∧ w' = SWt w1 g q dk os ∧ d'.Perm d ∧ d'.Pairwise (fun x y => ¬ tagLt y x) ∧ Mid d' m nn dk := by
 have eg : ∀ args w, (callFunc 128 args).run Tryz.prog w = .ok (.enter 128 args) w := enters_of Tryz.func128 (by kernel_rfl) rfl
 have hsort : ∀ (w1 : World) (g cap' : Nat), HoldsK encT 2 w1 g 0 d.toArray → g < w1.heap.size → Calls Tryz.prog 127 #[.slice (some ⟨g, 0, none⟩) m cap', .func (.func 128) #[] #[]] w1 fun e w' =>
   e = .returned (.tuple #[]) ∧ ∃ (d' : List Tg) (q : Nat) (os : Array Obj), d'.length = m ∧ d'.Perm d ∧ d'.Pairwise (fun x y => ¬ tagLt y x) ∧ w' = SWt w1 g q d'.toArray os := fun w1 g cap' hH hg => by
  have hs : d.toArray.size = m := by simpa using hd
  have := AnyQ.slices_SortFunc YtngmgpmkjdacaaaGreatDoor.sortA 2 Tryz.isAgg39 Tryz.sizeOf39 encT encT_len encT_one cfT swoT 128 #[] g 0 cap' d.toArray w1 eg (cmpLays_norm g 0 d.toArray.size w1) hH hg (by omega)
  rw [hs] at this
  refine this.mono ?_
  rintro e w' ⟨rfl, d', q, os, ⟨p1, p2, p3⟩, p4, rfl⟩
  have hp : d'.toList.Perm d := by
   have e1 : d'.extract 0 m = d' := by rw [← hs, ← p1]; simp
   have e2 : d.toArray.extract 0 m = d.toArray := by rw [← hs]; simp
   rw [e1, e2] at p3
   simpa using p3
  refine ⟨rfl, d'.toList, q, os, by simp [p1, hd], hp, ?_, by simp⟩
  rw [List.pairwise_iff_getElem]
  intro i j hi hj hij
  have := p4 i j (Nat.zero_le _) hij (by simpa [p1, hd] using hj)
  rw [ltOf_false] at this
  rw [getElem!_pos d' j (by simpa using hj), getElem!_pos d' i (by simpa using hi)] at this
  simpa using this
 clear eg
 have HSo := hidN hsort
 clear hsort
 go_enter Tryz.func70, Tryz.ntmps70
 go_wp2_with (first
  | (go_at_call 48; refine hcl.mono ?_; rintro e w1 ⟨g, cap', cur, rfl, hg1, hg2, hg3, hg4, hg5, hg6⟩; have HG := hidN (And.intro hg1 (And.intro hg2 (And.intro hg3 (And.intro hg4 (And.intro hg5 hg6))))); clear hg1 hg2 hg3 hg4 hg5 hg6 hcl)
  | (go_at_call 127; refine (HSo.out w1 g cap' HG.out.2.2.2.2.1 (Array.getElem?_eq_some_iff.1 HG.out.2.1).1).mono ?_; rintro e w2 ⟨rfl, d', q, os, hd1, hd2, hd3, rfl⟩; have HD := hidN (And.intro hd1 (And.intro hd2 hd3)); clear hd1 hd2 hd3 HSo))
 generalize hA : d'.toArray = a0
 go_loopg [4, 13] m (fun kk s4 s13 wr => ∃ (i nn : Nat) (dk : Array Tg) (q' : Nat) (os' : Array Obj), s4 = .int .i64 nn ∧ s13 = .int .i64 i ∧ i ≤ m ∧ kk = m - i ∧ wr = SWt w1 g q' dk os' ∧ Aside (Mid d' i nn dk))
 case atStart => exact ⟨0, 0, a0, q, os, rfl, rfl, Nat.zero_le _, rfl, rfl, ⟨Nat.le_refl _, by rw [← hA]; simp [HD.out.1], by simp [ddl], fun j _ => by rw [← hA]; simp⟩⟩
 case round =>
  obtain ⟨i, nn, dk, q', os', rfl, rfl, him, rfl, rfl, HM⟩ := hrel
  clear hA
  by_cases hlt : i < m
  ·have hltz : (i : Int) < (m : Int) := by omega
   have hds : dk.size = m := HM.out.2.1.trans HD.out.1
   have hgs : g < w1.heap.size := (Array.getElem?_eq_some_iff.1 HG.out.2.1).1
   have hHd : HoldsK encT 2 (SWt w1 g q' dk os') g 0 dk := holdsK_sortWorldK_c encT 2 w1 g 0 d.toArray dk q' os' HG.out.2.2.2.2.1 hgs (by rw [hds]; simp [hd])
   obtain ⟨x, hx⟩ : ∃ x, x = dk[i]! := ⟨_, rfl⟩
   have l0 : (SWt w1 g q' dk os').cell? ⟨g, i * 2, none⟩ = some (.string ⟨x.1.toArray⟩) := by
    have := (HoldsK.cell hHd (i := i) (c := 0) (by omega) (by decide)).1
    rwa [← hx, Nat.zero_add, Nat.add_zero] at this
   have l1 : (SWt w1 g q' dk os').cell? ⟨g, i * 2 + 1, none⟩ = some (.string ⟨x.2.toArray⟩) := by
    have := (HoldsK.cell hHd (i := i) (c := 1) (by omega) (by decide)).1
    rwa [← hx, Nat.zero_add] at this
   have HX := hidN hx
   have HDS := hidN hds
   have HH := hidN hHd
   have HGS := hidN hgs
   obtain ⟨wr, hwr⟩ : ∃ wr, wr = SWt w1 g q' dk os' := ⟨_, rfl⟩
   rw [← hwr] at l0 l1 ⊢
   have HW := hidN hwr
   obtain ⟨x1, x2⟩ := x
   simp only at l0 l1
   clear hx hds hHd hgs hwr
   go_wp2_with fail
   obtain ⟨wX, hwX⟩ : ∃ wX, wX = (wr.alloc (.cells #[.string ⟨x1.toArray⟩, .string ⟨x2.toArray⟩] 39)).drew := ⟨_, rfl⟩
   have hX : wX = SWt w1 g (q' + 1) dk (os' ++ #[.cells #[.string ⟨x1.toArray⟩, .string ⟨x2.toArray⟩] 39]) := by
    rw [hwX, HW.out, ← SWt.grown, alloc_eq_grow]
    rfl
   have b0 : wX.cell? ⟨wr.heap.size, 0, none⟩ = some (.string ⟨x1.toArray⟩) := by rw [hwX]; go_simp
   have b1 : wX.cell? ⟨wr.heap.size, 1, none⟩ = some (.string ⟨x2.toArray⟩) := by rw [hwX]; go_simp
   have hHX : HoldsK encT 2 wX g 0 dk := by
    rw [hX]
    exact holdsK_sortWorldK_c encT 2 w1 g 0 d.toArray dk _ _ HG.out.2.2.2.2.1 HGS.out (by rw [HDS.out]; simp [hd])
   clear l0 l1
   have HM2 := hidN HM.out
   have hnn : nn ≤ i := HM2.out.1
   have hHX2 := hHX
   have k0 := (HoldsK.cell hHX (i := nn) (c := 0) (by rw [HDS.out]; omega) (by decide))
   have k1 := (HoldsK.cell hHX (i := nn) (c := 1) (by rw [HDS.out]; omega) (by decide))
   rw [Nat.zero_add, Nat.add_zero] at k0
   rw [Nat.zero_add] at k1
   obtain ⟨k00, k01⟩ := k0
   obtain ⟨k10, k11⟩ := k1
   have HHX := hidN hHX
   clear hHX hHX2
   have hnnz : (nn : Int) < (m : Int) := by omega
   generalize wr.heap.size = nb at *
   by_cases h0 : i = 0
   ·have hiz : (i : Int) = 0 := by omega
    have H0 := hidN h0
    clear h0
    refine region_plain (fun W => W.cell? ⟨nb, 0, none⟩ = some (.string ⟨x1.toArray⟩) ∧ W.cell? ⟨nb, 1, none⟩ = some (.string ⟨x2.toArray⟩)) 99 (by kernel_rfl) ?_
    rw [← hwX]
    have hS : wX.cell? ⟨nb, 0, none⟩ = some (.string ⟨x1.toArray⟩) ∧ wX.cell? ⟨nb, 1, none⟩ = some (.string ⟨x2.toArray⟩) := ⟨b0, b1⟩
    have HwX := hidN hwX
    have HX' := hidN hX
    clear hwX hX
    rw [hiz]
    refine z_t 0 (v := ?_) hS ?_ ?_
    rotate_left
    ·(rintro wS ⟨s0, s1⟩; go_simp <;> with_reducible rfl)
    simp only [Act.put, List.setIfInBounds_toArray, List.set_cons_zero, List.set_cons_succ]
    refine z_t 1 (v := ?_) hS ?_ ?_
    rotate_left
    ·(rintro wS ⟨s0, s1⟩; go_simp <;> with_reducible rfl)
    simp only [Act.put, List.setIfInBounds_toArray, List.set_cons_zero, List.set_cons_succ]
    refine z_t 2 (v := ?_) hS ?_ ?_
    rotate_left
    ·(rintro wS ⟨s0, s1⟩; go_simp <;> with_reducible rfl)
    simp only [Act.put, List.setIfInBounds_toArray, List.set_cons_zero, List.set_cons_succ]
    refine z_take (i := 3) (v := undef) rfl (by kernel_rfl) (by kernel_rfl) (by kernel_rfl) (by kernel_rfl) (fun _ _ _ h => h) (Or.inr ⟨by rfl, rfl⟩) hS ?_
    simp only [Act.put, List.getElem_toArray, List.getElem_cons_zero, List.getElem_cons_succ, List.setIfInBounds_toArray, List.set_cons_zero, List.set_cons_succ]
    refine z_take (i := 4) (v := undef) rfl (by kernel_rfl) (by kernel_rfl) (by kernel_rfl) (by kernel_rfl) (fun _ _ _ h => h) (Or.inr ⟨by rfl, rfl⟩) hS ?_
    simp only [Act.put, List.getElem_toArray, List.getElem_cons_zero, List.getElem_cons_succ, List.setIfInBounds_toArray, List.set_cons_zero, List.set_cons_succ]
    refine z_take (i := 5) (v := undef) rfl (by kernel_rfl) (by kernel_rfl) (by kernel_rfl) (by kernel_rfl) (fun _ _ _ h => h) (Or.inr ⟨by rfl, rfl⟩) hS ?_
    simp only [Act.put, List.getElem_toArray, List.getElem_cons_zero, List.getElem_cons_succ, List.setIfInBounds_toArray, List.set_cons_zero, List.set_cons_succ]
    refine z_take (i := 6) (v := undef) rfl (by kernel_rfl) (by kernel_rfl) (by kernel_rfl) (by kernel_rfl) (fun _ _ _ h => h) (Or.inr ⟨by rfl, rfl⟩) hS ?_
    simp only [Act.put, List.getElem_toArray, List.getElem_cons_zero, List.getElem_cons_succ, List.setIfInBounds_toArray, List.set_cons_zero, List.set_cons_succ]
    refine z_take (i := 7) (v := undef) rfl (by kernel_rfl) (by kernel_rfl) (by kernel_rfl) (by kernel_rfl) (fun _ _ _ h => h) (Or.inr ⟨by rfl, rfl⟩) hS ?_
    simp only [Act.put, List.getElem_toArray, List.getElem_cons_zero, List.getElem_cons_succ, List.setIfInBounds_toArray, List.set_cons_zero, List.set_cons_succ]
    refine z_take (i := 8) (v := undef) rfl (by kernel_rfl) (by kernel_rfl) (by kernel_rfl) (by kernel_rfl) (fun _ _ _ h => h) (Or.inr ⟨by rfl, rfl⟩) hS ?_
    simp only [Act.put, List.getElem_toArray, List.getElem_cons_zero, List.getElem_cons_succ, List.setIfInBounds_toArray, List.set_cons_zero, List.set_cons_succ]
    refine z_take (i := 9) (v := undef) rfl (by kernel_rfl) (by kernel_rfl) (by kernel_rfl) (by kernel_rfl) (fun _ _ _ h => h) (Or.inr ⟨by rfl, rfl⟩) hS ?_
    simp only [Act.put, List.getElem_toArray, List.getElem_cons_zero, List.getElem_cons_succ, List.setIfInBounds_toArray, List.set_cons_zero, List.set_cons_succ]
    refine z_t 10 (v := ?_) hS ?_ ?_
    rotate_left
    ·(rintro wS ⟨s0, s1⟩; go_simp <;> with_reducible rfl)
    simp only [Act.put, List.setIfInBounds_toArray, List.set_cons_zero, List.set_cons_succ]
    refine z_done (by kernel_rfl) ?_ _
    clear hS
    go_wp2_with fail
    have h0 := H0.out
    go_roundg (m - (i + 1))
    ·refine ⟨i + 1, nn + 1, dk.setIfInBounds nn dk[i]!, q' + 1, os' ++ #[.cells #[.string ⟨x1.toArray⟩, .string ⟨x2.toArray⟩] 39], by rw [Int.natCast_add]; rfl, by rw [h0]; rfl, by omega, rfl, ?_, (HM2.out).push (by rw [HD.out.1]; omega) (by rw [h0]; exact Mid.first)⟩
     rw [HX'.out, ← HX.out, ← SWt.store HGS.out (by rw [HDS.out]; omega) (x1, x2), Nat.zero_add]
     rfl
    all_goals omega
   ·have HwX := hidN hwX
    have HX' := hidN hX
    clear hwX hX
    obtain ⟨hn1, hlast⟩ := HM2.out.last (by rw [HD.out.1]; omega) (by omega)
    have HLast := hidN hlast
    clear hlast
    obtain ⟨y, hy⟩ : ∃ y, y = dk[nn - 1]! := ⟨_, rfl⟩
    have p0 := (HoldsK.cell HHX.out (i := nn - 1) (c := 0) (by rw [HDS.out]; omega) (by decide)).1
    have p1 := (HoldsK.cell HHX.out (i := nn - 1) (c := 1) (by rw [HDS.out]; omega) (by decide)).1
    rw [← hy, Nat.zero_add, Nat.add_zero] at p0
    rw [← hy, Nat.zero_add] at p1
    have HY := hidN hy
    clear hy
    have ne := fun w => tag_ne (x1, x2) y w
    obtain ⟨y1, y2⟩ := y
    simp only at ne
    obtain ⟨n1, rfl⟩ : ∃ n1, nn = n1 + 1 := ⟨nn - 1, by omega⟩
    rw [Nat.add_sub_cancel] at p0 p1
    have p0 : wX.cell? ⟨g, n1 * 2, none⟩ = some (.string ⟨y1.toArray⟩) := p0
    have p1 : wX.cell? ⟨g, n1 * 2 + 1, none⟩ = some (.string ⟨y2.toArray⟩) := p1
    have hiz : ((i : Int) == 0) = false := beq_eq_false_iff_ne.2 (by omega)
    have hn1b : (n1 : Int) < (m : Int) := by omega
    have hwr1 : IntKind.i64.wrap (n1 : Int) = n1 := by simp [IntKind.wrap, IntKind.bits, IntKind.signed]; omega
    refine region_plain (fun W => W.cell? ⟨nb, 0, none⟩ = some (.string ⟨x1.toArray⟩) ∧ W.cell? ⟨nb, 1, none⟩ = some (.string ⟨x2.toArray⟩) ∧ W.cell? ⟨g, n1 * 2, none⟩ = some (.string ⟨y1.toArray⟩) ∧ W.cell? ⟨g, n1 * 2 + 1, none⟩ = some (.string ⟨y2.toArray⟩)) 99 (by kernel_rfl) ?_
    rw [← HwX.out]
    have hS : wX.cell? ⟨nb, 0, none⟩ = some (.string ⟨x1.toArray⟩) ∧ wX.cell? ⟨nb, 1, none⟩ = some (.string ⟨x2.toArray⟩) ∧ wX.cell? ⟨g, n1 * 2, none⟩ = some (.string ⟨y1.toArray⟩) ∧ wX.cell? ⟨g, n1 * 2 + 1, none⟩ = some (.string ⟨y2.toArray⟩) := ⟨b0, b1, p0, p1⟩
    refine z_t 0 (v := ?_) hS ?_ ?_
    rotate_left
    ·(rintro wS ⟨s0, s1, s2, s3⟩; go_simp <;> with_reducible rfl)
    simp only [Act.put, List.setIfInBounds_toArray, List.set_cons_zero, List.set_cons_succ]
    refine z_t 1 (v := ?_) hS ?_ ?_
    rotate_left
    ·(rintro wS ⟨s0, s1, s2, s3⟩; go_simp <;> with_reducible rfl)
    simp only [Act.put, List.setIfInBounds_toArray, List.set_cons_zero, List.set_cons_succ]
    refine z_t 2 (v := ?_) hS ?_ ?_
    rotate_left
    ·(rintro wS ⟨s0, s1, s2, s3⟩; go_simp <;> with_reducible rfl)
    simp only [Act.put, List.setIfInBounds_toArray, List.set_cons_zero, List.set_cons_succ]
    refine z_t 3 (v := ?_) hS ?_ ?_
    rotate_left
    ·(rintro wS ⟨s0, s1, s2, s3⟩; go_simp <;> with_reducible rfl)
    simp only [Act.put, List.setIfInBounds_toArray, List.set_cons_zero, List.set_cons_succ]
    refine z_t 4 (v := ?_) hS ?_ ?_
    rotate_left
    ·(rintro wS ⟨s0, s1, s2, s3⟩; go_simp <;> with_reducible rfl)
    simp only [Act.put, List.setIfInBounds_toArray, List.set_cons_zero, List.set_cons_succ]
    refine z_t 5 (v := ?_) hS ?_ ?_
    rotate_left
    ·(rintro wS ⟨s0, s1, s2, s3⟩; go_simp <;> with_reducible rfl)
    simp only [Act.put, List.setIfInBounds_toArray, List.set_cons_zero, List.set_cons_succ]
    refine z_t 6 (v := ?_) hS ?_ ?_
    rotate_left
    ·(rintro wS ⟨s0, s1, s2, s3⟩; go_simp <;> with_reducible rfl)
    simp only [Act.put, List.setIfInBounds_toArray, List.set_cons_zero, List.set_cons_succ]
    refine z_t 7 (v := ?_) hS ?_ ?_
    rotate_left
    ·(rintro wS ⟨s0, s1, s2, s3⟩; go_simp <;> with_reducible rfl)
    simp only [Act.put, List.setIfInBounds_toArray, List.set_cons_zero, List.set_cons_succ]
    refine z_t 8 (v := ?_) hS ?_ ?_
    rotate_left
    ·(rintro wS ⟨s0, s1, s2, s3⟩; go_simp <;> with_reducible rfl)
    simp only [Act.put, List.setIfInBounds_toArray, List.set_cons_zero, List.set_cons_succ]
    refine z_t 9 (v := ?_) hS ?_ ?_
    rotate_left
    ·(rintro wS ⟨s0, s1, s2, s3⟩; go_simp <;> with_reducible rfl)
    simp only [Act.put, List.setIfInBounds_toArray, List.set_cons_zero, List.set_cons_succ]
    refine z_t 10 (v := ?_) hS ?_ ?_
    rotate_left
    ·(rintro wS ⟨s0, s1, s2, s3⟩; go_simp <;> with_reducible rfl)
    simp only [Act.put, List.setIfInBounds_toArray, List.set_cons_zero, List.set_cons_succ]
    refine z_done (by kernel_rfl) ?_ _
    clear hS ne
    obtain ⟨bb, hbb⟩ : ∃ bb, bb = (!decide (x1 = y1) || !decide (x2 = y2)) := ⟨_, rfl⟩
    rw [← hbb]
    have HB := hidN hbb
    clear hbb
    have hilt : i < d'.length := by rw [HD.out.1]; omega
    cases bb with
    | true =>
     have hne : (x1, x2) ≠ (y1, y2) := fun e => by
      have e1 : x1 = y1 := congrArg Prod.fst e
      have e2 : x2 = y2 := congrArg Prod.snd e
      have := HB.out
      simp [e1, e2] at this
     have HNE := hidN hne
     clear hne
     go_wp2_with fail
     go_roundg (m - (i + 1))
     ·refine ⟨i + 1, n1 + 1 + 1, dk.setIfInBounds (n1 + 1) dk[i]!, q' + 1, os' ++ #[.cells #[.string ⟨x1.toArray⟩, .string ⟨x2.toArray⟩] 39], by rw [Int.natCast_add, Int.natCast_add]; rfl, by rw [Int.natCast_add]; rfl, by omega, rfl, ?_, (HM2.out).push hilt (by rw [HLast.out]; intro e; exact HNE.out (HX.out.trans ((Option.some.inj e).symm.trans HY.out.symm)))⟩
      rw [HX'.out, ← HX.out, ← SWt.store HGS.out (by rw [HDS.out]; omega) (x1, x2), Nat.zero_add]
      rfl
     all_goals omega
    | false =>
     have he : (x1, x2) = (y1, y2) := by
      have := HB.out
      simp only [Bool.false_eq, Bool.or_eq_false_iff, Bool.not_eq_false', decide_eq_true_iff] at this
      rw [this.1, this.2]
     have HE := hidN he
     clear he
     go_wp2_with fail
     go_roundg (m - (i + 1))
     ·exact ⟨i + 1, n1 + 1, dk, q' + 1, os' ++ #[.cells #[.string ⟨x1.toArray⟩, .string ⟨x2.toArray⟩] 39], by first | rfl | (rw [Int.natCast_add]; rfl), by first | rfl | (rw [Int.natCast_add]; rfl), by omega, rfl, HX'.out, (HM2.out).keep hilt (by rw [HLast.out, ← HY.out, ← HE.out, HX.out])⟩
     all_goals omega
  ·have hge : ¬ (i : Int) < (m : Int) := by omega
   obtain rfl : i = m := by omega
   have hnn : nn ≤ i := HM.out.1
   have hnnz : (nn : Int) ≤ (cap' : Int) := by have := HG.out.2.2.1; omega
   obtain ⟨wr, hwr⟩ : ∃ wr, wr = SWt w1 g q' dk os' := ⟨_, rfl⟩
   rw [← hwr]
   have HW := hidN hwr
   clear hwr
   go_wp2_with (go_at_call 131; refine (clip_calls g nn cap' _ (by omega)).mono ?_; rintro e w5 ⟨rfl, rfl⟩)
   go_ret
   exact ⟨g, cur, nn, dk, w1, q', os', d', rfl, HG.out.1, HG.out.2.1, by have := HG.out.2.2.1; have := HG.out.2.2.2.1; omega, HG.out.2.2.2.2.2, HW.out, HD.out.2.1, HD.out.2.2, HM.out⟩

theorem norm_calls : NormC normV := fun w V L hrow h1 h2 => by
 obtain ⟨b, o, cap, c, fz, _, rfl, hcap, hsz, hb, hc⟩ := hrow
 have hcl := clone_tags (w := w) (b := b) (o := o) (n := L.length) (cap := cap) (d := L.map tagOf) (by simp) h2 (fun i j v hv hj => by
  rw [List.getElem?_map] at hv
  cases hi : L[i]? with
  | none => rw [hi] at hv; cases hv
  | some x =>
   rw [hi] at hv
   simp only [Option.map_some, Option.bind_some] at hv
   have hlt : i < L.length := (List.getElem?_eq_some_iff.1 hi).1
   have hx : L.getD i (.i 0) = x := by rw [List.getD_eq_getElem?_getD, hi]; rfl
   have hcell : w.cell? ⟨b, o + (i * 2 + j), none⟩ = c[o + (i * 2 + j)]? := by simp [World.cell?, hb]
   rw [hcell]
   match j, hj with
   | 0, _ =>
    have := hc i 0 .str hlt rfl
    rw [hx] at this
    rw [show tagTys.length = 2 from rfl] at this
    rw [this, ← hv]
    rfl
   | 1, _ =>
    have := hc i 1 .str hlt rfl
    rw [hx] at this
    rw [show tagTys.length = 2 from rfl] at this
    rw [this, ← hv]
    rfl)
 refine (norm_walk w b o cap L.length (L.map tagOf) (by simp) h1 h2 hcl).mono ?_
 rintro e w' ⟨g, cur, nn, dk, w1, q, os, d', rfl, hg, hcur, hsz2, hbelow, rfl, hp, hs, hm⟩
 have hlen : d'.length = L.length := by rw [hp.length_eq]; simp
 obtain ⟨m1, m2, m3, m4⟩ := hm
 have hN : (normV (.l L)).toL = (dk.toList.take nn).map tagV := by
  show (normP (L.map tagOf)).map tagV = _
  rw [normP_eq hp hs, m3, ← hlen, List.take_length]
 have hl : (normV (.l L)).toL.length = nn := by rw [hN]; simp; omega
 have hgs : g < w1.heap.size := (Array.getElem?_eq_some_iff.1 hcur).1
 refine ⟨_, rfl, ⟨g, 0, nn, _, (0, 0), hg, by rw [hl], by rw [hl]; exact Nat.le_refl _, ?_, SWt.block hcur, ?_⟩, (kp_of_below hbelow).trans (SWt.kp hg)⟩
 ·simp [putCells, tagTys]
  omega
 ·intro i j y hi hj
  rw [hl] at hi
  have hdi : i < dk.size := by omega
  have hx : (normV (.l L)).toL.getD i (.i 0) = tagV dk[i]! := by
   rw [hN, List.getD_eq_getElem?_getD, List.getElem?_map, List.getElem?_take_of_lt hi, Array.getElem?_toList, Array.getElem?_eq_getElem hdi, getElem!_pos dk i hdi]
   rfl
  rw [hx, show tagTys.length = 2 from rfl, Nat.zero_add]
  match j, hj with
  | 0, hj =>
   cases hj
   rw [putCells_get hdi (by decide) (by omega)]
   rfl
  | 1, hj =>
   cases hj
   rw [putCells_get hdi (by decide) (by omega)]
   rfl
end Go.Eng

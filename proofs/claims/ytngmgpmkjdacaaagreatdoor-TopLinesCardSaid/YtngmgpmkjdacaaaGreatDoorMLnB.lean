/-
 A range over a function whose iterator keeps its state in a box of its own; and regions that draw their order within a round. The iterator over the pieces of a chunk, each behind a line feed. An append to bytes without room: into a new block, or nothing at all; and an append of a line. What stands within a round of Feed.
-/
import Derived.Test.YtngmgpmkjdacaaaGreatDoorMLnA
import Derived.RangeFuncNested
import Derived.RangeFuncBound
import Derived.RangeFuncCalls
import Derived.RangeFuncLeaves
import Derived.Shelf.Abstract
import Derived.Shelf.RegionOpen
import Derived.OwnWalkIn
import Derived.TacticsInMore
import Derived.LoopNIn
import Derived.LoopIn
import Derived.OrdersHeld
import Derived.OrdersIn
set_option linter.unusedSimpArgs false
set_option linter.unusedVariables false
namespace Go.Proofs.YtngmgpmkjdacaaaGreatDoor
set_option maxRecDepth 100000
open Go.RowKit

/-- No operation here defers. -/
def noDefer (ops : Array Oper) : Bool := ops.all fun o => match o.op with | .defer _ => false | _ => true

theorem oper_round {P : Program} {n l : Nat} {o : Oper} {a : Act} {w : World} {K : Act → World → Prop} {Q : Exit → Act → World → Prop} (hd : ∀ c, o.op ≠ .defer c) (h : o.wp P a w K Q) : o.wpIn (Fence.wide.inRound l) n P a w K Q := by
 refine ⟨fun _ _ => trivial, ?_⟩
 rw [show (Fence.wide.inRound l).round = some l from rfl, Oper.semAt_some l _ _ hd]
 unfold Oper.wp at h
 revert h
 generalize (execOp a.eval o).run P w = r
 intro h
 cases r with
 | ok x w' =>
  cases x <;> first
   | exact h
   | exact ⟨fun e => (by cases e), CallsIn.inRound l (callsIn_wide.2 h)⟩
   | exact ⟨fun e => (by cases e), fun c cs _ => let ⟨v, w2, r2, s⟩ := h c cs; ⟨v, w2, r2, stepsIn_wide.2 s⟩⟩
   | exact h.elim
 | halt x w' => cases x <;> first | exact h | exact h.elim

/-- What serves outside of a round serves within. -/
theorem any_round {P : Program} {n l : Nat} {md : Region.Mode} {ops : Array Oper} {Q : Exit → Act → World → Prop} (hd : noDefer ops = true) (hQ : ¬ LetsOut Q) :
  ∀ (fuel : Nat) (listed : Array Bool) (a : Act) (w : World), wpAny P md ops Q fuel listed a w → wpAnyIn (Fence.wide.inRound l) n P md ops Q fuel listed a w
 | 0, _, _, _, h => h
 | fuel + 1, listed, a, w, h => by
  refine ⟨h.1, fun i hi => ?_⟩
  have h2 := h.2 i hi
  unfold wpOp at h2
  unfold wpOpIn
  cases ho : ops[i]? with
  | none => rw [ho] at h2; exact any_round hd hQ fuel _ _ _ h2
  | some o =>
   rw [ho] at h2
   dsimp only at h2 ⊢
   split
   ·rename_i hw
    rw [if_pos hw] at h2
    have hnd : ∀ c, o.op ≠ .defer c := by
     intro c hc
     obtain ⟨hi2, he⟩ := Array.getElem?_eq_some_iff.1 ho
     have := Array.all_eq_true.1 hd i hi2
     rw [he, hc] at this
     cases this
    rcases h2 with h2 | ⟨_, h2⟩
    ·exact Oper.wpIn_mono (fun a' w' h' => any_round hd hQ fuel _ _ _ h') (oper_round hnd h2)
    ·exact (hQ h2).elim
   ·rename_i hw
    rw [if_neg hw] at h2
    exact ⟨fun _ _ => trivial, any_round hd hQ fuel _ _ _ h2⟩

section
variable {P : Program} {md : Region.Mode} {ops : Array Oper} {Q : Exit → Act → World → Prop} {S : World → Prop} {z : Nat}
/-- Whatever order is picked from here on, and S holds behind every operation but number z. -/
def wpAnyZ (P : Program) (md : Region.Mode) (ops : Array Oper) (Q : Exit → Act → World → Prop) (S : World → Prop) (z : Nat) : Nat → Array Bool → Act → World → Prop
 | 0, listed, a, w => Region.ready md ops listed = [] ∧ Q .normal a w
 | fuel + 1, listed, a, w => (Region.ready md ops listed = [] → Q .normal a w) ∧
  ∀ i ∈ Region.ready md ops listed, wpOp P ops Q i (fun a' w' => (i = z ∨ S w') ∧ wpAnyZ P md ops Q S z fuel (listed.setIfInBounds i true) a' w') a w

theorem any_of_z : ∀ (fuel : Nat) (listed : Array Bool) (a : Act) (w : World), wpAnyZ P md ops Q S z fuel listed a w → wpAny P md ops Q fuel listed a w
 | 0, _, _, _, h => h
 | fuel + 1, _, _, _, h => ⟨h.1, fun i hi => wpOp_mono (fun a' w' h' => any_of_z fuel _ a' w' h'.2) (h.2 i hi)⟩

/-- Number z waits for number i. -/
def waits (md : Region.Mode) (ops : Array Oper) (z i : Nat) : Bool := match ops[z]? with
 | some o => o.after.any fun e => Region.binds md e && e.on == i
 | none => true

theorem not_ready {i : Nat} {listed : Array Bool} (hz : waits md ops z i = true) (hi : i ∈ Region.ready md ops listed) : z ∉ Region.ready md ops listed := by
 intro h
 obtain ⟨_, o, ho, hall⟩ := mem_ready.1 h
 unfold waits at hz
 rw [ho] at hz
 obtain ⟨e, he, hb⟩ : ∃ e ∈ o.after, (Region.binds md e && e.on == i) = true := by
  obtain ⟨k, hk, h⟩ := Array.any_eq_true.1 hz
  exact ⟨_, Array.getElem_mem hk, h⟩
 rw [Bool.and_eq_true, beq_iff_eq] at hb
 have h1 := hall e he hb.1
 have h0 := (mem_ready.1 hi).1
 rw [hb.2] at h1
 rcases Nat.lt_or_ge i listed.size with h' | h'
 ·simp [h'] at h0 h1
  rw [h0] at h1
  cases h1
 ·simp [Array.getElem?_eq_none h'] at h1

theorem z_first {i : Nat} {oi : Oper} {v : Value} (hi : ops[i]? = some oi) (hsel : ∀ (j : Nat) (o : Oper) cs b, ops[j]? = some o → o.op ≠ .select cs b)
  (hQ : ∀ c a w, Q (.panic c) (a.put oi.dst v) w → Q (.panic c) a w) (hz : waits md ops z i = true) : ∀ (fuel : Nat) (listed : Array Bool) (a : Act) (w : World),
   (∀ j oj, ops[j]? = some oj → j ≠ i → listed.getD j true = false → (∀ e ∈ oj.after, Region.binds md e = true → e.on ≠ i) → oi.apart ops oj = true) →
   i ∈ Region.ready md ops listed → YieldsIf P ops S oi v a → S w →
   wpAnyZ P md ops Q S z fuel (listed.setIfInBounds i true) (a.put oi.dst v) w → wpAnyZ P md ops Q S z (fuel + 1) listed a w := by
 intro fuel
 induction fuel with
 | zero =>
  intro listed a w _ hr hy hS H
  refine ⟨fun h => absurd hr (by rw [h]; simp), fun j hj => ?_⟩
  by_cases hji : j = i
  ·subst hji
   exact hy.wpOp hi hS ⟨.inr hS, H⟩
  ·have := ready_mono hj hji
   rw [H.1] at this
   cases this
 | succ fuel ih =>
  intro listed a w hfree hr hy hS H
  refine ⟨fun h => absurd hr (by rw [h]; simp), fun j hj => ?_⟩
  by_cases hji : j = i
  ·subst hji
   exact hy.wpOp hi hS ⟨.inr hS, H⟩
  ·have hjz : j ≠ z := fun e => not_ready hz hr (e ▸ hj)
   obtain ⟨hjun, oj, hoj, hall⟩ := mem_ready.1 hj
   have hnot : ∀ e ∈ oj.after, Region.binds md e = true → e.on ≠ i := fun e he hb heq => by
    have h1 := hall e he hb
    have h0 := (mem_ready.1 hr).1
    rw [heq] at h1
    rcases Nat.lt_or_ge i listed.size with h' | h'
    ·simp [h'] at h0 h1; rw [h0] at h1; cases h1
    ·simp [Array.getElem?_eq_none h'] at h1
   refine wpOp_mono (fun a' w' h3 => ?_) (wpOp_putIf hoj (hfree j oj hoj hji hjun hnot) (fun cs b => hsel i oi cs b hi) (fun cs b => hsel j oj cs b hoj) hQ hy (H.2 j (ready_mono hj hji)))
   have hS' := h3.2.1.resolve_left hjz
   refine ⟨.inr hS', ih (listed.setIfInBounds j true) a' w' (fun k ok hk hki hun hno => hfree k ok hk hki ?_ hno) (ready_mono hr (Ne.symm hji)) h3.1 hS' ?_⟩
   ·by_cases hjk : j = k
    ·subst hjk; exact hjun
    ·rwa [getD_set_ne true hjk] at hun
   ·rw [Array.setIfInBounds_comm _ _ hji]
    exact h3.2.2

theorem z_take {i : Nat} {oi : Oper} {v : Value} {fuel : Nat} {listed : Array Bool} {a : Act} {w : World} (hi : ops[i]? = some oi)
  (hs : Region.noSelect ops = true) (hf : Region.free md ops listed i = true) (hr : (Region.ready md ops listed).contains i = true) (hz : waits md ops z i = true)
  (hQ : ∀ c a w, Q (.panic c) (a.put oi.dst v) w → Q (.panic c) a w) (hy : YieldsIf P ops S oi v a) (hS : S w)
  (h : wpAnyZ P md ops Q S z fuel (listed.setIfInBounds i true) (a.put oi.dst v) w) : wpAnyZ P md ops Q S z (fuel + 1) listed a w :=
 z_first hi (Region.noSelect_spec hs) hQ hz fuel listed a w (Region.free_spec hi hf) (by simpa using hr) hy hS h

/-- One operation alone may come up. -/
theorem z_one {i : Nat} {oi : Oper} {fuel : Nat} {listed : Array Bool} {a : Act} {w : World} (hr : Region.ready md ops listed = [i]) (hi : ops[i]? = some oi) (hg : oi.guard = none)
  (h : oi.wp P a w (fun a' w' => (i = z ∨ S w') ∧ wpAnyZ P md ops Q S z fuel (listed.setIfInBounds i true) a' w') Q) : wpAnyZ P md ops Q S z (fuel + 1) listed a w := by
 refine ⟨fun h0 => (by rw [h0] at hr; cases hr), fun j hj => ?_⟩
 rw [hr] at hj
 obtain rfl : j = i := by simpa using hj
 unfold wpOp
 rw [hi]
 dsimp only
 rw [if_pos (by simp [Region.wanted, hg])]
 exact .inl h

theorem z_done {listed : Array Bool} {a : Act} {w : World} (hr : Region.ready md ops listed = []) (h : Q .normal a w) : ∀ fuel, wpAnyZ P md ops Q S z fuel listed a w
 | 0 => ⟨hr, h⟩
 | _ + 1 => ⟨fun _ => h, by rw [hr]; simp⟩
end

/-- an operation of a list, by its number -/
def nthO : Nat → List Oper → Option Oper
 | _, [] => none
 | 0, o :: _ => some o
 | n + 1, _ :: l => nthO n l
theorem nthO_eq : ∀ (i : Nat) (l : List Oper), nthO i l = l[i]?
 | 0, [] => rfl
 | _ + 1, [] => rfl
 | 0, _ :: _ => rfl
 | n + 1, _ :: l => by rw [List.getElem?_cons_succ]; exact nthO_eq n l
/-- 'z_take' of an operation that its guard lets by, the closed facts by themselves -/
theorem z_t {P : Program} {md : Region.Mode} {ops : Array Oper} {Q : Exit → Act → World → Prop} {S : World → Prop} {z : Nat} (i : Nat) {oi : Oper} {v : Value} {fuel : Nat} {listed : Array Bool} {a : Act} {w : World} (hS : S w)
  (hy : ∀ w, S w → (execOp a.eval oi).run P w = .ok (.value v) w) (h : wpAnyZ P md ops Q S z fuel (listed.setIfInBounds i true) (a.put oi.dst v) w) (hi : nthO i ops.toList = some oi := by rfl)
  (hb : (Region.noSelect ops && (Region.free md ops listed i && ((Region.ready md ops listed).contains i && waits md ops z i))) = true := by kernel_rfl)
  (hQ : ∀ c a w, Q (.panic c) (a.put oi.dst v) w → Q (.panic c) a w := by exact fun _ _ _ h => h) (hw : Region.wanted oi (yielded ops a.tmps) = true := by rfl) : wpAnyZ P md ops Q S z (fuel + 1) listed a w := by
 simp only [Bool.and_eq_true] at hb
 exact z_take (by rw [← hi, nthO_eq, Array.getElem?_toList]) hb.1 hb.2.1 hb.2.2.1 hb.2.2.2 hQ (.inl ⟨hw, hy⟩) hS h

theorem region_round {P : Program} {n l id : Nat} {ops : Array Oper} {Q : Exit → Act → World → Prop} (S : World → Prop) (z : Nat) {a : Act} {w : World} (hm : P.follows .mixedOrders = true) (hd : noDefer ops = true) (hQ : ¬ LetsOut Q)
  (h : wpAnyZ P .any ops Q S z ops.size (Array.replicate ops.size false) a w.drew) : (Code.region id ops true).wpIn (Fence.wide.inRound l) n P Q a w :=
 wpIn_region_any hm (any_round hd hQ _ _ _ _ (any_of_z _ _ _ _ h))

theorem wp_append_run {P : Program} {o : Oper} {a : Act} {w w' : World} {K : Act → World → Prop} {Q : Exit → Act → World → Prop} {s x : Operand} {t : TypeId} (ho : o.op = .call { callee := .builtin .append, args := #[s, x], argTypes := #[t, t] })
  {vs vx v' : Value} (hs : a.eval s = vs) (hx : a.eval x = vx) (hrun : (Builtin.append_ #[t, t] o.type #[vs, vx]).run P w = .ok v' w') (hK : K (a.put o.dst v') w') : o.wp P a w K Q := by
 unfold Oper.wp
 simp [execOp, ho, resolve, invoke, builtin, hs, hx, hrun, Result.andThen]
 exact hK

/-- The contract of an iterator that keeps its state in a box: block c. -/
def SeqBox {α : Type} (P : Program) (g : Nat) (lb : Array Value) (encs : α → Array Value) (Kp : World → World → Prop) (Ok : List α → α → World → Prop) (S : List α → Prop) (c : Nat) (w : World) : Prop :=
 ∀ (l : Nat) (J : List α → World → Prop) (W : World), Below w.heap.size w W → AbidesFrom W.heap.size J → (∀ s X v, J s X → J s (X.setCell ⟨c, 0, none⟩ v)) →
  (∀ pre x W1, J pre W1 → Ok pre x W1 → YieldAt Fence.wide 1 P l (encs x) W1 fun e W' => e = .returned (.bool true) ∧ J (pre ++ [x]) W' ∧ Kp W1 W') →
  J [] W → CallsIn Fence.wide 2 P g (#[.func (.yield l) #[] #[]] ++ lb) W fun e W' => (∃ v, e = .returned v) ∧ ∃ xs, S xs ∧ J xs W'

/-- What the body of such a round owes. -/
def boxPost {α : Type} (B : Nat) (Kp : World → World → Prop) (I : List α → World → Prop) (xs : List α) (W : World) : Exit → Act → World → Prop
 | .normal, _, W' => KeepsFrom B W W' ∧ Kp W W' ∧ I xs W'
 | _, _, _ => False

theorem wpIn_rangeFunc_box {α : Type} {P : Program} {w : World} {g : Operand} {ps : Array Tmp} {assign body : Code} {Q : Exit → Act → World → Prop} {a : Act}
  {gf : Nat} {lb : Array Value} (hg : a.eval g = .func (.func gf) #[] lb) (eg : ∀ args w, (callFunc gf args).run P w = .ok (.enter gf args) w)
  {encs : α → Array Value} {Kp : World → World → Prop} {Ok : List α → α → World → Prop} {S : List α → Prop} {c : Nat} {w0 : World} (hseq : SeqBox P gf lb encs Kp Ok S c w0) (hc : c < w.heap.size)
  (hKt : ∀ {A B C : World}, Kp A B → Kp B C → Kp A C) (hKb : ∀ (W : World) (l : Nat) (o' : Obj), w.heap.size ≤ l → Kp W (W.putObj l o')) (hb0 : Below w0.heap.size w0 w) (hps : ∀ x, (encs x).size = ps.size)
  (hOk : ∀ pre x W l o o', Ok pre x W → W.heap[l]? = some o → o.isCells = false → Ok pre x (W.putObj l o'))
  (I : List α → World → Prop) (hI : OwnFrom w.heap.size I) (hIc : ∀ s X v, I s X → I s (X.setCell ⟨c, 0, none⟩ v)) (h0 : I [] w) (a₁ : α → Act)
  (hassign : ∀ (l : Nat) (x : α) (W : World) (K : Act → World → Prop), K (a₁ x) W →
   assign.wpIn (Fence.wide.inRound l) 1 P (Exit.then K (fun _ _ _ => False)) { tmps := (ps.zip (encs x)).foldl (fun t (p, v) => t.setIfInBounds p v) a.tmps, defers := [] } W)
  (hbody : ∀ (l : Nat) (pre : List α) (x : α) (W : World), I pre W → Ok pre x W → body.wpIn (Fence.wide.inRound l) 1 P (boxPost w.heap.size Kp I (pre ++ [x]) W) (a₁ x) W)
  (hdone : ∀ (D : Nat) (xs : List α) (W : World), w.heap.size ≤ D → S xs → I xs W → W.heap[D]? = some (.deferred (some [])) → Q .normal { a with defers := { target := .collected D, args := #[] } :: a.defers } W) :
  (Code.rangeFunc g ps assign body).wpIn Fence.wide 3 P Q a w := by
 refine wpIn_rangeFunc fun fn hfn => ?_
 -- the loop's record, and the block for the rounds' deferred calls
 let rec' : LoopState → Loop := fun st => { state := st, pending := none, fn, tmps := a.tmps, params := ps, assign, body, defers := w.heap.size }
 obtain ⟨W1, hW1⟩ : ∃ W1, (w.alloc (.deferred (some []))).alloc (.loop (rec' .ready)) = W1 := ⟨_, rfl⟩
 have hl1 : W1.heap[w.heap.size + 1]? = some (.loop (rec' .ready)) := by
  have := World.alloc_heap_new (w.alloc (.deferred (some []))) (.loop (rec' .ready))
  rwa [World.size_alloc, hW1] at this
 have hd1 : W1.heap[w.heap.size]? = some (.deferred (some [])) := by
  rw [← hW1]; exact (Below.heap_alloc _ _ _ (by simp)).trans (World.alloc_heap_new w _)
 have hs1 : W1.heap.size = w.heap.size + 2 := by rw [← hW1]; simp
 refine ⟨w.heap.size + 1, _, W1, { target := .fn (.func gf) lb, args := #[.func (.yield (w.heap.size + 1)) #[] #[]] }, W1, gf, #[.func (.yield (w.heap.size + 1)) #[] #[]] ++ lb, W1,
  by rw [← hW1]; exact run_enterLoop_outer _ _ _ _ _, by simp only [resolve, hg]; simp [go_sem], fun _ _ => trivial, by simp [invoke, go_sem, eg], (fun e => by cases e), ?_⟩
 refine (hseq (w.heap.size + 1) (fun pre W => I pre W ∧ W.heap[w.heap.size + 1]? = some (.loop (rec' .ready)) ∧ W.heap[w.heap.size]? = some (.deferred (some []))) W1 ?_ ?_ ?_ ?_ ?_).mono ?_
 ·rw [← hW1]; exact hb0.trans ((((Below.refl _ w).alloc (Nat.le_refl _) _).alloc (by simp) _).mono hb0.size)
 ·intro s X Y row hs hgr hr
  have hlt : ∀ r, row = some r → r ≠ w.heap.size + 1 ∧ r ≠ w.heap.size := fun r e => by have := (hr r e).1; omega
  have hkeep : ∀ k o, (k = w.heap.size + 1 ∨ k = w.heap.size) → X.heap[k]? = some o → Y.heap[k]? = some o := fun k o hk ho =>
   (hgr.block k (Array.getElem?_eq_some_iff.1 ho).1 (fun e => by
    rcases hk with h | h
    ·exact (hlt _ e.symm).1 h
    ·exact (hlt _ e.symm).2 h)).trans ho
  exact ⟨hI s X Y row hs.1 hgr (fun r e => ⟨by have := (hr r e).1; omega, by obtain ⟨o, ho, hw⟩ := (hr r e).2; exact ⟨o, ho, Obj.not_cells_of_walk hw⟩⟩), hkeep _ _ (.inl rfl) hs.2.1, hkeep _ _ (.inr rfl) hs.2.2⟩
 ·intro s X v hs
  exact ⟨hIc _ _ _ hs.1, (heap_setCell_other _ _ _ _ (by show w.heap.size + 1 ≠ c; omega)).trans hs.2.1, (heap_setCell_other _ _ _ _ (by show w.heap.size ≠ c; omega)).trans hs.2.2⟩
 · -- a round
  rintro pre x W ⟨hi, hl, hd⟩ hok
  have hlt : w.heap.size + 1 < W.heap.size := (Array.getElem?_eq_some_iff.1 hl).1
  refine ⟨fn, _, assign, body, run_yield (P := P) (args := encs x) hl (hps x), roundIn_of_wpIn hfn (hassign _ x W _ ?_)⟩
  refine ⟨_, run_beginRound hl rfl, ?_⟩
  have hl2 : (W.putObj (w.heap.size + 1) (.loop (rec' .busy))).heap[w.heap.size + 1]? = some (.loop (rec' .busy)) := World.putObj_heap_same hlt
  have hd2 : (W.putObj (w.heap.size + 1) (.loop (rec' .busy))).heap[w.heap.size]? = some (.deferred (some [])) := (World.putObj_heap_other (by omega)).trans hd
  refine wpIn_mono (hbody _ pre x _ (hI.putObj _ hi (by omega) hl rfl) (hOk _ _ _ _ _ _ hok hl rfl)) ?_
  rintro e a3 W3 hp
  cases e with
  | normal =>
   obtain ⟨hk3, hkp3, hi3⟩ := hp
   have hl3 := hk3.same _ _ (by omega) hl2 rfl
   have hd3 := hk3.same _ _ (Nat.le_refl _) hd2 rfl
   refine ⟨_, _, run_endRound none hl3, rfl, ⟨hI.putObj _ hi3 (by omega) hl3 rfl, World.putObj_heap_same (Array.getElem?_eq_some_iff.1 hl3).1, (World.putObj_heap_other (by omega)).trans hd3⟩, ?_⟩
   exact hKt (hKt (hKb _ _ _ (by omega)) hkp3) (hKb _ _ _ (by omega))
  | _ => exact hp.elim
 ·exact ⟨by rw [← hW1]; exact hI.alloc _ (hI.alloc _ h0), hl1, hd1⟩
 ·rintro e W2 ⟨⟨v, rfl⟩, xs, hS, hi, hl, hd⟩
  exact ⟨none, _, run_endLoop hl (by simp [rec']), hdone _ xs _ (Nat.le_refl _) hS (hI.putObj _ hi (by omega) hl rfl) ((World.putObj_heap_other (by omega)).trans hd)⟩
end Go.Proofs.YtngmgpmkjdacaaaGreatDoor
namespace Go.Proofs.YtngmgpmkjdacaaaGreatDoor
set_option maxRecDepth 100000
open Go.RowKit Go.Shelf
attribute [local go_sem] Oper.semAt_some

/-- A piece: its bytes, where they lie, and whether a line feed stands behind them. -/
structure Pc where
  A : Option Addr
  n : Nat
  c : Nat
  t : List Int
  e : Bool

def Pc.enc (x : Pc) : Array Value := #[.slice x.A x.n x.c, .bool x.e]
def Pc.all (x : Pc) : List Int := x.t ++ if x.e then [10] else []
def joined (p : List Pc) : List Int := p.flatMap Pc.all
theorem joined_snoc (p : List Pc) (x : Pc) : joined (p ++ [x]) = joined p ++ x.all := by unfold joined; rw [List.flatMap_append]; simp
/-- What is known of a piece as it comes. -/
def PcOk (l0 : List Int) (pre : List Pc) (x : Pc) (W : World) : Prop :=
  Sl W x.A x.n x.t ∧ Tidy x.A x.c ∧ x.n ≤ x.c ∧ (∀ z ∈ x.t, z ≠ 10) ∧ ∃ more, joined (pre ++ [x]) ++ more = l0

def boxLen (W : World) (c : Nat) : Nat := match W.cell? ⟨c, 0, none⟩ with
  | some (.slice _ n _) => n
  | _ => 0

theorem boxLen_of {W : World} {c n k : Nat} {A : Option Addr} (h : W.heap[c]? = some (.cells #[.slice A n k] 22 (0, 0))) : boxLen W c = n := by
  unfold boxLen
  rw [cell_of_row _ _ _ _ 22 (0, 0) h]
  rfl

set_option maxHeartbeats 2000000 in
theorem pieces_stops {Kp : World → World → Prop} {c : Nat} {A0 : Option Addr} {n0 c0 : Nat} {l0 : List Int} {w : World} (hbox : w.heap[c]? = some (.cells #[.slice A0 n0 c0] 22 (0, 0)))
    (hs : Sl w A0 n0 l0) (ht : Tidy A0 c0) (hc : n0 ≤ c0) (hn : n0 ≤ 1000000)
    (hcA : ∀ ad, A0 = some ad → some c ≠ some ad.block)
    (hKc : ∀ {W W'}, Kp W W' → W'.heap[c]? = W.heap[c]?) (hKs : ∀ {W W'}, Kp W W' → Sl W A0 n0 l0 → Sl W' A0 n0 l0) :
    SeqBox Tryz.prog 140 #[.pointer (some ⟨c, 0, none⟩)] Pc.enc Kp (PcOk l0) (fun xs => joined xs = l0) c w := by
  intro l J W hW hJ hJc hY h0
  have hclt : c < w.heap.size := (Array.getElem?_eq_some_iff.1 hbox).1
  have hW1 : W.heap[c]? = some (.cells #[.slice A0 n0 c0] 22 (0, 0)) := (hW.block c hclt).trans hbox
  have hW2 := hs.below hW
  refine callsIn_of_wp Tryz.func140 rfl trivial ?_ rfl
  simp only [Tryz.ntmps140, List.size_toArray, List.length_cons, List.length_nil, Nat.reduceAdd, Nat.reduceSub, Array.replicate_succ, Array.replicate_zero, List.push_toArray, List.append_toArray, List.nil_append, List.cons_append]
  gi_wp2
  gi_loopw [] (fun wr => ∃ (pre : List Pc) (rest : List Int) (A : Option Addr) (n k : Nat), wr.heap[c]? = some (.cells #[.slice A n k] 22 (0, 0)) ∧ (∀ X, Sl X A0 n0 l0 → Sl X A n rest) ∧ Tidy A k ∧ n ≤ k ∧ joined pre ++ rest = l0 ∧ Sl wr A0 n0 l0 ∧ J pre wr) (fun wr => boxLen wr c)
  case atStart => exact ⟨[], l0, A0, n0, c0, hW1, fun X h => h, ht, hc, rfl, hW2, h0⟩
  case round =>
    obtain ⟨pre, rest, A, n, k, hb, hA, hT, hk, hj, hS, hJs⟩ := hrel
    have hcell : wr.cell? ⟨c, 0, none⟩ = some (.slice A n k) := by rw [cell_of_row _ _ _ _ 22 (0, 0) hb]; rfl
    have hfz := frozen_of_row wr c 0 _ 22 hb
    have hSr := hA _ hS
    have hnl : rest.length = n := hSr.1
    by_cases h0n : n = 0
    · subst h0n
      gi_wp2
      go_end0
      have hr : rest = [] := List.length_eq_zero_iff.1 hnl
      subst hr
      exact ⟨⟨_, rfl⟩, pre, by rw [List.append_nil] at hj; exact hj, hJs⟩
    · have hpos : (0 : Int) < (n : Int) := by omega
      have hle : n ≤ n0 := by have := congrArg List.length hj; rw [List.length_append, hnl, hS.1] at this; omega
      have hSz := hS.1
      have ba := (Below.refl wr.heap.size wr).alloc (Nat.le_refl _) (.cells #[.int .u8 10] 5)
      have hcut := cut_one A n k rest 10 wr.heap.size 0 1 (wr.alloc (.cells #[.int .u8 10] 5)) (hSr.below ba) hT hk (by omega) (by decide) (by rw [cell_of_row _ _ _ _ 5 (0, 0) (heap_alloc_new wr _)]; rfl)
      have HC := Lib.hid hcut
      have HB := Lib.hid ba
      have HJ := Lib.hid hJs
      have hA' := hA
      clear hcut ba hJs hA
      gi_wp2_with fail
      refine ⟨trivial, (callsIn_wide.2 HC.out).mono ?_⟩
      rintro e w2 he
      unfold CutIn at he
      have hclr : c < wr.heap.size := (Array.getElem?_eq_some_iff.1 hb).1
      have b2 : Below wr.heap.size wr w2 := HB.out.trans (he.1.mono (by simp))
      have hb2 : w2.heap[c]? = some (.cells #[.slice A n k] 22 (0, 0)) := (b2.block c hclr).trans hb
      have hS2 := hS.below b2
      have hJ2 : J pre w2 := hJ pre wr w2 none HJ.out (grown_below b2) (fun r e => by cases e)
      cases hp : pos 10 rest with
      | some i =>
        rw [hp] at he
        obtain ⟨A1, A2, k2, rfl, s1, t1, s2, t2, hk2⟩ := he.2
        have hi := pos_lt hp
        obtain ⟨q1, q2⟩ := pos_split hp
        rw [hnl] at hi
        have hx : PcOk l0 pre ⟨A1, i, k, rest.take i, true⟩ w2 := ⟨s1 _ (hA' _ hS2), t1, by show i ≤ k; omega, q2, rest.drop (i + 1), by rw [joined_snoc, ← hj, List.append_assoc]; congr 1; show (rest.take i ++ [10]) ++ _ = _; rw [List.append_assoc]; exact q1.symm⟩
        obtain ⟨fn, tmps, assign, body, hy, hR⟩ := hY pre _ w2 hJ2 hx
        dsimp only [Pc.enc] at hy
        have HR := Lib.hid hR
        have S2' := Lib.hid (fun X hX => s2 X (hA' X hX))
        clear hR hx s1 s2 he
        gi_wp2
        refine HR.out.mono ?_
        rintro e W3 ⟨rfl, hJ3, hk3⟩
        have hb3 := (hKc hk3).trans hb2
        have hc3 : W3.cell? ⟨c, 0, none⟩ = some (.slice A n k) := by rw [cell_of_row _ _ _ _ 22 (0, 0) hb3]; rfl
        have hf3 := frozen_of_row W3 c 0 _ 22 hb3
        have hS3 := hKs hk3 hS2
        have HJ3 := Lib.hid (hJc _ _ (.slice A2 (n - (i + 1)) k2) hJ3)
        have hb4 := heap_setCell_same _ c 0 _ 22 (.slice A2 (n - (i + 1)) k2) hb3
        have HB4 := Lib.hid hb4
        have HS4 := Lib.hid (hS3.grown (grown_set W3 c 0 (.slice A2 (n - (i + 1)) k2)) hcA)
        clear hJ3 hb4 hS3 HR hy
        gi_wp2
        go_roundw
        case rel => exact ⟨_, rest.drop (i + 1), _, _, _, HB4.out, S2'.out, t2, hk2, by rw [joined_snoc, ← hj, List.append_assoc]; congr 1; show (rest.take i ++ [10]) ++ _ = _; rw [List.append_assoc]; exact q1.symm, HS4.out, HJ3.out⟩
        case measure => rw [boxLen_of HB4.out, boxLen_of hb]; omega
      | none =>
        rw [hp] at he
        obtain ⟨_, rfl⟩ := he
        have hfree := pos_free hp
        have hx : PcOk l0 pre ⟨A, n, k, rest, false⟩ w2 := ⟨hA' _ hS2, hT, hk, hfree, [], by rw [joined_snoc, ← hj, List.append_nil]; congr 1; show rest ++ [] = _; rw [List.append_nil]⟩
        obtain ⟨fn, tmps, assign, body, hy, hR⟩ := hY pre _ w2 hJ2 hx
        dsimp only [Pc.enc] at hy
        have HR := Lib.hid hR
        clear hR hx
        gi_wp2
        refine HR.out.mono ?_
        rintro e W3 ⟨rfl, hJ3, hk3⟩
        have hb3 := (hKc hk3).trans hb2
        have hc3 : W3.cell? ⟨c, 0, none⟩ = some (.slice A n k) := by rw [cell_of_row _ _ _ _ 22 (0, 0) hb3]; rfl
        have hf3 := frozen_of_row W3 c 0 _ 22 hb3
        have hS3 := hKs hk3 hS2
        have HJ3 := Lib.hid (hJc _ _ (.slice none 0 0) hJ3)
        have hb4 := heap_setCell_same _ c 0 _ 22 (.slice none 0 0) hb3
        have HB4 := Lib.hid hb4
        have HS4 := Lib.hid (hS3.grown (grown_set W3 c 0 (.slice none 0 0)) hcA)
        clear hJ3 hb4 hS3 HR hy
        gi_wp2
        go_roundw
        case rel => exact ⟨_, [], _, _, _, HB4.out, fun X hX => sl_nil _ _, .inl ⟨rfl, rfl⟩, Nat.le_refl _, by rw [joined_snoc, ← hj, List.append_nil]; congr 1; show rest ++ [] = _; rw [List.append_nil], HS4.out, HJ3.out⟩
        case measure => rw [boxLen_of HB4.out, boxLen_of hb]; omega

theorem pieces_any (v : Value) (w : World) (hv : v.oneCell' = true) : Calls Tryz.prog 85 #[v] w fun e w' => e = .returned (.func (.func 140) #[] #[.pointer (some ⟨w.heap.size, 0, none⟩)]) ∧ w' = w.alloc (.cells #[v] 22) := by
  cases v <;> first
    | (cases hv; done)
    | (go_enter Tryz.func85, Tryz.ntmps85
       go_wp2
       go_ret
       exact ⟨rfl, rfl⟩)
end Go.Proofs.YtngmgpmkjdacaaaGreatDoor
namespace Go.Proofs.YtngmgpmkjdacaaaGreatDoor
set_option maxRecDepth 100000
open Go.RowKit

theorem sl_bytes {w : World} {ad : Addr} {m : Nat} {l : List Int} (h : Sl w (some ad) m l) : ∀ j u, (l.map (Value.int .u8))[j]? = some u → w.cell? (ad.add j) = some u := by
 intro j u hj
 rw [List.getElem?_map] at hj
 have hjl : j < l.length := by
  rcases Nat.lt_or_ge j l.length with h | h
  ·exact h
  ·rw [List.getElem?_eq_none h] at hj; cases hj
 obtain ⟨b, off, e, _, hcell⟩ := h.at j (by rw [← h.1]; exact hjl)
 cases e
 rw [List.getElem?_eq_getElem hjl] at hj
 have hu : Value.int .u8 l[j] = u := by simpa using hj
 rw [← hu, ← getD_lt hjl, ← hcell]
 refine congrArg _ ?_
 unfold Addr.add
 by_cases h0 : j = 0
 ·subst h0; simp
 ·simp [h0]

/-- What lies in a new block. -/
theorem sl_new (w : World) (l : List Int) (hl : ∀ z ∈ l, 0 ≤ z ∧ z < 256) (more : Array Value) : Sl (w.alloc (.cells ((l.map (Value.int .u8)).toArray ++ more) 5)) (some ⟨w.heap.size, 0, none⟩) l.length l := by
 refine ⟨rfl, hl, .inr ⟨w.heap.size, 0, rfl, by simp, fun i hi => ?_⟩⟩
 rw [cell_of_row _ _ _ _ 5 (0, 0) (heap_alloc_new w _), Nat.zero_add, Array.getElem?_append_left (by simpa using hi)]
 simp [hi]

/-- A slice cut to what it holds. -/
theorem run_tight (w : World) (A : Option Addr) (n c : Nat) (hc : n ≤ c) (hT : Tidy A c) :
  (Instr.slice 22 (.slice A n c) none (some (.int .i64 n)) (some (.int .i64 n))).run Tryz.prog w = .ok (.slice A n n) w := by
 rw [run_slice_hm (P := Tryz.prog) w 22 A n c (by rw [elem22]; exact Tryz.underlying22) .i64 .i64 (n : Int) (n : Int) (by omega) (by omega) (by omega)]
 rw [elem22, size5]
 simp only [Result.andThen, sliced, Int.toNat_natCast, Nat.zero_mul, Nat.sub_zero]
 split
 ·rfl
 ·rcases hT with ⟨rfl, rfl⟩ | ⟨b, o, rfl⟩
  ·rfl
  ·simp [Addr.add]

theorem run_append_tight (w : World) (ty : TypeId) (A : Option Addr) (n : Nat) (l : List Int) (hs : Sl w A n l) (A2 : Option Addr) (m c2 : Nat) (l2 : List Int) (h2 : Sl w A2 m l2) (hT : Tidy A n) (hT2 : Tidy A2 c2) (hb : n + m ≤ 100000) :
  ∃ A' c' w', (Builtin.append_ #[22, 22] ty #[.slice A n n, .slice A2 m c2]).run Tryz.prog w = .ok (.slice A' (n + m) c') w' ∧ Sl w' A' (n + m) (l ++ l2) ∧ Below w.heap.size w w' ∧ n + m ≤ c' ∧ Tidy A' c' ∧ (A' = A ∨ ∃ ad, A' = some ad ∧ w.heap.size ≤ ad.block ∧ ad.block < w'.heap.size) := by
 obtain ⟨i0, hi, hz0, hz1, hz2⟩ := info_parts info5
 by_cases hm : m = 0
 ·subst hm
  have hl2 : l2 = [] := List.length_eq_zero_iff.1 h2.1
  subst hl2
  refine ⟨A, n, w, ?_, by simpa using hs, Below.refl _ _, Nat.le_refl _, hT, .inl rfl⟩
  rcases hT with ⟨rfl, rfl⟩ | ⟨b, o, rfl⟩ <;> rcases hT2 with ⟨rfl, rfl⟩ | ⟨b2, o2, rfl⟩ <;>
   simp [Builtin.append_, run_underlying Tryz.underlying22, sizeOf, typeInfo, hi, Builtin.lenOf, Builtin.firstCells, loadCells, loadCellsFrom, storeCells]
 ·have hall : ∀ z ∈ l ++ l2, 0 ≤ z ∧ z < 256 := fun z hz => (List.mem_append.1 hz).elim (hs.2.1 z) (h2.2.1 z)
  have hlen : (l ++ l2).length = n + m := by rw [List.length_append, hs.1, h2.1]
  obtain ⟨ad2, rfl⟩ : ∃ ad2, A2 = some ad2 := by
   obtain ⟨b, o, e, _⟩ := h2.at 0 (by omega)
   exact ⟨_, e⟩
  have hw1 : Below w.heap.size w w.drew := (Below.refl _ _).drew
  cases A with
  | none =>
   have hn : n = 0 := hs.none_nil
   subst hn
   have hl : l = [] := List.length_eq_zero_iff.1 hs.1
   subst hl
   have hr := run_append_nil (P := Tryz.prog) w 22 ty 5 i0 (.int .u8 0) Tryz.underlying22 hi hz0 ad2 m c2 (l2.map (Value.int .u8)) (by rw [List.length_map, h2.1, hz1, Nat.mul_one]) (sl_bytes h2) (by omega) (by omega) (by rw [hz2]; omega)
   refine ⟨_, _, _, by rw [Nat.zero_add]; exact hr, ?_, hw1.alloc (Nat.le_refl _) _, by rw [Nat.zero_add]; exact grownCap_ge w m 0 5, .inr ⟨_, _, rfl⟩, .inr ⟨_, rfl, Nat.le_refl _, by simp⟩⟩
   have := sl_new w.drew l2 h2.2.1 (Builtin.zeroCells (Value.int .u8 0).cells (grownCap w m 0 5 - m))
   rw [h2.1] at this
   rw [Nat.zero_add, List.nil_append]
   exact this
  | some ad =>
   have hr := run_append_grow (P := Tryz.prog) w 22 ty 5 i0 (.int .u8 0) Tryz.underlying22 hi hz0 ad n n (l.map (Value.int .u8)) (by rw [List.length_map, hs.1, hz1, Nat.mul_one]) (sl_bytes hs) ad2 m c2 (l2.map (Value.int .u8)) (by rw [List.length_map, h2.1, hz1, Nat.mul_one]) (sl_bytes h2) (by omega) (by omega) (growslice_fits (by omega) (by rw [hz2]; omega))
   refine ⟨_, _, _, hr, ?_, hw1.alloc (Nat.le_refl _) _, grownCap_ge w (n + m) n 5, .inr ⟨_, _, rfl⟩, .inr ⟨_, rfl, Nat.le_refl _, by simp⟩⟩
   have := sl_new w.drew (l ++ l2) hall (Builtin.zeroCells (Value.int .u8 0).cells (grownCap w (n + m) n 5 - (n + m)))
   rw [hlen, List.map_append] at this
   simpa using this

theorem info119b : (Tryz.prog.info? 119).map (fun i => (i.zero, i.size, i.bytes)) = some (some (.agg #[.int .i64 0, .int .i64 0, .string ⟨#[]⟩, .bool false]), 4, 40) := by kernel_rfl

/-- The cells of lines. -/
def lcells (ls : List LV) : List Value := ls.flatMap fun x => (lvv x).toList
theorem lcells_length (ls : List LV) : (lcells ls).length = ls.length * 4 := by
 induction ls with
 | nil => rfl
 | cons x ls ih => unfold lcells at *; rw [List.flatMap_cons, List.length_append, ih, List.length_cons]; show 4 + _ = _; omega
theorem lcells_append (a b : List LV) : lcells (a ++ b) = lcells a ++ lcells b := by unfold lcells; rw [List.flatMap_append]
theorem lcells_one (ls : List LV) : ∀ u ∈ lcells ls, u.oneCell' = true := by
 intro u hu
 obtain ⟨x, _, hx⟩ := List.mem_flatMap.1 hu
 simp only [lvv, List.mem_cons, List.not_mem_nil, or_false] at hx
 rcases hx with rfl | rfl | rfl | rfl <;> rfl

/-- The slice value v is the call's own row of lines. -/
def OwnL (w : World) (base : Nat) (v : Value) (ls : List LV) : Prop := w.ownsRow base 119 4 v ls.length (lcells ls)

theorem ownL_nil (w : World) (base : Nat) : OwnL w base (.slice none 0 0) [] := World.ownsRow_nil w base 119 4

theorem run_append_lines (w : World) (ty : TypeId) (base : Nat) (v : Value) (ls : List LV) (hown : OwnL w base v ls) (ad : Addr) (m c : Nat) (l2 : List LV) (hm : l2.length = m)
  (hnews : ∀ j u, (lcells l2)[j]? = some u → w.cell? (ad.add j) = some u) (hb : ls.length + m ≤ 100000) (hbase : base ≤ w.heap.size) :
  ∃ v' w', (Builtin.append_ #[115, 115] ty #[v, .slice (some ad) m c]).run Tryz.prog w = .ok v' w' ∧ OwnL w' base v' (ls ++ l2) ∧ w.grownBy w' v.ownBlock ∧ (v'.ownBlock = v.ownBlock ∨ v'.ownBlock = some w.heap.size) := by
 obtain ⟨i0, hi, hz0, hz1, hz2⟩ := info_parts info119b
 obtain ⟨v', w', h1, h2, h3, _, h5⟩ := run_append_own_at (P := Tryz.prog) w base 115 ty 119 i0 _ 4 40 Tryz.underlying115 hi hz0 hz1 hz2 rfl (by decide) v ls.length _ hown ad m c (lcells l2) (by rw [lcells_length, hm]) hnews (lcells_one l2) (by unfold maxLen; omega) (by omega) hbase
 exact ⟨v', w', h1, by unfold OwnL; rw [List.length_append, hm, lcells_append]; exact h2, h3, h5⟩
end Go.Proofs.YtngmgpmkjdacaaaGreatDoor
namespace Go.Proofs.YtngmgpmkjdacaaaGreatDoor
set_option maxRecDepth 100000
open Go.RowKit Go.Shelf

/-- What the body keeps for the iterator: all blocks but the Framer's and the row's box. -/
def Kf (n₀ g o : Nat) (W W' : World) : Prop := W.heap.size ≤ W'.heap.size ∧ ∀ k, k < n₀ → k ≠ g → k ≠ o → W'.heap[k]? = W.heap[k]?
theorem Kf.trans {n g o : Nat} {A B C : World} (h1 : Kf n g o A B) (h2 : Kf n g o B C) : Kf n g o A C := ⟨Nat.le_trans h1.1 h2.1, fun k hk hg ho => (h2.2 k hk hg ho).trans (h1.2 k hk hg ho)⟩

theorem IsFr.put_open {w : World} {g m at_ fr : Nat} {cur : List Int} {cl : Bool} {O : Option Addr} {co : Nat} (h : IsFr w g m at_ fr cur cl O co) (c2 : List Int) (A : Option Addr) (n c : Nat)
  (hn : n = (opn m c2).length) (hs : Sl w A n (opn m c2)) (hne : ∀ ad, A = some ad → ad.block ≠ g) (hT : Tidy A c) (hle : n ≤ c) (hb : fr + c2.length ≤ 100000) :
  IsFr (w.setCell ⟨g, 3, none⟩ (.slice A n c)) g m at_ fr c2 cl A c := by
 subst hn
 exact
  {row := by rw [heap_setCell_same w g 3 _ 122 _ h.row]; rfl
   sl := hs.grown (grown_set w g 3 _) (fun ad e => fun e2 => hne ad e (Option.some.inj e2).symm)
   ne := hne
   nil := hT
   le := hle
   big := ⟨h.big.1, hb, h.big.2.2⟩ }

/-- Within a round that began in W. -/
structure MidAt (w W : World) (g m : Nat) (O : Option Addr) (xA : Option Addr) (xn : Nat) (xt : List Int) (v : Value) (ls : List LV) (X : World) (a f1 : Nat) (c1 : List Int) (O1 : Option Addr) (co1 : Nat) : Prop where
 fr : IsFr X g m a f1 c1 false O1 co1
 fbox : X.heap[w.heap.size]? = some (.cells #[.pointer (some ⟨g, 0, none⟩)] 73 (0, 0))
 obox : X.heap[w.heap.size + 1]? = some (.cells #[v] 115 (0, 0))
 own : OwnL X (w.heap.size + 3) v ls
 txt : Sl X xA xn xt
 far : ∀ ad, O1 = some ad → v.ownBlock ≠ some ad.block ∧ (O1 = O ∨ w.heap.size + 3 ≤ ad.block) ∧ ad.block < X.heap.size
 grown : w.grownBy X (some g)
 kf : KeepsFrom (w.heap.size + 3) W X
 kp : Kf (w.heap.size + 3) g (w.heap.size + 1) W X
 lt : g < w.heap.size
 sz : w.heap.size + 3 ≤ X.heap.size

section
variable {w W : World} {g m : Nat} {O : Option Addr} {xA : Option Addr} {xn : Nat} {xt : List Int} {v : Value} {ls : List LV} {X Y : World} {a f1 : Nat} {c1 : List Int} {O1 : Option Addr} {co1 xc : Nat}

theorem MidAt.cells (h : MidAt w W g m O xA xn xt v ls X a f1 c1 O1 co1) : X.cell? ⟨w.heap.size, 0, none⟩ = some (.pointer (some ⟨g, 0, none⟩)) ∧ X.cell? ⟨w.heap.size + 1, 0, none⟩ = some v ∧ X.frozen? ⟨w.heap.size + 1, 0, none⟩ = false :=
 ⟨by rw [cell_of_row _ _ _ _ 73 (0, 0) h.fbox]; rfl, by rw [cell_of_row _ _ _ _ 115 (0, 0) h.obox]; rfl, frozen_of_row _ _ 0 _ 115 h.obox⟩

theorem MidAt.below (h : MidAt w W g m O xA xn xt v ls X a f1 c1 O1 co1) (hb : Below X.heap.size X Y) : MidAt w W g m O xA xn xt v ls Y a f1 c1 O1 co1 :=
 {fr := h.fr.below hb
  fbox := (hb.block _ (Array.getElem?_eq_some_iff.1 h.fbox).1).trans h.fbox
  obox := (hb.block _ (Array.getElem?_eq_some_iff.1 h.obox).1).trans h.obox
  own := World.ownsRow.kept h.own (grown_below (row := none) hb) (by cases v.ownBlock <;> simp)
  txt := h.txt.below hb
  far := fun ad e => ⟨(h.far ad e).1, (h.far ad e).2.1, Nat.lt_of_lt_of_le (h.far ad e).2.2 hb.size⟩
  grown := ⟨hb.os.trans h.grown.os, hb.tape.trans h.grown.tape, hb.output.trans h.grown.output, Nat.le_trans h.grown.size hb.size, fun k hk2 hn => (hb.block k (Nat.lt_of_lt_of_le hk2 h.grown.size)).trans (h.grown.block k hk2 hn)⟩
  kf := h.kf.trans ⟨hb.size, fun k o _ hk _ => (hb.block k (Array.getElem?_eq_some_iff.1 hk).1).trans hk⟩
  kp := h.kp.trans ⟨hb.size, fun k hk2 _ _ => hb.block k (Nat.lt_of_lt_of_le hk2 h.sz)⟩
  lt := h.lt
  sz := Nat.le_trans h.sz hb.size }

/-- A store into the Framer. -/
theorem MidAt.put (h : MidAt w W g m O xA xn xt v ls X a f1 c1 O1 co1) (j : Nat) (u u0 : Value) (hc : X.cell? ⟨g, j, none⟩ = some u0) (hu : ∀ z, u0 ≠ .int .u8 z) {a2 f2 : Nat} {c2 : List Int} {O2 : Option Addr} {co2 : Nat}
  (hf : IsFr (X.setCell ⟨g, j, none⟩ u) g m a2 f2 c2 false O2 co2) (hO : ∀ ad, O2 = some ad → v.ownBlock ≠ some ad.block ∧ (O2 = O ∨ w.heap.size + 3 ≤ ad.block) ∧ ad.block < X.heap.size) :
  MidAt w W g m O xA xn xt v ls (X.setCell ⟨g, j, none⟩ u) a2 f2 c2 O2 co2 :=
 have hlt := h.lt
 have hg := grown_set X g j u
 {fr := hf
  fbox := (heap_setCell_other _ _ _ _ (by show w.heap.size ≠ g; omega)).trans h.fbox
  obox := (heap_setCell_other _ _ _ _ (by show w.heap.size + 1 ≠ g; omega)).trans h.obox
  own := World.ownsRow.kept h.own hg (by
   cases hv : v.ownBlock with
   | none => exact .inl rfl
   | some b => exact .inr (fun e => by cases e; have := (h.own.lt _ hv).1; omega))
  txt := h.txt.put u hc hu
  far := fun ad e => ⟨(hO ad e).1, (hO ad e).2.1, Nat.lt_of_lt_of_le (hO ad e).2.2 hg.size⟩
  grown := grown_step h.grown _ (.inl rfl) u
  kf := h.kf.trans ((KeepsOthers.setCell _ _ _).from _)
  kp := h.kp.trans ⟨hg.size, fun k _ hk _ => heap_setCell_other _ _ _ _ hk⟩
  lt := h.lt
  sz := Nat.le_trans h.sz hg.size }

theorem MidAt.put_at (h : MidAt w W g m O xA xn xt v ls X a f1 c1 O1 co1) (x : Nat) (hx : x ≤ 100001) : MidAt w W g m O xA xn xt v ls (X.setCell ⟨g, 1, none⟩ (.int .i64 (x : Int))) x f1 c1 O1 co1 :=
 h.put 1 _ _ h.fr.cells.2.1 (fun z e => by cases e) (h.fr.put_at x hx) h.far

theorem MidAt.drewN (h : MidAt w W g m O xA xn xt v ls X a f1 c1 O1 co1) (n : Nat) : MidAt w W g m O xA xn xt v ls (X.drewN n) a f1 c1 O1 co1 :=
 h.below (below_drewN' (Below.refl _ _) n)

/-- What is open is too long. -/
theorem MidAt.long (h : MidAt w W g m O xA xn xt v ls X a f1 c1 O1 co1) (hl : m < c1.length + xt.length) (hb : f1 + (c1.length + xt.length) ≤ 100000) : MidAt w W g m O xA xn xt v ls (X.setCell ⟨g, 3, none⟩ (.slice none 0 0)) a f1 (c1 ++ xt) none 0 := by
 have he : opn m (c1 ++ xt) = [] := by unfold opn; rw [if_pos (by rw [List.length_append]; exact hl)]
 exact h.put 3 _ _ h.fr.cells.2.2.2.1 (fun z e => by cases e) (h.fr.put_open (c1 ++ xt) none 0 0 (by rw [he]; rfl) (by rw [he]; exact sl_nil _ _) (fun ad e => by cases e) (.inl ⟨rfl, rfl⟩) (Nat.le_refl _) (by rw [List.length_append]; exact hb)) (fun ad e => by cases e)

/-- What is open takes the text. -/
theorem MidAt.more (h : MidAt w W g m O xA xn xt v ls X a f1 c1 O1 co1) (hl : ¬ m < c1.length + xt.length) (hb : f1 + (c1.length + xt.length) ≤ 100000) (hx : xn = xt.length) (hxc : Tidy xA xc)
  (ty : TypeId) : ∃ A' c' Y, (Builtin.append_ #[22, 22] ty #[.slice O1 c1.length c1.length, .slice xA xn xc]).run Tryz.prog X = .ok (.slice A' (c1.length + xn) c') Y ∧ Below X.heap.size X Y ∧ Y.cell? ⟨g, 3, none⟩ = some (.slice O1 c1.length co1) ∧ MidAt w W g m O xA xn xt v ls (Y.setCell ⟨g, 3, none⟩ (.slice A' (c1.length + xn) c')) a f1 (c1 ++ xt) A' c' := by
 subst hx
 have he1 : opn m c1 = c1 := by unfold opn; rw [if_neg (by omega)]
 have he2 : opn m (c1 ++ xt) = c1 ++ xt := by unfold opn; rw [if_neg (by rw [List.length_append]; omega)]
 have hsl := h.fr.sl
 rw [he1] at hsl
 have hT1 : Tidy O1 c1.length := by
  rcases h.fr.nil with ⟨rfl, h0⟩ | hn
  ·exact .inl ⟨rfl, by have := hsl.none_nil; omega⟩
  ·exact .inr hn
 obtain ⟨A', c', Y, r1, r2, r3, r4, r5, r6⟩ := run_append_tight X ty O1 c1.length c1 hsl xA xt.length xc xt h.txt hT1 hxc (by omega)
 have hY := h.below r3
 have hc3 := hY.fr.cells.2.2.2.1
 rw [he1] at hc3
 have hlt := h.fr.lt
 refine ⟨A', c', Y, r1, r3, hc3, hY.put 3 _ _ hc3 (fun z e => by cases e) (hY.fr.put_open (c1 ++ xt) A' (c1.length + xt.length) c' (by rw [he2, List.length_append]) (by rw [he2]; exact r2) ?_ r5 r4 (by rw [List.length_append]; exact hb)) ?_⟩
 ·intro ad e
  rcases r6 with rfl | ⟨ad2, e2, h2, h3⟩
  ·exact h.fr.ne ad e
  ·rw [e] at e2; cases e2; omega
 ·intro ad e
  rcases r6 with rfl | ⟨ad2, e2, h2, h3⟩
  ·exact hY.far ad e
  ·rw [e] at e2
   cases e2
   refine ⟨fun e3 => ?_, .inr (Nat.le_trans h.sz h2), h3⟩
   have := (h.own.lt _ e3).2
   omega
end

/-- Between two pieces. -/
structure FeedAt (w : World) (g m fr : Nat) (cur : List Int) (O : Option Addr) (L : List Int) (W : World) : Prop where
 fbox : W.heap[w.heap.size]? = some (.cells #[.pointer (some ⟨g, 0, none⟩)] 73 (0, 0))
 out : ∃ v O' co', W.heap[w.heap.size + 1]? = some (.cells #[v] 115 (0, 0)) ∧ OwnL W (w.heap.size + 3) v (lin m fr cur L) ∧
  IsFr W g m ((fin fr cur L).1 + (fin fr cur L).2.length) (fin fr cur L).1 (fin fr cur L).2 false O' co' ∧
  (∀ ad, O' = some ad → v.ownBlock ≠ some ad.block ∧ (O' = O ∨ w.heap.size + 3 ≤ ad.block) ∧ ad.block < W.heap.size)
 grown : w.grownBy W (some g)
 sz : w.heap.size + 3 ≤ W.heap.size

theorem Sl.other {W Y : World} {A : Option Addr} {n : Nat} {l : List Int} {row : Option Nat} (h : Sl W A n l) (hg : W.grownBy Y row) (hr : ∀ r, row = some r → ∃ o : Obj, W.heap[r]? = some o ∧ o.isCells = false) : Sl Y A n l := by
 obtain ⟨h1, h2, h3⟩ := h
 refine ⟨h1, h2, ?_⟩
 rcases h3 with h0 | ⟨b, off, rfl, hlt, hc⟩
 ·exact .inl h0
 ·exact .inr ⟨b, off, rfl, Nat.lt_of_lt_of_le hlt hg.size, fun i hi => cell_kept (hc i hi) hg hr⟩

section
variable {w : World} {g m fr : Nat} {cur : List Int} {O : Option Addr} {L : List Int} {W Y : World}
theorem row_other {row : Option Nat} (hg : W.grownBy Y row) (hr : ∀ r, row = some r → ∃ o : Obj, W.heap[r]? = some o ∧ o.isCells = false) {k : Nat} {cs : Array Value} {t : TypeId} {f : Nat × Nat} (h : W.heap[k]? = some (.cells cs t f)) : Y.heap[k]? = some (.cells cs t f) := (grownBy_keeps_cells hg hr h rfl).trans h

theorem IsFr.other {at_ co : Nat} {cl : Bool} {row : Option Nat} (h : IsFr W g m at_ fr cur cl O co) (hg : W.grownBy Y row) (hr : ∀ r, row = some r → ∃ o : Obj, W.heap[r]? = some o ∧ o.isCells = false) : IsFr Y g m at_ fr cur cl O co :=
 { h with row := row_other hg hr h.row, sl := h.sl.other hg hr }

theorem OwnL.other {base : Nat} {v : Value} {ls : List LV} {row : Option Nat} (h : OwnL W base v ls) (hg : W.grownBy Y row) (hr : ∀ r, row = some r → ∃ o : Obj, W.heap[r]? = some o ∧ o.isCells = false) : OwnL Y base v ls := by
 refine ⟨h.1, ?_⟩
 rcases h.2 with hn | ⟨b, cap, cs, e, hb, hk, r⟩
 ·exact .inl hn
 ·exact .inr ⟨b, cap, cs, e, hb, row_other hg hr hk, r⟩

theorem FeedAt.other {row : Option Nat} (h : FeedAt w g m fr cur O L W) (hg : W.grownBy Y row) (hr : ∀ r, row = some r → w.heap.size ≤ r ∧ ∃ o : Obj, W.heap[r]? = some o ∧ o.isCells = false) : FeedAt w g m fr cur O L Y := by
 have hr2 := fun r e => (hr r e).2
 obtain ⟨v, O', co', h1, h2, h3, h4⟩ := h.out
 refine ⟨row_other hg hr2 h.fbox, ⟨v, O', co', row_other hg hr2 h1, h2.other hg hr2, h3.other hg hr2, fun ad e => ⟨(h4 ad e).1, (h4 ad e).2.1, Nat.lt_of_lt_of_le (h4 ad e).2.2 hg.size⟩⟩, ?_, Nat.le_trans h.sz hg.size⟩
 refine ⟨hg.os.trans h.grown.os, hg.tape.trans h.grown.tape, hg.output.trans h.grown.output, Nat.le_trans h.grown.size hg.size, fun k hk hn => ?_⟩
 exact (hg.block k (Nat.lt_of_lt_of_le hk h.grown.size) (fun e => by have := (hr k e.symm).1; omega)).trans (h.grown.block k hk hn)

theorem OwnL.kept {base : Nat} {v : Value} {ls : List LV} {row : Option Nat} (h : OwnL W base v ls) (hg : W.grownBy Y row) (hr : ∀ r, row = some r → v.ownBlock ≠ some r) : OwnL Y base v ls :=
 World.ownsRow.kept h hg (by
  cases hv : v.ownBlock with
  | none => exact .inl rfl
  | some b => exact .inr (fun e => hr b e.symm hv))

theorem OwnL.mono {b b' : Nat} {v : Value} {ls : List LV} (h : OwnL W b v ls) (hb : b' ≤ b) : OwnL W b' v ls := by
 refine ⟨h.1, ?_⟩
 rcases h.2 with hn | ⟨k, cap, cs, e, hbk, r⟩
 ·exact .inl hn
 ·exact .inr ⟨k, cap, cs, e, by omega, r⟩

/-- A store into a block that is none of the Feed's. -/
theorem FeedAt.box (h : FeedAt w g m fr cur O L W) (hgl : g < w.heap.size) (hO : ∀ ad, O = some ad → ad.block < w.heap.size) (v : Value) : FeedAt w g m fr cur O L (W.setCell ⟨w.heap.size + 2, 0, none⟩ v) := by
 obtain ⟨u, O', co', h1, h2, h3, h4⟩ := h.out
 have hg := grown_set W (w.heap.size + 2) 0 v
 refine ⟨(heap_setCell_other _ _ _ _ (by show w.heap.size ≠ w.heap.size + 2; omega)).trans h.fbox, ⟨u, O', co', (heap_setCell_other _ _ _ _ (by show w.heap.size + 1 ≠ w.heap.size + 2; omega)).trans h1, h2.kept hg ?_, h3.kept hg ?_ ?_, fun ad e => ⟨(h4 ad e).1, (h4 ad e).2.1, Nat.lt_of_lt_of_le (h4 ad e).2.2 hg.size⟩⟩, grown_step h.grown _ (.inr (by show w.heap.size ≤ w.heap.size + 2; omega)) v, Nat.le_trans h.sz hg.size⟩
 ·intro r e hv
  cases e
  have := (h2.lt _ hv).1
  omega
 ·intro e; cases e; omega
 ·intro ad e e2
  have e3 : w.heap.size + 2 = ad.block := Option.some.inj e2
  rcases (h4 ad e).2.1 with h5 | h5
  ·have := hO ad (h5 ▸ e); omega
  ·omega
end

theorem MidAt.feed {w W : World} {g m fr : Nat} {cur : List Int} {O : Option Addr} {xA : Option Addr} {xn : Nat} {xt : List Int} {v : Value} {ls : List LV} {X : World} {a f1 : Nat} {c1 : List Int} {O1 : Option Addr} {co1 : Nat} {L : List Int}
  (h : MidAt w W g m O xA xn xt v ls X a f1 c1 O1 co1) (h1 : lin m fr cur L = ls) (h2 : fin fr cur L = (f1, c1)) (ha : a = f1 + c1.length) : FeedAt w g m fr cur O L X :=
 ⟨h.fbox, ⟨v, O1, co1, h.obox, by rw [h1]; exact h.own, by rw [h2]; exact ha ▸ h.fr, h.far⟩, h.grown, h.sz⟩

theorem cell_line (w : World) (x : LV) : ∀ j u, (lcells [x])[j]? = some u → (w.alloc (.cells (lvv x) 119)).cell? ((⟨w.heap.size, 0, none⟩ : Addr).add j) = some u := by
 intro j u h
 have e : (⟨w.heap.size, 0, none⟩ : Addr).add j = ⟨w.heap.size, j, none⟩ := by unfold Addr.add; split <;> simp_all
 rw [e, cell_of_row _ _ _ _ 119 (0, 0) (heap_alloc_new w _)]
 simpa [lcells] using h

/-- What the last region reads. -/
def SM (w : World) (g a : Nat) (v : Value) (W : World) : Prop := W.cell? ⟨w.heap.size, 0, none⟩ = some (.pointer (some ⟨g, 0, none⟩)) ∧ W.cell? ⟨g, 1, none⟩ = some (.int .i64 (a : Int)) ∧ W.cell? ⟨w.heap.size + 1, 0, none⟩ = some v

/-- A line is told. -/
theorem MidAt.line {w W : World} {g m : Nat} {O : Option Addr} {xA : Option Addr} {xn : Nat} {xt : List Int} {v : Value} {ls : List LV} {X Y : World} {a f1 : Nat} {c1 : List Int} {O1 : Option Addr} {co1 : Nat}
  (h : MidAt w W g m O xA xn xt v ls X a f1 c1 O1 co1) {f2 : Nat} (hf : IsFr Y g m a f2 [] false none 0) (hg : X.grownBy Y (some g)) (x : LV) (ty : TypeId) (hl : ls.length ≤ 99000) :
  ∃ q qn qc Z, ∃ v' : Value, v' = .slice (some ⟨q, 0, none⟩) qn qc ∧ (Builtin.append_ #[115, 115] ty #[v, .slice (some ⟨Y.heap.size, 0, none⟩) 1 1]).run Tryz.prog (Y.alloc (.cells (lvv x) 119)) = .ok v' Z ∧ (SM w g a v Y ∧ SM w g a v (Y.alloc (.cells (lvv x) 119)) ∧ SM w g a v Z) ∧ Z.frozen? ⟨w.heap.size + 1, 0, none⟩ = false ∧
   KeepsFrom (w.heap.size + 3) W (Z.setCell ⟨w.heap.size + 1, 0, none⟩ v') ∧ Kf (w.heap.size + 3) g (w.heap.size + 1) W (Z.setCell ⟨w.heap.size + 1, 0, none⟩ v') ∧
   ∀ fr cur L, lin m fr cur L = ls ++ [x] → fin fr cur L = (f2, []) → a = f2 → FeedAt w g m fr cur O L (Z.setCell ⟨w.heap.size + 1, 0, none⟩ v') := by
 have hlt := h.lt
 have hsz := h.sz
 have hb0 : X.heap.size ≤ Y.heap.size := hg.size
 -- the row, in the world behind the line
 have hown : OwnL Y (w.heap.size + 3) v ls := World.ownsRow.kept h.own hg (by
  cases hv : v.ownBlock with
  | none => exact .inl rfl
  | some b => exact .inr (fun e => by cases e; have := (h.own.lt _ hv).1; omega))
 have hob : Y.heap[w.heap.size + 1]? = some (.cells #[v] 115 (0, 0)) := (hg.block _ (by omega) (by intro e; cases e; omega)).trans h.obox
 have hfb : Y.heap[w.heap.size]? = some (.cells #[.pointer (some ⟨g, 0, none⟩)] 73 (0, 0)) := (hg.block _ (by omega) (by intro e; cases e; omega)).trans h.fbox
 have ba := (Below.refl Y.heap.size Y).alloc (Nat.le_refl _) (.cells (lvv x) 119)
 have hown2 : OwnL (Y.alloc (.cells (lvv x) 119)) (w.heap.size + 3) v ls := World.ownsRow.alloc hown _
 obtain ⟨v', Z, r1, r2, r3, r4⟩ := run_append_lines (Y.alloc (.cells (lvv x) 119)) ty (w.heap.size + 3) v ls hown2 ⟨Y.heap.size, 0, none⟩ 1 1 [x] rfl (cell_line Y x) (by omega) (by simp; omega)
 have hvb : ∀ b, v.ownBlock = some b → w.heap.size + 3 ≤ b ∧ b < Y.heap.size := fun b e => hown.lt b e
 have hz : Y.heap.size + 1 ≤ Z.heap.size := by have := r3.size; rwa [World.size_alloc] at this
 -- what lies elsewhere
 have keep : ∀ k, k < Y.heap.size → v.ownBlock ≠ some k → Z.heap[k]? = Y.heap[k]? := fun k hk hn =>
  (r3.block k (by rw [World.size_alloc]; omega) (fun e => hn e.symm)).trans (ba.block k hk)
 have kne : ∀ k, k < w.heap.size + 3 → Z.heap[k]? = Y.heap[k]? := fun k hk => keep k (by omega) (fun e => by have := (hvb k e).1; omega)
 have zob : Z.heap[w.heap.size + 1]? = some (.cells #[v] 115 (0, 0)) := (kne _ (by omega)).trans hob
 have zfb := (kne w.heap.size (by omega)).trans hfb
 have zgrow : Y.grownBy Z v.ownBlock := ⟨r3.os, r3.tape, r3.output, by omega, fun k hk hn => keep k hk (fun e => hn e.symm)⟩
 have zf : IsFr Z g m a f2 [] false none 0 := hf.kept zgrow (fun e => by have := (hvb g e.symm).1; omega) (fun ad e => by cases e)
 have hset : ∀ k, k ≠ w.heap.size + 1 → (Z.setCell ⟨w.heap.size + 1, 0, none⟩ v').heap[k]? = Z.heap[k]? := fun k hk => heap_setCell_other _ _ _ _ hk
 have hv'b : ∀ b, v'.ownBlock = some b → b ≠ w.heap.size + 1 := fun b e => by have := (r2.lt b e).1; omega
 have own' : OwnL (Z.setCell ⟨w.heap.size + 1, 0, none⟩ v') (w.heap.size + 3) v' (ls ++ [x]) := World.ownsRow.kept r2 (grown_set Z (w.heap.size + 1) 0 v') (by
  cases hv : v'.ownBlock with
  | none => exact .inl rfl
  | some b => exact .inr (fun e => hv'b b hv (Option.some.inj e)))
 have zf' : IsFr (Z.setCell ⟨w.heap.size + 1, 0, none⟩ v') g m a f2 [] false none 0 := zf.kept (grown_set Z (w.heap.size + 1) 0 v') (fun e => by cases e; omega) (fun ad e => by cases e)
 have zs : (Z.setCell ⟨w.heap.size + 1, 0, none⟩ v').heap.size = Z.heap.size := by simp [World.setCell]
 have sm : ∀ V : World, V.heap[w.heap.size]? = some (.cells #[.pointer (some ⟨g, 0, none⟩)] 73 (0, 0)) → V.heap[w.heap.size + 1]? = some (.cells #[v] 115 (0, 0)) → IsFr V g m a f2 [] false none 0 → SM w g a v V := fun V a1 a2 a3 =>
  ⟨by rw [cell_of_row _ _ _ _ 73 (0, 0) a1]; rfl, a3.cells.2.1, by rw [cell_of_row _ _ _ _ 115 (0, 0) a2]; rfl⟩
 obtain ⟨q, qc, hvq⟩ : ∃ q qc, v' = .slice (some ⟨q, 0, none⟩) (ls ++ [x]).length qc := by
  rcases r2.2 with ⟨_, h0⟩ | ⟨q, cap, cs, e, _⟩
  ·simp at h0
  ·exact ⟨q, cap, e⟩
 refine ⟨q, _, qc, Z, v', hvq, r1, ⟨sm Y hfb hob hf, sm _ ((ba.block _ (by omega)).trans hfb) ((ba.block _ (by omega)).trans hob) (hf.below ba), sm Z zfb zob zf⟩, frozen_of_row _ _ 0 _ 115 zob, ?_, ?_, ?_⟩
 ·refine h.kf.trans ⟨by omega, fun k o hk hko ho => ?_⟩
  have hkX : k < X.heap.size := (Array.getElem?_eq_some_iff.1 hko).1
  rw [hset k (by omega), keep k (by omega) (fun e => ?_), hg.block k hkX (by intro e; cases e; omega)]
  ·exact hko
  ·rcases h.own.2 with ⟨rfl, _⟩ | ⟨b, cap, cs, rfl, _, hbk, _⟩
   ·cases e
   ·cases e; rw [hbk] at hko; cases hko; cases ho
 ·refine h.kp.trans ⟨by omega, fun k hk hkg hko => ?_⟩
  rw [hset k hko, kne k hk, hg.block k (by omega) (fun e => hkg (Option.some.inj e))]
 ·intro fr cur L e1 e2 e3
  refine ⟨(hset _ (by omega)).trans zfb, ⟨v', none, 0, ?_, by rw [e1]; exact own', by rw [e2]; subst e3; exact zf', fun ad e => by cases e⟩, ?_, by omega⟩
  ·exact heap_setCell_same _ _ 0 _ 115 v' zob
  ·refine grown_step (q := g) ⟨r3.os.trans (ba.os.trans (hg.os.trans h.grown.os)), r3.tape.trans (ba.tape.trans (hg.tape.trans h.grown.tape)), r3.output.trans (ba.output.trans (hg.output.trans h.grown.output)), by have := h.grown.size; omega, fun k hk hn => ?_⟩ _ (.inr (by show w.heap.size ≤ w.heap.size + 1; omega)) v'
   rw [kne k (by omega), hg.block k (by omega) hn, h.grown.block k hk hn]
end Go.Proofs.YtngmgpmkjdacaaaGreatDoor

/-
 A range over a function whose iterator first turns a block of its own, then keeps all of an age. Regions that draw their order, ahead of a walk that goes by frames.
-/
import Derived.Test.YtngmgpmkjdacaaaGreatDoorMLnD
set_option linter.unusedSimpArgs false
set_option linter.unusedVariables false
namespace Go.Proofs.YtngmgpmkjdacaaaGreatDoor
set_option maxRecDepth 100000
open Go.RowKit

/-- rows that are older than n, but one, are kept -/
def Ka (o n : Nat) (W W' : World) : Prop := W.heap.size ≤ W'.heap.size ∧ ∀ k c t fz, k < n → k ≠ o → W.heap[k]? = some (.cells c t fz) → W'.heap[k]? = W.heap[k]?
theorem Ka.trans {o n : Nat} {A B C : World} (h1 : Ka o n A B) (h2 : Ka o n B C) : Ka o n A C :=
 ⟨Nat.le_trans h1.1 h2.1, fun k c t fz hk ho h => by
  have e := h1.2 k c t fz hk ho h
  exact (h2.2 k c t fz hk ho (e.trans h)).trans e⟩
theorem Ka.putObj {o n l : Nat} {W : World} {x : Obj} (h : W.heap[l]? = some x) (hx : x.isCells = false) (y : Obj) : Ka o n W (W.putObj l y) := by
 refine ⟨by simp [World.putObj], fun k c t fz hk ho hc => ?_⟩
 have hne : k ≠ l := fun e => by
  subst e
  rw [h] at hc
  cases hc
  cases hx
 exact World.putObj_heap_other hne

theorem Ka.below {o n : Nat} {W W' : World} (h : Below W.heap.size W W') : Ka o n W W' := ⟨h.size, fun k _ _ _ _ _ hk => h.block k (Array.getElem?_eq_some_iff.1 hk).1⟩

/-- The contract of an iterator that first turns block c; from then on rows of that age are kept, but o. -/
def SeqFr {α : Type} (P : Program) (g : Nat) (lb : Array Value) (encs : α → Array Value) (Ok : List α → α → World → Prop) (S : List α → World → Prop) (c o : Nat) (w : World) : Prop :=
 ∀ (l : Nat) (J : Nat → List α → World → Prop) (W : World), Below w.heap.size w W → (∀ n, AbidesFrom W.heap.size (J n)) → (∀ n X X', J n [] X → X.grownBy X' (some c) → J n [] X') →
  (∀ n m X, J n [] X → m ≤ X.heap.size → J m [] X) →
  (∀ n pre x W1, J n pre W1 → n ≤ W1.heap.size → Ok pre x W1 → YieldAt Fence.wide 1 P l (encs x) W1 fun e W' => e = .returned (.bool true) ∧ J n (pre ++ [x]) W' ∧ Ka o n W1 W') →
  J 0 [] W → CallsIn Fence.wide 2 P g (#[.func (.yield l) #[] #[]] ++ lb) W fun e W' => (∃ v, e = .returned v) ∧ ∃ n xs, S xs W' ∧ J n xs W'

/-- What the body of such a round owes. -/
def frPost {α : Type} (B o n : Nat) (I : Nat → List α → World → Prop) (xs : List α) (W : World) : Exit → Act → World → Prop
 | .normal, _, W' => KeepsFrom B W W' ∧ Ka o n W W' ∧ I n xs W'
 | _, _, _ => False

theorem wpIn_rangeFunc_fr {α : Type} {P : Program} {w : World} {g : Operand} {ps : Array Tmp} {assign body : Code} {Q : Exit → Act → World → Prop} {a : Act}
  {gf : Nat} {lb : Array Value} (hg : a.eval g = .func (.func gf) #[] lb) (eg : ∀ args w, (callFunc gf args).run P w = .ok (.enter gf args) w)
  {encs : α → Array Value} {Ok : List α → α → World → Prop} {S : List α → World → Prop} {c o : Nat} {w0 : World} (hseq : SeqFr P gf lb encs Ok S c o w0) (hc : c < w.heap.size)
  (hb0 : Below w0.heap.size w0 w) (hps : ∀ x, (encs x).size = ps.size)
  (hOk : ∀ pre x W l o o', Ok pre x W → W.heap[l]? = some o → o.isCells = false → Ok pre x (W.putObj l o'))
  (hSk : ∀ xs W l o o', S xs W → W.heap[l]? = some o → o.isCells = false → S xs (W.putObj l o'))
  (I : Nat → List α → World → Prop) (hI : ∀ n, OwnFrom w.heap.size (I n)) (hIc : ∀ n X X', I n [] X → X.grownBy X' (some c) → I n [] X') (hIn : ∀ n m X, I n [] X → m ≤ X.heap.size → I m [] X) (h0 : I 0 [] w) (a₁ : α → Nat → Act) (Box : α → Nat → World → Prop)
  (hOkb : ∀ pre x W W', Ok pre x W → Below W.heap.size W W' → Ok pre x W') (hBk : ∀ x b W l o o', Box x b W → W.heap[l]? = some o → o.isCells = false → Box x b (W.putObj l o'))
  (hassign : ∀ (l : Nat) (pre : List α) (x : α) (W : World) (K : Act → World → Prop), Ok pre x W → (∀ W', Below W.heap.size W W' → Box x W.heap.size W' → K (a₁ x W.heap.size) W') →
   assign.wpIn (Fence.wide.inRound l) 1 P (Exit.then K (fun _ _ _ => False)) { tmps := (ps.zip (encs x)).foldl (fun t (p, v) => t.setIfInBounds p v) a.tmps, defers := [] } W)
  (hbody : ∀ (l n : Nat) (pre : List α) (x : α) (b : Nat) (W : World), I n pre W → n ≤ W.heap.size → Ok pre x W → Box x b W → body.wpIn (Fence.wide.inRound l) 1 P (frPost w.heap.size o n I (pre ++ [x]) W) (a₁ x b) W)
  (hdone : ∀ (D n : Nat) (xs : List α) (W : World), w.heap.size ≤ D → S xs W → I n xs W → W.heap[D]? = some (.deferred (some [])) → Q .normal { a with defers := { target := .collected D, args := #[] } :: a.defers } W) :
  (Code.rangeFunc g ps assign body).wpIn Fence.wide 3 P Q a w := by
 refine wpIn_rangeFunc fun fn hfn => ?_
 let rec' : LoopState → Loop := fun st => { state := st, pending := none, fn, tmps := a.tmps, params := ps, assign, body, defers := w.heap.size }
 obtain ⟨W1, hW1⟩ : ∃ W1, (w.alloc (.deferred (some []))).alloc (.loop (rec' .ready)) = W1 := ⟨_, rfl⟩
 have hl1 : W1.heap[w.heap.size + 1]? = some (.loop (rec' .ready)) := by
  have := World.alloc_heap_new (w.alloc (.deferred (some []))) (.loop (rec' .ready))
  rwa [World.size_alloc, hW1] at this
 have hd1 : W1.heap[w.heap.size]? = some (.deferred (some [])) := by
  rw [← hW1]; exact (Below.heap_alloc _ _ _ (by simp)).trans (World.alloc_heap_new w _)
 have hs1 : W1.heap.size = w.heap.size + 2 := by rw [← hW1]; simp
 refine ⟨w.heap.size + 1, _, W1, { target := .fn (.func gf) lb, args := #[.func (.yield (w.heap.size + 1)) #[] #[]] }, W1, gf, #[.func (.yield (w.heap.size + 1)) #[] #[]] ++ lb, W1,
  by rw [← hW1]; exact run_enterLoop_outer _ _ _ _ _, by simp only [resolve, hg]; simp [go_sem], fun _ _ => trivial, by simp [invoke, go_sem, eg], (fun e => by cases e), ?_⟩
 refine (hseq (w.heap.size + 1) (fun n pre W => I n pre W ∧ W.heap[w.heap.size + 1]? = some (.loop (rec' .ready)) ∧ W.heap[w.heap.size]? = some (.deferred (some []))) W1 ?_ ?_ ?_ ?_ ?_ ?_).mono ?_
 ·rw [← hW1]; exact hb0.trans ((((Below.refl _ w).alloc (Nat.le_refl _) _).alloc (by simp) _).mono hb0.size)
 ·intro n s X Y row hs hgr hr
  have hlt : ∀ r, row = some r → r ≠ w.heap.size + 1 ∧ r ≠ w.heap.size := fun r e => by have := (hr r e).1; omega
  have hkeep : ∀ k o, (k = w.heap.size + 1 ∨ k = w.heap.size) → X.heap[k]? = some o → Y.heap[k]? = some o := fun k o hk ho =>
   (hgr.block k (Array.getElem?_eq_some_iff.1 ho).1 (fun e => by
    rcases hk with h | h
    ·exact (hlt _ e.symm).1 h
    ·exact (hlt _ e.symm).2 h)).trans ho
  exact ⟨hI n s X Y row hs.1 hgr (fun r e => ⟨by have := (hr r e).1; omega, by obtain ⟨o, ho, hw⟩ := (hr r e).2; exact ⟨o, ho, Obj.not_cells_of_walk hw⟩⟩), hkeep _ _ (.inl rfl) hs.2.1, hkeep _ _ (.inr rfl) hs.2.2⟩
 ·intro n X X' hs hgr
  have hkeep : ∀ k o, (k = w.heap.size + 1 ∨ k = w.heap.size) → X.heap[k]? = some o → X'.heap[k]? = some o := fun k o hk ho =>
   (hgr.block k (Array.getElem?_eq_some_iff.1 ho).1 (fun e => by
    have := Option.some.inj e
    omega)).trans ho
  exact ⟨hIc _ _ _ hs.1 hgr, hkeep _ _ (.inl rfl) hs.2.1, hkeep _ _ (.inr rfl) hs.2.2⟩
 ·exact fun n m X hs hm => ⟨hIn n m X hs.1 hm, hs.2⟩
 · -- a round
  rintro n pre x W ⟨hi, hl, hd⟩ hn hok
  have hlt : w.heap.size + 1 < W.heap.size := (Array.getElem?_eq_some_iff.1 hl).1
  refine ⟨fn, _, assign, body, run_yield (P := P) (args := encs x) hl (hps x), roundIn_of_wpIn hfn (hassign _ pre x W _ hok fun W' hbW hbox => ?_)⟩
  have hi' := hI n pre W W' none hi (grown_below hbW) (fun r e => by cases e)
  have hl' := (hbW.block _ (Array.getElem?_eq_some_iff.1 hl).1).trans hl
  have hd' := (hbW.block _ (Array.getElem?_eq_some_iff.1 hd).1).trans hd
  have hok' := hOkb _ _ _ _ hok hbW
  have hlt' : w.heap.size + 1 < W'.heap.size := (Array.getElem?_eq_some_iff.1 hl').1
  refine ⟨_, run_beginRound hl' rfl, ?_⟩
  have hl2 : (W'.putObj (w.heap.size + 1) (.loop (rec' .busy))).heap[w.heap.size + 1]? = some (.loop (rec' .busy)) := World.putObj_heap_same hlt'
  have hd2 : (W'.putObj (w.heap.size + 1) (.loop (rec' .busy))).heap[w.heap.size]? = some (.deferred (some [])) := (World.putObj_heap_other (by omega)).trans hd'
  refine wpIn_mono (hbody _ n pre x W.heap.size _ ((hI n).putObj _ hi' (by omega) hl' rfl) (by simpa [World.putObj] using Nat.le_trans hn hbW.size) (hOk _ _ _ _ _ _ hok' hl' rfl) (hBk _ _ _ _ _ _ hbox hl' rfl)) ?_
  rintro e a3 W3 hp
  cases e with
  | normal =>
   obtain ⟨hk3, hkp3, hi3⟩ := hp
   have hl3 := hk3.same _ _ (by omega) hl2 rfl
   have hd3 := hk3.same _ _ (Nat.le_refl _) hd2 rfl
   refine ⟨_, _, run_endRound none hl3, rfl, ⟨(hI n).putObj _ hi3 (by omega) hl3 rfl, World.putObj_heap_same (Array.getElem?_eq_some_iff.1 hl3).1, (World.putObj_heap_other (by omega)).trans hd3⟩, ?_⟩
   exact (Ka.below hbW).trans (((Ka.putObj hl' rfl _).trans hkp3).trans (Ka.putObj hl3 rfl _))
  | _ => exact hp.elim
 ·exact ⟨by rw [← hW1]; exact (hI 0).alloc _ ((hI 0).alloc _ h0), hl1, hd1⟩
 ·rintro e W2 ⟨⟨v, rfl⟩, n, xs, hS, hi, hl, hd⟩
  exact ⟨none, _, run_endLoop hl (by simp [rec']), hdone _ n xs _ (Nat.le_refl _) (hSk _ _ _ _ _ hS hl rfl) ((hI n).putObj _ hi (by omega) hl rfl) ((World.putObj_heap_other (by omega)).trans hd)⟩
end Go.Proofs.YtngmgpmkjdacaaaGreatDoor
namespace Go.Proofs.YtngmgpmkjdacaaaGreatDoor
set_option maxRecDepth 100000
open Go.RowKit

theorem oper_wide {P : Program} {n : Nat} {o : Oper} {a : Act} {w : World} {K : Act → World → Prop} {Q : Exit → Act → World → Prop} (h : o.wp P a w K Q) : o.wpIn Fence.wide n P a w K Q := by
 refine ⟨fun _ _ => trivial, ?_⟩
 rw [show Fence.wide.round = none from rfl, Oper.semAt_none]
 unfold Oper.wp at h
 revert h
 generalize (execOp a.eval o).run P w = r
 intro h
 cases r with
 | ok x w' =>
  cases x <;> first
   | exact h
   | exact ⟨fun e => (by cases e), callsIn_wide.2 h⟩
   | exact ⟨fun e => (by cases e), fun c cs _ => let ⟨v, w2, r2, s⟩ := h c cs; ⟨v, w2, r2, stepsIn_wide.2 s⟩⟩
   | exact h.elim
 | halt x w' => cases x <;> first | exact h | exact h.elim

theorem any_wide {P : Program} {n : Nat} {md : Region.Mode} {ops : Array Oper} {Q : Exit → Act → World → Prop} (hQ : ¬ LetsOut Q) :
  ∀ (fuel : Nat) (listed : Array Bool) (a : Act) (w : World), wpAny P md ops Q fuel listed a w → wpAnyIn Fence.wide n P md ops Q fuel listed a w
 | 0, _, _, _, h => h
 | fuel + 1, listed, a, w, h => by
  refine ⟨h.1, fun i hi => ?_⟩
  have h2 := h.2 i hi
  unfold wpOp at h2
  unfold wpOpIn
  cases ho : ops[i]? with
  | none => rw [ho] at h2; exact any_wide hQ fuel _ _ _ h2
  | some o =>
   rw [ho] at h2
   dsimp only at h2 ⊢
   split
   ·rename_i hw
    rw [if_pos hw] at h2
    rcases h2 with h2 | ⟨_, h2⟩
    ·exact Oper.wpIn_mono (fun a' w' h' => any_wide hQ fuel _ _ _ h') (oper_wide h2)
    ·exact (hQ h2).elim
   ·rename_i hw
    rw [if_neg hw] at h2
    exact ⟨fun _ _ => trivial, any_wide hQ fuel _ _ _ h2⟩
theorem region_wide {P : Program} {n id : Nat} {ops : Array Oper} {Q : Exit → Act → World → Prop} (S : World → Prop) (z : Nat) {a : Act} {w : World} (hm : P.follows .mixedOrders = true) (hQ : ¬ LetsOut Q)
  (h : wpAnyZ P .any ops Q S z ops.size (Array.replicate ops.size false) a w.drew) : (Code.region id ops true).wpIn Fence.wide n P Q a w :=
 wpIn_region_any hm (any_wide hQ _ _ _ _ (any_of_z _ _ _ _ h))
end Go.Proofs.YtngmgpmkjdacaaaGreatDoor

/-
 alive(): true, in whatever world.
-/
import Derived.Test.YtngmgpmkjdacaaaGreatDoorMPa
import Derived.Test.YtngmgpmkjdacaaaGreatDoorMPb
import Derived.Test.YtngmgpmkjdacaaaGreatDoorMPc
import Derived.Test.YtngmgpmkjdacaaaGreatDoorMPd
import Derived.Test.YtngmgpmkjdacaaaGreatDoorMPe
import Derived.Test.YtngmgpmkjdacaaaGreatDoorMPf
import Derived.Test.YtngmgpmkjdacaaaGreatDoorMPg
import Derived.Test.YtngmgpmkjdacaaaGreatDoorMPh
import Derived.Test.YtngmgpmkjdacaaaGreatDoorMPi
import Derived.Test.YtngmgpmkjdacaaaGreatDoorMPj
import Derived.Test.YtngmgpmkjdacaaaGreatDoorMPk
set_option linter.unusedSimpArgs false
set_option linter.unusedVariables false
namespace Go.Eng
open Go Go.Proofs

noncomputable def lastOut : Option AV := match run T2 6000 c31 with
 | some c => endVal T2 4 c
 | none => none
set_option maxRecDepth 1000000 in
theorem last_true : boolIs lastOut true = true := by kernel_rfl

theorem alive_runs : ∃ c, Runs T2 c0 c ∧ endVal T2 4 c = some (.at (.bool true)) := by
 have h := boolIs_get last_true
 unfold lastOut at h
 cases hr : run T2 6000 c31 with
 | none => rw [hr] at h; cases h
 | some c =>
  rw [hr] at h
  refine ⟨c, ?_, h⟩
  refine .runK r0 (.runK r1 (.runK r2 (.runK r3 (.runK r4 (.runK r5 (.runK r6 (.runK r7 (.runK r8 (.runK r9 (.runK r10 (.runK r11 (.runK r12 (.runK r13 (.runK r14 (.runK r15 (.runK r16 (.runK r17 (.runK r18 (.runK r19 (.runK r20 (.runK r21 (.runK r22 (.runK r23 (.runK r24 (.runK r25 (.runK r26 (.runK r27 (.runK r28 (.runK r29 (.runK r30 (.run 6000 hr (.refl _))))))))))))))))))))))))))))))))

def powL : List Nat := [1, 10, 100, 1000, 10000, 100000, 1000000, 10000000, 100000000, 1000000000, 10000000000, 100000000000, 1000000000000, 10000000000000, 100000000000000, 1000000000000000, 10000000000000000, 100000000000000000, 1000000000000000000, 10000000000000000000]
def powRow : Array Value := (powL.map fun n => Value.int .u64 (.ofNat n)).toArray
def rho1 : Map := fun b => if b = 1 then some ⟨1, 0, 20⟩ else none

theorem enter4 : ∃ fr, enterA T2 4 [] false = some fr ∧ c0 = ⟨fr, [], ⟨hT [(1, .cells 361 (nums .u64 powL) false false)], 8⟩⟩ := by
 cases h : enterA T2 4 [] false with
 | none =>
  exfalso
  have : (enterA T2 4 [] false).isSome = true := by kernel_rfl
  rw [h] at this
  cases this
 | some fr =>
  refine ⟨fr, rfl, ?_⟩
  unfold c0
  rw [h]
  rfl

theorem alive_any (w : World) (fz : Nat × Nat) (ht : w.heap[1]? = some (.cells powRow 361 fz)) : Calls Tryz.prog 4 #[] w fun e w' => e = .returned (.bool true) ∧ Kp (fun k => w.heap.size ≤ k) w w' := by
 obtain ⟨c, hruns, hend⟩ := alive_runs
 obtain ⟨fr, he, hc⟩ := enter4
 rw [hc] at hruns
 have hlt : 1 < w.heap.size := (Array.getElem?_eq_some_iff.1 ht).1
 have hget : ∀ b a, (⟨hT [(1, .cells 361 (nums .u64 powL) false false)], 8⟩ : AHeap).get b = some a → b = 1 ∧ a = .cells 361 (nums .u64 powL) false false := fun b a hb => by
  have : (Tr.set 2 Tr.leaf 1 (AObj.cells 361 (nums .u64 powL) false false)).get b = some a := hb
  rw [Tr.get_set _ _ _ _ _ (by omega)] at this
  split at this
  ·rename_i e
   exact ⟨e, (Option.some.inj this).symm⟩
  ·cases this
 have hrho : ∀ b x, rho1 b = some x → b = 1 ∧ x = ⟨1, 0, 20⟩ := fun b x hb => by
  unfold rho1 at hb
  split at hb
  ·rename_i e; exact ⟨e, (Option.some.inj hb).symm⟩
  ·cases hb
 have h0 : HR rho1 (fun _ => undef) (fun k => w.heap.size ≤ k) ⟨hT [(1, .cells 361 (nums .u64 powL) false false)], 8⟩ w := by
  refine ⟨fun b a x hb hx => ?_, fun b x hx => ?_, fun b b' a a' x x' hne hb hb' => ?_, fun b a x hb hx hs => ?_⟩
  ·obtain ⟨rfl, rfl⟩ := hget b a hb
   obtain ⟨_, rfl⟩ := hrho 1 x hx
   refine ⟨_, ht, .cells (by simp [powRow, powL]) (by simp [nums, powL]) (fun j a hj => ?_) (fun h => by cases h) (fun h => by cases h) (fun h => by cases h)⟩
   unfold nums at hj
   rw [List.getElem?_map] at hj
   cases hn : powL[j]? with
   | none => rw [hn] at hj; cases hj
   | some n =>
    rw [hn] at hj
    cases hj
    exact ⟨.int .u64 (.ofNat n), by simp [powRow, hn], .at _⟩
  ·obtain ⟨rfl, rfl⟩ := hrho b x hx
   exact ⟨by decide, hlt⟩
  ·exact absurd ((hget b a hb).1.trans (hget b' a' hb').1.symm) hne
  ·obtain ⟨_, rfl⟩ := hget b a hb
   rcases hs with h | h <;> cases h
 refine (calls_of_runs (ρ := rho1) (σ := fun _ => undef) (args' := []) T2_ok .nil h0 (fun k hk => hk) (fun k hk => ?_) he hruns hend).mono ?_
 ·have : k = 1 := Nat.eq_of_beq_eq_true hk
  subst this
  exact ⟨20, rfl⟩
 ·rintro e w' ⟨v', ρ', rfl, h1, _, h3⟩
  rw [h1.at_inv]
  exact ⟨rfl, h3⟩
end Go.Eng

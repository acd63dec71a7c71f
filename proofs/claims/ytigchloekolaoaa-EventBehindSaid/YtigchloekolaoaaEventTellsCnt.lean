/-
  The plain laws of Count over the printed functions of EventTells.
-/
import Derived.Test.YtigchloekolaoaaEventTellsFew
namespace Go.Proofs.Ytigchloekolaoaa.PEventTells
open Go.RowKit Go.Proofs.YtigchloekolaoaaW.PrintWords Go.Proofs.YtigchloekolaoaaW.PrintLast Go.Proofs.YtigchloekolaoaaW.PrintMore

abbrev C7 := Int × Int × Int × Int × Int × Int × Int
def add7 (a b : C7) : C7 := (wrap64 (a.1 + b.1), wrap64 (a.2.1 + b.2.1), wrap64 (a.2.2.1 + b.2.2.1), wrap64 (a.2.2.2.1 + b.2.2.2.1), wrap64 (a.2.2.2.2.1 + b.2.2.2.2.1), wrap64 (a.2.2.2.2.2.1 + b.2.2.2.2.2.1), wrap64 (a.2.2.2.2.2.2 + b.2.2.2.2.2.2))
def one7 (e : S46) : C7 :=
  if e.f0 = 1 then (1, (e.f3.length : Int), wrap64 (e.f2 - e.f1), 0, 0, 0, 0) else if e.f0 = 2 then (0, 0, 0, 1, wrap64 (e.f2 - e.f1), 0, 0) else if e.f0 = 3 then (0, 0, 0, 0, 0, 1, wrap64 (e.f2 - e.f1)) else (0, 0, 0, 0, 0, 0, 0)
def cnt (l : List S46) (c : C7) : C7 := l.foldl (fun c e => add7 c (one7 e)) c
def zero7 : C7 := (0, 0, 0, 0, 0, 0, 0)

theorem one_is (e : S46) : event_one.f e.f0 e.f1 e.f2 e.f3 e.f4 e.f5 = some (one7 e) := by
  unfold event_one.f one7
  by_cases h1 : e.f0 = 1
  · rw [if_pos h1, if_pos h1]
  · rw [if_neg h1, if_neg h1]
    by_cases h2 : e.f0 = 2
    · rw [if_pos h2, if_pos h2]
    · rw [if_neg h2, if_neg h2]
      by_cases h3 : e.f0 = 3
      · rw [if_pos h3, if_pos h3]
      · rw [if_neg h3, if_neg h3]

theorem drop_step {α : Type} (l : List α) (i : Nat) (z : α) (hi : i < l.length) : l.drop i = l.getD i z :: l.drop (i + 1) := by
  rw [List.drop_eq_getElem_cons hi]
  simp [hi]

theorem count_loop (l : List S46) (hl : l.length ≤ 1000) : ∀ (d i : Nat) (c : C7), i + d = l.length →
    Ev (fun k => event_Count.l0 k l (l.length : Int) i c.1 c.2.1 c.2.2.1 c.2.2.2.1 c.2.2.2.2.1 c.2.2.2.2.2.1 c.2.2.2.2.2.2) (cnt (l.drop i) c) := by
  intro d
  induction d with
  | zero =>
    intro i c hi
    rw [List.drop_eq_nil_of_le (by omega)]
    refine Ev.step (f := fun _ => some c) (fun k => ?_) (Ev.now _)
    simp only [event_Count.l0]
    rw [if_neg (by omega)]
  | succ d ih =>
    intro i c hi
    have hlt : i < l.length := by omega
    have hrd : rd_T46 l (i : Int) = l.getD i z46 := by unfold rd_T46; rw [Int.toNat_natCast]
    rw [drop_step l i z46 hlt]
    refine Ev.step (fun k => ?_) (ih (i + 1) (add7 c (one7 (l.getD i z46))) (by omega))
    simp only [event_Count.l0]
    rw [if_pos (by omega), if_pos (by omega), if_pos (by omega), hrd, one_is, w_succ (by omega) (by omega)]
    rfl

theorem count_ev (l : List S46) (hl : l.length ≤ 1000) : Ev (fun k => event_Count.f k l) (cnt l zero7) := by
  have := count_loop l hl l.length 0 zero7 (by omega)
  exact this
end Go.Proofs.Ytigchloekolaoaa.PEventTells

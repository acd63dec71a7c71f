/-
  An argument that is an array, by value: its cells.
-/
import Derived.Test.YtiikppiogglppaaArgs
import Derived.WideShapes
namespace Go.Proofs.Ytiikppiogglppaa
open Go.RowKit
theorem okWide_array {P : Program} {w : World} {r : Reach} {base : Nat} {t e : TypeId} {n : Nat} {v : Value} (ht : P.underlying t = some (.array n e)) (h : Value.okWide P w r base t v) : ∃ cs, v = .agg cs ∧ cs.size = P.cellsOf t := by
  unfold Value.okWide at h
  rw [ht] at h
  obtain ⟨cs, e, hs, _⟩ := h
  exact ⟨cs, e, hs⟩
end Go.Proofs.Ytiikppiogglppaa

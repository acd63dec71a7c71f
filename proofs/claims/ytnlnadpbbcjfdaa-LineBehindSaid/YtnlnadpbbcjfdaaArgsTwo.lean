/-
  An argument that is two slices of bytes, by value: each is tidy.
-/
import Derived.Test.YtnlnadpbbcjfdaaArgs
namespace Go.Proofs.Ytnlnadpbbcjfdaa
open Go.RowKit

theorem ct34 : Try.prog.cellTypes Try.prog.depth 34 = some [22, 22] := by kernel_rfl

theorem tidy_two {W : World} {base n0 c0 n1 c1 : Nat} {A0 A1 : Option Addr} (h : Value.okWide Try.prog W .any base 34 (.agg #[.slice A0 n0 c0, .slice A1 n1 c1])) :
    (Tidy A0 c0 ∧ ∀ ad, A0 = some ad → ad.block < W.heap.size) ∧ (Tidy A1 c1 ∧ ∀ ad, A1 = some ad → ad.block < W.heap.size) := by
  unfold Value.okWide at h
  rw [Try.underlying34] at h
  obtain ⟨cs, e, _, ts, hts, _, hall⟩ := h
  cases e
  rw [ct34] at hts
  cases hts
  obtain ⟨u0, e0, k0⟩ := hall 0 _ rfl
  obtain ⟨u1, e1, k1⟩ := hall 1 _ rfl
  cases e0
  cases e1
  exact ⟨tidy_of (base := base) (len := n0) Try.underlying22 (by unfold Value.okWide; rw [Try.underlying22]; exact k0), tidy_of (base := base) (len := n1) Try.underlying22 (by unfold Value.okWide; rw [Try.underlying22]; exact k1)⟩
end Go.Proofs.Ytnlnadpbbcjfdaa

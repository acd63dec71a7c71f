-- Laid by the kit's print over bodies of the prover's own for a few functions
import Derived.Test.YtigchloekolaoaaPEventTellsx0
namespace Go.Proofs.Ytigchloekolaoaa.PEventTells
open Go.RowKit Go.Proofs.YtigchloekolaoaaW.PrintWords Go.Proofs.YtigchloekolaoaaW.PrintLast Go.Proofs.YtigchloekolaoaaW.PrintMore
attribute [local go_sem] max2_int min2_int max_two min_two max_three min_three max_four min_four   -- for this text's walks alone
set_option linter.unusedVariables false
set_option linter.unusedSimpArgs false

theorem eqA39 (d : Nat) (w : World) (x0 y0 : Bool) (x1 y1 : Int) (x2 y2 : Int) :
    (Op.equalIn (d + 2) 39 (.agg #[.bool x0, .int .u64 x1, .int .i64 x2]) (.agg #[.bool y0, .int .u64 y1, .int .i64 y2])).run Try.prog w = .ok (x0 == y0 && (x1 == y1 && (x2 == y2))) w := by
  refine eqA_of Try.underlying39 (by kernel_rfl) ?_
  refine eqf_cons (by rfl) (by go_simp; rfl) (by go_simp; rfl) (by go_simp) ?_
  refine eqf_cons (by rfl) (by go_simp; rfl) (by go_simp; rfl) (by go_simp) ?_
  exact eqf_last (by rfl) (by go_simp; rfl) (by go_simp; rfl) (by go_simp)
end Go.Proofs.Ytigchloekolaoaa.PEventTells

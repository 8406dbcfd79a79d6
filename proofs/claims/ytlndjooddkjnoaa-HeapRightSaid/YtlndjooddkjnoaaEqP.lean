/- Pairs of places compared. -/
import Derived.DeepKeys4
import Derived.Test.YtlndjooddkjnoaaMapP
import Derived.Test.YtlndjooddkjnoaaHE
set_option linter.unusedVariables false
set_option linter.unusedSimpArgs false
namespace Go.Proofs.Ytlndjooddkjnoaa
open Go.RowKit

set_option maxRecDepth 100000 in
theorem eqP (a b c d : Int) (w : World) : (binOp .eql 89 (.agg #[.int .i64 a, .int .i64 b]) (.agg #[.int .i64 c, .int .i64 d])).run Try.prog w = .ok (.bool (decide (a = c ∧ b = d))) w := by
  obtain ⟨i, hi⟩ : ∃ i, Try.prog.info? 3 = some i := Option.isSome_iff_exists.1 (by kernel_rfl)
  have hc : Try.prog.cellsOf 3 = 1 := by kernel_rfl
  have h : (Op.equalIn 10000 89 (.agg #[.int .i64 a, .int .i64 b]) (.agg #[.int .i64 c, .int .i64 d])).run Try.prog w = .ok (decide (a = c ∧ b = d)) w := by
    refine (Go.run_equalIn_array w 9999 #[.int .i64 a, .int .i64 b] #[.int .i64 c, .int .i64 d] Try.underlying89 hi).trans ?_
    rw [hc]
    by_cases h1 : a = c <;> by_cases h2 : b = d <;> simp [List.range_succ, Op.eqItems, h1, h2, go_sem, part]
  go_simp
end Go.Proofs.Ytlndjooddkjnoaa

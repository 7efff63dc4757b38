/- The examples of chapter 2: cuts and fills. Conditions: none. -/
import Derived.Test.YtkomdfgffgkphaaTrKa
namespace Go.Tr
open Go Go.Proofs
theorem run_fill : Run.ok Try.prog ⟨31, [dryA, i64 0], .tuple [tab 1 [[i64 0], [i64 1]], i64 0]⟩ := run_ok mixed2 (l := []) (by simp) 1000 60 (by kernel_rfl)
theorem run_cut : Run.ok Try.prog ⟨55, [netA, .agg [i64 0, i64 2]], .tuple [tab 1 [[i64 1]], i64 0]⟩ := run_ok mixed2 (l := []) (by simp) 1000 60 (by kernel_rfl)
end Go.Tr

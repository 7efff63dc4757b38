/- The examples of chapter 2: the circulation. Conditions: none. -/
import Derived.Test.YtkomdfgffgkphaaTrKa
namespace Go.Tr
open Go Go.Proofs
theorem run_circ : Run.ok Try.prog ⟨48, [netA], .tuple [.agg [i64 17, i64 18], i64 0]⟩ := run_ok mixed2 (l := []) (by simp) 1000 60 (by kernel_rfl)
end Go.Tr

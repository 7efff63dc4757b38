/- The examples of chapter 2 are as they should be: awake gives true. Conditions: none. -/
import Derived.Test.YtkomdfgffgkphaaTrKc
import Derived.Test.YtkomdfgffgkphaaTrKd
import Derived.Test.YtkomdfgffgkphaaTrKe
namespace Go.Tr
open Go Go.Proofs
def runs2 : List Run := [⟨69, [], netA⟩, ⟨70, [], dryA⟩, ⟨28, [tab 1 [[i64 100], [i64 400]], i64 30], .tuple [.agg [i64 36101, i64 40000], i64 0]⟩, ⟨42, [netA, i64 17], .tuple [i64 (-2200), i64 0]⟩,
  ⟨31, [dryA, i64 0], .tuple [tab 1 [[i64 0], [i64 1]], i64 0]⟩, ⟨55, [netA, .agg [i64 0, i64 2]], .tuple [tab 1 [[i64 1]], i64 0]⟩, ⟨48, [netA], .tuple [.agg [i64 17, i64 18], i64 0]⟩]
theorem runs2_ok : ∀ x ∈ runs2, x.ok Try.prog := by
  intro x hx
  simp only [runs2, List.mem_cons, List.not_mem_nil, or_false] at hx
  rcases hx with rfl | rfl | rfl | rfl | rfl | rfl | rfl
  · exact run_net
  · exact run_dry
  · exact run_drop
  · exact run_gap
  · exact run_fill
  · exact run_cut
  · exact run_circ
theorem S14 : SP 14 [] (vb true) false := run_ok mixed2 runs2_ok 1000 60 (y := vb true) (by kernel_rfl)
end Go.Tr

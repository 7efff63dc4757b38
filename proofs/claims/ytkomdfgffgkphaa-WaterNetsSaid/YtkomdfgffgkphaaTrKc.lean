/- The examples of chapter 2 are as they should be: awake gives true. Conditions: none. -/
import Derived.Test.YtkomdfgffgkphaaTrKb
namespace Go.Tr
open Go Go.Proofs

def G83 : FuncId → List AV → Option (AV × Bool)
  | 83, [.val (.int .i64 r), .val (.int .i64 d)] => bif decide (0 ≤ r) && decide (r ≤ 1000000) then some (.agg [i64 (loF r d), i64 (hiF r d)], false) else none
  | _, _ => none
theorem G83_ok (f : FuncId) (args : List AV) (r : AV) (fr : Bool) (h : G83 f args = some (r, fr)) : SP f args r fr ∧ fr = false := by
  unfold G83 at h
  split at h
  · rename_i r0 d0
    cases hb : (decide (0 ≤ r0) && decide (r0 ≤ 1000000)) with
    | true =>
      rw [hb, cond_true] at h
      cases h
      simp only [Bool.and_eq_true, decide_eq_true_eq] at hb
      exact ⟨S83 r0 d0 hb.1 hb.2, rfl⟩
    | false => rw [hb] at h; cases h
  · cases h

theorem run_drop : Run.ok Try.prog ⟨28, [tab 1 [[i64 100], [i64 400]], i64 30], .tuple [.agg [i64 36101, i64 40000], i64 0]⟩ := run_okG mixed2 G83_ok 1000 60 (by kernel_rfl)
theorem run_gap : Run.ok Try.prog ⟨42, [netA, i64 17], .tuple [i64 (-2200), i64 0]⟩ := run_ok mixed2 (l := []) (by simp) 1000 60 (by kernel_rfl)
end Go.Tr

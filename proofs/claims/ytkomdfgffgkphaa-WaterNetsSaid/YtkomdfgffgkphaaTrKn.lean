/- The law WaterNets returns true for every net and every two numbers. Conditions: none. -/
import Derived.Test.YtkomdfgffgkphaaTrKm
import Derived.Test.YtkomdfgffgkphaaTrKf
namespace Go.Tr
open Go Go.Proofs
set_option maxRecDepth 20000

theorem few_bounds {N : Net} (h : fewB N = true) : N.ns.length ≤ 12 ∧ N.cs.length ≤ 16 := by
  unfold fewB at h
  simp only [Bool.and_eq_true, decide_eq_true_eq] at h
  exact h.1.1

theorem S18a (r f : Int) (h : 0 ≤ r ∧ r ≤ 1000 ∧ -200000 ≤ f ∧ f ≤ 200000) : SP 18 [i64 r, i64 f] (.tuple [i64 (lossF r f), i64 0]) false := by
  have := S18 r f
  rw [if_pos h] at this
  exact this
theorem S18b (r f : Int) (h : ¬ (0 ≤ r ∧ r ≤ 1000 ∧ -200000 ≤ f ∧ f ≤ 200000)) : SP 18 [i64 r, i64 f] (.tuple [i64 0, i64 2]) false := by
  have := S18 r f
  rw [if_neg h] at this
  exact this

theorem S3 (N : Net) (hN : N.In) (r f : Int) : SP 3 [netV N, i64 r, i64 f] (vb true) false := by
  by_cases hc : 0 ≤ r ∧ r ≤ 1000 ∧ -200000 ≤ f ∧ f ≤ 200000
  · refine sound (d := 2) mixed2 Try.func3 (by kernel_rfl) (by kernel_rfl) ?_
    refine .inl ⟨_, _, byS (d := 2) (S14), ?_⟩
    refine .inl ⟨_, _, byS (d := 2) (S15 N hN), ?_⟩
    refine ifB_intro (fun h1 => ?_) (fun h1 => ?_)
    · refine ⟨?_, nofun⟩
      rfl
    · obtain ⟨b1, b2⟩ := few_bounds (not_f h1)
      refine .inl ⟨_, _, byS (d := 2) (S17 N (by omega) (by omega)), ?_⟩
      refine .inl ⟨_, _, byS (d := 2) (S16 N hN), ?_⟩
      refine .inl ⟨_, _, byS (d := 2) (S18a r f hc), ?_⟩
      refine .inl ⟨_, _, byS (d := 2) (S19 N hN), ?_⟩
      refine ifB_intro (fun h2 => ?_) (fun h2 => ?_)
      · exact absurd rfl (bne_iff_ne.1 h2)
      · refine ifB_intro (fun h3 => ?_) (fun h3 => ?_)
        · exact absurd rfl (bne_iff_ne.1 h3)
        · refine .inl ⟨_, _, byS (d := 2) (S20 r 0 1000), ?_⟩
          refine ifB_intro (fun h4 => ?_) (fun h4 => ?_)
          · exact absurd (of_decide_eq_false (not_t h4)) (by omega)
          · refine .inl ⟨_, _, byS (d := 2) (S21 f), ?_⟩
            refine ifB_intro (fun h5 => ?_) (fun h5 => ?_)
            · exact absurd (if_pos (by omega)) (bne_iff_ne.1 h5)
            · refine .inl ⟨_, _, byS (d := 2) (S22 r f (by omega) (by omega) (by omega) (by omega)), ?_⟩
              refine ⟨?_, nofun⟩
              show vb (lossF r f == lossF r f) = vb true
              rw [beq_self_eq_true]
  · refine sound (d := 2) mixed2 Try.func3 (by kernel_rfl) (by kernel_rfl) ?_
    refine .inl ⟨_, _, byS (d := 2) (S14), ?_⟩
    refine .inl ⟨_, _, byS (d := 2) (S15 N hN), ?_⟩
    refine ifB_intro (fun h1 => ?_) (fun h1 => ?_)
    · refine ⟨?_, nofun⟩
      rfl
    · obtain ⟨b1, b2⟩ := few_bounds (not_f h1)
      refine .inl ⟨_, _, byS (d := 2) (S17 N (by omega) (by omega)), ?_⟩
      refine .inl ⟨_, _, byS (d := 2) (S16 N hN), ?_⟩
      refine .inl ⟨_, _, byS (d := 2) (S18b r f hc), ?_⟩
      refine .inl ⟨_, _, byS (d := 2) (S19 N hN), ?_⟩
      refine ifB_intro (fun h2 => ?_) (fun h2 => ?_)
      · exact absurd rfl (bne_iff_ne.1 h2)
      · refine ifB_intro (fun h3 => ?_) (fun h3 => ?_)
        · exact absurd rfl (bne_iff_ne.1 h3)
        · refine .inl ⟨_, _, byS (d := 2) (S20 r 0 1000), ?_⟩
          refine ifB_intro (fun h4 => ?_) (fun h4 => ?_)
          · refine ⟨?_, nofun⟩
            rfl
          · refine .inl ⟨_, _, byS (d := 2) (S21 f), ?_⟩
            refine ifB_intro (fun h5 => ?_) (fun h5 => ?_)
            · refine ⟨?_, nofun⟩
              rfl
            · have h4' := of_decide_eq_true (not_f h4)
              have h5' : (if -200000 ≤ f ∧ f ≤ 200000 then (0 : Int) else 2) = 0 := bne_eq_false_iff_eq.1 h5
              rw [if_neg (by omega)] at h5'
              exact absurd h5' (by decide)
end Go.Tr

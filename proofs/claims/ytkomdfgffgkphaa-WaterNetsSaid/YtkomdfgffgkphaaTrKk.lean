/- Contracts of chapter 2: errors of conduits (reference). Conditions: none. -/
import Derived.Test.YtkomdfgffgkphaaTrKj
namespace Go.Tr
open Go Go.Proofs
set_option maxRecDepth 20000

def isN (nn : Nat) (k : Int) : Bool := decide (0 ≤ k ∧ k ≤ (nn : Int) - 1)
def conE (nn : Nat) (seen : List ByteArray) (c : Cn) : Int :=
  firstOf [un (nameB c.name) 4, un (!hasS seen c.name) 5, un (isN nn c.fr && isN nn c.to) 6, un (!(c.fr == c.to)) 13, un (decide (0 ≤ c.res ∧ c.res ≤ 1000)) 2, un (c.valve || c.opn) 3]

theorem S79 (N : Net) (hN : N.ns.length ≤ 1000) (c : Cn) (hc : c.In) (seen : List ByteArray) (hl : seen.length ≤ 1000) : SP 79 [netV N, .agg (cnC c), listS seen] (i64 (conE N.ns.length seen c)) false := by
  generalize hR : conE N.ns.length seen c = R
  unfold conE isN at hR
  refine sound (d := 2) mixed2 Try.func79 (by kernel_rfl) (by kernel_rfl) ?_
  refine .inl ⟨_, _, byS (d := 2) (S131 c.name hc.name), ?_⟩
  refine ifB_intro (fun h1 => ?_) (fun h1 => ?_)
  · rw [not_t h1] at hR
    refine ⟨?_, nofun⟩
    show i64 4 = i64 R
    rw [← hR]; rfl
  · rw [not_f h1] at hR
    refine .inl ⟨_, _, byS (d := 2) (S132 seen c.name (by omega)), ?_⟩
    refine ifB_intro (fun h2 => ?_) (fun h2 => ?_)
    · rw [h2] at hR
      refine ⟨?_, nofun⟩
      show i64 5 = i64 R
      rw [← hR]; rfl
    · rw [h2] at hR
      refine ⟨inK64 (by omega) (by omega), ?_⟩
      refine .inl ⟨_, _, byS (d := 2) (S20 c.fr 0 (N.ns.length - 1)), ?_⟩
      refine ifB_intro (fun h3 => ?_) (fun h3 => ?_)
      · rw [not_t h3] at hR
        refine ⟨?_, nofun⟩
        show i64 6 = i64 R
        rw [← hR]; rfl
      · rw [not_f h3] at hR
        refine ⟨inK64 (by omega) (by omega), ?_⟩
        refine .inl ⟨_, _, byS (d := 2) (S20 c.to 0 (N.ns.length - 1)), ?_⟩
        refine ifB_intro (fun h4 => ?_) (fun h4 => ?_)
        · rw [not_t h4] at hR
          refine ⟨?_, nofun⟩
          show i64 6 = i64 R
          rw [← hR]; rfl
        · rw [not_f h4] at hR
          refine ifB_intro (fun h5 => ?_) (fun h5 => ?_)
          · have h5' : (c.fr == c.to) = true := h5
            rw [h5'] at hR
            refine ⟨?_, nofun⟩
            show i64 13 = i64 R
            rw [← hR]; rfl
          · have h5' : (c.fr == c.to) = false := h5
            rw [h5'] at hR
            refine .inl ⟨_, _, byS (d := 2) (S20 c.res 0 1000), ?_⟩
            refine ifB_intro (fun h6 => ?_) (fun h6 => ?_)
            · rw [not_t h6] at hR
              refine ⟨?_, nofun⟩
              show i64 2 = i64 R
              rw [← hR]; rfl
            · rw [not_f h6] at hR
              refine ifB_intro (fun h7 => ?_) (fun h7 => ?_)
              · have h7' : c.valve = false := not_t h7
                rw [h7'] at hR
                refine ifB_intro (fun h8 => ?_) (fun h8 => ?_)
                · have h8' : c.opn = false := not_t h8
                  rw [h8'] at hR
                  refine ⟨?_, nofun⟩
                  show i64 3 = i64 R
                  rw [← hR]; rfl
                · have h8' : c.opn = true := not_f h8
                  rw [h8'] at hR
                  refine ⟨?_, nofun⟩
                  show i64 0 = i64 R
                  rw [← hR]; rfl
              · have h7' : c.valve = true := not_f h7
                rw [h7'] at hR
                refine ⟨?_, nofun⟩
                show i64 0 = i64 R
                rw [← hR]; rfl
end Go.Tr

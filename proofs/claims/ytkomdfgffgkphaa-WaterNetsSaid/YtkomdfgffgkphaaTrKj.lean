/- Contracts of chapter 2: a net copied, errors of nodes and conduits (reference). Conditions: none. -/
import Derived.Test.YtkomdfgffgkphaaTrKi
namespace Go.Tr
open Go Go.Proofs
set_option maxRecDepth 20000

theorem ave_agg2 {k : Nat} {a b a' b' : AV} (ha : AVE k a a') (hb : AVE k b b') : AVE (k + 1) (.agg [a, b]) (.agg [a', b']) := by
  refine ⟨rfl, fun i x y h1 h2 => ?_⟩
  match i, h1, h2 with
  | 0, h1, h2 => cases h1; cases h2; exact ha
  | 1, h1, h2 => cases h1; cases h2; exact hb

theorem S17 (N : Net) (h1 : N.ns.length ≤ 1000) (h2 : N.cs.length ≤ 1000) : SP 17 [netV N] (netV N) false := by
  refine sound (d := 2) mixed2 Try.func17 (by kernel_rfl) (by kernel_rfl) ?_
  refine ⟨[], by kernel_rfl, ?_⟩
  refine ⟨⟨by omega, show (0 + N.ns.length) * (40 + 1) ≤ 1000000000000 by omega⟩, ?_⟩
  refine ⟨⟨by omega, show (0 + N.cs.length) * (48 + 1) ≤ 1000000000000 by omega⟩, ?_⟩
  refine ⟨?_, nofun⟩
  refine ave_agg2 (k := 4) (a := .rslice 4 (0 + N.ns.length) _) (b := .rslice 6 (0 + N.cs.length) _) ⟨rfl, Nat.zero_add _, fun i _ => ?_⟩ ⟨rfl, Nat.zero_add _, fun i _ => ?_⟩
  · show ndC (N.ns.getD (0 + i - 0) nd0) = _
    rw [show 0 + i - 0 = i by omega]
  · show cnC (N.cs.getD (0 + i - 0) cn0) = _
    rw [show 0 + i - 0 = i by omega]

def un (c : Bool) (e : Int) : Int := if c then 0 else e
def nodeRight (n : Nd) : Bool := if n.lake then decide (0 ≤ n.head ∧ n.head ≤ 1000000) else decide (-10000 ≤ n.draw ∧ n.draw ≤ 10000)
def nodeOther (n : Nd) : Int := if n.lake then n.draw else n.head
def nodeE (seen : List ByteArray) (n : Nd) : Int := firstOf [un (nameB n.name) 4, un (!hasS seen n.name) 5, un (nodeRight n) 2, un (nodeOther n == 0) 3]

theorem S78 (n : Nd) (hn : n.In) (seen : List ByteArray) (hl : seen.length ≤ 1000) : SP 78 [.agg (ndC n), listS seen] (i64 (nodeE seen n)) false := by
  generalize hR : nodeE seen n = R
  unfold nodeE at hR
  have hnm := hn.name
  refine sound (d := 2) mixed2 Try.func78 (by kernel_rfl) (by kernel_rfl) ?_
  refine .inl ⟨_, _, byS (d := 2) (S131 n.name hn.name), ?_⟩
  refine ifB_intro (fun h1 => ?_) (fun h1 => ?_)
  · rw [not_t h1] at hR
    refine ⟨?_, nofun⟩
    show i64 4 = i64 R
    rw [← hR]; rfl
  · rw [not_f h1] at hR
    refine .inl ⟨_, _, byS (d := 2) (S132 seen n.name (by omega)), ?_⟩
    refine ifB_intro (fun h2 => ?_) (fun h2 => ?_)
    · rw [h2] at hR
      refine ⟨?_, nofun⟩
      show i64 5 = i64 R
      rw [← hR]; rfl
    · rw [h2] at hR
      refine ifB_intro (fun h3 => ?_) (fun h3 => ?_)
      · have h3' : n.lake = true := h3
        unfold nodeRight nodeOther at hR
        rw [h3'] at hR
        refine .inl ⟨_, _, byS (d := 2) (S20 n.head 0 1000000), ?_⟩
        refine ifB_intro (fun h4 => ?_) (fun h4 => ?_)
        · simp only [if_pos, not_t h4] at hR
          refine ⟨?_, nofun⟩
          show i64 2 = i64 R
          rw [← hR]; rfl
        · simp only [if_pos, not_f h4] at hR
          refine ifB_intro (fun h5 => ?_) (fun h5 => ?_)
          · have h5' : (n.draw == 0) = false := by have : (n.draw != 0) = true := h5; simpa using this
            rw [h5'] at hR
            refine ⟨?_, nofun⟩
            show i64 3 = i64 R
            rw [← hR]; rfl
          · have h5' : (n.draw == 0) = true := by have : (n.draw != 0) = false := h5; simpa using this
            rw [h5'] at hR
            refine ⟨?_, nofun⟩
            show i64 0 = i64 R
            rw [← hR]; rfl
      · have h3' : n.lake = false := h3
        unfold nodeRight nodeOther at hR
        rw [h3'] at hR
        refine .inl ⟨_, _, byS (d := 2) (S20 n.draw (-10000) 10000), ?_⟩
        refine ifB_intro (fun h4 => ?_) (fun h4 => ?_)
        · simp only [Bool.false_eq_true, if_false, not_t h4] at hR
          refine ⟨?_, nofun⟩
          show i64 2 = i64 R
          rw [← hR]; rfl
        · simp only [Bool.false_eq_true, if_false, not_f h4] at hR
          refine ifB_intro (fun h5 => ?_) (fun h5 => ?_)
          · have h5' : (n.head == 0) = false := by have : (n.head != 0) = true := h5; simpa using this
            rw [h5'] at hR
            refine ⟨?_, nofun⟩
            show i64 3 = i64 R
            rw [← hR]; rfl
          · have h5' : (n.head == 0) = true := by have : (n.head != 0) = false := h5; simpa using this
            rw [h5'] at hR
            refine ⟨?_, nofun⟩
            show i64 0 = i64 R
            rw [← hR]; rfl
end Go.Tr

/- Contracts of chapter 2: small functions. Conditions: none. -/
import Derived.Test.YtkomdfgffgkphaaTrAw
namespace Go.Tr
open Go Go.Proofs

set_option maxRecDepth 20000
theorem inK64 {n : Int} (h1 : -9223372036854775808 ≤ n) (h2 : n ≤ 9223372036854775807) : inK .i64 n := ⟨h1, h2⟩
abbrev SP := Sound1 Try.prog

theorem byS {d : Nat} {f : FuncId} {args : List AV} {r : AV} {fr : Bool} (h : SP f args r fr) : (envOf Try.prog d).S f args r fr := h
theorem byP {d : Nat} {f : FuncId} {args : List AV} {r : AV} {fr : Bool} (h : SP f args r fr) : (envOf Try.prog d).plain.S f args r fr := h

theorem S74 (x a b : Int) : SP 74 [i64 x, i64 a, i64 b] (vb (decide (a ≤ x ∧ x ≤ b))) false := by
  refine sound (d := 2) mixed2 Try.func74 (by kernel_rfl) (by kernel_rfl) ?_
  refine ifB_intro (fun h => ?_) (fun h => ?_)
  · have h' : a ≤ x := of_decide_eq_true h
    refine ⟨?_, nofun⟩
    show vb (decide (x ≤ b)) = vb _
    simp [h']
  · have h' : ¬ a ≤ x := of_decide_eq_false h
    refine ⟨?_, nofun⟩
    show vb false = vb _
    simp [h']

theorem S20 (x a b : Int) : SP 20 [i64 x, i64 a, i64 b] (vb (decide (a ≤ x ∧ x ≤ b))) false := by
  refine sound (d := 2) mixed2 Try.func20 (by kernel_rfl) (by kernel_rfl) ?_
  refine ifB_intro (fun h => ?_) (fun h => ?_)
  · have h' : a ≤ x := of_decide_eq_true h
    refine ⟨?_, nofun⟩
    show vb (decide (x ≤ b)) = vb _
    simp [h']
  · have h' : ¬ a ≤ x := of_decide_eq_false h
    refine ⟨?_, nofun⟩
    show vb false = vb _
    simp [h']

theorem S73 (x b : Int) (h1 : -9223372036854775807 ≤ b) (h2 : b ≤ 9223372036854775807) : SP 73 [i64 x, i64 b] (vb (decide (-b ≤ x ∧ x ≤ b))) false := by
  refine sound (d := 2) mixed2 Try.func73 (by kernel_rfl) (by kernel_rfl) ?_
  refine ⟨inK64 (by omega) (by omega), ?_⟩
  refine .inl ⟨_, _, byS (d := 2) (S74 x (-b) b), ?_⟩
  refine ⟨?_, nofun⟩
  rfl

theorem S72 (c : Bool) (e : Int) : SP 72 [vb c, i64 e] (i64 (if c then 0 else e)) false := by
  refine sound (d := 2) mixed2 Try.func72 (by kernel_rfl) (by kernel_rfl) ?_
  refine ifB_intro (fun h => ?_) (fun h => ?_)
  · subst h; refine ⟨?_, nofun⟩; rfl
  · subst h; refine ⟨?_, nofun⟩; rfl

/-- The first number that is not 0. -/
def firstOf : List Int → Int
  | [] => 0
  | x :: r => if x = 0 then firstOf r else x
theorem firstOf_drop (l : List Int) (k : Nat) (h : k < l.length) : firstOf (l.drop k) = if l.getD k 0 = 0 then firstOf (l.drop (k+1)) else l.getD k 0 := by
  rw [List.drop_eq_getElem_cons h, firstOf]; simp [List.getD, h]
def ints (l : List Int) : AV := .rslice 1 l.length fun i => [i64 (l.getD i 0)]

theorem S71 (l : List Int) (hl : l.length ≤ 1000000000) : SP 71 [ints l] (i64 (firstOf l)) false := by
  refine sound (d := 2) mixed2 Try.func71 (by kernel_rfl) (by kernel_rfl) ?_
  refine ⟨[], [5, 6, 7], fun s m => ∃ k : Nat, k ≤ l.length ∧ firstOf (l.drop k) = firstOf l ∧ s = ⟨[(5, ints l), (6, i64 l.length), (7, i64 k)], ⟨[], [], none, 0⟩, []⟩ ∧ m = l.length - k,
    ⟨_, _, ⟨0, by omega, rfl, rfl, rfl⟩, ⟨⟨rfl, rfl, rfl, rfl⟩, trivial, trivial⟩⟩, ?_⟩
  rintro s0 m0 ⟨k, hk, hf, rfl, rfl⟩
  refine ifB_intro (fun h1 => ?_) (fun h1 => ?_)
  · have hlt : k < l.length := by have := of_decide_eq_true h1; omega
    have hd := firstOf_drop l k hlt
    refine ⟨⟨by omega, by omega⟩, ?_⟩
    refine ifB_intro (fun h2 => ?_) (fun h2 => ?_)
    · have h2' : l.getD k 0 ≠ 0 := by have := bne_iff_ne.1 h2; exact this
      refine ⟨?_, nofun⟩
      rw [if_neg h2'] at hd
      show i64 _ = i64 _
      rw [← hf, hd]; rfl
    · have h2' : l.getD k 0 = 0 := by have := bne_eq_false_iff_eq.1 h2; exact this
      rw [if_pos h2'] at hd
      refine ⟨inK64 (by omega) (by omega), ?_⟩
      refine ⟨_, _, ⟨⟨k + 1, by omega, by omega, rfl, rfl⟩, by omega⟩, ⟨⟨rfl, rfl, rfl, rfl⟩, trivial, trivial⟩⟩
  · have hlt : k = l.length := by have := of_decide_eq_false h1; omega
    refine ⟨?_, nofun⟩
    subst hlt
    simp [firstOf] at hf
    show i64 _ = i64 _
    rw [← hf]
end Go.Tr

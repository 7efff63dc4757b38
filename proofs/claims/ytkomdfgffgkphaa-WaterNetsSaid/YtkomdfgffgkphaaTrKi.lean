/- Contracts of chapter 2: small nets. Conditions: none. -/
import Derived.Test.YtkomdfgffgkphaaTrKh
namespace Go.Tr
open Go Go.Proofs
set_option maxRecDepth 20000

def fewB (N : Net) : Bool := decide (N.ns.length ≤ 12 ∧ N.cs.length ≤ 16) && (N.ns.all fun n => decide (n.name.size ≤ 20)) && N.cs.all fun c => decide (c.name.size ≤ 20)

/-- The block of a boxed net. -/
abbrev netBlk (N : Net) : AB := ⟨2, 1, fun _ => [listA 4 ndC nd0 N.ns, listA 6 cnC cn0 N.cs], 0, false, true⟩

theorem all_drop {α : Type} {p : α → Bool} {l : List α} {k : Nat} (h : k < l.length) (d : α) : (l.drop k).all p = (p (l.getD k d) && (l.drop (k + 1)).all p) := by
  have e : l.getD k d = l[k] := by simp [List.getD_eq_getElem?_getD, h]
  rw [List.drop_eq_getElem_cons h, List.all_cons, e]

theorem S15 (N : Net) (hN : N.In) : SP 15 [netV N] (vb (fewB N)) false := by
  have hl1 := hN.nl
  have hl2 := hN.cl
  generalize hR : fewB N = R
  refine sound (d := 2) mixed2 Try.func15 (by kernel_rfl) (by kernel_rfl) ?_
  have no : ¬ (N.ns.length ≤ 12 ∧ N.cs.length ≤ 16) → vb false = vb R := fun h => by
    rw [← hR]; unfold fewB; rw [decide_eq_false h]; rfl
  refine ifB_intro (fun h1 => ?_) (fun h1 => ?_)
  · have h1' : (N.ns.length : Int) > 12 := of_decide_eq_true h1
    refine ⟨?_, nofun⟩
    exact no (by omega)
  · have h1' : ¬ (N.ns.length : Int) > 12 := of_decide_eq_false h1
    refine ifB_intro (fun h2 => ?_) (fun h2 => ?_)
    · have h2' : (N.cs.length : Int) > 16 := of_decide_eq_true h2
      refine ⟨?_, nofun⟩
      exact no (by omega)
    · have h2' : ¬ (N.cs.length : Int) > 16 := of_decide_eq_false h2
      have hR1 : ((N.ns.all fun n => decide (n.name.size ≤ 20)) && N.cs.all fun c => decide (c.name.size ≤ 20)) = R := by
        rw [← hR]; unfold fewB; rw [decide_eq_true (by omega), Bool.true_and]
      refine ⟨[], [1, 3], fun st m => ∃ k : Nat, k ≤ N.ns.length ∧ (((N.ns.drop k).all fun n => decide (n.name.size ≤ 20)) && N.cs.all fun c => decide (c.name.size ≤ 20)) = R ∧
          st = ⟨[(1, .optr 0 0 0 0), (3, i64 k)], ⟨[netBlk N], [], none, 0⟩, []⟩ ∧ m = N.ns.length - k,
        ⟨_, _, ⟨0, by omega, hR1, rfl, rfl⟩, ⟨⟨rfl, rfl, rfl, rfl⟩, ⟨⟨rfl, rfl, rfl, rfl, fun _ => rfl, fun _ _ => rfl⟩, trivial⟩, trivial⟩⟩, ?_⟩
      rintro s0 m0 ⟨k, hk, hf, rfl, rfl⟩
      refine ifB_intro (fun h3 => ?_) (fun h3 => ?_)
      · have hlt : k < N.ns.length := by have := of_decide_eq_true h3; omega
        have hnm : (N.ns.getD k nd0).In := hN.ns _ (by simp [List.getD_eq_getElem?_getD, hlt])
        have hs := hnm.name
        rw [all_drop hlt nd0] at hf
        refine ⟨⟨by omega, by omega⟩, ?_⟩
        refine ifB_intro (fun h4 => ?_) (fun h4 => ?_)
        · have h4' : ((N.ns.getD k nd0).name.size : Int) > 20 := of_decide_eq_true h4
          refine ⟨?_, nofun⟩
          show vb false = vb R
          rw [← hf, decide_eq_false (by omega)]; rfl
        · have h4' : ¬ ((N.ns.getD k nd0).name.size : Int) > 20 := of_decide_eq_false h4
          rw [decide_eq_true (by omega), Bool.true_and] at hf
          refine ⟨inK64 (by omega) (by omega), ?_⟩
          refine ⟨_, _, ⟨⟨k + 1, by omega, hf, rfl, rfl⟩, by omega⟩, ⟨⟨rfl, rfl, rfl, rfl⟩, ⟨⟨rfl, rfl, rfl, rfl, fun _ => rfl, fun _ _ => rfl⟩, trivial⟩, trivial⟩⟩
      · have hlt : k = N.ns.length := by have := of_decide_eq_false h3; omega
        subst hlt
        rw [List.drop_length, List.all_nil, Bool.true_and] at hf
        refine ⟨[], [1, 4], fun st m => ∃ k : Nat, k ≤ N.cs.length ∧ ((N.cs.drop k).all fun c => decide (c.name.size ≤ 20)) = R ∧
            st = ⟨[(1, .optr 0 0 0 0), (4, i64 k)], ⟨[netBlk N], [], none, 0⟩, []⟩ ∧ m = N.cs.length - k,
          ⟨_, _, ⟨0, by omega, hf, rfl, rfl⟩, ⟨⟨rfl, rfl, rfl, rfl⟩, ⟨⟨rfl, rfl, rfl, rfl, fun _ => rfl, fun _ _ => rfl⟩, trivial⟩, trivial⟩⟩, ?_⟩
        rintro s0 m0 ⟨k, hk, hf, rfl, rfl⟩
        refine ifB_intro (fun h3 => ?_) (fun h3 => ?_)
        · have hlt : k < N.cs.length := by have := of_decide_eq_true h3; omega
          have hnm : (N.cs.getD k cn0).In := hN.cs _ (by simp [List.getD_eq_getElem?_getD, hlt])
          have hs := hnm.name
          rw [all_drop hlt cn0] at hf
          refine ⟨⟨by omega, by omega⟩, ?_⟩
          refine ifB_intro (fun h4 => ?_) (fun h4 => ?_)
          · have h4' : ((N.cs.getD k cn0).name.size : Int) > 20 := of_decide_eq_true h4
            refine ⟨?_, nofun⟩
            show vb false = vb R
            rw [← hf, decide_eq_false (by omega)]; rfl
          · have h4' : ¬ ((N.cs.getD k cn0).name.size : Int) > 20 := of_decide_eq_false h4
            rw [decide_eq_true (by omega), Bool.true_and] at hf
            refine ⟨inK64 (by omega) (by omega), ?_⟩
            refine ⟨_, _, ⟨⟨k + 1, by omega, hf, rfl, rfl⟩, by omega⟩, ⟨⟨rfl, rfl, rfl, rfl⟩, ⟨⟨rfl, rfl, rfl, rfl, fun _ => rfl, fun _ _ => rfl⟩, trivial⟩, trivial⟩⟩
        · have hlt : k = N.cs.length := by have := of_decide_eq_false h3; omega
          subst hlt
          refine ⟨?_, nofun⟩
          show vb true = vb R
          rw [← hf, List.drop_length]; rfl
end Go.Tr

/- Contracts of chapter 2: losses, texts. Conditions: none. -/
import Derived.Test.YtkomdfgffgkphaaTrKg
namespace Go.Tr
open Go Go.Proofs
set_option maxRecDepth 20000

theorem ave2t (a b : Int) : AVE 5 (.tuple [i64 a, i64 b]) (.tuple [i64 a, i64 b]) := by
  refine ⟨rfl, fun i x y h1 h2 => ?_⟩
  match i, h1, h2 with
  | 0, h1, h2 => cases h1; cases h2; rfl
  | 1, h1, h2 => cases h1; cases h2; rfl

theorem mul_bound {a b A B : Int} (ha : -A ≤ a) (ha2 : a ≤ A) (hb : -B ≤ b) (hb2 : b ≤ B) (hA : 0 ≤ A) (hB : 0 ≤ B) : -(A * B) ≤ a * b ∧ a * b ≤ A * B := by
  have h1 : a.natAbs ≤ A.toNat := by omega
  have h2 : b.natAbs ≤ B.toNat := by omega
  have h3 : (a * b).natAbs ≤ A.toNat * B.toNat := by rw [Int.natAbs_mul]; exact Nat.mul_le_mul h1 h2
  have h4 : ((A.toNat * B.toNat : Nat) : Int) = A * B := by rw [Int.natCast_mul]; rw [Int.toNat_of_nonneg hA, Int.toNat_of_nonneg hB]
  omega

def sizeF (f : Int) : Int := if -f > f then -f else f
theorem sizeF_le {f B : Int} (h : -B ≤ f) (h2 : f ≤ B) : -B ≤ sizeF f ∧ sizeF f ≤ B := by unfold sizeF; split <;> omega
def lossF (r f : Int) : Int := r * f * sizeF f
theorem loss_bound {r f : Int} (hr : 0 ≤ r) (hr2 : r ≤ 1000) (hf : -200000 ≤ f) (hf2 : f ≤ 200000) : inK .i64 (r * f) ∧ inK .i64 (r * f * sizeF f) := by
  have h1 := mul_bound (A := 1000) (B := 200000) (by omega) hr2 hf hf2 (by omega) (by omega)
  have h2 := mul_bound (a := r * f) (b := sizeF f) (A := 200000000) (B := 200000) (by omega) (by omega) (sizeF_le hf hf2).1 (sizeF_le hf hf2).2 (by omega) (by omega)
  exact ⟨inK64 (by omega) (by omega), inK64 (by omega) (by omega)⟩

theorem S77 (r f : Int) (hr : 0 ≤ r) (hr2 : r ≤ 1000) (hf : -200000 ≤ f) (hf2 : f ≤ 200000) : SP 77 [i64 r, i64 f] (i64 (lossF r f)) false := by
  obtain ⟨h1, h2⟩ := loss_bound hr hr2 hf hf2
  refine sound (d := 2) mixed2 Try.func77 (by kernel_rfl) (by kernel_rfl) ?_
  refine ⟨h1, ?_⟩
  refine ⟨inK64 (by omega) (by omega), ?_⟩
  refine ⟨h2, ?_⟩
  refine ⟨?_, nofun⟩
  rfl

theorem S18 (r f : Int) : SP 18 [i64 r, i64 f] (.tuple (if 0 ≤ r ∧ r ≤ 1000 ∧ -200000 ≤ f ∧ f ≤ 200000 then [i64 (lossF r f), i64 0] else [i64 0, i64 2])) false := by
  generalize hR : (if 0 ≤ r ∧ r ≤ 1000 ∧ -200000 ≤ f ∧ f ≤ 200000 then [i64 (lossF r f), i64 0] else [i64 0, i64 2]) = R
  refine sound (d := 2) mixed2 Try.func18 (by kernel_rfl) (by kernel_rfl) ?_
  refine .inl ⟨_, _, byS (d := 2) (S74 r 0 1000), ?_⟩
  refine ifB_intro (fun h => ?_) (fun h => ?_)
  · have h' := of_decide_eq_false (not_t h)
    refine ⟨?_, nofun⟩
    rw [if_neg (by omega)] at hR
    subst hR
    exact ave2t _ _
  · have h' := of_decide_eq_true (not_f h)
    refine .inl ⟨_, _, byS (d := 2) (S73 f 200000 (by omega) (by omega)), ?_⟩
    refine ifB_intro (fun h2 => ?_) (fun h2 => ?_)
    · have h2' := of_decide_eq_false (not_t h2)
      refine ⟨?_, nofun⟩
      rw [if_neg (by omega)] at hR
      subst hR
      exact ave2t _ _
    · have h2' := of_decide_eq_true (not_f h2)
      refine .inl ⟨_, _, byS (d := 2) (S77 r f (by omega) (by omega) (by omega) (by omega)), ?_⟩
      refine ⟨?_, nofun⟩
      rw [if_pos (by omega)] at hR
      subst hR
      exact ave2t _ _

theorem S41 (f : Int) (hf : -200000 ≤ f) (hf2 : f ≤ 200000) : SP 41 [i64 f] (i64 (sizeF f)) false := by
  refine sound (d := 2) mixed2 Try.func41 (by kernel_rfl) (by kernel_rfl) ?_
  refine ⟨inK64 (by omega) (by omega), ?_⟩
  refine ⟨?_, nofun⟩
  rfl

theorem S22 (r f : Int) (hr : 0 ≤ r) (hr2 : r ≤ 1000) (hf : -200000 ≤ f) (hf2 : f ≤ 200000) : SP 22 [i64 r, i64 f] (i64 (lossF r f)) false := by
  obtain ⟨h1, h2⟩ := loss_bound hr hr2 hf hf2
  refine sound (d := 2) mixed2 Try.func22 (by kernel_rfl) (by kernel_rfl) ?_
  refine ⟨h1, ?_⟩
  refine .inl ⟨_, _, byS (d := 2) (S41 f hf hf2), ?_⟩
  refine ⟨h2, ?_⟩
  refine ⟨?_, nofun⟩
  rfl

theorem S21 (f : Int) : SP 21 [i64 f] (i64 (if -200000 ≤ f ∧ f ≤ 200000 then 0 else 2)) false := by
  generalize hR : (if -200000 ≤ f ∧ f ≤ 200000 then (0 : Int) else 2) = R
  refine sound (d := 2) mixed2 Try.func21 (by kernel_rfl) (by kernel_rfl) ?_
  refine .inl ⟨_, _, byS (d := 2) (S20 f (-200000) 200000), ?_⟩
  refine ifB_intro (fun h => ?_) (fun h => ?_)
  · have h' := of_decide_eq_false (not_t h)
    refine ⟨?_, nofun⟩
    rw [if_neg h'] at hR
    subst hR
    rfl
  · have h' := of_decide_eq_true (not_f h)
    refine ⟨?_, nofun⟩
    rw [if_pos h'] at hR
    subst hR
    rfl

def listS (l : List ByteArray) : AV := .rslice 1 l.length fun i => [sv (l.getD i ByteArray.empty)]
def hasS (l : List ByteArray) (s : ByteArray) : Bool := l.any fun x => x.toList == s.toList
theorem hasS_drop {l : List ByteArray} {k : Nat} (h : k < l.length) (s : ByteArray) : hasS (l.drop k) s = ((l.getD k ByteArray.empty).toList == s.toList || hasS (l.drop (k + 1)) s) := by
  have e : l.getD k ByteArray.empty = l[k] := by simp [List.getD_eq_getElem?_getD, h]
  unfold hasS
  rw [List.drop_eq_getElem_cons h, List.any_cons, e]

theorem S132 (l : List ByteArray) (s : ByteArray) (hl : l.length ≤ 1000000000) : SP 132 [listS l, sv s] (vb (hasS l s)) false := by
  generalize hR : hasS l s = R
  refine sound (d := 2) mixed2 Try.func132 (by kernel_rfl) (by kernel_rfl) ?_
  refine ⟨[], [0, 1, 5], fun st m => ∃ k : Nat, k ≤ l.length ∧ hasS (l.drop k) s = R ∧ st = ⟨[(0, listS l), (1, sv s), (5, i64 k)], ⟨[], [], none, 0⟩, []⟩ ∧ m = l.length - k,
    ⟨_, _, ⟨0, by omega, hR, rfl, rfl⟩, ⟨⟨rfl, rfl, rfl, rfl⟩, trivial, trivial⟩⟩, ?_⟩
  rintro s0 m0 ⟨k, hk, hf, rfl, rfl⟩
  refine ifB_intro (fun h1 => ?_) (fun h1 => ?_)
  · have hlt : k < l.length := by have := of_decide_eq_true h1; omega
    rw [hasS_drop hlt] at hf
    refine ⟨⟨by omega, by omega⟩, ?_⟩
    refine ifB_intro (fun h2 => ?_) (fun h2 => ?_)
    · have h2' : ((l.getD k ByteArray.empty).toList == s.toList) = true := h2
      rw [h2'] at hf
      refine ⟨?_, nofun⟩
      show vb true = vb R
      rw [← hf]; rfl
    · have h2' : ((l.getD k ByteArray.empty).toList == s.toList) = false := h2
      rw [h2', Bool.false_or] at hf
      refine ⟨inK64 (by omega) (by omega), ?_⟩
      refine ⟨_, _, ⟨⟨k + 1, by omega, hf, rfl, rfl⟩, by omega⟩, ⟨⟨rfl, rfl, rfl, rfl⟩, trivial, trivial⟩⟩
  · have hlt : k = l.length := by have := of_decide_eq_false h1; omega
    subst hlt
    refine ⟨?_, nofun⟩
    show vb false = vb R
    rw [← hf, List.drop_length]; rfl
end Go.Tr

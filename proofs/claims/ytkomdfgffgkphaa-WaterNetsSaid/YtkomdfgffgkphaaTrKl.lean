/- Contracts of chapter 2: which nets are valid (reference). Conditions: none. -/
import Derived.Test.YtkomdfgffgkphaaTrKk
import Derived.Test.YtkomdfgffgkphaaTrPl
namespace Go.Tr
open Go Go.Proofs
set_option maxRecDepth 20000

/-- The first that has an error, with its index. -/
def scan {α : Type} (e : List ByteArray → α → Int) (nm : α → ByteArray) : Nat → List ByteArray → List α → Option (Nat × Int)
  | _, _, [] => none
  | k, seen, x :: r => if e seen x = 0 then scan e nm (k + 1) (seen ++ [nm x]) r else some (k, e seen x)

theorem scan_drop {α : Type} {e : List ByteArray → α → Int} {nm : α → ByteArray} {l : List α} {k : Nat} (h : k < l.length) (d : α) (seen : List ByteArray) :
    scan e nm k seen (l.drop k) = if e seen (l.getD k d) = 0 then scan e nm (k + 1) (seen ++ [nm (l.getD k d)]) (l.drop (k + 1)) else some (k, e seen (l.getD k d)) := by
  have e : l.getD k d = l[k] := by simp [List.getD_eq_getElem?_getD, h]
  rw [List.drop_eq_getElem_cons h, scan, e]

def tailN (N : Net) : Int × Int := match scan (conE N.ns.length) Cn.name 0 [] N.cs with
  | some (k, e) => (k, e)
  | none => (0, 0)
def midN (N : Net) : Int × Int := match scan nodeE Nd.name 0 [] N.ns with
  | some (k, e) => (k, e)
  | none => tailN N
def checkN (N : Net) : Int × Int :=
  if N.ns.length = 0 ∨ N.cs.length = 0 then (0, 10) else if 10 < N.ns.length ∨ 14 < N.cs.length then (0, 8) else midN N
def pairA (p : Int × Int) : AV := .tuple [i64 p.1, i64 p.2]

theorem getD_append (seen : List ByteArray) (x : ByteArray) (i : Nat) (h : i < seen.length + 1) : (seen ++ [x]).getD i ByteArray.empty = if i < seen.length then seen.getD i ByteArray.empty else x := by
  by_cases hi : i < seen.length
  · simp [List.getD_eq_getElem?_getD, hi, List.getElem?_append_left hi]
  · have : i = seen.length := by omega
    subst this
    simp [List.getD_eq_getElem?_getD]

abbrev seenBlk (seen : List ByteArray) (fl : Bool) : AB := ⟨1, seen.length, fun i => [sv (seen.getD i ByteArray.empty)], 0, false, fl⟩
theorem listS_eq (seen : List ByteArray) : listS seen = .rslice 1 seen.length fun i => [sv (seen.getD (0 + i) ByteArray.empty)] := by
  unfold listS
  simp
theorem seen_next (seen : List ByteArray) (x : ByteArray) (i : Nat) (h : i < seen.length + 1) : [sv ((seen ++ [x]).getD i ByteArray.empty)] = if i < seen.length then [sv (seen.getD (0 + i) ByteArray.empty)] else List.take 1 (List.drop ((0 + (i - seen.length)) * 1) [sv x]) := by
  rw [getD_append seen x i h, Nat.zero_add]
  by_cases hi : i < seen.length
  · rw [if_pos hi, if_pos hi]
  · rw [if_neg hi, if_neg hi]
    have : i - seen.length = 0 := by omega
    rw [this]
    rfl
theorem S78a (n : Nd) (hn : n.In) (seen : List ByteArray) (hl : seen.length ≤ 1000) : SP 78 [.agg (ndC n), .rslice 1 seen.length fun i => [sv (seen.getD (0 + i) ByteArray.empty)]] (i64 (nodeE seen n)) true := by
  rw [← listS_eq]
  exact (S78 n hn seen hl).pl rfl
theorem S79a (N : Net) (hN : N.ns.length ≤ 1000) (c : Cn) (hc : c.In) (seen : List ByteArray) (hl : seen.length ≤ 1000) : SP 79 [netV N, .agg (cnC c), .rslice 1 seen.length fun i => [sv (seen.getD (0 + i) ByteArray.empty)]] (i64 (conE N.ns.length seen c)) true := by
  rw [← listS_eq]
  exact (S79 N hN c hc seen hl).pl rfl

theorem S19 (N : Net) (hN : N.In) : SP 19 [netV N] (pairA (checkN N)) false := by
  have hl1 := hN.nl
  have hl2 := hN.cl
  generalize hR : checkN N = R
  obtain ⟨R1, R2⟩ := R
  unfold checkN at hR
  refine sound (d := 2) mixed2 Try.func19 (by kernel_rfl) (by kernel_rfl) ?_
  have res : ∀ a b : Int, (a, b) = (R1, R2) → AVE 5 (.tuple [i64 a, i64 b]) (.tuple [i64 R1, i64 R2]) := fun a b h => by cases h; exact ave2t _ _
  refine ifB_intro (fun h1 => ?_) (fun h1 => ?_)
  · have h1' : (N.ns.length : Int) = 0 := eq_of_beq h1
    refine ⟨?_, nofun⟩
    rw [if_pos (by omega)] at hR
    exact res 0 10 hR
  · have h1' : ¬ (N.ns.length : Int) = 0 := ne_of_beq_false h1
    refine ifB_intro (fun h2 => ?_) (fun h2 => ?_)
    · have h2' : (N.cs.length : Int) = 0 := eq_of_beq h2
      refine ⟨?_, nofun⟩
      rw [if_pos (by omega)] at hR
      exact res 0 10 hR
    · have h2' : ¬ (N.cs.length : Int) = 0 := ne_of_beq_false h2
      rw [if_neg (by omega)] at hR
      refine ifB_intro (fun h3 => ?_) (fun h3 => ?_)
      · have h3' : (N.ns.length : Int) > 10 := of_decide_eq_true h3
        refine ⟨?_, nofun⟩
        rw [if_pos (by omega)] at hR
        exact res 0 8 hR
      · have h3' : ¬ (N.ns.length : Int) > 10 := of_decide_eq_false h3
        refine ifB_intro (fun h4 => ?_) (fun h4 => ?_)
        · have h4' : (N.cs.length : Int) > 14 := of_decide_eq_true h4
          refine ⟨?_, nofun⟩
          rw [if_pos (by omega)] at hR
          exact res 0 8 hR
        · have h4' : ¬ (N.cs.length : Int) > 14 := of_decide_eq_false h4
          rw [if_neg (by omega)] at hR
          refine ⟨[.slot 4 1], [1, 4, 5], fun st m => ∃ (k : Nat) (seen : List ByteArray), seen.length = k ∧ k ≤ N.ns.length ∧ (match scan nodeE Nd.name k seen (N.ns.drop k) with | some (k, e) => ((k : Int), e) | none => tailN N) = (R1, R2) ∧
              st = ⟨[(1, .optr 0 0 0 0), (4, .oslice 1 0 0 k none), (5, i64 k)], ⟨[netBlk N, ⟨1, k, fun i => [sv (seen.getD i ByteArray.empty)], 0, false, true⟩], [], none, 0⟩, []⟩ ∧ m = N.ns.length - k,
            ⟨_, _, ⟨0, [], rfl, by omega, hR, rfl, rfl⟩, ⟨⟨rfl, rfl, rfl, rfl⟩, ⟨⟨rfl, rfl, rfl, rfl, fun _ => rfl, fun _ _ => rfl⟩, ⟨rfl, rfl, rfl, rfl, fun _ => rfl, fun i h => absurd h (Nat.not_lt_zero i)⟩, trivial⟩, trivial⟩⟩, ?_⟩
          rintro s0 m0 ⟨k, seen, hk0, hk, hf, rfl, rfl⟩
          refine ifB_intro (fun h5 => ?_) (fun h5 => ?_)
          · have hlt : k < N.ns.length := by have := of_decide_eq_true h5; omega
            have hnm : (N.ns.getD k nd0).In := hN.ns _ (by simp [List.getD_eq_getElem?_getD, hlt])
            rw [scan_drop hlt nd0] at hf
            refine ⟨⟨by omega, by omega⟩, ?_⟩
            subst hk0
            refine .inl ⟨_, _, byS (d := 2) (S78a (N.ns.getD seen.length nd0) hnm seen (by omega)), ?_⟩
            refine ifB_intro (fun h6 => ?_) (fun h6 => ?_)
            · have h6' : ¬ nodeE seen (N.ns.getD seen.length nd0) = 0 := bne_iff_ne.1 h6
              rw [if_neg h6'] at hf
              refine ⟨?_, nofun⟩
              exact res _ _ hf
            · have h6' : nodeE seen (N.ns.getD seen.length nd0) = 0 := bne_eq_false_iff_eq.1 h6
              rw [if_pos h6'] at hf
              refine ⟨⟨by omega, by omega⟩, ?_⟩
              refine ⟨show (seen.length + 1) * (16 + 1) ≤ 1000000000000 by omega, ?_⟩
              refine ⟨inK64 (by omega) (by omega), ?_⟩
              refine ⟨_, _, ⟨⟨seen.length + 1, seen ++ [(N.ns.getD seen.length nd0).name], by simp, by omega, hf, rfl, rfl⟩, by omega⟩,
                ⟨⟨rfl, rfl, rfl, rfl⟩, ⟨⟨rfl, rfl, rfl, rfl, fun _ => rfl, fun _ _ => rfl⟩, ⟨rfl, rfl, rfl, rfl, fun _ => rfl, fun i h => ?_⟩, trivial⟩, trivial⟩⟩
              exact seen_next seen _ i h
          · have hlt : k = N.ns.length := by have := of_decide_eq_false h5; omega
            rw [hlt, List.drop_length, scan] at hf
            unfold tailN at hf
            clear hR hlt
            refine ⟨[.slot 4 1], [1, 4, 7], fun st m => ∃ (j : Nat) (se : List ByteArray), se.length = j ∧ j ≤ N.cs.length ∧ (match scan (conE N.ns.length) Cn.name j se (N.cs.drop j) with | some (k, e) => ((k : Int), e) | none => (0, 0)) = (R1, R2) ∧
                st = ⟨[(1, .optr 0 0 0 0), (4, .oslice 2 0 0 j none), (7, i64 j)], ⟨[netBlk N, ⟨1, k, fun i => [sv (seen.getD i ByteArray.empty)], 0, false, true⟩, ⟨1, j, fun i => [sv (se.getD i ByteArray.empty)], 0, false, true⟩], [], none, 0⟩, []⟩ ∧ m = N.cs.length - j,
              ⟨_, _, ⟨0, [], rfl, by omega, hf, rfl, rfl⟩, ⟨⟨rfl, rfl, rfl, rfl⟩, ⟨⟨rfl, rfl, rfl, rfl, fun _ => rfl, fun _ _ => rfl⟩, ⟨rfl, rfl, rfl, rfl, fun _ => rfl, fun _ _ => rfl⟩, ⟨rfl, rfl, rfl, rfl, fun _ => rfl, fun i h => absurd h (Nat.not_lt_zero i)⟩, trivial⟩, trivial⟩⟩, ?_⟩
            rintro s0 m0 ⟨j, se, hj0, hj, hf, rfl, rfl⟩
            refine ifB_intro (fun h5 => ?_) (fun h5 => ?_)
            · have hlt : j < N.cs.length := by have := of_decide_eq_true h5; omega
              have hnm : (N.cs.getD j cn0).In := hN.cs _ (by simp [List.getD_eq_getElem?_getD, hlt])
              rw [scan_drop hlt cn0] at hf
              refine ⟨[], by kernel_rfl, ?_⟩
              refine ⟨⟨by omega, by omega⟩, ?_⟩
              subst hj0
              refine .inl ⟨_, _, byP (d := 2) (S79a N (by omega) (N.cs.getD se.length cn0) hnm se (by omega)), ?_⟩
              refine ifB_intro (fun h6 => ?_) (fun h6 => ?_)
              · have h6' : ¬ conE N.ns.length se (N.cs.getD se.length cn0) = 0 := bne_iff_ne.1 h6
                rw [if_neg h6'] at hf
                refine ⟨?_, nofun⟩
                exact res _ _ hf
              · have h6' : conE N.ns.length se (N.cs.getD se.length cn0) = 0 := bne_eq_false_iff_eq.1 h6
                rw [if_pos h6'] at hf
                refine ⟨⟨by omega, by omega⟩, ?_⟩
                refine ⟨show (se.length + 1) * (16 + 1) ≤ 1000000000000 by omega, ?_⟩
                refine ⟨inK64 (by omega) (by omega), ?_⟩
                refine ⟨_, _, ⟨⟨se.length + 1, se ++ [(N.cs.getD se.length cn0).name], by simp, by omega, hf, rfl, rfl⟩, by omega⟩,
                  ⟨⟨rfl, rfl, rfl, rfl⟩, ⟨⟨rfl, rfl, rfl, rfl, fun _ => rfl, fun _ _ => rfl⟩, ⟨rfl, rfl, rfl, rfl, fun _ => rfl, fun _ _ => rfl⟩, ⟨rfl, rfl, rfl, rfl, fun _ => rfl, fun i h => ?_⟩, trivial⟩, trivial⟩⟩
                exact seen_next se _ i h
            · have hlt : j = N.cs.length := by have := of_decide_eq_false h5; omega
              rw [hlt, List.drop_length, scan] at hf
              refine ⟨?_, nofun⟩
              exact res 0 0 hf
end Go.Tr

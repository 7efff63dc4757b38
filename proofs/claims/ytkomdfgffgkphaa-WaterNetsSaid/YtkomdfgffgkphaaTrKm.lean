/- Contracts of chapter 2: which nets are valid (the program). Conditions: none. -/
import Derived.Test.YtkomdfgffgkphaaTrKl
namespace Go.Tr
open Go Go.Proofs
set_option maxRecDepth 20000

theorem toList_loop (b : ByteArray) : ∀ (n i : Nat) (r : List UInt8), b.size - i = n → ByteArray.toList.loop b i r = r.reverse ++ b.data.toList.drop i
  | 0, i, r, h => by
    unfold ByteArray.toList.loop
    have hs : b.data.toList.length = b.size := Array.length_toList
    rw [if_neg (by omega), List.drop_eq_nil_of_le (by omega), List.append_nil]
  | n + 1, i, r, h => by
    unfold ByteArray.toList.loop
    have hi : i < b.size := by omega
    have hs : i < b.data.toList.length := by rw [Array.length_toList]; exact hi
    rw [if_pos hi, toList_loop b n (i + 1) _ (by omega), List.drop_eq_getElem_cons hs]
    have : b.get! i = b.data.toList[i] := by
      have hi' : i < b.data.size := hi
      show b.data[i]! = _
      rw [getElem!_pos b.data i hi', Array.getElem_toList]
    rw [this]
    simp
theorem toList_data (b : ByteArray) : b.toList = b.data.toList := by
  unfold ByteArray.toList
  rw [toList_loop b b.size 0 [] rfl]
  simp
theorem toList_beq (a b : ByteArray) : (a == b) = (b.toList == a.toList) := by
  rw [toList_data, toList_data]
  show (a.data == b.data) = _
  by_cases h : a = b
  · subst h; simp
  · have h1 : ¬ a.data = b.data := fun e => h (ByteArray.ext e)
    have h2 : ¬ b.data.toList = a.data.toList := fun e => h (ByteArray.ext (Array.ext' e.symm))
    rw [beq_eq_false_iff_ne.2 h1, beq_eq_false_iff_ne.2 h2]

theorem hasS_snoc (seen : List ByteArray) (x s : ByteArray) : hasS (seen ++ [x]) s = (hasS seen s || (s == x)) := by
  rw [toList_beq]
  simp [hasS]

theorem S71g (l : List Int) (f : Nat → List AV) (hl : l.length ≤ 1000) (h : ∀ i, i < l.length → f i = [i64 (l.getD i 0)]) : SP 71 [.rslice 1 l.length f] (i64 (firstOf l)) true := by
  refine Sound1.pl ((S71 l (by omega)).args rfl fun i y x hy hx => ?_) rfl
  match i, hy, hx with
  | 0, hy, hx => cases hy; cases hx; exact ⟨rfl, rfl, h⟩

theorem S76 (N : Net) (hN : N.ns.length ≤ 1000) (k : Int) : SP 76 [i64 k, .rptr [listA 4 ndC nd0 N.ns, listA 6 cnC cn0 N.cs]] (vb (isN N.ns.length k)) true := by
  refine Sound1.pl ?_ rfl
  refine sound (d := 2) mixed2 Try.func76 (by kernel_rfl) (by kernel_rfl) ?_
  refine ⟨inK64 (by omega) (by omega), ?_⟩
  refine .inl ⟨_, _, byS (d := 2) (S74 k 0 (N.ns.length - 1)), ?_⟩
  refine ⟨?_, nofun⟩
  rfl

theorem unA (c : Bool) (e : Int) : SP 72 [vb c, i64 e] (i64 (un c e)) false := by
  have := S72 c e
  unfold un
  exact this

theorem map_next (hs : Value → Bool) (key k : Value) : vb (hs k || opEv.keyEq k key) = bif opEv.keyEq k key then vb true else vb (hs k) := by
  cases opEv.keyEq k key <;> simp
theorem node_first (hs : Value → Bool) (seen : List ByteArray) (n : Nd) (h : hs (.string n.name) = hasS seen n.name) : firstOf [un (nameB n.name) 4, un (!hs (.string n.name)) 5, un (nodeRight n) 2, un (nodeOther n == 0) 3] = nodeE seen n := by
  rw [h]; rfl
theorem hs_next {hs : Value → Bool} {seen : List ByteArray} {x : ByteArray} (h : ∀ s, hs (.string s) = hasS seen s) (s : ByteArray) : (hs (.string s) || opEv.keyEq (.string s) (.string x)) = hasS (seen ++ [x]) s := by
  rw [hasS_snoc, h s]; rfl

set_option maxHeartbeats 4000000 in
theorem S16 (N : Net) (hN : N.In) : SP 16 [netV N] (pairA (checkN N)) false := by
  have hl1 := hN.nl
  have hl2 := hN.cl
  generalize hR : checkN N = R
  obtain ⟨R1, R2⟩ := R
  unfold checkN at hR
  have res : ∀ a b : Int, (a, b) = (R1, R2) → AVE 5 (.tuple [i64 a, i64 b]) (.tuple [i64 R1, i64 R2]) := fun a b h => by cases h; exact ave2t _ _
  by_cases hA : N.ns.length = 0 ∨ N.cs.length = 0
  · rw [if_pos hA] at hR
    refine sound (d := 2) mixed2 Try.func16 (by kernel_rfl) (by kernel_rfl) ?_
    refine ifB_intro (fun h1 => ?_) (fun h1 => ?_)
    · have h1' : (N.ns.length : Int) > 0 := of_decide_eq_true h1
      refine ifB_intro (fun h2 => ?_) (fun h2 => ?_)
      · have h2' : (N.ns.length : Int) ≤ 10 := of_decide_eq_true h2
        have e : firstOf [un (decide ((N.cs.length : Int) > 0)) 10, un (decide ((N.cs.length : Int) ≤ 14)) 8] = 10 := by rw [decide_eq_false (by omega)]; rfl
        refine .inl ⟨_, _, byS (d := 2) (unA (decide ((N.cs.length : Int) > 0)) 10), ?_⟩
        refine .inl ⟨_, _, byS (d := 2) (unA (decide ((N.cs.length : Int) ≤ 14)) 8), ?_⟩
        refine .inl ⟨_, _, byS (d := 2) (S71g [un (decide ((N.cs.length : Int) > 0)) 10, un (decide ((N.cs.length : Int) ≤ 14)) 8] _ (Nat.le_of_ble_eq_true rfl) (fun i hi => match i, hi with | 0, _ => rfl | 1, _ => rfl)), ?_⟩
        refine ifB_intro (fun h3 => ?_) (fun h3 => ?_)
        · refine ⟨?_, nofun⟩
          exact res 0 _ (by rw [e]; exact hR)
        · exact absurd (bne_eq_false_iff_eq.1 h3) (by rw [e]; decide)
      · have h2' : ¬ (N.ns.length : Int) ≤ 10 := of_decide_eq_false h2
        have e : firstOf [un (decide ((N.cs.length : Int) > 0)) 10, un (false) 8] = 10 := by rw [decide_eq_false (by omega)]; rfl
        refine .inl ⟨_, _, byS (d := 2) (unA (decide ((N.cs.length : Int) > 0)) 10), ?_⟩
        refine .inl ⟨_, _, byS (d := 2) (unA (false) 8), ?_⟩
        refine .inl ⟨_, _, byS (d := 2) (S71g [un (decide ((N.cs.length : Int) > 0)) 10, un (false) 8] _ (Nat.le_of_ble_eq_true rfl) (fun i hi => match i, hi with | 0, _ => rfl | 1, _ => rfl)), ?_⟩
        refine ifB_intro (fun h3 => ?_) (fun h3 => ?_)
        · refine ⟨?_, nofun⟩
          exact res 0 _ (by rw [e]; exact hR)
        · exact absurd (bne_eq_false_iff_eq.1 h3) (by rw [e]; decide)
    · have h1' : ¬ (N.ns.length : Int) > 0 := of_decide_eq_false h1
      refine ifB_intro (fun h2 => ?_) (fun h2 => ?_)
      · have h2' : (N.ns.length : Int) ≤ 10 := of_decide_eq_true h2
        refine .inl ⟨_, _, byS (d := 2) (unA (false) 10), ?_⟩
        refine .inl ⟨_, _, byS (d := 2) (unA (decide ((N.cs.length : Int) ≤ 14)) 8), ?_⟩
        refine .inl ⟨_, _, byS (d := 2) (S71g [un (false) 10, un (decide ((N.cs.length : Int) ≤ 14)) 8] _ (Nat.le_of_ble_eq_true rfl) (fun i hi => match i, hi with | 0, _ => rfl | 1, _ => rfl)), ?_⟩
        refine ⟨?_, nofun⟩
        exact res 0 10 hR
      · have h2' : ¬ (N.ns.length : Int) ≤ 10 := of_decide_eq_false h2
        refine .inl ⟨_, _, byS (d := 2) (unA (false) 10), ?_⟩
        refine .inl ⟨_, _, byS (d := 2) (unA (false) 8), ?_⟩
        refine .inl ⟨_, _, byS (d := 2) (S71g [un (false) 10, un (false) 8] _ (Nat.le_of_ble_eq_true rfl) (fun i hi => match i, hi with | 0, _ => rfl | 1, _ => rfl)), ?_⟩
        refine ⟨?_, nofun⟩
        exact res 0 10 hR
  · rw [if_neg hA] at hR
    by_cases hB : 10 < N.ns.length ∨ 14 < N.cs.length
    · rw [if_pos hB] at hR
      refine sound (d := 2) mixed2 Try.func16 (by kernel_rfl) (by kernel_rfl) ?_
      refine ifB_intro (fun h1 => ?_) (fun h1 => ?_)
      · have h1' : (N.ns.length : Int) > 0 := of_decide_eq_true h1
        refine ifB_intro (fun h2 => ?_) (fun h2 => ?_)
        · have h2' : (N.ns.length : Int) ≤ 10 := of_decide_eq_true h2
          have e : firstOf [un (decide ((N.cs.length : Int) > 0)) 10, un (decide ((N.cs.length : Int) ≤ 14)) 8] = 8 := by rw [decide_eq_true (by omega), decide_eq_false (by omega)]; rfl
          refine .inl ⟨_, _, byS (d := 2) (unA (decide ((N.cs.length : Int) > 0)) 10), ?_⟩
          refine .inl ⟨_, _, byS (d := 2) (unA (decide ((N.cs.length : Int) ≤ 14)) 8), ?_⟩
          refine .inl ⟨_, _, byS (d := 2) (S71g [un (decide ((N.cs.length : Int) > 0)) 10, un (decide ((N.cs.length : Int) ≤ 14)) 8] _ (Nat.le_of_ble_eq_true rfl) (fun i hi => match i, hi with | 0, _ => rfl | 1, _ => rfl)), ?_⟩
          refine ifB_intro (fun h3 => ?_) (fun h3 => ?_)
          · refine ⟨?_, nofun⟩
            exact res 0 _ (by rw [e]; exact hR)
          · exact absurd (bne_eq_false_iff_eq.1 h3) (by rw [e]; decide)
        · have h2' : ¬ (N.ns.length : Int) ≤ 10 := of_decide_eq_false h2
          have e : firstOf [un (decide ((N.cs.length : Int) > 0)) 10, un (false) 8] = 8 := by rw [decide_eq_true (by omega)]; rfl
          refine .inl ⟨_, _, byS (d := 2) (unA (decide ((N.cs.length : Int) > 0)) 10), ?_⟩
          refine .inl ⟨_, _, byS (d := 2) (unA (false) 8), ?_⟩
          refine .inl ⟨_, _, byS (d := 2) (S71g [un (decide ((N.cs.length : Int) > 0)) 10, un (false) 8] _ (Nat.le_of_ble_eq_true rfl) (fun i hi => match i, hi with | 0, _ => rfl | 1, _ => rfl)), ?_⟩
          refine ifB_intro (fun h3 => ?_) (fun h3 => ?_)
          · refine ⟨?_, nofun⟩
            exact res 0 _ (by rw [e]; exact hR)
          · exact absurd (bne_eq_false_iff_eq.1 h3) (by rw [e]; decide)
      · have h1' : ¬ (N.ns.length : Int) > 0 := of_decide_eq_false h1
        refine ifB_intro (fun h2 => ?_) (fun h2 => ?_)
        · have h2' : (N.ns.length : Int) ≤ 10 := of_decide_eq_true h2
          omega
        · have h2' : ¬ (N.ns.length : Int) ≤ 10 := of_decide_eq_false h2
          omega
    · rw [if_neg hB] at hR
      refine sound (d := 2) mixed2 Try.func16 (by kernel_rfl) (by kernel_rfl) ?_
      refine ifB_intro (fun h1 => ?_) (fun h1 => ?_)
      · have h1' : (N.ns.length : Int) > 0 := of_decide_eq_true h1
        refine ifB_intro (fun h2 => ?_) (fun h2 => ?_)
        · have h2' : (N.ns.length : Int) ≤ 10 := of_decide_eq_true h2
          have e : firstOf [un (decide ((N.cs.length : Int) > 0)) 10, un (decide ((N.cs.length : Int) ≤ 14)) 8] = 0 := by rw [decide_eq_true (by omega), decide_eq_true (by omega)]; rfl
          refine .inl ⟨_, _, byS (d := 2) (unA (decide ((N.cs.length : Int) > 0)) 10), ?_⟩
          refine .inl ⟨_, _, byS (d := 2) (unA (decide ((N.cs.length : Int) ≤ 14)) 8), ?_⟩
          refine .inl ⟨_, _, byS (d := 2) (S71g [un (decide ((N.cs.length : Int) > 0)) 10, un (decide ((N.cs.length : Int) ≤ 14)) 8] _ (Nat.le_of_ble_eq_true rfl) (fun i hi => match i, hi with | 0, _ => rfl | 1, _ => rfl)), ?_⟩
          refine ifB_intro (fun h3 => ?_) (fun h3 => ?_)
          · exact absurd e (bne_iff_ne.1 h3)
          · clear h3
            refine ⟨[], [1, 7, 49, 50, 51], fun st m => ∃ (k : Nat) (seen : List ByteArray) (hs : Value → Bool) (F : Nat → List AV), k ≤ N.ns.length ∧ seen.length = k ∧ (∀ s, hs (.string s) = hasS seen s) ∧
                (match scan nodeE Nd.name k seen (N.ns.drop k) with | some (k, e) => ((k : Int), e) | none => tailN N) = (R1, R2) ∧
                st = ⟨[(1, .optr 0 0 0 0), (7, .omap 0), (49, listA 4 ndC nd0 N.ns), (50, i64 N.ns.length), (51, i64 k)], ⟨[netBlk N, ⟨1, 2, F, 0, false, true⟩], [⟨none, 4, hs, fun k => vb (hs k), false⟩], none, 0⟩, []⟩ ∧ m = N.ns.length - k,
              ⟨_, _, ⟨0, [], fun _ => false, _, by omega, rfl, fun _ => rfl, hR, rfl, rfl⟩, ⟨⟨rfl, rfl, rfl, rfl⟩, ⟨⟨rfl, rfl, rfl, rfl, fun _ => rfl, fun _ _ => rfl⟩, ⟨rfl, rfl, rfl, rfl, fun _ => rfl, fun _ _ => rfl⟩, trivial⟩, ⟨rfl, rfl, rfl, fun _ => ⟨rfl, rfl⟩⟩, trivial⟩⟩, ?_⟩
            rintro s0 m0 ⟨k, seen, hs, F, hk, hk0, hhs, hf, rfl, rfl⟩
            refine ifB_intro (fun h5 => ?_) (fun h5 => ?_)
            · have hlt : k < N.ns.length := by have := of_decide_eq_true h5; omega
              have hnm : (N.ns.getD k nd0).In := hN.ns _ (by simp [List.getD_eq_getElem?_getD, hlt])
              rw [scan_drop hlt nd0] at hf
              refine ⟨⟨by omega, by omega⟩, ?_⟩
              refine ⟨[], by kernel_rfl, ?_⟩
              refine .inl ⟨_, _, byP (d := 2) (S73 (N.ns.getD k nd0).draw 10000 (by omega) (by omega)), ?_⟩
              refine ifB_intro (fun h6 => ?_) (fun h6 => ?_)
              · have h6' : (N.ns.getD k nd0).lake = true := h6
                refine ⟨[], by kernel_rfl, ?_⟩
                refine .inl ⟨_, _, byP (d := 2) (S74 (N.ns.getD k nd0).head 0 1000000), ?_⟩
                refine ⟨[], by kernel_rfl, ?_⟩
                refine .inl ⟨_, _, byP (d := 2) (S75 (N.ns.getD k nd0).name hnm.name), ?_⟩
                refine .inl ⟨_, _, byP (d := 2) (unA (nameB (N.ns.getD k nd0).name) 4), ?_⟩
                refine .inl ⟨_, _, byP (d := 2) (unA (!hs (.string (N.ns.getD k nd0).name)) 5), ?_⟩
                refine .inl ⟨_, _, byP (d := 2) (unA (decide (0 ≤ (N.ns.getD k nd0).head ∧ (N.ns.getD k nd0).head ≤ 1000000)) 2), ?_⟩
                refine .inl ⟨_, _, byP (d := 2) (unA ((N.ns.getD k nd0).draw == 0) 3), ?_⟩
                refine .inl ⟨_, _, byP (d := 2) (S71g [un (nameB (N.ns.getD k nd0).name) 4, un (!hs (.string (N.ns.getD k nd0).name)) 5, un (decide (0 ≤ (N.ns.getD k nd0).head ∧ (N.ns.getD k nd0).head ≤ 1000000)) 2, un ((N.ns.getD k nd0).draw == 0) 3] _ (Nat.le_of_ble_eq_true rfl)
                  (fun i hi => match i, hi with | 0, _ => rfl | 1, _ => rfl | 2, _ => rfl | 3, _ => rfl)), ?_⟩
                have e : firstOf [un (nameB (N.ns.getD k nd0).name) 4, un (!hs (.string (N.ns.getD k nd0).name)) 5, un (decide (0 ≤ (N.ns.getD k nd0).head ∧ (N.ns.getD k nd0).head ≤ 1000000)) 2, un ((N.ns.getD k nd0).draw == 0) 3] = nodeE seen (N.ns.getD k nd0) := by
                  rw [← node_first hs seen (N.ns.getD k nd0) (hhs _)]
                  unfold nodeRight nodeOther
                  rw [h6']
                  rfl
                refine ifB_intro (fun h7 => ?_) (fun h7 => ?_)
                · have h7' : ¬ nodeE seen (N.ns.getD k nd0) = 0 := by rw [← e]; exact bne_iff_ne.1 h7
                  rw [if_neg h7', ← e] at hf
                  refine ⟨?_, nofun⟩
                  exact res _ _ hf
                · have h7' : nodeE seen (N.ns.getD k nd0) = 0 := by rw [← e]; exact bne_eq_false_iff_eq.1 h7
                  rw [if_pos h7'] at hf
                  refine ⟨inK64 (by omega) (by omega), ?_⟩
                  refine ⟨_, _, ⟨⟨k + 1, seen ++ [(N.ns.getD k nd0).name], fun x => hs x || opEv.keyEq x (.string (N.ns.getD k nd0).name), F, by omega, by simp [hk0], fun s => hs_next hhs s, hf, rfl, rfl⟩, by omega⟩,
                    ⟨⟨rfl, rfl, rfl, rfl⟩, ⟨⟨rfl, rfl, rfl, rfl, fun _ => rfl, fun _ _ => rfl⟩, ⟨rfl, rfl, rfl, rfl, fun _ => rfl, fun _ _ => rfl⟩, trivial⟩, ⟨rfl, rfl, rfl, fun x => ⟨rfl, map_next hs _ x⟩⟩, trivial⟩⟩
              · have h6' : (N.ns.getD k nd0).lake = false := h6
                refine ⟨[], by kernel_rfl, ?_⟩
                refine .inl ⟨_, _, byP (d := 2) (S75 (N.ns.getD k nd0).name hnm.name), ?_⟩
                refine .inl ⟨_, _, byP (d := 2) (unA (nameB (N.ns.getD k nd0).name) 4), ?_⟩
                refine .inl ⟨_, _, byP (d := 2) (unA (!hs (.string (N.ns.getD k nd0).name)) 5), ?_⟩
                refine .inl ⟨_, _, byP (d := 2) (unA (decide (-10000 ≤ (N.ns.getD k nd0).draw ∧ (N.ns.getD k nd0).draw ≤ 10000)) 2), ?_⟩
                refine .inl ⟨_, _, byP (d := 2) (unA ((N.ns.getD k nd0).head == 0) 3), ?_⟩
                refine .inl ⟨_, _, byP (d := 2) (S71g [un (nameB (N.ns.getD k nd0).name) 4, un (!hs (.string (N.ns.getD k nd0).name)) 5, un (decide (-10000 ≤ (N.ns.getD k nd0).draw ∧ (N.ns.getD k nd0).draw ≤ 10000)) 2, un ((N.ns.getD k nd0).head == 0) 3] _ (Nat.le_of_ble_eq_true rfl)
                  (fun i hi => match i, hi with | 0, _ => rfl | 1, _ => rfl | 2, _ => rfl | 3, _ => rfl)), ?_⟩
                have e : firstOf [un (nameB (N.ns.getD k nd0).name) 4, un (!hs (.string (N.ns.getD k nd0).name)) 5, un (decide (-10000 ≤ (N.ns.getD k nd0).draw ∧ (N.ns.getD k nd0).draw ≤ 10000)) 2, un ((N.ns.getD k nd0).head == 0) 3] = nodeE seen (N.ns.getD k nd0) := by
                  rw [← node_first hs seen (N.ns.getD k nd0) (hhs _)]
                  unfold nodeRight nodeOther
                  rw [h6']
                  rfl
                refine ifB_intro (fun h7 => ?_) (fun h7 => ?_)
                · have h7' : ¬ nodeE seen (N.ns.getD k nd0) = 0 := by rw [← e]; exact bne_iff_ne.1 h7
                  rw [if_neg h7', ← e] at hf
                  refine ⟨?_, nofun⟩
                  exact res _ _ hf
                · have h7' : nodeE seen (N.ns.getD k nd0) = 0 := by rw [← e]; exact bne_eq_false_iff_eq.1 h7
                  rw [if_pos h7'] at hf
                  refine ⟨inK64 (by omega) (by omega), ?_⟩
                  refine ⟨_, _, ⟨⟨k + 1, seen ++ [(N.ns.getD k nd0).name], fun x => hs x || opEv.keyEq x (.string (N.ns.getD k nd0).name), F, by omega, by simp [hk0], fun s => hs_next hhs s, hf, rfl, rfl⟩, by omega⟩,
                    ⟨⟨rfl, rfl, rfl, rfl⟩, ⟨⟨rfl, rfl, rfl, rfl, fun _ => rfl, fun _ _ => rfl⟩, ⟨rfl, rfl, rfl, rfl, fun _ => rfl, fun _ _ => rfl⟩, trivial⟩, ⟨rfl, rfl, rfl, fun x => ⟨rfl, map_next hs _ x⟩⟩, trivial⟩⟩
            · have hlt : k = N.ns.length := by have := of_decide_eq_false h5; omega
              rw [hlt, List.drop_length, scan] at hf
              unfold tailN at hf
              clear hR hlt
              refine ⟨[], [1, 13, 14, 96, 97, 98], fun st m => ∃ (j : Nat) (se : List ByteArray) (hs2 : Value → Bool), j ≤ N.cs.length ∧ se.length = j ∧ (∀ s, hs2 (.string s) = hasS se s) ∧
                  (match scan (conE N.ns.length) Cn.name j se (N.cs.drop j) with | some (k, e) => ((k : Int), e) | none => (0, 0)) = (R1, R2) ∧
                  st = ⟨[(1, .optr 0 0 0 0), (13, .func (.func 76) 0 [.optr 0 0 0 0]), (14, .omap 1), (96, listA 6 cnC cn0 N.cs), (97, i64 N.cs.length), (98, i64 j)], ⟨[netBlk N, ⟨1, 2, F, 0, false, true⟩], [⟨none, 4, hs, fun k => vb (hs k), false⟩, ⟨none, 4, hs2, fun k => vb (hs2 k), false⟩], none, 0⟩, []⟩ ∧ m = N.cs.length - j,
                ⟨_, _, ⟨0, [], fun _ => false, by omega, rfl, fun _ => rfl, hf, rfl, rfl⟩, ⟨⟨rfl, rfl, rfl, rfl⟩, ⟨⟨rfl, rfl, rfl, rfl, fun _ => rfl, fun _ _ => rfl⟩, ⟨rfl, rfl, rfl, rfl, fun _ => rfl, fun _ _ => rfl⟩, trivial⟩, ⟨rfl, rfl, rfl, fun _ => ⟨rfl, rfl⟩⟩, ⟨rfl, rfl, rfl, fun _ => ⟨rfl, rfl⟩⟩, trivial⟩⟩, ?_⟩
              rintro s0 m0 ⟨j, se, hs2, hj, hj0, hhs2, hf, rfl, rfl⟩
              refine ifB_intro (fun h5 => ?_) (fun h5 => ?_)
              · have hlt : j < N.cs.length := by have := of_decide_eq_true h5; omega
                have hnm : (N.cs.getD j cn0).In := hN.cs _ (by simp [List.getD_eq_getElem?_getD, hlt])
                rw [scan_drop hlt cn0] at hf
                refine ⟨⟨by omega, by omega⟩, ?_⟩
                refine ⟨[], by kernel_rfl, ?_⟩
                refine .inl ⟨_, _, byP (d := 2) (S75 (N.cs.getD j cn0).name hnm.name), ?_⟩
                refine .inl ⟨_, _, byP (d := 2) (unA (nameB (N.cs.getD j cn0).name) 4), ?_⟩
                refine .inl ⟨_, _, byP (d := 2) (unA (!hs2 (.string (N.cs.getD j cn0).name)) 5), ?_⟩
                refine .inl ⟨_, _, byP (d := 2) (S76 N (by omega) (N.cs.getD j cn0).fr), ?_⟩
                refine ifB_intro (fun g1 => ?_) (fun g1 => ?_)
                · have g1' : isN N.ns.length (N.cs.getD j cn0).fr = true := g1
                  refine .inl ⟨_, _, byP (d := 2) (S76 N (by omega) (N.cs.getD j cn0).to), ?_⟩
                  refine .inl ⟨_, _, byP (d := 2) (unA (isN N.ns.length (N.cs.getD j cn0).to) 6), ?_⟩
                  refine .inl ⟨_, _, byP (d := 2) (unA ((N.cs.getD j cn0).fr != (N.cs.getD j cn0).to) 13), ?_⟩
                  refine .inl ⟨_, _, byP (d := 2) (S74 (N.cs.getD j cn0).res 0 1000), ?_⟩
                  refine .inl ⟨_, _, byP (d := 2) (unA (decide (0 ≤ (N.cs.getD j cn0).res ∧ (N.cs.getD j cn0).res ≤ 1000)) 2), ?_⟩
                  refine ifB_intro (fun g2 => ?_) (fun g2 => ?_)
                  · have g2' : (N.cs.getD j cn0).valve = true := g2
                    refine .inl ⟨_, _, byP (d := 2) (unA (true) 3), ?_⟩
                    refine .inl ⟨_, _, byP (d := 2) (S71g [un (nameB (N.cs.getD j cn0).name) 4, un (!hs2 (.string (N.cs.getD j cn0).name)) 5, un (isN N.ns.length (N.cs.getD j cn0).to) 6, un ((N.cs.getD j cn0).fr != (N.cs.getD j cn0).to) 13, un (decide (0 ≤ (N.cs.getD j cn0).res ∧ (N.cs.getD j cn0).res ≤ 1000)) 2, un (true) 3] _ (Nat.le_of_ble_eq_true rfl)
                      (fun i hi => match i, hi with | 0, _ => rfl | 1, _ => rfl | 2, _ => rfl | 3, _ => rfl | 4, _ => rfl | 5, _ => rfl)), ?_⟩
                    have e : firstOf [un (nameB (N.cs.getD j cn0).name) 4, un (!hs2 (.string (N.cs.getD j cn0).name)) 5, un (isN N.ns.length (N.cs.getD j cn0).to) 6, un ((N.cs.getD j cn0).fr != (N.cs.getD j cn0).to) 13, un (decide (0 ≤ (N.cs.getD j cn0).res ∧ (N.cs.getD j cn0).res ≤ 1000)) 2, un (true) 3] = conE N.ns.length se (N.cs.getD j cn0) := by
                      unfold conE
                      rw [g1', g2', hhs2]
                      rfl
                    refine ifB_intro (fun h7 => ?_) (fun h7 => ?_)
                    · have h7' : ¬ conE N.ns.length se (N.cs.getD j cn0) = 0 := by rw [← e]; exact bne_iff_ne.1 h7
                      rw [if_neg h7', ← e] at hf
                      refine ⟨?_, nofun⟩
                      exact res _ _ hf
                    · have h7' : conE N.ns.length se (N.cs.getD j cn0) = 0 := by rw [← e]; exact bne_eq_false_iff_eq.1 h7
                      rw [if_pos h7'] at hf
                      refine ⟨inK64 (by omega) (by omega), ?_⟩
                      refine ⟨_, _, ⟨⟨j + 1, se ++ [(N.cs.getD j cn0).name], fun x => hs2 x || opEv.keyEq x (.string (N.cs.getD j cn0).name), by omega, by simp [hj0], fun s => hs_next hhs2 s, hf, rfl, rfl⟩, by omega⟩,
                        ⟨⟨rfl, rfl, rfl, rfl⟩, ⟨⟨rfl, rfl, rfl, rfl, fun _ => rfl, fun _ _ => rfl⟩, ⟨rfl, rfl, rfl, rfl, fun _ => rfl, fun _ _ => rfl⟩, trivial⟩, ⟨rfl, rfl, rfl, fun _ => ⟨rfl, rfl⟩⟩, ⟨rfl, rfl, rfl, fun x => ⟨rfl, map_next hs2 _ x⟩⟩, trivial⟩⟩
                  · have g2' : (N.cs.getD j cn0).valve = false := g2
                    refine .inl ⟨_, _, byP (d := 2) (unA ((N.cs.getD j cn0).opn) 3), ?_⟩
                    refine .inl ⟨_, _, byP (d := 2) (S71g [un (nameB (N.cs.getD j cn0).name) 4, un (!hs2 (.string (N.cs.getD j cn0).name)) 5, un (isN N.ns.length (N.cs.getD j cn0).to) 6, un ((N.cs.getD j cn0).fr != (N.cs.getD j cn0).to) 13, un (decide (0 ≤ (N.cs.getD j cn0).res ∧ (N.cs.getD j cn0).res ≤ 1000)) 2, un ((N.cs.getD j cn0).opn) 3] _ (Nat.le_of_ble_eq_true rfl)
                      (fun i hi => match i, hi with | 0, _ => rfl | 1, _ => rfl | 2, _ => rfl | 3, _ => rfl | 4, _ => rfl | 5, _ => rfl)), ?_⟩
                    have e : firstOf [un (nameB (N.cs.getD j cn0).name) 4, un (!hs2 (.string (N.cs.getD j cn0).name)) 5, un (isN N.ns.length (N.cs.getD j cn0).to) 6, un ((N.cs.getD j cn0).fr != (N.cs.getD j cn0).to) 13, un (decide (0 ≤ (N.cs.getD j cn0).res ∧ (N.cs.getD j cn0).res ≤ 1000)) 2, un ((N.cs.getD j cn0).opn) 3] = conE N.ns.length se (N.cs.getD j cn0) := by
                      unfold conE
                      rw [g1', g2', hhs2]
                      rfl
                    refine ifB_intro (fun h7 => ?_) (fun h7 => ?_)
                    · have h7' : ¬ conE N.ns.length se (N.cs.getD j cn0) = 0 := by rw [← e]; exact bne_iff_ne.1 h7
                      rw [if_neg h7', ← e] at hf
                      refine ⟨?_, nofun⟩
                      exact res _ _ hf
                    · have h7' : conE N.ns.length se (N.cs.getD j cn0) = 0 := by rw [← e]; exact bne_eq_false_iff_eq.1 h7
                      rw [if_pos h7'] at hf
                      refine ⟨inK64 (by omega) (by omega), ?_⟩
                      refine ⟨_, _, ⟨⟨j + 1, se ++ [(N.cs.getD j cn0).name], fun x => hs2 x || opEv.keyEq x (.string (N.cs.getD j cn0).name), by omega, by simp [hj0], fun s => hs_next hhs2 s, hf, rfl, rfl⟩, by omega⟩,
                        ⟨⟨rfl, rfl, rfl, rfl⟩, ⟨⟨rfl, rfl, rfl, rfl, fun _ => rfl, fun _ _ => rfl⟩, ⟨rfl, rfl, rfl, rfl, fun _ => rfl, fun _ _ => rfl⟩, trivial⟩, ⟨rfl, rfl, rfl, fun _ => ⟨rfl, rfl⟩⟩, ⟨rfl, rfl, rfl, fun x => ⟨rfl, map_next hs2 _ x⟩⟩, trivial⟩⟩
                · have g1' : isN N.ns.length (N.cs.getD j cn0).fr = false := g1
                  refine .inl ⟨_, _, byP (d := 2) (unA (false) 6), ?_⟩
                  refine .inl ⟨_, _, byP (d := 2) (unA ((N.cs.getD j cn0).fr != (N.cs.getD j cn0).to) 13), ?_⟩
                  refine .inl ⟨_, _, byP (d := 2) (S74 (N.cs.getD j cn0).res 0 1000), ?_⟩
                  refine .inl ⟨_, _, byP (d := 2) (unA (decide (0 ≤ (N.cs.getD j cn0).res ∧ (N.cs.getD j cn0).res ≤ 1000)) 2), ?_⟩
                  refine ifB_intro (fun g2 => ?_) (fun g2 => ?_)
                  · have g2' : (N.cs.getD j cn0).valve = true := g2
                    refine .inl ⟨_, _, byP (d := 2) (unA (true) 3), ?_⟩
                    refine .inl ⟨_, _, byP (d := 2) (S71g [un (nameB (N.cs.getD j cn0).name) 4, un (!hs2 (.string (N.cs.getD j cn0).name)) 5, un (false) 6, un ((N.cs.getD j cn0).fr != (N.cs.getD j cn0).to) 13, un (decide (0 ≤ (N.cs.getD j cn0).res ∧ (N.cs.getD j cn0).res ≤ 1000)) 2, un (true) 3] _ (Nat.le_of_ble_eq_true rfl)
                      (fun i hi => match i, hi with | 0, _ => rfl | 1, _ => rfl | 2, _ => rfl | 3, _ => rfl | 4, _ => rfl | 5, _ => rfl)), ?_⟩
                    have e : firstOf [un (nameB (N.cs.getD j cn0).name) 4, un (!hs2 (.string (N.cs.getD j cn0).name)) 5, un (false) 6, un ((N.cs.getD j cn0).fr != (N.cs.getD j cn0).to) 13, un (decide (0 ≤ (N.cs.getD j cn0).res ∧ (N.cs.getD j cn0).res ≤ 1000)) 2, un (true) 3] = conE N.ns.length se (N.cs.getD j cn0) := by
                      unfold conE
                      rw [g1', g2', hhs2]
                      rfl
                    refine ifB_intro (fun h7 => ?_) (fun h7 => ?_)
                    · have h7' : ¬ conE N.ns.length se (N.cs.getD j cn0) = 0 := by rw [← e]; exact bne_iff_ne.1 h7
                      rw [if_neg h7', ← e] at hf
                      refine ⟨?_, nofun⟩
                      exact res _ _ hf
                    · have h7' : conE N.ns.length se (N.cs.getD j cn0) = 0 := by rw [← e]; exact bne_eq_false_iff_eq.1 h7
                      rw [if_pos h7'] at hf
                      refine ⟨inK64 (by omega) (by omega), ?_⟩
                      refine ⟨_, _, ⟨⟨j + 1, se ++ [(N.cs.getD j cn0).name], fun x => hs2 x || opEv.keyEq x (.string (N.cs.getD j cn0).name), by omega, by simp [hj0], fun s => hs_next hhs2 s, hf, rfl, rfl⟩, by omega⟩,
                        ⟨⟨rfl, rfl, rfl, rfl⟩, ⟨⟨rfl, rfl, rfl, rfl, fun _ => rfl, fun _ _ => rfl⟩, ⟨rfl, rfl, rfl, rfl, fun _ => rfl, fun _ _ => rfl⟩, trivial⟩, ⟨rfl, rfl, rfl, fun _ => ⟨rfl, rfl⟩⟩, ⟨rfl, rfl, rfl, fun x => ⟨rfl, map_next hs2 _ x⟩⟩, trivial⟩⟩
                  · have g2' : (N.cs.getD j cn0).valve = false := g2
                    refine .inl ⟨_, _, byP (d := 2) (unA ((N.cs.getD j cn0).opn) 3), ?_⟩
                    refine .inl ⟨_, _, byP (d := 2) (S71g [un (nameB (N.cs.getD j cn0).name) 4, un (!hs2 (.string (N.cs.getD j cn0).name)) 5, un (false) 6, un ((N.cs.getD j cn0).fr != (N.cs.getD j cn0).to) 13, un (decide (0 ≤ (N.cs.getD j cn0).res ∧ (N.cs.getD j cn0).res ≤ 1000)) 2, un ((N.cs.getD j cn0).opn) 3] _ (Nat.le_of_ble_eq_true rfl)
                      (fun i hi => match i, hi with | 0, _ => rfl | 1, _ => rfl | 2, _ => rfl | 3, _ => rfl | 4, _ => rfl | 5, _ => rfl)), ?_⟩
                    have e : firstOf [un (nameB (N.cs.getD j cn0).name) 4, un (!hs2 (.string (N.cs.getD j cn0).name)) 5, un (false) 6, un ((N.cs.getD j cn0).fr != (N.cs.getD j cn0).to) 13, un (decide (0 ≤ (N.cs.getD j cn0).res ∧ (N.cs.getD j cn0).res ≤ 1000)) 2, un ((N.cs.getD j cn0).opn) 3] = conE N.ns.length se (N.cs.getD j cn0) := by
                      unfold conE
                      rw [g1', g2', hhs2]
                      rfl
                    refine ifB_intro (fun h7 => ?_) (fun h7 => ?_)
                    · have h7' : ¬ conE N.ns.length se (N.cs.getD j cn0) = 0 := by rw [← e]; exact bne_iff_ne.1 h7
                      rw [if_neg h7', ← e] at hf
                      refine ⟨?_, nofun⟩
                      exact res _ _ hf
                    · have h7' : conE N.ns.length se (N.cs.getD j cn0) = 0 := by rw [← e]; exact bne_eq_false_iff_eq.1 h7
                      rw [if_pos h7'] at hf
                      refine ⟨inK64 (by omega) (by omega), ?_⟩
                      refine ⟨_, _, ⟨⟨j + 1, se ++ [(N.cs.getD j cn0).name], fun x => hs2 x || opEv.keyEq x (.string (N.cs.getD j cn0).name), by omega, by simp [hj0], fun s => hs_next hhs2 s, hf, rfl, rfl⟩, by omega⟩,
                        ⟨⟨rfl, rfl, rfl, rfl⟩, ⟨⟨rfl, rfl, rfl, rfl, fun _ => rfl, fun _ _ => rfl⟩, ⟨rfl, rfl, rfl, rfl, fun _ => rfl, fun _ _ => rfl⟩, trivial⟩, ⟨rfl, rfl, rfl, fun _ => ⟨rfl, rfl⟩⟩, ⟨rfl, rfl, rfl, fun x => ⟨rfl, map_next hs2 _ x⟩⟩, trivial⟩⟩
              · have hlt : j = N.cs.length := by have := of_decide_eq_false h5; omega
                rw [hlt, List.drop_length, scan] at hf
                refine ⟨?_, nofun⟩
                exact res 0 0 hf
        · have h2' : ¬ (N.ns.length : Int) ≤ 10 := of_decide_eq_false h2
          omega
      · have h1' : ¬ (N.ns.length : Int) > 0 := of_decide_eq_false h1
        refine ifB_intro (fun h2 => ?_) (fun h2 => ?_)
        · have h2' : (N.ns.length : Int) ≤ 10 := of_decide_eq_true h2
          omega
        · have h2' : ¬ (N.ns.length : Int) ≤ 10 := of_decide_eq_false h2
          omega
end Go.Tr

/- Plain: the closing conduit, and what holds in a state. Conditions: none. -/
import Derived.Test.YtfcagapficjffaaTr07
import Derived.Test.YtfcagapficjffaaTr05

namespace Go.Tr
open Go Go.Proofs
set_option maxRecDepth 20000
set_option maxHeartbeats 8000000

theorem closeF_keep (T : List Int) : ∀ (l : List Cn) (k : Nat) (o : Int), 0 ≤ o → (closeF T k l o).2 = 0 → (closeF T k l o).1 = o ∧ ∀ j, j < l.length → (l.getD j cn0).opn = true → T.contains ((k + j : Nat) : Int) = true
  | [], k, o, ho, h => ⟨rfl, fun j hj => by simp at hj⟩
  | c :: r, k, o, ho, h => by
    rw [closeF] at h ⊢
    by_cases e : c.opn = false ∨ T.contains (k : Int) = true
    · rw [if_pos e] at h ⊢
      have ih := closeF_keep T r (k + 1) o ho h
      refine ⟨ih.1, fun j hj hop => ?_⟩
      cases j with
      | zero =>
        rcases e with e | e
        · rw [List.getD_cons_zero, e] at hop; cases hop
        · exact e
      | succ j =>
        have := ih.2 j (by simpa using hj) (by simpa using hop)
        rwa [show k + (j + 1) = k + 1 + j by omega]
    · rw [if_neg e, if_pos ho] at h
      exact absurd (show (8 : Int) = 0 from h) (by decide)
theorem closeF_all (T : List Int) : ∀ (l : List Cn) (k : Nat), (closeF T k l (-1)).2 = 0 →
    (∀ j, j < l.length → (l.getD j cn0).opn = true → T.contains ((k + j : Nat) : Int) = false → (closeF T k l (-1)).1 = (k + j : Nat)) ∧
    (0 ≤ (closeF T k l (-1)).1 → ∃ j, j < l.length ∧ (closeF T k l (-1)).1 = (k + j : Nat) ∧ (l.getD j cn0).opn = true ∧ T.contains ((k + j : Nat) : Int) = false)
  | [], k, h => ⟨fun j hj => by simp at hj, fun h0 => by rw [closeF] at h0; exact absurd h0 (by decide)⟩
  | c :: r, k, h => by
    rw [closeF] at h ⊢
    by_cases e : c.opn = false ∨ T.contains (k : Int) = true
    · rw [if_pos e] at h ⊢
      have ih := closeF_all T r (k + 1) h
      refine ⟨fun j hj hop ht => ?_, fun h0 => ?_⟩
      · cases j with
        | zero =>
          rw [List.getD_cons_zero] at hop
          rw [Nat.add_zero] at ht
          rcases e with e | e
          · rw [e] at hop; cases hop
          · rw [e] at ht; cases ht
        | succ j =>
          have := ih.1 j (by simpa using hj) (by simpa using hop) (by rwa [show k + 1 + j = k + (j + 1) by omega])
          rw [this, show k + 1 + j = k + (j + 1) by omega]
      · obtain ⟨j, a, b, c, d⟩ := ih.2 h0
        refine ⟨j + 1, by simpa using a, ?_, by simpa using c, ?_⟩
        · rw [b, show k + 1 + j = k + (j + 1) by omega]
        · rwa [show k + (j + 1) = k + 1 + j by omega]
    · rw [if_neg e, if_neg (by decide)] at h ⊢
      have kp := closeF_keep T r (k + 1) k (by omega) h
      have ho : c.opn = true := by
        cases hc : c.opn with
        | true => rfl
        | false => exact absurd (.inl hc) e
      have ht : T.contains (k : Int) = false := by
        cases hc : T.contains (k : Int) with
        | false => rfl
        | true => exact absurd (.inr hc) e
      refine ⟨fun j hj hop hn => ?_, fun h0 => ⟨0, by simp, kp.1, ho, ht⟩⟩
      cases j with
      | zero => exact kp.1
      | succ j =>
        have := kp.2 j (by simpa using hj) (by simpa using hop)
        rw [show k + 1 + j = k + (j + 1) by omega] at this
        rw [this] at hn; cases hn
theorem not_contains {l : List (Int × Int)} {x : Int} (h : (l.map (·.1)).contains x = false) : ∀ b ∈ l, b.1 ≠ x := fun b hb e => by
  have : (l.map (·.1)).contains x = true := by
    rw [List.contains_iff_mem]; exact List.mem_map.2 ⟨b, hb, e⟩
  rw [this] at h; cases h
theorem is_contains {l : List (Int × Int)} {x : Int} (h : (l.map (·.1)).contains x = true) : ∃ b ∈ l, b.1 = x := by
  rw [List.contains_iff_mem] at h
  exact List.mem_map.1 h
/-- What the form says of a net. -/
theorem form_ok {N : Net} (hok : N.Ok) (h : (clF N).2 = 0) :
    (∀ u, u < N.ns.length → (afterF (lakesB N) (brF N)).getD u false = true) ∧
    (∀ j, j < N.cs.length → (N.cs.getD j cn0).opn = true → (∀ b ∈ brF N, b.1 ≠ j) → (clF N).1 = j) ∧
    (0 ≤ (clF N).1 → (N.cs.getD (clF N).1.toNat cn0).opn = true ∧ ∀ b ∈ brF N, b.1 ≠ (clF N).1) := by
  unfold clF at h ⊢
  by_cases hg : gapE N = true
  · rw [if_pos hg] at h; exact absurd h (by decide)
  · rw [if_neg hg] at h ⊢
    have ha := closeF_all _ _ _ h
    refine ⟨fun u hu => ?_, fun j hj ho hb => ?_, fun h0 => ?_⟩
    · have hl := (treeF_len hok.ends).1
      have ht := (brF_tree hok.ends).2
      unfold gapE at hg
      rw [ht] at hg hl
      cases e : (afterF (lakesB N) (brF N)).getD u false with
      | true => rfl
      | false =>
        refine absurd ?_ hg
        rw [List.contains_iff_mem]
        have hu' : u < (afterF (lakesB N) (brF N)).length := by omega
        rw [List.getD_eq_getElem?_getD, List.getElem?_eq_getElem hu', Option.getD_some] at e
        rw [← e]; exact List.getElem_mem hu'
    · have := ha.1 j hj ho (by
        rw [Nat.zero_add]
        cases e : ((brF N).map (·.1)).contains (j : Int) with
        | false => rfl
        | true =>
          obtain ⟨b, hb1, hb2⟩ := is_contains e
          exact absurd hb2 (hb b hb1))
      rw [this, Nat.zero_add]
    · obtain ⟨j, a, b, c, d⟩ := ha.2 h0
      rw [Nat.zero_add] at b d
      rw [b, Int.toNat_natCast]
      exact ⟨c, not_contains d⟩
/-- A sum of sizes, after a change. -/
theorem sumA_set : ∀ (d : List Int) (k : Nat) (x : Int), sumA (d.set k (d.getD k 0 + x)) ≤ sumA d + absI x
  | [], k, x => by simp [sumA]; exact absI_nonneg x
  | a :: r, 0, x => by
    have := absI_add a x
    simp only [List.set_cons_zero, List.getD_cons_zero, sumA, List.map_cons, List.sum_cons]
    omega
  | a :: r, k + 1, x => by
    have := sumA_set r k x
    simp only [List.set_cons_succ, List.getD_cons_succ]
    unfold sumA at this ⊢
    simp only [List.map_cons, List.sum_cons]
    omega
theorem st0_sum' {N : Net} {b : List (Int × Int)} {c q : Int} (hS : StOk N b c) (hq : -200000 ≤ q ∧ q ≤ 200000) : sumA (st0 N c q).2 ≤ 500000 := by
  have h := sumA_le (B := 10000) (drawsL N) fun i => absI_of (drawsL_bd hS.dr i)
  rw [drawsL_len] at h
  have := hS.n1
  have ha : absI q ≤ 200000 := absI_of hq
  have hb : absI (-q) ≤ 200000 := absI_of (by omega)
  unfold st0
  split
  · show sumA (drawsL N) ≤ _
    omega
  · have h1 := sumA_set (drawsL N) (N.cs.getD c.toNat cn0).fr.toNat q
    have h2 := sumA_set ((drawsL N).set (N.cs.getD c.toNat cn0).fr.toNat ((drawsL N).getD (N.cs.getD c.toNat cn0).fr.toNat 0 + q)) (N.cs.getD c.toNat cn0).to.toNat (-q)
    show sumA (((drawsL N).set _ _).set _ (_ - q)) ≤ _
    rw [Int.sub_eq_add_neg]
    omega
theorem st0_fl' {N : Net} {c q : Int} (hq : -200000 ≤ q ∧ q ≤ 200000) (i : Nat) : -500000 ≤ (st0 N c q).1.getD i 0 ∧ (st0 N c q).1.getD i 0 ≤ 500000 := by
  have hz : ∀ i, -500000 ≤ (List.replicate N.cs.length (0 : Int)).getD i 0 ∧ (List.replicate N.cs.length (0 : Int)).getD i 0 ≤ 500000 := fun i => by
    have e : (List.replicate N.cs.length (0 : Int)).getD i 0 = 0 := by
      simp only [List.getD_eq_getElem?_getD, List.getElem?_replicate]; split <;> rfl
    omega
  unfold st0
  split
  · exact hz i
  · exact set_bdI hz (by omega) i
theorem inflow_zero : ∀ (cs : List Cn) (n : Nat) (u : Nat), inflow cs (List.replicate n 0) u = 0
  | [], n, u => by cases n <;> rfl
  | c :: r, 0, u => rfl
  | c :: r, n + 1, u => by rw [List.replicate_succ, inflow, inflow_zero r n u]; omega
theorem st0_z {N : Net} {c q : Int} {i : Nat} (h : (i : Int) ≠ c) : (st0 N c q).1.getD i 0 = 0 := by
  have e : (List.replicate N.cs.length (0 : Int)).getD i 0 = 0 := by
    simp only [List.getD_eq_getElem?_getD, List.getElem?_replicate]; split <;> rfl
  unfold st0
  split
  · exact e
  · show ((List.replicate N.cs.length (0 : Int)).set c.toNat q).getD i 0 = 0
    rw [getD_setI, if_neg (fun h => by omega)]; exact e
theorem st0_in {N : Net} {c q : Int} (hr : inR N.ns.length N.cs) (hc : c < N.cs.length) (hne : 0 ≤ c → (N.cs.getD c.toNat cn0).fr ≠ (N.cs.getD c.toNat cn0).to) (u : Nat) :
    inflow N.cs (st0 N c q).1 u + (st0 N c q).2.getD u 0 = (drawsL N).getD u 0 := by
  by_cases h0 : 0 ≤ c
  · have hd := st0_diff (q := 0) (q' := q) hr h0 hc (hne h0) u
    have hz : (st0 N c 0).2.getD u 0 = (drawsL N).getD u 0 := by
      unfold st0
      rw [if_neg (by omega)]
      show (((drawsL N).set _ (_ + 0)).set _ (_ - 0)).getD u 0 = _
      have he := hr (N.cs.getD c.toNat cn0) (mem_getD (by omega))
      have := drawsL_len N
      rw [getD_setI]
      split
      · next h => rw [Int.sub_zero, Int.add_zero, ← h.1, getD_setI]; split
                  · next h => rw [← h.1]
                  · rfl
      · rw [Int.add_zero, getD_setI]
        split
        · next h => rw [← h.1]
        · rfl
    rw [hd, hz]
    have e : (st0 N c q).1 = (List.replicate N.cs.length 0).set c.toNat q := by unfold st0; rw [if_neg (by omega)]
    have e0 : (List.replicate N.cs.length (0 : Int)).getD c.toNat 0 = 0 := by
      simp only [List.getD_eq_getElem?_getD, List.getElem?_replicate]; split <;> rfl
    rw [e, inflow_set _ _ _ _ _ (by simp) (by omega), inflow_zero, e0]
    unfold dl
    have f : ∀ v : Nat, (if v = u then (1 : Int) else 0) = if u = v then 1 else 0 := fun v => by
      by_cases h : v = u
      · rw [if_pos h, if_pos h.symm]
      · rw [if_neg h, if_neg (fun e => h e.symm)]
    rw [f, f, Int.sub_zero]
    have := Int.mul_sub q (if u = (N.cs.getD c.toNat cn0).to.toNat then (1 : Int) else 0) (if u = (N.cs.getD c.toNat cn0).fr.toNat then 1 else 0)
    have := Int.mul_sub q (if u = (N.cs.getD c.toNat cn0).fr.toNat then (1 : Int) else 0) (if u = (N.cs.getD c.toNat cn0).to.toNat then 1 else 0)
    omega
  · have e : st0 N c q = (List.replicate N.cs.length 0, drawsL N) := by unfold st0; rw [if_pos (by omega)]
    rw [e, inflow_zero]
    show 0 + (drawsL N).getD u 0 = _
    omega

/-- What WaterKept asks of a state. -/
structure Kept (N : Net) (q : Int) (s : List Int × List Int) : Prop where
  l1 : s.1.length = N.cs.length
  l2 : s.2.length = N.ns.length
  bd : ∀ i, -1000000 ≤ s.1.getD i 0 ∧ s.1.getD i 0 ≤ 1000000
  shut : ∀ i, i < N.cs.length → (N.cs.getD i cn0).opn = false → s.1.getD i 0 = 0
  cl : ∀ i, i < N.cs.length → (i : Int) = (clF N).1 → s.1.getD i 0 = q
  hd : ∀ i, -180000000000000000 ≤ s.2.getD i 0 ∧ s.2.getD i 0 ≤ 180000000000000000
  loss : ∀ i, i < N.cs.length → (N.cs.getD i cn0).opn = true → (i : Int) ≠ (clF N).1 → s.2.getD (N.cs.getD i cn0).fr.toNat 0 - s.2.getD (N.cs.getD i cn0).to.toNat 0 = lossF (N.cs.getD i cn0).res (s.1.getD i 0)
  lake : ∀ u, u < N.ns.length → (N.ns.getD u nd0).lake = true → s.2.getD u 0 = 1000 * (N.ns.getD u nd0).head
  draw : ∀ u, u < N.ns.length → (N.ns.getD u nd0).lake = false → inflow N.cs s.1 u = (N.ns.getD u nd0).draw
theorem kept_ok {N : Net} {q : Int} (hok : N.Ok) (h : (clF N).2 = 0) (hq : -200000 ≤ q ∧ q ≤ 200000) : Kept N q (stateF N (brF N) (clF N).1 q) := by
  have hS := stOk hok
  have hl := state_len N (brF N) (clF N).1 q
  obtain ⟨hf1, hf2, hf3⟩ := form_ok hok h
  have hrg := tree_range (brF N) _ hS.tr
  have hlk : ∀ u, u < N.ns.length → (lakesB N).getD u false = (N.ns.getD u nd0).lake := fun u hu =>
    lakesB_getD N u hu
  have hz : ∀ b ∈ brF N, (st0 N (clF N).1 q).1.getD b.1.toNat 0 = 0 := fun b hb => st0_z fun e => by
    have := hrg b hb
    have := (hf3 (by omega)).2 b hb
    omega
  refine ⟨hl.1, hl.2, fun i => ?_, fun i hi ho => ?_, fun i hi he => ?_, fun i => (state_bd hS hq i).2, fun i hi ho he => ?_, fun u hu hu1 => ?_, fun u hu hu1 => ?_⟩
  · have := back_flow (brF N) _ (st0 N (clF N).1 q) (lakesB_len N) (st0_len1 N _ q) hS.tr (st0_sum' hS hq) (st0_fl' hq) i
    unfold stateF
    simp only
    omega
  · unfold stateF
    show (backL N.cs (brF N) _).1.getD i 0 = 0
    rw [back_other _ _ i (fun b hb => (hrg b hb).1) (fun b hb e => by
      have := (hrg b hb).2.2.2.2
      rw [e, Int.toNat_natCast, ho] at this
      cases this)]
    exact st0_z fun e => by
      have := (hf3 (by omega)).1
      rw [← e, Int.toNat_natCast, ho] at this
      cases this
  · unfold stateF
    show (backL N.cs (brF N) _).1.getD i 0 = q
    have h0 : 0 ≤ (clF N).1 := by omega
    rw [back_other _ _ i (fun b hb => (hrg b hb).1) (fun b hb e => (hf3 h0).2 b hb (by omega))]
    unfold st0
    rw [if_neg (by omega)]
    show ((List.replicate N.cs.length (0 : Int)).set (clF N).1.toNat q).getD i 0 = q
    rw [getD_setI, if_pos ⟨by omega, by simp; omega⟩]
  · by_cases hb : ∀ b ∈ brF N, b.1 ≠ i
    · exact absurd (hf2 i hi ho hb).symm he
    · have hx : ∃ b ∈ brF N, b.1 = (i : Int) := Classical.byContradiction fun hn => hb fun b h1 h2 => hn ⟨b, h1, h2⟩
      obtain ⟨b, hb1, hbi⟩ := hx
      have := fore_loss (n := N.ns.length) (cs := N.cs) (f := (backL N.cs (brF N) (st0 N (clF N).1 q)).1) (brF N) _ (headsL N) (lakesB_len N) (headsL_len N) hS.tr b hb1
      rw [hbi, Int.toNat_natCast] at this
      exact this
  · have := fore_keep (n := N.ns.length) (cs := N.cs) (f := (backL N.cs (brF N) (st0 N (clF N).1 q)).1) (brF N) _ (headsL N) u hS.tr (by rw [hlk u hu, hu1])
    rw [headsL_getD N u hu] at this
    exact this
  · have := (kept (n := N.ns.length) (cs := N.cs) (brF N) _ (st0 N (clF N).1 q) (lakesB_len N) (st0_len0 N _ q) (st0_len1 N _ q) hok.ends hS.tr hz u hu).2 (by rw [hlk u hu, hu1]) (hf1 u hu)
    have h2 := st0_in (q := q) hok.ends hS.cl (fun h0 => (hok.con _ (mem_getD (by have := hS.cl; omega))).1) u
    rw [drawsL_getD N u hu] at h2
    unfold stateF
    simp only
    omega
end Go.Tr

/- Plain: what a branch carries is the sum over the branches that climb to its node. Conditions: none. -/
namespace Go.Tr
open Go Go.Proofs
set_option maxRecDepth 20000
set_option maxHeartbeats 8000000

section
variable {n : Nat} {cs : List Cn}
/-- The node where one comes out who climbs from a node until the branches of a list are behind. -/
def rootOf (cs : List Cn) : List (Int × Int) → Int → Int
  | [], u => u
  | b :: r, u => if rootOf cs r u = b.2 then otherN (cs.getD b.1.toNat cn0) b.2 else rootOf cs r u
def sumRt (g : Int → Int) (w : Int) (D : List Int) : List (Int × Int) → Int
  | [] => 0
  | x :: r => (if g x.2 = w then D.getD x.2.toNat 0 else 0) + sumRt g w D r
theorem mark_mono {m : List Bool} {v u : Nat} (h : m.getD u false = true) : (m.set v true).getD u false = true := by
  rw [getD_set]; split
  · rfl
  · exact h
theorem root_fix : ∀ (l : List (Int × Int)) (m : List Bool) (u : Int), TreeOk n cs m l → m.getD u.toNat false = true → rootOf cs l u = u
  | [], m, u, _, _ => rfl
  | b :: r, m, u, ht, h => by
    have ih := root_fix r _ u ht.2 (mark_mono h)
    rw [rootOf, ih, if_neg]
    intro e
    have hn := ht.1.new
    rw [← e, h] at hn
    cases hn
theorem root_up : ∀ (l : List (Int × Int)) (m : List Bool), m.length = n → TreeOk n cs m l → ∀ b ∈ l, rootOf cs l b.2 = rootOf cs l (otherN (cs.getD b.1.toNat cn0) b.2)
  | [], m, _, _, b, hb => by simp at hb
  | x :: r, m, hm, ht, b, hb => by
    rcases List.mem_cons.1 hb with rfl | hb
    · have hB := ht.1
      have v0 := hB.v0; have v1 := hB.v1
      have e1 : rootOf cs r b.2 = b.2 := root_fix r _ _ ht.2 (by rw [getD_set, if_pos]; exact ⟨rfl, by omega⟩)
      have e2 := root_fix r _ (otherN (cs.getD b.1.toNat cn0) b.2) ht.2 (mark_mono hB.old)
      have hne : ¬ otherN (cs.getD b.1.toNat cn0) b.2 = b.2 := fun e => by
        have h1 := hB.old
        rw [e, hB.new] at h1
        cases h1
      rw [rootOf, rootOf, e1, e2, if_pos rfl, if_neg hne]
    · have ih := root_up r _ (by simpa using hm) ht.2 b hb
      rw [rootOf, rootOf, ih]
theorem sum_split {g : Int → Int} {v o w : Int} {D : List Int} (h : w ≠ v) : ∀ l : List (Int × Int), sumRt (fun u => if g u = v then o else g u) w D l = sumRt g w D l + (if o = w then sumRt g v D l else 0)
  | [] => by simp [sumRt]
  | x :: r => by
    have ih := sum_split (g := g) (o := o) (D := D) h r
    simp only [sumRt]
    rw [ih]
    by_cases e : g x.2 = v
    · have e3 : ¬ g x.2 = w := by omega
      by_cases e2 : o = w
      · simp only [if_pos e, if_pos e2, if_neg e3]; omega
      · simp only [if_pos e, if_neg e2, if_neg e3]; omega
    · by_cases e2 : o = w
      · simp only [if_neg e, if_pos e2]; omega
      · simp only [if_neg e, if_neg e2]; omega
/-- What stands at a node ahead of the branches. -/
theorem back_root : ∀ (l : List (Int × Int)) (m : List Bool) (s : List Int × List Int), m.length = n → s.2.length = n → TreeOk n cs m l → ∀ w : Int, 0 ≤ w → m.getD w.toNat false = true →
    (backL cs l s).2.getD w.toNat 0 = s.2.getD w.toNat 0 + sumRt (rootOf cs l) w s.2 l
  | [], m, s, _, _, _, w, _, _ => by simp [backL, sumRt]
  | b :: r, m, s, hm, hs, ht, w, hw, h => by
    have hB := ht.1
    have v0 := hB.v0; have v1 := hB.v1; have o0 := hB.o0; have o1 := hB.o1
    have ih := fun w hw h => back_root r (m.set b.2.toNat true) s (by simpa using hm) hs ht.2 w hw h
    have hv : (m.set b.2.toNat true).getD b.2.toNat false = true := by rw [getD_set, if_pos]; exact ⟨rfl, by omega⟩
    have iw := ih w hw (mark_mono h)
    have iv := ih b.2 v0 hv
    have io := ih _ o0 (mark_mono hB.old)
    have hl := (backL_len cs r s).2
    have hwv : w ≠ b.2 := fun e => by
      have hn := hB.new
      rw [← e, h] at hn
      cases hn
    have e1 : rootOf cs (b :: r) b.2 = otherN (cs.getD b.1.toNat cn0) b.2 := by
      rw [rootOf, root_fix r _ _ ht.2 hv, if_pos rfl]
    have e2 : rootOf cs (b :: r) = fun u => if rootOf cs r u = b.2 then otherN (cs.getD b.1.toNat cn0) b.2 else rootOf cs r u := by funext u; rw [rootOf]
    have e3 := sum_split (g := rootOf cs r) (o := otherN (cs.getD b.1.toNat cn0) b.2) (D := s.2) hwv r
    rw [sumRt, e1, e2, e3]
    show ((backL cs r s).2.set _ _).getD w.toNat 0 = _
    rw [getD_setI]
    by_cases e : otherN (cs.getD b.1.toNat cn0) b.2 = w
    · rw [if_pos ⟨by rw [e], by omega⟩, if_pos e, if_pos e, io, iv, e]
      omega
    · rw [if_neg (fun h => e (by omega)), if_neg e, if_neg e, iw]
      omega
end
end Go.Tr

/- Contracts of chapter 2: the drop for a flow. Conditions: none. -/
namespace Go.Tr
open Go Go.Proofs
set_option maxRecDepth 20000
set_option maxHeartbeats 8000000

theorem S24 (l : List Int) (hl : l.length ≤ 1000) (hr : ∀ r ∈ l, 0 ≤ r ∧ r ≤ 1000000) (fl d : Int) : SP 24 [i64 d, .rptr [ints l], .rptr [i64 fl]] (vb (decide (hiS d l ≥ fl))) false := by
  have h82 := S25 l hl hr d
  refine sound (d := 2) tok2 mixed2 Try.func24 (by kernel_rfl) (by kernel_rfl) ?_
  conv => whnf
  refine ⟨[], by kernel_rfl, ?_⟩
  conv => whnf
  refine .inl ⟨_, _, byX rfl (Sound1.pl (h82) rfl), ?_⟩
  conv => whnf
  refine ⟨?_, nofun⟩
  (rfl)
theorem S26 (l : List Int) (hl : l.length ≤ 1000) (hr : ∀ r ∈ l, 0 ≤ r ∧ r ≤ 1000000) (fl d : Int) : SP 26 [i64 d, .rptr [ints l], .rptr [i64 fl]] (vb (decide (loS d l ≥ fl))) false := by
  have h82 := S25 l hl hr d
  refine sound (d := 2) tok2 mixed2 Try.func26 (by kernel_rfl) (by kernel_rfl) ?_
  conv => whnf
  refine ⟨[], by kernel_rfl, ?_⟩
  conv => whnf
  refine .inl ⟨_, _, byX rfl (Sound1.pl (h82) rfl), ?_⟩
  conv => whnf
  refine ⟨?_, nofun⟩
  (rfl)

def dropLo (l : List Int) (fl : Int) : Int := leastF (fun d => decide (hiS d l ≥ fl)) 30 0 1000000001
def dropHi (l : List Int) (fl : Int) : Int := leastF (fun d => decide (loS d l ≥ fl)) 30 (dropLo l fl) 1000000001
def fE (fl : Int) : Int := if 0 ≤ fl ∧ fl ≤ 10000 then 0 else 2
def dropE (l : List Int) (fl : Int) : Int := if rsE l = 0 then fE fl else rsE l
def dropF (l : List Int) (fl : Int) : (Int × Int) × Int :=
  if dropE l fl = 0 then (if dropHi l fl > 1000000000 then ((0, 0), 12) else ((dropLo l fl, dropHi l fl), 0)) else ((0, 0), dropE l fl)
theorem dropE_eq (l : List Int) (fl : Int) : firstOf [rsE l, fE fl] = dropE l fl := by
  rw [firstOf2]; unfold dropE; split
  · split <;> simp_all
  · rfl
theorem fE_eq (fl : Int) : (if decide (0 ≤ fl ∧ fl ≤ 10000) = true then (0 : Int) else 2) = fE fl := by unfold fE; simp only [decide_eq_true_eq]
theorem dropE_ok {l : List Int} {fl : Int} (h : dropE l fl = 0) : (0 < l.length ∧ l.length ≤ 8 ∧ ∀ r ∈ l, 1 ≤ r ∧ r ≤ 1000) ∧ 0 ≤ fl ∧ fl ≤ 10000 := by
  unfold dropE at h
  split at h
  · refine ⟨rsE_ok (by assumption), ?_⟩
    unfold fE at h
    split at h
    · assumption
    · cases h
  · contradiction

theorem dropLo_mem (l : List Int) (fl : Int) : 0 ≤ dropLo l fl ∧ dropLo l fl ≤ 1000000001 := leastF_mem _ 30 0 1000000001 (by omega)
theorem dropHi_mem (l : List Int) (fl : Int) : dropLo l fl ≤ dropHi l fl ∧ dropHi l fl ≤ 1000000001 := leastF_mem _ 30 _ 1000000001 (dropLo_mem l fl).2
theorem S8 (l : List Int) (hl : l.length ≤ 1000000000) (fl : Int) : SP 8 [ints l, i64 fl] (rngE (dropF l fl)) false := by
  generalize hR : dropF l fl = R
  unfold dropF at hR
  rw [← dropE_eq, ← fE_eq] at hR
  have h80 := S20 l hl
  have m1 := dropLo_mem l fl
  have m2 := dropHi_mem l fl
  by_cases hE : firstOf [rsE l, if decide (0 ≤ fl ∧ fl ≤ 10000) = true then 0 else 2] = 0
  · rw [if_pos hE] at hR
    have hk := dropE_ok ((dropE_eq l fl).symm.trans ((by rw [fE_eq] at hE; exact hE)))
    have hr : ∀ r ∈ l, 0 ≤ r ∧ r ≤ 1000000 := fun r hr => by have := hk.1.2.2 r hr; omega
    have c1 : SP 23 [i64 0, i64 1000000001, .func (.func 24) 0 [.rptr [ints l], .rptr [i64 fl]]] (i64 (dropLo l fl)) false :=
      S23 24 [ints l] [i64 fl] _ 0 1000000001 30 (by omega) (by omega) (by decide) fun x _ _ => S24 l (by omega) hr fl x
    have hn : (1000000001 - dropLo l fl).toNat < 2 ^ 30 := by
      have : (2 : Nat) ^ 30 = 1073741824 := by decide
      omega
    have c2 : SP 23 [i64 (dropLo l fl), i64 1000000001, .func (.func 26) 0 [.rptr [ints l], .rptr [i64 fl]]] (i64 (dropHi l fl)) false :=
      S23 26 [ints l] [i64 fl] _ (dropLo l fl) 1000000001 30 (by omega) (by omega) hn fun x _ _ => S26 l (by omega) hr fl x
    refine sound (d := 2) tok2 mixed2 Try.func8 (by kernel_rfl) (by kernel_rfl) ?_
    conv => whnf
    refine ⟨[], by kernel_rfl, ?_⟩
    conv => whnf
    refine .inl ⟨_, _, byX rfl (Sound1.pl (h80) rfl), ?_⟩
    conv => whnf
    refine .inl ⟨_, _, byX rfl (Sound1.pl (S22 _ _ _) rfl), ?_⟩
    conv => whnf
    refine .inl ⟨_, _, byX rfl (Sound1.pl (S21 _ _) rfl), ?_⟩
    conv => whnf
    refine .inl ⟨_, _, byX rfl (Sound1.pl (S19_2 _ _ _ ⟨rfl, rfl⟩) rfl), ?_⟩
    conv => whnf
    refine ifB_bne (fun w1 => ?_) (fun w1 => ?_)
    · (exfalso; omega)
    · conv => whnf
      refine .inl ⟨_, _, byX rfl (Sound1.pl (c1) rfl), ?_⟩
      conv => whnf
      refine .inl ⟨_, _, byX rfl (Sound1.pl (c2) rfl), ?_⟩
      conv => whnf
      refine ifB_dec (fun w2 => ?_) (fun w2 => ?_)
      · conv => whnf
        refine ⟨?_, nofun⟩
        rw [if_pos w2] at hR
        exact ave_rngE _ _ _ _ hR.symm
      · conv => whnf
        refine ⟨?_, nofun⟩
        rw [if_neg w2] at hR
        exact ave_rngE _ _ _ _ hR.symm
  · rw [if_neg hE] at hR
    refine sound (d := 2) tok2 mixed2 Try.func8 (by kernel_rfl) (by kernel_rfl) ?_
    conv => whnf
    refine ⟨[], by kernel_rfl, ?_⟩
    conv => whnf
    refine .inl ⟨_, _, byX rfl (Sound1.pl (h80) rfl), ?_⟩
    conv => whnf
    refine .inl ⟨_, _, byX rfl (Sound1.pl (S22 _ _ _) rfl), ?_⟩
    conv => whnf
    refine .inl ⟨_, _, byX rfl (Sound1.pl (S21 _ _) rfl), ?_⟩
    conv => whnf
    refine .inl ⟨_, _, byX rfl (Sound1.pl (S19_2 _ _ _ ⟨rfl, rfl⟩) rfl), ?_⟩
    conv => whnf
    refine ifB_bne (fun w1 => ?_) (fun w1 => ?_)
    · conv => whnf
      refine ⟨?_, nofun⟩
      exact ave_rngE _ _ _ _ hR.symm
    · (exfalso; omega)
end Go.Tr

/- Plain laws of chapter 2: flows of parallel conduits, drops. Conditions: none. -/
namespace Go.Tr
open Go Go.Proofs
set_option maxRecDepth 20000
set_option maxHeartbeats 8000000

theorem leastF_least (p : Int → Bool) (A B : Int) (hp : ∀ x y, A ≤ x → x ≤ y → y < B → p x = true → p y = true) : ∀ (n : Nat) (a b : Int), A ≤ a → a ≤ b → b ≤ B → (b - a).toNat < 2 ^ n →
    (∀ x, a ≤ x → x < leastF p n a b → p x = false) ∧ (leastF p n a b < b → p (leastF p n a b) = true)
  | 0, a, b, hA, hab, hB, hn => by
    have : b = a := by simp at hn; omega
    subst this
    exact ⟨fun x h1 h2 => by unfold leastF at h2; omega, fun h => by unfold leastF at h; omega⟩
  | n + 1, a, b, hA, hab, hB, hn => by
    unfold leastF
    by_cases h : a < b
    · rw [if_pos h]
      have hs : (b - a).toNat < 2 ^ n * 2 := by rw [← Nat.pow_succ]; exact hn
      generalize hm : a + (b - a) / 2 = m
      cases hpm : p m with
      | true =>
        rw [cond_true]
        obtain ⟨h1, h2⟩ := leastF_least p A B hp n a m hA (by omega) (by omega) (by omega)
        have h3 := leastF_mem p n a m (by omega)
        refine ⟨h1, fun _ => ?_⟩
        by_cases h4 : leastF p n a m < m
        · exact h2 h4
        · rw [show leastF p n a m = m by omega]; exact hpm
      | false =>
        rw [cond_false]
        obtain ⟨h1, h2⟩ := leastF_least p A B hp n (m + 1) b (by omega) (by omega) (by omega) (by omega)
        refine ⟨fun x h3 h4 => ?_, h2⟩
        by_cases h5 : m + 1 ≤ x
        · exact h1 x h5 h4
        · cases h6 : p x with
          | false => rfl
          | true => rw [hp x m (by omega) (by omega) (by omega) h6] at hpm; cases hpm
    · rw [if_neg h]
      exact ⟨fun x h1 h2 => by omega, fun h' => absurd h' h⟩

theorem sq_mono {r x y : Int} (hr : 0 ≤ r) (hx : 0 ≤ x) (h : x ≤ y) : r * x * x ≤ r * y * y :=
  Int.mul_le_mul (Int.mul_le_mul_of_nonneg_left h hr) h hx (Int.mul_nonneg hr (by omega))

theorem hiF_spec {r d : Int} (hr : 1 ≤ r) (hd : d ≤ 1000000001) : d ≤ r * hiF r d * hiF r d ∧ ∀ x, 0 ≤ x → x < hiF r d → r * x * x < d := by
  have hm := hiF_mem r d
  have hl := leastF_least (fun x => decide (r * x * x ≥ d)) 0 31623 (fun x y h1 h2 _ h => by
    have := sq_mono (r := r) (by omega) h1 h2
    simp only [decide_eq_true_eq] at h ⊢
    omega) 15 0 31623 (by omega) (by omega) (by omega) (by decide)
  change (∀ x, 0 ≤ x → x < hiF r d → _) ∧ (hiF r d < 31623 → decide (r * hiF r d * hiF r d ≥ d) = true) at hl
  refine ⟨?_, fun x h1 h2 => ?_⟩
  · by_cases h : hiF r d < 31623
    · exact of_decide_eq_true (hl.2 h)
    · rw [show hiF r d = 31623 by omega]; omega
  · have := of_decide_eq_false (hl.1 x h1 h2)
    omega

theorem loF_spec {r d : Int} (hr : 1 ≤ r) (h0 : 0 ≤ d) (hd : d ≤ 1000000001) : 0 ≤ loF r d ∧ loF r d ≤ hiF r d ∧ hiF r d ≤ loF r d + 1 ∧ r * loF r d * loF r d ≤ d ∧ d < r * (loF r d + 1) * (loF r d + 1) := by
  have hm := hiF_mem r d
  obtain ⟨s1, s2⟩ := hiF_spec hr hd
  unfold loF loOf
  generalize hiF r d = H at *
  split
  · rename_i h
    have h1 : H ≠ 0 := fun e => by subst e; simp at h; omega
    have := s2 (H - 1) (by omega) (by omega)
    refine ⟨by omega, by omega, by omega, by omega, ?_⟩
    rw [show H - 1 + 1 = H by omega]
    exact h
  · rename_i h
    refine ⟨by omega, by omega, by omega, by omega, ?_⟩
    have e : r * (H + 1) * (H + 1) = r * H * H + (r * H + r * H + r) := by
      simp only [Int.mul_add, Int.add_mul, Int.mul_one]
      omega
    have : 0 ≤ r * H := Int.mul_nonneg (by omega) hm.1
    omega

theorem hiF_mono {r d d' : Int} (hr : 1 ≤ r) (h : d ≤ d') (hd : d' ≤ 1000000001) : hiF r d ≤ hiF r d' := by
  have h1 := (hiF_spec (r := r) (d := d) hr (by omega)).2 (hiF r d')
  have h2 := (hiF_spec (r := r) (d := d') hr hd).1
  have h3 := hiF_mem r d'
  rcases Int.lt_or_le (hiF r d') (hiF r d) with h4 | h4
  · have := h1 h3.1 h4; omega
  · exact h4
theorem loF_mono {r d d' : Int} (hr : 1 ≤ r) (h0 : 0 ≤ d) (h : d ≤ d') (hd : d' ≤ 1000000001) : loF r d ≤ loF r d' := by
  obtain ⟨a1, a2, a3, a4, a5⟩ := loF_spec (r := r) (d := d) hr h0 (by omega)
  obtain ⟨b1, b2, b3, b4, b5⟩ := loF_spec (r := r) (d := d') hr (by omega) hd
  rcases Int.lt_or_le (loF r d') (loF r d) with h4 | h4
  · have := sq_mono (r := r) (x := loF r d' + 1) (y := loF r d) (by omega) (by omega) (by omega); omega
  · exact h4

theorem sums {l : List Int} (hr : ∀ r ∈ l, 1 ≤ r ∧ r ≤ 1000) {d : Int} (h0 : 0 ≤ d) (hd : d ≤ 1000000001) : 0 ≤ loS d l ∧ loS d l ≤ hiS d l ∧ hiS d l ≤ loS d l + l.length := by
  induction l with
  | nil => simp [loS, hiS]
  | cons r l ih =>
    have := loF_spec (hr r (by simp)).1 h0 hd
    have := ih fun x hx => hr x (by simp [hx])
    simp only [loS, hiS, List.length_cons]
    omega
theorem sums_mono {l : List Int} (hr : ∀ r ∈ l, 1 ≤ r ∧ r ≤ 1000) {d d' : Int} (h0 : 0 ≤ d) (h : d ≤ d') (hd : d' ≤ 1000000001) : loS d l ≤ loS d' l ∧ hiS d l ≤ hiS d' l := by
  induction l with
  | nil => simp [loS, hiS]
  | cons r l ih =>
    have h1 := loF_mono (hr r (by simp)).1 h0 h hd
    have h2 := hiF_mono (hr r (by simp)).1 h hd
    have := ih fun x hx => hr x (by simp [hx])
    simp only [loS, hiS]
    omega

/-- What a drop for a flow says. -/
theorem drop_spec {l : List Int} (hr : ∀ r ∈ l, 1 ≤ r ∧ r ≤ 1000) {fl : Int} (h : dropHi l fl ≤ 1000000000) : fl ≤ hiS (dropLo l fl) l ∧ fl ≤ loS (dropHi l fl) l := by
  have m1 := dropLo_mem l fl
  have m2 := dropHi_mem l fl
  have a := leastF_least (fun d => decide (hiS d l ≥ fl)) 0 1000000001 (fun x y h1 h2 h3 h => by
    have := sums_mono hr h1 h2 (by omega)
    simp only [decide_eq_true_eq] at h ⊢
    omega) 30 0 1000000001 (by omega) (by omega) (by omega) (by decide)
  have b := leastF_least (fun d => decide (loS d l ≥ fl)) 0 1000000001 (fun x y h1 h2 h3 h => by
    have := sums_mono hr h1 h2 (by omega)
    simp only [decide_eq_true_eq] at h ⊢
    omega) 30 (dropLo l fl) 1000000001 (by omega) (by omega) (by omega) (by
      have : (2 : Nat) ^ 30 = 1073741824 := by decide
      omega)
  exact ⟨of_decide_eq_true (a.2 (show dropLo l fl < _ by omega)), of_decide_eq_true (b.2 (show dropHi l fl < _ by omega))⟩

theorem sums_one {l : List Int} (hr : ∀ r ∈ l, 1 ≤ r ∧ r ≤ 1000) {d : Int} (h0 : 0 ≤ d) (hd : d ≤ 1000000001) (hl : 0 < l.length) : loS d [l.getD 0 0] ≤ loS d l ∧ hiS d [l.getD 0 0] ≤ hiS d l := by
  match l, hl with
  | r :: l, _ =>
    have := sums (l := l) (fun x hx => hr x (by simp [hx])) h0 hd
    simp only [loS, hiS, List.getD_cons_zero]
    omega
end Go.Tr

/- Plain: the gap of a net is a sum of losses at shifted flows, less a constant. Conditions: none. -/
namespace Go.Tr
open Go Go.Proofs
set_option maxRecDepth 20000
set_option maxHeartbeats 8000000

section
variable {n : Nat} {cs : List Cn}
/-- Where one comes out who climbs from a node until the branches of a list are behind. -/
def rootN (cs : List Cn) : List (Int × Int) → Nat → Nat
  | [], u => u
  | b :: r, u => if rootN cs r u = b.2.toNat then (otherN (cs.getD b.1.toNat cn0) b.2).toNat else rootN cs r u
theorem dl_step (u v o P : Nat) (h : u ≠ v) : dl u (if P = v then o else P) = dl u P + (if u = o then dl v P else 0) := by
  unfold dl
  by_cases h1 : P = v
  · rw [if_pos h1]
    by_cases h2 : u = o
    · rw [if_pos h2, if_pos h2, if_neg (by omega), if_pos h1.symm]; rfl
    · rw [if_neg h2, if_neg h2, if_neg (by omega)]; rfl
  · rw [if_neg h1]
    have h3 : (if v = P then (1 : Int) else 0) = 0 := if_neg (fun e => h1 e.symm)
    rw [h3]
    split <;> omega
theorem mark_self {m : List Bool} {v : Nat} (h : v < m.length) : (m.set v true).getD v false = true := by
  rw [getD_set, if_pos ⟨rfl, h⟩]
theorem br_ne {m : List Bool} {b : Int × Int} (hB : BrOk n cs m b) : (otherN (cs.getD b.1.toNat cn0) b.2).toNat ≠ b.2.toNat := fun e => by
  have := hB.new
  rw [← e, hB.old] at this
  cases this
/-- Two walks whose draws differ at two nodes. -/
theorem back_diff {D : Int} {P0 R0 : Nat} : ∀ (l : List (Int × Int)) (m : List Bool) (s s' : List Int × List Int), m.length = n → s.2.length = n → s'.2.length = n → TreeOk n cs m l →
    (∀ u : Nat, s'.2.getD u 0 = s.2.getD u 0 + D * (dl u P0 - dl u R0)) →
    ∀ u : Nat, m.getD u false = true → (backL cs l s').2.getD u 0 = (backL cs l s).2.getD u 0 + D * (dl u (rootN cs l P0) - dl u (rootN cs l R0))
  | [], m, s, s', _, _, _, _, hs, u, _ => hs u
  | b :: r, m, s, s', hm, a3, a4, ht, hs, u, hu => by
    obtain ⟨hB, ht2⟩ := ht
    have v0 := hB.v0; have v1 := hB.v1; have o0 := hB.o0; have o1 := hB.o1
    have ih := back_diff r (m.set b.2.toNat true) s s' (by simpa using hm) a3 a4 ht2 hs
    have gu := ih u (mark_mono hu)
    have gv := ih b.2.toNat (mark_self (by omega))
    have hl1 : (backL cs r s).2.length = n := by rw [(backL_len cs r s).2, a3]
    have hl2 : (backL cs r s').2.length = n := by rw [(backL_len cs r s').2, a4]
    have huv : u ≠ b.2.toNat := fun e => by
      have := hB.new
      rw [← e, hu] at this
      cases this
    rw [rootN, rootN, dl_step _ _ _ _ huv, dl_step _ _ _ _ huv]
    show ((backL cs r s').2.set _ _).getD u 0 = ((backL cs r s).2.set _ _).getD u 0 + _
    rw [getD_setI, getD_setI]
    by_cases huo : u = (otherN (cs.getD b.1.toNat cn0) b.2).toNat
    · rw [if_pos ⟨huo, by omega⟩, if_pos ⟨huo, by omega⟩, if_pos huo, if_pos huo, ← huo, gu, gv]
      simp only [Int.mul_sub, Int.mul_add]
      omega
    · rw [if_neg (fun h => huo h.1), if_neg (fun h => huo h.1), if_neg huo, if_neg huo, gu]
      simp only [Int.add_zero]
theorem dl_cases (u p q : Nat) : dl u p - dl u q = 0 ∧ (u = p ↔ u = q) ∨ dl u p - dl u q = 1 ∧ u = p ∧ u ≠ q ∨ dl u p - dl u q = -1 ∧ u ≠ p ∧ u = q := by
  unfold dl
  by_cases h1 : u = p <;> by_cases h2 : u = q
  · rw [if_pos h1, if_pos h2]; exact .inl ⟨rfl, fun _ => h2, fun _ => h1⟩
  · rw [if_pos h1, if_neg h2]; exact .inr (.inl ⟨rfl, h1, h2⟩)
  · rw [if_neg h1, if_pos h2]; exact .inr (.inr ⟨rfl, h1, h2⟩)
  · rw [if_neg h1, if_neg h2]; exact .inl ⟨rfl, fun h => absurd h h1, fun h => absurd h h2⟩
/-- All flows differ by no more than the draws do. -/
theorem flow_diff {D : Int} {P0 R0 : Nat} (hD : 0 ≤ D) : ∀ (l : List (Int × Int)) (m : List Bool) (s s' : List Int × List Int), m.length = n → s.2.length = n → s'.2.length = n → s'.1.length = s.1.length → TreeOk n cs m l →
    (∀ u : Nat, s'.2.getD u 0 = s.2.getD u 0 + D * (dl u P0 - dl u R0)) → (∀ i : Nat, -D ≤ s'.1.getD i 0 - s.1.getD i 0 ∧ s'.1.getD i 0 - s.1.getD i 0 ≤ D) →
    ∀ i : Nat, -D ≤ (backL cs l s').1.getD i 0 - (backL cs l s).1.getD i 0 ∧ (backL cs l s').1.getD i 0 - (backL cs l s).1.getD i 0 ≤ D
  | [], m, s, s', _, _, _, _, _, _, hf, i => hf i
  | b :: r, m, s, s', hm, a3, a4, a5, ht, hs, hf, i => by
    obtain ⟨hB, ht2⟩ := ht
    have v0 := hB.v0; have v1 := hB.v1
    have hm' : (m.set b.2.toNat true).length = n := by simpa using hm
    have ih := flow_diff hD r _ s s' hm' a3 a4 a5 ht2 hs hf i
    have gv := back_diff r _ s s' hm' a3 a4 ht2 hs b.2.toNat (mark_self (by omega))
    show -D ≤ ((backL cs r s').1.set _ _).getD i 0 - ((backL cs r s).1.set _ _).getD i 0 ∧ ((backL cs r s').1.set _ _).getD i 0 - ((backL cs r s).1.set _ _).getD i 0 ≤ D
    rw [getD_setI, getD_setI, (backL_len cs r s).1, (backL_len cs r s').1, a5]
    split
    · have hd : -D ≤ (backL cs r s').2.getD b.2.toNat 0 - (backL cs r s).2.getD b.2.toNat 0 ∧ (backL cs r s').2.getD b.2.toNat 0 - (backL cs r s).2.getD b.2.toNat 0 ≤ D := by
        rw [gv]
        rcases dl_cases b.2.toNat (rootN cs r P0) (rootN cs r R0) with ⟨e, _⟩ | ⟨e, _⟩ | ⟨e, _⟩
        · rw [e, Int.mul_zero]; omega
        · rw [e, Int.mul_one]; omega
        · rw [e, Int.mul_neg, Int.mul_one]; omega
      unfold signN
      split <;> omega
    · exact ih

/-- What is lost on the way up. -/
def climb (cs : List Cn) (F : List Int) : List (Int × Int) → Nat → Int
  | [], _ => 0
  | b :: r, P => climb cs F r P + (if rootN cs r P = b.2.toNat then lossF (cs.getD b.1.toNat cn0).res (signN (cs.getD b.1.toNat cn0) b.2 * F.getD b.1.toNat 0) else 0)
theorem fore_climb {F : List Int} {P : Nat} : ∀ (l : List (Int × Int)) (m : List Bool) (h : List Int), h.length = n → TreeOk n cs m l → (foreL cs F l h).getD P 0 = h.getD (rootN cs l P) 0 - climb cs F l P
  | [], m, h, _, _ => by rw [foreL, rootN, climb, Int.sub_zero]
  | b :: r, m, h, hh, ht => by
    obtain ⟨hB, ht2⟩ := ht
    have v0 := hB.v0; have v1 := hB.v1
    have ih := fore_climb r _ (stepH cs F b h) (by simpa [stepH] using hh) ht2 (P := P) (F := F)
    rw [foreL, ih, rootN, climb]
    by_cases e : rootN cs r P = b.2.toNat
    · rw [if_pos e, if_pos e, e]
      unfold stepH
      rw [getD_setI, if_pos ⟨rfl, by omega⟩]
      omega
    · rw [if_neg e, if_neg e]
      unfold stepH
      rw [getD_setI, if_neg (fun h => e h.1)]
      omega
/-- Losses at flows that are all shifted by the same number. -/
def gsum : List (Int × Int) → Int → Int
  | [], _ => 0
  | x :: r, q => lossF x.1 (q + x.2) + gsum r q
/-- The conduits of the loop, with what they carry in its direction. -/
def cyc (cs : List Cn) (s : List Int × List Int) (P R : Nat) : List (Int × Int) → List (Int × Int)
  | [] => []
  | b :: r => ((if dl b.2.toNat (rootN cs r P) - dl b.2.toNat (rootN cs r R) = 0 then 0 else (cs.getD b.1.toNat cn0).res), (dl b.2.toNat (rootN cs r P) - dl b.2.toNat (rootN cs r R)) * (backL cs r s).2.getD b.2.toNat 0) :: cyc cs s P R r
theorem sgn_sgn (c : Cn) (v x : Int) : signN c v * (signN c v * x) = x := by unfold signN; split <;> omega
theorem loss_zero (f : Int) : lossF 0 f = 0 := by unfold lossF; rw [Int.zero_mul, Int.zero_mul]
theorem climb_cyc {D : Int} {P R : Nat} (hr : inR n cs) : ∀ (l : List (Int × Int)) (m : List Bool) (s s' : List Int × List Int) (F : List Int), m.length = n → s'.1.length = cs.length → s.2.length = n → s'.2.length = n → TreeOk n cs m l →
    (∀ u : Nat, s'.2.getD u 0 = s.2.getD u 0 + D * (dl u P - dl u R)) → (∀ x ∈ l, F.getD x.1.toNat 0 = (backL cs l s').1.getD x.1.toNat 0) →
    climb cs F l P - climb cs F l R = gsum (cyc cs s P R l) D
  | [], m, s, s', F, _, _, _, _, _, _, _ => by simp [climb, cyc, gsum]
  | b :: r, m, s, s', F, hm, a1, a3, a4, ht, hs, hF => by
    have hd := tree_dist hm hr ht
    have hrg := tree_range r _ ht.2
    have fb := back_flow_at a1 ht
    obtain ⟨hB, ht2⟩ := ht
    have v0 := hB.v0; have v1 := hB.v1; have i0 := hB.i0
    have hm' : (m.set b.2.toNat true).length = n := by simpa using hm
    have hFr : ∀ x ∈ r, F.getD x.1.toNat 0 = (backL cs r s').1.getD x.1.toNat 0 := fun x hx => by
      rw [hF x (by simp [hx])]
      show ((backL cs r s').1.set _ _).getD _ 0 = _
      rw [getD_setI, if_neg]
      rintro ⟨e, _⟩
      have := (hrg x hx).1
      exact hd x hx (by omega)
    have ih := climb_cyc hr r _ s s' F hm' a1 a3 a4 ht2 hs hFr
    have gv := back_diff r _ s s' hm' a3 a4 ht2 hs b.2.toNat (mark_self (by omega))
    rw [climb, climb, cyc, gsum, ← ih, hF b (by simp), fb, sgn_sgn, gv]
    rcases dl_cases b.2.toNat (rootN cs r P) (rootN cs r R) with ⟨e, h⟩ | ⟨e, h1, h2⟩ | ⟨e, h1, h2⟩
    · rw [e, if_pos rfl, loss_zero]
      by_cases h3 : b.2.toNat = rootN cs r P
      · rw [if_pos h3.symm, if_pos (h.1 h3).symm]; omega
      · rw [if_neg (fun h4 => h3 h4.symm), if_neg (fun h4 => h3 (h.2 h4.symm))]; omega
    · rw [e, if_pos h1.symm, if_neg (fun h4 => h2 h4.symm), Int.mul_one]
      show _ = lossF (cs.getD b.1.toNat cn0).res (D + 1 * (backL cs r s).2.getD b.2.toNat 0) + _
      rw [Int.one_mul, Int.add_comm D]; omega
    · rw [e, if_neg (fun h4 => h1 h4.symm), if_pos h2.symm]
      have h5 := loss_neg (cs.getD b.1.toNat cn0).res ((backL cs r s).2.getD b.2.toNat 0 + D * -1)
      show _ = lossF (cs.getD b.1.toNat cn0).res (D + -1 * (backL cs r s).2.getD b.2.toNat 0) + _
      rw [show D + -1 * (backL cs r s).2.getD b.2.toNat 0 = -((backL cs r s).2.getD b.2.toNat 0 + D * -1) by omega, h5]
      omega
theorem cyc_bd {s : List Int × List Int} {P R : Nat} {S : Int} (hcs : ∀ c ∈ cs, 0 ≤ c.res) (hs : s.2.length = n) (hS : sumA s.2 ≤ S) : ∀ (l : List (Int × Int)) (m : List Bool), m.length = n → TreeOk n cs m l →
    ∀ x ∈ cyc cs s P R l, 0 ≤ x.1 ∧ -S ≤ x.2 ∧ x.2 ≤ S
  | [], m, _, _, x, hx => by simp [cyc] at hx
  | b :: r, m, hm, ht, x, hx => by
    obtain ⟨hB, ht2⟩ := ht
    have v0 := hB.v0; have v1 := hB.v1; have i0 := hB.i0; have i1 := hB.i1
    have hm' : (m.set b.2.toNat true).length = n := by simpa using hm
    rcases List.mem_cons.1 hx with rfl | hx
    · have h1 := back_sum r _ s hm' hs ht2
      have h2 := sumM_mem _ (backL cs r s).2 b.2.toNat (by rw [(backL_len cs r s).2]; omega) (by omega) (mark_self (m := m) (v := b.2.toNat) (by omega))
      have h3 := absI_le (Int.le_trans h2 (Int.le_trans h1 hS))
      have h4 := hcs (cs.getD b.1.toNat cn0) (mem_getD (by omega))
      refine ⟨?_, ?_⟩
      · show 0 ≤ (if _ then (0 : Int) else _)
        split <;> omega
      · show -S ≤ _ * _ ∧ _ * _ ≤ S
        rcases dl_cases b.2.toNat (rootN cs r P) (rootN cs r R) with ⟨e, _⟩ | ⟨e, _⟩ | ⟨e, _⟩ <;> rw [e] <;> omega
    · exact cyc_bd hcs hs hS r _ hm' ht2 x hx
end

theorem gsum_mono : ∀ (L : List (Int × Int)) {q q' : Int}, (∀ x ∈ L, 0 ≤ x.1) → q ≤ q' → gsum L q ≤ gsum L q'
  | [], q, q', _, _ => Int.le_refl _
  | x :: r, q, q', h, hq => by
    have ih := gsum_mono r (fun y hy => h y (by simp [hy])) hq
    have := loss_mono (h x (by simp)) (show q + x.2 ≤ q' + x.2 by omega)
    rw [gsum, gsum]; omega
theorem loss_ge {r f B : Int} (hr : 1 ≤ r) (hB : 0 ≤ B) (h : B ≤ f) : B * B ≤ lossF r f := by
  have e : sizeF f = f := by unfold sizeF; split <;> omega
  unfold lossF
  rw [e]
  have h1 : B * B ≤ f * f := Int.mul_le_mul h h hB (by omega)
  have h2 : 1 * (f * f) ≤ r * (f * f) := Int.mul_le_mul_of_nonneg_right hr (Int.mul_nonneg (by omega) (by omega))
  rw [Int.mul_assoc]; omega
theorem sq_size_strict {f g : Int} (h : f < g) : f * sizeF f < g * sizeF g := by
  have a := sq_size_mono (show f ≤ g - 1 by omega)
  have b : (g - 1) * sizeF (g - 1) < g * sizeF g := by
    by_cases hg : 1 ≤ g
    · have e1 : sizeF (g - 1) = g - 1 := by unfold sizeF; split <;> omega
      have e2 : sizeF g = g := by unfold sizeF; split <;> omega
      rw [e1, e2]
      have : (g - 1) * (g - 1) ≤ (g - 1) * g := Int.mul_le_mul_of_nonneg_left (by omega) (by omega)
      rw [Int.sub_mul (g) 1 g] at this
      omega
    · have e1 : sizeF (g - 1) = -(g - 1) := by unfold sizeF; split <;> omega
      have e2 : sizeF g = -g := by unfold sizeF; split <;> omega
      rw [e1, e2, Int.mul_neg, Int.mul_neg]
      have h1 : g * g = (-g) * (-g) := (Int.neg_mul_neg g g).symm
      have h2 : (g - 1) * (g - 1) = (-g + 1) * (-g + 1) := by
        rw [show g - 1 = -(-g + 1) by omega, Int.neg_mul_neg]
      have h3 : (-g) * (-g) ≤ (-g + 1) * (-g) := Int.mul_le_mul_of_nonneg_right (by omega) (by omega)
      have h4 : (-g + 1) * (-g) + (-g + 1) = (-g + 1) * (-g + 1) := by rw [Int.mul_add, Int.mul_one]
      omega
  omega
theorem loss_strict {r f g : Int} (hr : 1 ≤ r) (h : f < g) : lossF r f < lossF r g := by
  unfold lossF
  rw [Int.mul_assoc, Int.mul_assoc]
  exact Int.mul_lt_mul_of_pos_left (sq_size_strict h) (by omega)
/-- Either the sum is 0 at all flows, or it grows strictly, and far. -/
theorem gsum_two : ∀ (L : List (Int × Int)), (∀ x ∈ L, 0 ≤ x.1 ∧ -100000 ≤ x.2 ∧ x.2 ≤ 100000) →
    (∀ q, gsum L q = 0) ∨ ((∀ q q', q < q' → gsum L q < gsum L q') ∧ 10000000000 ≤ gsum L 200000 ∧ gsum L (-200000) ≤ -10000000000)
  | [], _ => .inl fun _ => rfl
  | x :: r, h => by
    have hx := h x (by simp)
    have hr : ∀ y ∈ r, 0 ≤ y.1 ∧ -100000 ≤ y.2 ∧ y.2 ≤ 100000 := fun y hy => h y (by simp [hy])
    have ih := gsum_two r hr
    by_cases e : x.1 = 0
    · have e2 : ∀ q, gsum (x :: r) q = gsum r q := fun q => by rw [gsum, e, loss_zero, Int.zero_add]
      rcases ih with ih | ⟨a, b, c⟩
      · exact .inl fun q => by rw [e2, ih]
      · exact .inr ⟨fun q q' hq => by rw [e2, e2]; exact a q q' hq, by rw [e2]; exact b, by rw [e2]; exact c⟩
    · have m := fun q q' (hq : q ≤ q') => gsum_mono r (fun y hy => (hr y hy).1) hq
      have p := loss_ge (r := x.1) (f := 200000 + x.2) (B := 100000) (by omega) (by omega) (by omega)
      have n := loss_ge (r := x.1) (f := -(-200000 + x.2)) (B := 100000) (by omega) (by omega) (by omega)
      rw [loss_neg] at n
      have m1 : 0 ≤ gsum r 200000 := by rcases ih with ih | ⟨_, b, _⟩; rw [ih]; exact Int.le_refl _; omega
      have m2 : gsum r (-200000) ≤ 0 := by rcases ih with ih | ⟨_, _, b⟩; rw [ih]; exact Int.le_refl _; omega
      refine .inr ⟨fun q q' hq => ?_, ?_, ?_⟩
      · have := loss_strict (r := x.1) (by omega) (show q + x.2 < q' + x.2 by omega)
        have := m q q' (by omega)
        rw [gsum, gsum]; omega
      · rw [gsum]; omega
      · rw [gsum]; omega

theorem st0_sum0 {N : Net} {b : List (Int × Int)} {c : Int} (hS : StOk N b c) : sumA (st0 N c 0).2 ≤ 100000 := by
  have h := sumA_le (B := 10000) (drawsL N) fun i => absI_of (drawsL_bd hS.dr i)
  rw [drawsL_len] at h
  have := hS.n1
  unfold st0
  split
  · show sumA (drawsL N) ≤ _
    omega
  · have h1 := sumA_set (drawsL N) (N.cs.getD c.toNat cn0).fr.toNat 0
    have h2 := sumA_set ((drawsL N).set (N.cs.getD c.toNat cn0).fr.toNat ((drawsL N).getD (N.cs.getD c.toNat cn0).fr.toNat 0 + 0)) (N.cs.getD c.toNat cn0).to.toNat 0
    have e : absI 0 = 0 := rfl
    show sumA (((drawsL N).set _ _).set _ (_ - 0)) ≤ _
    rw [Int.sub_zero]
    rw [Int.add_zero (List.getD _ (N.cs.getD c.toNat cn0).to.toNat 0)] at h2
    omega
/-- The gap, as a sum. -/
theorem gap_form {N : Net} {b : List (Int × Int)} {c : Int} (hS : StOk N b c) (hc : 0 ≤ c) (hne : (N.cs.getD c.toNat cn0).fr ≠ (N.cs.getD c.toNat cn0).to) :
    ∃ (L : List (Int × Int)) (K : Int), (∀ x ∈ L, 0 ≤ x.1 ∧ -100000 ≤ x.2 ∧ x.2 ≤ 100000) ∧ -1000000000 ≤ K ∧ K ≤ 1000000000 ∧ ∀ q, gapF N b c q = gsum L q - K := by
  have hcl := hS.cl
  have hb := headsL_bd hS.hd
  have hcs : ∀ c ∈ N.cs, 0 ≤ c.res := fun c hc => (hS.res c hc).1
  obtain ⟨P, hP⟩ : ∃ P, P = (N.cs.getD c.toNat cn0).fr.toNat := ⟨_, rfl⟩
  obtain ⟨R, hR⟩ : ∃ R, R = (N.cs.getD c.toNat cn0).to.toNat := ⟨_, rfl⟩
  refine ⟨((N.cs.getD c.toNat cn0).res, 0) :: cyc N.cs (st0 N c 0) P R b, (headsL N).getD (rootN N.cs b P) 0 - (headsL N).getD (rootN N.cs b R) 0, ?_, ?_, ?_, fun q => ?_⟩
  · intro x hx
    rcases List.mem_cons.1 hx with rfl | hx
    · exact ⟨hcs _ (mem_getD (by omega)), by show (-100000 : Int) ≤ 0; decide, by show (0 : Int) ≤ 100000; decide⟩
    · exact cyc_bd hcs (st0_len1 N c 0) (st0_sum0 hS) b _ (lakesB_len N) hS.tr x hx
  · have hh : ∀ n ∈ N.ns, 0 ≤ n.head := fun n hn => (hS.hd n hn).1
    have h0 : ∀ i, 0 ≤ (headsL N).getD i 0 ∧ (headsL N).getD i 0 ≤ 1000000000 := fun i =>
      getD_bdI (fun x hx => by obtain ⟨n, hn, rfl⟩ := List.mem_map.1 hx; have := hS.hd n hn; omega) (by omega) (by omega) i
    have h1 := h0 (rootN N.cs b P)
    have h2 := h0 (rootN N.cs b R)
    omega
  · have h0 : ∀ i, 0 ≤ (headsL N).getD i 0 ∧ (headsL N).getD i 0 ≤ 1000000000 := fun i =>
      getD_bdI (fun x hx => by obtain ⟨n, hn, rfl⟩ := List.mem_map.1 hx; have := hS.hd n hn; omega) (by omega) (by omega) i
    have h1 := h0 (rootN N.cs b P)
    have h2 := h0 (rootN N.cs b R)
    omega
  · have hd := fun u => st0_diff (q := 0) (q' := q) hS.ends hc hcl hne u
    simp only [Int.sub_zero, ← hP, ← hR] at hd
    have h1 := climb_cyc hS.ends b _ (st0 N c 0) (st0 N c q) (backL N.cs b (st0 N c q)).1 (lakesB_len N) (st0_len0 N c q) (st0_len1 N c 0) (st0_len1 N c q) hS.tr hd (fun _ _ => rfl)
    have h2 := fore_climb (F := (backL N.cs b (st0 N c q)).1) (P := P) b _ (headsL N) (headsL_len N) hS.tr
    have h3 := fore_climb (F := (backL N.cs b (st0 N c q)).1) (P := R) b _ (headsL N) (headsL_len N) hS.tr
    unfold gapF stateF
    rw [← hP, ← hR]
    show lossF _ q - ((foreL _ _ _ _).getD P 0 - (foreL _ _ _ _).getD R 0) = _
    rw [h2, h3, gsum]
    show _ = lossF (N.cs.getD c.toNat cn0).res (q + 0) + gsum (cyc N.cs (st0 N c 0) P R b) q - _
    rw [← h1, Int.add_zero]
    omega

/-- Is the gap the same everywhere? -/
def flatB (N : Net) (b : List (Int × Int)) (c : Int) : Bool := decide (gapF N b c (-200000) = gapF N b c 200000)
theorem gap_flat {N : Net} {b : List (Int × Int)} {c : Int} (hS : StOk N b c) (hc : 0 ≤ c) (hne : (N.cs.getD c.toNat cn0).fr ≠ (N.cs.getD c.toNat cn0).to) (h : flatB N b c = false) :
    (∀ q q', q < q' → gapF N b c q < gapF N b c q') ∧ 0 < gapF N b c 200000 ∧ gapF N b c (-200000) < 0 := by
  obtain ⟨L, K, h1, h2, h3, h4⟩ := gap_form hS hc hne
  have hf := of_decide_eq_false h
  rw [h4, h4] at hf
  rcases gsum_two L h1 with g | ⟨a, b, c⟩
  · rw [g, g] at hf; exact absurd rfl hf
  · refine ⟨fun q q' hq => ?_, ?_, ?_⟩
    · rw [h4, h4]; have := a q q' hq; omega
    · rw [h4]; omega
    · rw [h4]; omega
/-- The circulation. -/
def circHi (N : Net) (b : List (Int × Int)) (c : Int) : Int := leastF (fun q => decide (gapF N b c q ≥ 0)) 19 (-200000) 200000
def circF (N : Net) (b : List (Int × Int)) (c : Int) : Int × Int :=
  if c < 0 then (0, 0) else if gapF N b c (circHi N b c) = 0 then (circHi N b c, circHi N b c) else (circHi N b c - 1, circHi N b c)
theorem circ_spec {N : Net} {b : List (Int × Int)} {c : Int} (hS : StOk N b c) (hc : 0 ≤ c) (hne : (N.cs.getD c.toNat cn0).fr ≠ (N.cs.getD c.toNat cn0).to) (h : flatB N b c = false) :
    -200000 < circHi N b c ∧ circHi N b c ≤ 200000 ∧ 0 ≤ gapF N b c (circHi N b c) ∧ gapF N b c (circHi N b c - 1) < 0 := by
  obtain ⟨g1, g2, g3⟩ := gap_flat hS hc hne h
  have hm := leastF_mem (fun q => decide (gapF N b c q ≥ 0)) 19 (-200000) 200000 (by omega)
  have hl := leastF_least (fun q => decide (gapF N b c q ≥ 0)) (-200000) 200000 (fun x y _ h1 _ h2 => by
    have h2 := of_decide_eq_true h2
    have := gap_mono hS hc hne h1
    exact decide_eq_true (by omega)) 19 (-200000) 200000 (by omega) (by omega) (by omega) (by decide)
  change -200000 ≤ circHi N b c ∧ circHi N b c ≤ 200000 at hm
  change (∀ x, -200000 ≤ x → x < circHi N b c → _) ∧ (circHi N b c < 200000 → decide (gapF N b c (circHi N b c) ≥ 0) = true) at hl
  have h1 : 0 ≤ gapF N b c (circHi N b c) := by
    by_cases e : circHi N b c < 200000
    · exact of_decide_eq_true (hl.2 e)
    · rw [show circHi N b c = 200000 by omega]; omega
  have h2 : -200000 < circHi N b c := by
    rcases Int.lt_or_le (-200000) (circHi N b c) with h | h
    · exact h
    · rw [show circHi N b c = -200000 by omega] at h1; omega
  refine ⟨h2, hm.2, h1, ?_⟩
  have := of_decide_eq_false (hl.1 (circHi N b c - 1) (by omega) (by omega))
  omega
/-- By two signs alone. -/
def provesB (N : Net) (b : List (Int × Int)) (c : Int) (x : Int × Int) : Bool :=
  if c < 0 then decide (x = (0, 0)) else if x.1 = x.2 then decide (gapF N b c x.1 = 0) else decide (x.2 = x.1 + 1 ∧ gapF N b c x.1 < 0 ∧ gapF N b c x.2 > 0)
theorem proves_iff {N : Net} {b : List (Int × Int)} {c : Int} (hS : StOk N b c) (hne : 0 ≤ c → (N.cs.getD c.toNat cn0).fr ≠ (N.cs.getD c.toNat cn0).to) (h : 0 ≤ c → flatB N b c = false) (x : Int × Int) :
    provesB N b c x = true ↔ x = circF N b c := by
  unfold provesB circF
  by_cases hc : c < 0
  · rw [if_pos hc, if_pos hc]; exact decide_eq_true_iff
  · have hc0 : 0 ≤ c := by omega
    rw [if_neg hc, if_neg hc]
    obtain ⟨g1, g2, g3⟩ := gap_flat hS hc0 (hne hc0) (h hc0)
    obtain ⟨c1, c2, c3, c4⟩ := circ_spec hS hc0 (hne hc0) (h hc0)
    have inj : ∀ q q', gapF N b c q = gapF N b c q' → q = q' := fun q q' e => by
      rcases Int.lt_trichotomy q q' with h | h | h
      · have := g1 q q' h; omega
      · exact h
      · have := g1 q' q h; omega
    have lt : ∀ q q', gapF N b c q < gapF N b c q' → q < q' := fun q q' e => by
      rcases Int.lt_or_le q q' with h | h
      · exact h
      · have := gap_mono hS hc0 (hne hc0) h; omega
    obtain ⟨lo, hi⟩ := x
    simp only
    by_cases hz : gapF N b c (circHi N b c) = 0
    · rw [if_pos hz]
      by_cases e : lo = hi
      · rw [if_pos e, decide_eq_true_iff]
        subst e
        constructor
        · intro h1
          have := inj lo (circHi N b c) (by omega)
          rw [this]
        · intro h1
          injection h1 with h1 h2
          rw [h1]; exact hz
      · rw [if_neg e, decide_eq_true_iff]
        constructor
        · rintro ⟨h1, h2, h3⟩
          have := lt lo (circHi N b c) (by omega)
          have := lt (circHi N b c) hi (by omega)
          omega
        · intro h1
          injection h1 with h1 h2
          omega
    · rw [if_neg hz]
      by_cases e : lo = hi
      · rw [if_pos e, decide_eq_true_iff]
        subst e
        constructor
        · intro h1
          have := lt lo (circHi N b c) (by omega)
          have := lt (circHi N b c - 1) lo (by omega)
          omega
        · intro h1
          injection h1 with h1 h2
          omega
      · rw [if_neg e, decide_eq_true_iff]
        constructor
        · rintro ⟨h1, h2, h3⟩
          have a := lt lo (circHi N b c) (by omega)
          have d := lt (circHi N b c - 1) hi (by omega)
          rw [Prod.mk.injEq]; omega
        · intro h1
          injection h1 with h1 h2
          subst h1 h2
          exact ⟨by omega, c4, by omega⟩
end Go.Tr

/- Contracts of chapter 2: circulation, steady state. Conditions: none. -/
namespace Go.Tr
open Go Go.Proofs
set_option maxRecDepth 20000
set_option maxHeartbeats 8000000

/-- The search by halves, from any number on, over a closure with one part. -/
theorem S23c (g : FuncId) (l1 : List AV) (p : Int → Bool) (a b : Int) (n : Nat) (ha : -4000000000000000000 ≤ a) (hb : b ≤ 4000000000000000000) (hn : (b - a).toNat < 2 ^ n)
    (hp : ∀ x, a ≤ x → x < b → SP g [i64 x, .rptr l1] (vb (p x)) false) : SP 23 [i64 a, i64 b, .func (.func g) 0 [.rptr l1]] (i64 (leastF p n a b)) false := by
  refine sound (d := 2) tok2 mixed2 Try.func23 (by kernel_rfl) (by kernel_rfl) ?_
  refine ⟨[], [0, 1, 2], fun s m => ∃ (n' : Nat) (a' b' : Int), a ≤ a' ∧ b' ≤ b ∧ (b' - a').toNat < 2 ^ n' ∧ leastF p n' a' b' = leastF p n a b ∧ s = ⟨[(0, i64 a'), (1, i64 b'), (2, .func (.func g) 0 [.rptr l1])], ⟨[], [], none, 0⟩, []⟩ ∧ m = n',
    ⟨_, _, ⟨n, a, b, by omega, by omega, hn, rfl, rfl, rfl⟩, ⟨⟨rfl, rfl, rfl, rfl⟩, trivial, trivial⟩⟩, ?_⟩
  rintro s0 m0 ⟨n', a', b', h1, h2, h3, h4, rfl, hm0⟩
  refine ifB_intro (fun hc => ?_) (fun hc => ?_)
  · have hlt : a' < b' := of_decide_eq_true hc
    obtain ⟨k, rfl⟩ : ∃ k, n' = k + 1 := by
      cases n' with
      | zero => simp at h3; omega
      | succ k => exact ⟨k, rfl⟩
    have ht : (b' - a').tdiv 2 = (b' - a') / 2 := Int.tdiv_eq_ediv_of_nonneg (by omega)
    have hs : (b' - a').toNat < 2 ^ k * 2 := by rw [← Nat.pow_succ]; exact h3
    refine ⟨inK64 (by omega) (by omega), ?_⟩
    refine ⟨⟨by omega, inK64 (by omega) (by omega)⟩, ?_⟩
    refine ⟨inK64 (by omega) (by omega), ?_⟩
    refine .inl ⟨_, _, byS (d := 2) (hp (a' + (b' - a').tdiv 2) (by omega) (by omega)), ?_⟩
    rw [leastF, if_pos hlt] at h4
    rw [← ht] at h4
    refine ifB_intro (fun hx => ?_) (fun hx => ?_)
    · rw [hx, cond_true] at h4
      refine ⟨_, _, ⟨⟨k, a', a' + (b' - a').tdiv 2, by omega, by omega, by omega, h4, rfl, rfl⟩, by omega⟩, ⟨⟨rfl, rfl, rfl, rfl⟩, trivial, trivial⟩⟩
    · rw [hx, cond_false] at h4
      refine ⟨inK64 (by omega) (by omega), ?_⟩
      refine ⟨_, _, ⟨⟨k, a' + (b' - a').tdiv 2 + 1, b', by omega, by omega, by omega, h4, rfl, rfl⟩, by omega⟩, ⟨⟨rfl, rfl, rfl, rfl⟩, trivial, trivial⟩⟩
  · have hlt : ¬ a' < b' := of_decide_eq_false hc
    have h5 : leastF p n' a' b' = a' := by cases n' <;> simp [leastF, hlt]
    refine ⟨?_, nofun⟩
    show i64 _ = i64 _
    rw [← h4, h5]

theorem S19_4 (a b c d : Int) (f : Nat → List AV) (h : f 0 = [i64 a] ∧ f 1 = [i64 b] ∧ f 2 = [i64 c] ∧ f 3 = [i64 d]) : SP 19 [.rslice 1 4 f] (i64 (firstOf [a, b, c, d])) false :=
  S19f [a, b, c, d] f (Nat.le_of_ble_eq_true rfl) fun i hi => match i, hi with | 0, _ => h.1 | 1, _ => h.2.1 | 2, _ => h.2.2.1 | 3, _ => h.2.2.2

theorem vbE {k : Nat} {a b : Bool} (h : a = b) : AVE (k + 1) (.val (.bool a)) (vb b) := by subst h; rfl
/-- A net with a closing conduit and no circulation. -/
def flatQ (N : Net) (b : List (Int × Int)) (c : Int) : Bool := if 0 ≤ c then flatB N b c else false
theorem S37 (N : Net) (b : List (Int × Int)) (c : Int) (hS : StOk N b c) : SP 37 [treeA N b c] (vb (flatQ N b c)) false := by
  unfold flatQ
  by_cases hc : 0 ≤ c
  · rw [if_pos hc]
    have h1 := S48 N b c (-200000) hS (by omega) hc
    have h2 := S48 N b c 200000 hS (by omega) hc
    refine sound (d := 2) tok2 mixed2 Try.func37 (by kernel_rfl) (by kernel_rfl) ?_
    conv => whnf
    refine ⟨[], by kernel_rfl, ?_⟩
    conv => whnf
    refine ifB_dec (fun w1 => ?_) (fun w1 => ?_)
    · conv => whnf
      refine .inl ⟨_, _, byX rfl (Sound1.pl (h1) rfl), ?_⟩
      conv => whnf
      refine .inl ⟨_, _, byX rfl (Sound1.pl (h2) rfl), ?_⟩
      conv => whnf
      refine ⟨?_, nofun⟩
      show vb _ = vb _
      rfl
    · (exfalso; omega)
  · rw [if_neg hc]
    refine sound (d := 2) tok2 mixed2 Try.func37 (by kernel_rfl) (by kernel_rfl) ?_
    conv => whnf
    refine ⟨[], by kernel_rfl, ?_⟩
    conv => whnf
    refine ifB_dec (fun w1 => ?_) (fun w1 => ?_)
    · (exfalso; omega)
    · conv => whnf
      refine ⟨?_, nofun⟩
      rfl
theorem S47 (N : Net) (b : List (Int × Int)) (c q : Int) (hS : StOk N b c) (hq : -200000 ≤ q ∧ q ≤ 200000) (hc : 0 ≤ c) : SP 47 [i64 q, .rptr [listA 4 ndC nd0 N.ns, listA 6 cnC cn0 N.cs, brA b, i64 c]] (vb (decide (gapF N b c q ≥ 0))) false := by
  have h1 := S48 N b c q hS hq hc
  refine sound (d := 2) tok2 mixed2 Try.func47 (by kernel_rfl) (by kernel_rfl) ?_
  conv => whnf
  refine .inl ⟨_, _, byX rfl (Sound1.pl (h1) rfl), ?_⟩
  conv => whnf
  refine ⟨?_, nofun⟩
  rfl
theorem circHi_mem (N : Net) (b : List (Int × Int)) (c : Int) : -200000 ≤ circHi N b c ∧ circHi N b c ≤ 200000 := leastF_mem _ 19 (-200000) 200000 (by omega)
theorem S32 (N : Net) (b : List (Int × Int)) (c : Int) (hS : StOk N b c) : SP 32 [treeA N b c] (rngA (circF N b c)) false := by
  unfold circF
  by_cases hc : c < 0
  · rw [if_pos hc]
    refine sound (d := 2) tok2 mixed2 Try.func32 (by kernel_rfl) (by kernel_rfl) ?_
    conv => whnf
    refine ifB_dec (fun w1 => ?_) (fun w1 => ?_)
    · conv => whnf
      refine ⟨?_, nofun⟩
      exact ave2 _ _
    · (exfalso; omega)
  · rw [if_neg hc]
    have hm := circHi_mem N b c
    have h1 : SP 23 [i64 (-200000), i64 200000, .func (.func 47) 0 [.rptr [listA 4 ndC nd0 N.ns, listA 6 cnC cn0 N.cs, brA b, i64 c]]] (i64 (circHi N b c)) false :=
      S23c 47 _ _ (-200000) 200000 19 (by omega) (by omega) (by decide) fun x h1 h2 => S47 N b c x hS (by omega) (by omega)
    have h2 := S48 N b c (circHi N b c) hS hm (by omega)
    refine sound (d := 2) tok2 mixed2 Try.func32 (by kernel_rfl) (by kernel_rfl) ?_
    conv => whnf
    refine ifB_dec (fun w1 => ?_) (fun w1 => ?_)
    · (exfalso; omega)
    · conv => whnf
      refine .inl ⟨_, _, byX rfl (Sound1.pl (h1) rfl), ?_⟩
      conv => whnf
      refine .inl ⟨_, _, byX rfl (Sound1.pl (h2) rfl), ?_⟩
      conv => whnf
      refine ifB_beq (fun w2 => ?_) (fun w2 => ?_)
      · conv => whnf
        refine ⟨?_, nofun⟩
        rw [if_pos w2]; exact ave2 _ _
      · conv => whnf
        refine ⟨inK64 (by omega) (by omega), ?_⟩
        conv => whnf
        refine ⟨?_, nofun⟩
        rw [if_neg w2]; exact ave2 _ _
/-- What the opening of a net with a circulation gives. -/
def flowE (N : Net) : Int := if formE N = 0 then (if flatQ N (brF N) (clF N).1 then 11 else 0) else formE N
theorem S17 (N : Net) (hN : N.In) : SP 17 [netV N] (.tuple [treeT N, i64 (flowE N)]) false := by
  unfold treeT flowE formE
  by_cases hn : netE N = 0
  · simp only [if_pos hn]
    have h99 := S29ok N hN hn
    have h108 := S37 N (brF N) (clF N).1 (stOk (net_ok hn))
    by_cases hF : (clF N).2 = 0
    · rw [if_pos hF]
      rw [hF] at h99
      refine sound (d := 2) tok2 mixed2 Try.func17 (by kernel_rfl) (by kernel_rfl) ?_
      conv => whnf
      refine .inl ⟨_, _, byX rfl (h99), ?_⟩
      conv => whnf
      refine ⟨[], by kernel_rfl, ?_⟩
      conv => whnf
      refine .inl ⟨_, _, byX rfl (Sound1.pl (h108) rfl), ?_⟩
      conv => whnf
      refine .inl ⟨_, _, byX rfl (Sound1.pl (S21 _ _) rfl), ?_⟩
      conv => whnf
      refine ⟨?_, nofun⟩
      refine ave_tup2 (k := 4) (ave_agg4 (k := 3) (a := .rslice 4 N.ns.length _) (b := .rslice 6 N.cs.length _) (c := .rslice 2 (brF N).length _) (d := i64 (clF N).1) ⟨rfl, rfl, fun _ _ => rfl⟩ ⟨rfl, rfl, fun _ _ => rfl⟩ ⟨rfl, rfl, fun _ _ => rfl⟩ rfl) ?_
      show i64 _ = i64 _
      cases flatQ N (brF N) (clF N).1 <;> rfl
    · rw [if_neg hF]
      refine sound (d := 2) tok2 mixed2 Try.func17 (by kernel_rfl) (by kernel_rfl) ?_
      conv => whnf
      refine .inl ⟨_, _, byX rfl (h99), ?_⟩
      conv => whnf
      refine ifB_bne (fun w1 => ?_) (fun w1 => ?_)
      · conv => whnf
        refine ⟨?_, nofun⟩
        refine ave_tup2 (k := 4) (ave_agg4 (k := 3) (a := .rslice 4 N.ns.length _) (b := .rslice 6 N.cs.length _) (c := .rslice 2 (brF N).length _) (d := i64 (clF N).1) ⟨rfl, rfl, fun _ _ => rfl⟩ ⟨rfl, rfl, fun _ _ => rfl⟩ ⟨rfl, rfl, fun _ _ => rfl⟩ rfl) ?_
        rfl
      · (exfalso; omega)
  · simp only [if_neg hn]
    have h99 := S29err N hN hn
    refine sound (d := 2) tok2 mixed2 Try.func17 (by kernel_rfl) (by kernel_rfl) ?_
    conv => whnf
    refine .inl ⟨_, _, byX rfl (h99), ?_⟩
    conv => whnf
    refine ifB_bne (fun w1 => ?_) (fun w1 => ?_)
    · conv => whnf
      refine ⟨?_, nofun⟩
      refine ave_tup2 (k := 4) (ave_agg4 (k := 3) rfl rfl rfl rfl) ?_
      rfl
    · (exfalso; omega)
theorem flowE_ok {N : Net} (h : flowE N = 0) : formE N = 0 ∧ flatQ N (brF N) (clF N).1 = false := by
  unfold flowE at h
  split at h
  · split at h
    · cases h
    · exact ⟨by assumption, Bool.eq_false_iff.2 (by assumption)⟩
  · contradiction
theorem S12 (N : Net) (hN : N.In) : SP 12 [netV N] (rngE (if flowE N = 0 then circF N (brF N) (clF N).1 else (0, 0), flowE N)) false := by
  have h106 := S17 N hN
  by_cases hE : flowE N = 0
  · rw [if_pos hE]
    have hn := formE_ok (flowE_ok hE).1
    have h107 := S32 N (brF N) (clF N).1 (stOk (net_ok hn.1))
    unfold treeT at h106
    rw [if_pos hn.1] at h106
    refine sound (d := 2) tok2 mixed2 Try.func12 (by kernel_rfl) (by kernel_rfl) ?_
    conv => whnf
    refine .inl ⟨_, _, byX rfl (h106), ?_⟩
    conv => whnf
    refine ifB_bne (fun w1 => ?_) (fun w1 => ?_)
    · (exfalso; omega)
    · conv => whnf
      refine .inl ⟨_, _, byX rfl (Sound1.pl (h107) rfl), ?_⟩
      conv => whnf
      refine ⟨?_, nofun⟩
      exact ave_tup2 (k := 4) (ave_agg2 (k := 3) rfl rfl) (by show i64 _ = i64 _; rw [hE])
  · rw [if_neg hE]
    unfold treeT at h106
    by_cases hn : netE N = 0
    · rw [if_pos hn] at h106
      refine sound (d := 2) tok2 mixed2 Try.func12 (by kernel_rfl) (by kernel_rfl) ?_
      conv => whnf
      refine .inl ⟨_, _, byX rfl (h106), ?_⟩
      conv => whnf
      refine ifB_bne (fun w1 => ?_) (fun w1 => ?_)
      · conv => whnf
        refine ⟨?_, nofun⟩
        exact ave_tup2 (k := 4) (ave_agg2 (k := 3) rfl rfl) rfl
      · (exfalso; omega)
    · rw [if_neg hn] at h106
      refine sound (d := 2) tok2 mixed2 Try.func12 (by kernel_rfl) (by kernel_rfl) ?_
      conv => whnf
      refine .inl ⟨_, _, byX rfl (h106), ?_⟩
      conv => whnf
      refine ifB_bne (fun w1 => ?_) (fun w1 => ?_)
      · conv => whnf
        refine ⟨?_, nofun⟩
        exact ave_tup2 (k := 4) (ave_agg2 (k := 3) rfl rfl) rfl
      · (exfalso; omega)

/-- From the smaller to the greater one of two numbers each. -/
def rngL (a b : List Int) : List (Int × Int) := List.zipWith (fun x y => (if y < x then y else x, if y > x then y else x)) a b
theorem rngL_len {a b : List Int} {n : Nat} (ha : a.length = n) (hb : b.length = n) : (rngL a b).length = n := by simp [rngL, ha, hb]
theorem rngL_getD {a b : List Int} {n : Nat} (ha : a.length = n) (hb : b.length = n) {i : Nat} (h : i < n) : (rngL a b).getD i (0, 0) = (if b.getD i 0 < a.getD i 0 then b.getD i 0 else a.getD i 0, if b.getD i 0 > a.getD i 0 then b.getD i 0 else a.getD i 0) := by
  simp [rngL, List.getD_eq_getElem?_getD, List.getElem?_zipWith, List.getElem?_eq_getElem (show i < a.length by omega), List.getElem?_eq_getElem (show i < b.length by omega)]
/-- A row is appended to those that stand there. -/
theorem ext_row {α : Type} {L : List α} {d : α} {g : α → List AV} {k i es : Nat} {r : List AV} (h : g (L.getD k d) = r) (hr : r.length = es) (hi : i < k + 1) : g (L.getD i d) = if i < k then g (L.getD (0 + i) d) else List.take es (List.drop ((i - k) * es) r) := by
  rw [Nat.zero_add]
  by_cases e : i < k
  · rw [if_pos e]
  · rw [if_neg e, show i = k by omega, Nat.sub_self, Nat.zero_mul, List.drop_zero, ← hr, List.take_length]; exact h
theorem S38 (a b : List Int) (n : Nat) (ha : a.length = n) (hb : b.length = n) (hn : n ≤ 1000000) : SP 38 [ints a, ints b] (brA (rngL a b)) false := by
  rw [ints_n ha, ints_n hb]
  have hl := rngL_len ha hb
  refine sound (d := 2) tok2 mixed2 Try.func38 (by kernel_rfl) (by kernel_rfl) ?_
  conv => whnf
  refine ⟨[.slot 5 2], [0, 1, 5, 8, 9], fun st mq => ∃ (k : Nat), (k ≤ n) ∧ st = ⟨[(0, .rslice 1 n fun i => [i64 (a.getD i 0)]), (1, .rslice 1 n fun i => [i64 (b.getD i 0)]), (5, .oslice 0 0 0 k none), (8, i64 n), (9, i64 k)], ⟨[⟨2, k, fun i => brC ((rngL a b).getD i (0, 0)), 0, false, true, false⟩], [], none, 0⟩, []⟩ ∧ mq = n - k,
    ⟨_, _, ⟨0, by omega, rfl, rfl⟩, ⟨⟨rfl, rfl, rfl, rfl⟩, ⟨⟨rfl, rfl, rfl, rfl, fun _ => rfl, fun i h => absurd h (Nat.not_lt_zero i)⟩, trivial⟩, trivial⟩⟩, ?_⟩
  rintro s0 m0 ⟨k, hk, rfl, hmeas⟩
  by_cases h : k < n
  · have e := rngL_getD ha hb h
    conv => whnf
    conv => whnf
    refine ifB_dec (fun w1 => ?_) (fun w1 => ?_)
    · conv => whnf
      conv => whnf
      refine ⟨[], by kernel_rfl, ?_⟩
      conv => whnf
      conv => whnf
      refine ⟨⟨(by omega), (by omega)⟩, ?_⟩
      conv => whnf
      conv => whnf
      refine ⟨⟨(by omega), (by omega)⟩, ?_⟩
      conv => whnf
      conv => whnf
      refine ⟨⟨(by omega), (by omega)⟩, ?_⟩
      conv => whnf
      conv => whnf
      refine ⟨⟨(by omega), (by omega)⟩, ?_⟩
      conv => whnf
      conv => whnf
      refine ⟨(by show _ * (16 + 1) ≤ _; omega), ?_⟩
      conv => whnf
      conv => whnf
      refine ⟨inK64 (by omega) (by omega), ?_⟩
      conv => whnf
      conv => whnf
      refine ⟨_, _, ⟨⟨k + 1, by omega, rfl, rfl⟩, by omega⟩, ⟨⟨rfl, rfl, rfl, rfl⟩, ⟨⟨rfl, rfl, rfl, rfl, fun _ => rfl, fun i h => ext_row (congrArg brC e) rfl h⟩, trivial⟩, trivial⟩⟩
    · (exfalso; omega)
  · have e : k = n := by omega
    subst e
    conv => whnf
    conv => whnf
    refine ifB_dec (fun w1 => ?_) (fun w1 => ?_)
    · (exfalso; omega)
    · conv => whnf
      conv => whnf
      refine ⟨?_, nofun⟩
      exact ⟨rfl, hl.symm, fun _ _ => rfl⟩

/-- The steady state. -/
def steadyF (N : Net) (b : List (Int × Int)) (c : Int) : List (Int × Int) × List (Int × Int) :=
  (rngL (stateF N b c (circF N b c).1).1 (stateF N b c (circF N b c).2).1, rngL (stateF N b c (circF N b c).1).2 (stateF N b c (circF N b c).2).2)
def sdA (s : List (Int × Int) × List (Int × Int)) : AV := .agg [brA s.1, brA s.2]
theorem ave_br {k n : Nat} {f : Nat → List AV} {l : List (Int × Int)} (hn : n = l.length) (hf : ∀ i, i < l.length → f i = brC (l.getD i (0, 0))) : AVE (k + 1) (.rslice 2 n f) (brA l) :=
  ⟨rfl, hn, fun i hi => hf i (by omega)⟩
theorem S18 (N : Net) (b : List (Int × Int)) (c : Int) (hS : StOk N b c) (h1 : -200000 ≤ (circF N b c).1 ∧ (circF N b c).1 ≤ 200000) (h2 : -200000 ≤ (circF N b c).2 ∧ (circF N b c).2 ≤ 200000) :
    SP 18 [treeA N b c] (sdA (steadyF N b c)) false := by
  have h107 := S32 N b c hS
  have hA := S31 N b c (circF N b c).1 hS h1
  have hB := S31 N b c (circF N b c).2 hS h2
  have lA := state_len N b c (circF N b c).1
  have lB := state_len N b c (circF N b c).2
  have hn := hS.n1
  have hc := hS.c1
  have h5 := S38 _ _ N.cs.length lA.1 lB.1 (by omega)
  have h6 := S38 _ _ N.ns.length lA.2 lB.2 (by omega)
  unfold sdA steadyF
  have k1 := rngL_len lA.1 lB.1
  have k2 := rngL_len lA.2 lB.2
  generalize stateF N b c (circF N b c).1 = sA at *
  generalize stateF N b c (circF N b c).2 = sB at *
  refine sound (d := 2) tok2 mixed2 Try.func18 (by kernel_rfl) (by kernel_rfl) ?_
  conv => whnf
  refine .inl ⟨_, _, byX rfl (Sound1.pl (h107) rfl), ?_⟩
  conv => whnf
  refine ⟨[], by kernel_rfl, ?_⟩
  conv => whnf
  refine .inl ⟨_, _, byX rfl (hA), ?_⟩
  conv => whnf
  refine .inl ⟨_, _, byX rfl (hB), ?_⟩
  conv => whnf
  refine ⟨[], by kernel_rfl, ?_⟩
  conv => whnf
  refine .inl ⟨_, _, byX rfl (h5), ?_⟩
  conv => whnf
  refine .inl ⟨_, _, byX rfl (h6), ?_⟩
  conv => whnf
  refine ⟨?_, nofun⟩
  exact ave_agg2 (k := 4) (ave_br rfl fun _ _ => rfl) (ave_br rfl fun _ _ => rfl)

theorem flatQ_of {N : Net} {b : List (Int × Int)} {c : Int} (h : flatQ N b c = false) (hc : 0 ≤ c) : flatB N b c = false := by
  unfold flatQ at h; rwa [if_pos hc] at h
/-- Where the circulation lies. -/
theorem circ_bd {N : Net} {b : List (Int × Int)} {c : Int} (hS : StOk N b c) (hne : 0 ≤ c → (N.cs.getD c.toNat cn0).fr ≠ (N.cs.getD c.toNat cn0).to) (h : flatQ N b c = false) :
    (-200000 ≤ (circF N b c).1 ∧ (circF N b c).1 ≤ 200000) ∧ (-200000 ≤ (circF N b c).2 ∧ (circF N b c).2 ≤ 200000) ∧ (circF N b c).1 ≤ (circF N b c).2 ∧ (circF N b c).2 ≤ (circF N b c).1 + 1 := by
  unfold circF
  by_cases hc : c < 0
  · rw [if_pos hc]; simp only; omega
  · rw [if_neg hc]
    have := circ_spec hS (by omega) (hne (by omega)) (flatQ_of h (by omega))
    split <;> simp only <;> omega
theorem net_ne {N : Net} (hok : N.Ok) {c : Int} (h : c < N.cs.length) (h0 : 0 ≤ c) : (N.cs.getD c.toNat cn0).fr ≠ (N.cs.getD c.toNat cn0).to :=
  (hok.con _ (mem_getD (by omega))).1
theorem ave_sdE (s : List (Int × Int) × List (Int × Int)) (e : Int) : AVE 5 (.tuple [sdA s, i64 e]) (.tuple [sdA s, i64 e]) :=
  ave_tup2 (k := 4) (ave_agg2 (k := 3) (ave_br rfl fun _ _ => rfl) (ave_br rfl fun _ _ => rfl)) rfl
theorem S7 (N : Net) (hN : N.In) : SP 7 [netV N] (.tuple [sdA (if flowE N = 0 then steadyF N (brF N) (clF N).1 else ([], [])), i64 (flowE N)]) false := by
  have h106 := S17 N hN
  by_cases hE : flowE N = 0
  · rw [if_pos hE]
    have hk := flowE_ok hE
    have hn := formE_ok hk.1
    have hS := stOk (net_ok hn.1)
    have hb := circ_bd hS (net_ne (net_ok hn.1) hS.cl) hk.2
    have h110 := S18 N (brF N) (clF N).1 hS hb.1 hb.2.1
    unfold treeT at h106
    rw [if_pos hn.1] at h106
    refine sound (d := 2) tok2 mixed2 Try.func7 (by kernel_rfl) (by kernel_rfl) ?_
    conv => whnf
    refine .inl ⟨_, _, byX rfl (h106), ?_⟩
    conv => whnf
    refine ifB_bne (fun w1 => ?_) (fun w1 => ?_)
    · (exfalso; omega)
    · conv => whnf
      refine .inl ⟨_, _, byX rfl (h110), ?_⟩
      conv => whnf
      refine ⟨?_, nofun⟩
      rw [hE]; exact ave_sdE _ _
  · rw [if_neg hE]
    unfold treeT at h106
    by_cases hn : netE N = 0
    · rw [if_pos hn] at h106
      refine sound (d := 2) tok2 mixed2 Try.func7 (by kernel_rfl) (by kernel_rfl) ?_
      conv => whnf
      refine .inl ⟨_, _, byX rfl (h106), ?_⟩
      conv => whnf
      refine ifB_bne (fun w1 => ?_) (fun w1 => ?_)
      · conv => whnf
        refine ⟨?_, nofun⟩
        exact ave_tup2 (k := 4) (ave_agg2 (k := 3) (show (0 : Nat) = 0 from rfl) (show (0 : Nat) = 0 from rfl)) rfl
      · (exfalso; omega)
    · rw [if_neg hn] at h106
      refine sound (d := 2) tok2 mixed2 Try.func7 (by kernel_rfl) (by kernel_rfl) ?_
      conv => whnf
      refine .inl ⟨_, _, byX rfl (h106), ?_⟩
      conv => whnf
      refine ifB_bne (fun w1 => ?_) (fun w1 => ?_)
      · conv => whnf
        refine ⟨?_, nofun⟩
        exact ave_tup2 (k := 4) (ave_agg2 (k := 3) (show (0 : Nat) = 0 from rfl) (show (0 : Nat) = 0 from rfl)) rfl
      · (exfalso; omega)

/-- What is first wrong of a circulation; the error of a circulation. -/
def chk0 (N : Net) (x : Int × Int) : Int := firstOf [formE N, crE x.1, crE x.2, if decide (x.1 ≤ x.2) = true then 0 else 9]
def chkE (N : Net) (x : Int × Int) : Int :=
  if chk0 N x = 0 then (if flatQ N (brF N) (clF N).1 then 11 else if provesB N (brF N) (clF N).1 x then 0 else 19) else chk0 N x
theorem firstOf4 (a b c d : Int) : firstOf [a, b, c, d] = if a = 0 then (if b = 0 then (if c = 0 then (if d = 0 then 0 else d) else c) else b) else a := rfl
theorem chk0_ok {N : Net} {x : Int × Int} (h : chk0 N x = 0) : formE N = 0 ∧ crE x.1 = 0 ∧ crE x.2 = 0 ∧ x.1 ≤ x.2 := by
  unfold chk0 at h
  rw [firstOf4] at h
  split at h
  · split at h
    · split at h
      · split at h
        · rename_i a b c d
          exact ⟨a, b, c, of_decide_eq_true d⟩
        · contradiction
      · contradiction
    · contradiction
  · contradiction
end Go.Tr

/- Plain, for TopWaterTwoWays: two parallel conduits, two in series. Conditions: none. -/
namespace Go.Tr
open Go Go.Proofs
set_option maxRecDepth 20000
set_option maxHeartbeats 8000000

theorem loss_pos {r f : Int} (hf : 0 ≤ f) : lossF r f = r * f * f := by
  unfold lossF sizeF
  rw [if_neg (by omega)]
theorem sq_lt_of {r x y : Int} (hr : 0 ≤ r) (hy : 0 ≤ y) (h : r * x * x < r * y * y) : x < y := by
  rcases Int.lt_or_le x y with h1 | h1
  · exact h1
  · exact absurd (sq_mono hr hy h1) (by omega)
/-- A drop less than the loss of a flow passes less at its lower end; one that is not less passes it. -/
theorem lo_below {r d x : Int} (hr : 1 ≤ r) (h0 : 0 ≤ d) (hd : d ≤ 1000000001) (hx : 0 ≤ x) (h : d < r * x * x) : loF r d < x := by
  obtain ⟨h1, _, _, h2, _⟩ := loF_spec hr h0 hd
  exact sq_lt_of (r := r) (by omega) hx (by omega)
theorem lo_above {r d x : Int} (hr : 1 ≤ r) (h0 : 0 ≤ d) (hd : d ≤ 1000000001) (h : r * x * x ≤ d) : x ≤ loF r d := by
  obtain ⟨h1, _, _, _, h2⟩ := loF_spec hr h0 hd
  have := sq_lt_of (r := r) (x := x) (y := loF r d + 1) (by omega) (by omega) (by omega)
  omega
theorem hi_above {r d x : Int} (hr : 1 ≤ r) (hd : d ≤ 1000000001) (h : r * (x - 1) * (x - 1) < d) : x ≤ hiF r d := by
  have h1 := (hiF_spec hr hd).1
  have h2 := hiF_mem r d
  have := sq_lt_of (r := r) (x := x - 1) (y := hiF r d) (by omega) h2.1 (by omega)
  omega

/-- The gap of the loop: the second conduit carries q, the first the rest of D. -/
def gap2 (a b D q : Int) : Int := lossF b q - lossF a (D - q)
theorem gap2_mono {a b D q q' : Int} (ha : 1 ≤ a) (hb : 1 ≤ b) (h : q ≤ q') : gap2 a b D q ≤ gap2 a b D q' := by
  have h1 := loss_mono (r := b) (by omega) h
  have h2 := loss_mono (r := a) (by omega) (show D - q' ≤ D - q by omega)
  unfold gap2; omega
theorem loss_none (r : Int) : lossF r 0 = 0 := by rw [loss_pos (by omega)]; simp
theorem loss_nonneg {r f : Int} (hr : 0 ≤ r) (hf : 0 ≤ f) : 0 ≤ lossF r f := by
  rw [loss_pos hf]; exact Int.mul_nonneg (Int.mul_nonneg hr hf) hf
/-- Where the gap's sign changes: between 0 and D. -/
theorem gap2_q {a b D q : Int} (ha : 1 ≤ a) (hb : 1 ≤ b) (hD : 0 ≤ D) (h1 : 0 ≤ gap2 a b D q) (h2 : gap2 a b D (q - 1) < 0) : 0 ≤ q ∧ q ≤ D ∧ (gap2 a b D q ≠ 0 → 1 ≤ q) := by
  have g0 : gap2 a b D 0 ≤ 0 := by
    unfold gap2; rw [loss_none, Int.sub_zero]; have := loss_nonneg (r := a) (by omega) hD; omega
  have gD : 0 ≤ gap2 a b D D := by
    unfold gap2; rw [Int.sub_self, loss_none]; have := loss_nonneg (r := b) (by omega) hD; omega
  refine ⟨?_, ?_, fun hne => ?_⟩
  · rcases Int.lt_or_le q 0 with h | h
    · -- below 0 the second's loss is negative, the first's is not
      have e1 : lossF b q < 0 := by
        unfold lossF sizeF
        rw [if_pos (by omega)]
        have : 0 < b * -q * -q := Int.mul_pos (Int.mul_pos (by omega) (by omega)) (by omega)
        have e : b * q * -q = -(b * -q * -q) := by rw [Int.mul_neg, Int.mul_neg, Int.mul_neg, Int.neg_mul]; omega
        omega
      have e2 := loss_nonneg (r := a) (f := D - q) (by omega) (by omega)
      unfold gap2 at h1; omega
    · exact h
  · rcases Int.lt_or_le D q with h | h
    · have := gap2_mono (a := a) (b := b) (D := D) ha hb (show D ≤ q - 1 by omega)
      omega
    · exact h
  · rcases Int.lt_or_le q 1 with h | h
    · have := gap2_mono (a := a) (b := b) (D := D) ha hb (show q ≤ 0 by omega)
      omega
    · exact h

section
variable {a b D q : Int} (ha : 1 ≤ a ∧ a ≤ 1000) (hb : 1 ≤ b ∧ b ≤ 1000) (hD : 0 ≤ D) (h1 : 0 ≤ gap2 a b D q) (h2 : gap2 a b D (q - 1) < 0)
include ha hb hD h1 h2
/-- The lower end of the loop's drop is not above the drop at which the lower flows suffice. -/
theorem two_low {d : Int} (h0 : 0 ≤ d) (hd : d ≤ 1000000001) (hs : D ≤ loF a d + loF b d) : lossF a (D - q) ≤ d := by
  obtain ⟨q1, q2, _⟩ := gap2_q ha.1 hb.1 hD h1 h2
  unfold gap2 at h1
  rw [loss_pos (show 0 ≤ q by omega), loss_pos (show 0 ≤ D - q by omega)] at h1
  rw [loss_pos (show 0 ≤ D - q by omega)]
  rcases Int.lt_or_le d (a * (D - q) * (D - q)) with h | h
  · have l1 := lo_below ha.1 h0 hd (by omega) h
    have l2 := lo_below hb.1 h0 hd (x := q) (by omega) (by omega)
    omega
  · exact h
/-- The upper end of the loop's drop: there the upper flows suffice; the lower ones where it is not above d. -/
def highD (a b D q : Int) : Int := if gap2 a b D q = 0 then lossF a (D - q) else lossF a (D - (q - 1))
theorem two_high (hd : highD a b D q ≤ 1000000001) : D ≤ hiF a (highD a b D q) + hiF b (highD a b D q) := by
  obtain ⟨q1, q2, q3⟩ := gap2_q ha.1 hb.1 hD h1 h2
  unfold highD at hd ⊢
  by_cases hg : gap2 a b D q = 0
  · rw [if_pos hg] at hd ⊢
    unfold gap2 at hg
    have e : lossF a (D - q) = lossF b q := by omega
    have x1 : D - q ≤ hiF a (lossF a (D - q)) := by
      by_cases hz : D - q = 0
      · rw [hz]; exact (hiF_mem _ _).1
      · refine hi_above ha.1 hd ?_
        rw [loss_pos (show 0 ≤ D - q by omega)]
        have y1 : 0 < a * (D - q) := Int.mul_pos (by omega) (by omega)
        have y2 : a * (D - q - 1) * (D - q - 1) ≤ a * (D - q - 1) * (D - q) := Int.mul_le_mul_of_nonneg_left (by omega) (Int.mul_nonneg (by omega) (by omega))
        have y3 : a * (D - q - 1) * (D - q) < a * (D - q) * (D - q) := Int.mul_lt_mul_of_pos_right (Int.mul_lt_mul_of_pos_left (by omega) (by omega)) (by omega)
        omega
    have x2 : q ≤ hiF b (lossF a (D - q)) := by
      rw [e] at hd ⊢
      by_cases hz : q = 0
      · rw [hz]; exact (hiF_mem _ _).1
      · refine hi_above hb.1 hd ?_
        rw [loss_pos q1]
        have y2 : b * (q - 1) * (q - 1) ≤ b * (q - 1) * q := Int.mul_le_mul_of_nonneg_left (by omega) (Int.mul_nonneg (by omega) (by omega))
        have y3 : b * (q - 1) * q < b * q * q := Int.mul_lt_mul_of_pos_right (Int.mul_lt_mul_of_pos_left (by omega) (by omega)) (by omega)
        omega
    omega
  · rw [if_neg hg] at hd ⊢
    have q4 := q3 hg
    have g2 := h2
    unfold gap2 at g2
    have x1 : D - q + 1 ≤ hiF a (lossF a (D - (q - 1))) := by
      refine hi_above ha.1 hd ?_
      rw [loss_pos (show 0 ≤ D - (q - 1) by omega)]
      have e1 : D - q + 1 - 1 = D - q := by omega
      have e2 : D - (q - 1) = D - q + 1 := by omega
      rw [e1, e2]
      have y2 : a * (D - q) * (D - q) ≤ a * (D - q) * (D - q + 1) := Int.mul_le_mul_of_nonneg_left (by omega) (Int.mul_nonneg (by omega) (by omega))
      have y3 : a * (D - q) * (D - q + 1) < a * (D - q + 1) * (D - q + 1) := Int.mul_lt_mul_of_pos_right (Int.mul_lt_mul_of_pos_left (by omega) (by omega)) (by omega)
      omega
    have x2 : q ≤ hiF b (lossF a (D - (q - 1))) := by
      refine hi_above hb.1 hd ?_
      rw [loss_pos (show 0 ≤ q - 1 by omega)] at g2
      omega
    omega
theorem two_high_lo {d : Int} (h0 : highD a b D q ≤ d) (hd : d ≤ 1000000001) : D ≤ loF a d + loF b d := by
  obtain ⟨q1, q2, q3⟩ := gap2_q ha.1 hb.1 hD h1 h2
  unfold highD at h0
  by_cases hg : gap2 a b D q = 0
  · rw [if_pos hg] at h0
    unfold gap2 at hg
    have p := loss_nonneg (r := b) (by omega) q1
    have x1 := lo_above ha.1 (d := d) (x := D - q) (by omega) hd (by rw [← loss_pos (show 0 ≤ D - q by omega)]; omega)
    have x2 := lo_above hb.1 (d := d) (x := q) (by omega) hd (by rw [← loss_pos q1]; omega)
    omega
  · rw [if_neg hg] at h0
    have q4 := q3 hg
    have g2 := h2
    unfold gap2 at g2
    have p := loss_nonneg (r := a) (f := D - (q - 1)) (by omega) (by omega)
    have x1 := lo_above ha.1 (d := d) (x := D - (q - 1)) (by omega) hd (by rw [← loss_pos (show 0 ≤ D - (q - 1) by omega)]; omega)
    have x2 := lo_above hb.1 (d := d) (x := q - 1) (by omega) hd (by rw [← loss_pos (show 0 ≤ q - 1 by omega)]; omega)
    omega
end
end Go.Tr

/- Plain, for TopWaterTwoWays: the nets of two parallel conduits, of two in series, of one. Conditions: none. -/
namespace Go.Tr
open Go Go.Proofs
set_option maxRecDepth 20000
set_option maxHeartbeats 8000000

def loop2 (s j x y : ByteArray) (H D a b : Int) : Net := ⟨[⟨s, true, H, 0⟩, ⟨j, false, 0, D⟩], [⟨x, 0, 1, a, false, true⟩, ⟨y, 0, 1, b, false, true⟩]⟩
def ser2 (s j m x y : ByteArray) (H D a b : Int) : Net := ⟨[⟨s, true, H, 0⟩, ⟨j, false, 0, D⟩, ⟨m, false, 0, 0⟩], [⟨x, 0, 2, a, false, true⟩, ⟨y, 2, 1, b, false, true⟩]⟩
def one1 (s j x : ByteArray) (H D a : Int) : Net := ⟨[⟨s, true, H, 0⟩, ⟨j, false, 0, D⟩], [⟨x, 0, 1, a, false, true⟩]⟩
section
variable (s j m x y : ByteArray) (H D a b : Int)
theorem loop2_br : brF (loop2 s j x y H D a b) = [(0, 1)] := rfl
theorem loop2_cl : clF (loop2 s j x y H D a b) = (1, 0) := rfl
theorem ser2_br : brF (ser2 s j m x y H D a b) = [(0, 2), (1, 1)] := rfl
theorem ser2_cl : clF (ser2 s j m x y H D a b) = (-1, 0) := rfl
theorem one1_br : brF (one1 s j x H D a) = [(0, 1)] := rfl
theorem one1_cl : clF (one1 s j x H D a) = (-1, 0) := rfl
theorem loop2_state (q : Int) : stateF (loop2 s j x y H D a b) [(0, 1)] 1 q = ([D - q, q], [1000 * H, 1000 * H - lossF a (D - q)]) := by
  have e : stateF (loop2 s j x y H D a b) [(0, 1)] 1 q = ([1 * (D - q), q], [1000 * H, 1000 * H - lossF a (1 * (1 * (D - q)))]) := rfl
  rw [e, Int.one_mul, Int.one_mul]
theorem ser2_state : stateF (ser2 s j m x y H D a b) [(0, 2), (1, 1)] (-1) 0 = ([D, D], [1000 * H, 1000 * H - lossF a D - lossF b D, 1000 * H - lossF a D]) := by
  have e : stateF (ser2 s j m x y H D a b) [(0, 2), (1, 1)] (-1) 0 = ([1 * (0 + D), 1 * D], [1000 * H, 1000 * H - lossF a (1 * (1 * (0 + D))) - lossF b (1 * (1 * D)), 1000 * H - lossF a (1 * (1 * (0 + D)))]) := rfl
  rw [e]; simp only [Int.one_mul, Int.zero_add]
theorem one1_state : stateF (one1 s j x H D a) [(0, 1)] (-1) 0 = ([D], [1000 * H, 1000 * H - lossF a D]) := by
  have e : stateF (one1 s j x H D a) [(0, 1)] (-1) 0 = ([1 * D], [1000 * H, 1000 * H - lossF a (1 * (1 * D))]) := rfl
  rw [e]; simp only [Int.one_mul]
theorem loss_add (hD : 0 ≤ D) : lossF (a + b) D = lossF a D + lossF b D := by
  rw [loss_pos hD, loss_pos hD, loss_pos hD, Int.add_mul, Int.add_mul]
theorem ser2_one (hD : 0 ≤ D) : (stateF (ser2 s j m x y H D a b) [(0, 2), (1, 1)] (-1) 0).2.getD 1 0 = (stateF (one1 s j x H D (a + b)) [(0, 1)] (-1) 0).2.getD 1 0 := by
  rw [ser2_state, one1_state, loss_add _ _ _ hD]
  change 1000 * H - lossF a D - lossF b D = 1000 * H - (lossF a D + lossF b D)
  omega
theorem loop2_gap (q : Int) : gapF (loop2 s j x y H D a b) [(0, 1)] 1 q = gap2 a b D q := by
  unfold gapF gap2
  rw [loop2_state]
  change lossF b q - (1000 * H - (1000 * H - lossF a (D - q))) = _
  omega
theorem loop2_flat (ha : 1 ≤ a) (hb : 1 ≤ b) : flatB (loop2 s j x y H D a b) [(0, 1)] 1 = false := by
  unfold flatB
  rw [loop2_gap, loop2_gap]
  refine decide_eq_false fun h => ?_
  have h2 := loss_mono (r := a) (by omega) (show D - 200000 ≤ D - -200000 by omega)
  have h3 : lossF b 200000 = 200000 * 200000 * b := by rw [loss_pos (by decide), Int.mul_assoc, Int.mul_comm]
  have h4 : lossF b (-200000) = -(200000 * 200000 * b) := by
    have : lossF b (-200000) = b * -200000 * 200000 := rfl
    rw [this]; omega
  unfold gap2 at h
  omega
end
/-- The loop's circulation, and the drop of its steady state. -/
theorem loop2_steady (s j x y : ByteArray) (H D a b : Int) (hS : StOk (loop2 s j x y H D a b) [(0, 1)] 1) (ha : 1 ≤ a) (hb : 1 ≤ b) (_hD : 0 ≤ D) :
    ∃ q, 0 ≤ gap2 a b D q ∧ gap2 a b D (q - 1) < 0 ∧ -200000 < q ∧ q ≤ 200000 ∧ (steadyF (loop2 s j x y H D a b) [(0, 1)] 1).1.length = 2 ∧
      (steadyF (loop2 s j x y H D a b) [(0, 1)] 1).2 = [(1000 * H, 1000 * H), (1000 * H - highD a b D q, 1000 * H - lossF a (D - q))] := by
  have hf := loop2_flat s j x y H D a b ha hb
  obtain ⟨h1, h2, h3, h4⟩ := circ_spec hS (by decide) (show (0 : Int) ≠ 1 by decide) hf
  rw [loop2_gap] at h3 h4
  refine ⟨circHi (loop2 s j x y H D a b) [(0, 1)] 1, h3, h4, h1, h2, ?_, ?_⟩
  · unfold steadyF
    rw [loop2_state, loop2_state]; rfl
  · unfold steadyF circF
    rw [if_neg (by decide), loop2_gap]
    unfold highD
    generalize circHi (loop2 s j x y H D a b) [(0, 1)] 1 = q at *
    by_cases hg : gap2 a b D q = 0
    · rw [if_pos hg, if_pos hg, loop2_state]
      simp [rngL]
    · rw [if_neg hg, if_neg hg, loop2_state, loop2_state]
      have := loss_mono (r := a) (by omega) (show D - q ≤ D - (q - 1) by omega)
      simp only [rngL, List.zipWith]
      rw [if_neg (by omega), if_neg (by omega)]
      by_cases he : 1000 * H - lossF a (D - q) > 1000 * H - lossF a (D - (q - 1))
      · rw [if_pos he]
      · rw [if_neg he, show lossF a (D - q) = lossF a (D - (q - 1)) by omega]
section
variable {a b D q : Int} (ha : 1 ≤ a ∧ a ≤ 1000) (hb : 1 ≤ b ∧ b ≤ 1000) (hD : 0 ≤ D ∧ D ≤ 10000) (h1 : 0 ≤ gap2 a b D q) (h2 : gap2 a b D (q - 1) < 0)
include ha hb hD h1 h2
theorem two_bounds : 0 ≤ lossF a (D - q) ∧ lossF a (D - q) ≤ highD a b D q ∧ highD a b D q ≤ 200000000000 := by
  obtain ⟨q1, q2, q3⟩ := gap2_q ha.1 hb.1 hD.1 h1 h2
  have g1 := loss_nonneg (r := a) (f := D - q) (by omega) (by omega)
  have g2 := loss_mono (r := a) (by omega) (show D - q ≤ D - (q - 1) by omega)
  have g3 : lossF a (D - (q - 1)) ≤ lossF 1000 10001 := by
    have x1 := loss_mono (r := a) (by omega) (show D - (q - 1) ≤ 10001 by omega)
    have x2 : lossF a 10001 ≤ lossF 1000 10001 := by
      rw [loss_pos (by decide), loss_pos (by decide)]; omega
    omega
  have g4 : lossF 1000 10001 = 100020001000 := by decide
  unfold highD
  split <;> omega
theorem two_drop : dropE [a, b] D = 0 ∧ dropLo [a, b] D ≤ highD a b D q ∧
    (dropHi [a, b] D ≤ 1000000000 → lossF a (D - q) ≤ dropHi [a, b] D ∧ D ≤ loF a (dropHi [a, b] D) + loF b (dropHi [a, b] D)) ∧ (1000000000 < dropHi [a, b] D → 900000000 < highD a b D q) := by
  have hr : ∀ r ∈ [a, b], 1 ≤ r ∧ r ≤ 1000 := fun r hr => by
    rcases List.mem_cons.1 hr with e | e
    · subst e; exact ha
    · rw [List.mem_singleton.1 e]; exact hb
  have m1 := dropLo_mem [a, b] D
  have m2 := dropHi_mem [a, b] D
  have l1 := leastF_least (fun d => decide (hiS d [a, b] ≥ D)) 0 1000000001 (fun x y h1 h2 h3 h => by
    have := sums_mono hr h1 h2 (by omega)
    simp only [decide_eq_true_eq] at h ⊢
    omega) 30 0 1000000001 (by omega) (by omega) (by omega) (by decide)
  have l2 := leastF_least (fun d => decide (loS d [a, b] ≥ D)) 0 1000000001 (fun x y h1 h2 h3 h => by
    have := sums_mono hr h1 h2 (by omega)
    simp only [decide_eq_true_eq] at h ⊢
    omega) 30 (dropLo [a, b] D) 1000000001 (by omega) (by omega) (by omega) (by
      have : (2 : Nat) ^ 30 = 1073741824 := by decide
      omega)
  have eH : ∀ d, hiS d [a, b] = hiF a d + (hiF b d + 0) := fun d => rfl
  have eL : ∀ d, loS d [a, b] = loF a d + (loF b d + 0) := fun d => rfl
  obtain ⟨b1, b2, b3⟩ := two_bounds ha hb hD h1 h2
  have hlo : dropLo [a, b] D ≤ highD a b D q := by
    rcases Int.lt_or_le (highD a b D q) (dropLo [a, b] D) with h | h
    · have f := of_decide_eq_false (l1.1 (highD a b D q) (by omega) h)
      have g := two_high ha hb hD.1 h1 h2 (by omega)
      rw [eH] at f
      omega
    · exact h
  refine ⟨?_, hlo, fun h => ?_, fun h => ?_⟩
  · unfold dropE rsE fE
    have : [a, b].all rOk = true := by
      simp only [List.all_cons, List.all_nil, Bool.and_true, Bool.and_eq_true, rOk, decide_eq_true_eq]
      exact ⟨ha, hb⟩
    rw [this]
    simp [hD]
  · have g := (drop_spec hr h).2
    rw [eL] at g
    exact ⟨two_low ha hb hD.1 h1 h2 (by omega) (by omega) (by omega), by omega⟩
  · rcases Int.lt_or_le 900000000 (highD a b D q) with h' | h'
    · exact h'
    · have f := of_decide_eq_false (l2.1 1000000000 (by omega) h)
      have g := two_high_lo ha hb hD.1 h1 h2 (d := 1000000000) (by omega) (by omega)
      rw [eL] at f
      omega
end
end Go.Tr

/- Plain, for TopWaterTwoWays: its nets are valid. Conditions: none. -/
namespace Go.Tr
open Go Go.Proofs
set_option maxRecDepth 20000
set_option maxHeartbeats 8000000

theorem node_okE {seen : List ByteArray} {n : Nd} (h1 : nameB n.name = true) (h2 : hasS seen n.name = false) (h3 : nodeRight n = true) (h4 : nodeOther n = 0) : nodeE seen n = 0 := by
  unfold nodeE; rw [h1, h2, h3, h4]; rfl
theorem con_okE {nn : Nat} {seen : List ByteArray} {c : Cn} (h1 : nameB c.name = true) (h2 : hasS seen c.name = false) (h3 : (isN nn c.fr && isN nn c.to) = true) (h4 : (c.fr == c.to) = false) (h5 : 0 ≤ c.res ∧ c.res ≤ 1000) (h6 : (c.valve || c.opn) = true) : conE nn seen c = 0 := by
  unfold conE; rw [h1, h2, h3, h4, decide_eq_true h5, h6]; rfl
/-- The names. -/
def nmS : ByteArray := ⟨#[115]⟩
def nmJ : ByteArray := ⟨#[106]⟩
def nmM : ByteArray := ⟨#[109]⟩
def nmA : ByteArray := ⟨#[97]⟩
def nmB : ByteArray := ⟨#[98]⟩
theorem hs1 : hasS ([] ++ [nmS]) nmJ = false := by decide +kernel
theorem hs2 : hasS ([] ++ [nmA]) nmB = false := by decide +kernel
theorem hs3 : hasS ([] ++ [nmS] ++ [nmJ]) nmM = false := by decide +kernel
theorem lake_r {s : ByteArray} {H : Int} (h : 0 ≤ H ∧ H ≤ 1000000) : nodeRight ⟨s, true, H, 0⟩ = true := decide_eq_true h
theorem junc_r {s : ByteArray} {D : Int} (h : 0 ≤ D ∧ D ≤ 10000) : nodeRight ⟨s, false, 0, D⟩ = true := decide_eq_true (show -10000 ≤ D ∧ D ≤ 10000 by omega)
section
variable {H D a b : Int} (hH : 0 ≤ H ∧ H ≤ 1000000) (hD : 0 ≤ D ∧ D ≤ 10000) (ha : 0 ≤ a ∧ a ≤ 1000) (hb : 0 ≤ b ∧ b ≤ 1000)
include hH hD ha
theorem one1_ok : netE (one1 nmS nmJ nmA H D a) = 0 := by
  have e1 : scan nodeE Nd.name 0 [] (one1 nmS nmJ nmA H D a).ns = none := by
    simp only [one1, scan]
    rw [if_pos (node_okE rfl rfl (lake_r hH) rfl), if_pos (node_okE (seen := [] ++ [nmS]) (n := ⟨nmJ, false, 0, D⟩) rfl hs1 (junc_r hD) rfl)]
  have e2 : scan (conE (one1 nmS nmJ nmA H D a).ns.length) Cn.name 0 [] (one1 nmS nmJ nmA H D a).cs = none := by
    simp only [one1, scan]
    rw [if_pos (con_okE rfl rfl rfl rfl ha rfl)]
  unfold netE checkN
  rw [if_neg (by simp [one1]), if_neg (by simp [one1])]
  unfold midN tailN
  rw [e1, e2]
include hb
theorem loop2_ok : netE (loop2 nmS nmJ nmA nmB H D a b) = 0 := by
  have e1 : scan nodeE Nd.name 0 [] (loop2 nmS nmJ nmA nmB H D a b).ns = none := by
    simp only [loop2, scan]
    rw [if_pos (node_okE rfl rfl (lake_r hH) rfl), if_pos (node_okE (seen := [] ++ [nmS]) (n := ⟨nmJ, false, 0, D⟩) rfl hs1 (junc_r hD) rfl)]
  have e2 : scan (conE (loop2 nmS nmJ nmA nmB H D a b).ns.length) Cn.name 0 [] (loop2 nmS nmJ nmA nmB H D a b).cs = none := by
    simp only [loop2, scan]
    rw [if_pos (con_okE rfl rfl rfl rfl ha rfl), if_pos (con_okE (seen := [] ++ [nmA]) (c := ⟨nmB, 0, 1, b, false, true⟩) rfl hs2 rfl rfl hb rfl)]
  unfold netE checkN
  rw [if_neg (by simp [loop2]), if_neg (by simp [loop2])]
  unfold midN tailN
  rw [e1, e2]
theorem ser2_ok : netE (ser2 nmS nmJ nmM nmA nmB H D a b) = 0 := by
  have e1 : scan nodeE Nd.name 0 [] (ser2 nmS nmJ nmM nmA nmB H D a b).ns = none := by
    simp only [ser2, scan]
    rw [if_pos (node_okE rfl rfl (lake_r hH) rfl), if_pos (node_okE (seen := [] ++ [nmS]) (n := ⟨nmJ, false, 0, D⟩) rfl hs1 (junc_r hD) rfl), if_pos (node_okE (seen := [] ++ [nmS] ++ [nmJ]) (n := ⟨nmM, false, 0, 0⟩) rfl hs3 (junc_r (by omega)) rfl)]
  have e2 : scan (conE (ser2 nmS nmJ nmM nmA nmB H D a b).ns.length) Cn.name 0 [] (ser2 nmS nmJ nmM nmA nmB H D a b).cs = none := by
    simp only [ser2, scan]
    rw [if_pos (con_okE rfl rfl rfl rfl ha rfl), if_pos (con_okE (seen := [] ++ [nmA]) (c := ⟨nmB, 2, 1, b, false, true⟩) rfl hs2 rfl rfl hb rfl)]
  unfold netE checkN
  rw [if_neg (by simp [ser2]), if_neg (by simp [ser2])]
  unfold midN tailN
  rw [e1, e2]
theorem loop2_form : formE (loop2 nmS nmJ nmA nmB H D a b) = 0 := by
  unfold formE; rw [if_pos (loop2_ok hH hD ha hb), loop2_cl]
end
end Go.Tr

/- The examples of chapter 2 are as they should be: awake gives true. Conditions: none. -/
namespace Go.Tr
open Go Go.Proofs

def G83 : FuncId → List AV → Option (AV × Bool)
  | 28, [.val (.int .i64 r), .val (.int .i64 d)] => bif decide (0 ≤ r) && decide (r ≤ 1000000) then some (.agg [i64 (loF r d), i64 (hiF r d)], false) else none
  | _, _ => none
theorem G83_ok (f : FuncId) (args : List AV) (r : AV) (fr : Bool) (h : G83 f args = some (r, fr)) : SP f args r fr ∧ fr = false := by
  unfold G83 at h
  split at h
  · rename_i r0 d0
    cases hb : (decide (0 ≤ r0) && decide (r0 ≤ 1000000)) with
    | true =>
      rw [hb, cond_true] at h
      cases h
      simp only [Bool.and_eq_true, decide_eq_true_eq] at hb
      exact ⟨S28 r0 d0 hb.1 hb.2, rfl⟩
    | false => rw [hb] at h; cases h
  · cases h

theorem run_drop : Run.ok Try.prog ⟨8, [tab 1 [[i64 100], [i64 400]], i64 30], .tuple [.agg [i64 36101, i64 40000], i64 0]⟩ := run_okG mixed2 G83_ok 1000 60 (by kernel_rfl)
end Go.Tr

/- The examples of chapter 2: cuts and fills. Conditions: none. -/
namespace Go.Tr
open Go Go.Proofs
theorem run_fill : Run.ok Try.prog ⟨14, [dryA, i64 0], .tuple [tab 1 [[i64 0], [i64 1]], i64 0]⟩ := run_ok mixed2 (l := []) (by simp) 1000 60 (by kernel_rfl)
end Go.Tr

/- The examples of chapter 2: the circulation. Conditions: none. -/
namespace Go.Tr
open Go Go.Proofs
theorem run_circ : Run.ok Try.prog ⟨12, [netA], .tuple [.agg [i64 17, i64 18], i64 0]⟩ := run_ok mixed2 (l := []) (by simp) 1000 60 (by kernel_rfl)
end Go.Tr

/- The examples of chapter 2 are as they should be: awake gives true. Conditions: none. -/
namespace Go.Tr
open Go Go.Proofs
def runs2 : List Run := [⟨13, [], netA⟩, ⟨15, [], dryA⟩, ⟨8, [tab 1 [[i64 100], [i64 400]], i64 30], .tuple [.agg [i64 36101, i64 40000], i64 0]⟩,
  ⟨14, [dryA, i64 0], .tuple [tab 1 [[i64 0], [i64 1]], i64 0]⟩, ⟨12, [netA], .tuple [.agg [i64 17, i64 18], i64 0]⟩]
theorem runs2_ok : ∀ x ∈ runs2, x.ok Try.prog := by
  intro x hx
  simp only [runs2, List.mem_cons, List.not_mem_nil, or_false] at hx
  rcases hx with rfl | rfl | rfl | rfl | rfl
  · exact run_net
  · exact run_dry
  · exact run_drop
  · exact run_fill
  · exact run_circ
end Go.Tr

/- Plain laws of chapter 2: roots. Conditions: none. -/
namespace Go.Tr
open Go Go.Proofs
set_option maxRecDepth 20000
set_option maxHeartbeats 8000000

/-- The root rounded down, bit by bit. -/
def rootF : Nat → Int → Int → Int
  | 0, _, r => r
  | k + 1, n, r => rootF k n (if (r + 2 ^ k) * (r + 2 ^ k) ≤ n then r + 2 ^ k else r)
theorem two_pow_pos (k : Nat) : (1 : Int) ≤ 2 ^ k := by
  induction k with
  | zero => decide
  | succ k ih => rw [Int.pow_succ]; omega
theorem rootF_spec : ∀ (k : Nat) (n r : Int), 0 ≤ r → r * r ≤ n → n < (r + 2 ^ k) * (r + 2 ^ k) → 0 ≤ rootF k n r ∧ rootF k n r * rootF k n r ≤ n ∧ n < (rootF k n r + 1) * (rootF k n r + 1)
  | 0, n, r, h0, h1, h2 => ⟨h0, h1, by simp only [rootF]; simpa using h2⟩
  | k + 1, n, r, h0, h1, h2 => by
    have hb := two_pow_pos k
    unfold rootF
    split
    · rename_i h
      refine rootF_spec k n _ (by omega) h ?_
      rw [Int.pow_succ] at h2
      rw [show r + 2 ^ k + 2 ^ k = r + 2 ^ k * 2 by omega]
      exact h2
    · rename_i h
      exact rootF_spec k n r h0 h1 (by omega)
def rOf (n : Int) : Int := rootF 31 n 0
theorem rOf_spec {n : Int} (h0 : 0 ≤ n) (h1 : n < 4611686018427387904) : 0 ≤ rOf n ∧ rOf n * rOf n ≤ n ∧ n < (rOf n + 1) * (rOf n + 1) :=
  rootF_spec 31 n 0 (by omega) h0 (by
    have : ((0 : Int) + 2 ^ 31) * (0 + 2 ^ 31) = 4611686018427387904 := by decide
    omega)
theorem sq_lt {a b n : Int} (hb : 0 ≤ b) (h1 : a * a ≤ n) (h2 : n < (b + 1) * (b + 1)) : a ≤ b := by
  rcases Int.lt_or_le b a with h | h
  · have : (b + 1) * (b + 1) ≤ a * a := Int.mul_le_mul (by omega) (by omega) (by omega) (by omega)
    omega
  · exact h
def rUp (n : Int) : Int := if rOf n * rOf n < n then rOf n + 1 else rOf n
theorem rUp_spec {n : Int} (h0 : 0 ≤ n) (h1 : n < 4611686018427387904) : 0 ≤ rUp n ∧ n ≤ rUp n * rUp n ∧ (∀ x, 0 ≤ x → x < rUp n → x * x < n) := by
  obtain ⟨a, b, c⟩ := rOf_spec h0 h1
  unfold rUp
  generalize rOf n = s at *
  split
  · rename_i h
    refine ⟨by omega, by omega, fun x hx hs => ?_⟩
    have : x * x ≤ s * s := Int.mul_le_mul (by omega) (by omega) (by omega) (by omega)
    omega
  · rename_i h
    refine ⟨by omega, by omega, fun x hx hs => ?_⟩
    have : (x + 1) * (x + 1) ≤ s * s := Int.mul_le_mul (by omega) (by omega) (by omega) (by omega)
    have e : (x + 1) * (x + 1) = x * x + (x + x + 1) := by rw [Int.mul_add, Int.add_mul]; omega
    omega

theorem mul3 (r x y : Int) : r * x * y = x * y * r := by rw [Int.mul_assoc, Int.mul_comm]
theorem lo_root {r d : Int} (hr : 1 ≤ r) (h0 : 0 ≤ d) (hd : d ≤ 1000000001) : loF r d = rOf (d / r) := by
  obtain ⟨a1, a2, a3, a4, a5⟩ := loF_spec hr h0 hd
  have q0 : 0 ≤ d / r := Int.ediv_nonneg h0 (by omega)
  have q1 : d / r ≤ d := Int.ediv_le_self _ h0
  obtain ⟨b1, b2, b3⟩ := rOf_spec q0 (by omega)
  rw [mul3] at a4 a5
  have c4 : loF r d * loF r d ≤ d / r := (Int.le_ediv_iff_mul_le (by omega)).2 a4
  have c5 : d / r < (loF r d + 1) * (loF r d + 1) := (Int.ediv_lt_iff_lt_mul (by omega)).2 a5
  have := sq_lt b1 c4 b3
  have := sq_lt a1 b2 c5
  omega

theorem hi_root {r d : Int} (hr : 1 ≤ r) (h0 : 0 ≤ d) (hd : d ≤ 1000000001) : hiF r d = rUp (-(-d / r)) := by
  obtain ⟨s1, s2⟩ := hiF_spec hr hd
  have hm := hiF_mem r d
  generalize hc : -(-d / r) = c
  have e1 : d ≤ c * r := by
    have := Int.ediv_mul_le (-d) (show r ≠ 0 by omega)
    have : c * r = -(-d / r * r) := by rw [← hc, Int.neg_mul]
    omega
  have e2 : ∀ z, d ≤ z * r → c ≤ z := fun z hz => by
    have : -z ≤ -d / r := (Int.le_ediv_iff_mul_le (by omega)).2 (by rw [Int.neg_mul]; omega)
    omega
  have c0 : 0 ≤ c := by
    rcases Int.lt_or_le c 0 with h | h
    · have : c * r < 0 := Int.mul_neg_of_neg_of_pos h (by omega)
      omega
    · exact h
  have c1 : c ≤ d := e2 d (by
    have := Int.mul_le_mul_of_nonneg_left (show 1 ≤ r by omega) h0
    omega)
  obtain ⟨b1, b2, b3⟩ := rUp_spec c0 (by omega)
  have f1 : c ≤ hiF r d * hiF r d := e2 _ (by rw [mul3] at s1; exact s1)
  have f2 : ∀ x, 0 ≤ x → x < hiF r d → x * x < c := fun x hx hlt => by
    have := s2 x hx hlt
    rw [mul3] at this
    rcases Int.lt_or_le (x * x) c with h | h
    · exact h
    · have := Int.mul_le_mul_of_nonneg_right h (show 0 ≤ r by omega)
      omega
  rcases Int.lt_trichotomy (hiF r d) (rUp c) with h | h | h
  · have := b3 _ hm.1 h; omega
  · exact h
  · have := f2 _ b1 h; omega

theorem floor_eq {n b : Int} (hb : 0 < b) : (if n.tmod b < 0 then n.tdiv b - 1 else n.tdiv b) = n / b := by
  have e := Int.mul_tdiv_add_tmod n b
  have u := Int.tmod_lt_of_pos n hb
  have l := Int.lt_tmod_of_pos n hb
  split
  · rename_i h
    exact ((Int.ediv_emod_unique (r := n.tmod b + b) hb).2 ⟨by rw [Int.mul_sub]; omega, by omega, by omega⟩).1.symm
  · rename_i h
    exact ((Int.ediv_emod_unique (r := n.tmod b) hb).2 ⟨by omega, by omega, by omega⟩).1.symm
end Go.Tr

/- Contracts of chapter 2: roots, and the reference of flows. Conditions: none. -/
namespace Go.Tr
open Go Go.Proofs
set_option maxRecDepth 20000
set_option maxHeartbeats 8000000

theorem tdiv_small {n b : Int} (hb : 1 ≤ b) (h0 : -4000000000000000000 ≤ n) (h1 : n ≤ 4000000000000000000) : -4000000000000000000 ≤ n.tdiv b ∧ n.tdiv b ≤ 4000000000000000000 := by
  have e := floor_eq (n := n) (b := b) (by omega)
  have l1 : n / b ≤ 4000000000000000000 := by
    rcases Int.lt_or_le n 0 with h | h
    · have := Int.ediv_neg_of_neg_of_pos h (show 0 < b by omega); omega
    · have := Int.ediv_le_self b h; omega
  have l2 : -4000000000000000000 ≤ n / b := (Int.le_ediv_iff_mul_le (by omega)).2 (by
    omega)
  split at e
  · rename_i h
    have u := Int.mul_tdiv_add_tmod n b
    have : n.tdiv b ≤ 0 := by
      rcases Int.lt_or_le 0 (n.tdiv b) with h' | h'
      · have h2 : 0 ≤ n := by
          rcases Int.lt_or_le n 0 with h3 | h3
          · have h4 : n.tdiv b ≤ 0 := by
              have := Int.neg_tdiv n b
              have h5 : 0 ≤ (-n).tdiv b := Int.tdiv_nonneg (by omega) (by omega)
              omega
            omega
          · exact h3
        have := Int.tmod_nonneg b h2
        omega
      · exact h'
    omega
  · omega

theorem ediv_small {n b : Int} (hb : 1 ≤ b) (h0 : -4000000000000000000 ≤ n) (h1 : n ≤ 4000000000000000000) : -4000000000000000001 ≤ n / b ∧ n / b ≤ 4000000000000000000 := by
  have s := tdiv_small hb h0 h1
  rw [← floor_eq (by omega)]
  split <;> omega

theorem half_pow (k : Nat) : ((2 : Int) ^ (k + 1)).tdiv 2 = 2 ^ k := by
  rw [Int.pow_succ, Int.mul_tdiv_cancel _ (by decide)]
theorem ave_t2 (a b : Int) : AVE 5 (.tuple [i64 a, i64 b]) (.tuple [i64 a, i64 b]) := by
  refine ⟨rfl, fun i x y h1 h2 => ?_⟩
  match i, h1, h2 with
  | 0, h1, h2 => cases h1; cases h2; rfl
  | 1, h1, h2 => cases h1; cases h2; rfl
theorem ave_rngB (a b : Int) (e : Bool) : AVE 5 (.tuple [.agg [i64 a, i64 b], vb e]) (.tuple [.agg [i64 a, i64 b], vb e]) := by
  refine ⟨rfl, fun i x y h1 h2 => ?_⟩
  match i, h1, h2 with
  | 0, h1, h2 =>
    cases h1; cases h2
    refine ⟨rfl, fun i x y h1 h2 => ?_⟩
    match i, h1, h2 with
    | 0, h1, h2 => cases h1; cases h2; rfl
    | 1, h1, h2 => cases h1; cases h2; rfl
  | 1, h1, h2 => cases h1; cases h2; rfl

/-- The reference's two numbers. -/
def refLo (l : List Int) (fl : Int) : Int := leastF (fun d => decide (hiS d l ≥ fl)) 30 0 1000000000
def refHi (l : List Int) (fl : Int) : Int := leastF (fun d => decide (loS d l ≥ fl)) 30 0 1000000000
theorem half_eq {a b : Int} (h : 0 ≤ a) (h2 : a < b) : (a + b).tdiv 2 = a + (b - a) / 2 := by
  rw [Int.tdiv_eq_ediv_of_nonneg (by omega)]; omega
theorem leastF_done {p : Int → Bool} {n : Nat} {a b : Int} (h : ¬ a < b) : leastF p n a b = a := by
  cases n with
  | zero => rfl
  | succ n => rw [leastF, if_neg h]
theorem leastF_go {p : Int → Bool} {n : Nat} {a b : Int} (h : a < b) (hn : (b - a).toNat < 2 ^ n) : ∃ k, n = k + 1 ∧ leastF p n a b = (bif p (a + (b - a) / 2) then leastF p k a (a + (b - a) / 2) else leastF p k (a + (b - a) / 2 + 1) b) ∧ (b - a).toNat < 2 * 2 ^ k := by
  cases n with
  | zero => simp at hn; omega
  | succ k => exact ⟨k, rfl, by rw [leastF, if_pos h], by rw [Nat.pow_succ] at hn; omega⟩

theorem S10 (l : List Int) (hl : l.length ≤ 1000000000) : SP 10 [ints l] (.tuple [i64 (if rsE l = 0 then l.sum else 0), i64 (rsE l)]) false := by
  have h80 := S20 l hl
  refine sound (d := 2) tok2 mixed2 Try.func10 (by kernel_rfl) (by kernel_rfl) ?_
  conv => whnf
  refine .inl ⟨_, _, byX rfl (Sound1.pl (h80) rfl), ?_⟩
  conv => whnf
  refine ifB_bne (fun w1 => ?_) (fun w1 => ?_)
  · conv => whnf
    refine ⟨?_, nofun⟩
    rw [if_neg (by assumption)]
    exact ave_t2 _ _
  · have hk := rsE_ok w1
    rw [if_pos w1, w1]
    conv => whnf
    refine ⟨[], [5, 13, 14, 15], fun st mq => ∃ (k : Nat) (a : Int), (k ≤ l.length) ∧ (a + (l.drop k).sum = l.sum) ∧ (0 ≤ a ∧ a ≤ 1000 * k) ∧ st = ⟨[(5, i64 a), (13, ints l), (14, i64 l.length), (15, i64 k)], ⟨[], [], none, 0⟩, []⟩ ∧ mq = l.length - k,
      ⟨_, _, ⟨0, 0, by omega, Int.zero_add _, by omega, rfl, rfl⟩, ⟨⟨rfl, rfl, rfl, rfl⟩, trivial, trivial⟩⟩, ?_⟩
    rintro s0 m0 ⟨k, a, hk1, ha, hc, rfl, hmeas⟩
    have hx : k < l.length → 1 ≤ l.getD (k : Int).toNat 0 ∧ l.getD (k : Int).toNat 0 ≤ 1000 := fun h => hk.2.2 _ (by simp [List.getD_eq_getElem?_getD, h])
    conv => whnf
    conv => whnf
    refine ifB_dec (fun w2 => ?_) (fun w2 => ?_)
    · conv => whnf
      conv => whnf
      refine ⟨⟨(by omega), (by omega)⟩, ?_⟩
      conv => whnf
      conv => whnf
      refine ⟨inK64 (by omega) (by omega), ?_⟩
      conv => whnf
      conv => whnf
      refine ⟨inK64 (by omega) (by omega), ?_⟩
      have e := List.drop_eq_getElem_cons (l := l) (i := k) (by omega)
      have e2 : l.getD (k : Int).toNat 0 = l[k] := by simp [List.getD_eq_getElem?_getD, show k < l.length by omega]
      rw [e, List.sum_cons, ← e2] at ha
      conv => whnf
      conv => whnf
      refine ⟨_, _, ⟨⟨k + 1, _, by omega, by (rw [Int.add_assoc]; exact ha), by omega, rfl, rfl⟩, by omega⟩, ⟨⟨rfl, rfl, rfl, rfl⟩, trivial, trivial⟩⟩
    · conv => whnf
      conv => whnf
      refine ⟨?_, nofun⟩
      have e : k = l.length := by omega
      subst e
      simp only [List.drop_length, List.sum_nil, Int.add_zero] at ha
      rw [← ha]
      exact ave_t2 _ _
end Go.Tr

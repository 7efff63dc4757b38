/- Plain laws of chapter 2: the gap never decreases with the circulation; the closing conduit. Conditions: none. -/
import Derived.Test.YtkomdfgffgkphaaTr08
import Derived.Test.YtkomdfgffgkphaaTr05
import Derived.Test.YtkomdfgffgkphaaTr06
import Derived.Test.YtkomdfgffgkphaaTr07

namespace Go.Tr
open Go Go.Proofs
set_option maxRecDepth 20000
set_option maxHeartbeats 8000000

theorem size_nonneg (f : Int) : 0 ≤ sizeF f := by unfold sizeF; split <;> omega
theorem sq_size_mono {f g : Int} (h : f ≤ g) : f * sizeF f ≤ g * sizeF g := by
  by_cases hf : 0 ≤ f
  · have e1 : sizeF f = f := by unfold sizeF; split <;> omega
    have e2 : sizeF g = g := by unfold sizeF; split <;> omega
    rw [e1, e2]
    exact Int.mul_le_mul h h hf (by omega)
  · have e1 : sizeF f = -f := by unfold sizeF; split <;> omega
    by_cases hg : 0 ≤ g
    · have h1 : f * sizeF f ≤ 0 := by
        rw [e1]; exact Int.mul_nonpos_of_nonpos_of_nonneg (by omega) (by omega)
      have h2 : 0 ≤ g * sizeF g := Int.mul_nonneg hg (size_nonneg g)
      omega
    · have e2 : sizeF g = -g := by unfold sizeF; split <;> omega
      rw [e1, e2, Int.mul_neg, Int.mul_neg]
      have : (-g) * (-g) ≤ (-f) * (-f) := Int.mul_le_mul (by omega) (by omega) (by omega) (by omega)
      rw [Int.neg_mul_neg, Int.neg_mul_neg] at this
      omega
theorem loss_mono {r f g : Int} (hr : 0 ≤ r) (h : f ≤ g) : lossF r f ≤ lossF r g := by
  unfold lossF
  rw [Int.mul_assoc, Int.mul_assoc]
  exact Int.mul_le_mul_of_nonneg_left (sq_size_mono h) hr

/-- Is it this node? -/
def dl (u p : Nat) : Int := if u = p then 1 else 0

section
variable {n : Nat} {cs : List Cn}
theorem tok (hcs : ∀ c ∈ cs, 0 ≤ c.res) (hr : inR n cs) (D : Int) (hD : 0 ≤ D) : ∀ (l : List (Int × Int)) (m : List Bool) (s s' : List Int × List Int) (P0 R0 : Nat), m.length = n → s.1.length = cs.length → s'.1.length = cs.length → s.2.length = n → s'.2.length = n → TreeOk n cs m l →
    (∀ u : Nat, s'.2.getD u 0 = s.2.getD u 0 + D * (dl u P0 - dl u R0)) →
    ∃ P R : Nat, (∀ u : Nat, m.getD u false = true → (backL cs l s').2.getD u 0 = (backL cs l s).2.getD u 0 + D * (dl u P - dl u R)) ∧
      ((l = [] → P = P0 ∧ R = R0) ∧ ∀ F F' h h' : List Int, h.length = n → h'.length = n → (∀ x ∈ l, F.getD x.1.toNat 0 = (backL cs l s).1.getD x.1.toNat 0) → (∀ x ∈ l, F'.getD x.1.toNat 0 = (backL cs l s').1.getD x.1.toNat 0) →
        h'.getD P 0 ≤ h.getD P 0 → h.getD R 0 ≤ h'.getD R 0 → (foreL cs F' l h').getD P0 0 ≤ (foreL cs F l h).getD P0 0 ∧ (foreL cs F l h).getD R0 0 ≤ (foreL cs F' l h').getD R0 0)
  | [], m, s, s', P0, R0, _, _, _, _, _, _, hs => ⟨P0, R0, fun u _ => hs u, fun _ => ⟨rfl, rfl⟩, fun F F' h h' _ _ _ _ h1 h2 => ⟨h1, h2⟩⟩
  | b :: r, m, s, s', P0, R0, hm, a1, a2, a3, a4, ht, hs => by
    have ht0 := ht
    have hd := tree_dist hm hr ht
    have hrg := tree_range r _ ht.2
    obtain ⟨hB, ht2⟩ := ht
    have i0 := hB.i0; have i1 := hB.i1; have v0 := hB.v0; have v1 := hB.v1; have o0 := hB.o0; have o1 := hB.o1
    obtain ⟨P1, R1, g1, _, g2⟩ := tok hcs hr D hD r (m.set b.2.toNat true) s s' P0 R0 (by simpa using hm) a1 a2 a3 a4 ht2 hs
    have hne : (otherN (cs.getD b.1.toNat cn0) b.2).toNat ≠ b.2.toNat := fun e => by
      have := hB.new
      rw [← e, hB.old] at this
      cases this
    have mk : ∀ u, m.getD u false = true → (m.set b.2.toNat true).getD u false = true := fun u hu => by
      rw [getD_set]; split
      · rfl
      · exact hu
    have mv : (m.set b.2.toNat true).getD b.2.toNat false = true := by rw [getD_set, if_pos]; exact ⟨rfl, by omega⟩
    have gv := g1 _ mv
    have hl1 : (backL cs r s).2.length = n := by rw [(backL_len cs r s).2, a3]
    have hl2 : (backL cs r s').2.length = n := by rw [(backL_len cs r s').2, a4]
    refine ⟨if P1 = b.2.toNat then (otherN (cs.getD b.1.toNat cn0) b.2).toNat else P1, if R1 = b.2.toNat then (otherN (cs.getD b.1.toNat cn0) b.2).toNat else R1, ?_, ⟨(fun h => by cases h), ?_⟩⟩
    · intro u hu
      have gu := g1 u (mk u hu)
      have huv : u ≠ b.2.toNat := fun e => by
        have := hB.new
        rw [← e, hu] at this
        cases this
      show ((backL cs r s').2.set _ _).getD u 0 = ((backL cs r s).2.set _ _).getD u 0 + _
      rw [getD_setI, getD_setI]
      by_cases huo : u = (otherN (cs.getD b.1.toNat cn0) b.2).toNat
      · rw [if_pos ⟨huo, by omega⟩, if_pos ⟨huo, by omega⟩, ← huo, gu, gv]
        have e1 : dl u (if P1 = b.2.toNat then u else P1) = dl u P1 + dl b.2.toNat P1 := by
          unfold dl
          by_cases e : P1 = b.2.toNat
          · rw [if_pos e, if_pos rfl, if_neg (by omega), if_pos e.symm]; rfl
          · have h0 : (if b.2.toNat = P1 then (1 : Int) else 0) = 0 := if_neg (fun h => e h.symm)
            rw [if_neg e, h0]; omega
        have e2 : dl u (if R1 = b.2.toNat then u else R1) = dl u R1 + dl b.2.toNat R1 := by
          unfold dl
          by_cases e : R1 = b.2.toNat
          · rw [if_pos e, if_pos rfl, if_neg (by omega), if_pos e.symm]; rfl
          · have h0 : (if b.2.toNat = R1 then (1 : Int) else 0) = 0 := if_neg (fun h => e h.symm)
            rw [if_neg e, h0]; omega
        rw [e1, e2]
        simp only [Int.mul_sub, Int.mul_add]
        omega
      · rw [if_neg (fun h => huo h.1), if_neg (fun h => huo h.1), gu]
        have e1 : dl u (if P1 = b.2.toNat then (otherN (cs.getD b.1.toNat cn0) b.2).toNat else P1) = dl u P1 := by
          unfold dl
          by_cases e : P1 = b.2.toNat
          · rw [if_pos e, if_neg huo, if_neg (by omega)]
          · rw [if_neg e]
        have e2 : dl u (if R1 = b.2.toNat then (otherN (cs.getD b.1.toNat cn0) b.2).toNat else R1) = dl u R1 := by
          unfold dl
          by_cases e : R1 = b.2.toNat
          · rw [if_pos e, if_neg huo, if_neg (by omega)]
          · rw [if_neg e]
        rw [e1, e2]
    · intro F F' h h' hh hh' hF hF' hP hR
      have sgn : ∀ (c : Cn) (v x : Int), signN c v * (signN c v * x) = x := fun c v x => by
        unfold signN; split <;> omega
      have f1 : signN (cs.getD b.1.toNat cn0) b.2 * F.getD b.1.toNat 0 = (backL cs r s).2.getD b.2.toNat 0 := by
        rw [hF b (by simp), back_flow_at a1 ht0, sgn]
      have f2 : signN (cs.getD b.1.toNat cn0) b.2 * F'.getD b.1.toNat 0 = (backL cs r s').2.getD b.2.toNat 0 := by
        rw [hF' b (by simp), back_flow_at a2 ht0, sgn]
      have hFr : ∀ x ∈ r, F.getD x.1.toNat 0 = (backL cs r s).1.getD x.1.toNat 0 := fun x hx => by
        rw [hF x (by simp [hx])]
        show ((backL cs r s).1.set _ _).getD _ 0 = _
        rw [getD_setI, if_neg]
        rintro ⟨e, _⟩
        have := (hrg x hx).1
        exact hd x hx (by omega)
      have hFr' : ∀ x ∈ r, F'.getD x.1.toNat 0 = (backL cs r s').1.getD x.1.toNat 0 := fun x hx => by
        rw [hF' x (by simp [hx])]
        show ((backL cs r s').1.set _ _).getD _ 0 = _
        rw [getD_setI, if_neg]
        rintro ⟨e, _⟩
        have := (hrg x hx).1
        exact hd x hx (by omega)
      have hres := hcs (cs.getD b.1.toNat cn0) (mem_getD (by omega))
      have sv : ∀ (G g : List Int), g.length = n → (stepH cs G b g).getD b.2.toNat 0 = g.getD (otherN (cs.getD b.1.toNat cn0) b.2).toNat 0 - lossF (cs.getD b.1.toNat cn0).res (signN (cs.getD b.1.toNat cn0) b.2 * G.getD b.1.toNat 0) := fun G g hg => by
        unfold stepH
        rw [getD_setI, if_pos]
        exact ⟨rfl, by omega⟩
      have so : ∀ (G g : List Int) (u : Nat), u ≠ b.2.toNat → (stepH cs G b g).getD u 0 = g.getD u 0 := fun G g u hu => by
        unfold stepH
        rw [getD_setI, if_neg (fun h => hu h.1)]
      refine g2 F F' (stepH cs F b h) (stepH cs F' b h') (by simpa [stepH] using hh) (by simpa [stepH] using hh') hFr hFr' ?_ ?_
      · by_cases e : P1 = b.2.toNat
        · rw [if_pos e] at hP
          rw [e, sv F h hh, sv F' h' hh', f1, f2, gv]
          have hd1 : dl b.2.toNat P1 = 1 := if_pos e.symm
          have hd2 : dl b.2.toNat R1 ≤ 1 := by unfold dl; split <;> omega
          have := Int.mul_nonneg hD (show 0 ≤ dl b.2.toNat P1 - dl b.2.toNat R1 by omega)
          have := loss_mono hres (show (backL cs r s).2.getD b.2.toNat 0 ≤ (backL cs r s).2.getD b.2.toNat 0 + D * (dl b.2.toNat P1 - dl b.2.toNat R1) by omega)
          omega
        · rw [if_neg e] at hP
          rw [so F h P1 e, so F' h' P1 e]
          exact hP
      · by_cases e : R1 = b.2.toNat
        · rw [if_pos e] at hR
          rw [e, sv F h hh, sv F' h' hh', f1, f2, gv]
          have hd1 : dl b.2.toNat R1 = 1 := if_pos e.symm
          have hd2 : dl b.2.toNat P1 ≤ 1 := by unfold dl; split <;> omega
          have := Int.mul_nonneg hD (show 0 ≤ dl b.2.toNat R1 - dl b.2.toNat P1 by omega)
          have e3 : D * (dl b.2.toNat P1 - dl b.2.toNat R1) = -(D * (dl b.2.toNat R1 - dl b.2.toNat P1)) := by
            rw [← Int.mul_neg]; congr 1; omega
          have := loss_mono hres (show (backL cs r s).2.getD b.2.toNat 0 + D * (dl b.2.toNat P1 - dl b.2.toNat R1) ≤ (backL cs r s).2.getD b.2.toNat 0 by omega)
          omega
        · rw [if_neg e] at hR
          rw [so F h R1 e, so F' h' R1 e]
          exact hR
end

theorem st0_diff {N : Net} {c q q' : Int} (hr : inR N.ns.length N.cs) (hc0 : 0 ≤ c) (hc : c < N.cs.length) (hne : (N.cs.getD c.toNat cn0).fr ≠ (N.cs.getD c.toNat cn0).to) (u : Nat) :
    (st0 N c q').2.getD u 0 = (st0 N c q).2.getD u 0 + (q' - q) * (dl u (N.cs.getD c.toNat cn0).fr.toNat - dl u (N.cs.getD c.toNat cn0).to.toNat) := by
  have he := hr (N.cs.getD c.toNat cn0) (mem_getD (by omega))
  have hn : (N.cs.getD c.toNat cn0).to.toNat ≠ (N.cs.getD c.toNat cn0).fr.toNat := by omega
  have hl := drawsL_len N
  have hv : ∀ q : Int, ((drawsL N).set (N.cs.getD c.toNat cn0).fr.toNat ((drawsL N).getD (N.cs.getD c.toNat cn0).fr.toNat 0 + q)).getD (N.cs.getD c.toNat cn0).to.toNat 0 = (drawsL N).getD (N.cs.getD c.toNat cn0).to.toNat 0 := fun q => by
    rw [getD_setI, if_neg (fun h => hn h.1)]
  have hx : ∀ q : Int, (st0 N c q).2.getD u 0 = if u = (N.cs.getD c.toNat cn0).to.toNat then (drawsL N).getD u 0 - q else if u = (N.cs.getD c.toNat cn0).fr.toNat then (drawsL N).getD u 0 + q else (drawsL N).getD u 0 := fun q => by
    unfold st0
    rw [if_neg (by omega)]
    show (((drawsL N).set _ _).set _ _).getD u 0 = _
    rw [hv, getD_setI, getD_setI]
    by_cases h1 : u = (N.cs.getD c.toNat cn0).to.toNat
    · rw [if_pos ⟨h1, by rw [List.length_set]; omega⟩, if_pos h1, ← h1]
    · rw [if_neg (fun h => h1 h.1), if_neg h1]
      by_cases h2 : u = (N.cs.getD c.toNat cn0).fr.toNat
      · rw [if_pos ⟨h2, by omega⟩, if_pos h2, ← h2]
      · rw [if_neg (fun h => h2 h.1), if_neg h2]
  rw [hx, hx]
  unfold dl
  by_cases h1 : u = (N.cs.getD c.toNat cn0).to.toNat
  · rw [if_pos h1, if_pos h1, if_neg (by omega), if_pos h1]
    omega
  · rw [if_neg h1, if_neg h1, if_neg h1]
    by_cases h2 : u = (N.cs.getD c.toNat cn0).fr.toNat
    · rw [if_pos h2, if_pos h2, if_pos h2]; omega
    · rw [if_neg h2, if_neg h2, if_neg h2]; omega

/-- The gap never decreases with the circulation. -/
theorem gap_mono {N : Net} {b : List (Int × Int)} {c q q' : Int} (hS : StOk N b c) (hc : 0 ≤ c) (hne : (N.cs.getD c.toNat cn0).fr ≠ (N.cs.getD c.toNat cn0).to) (h : q ≤ q') : gapF N b c q ≤ gapF N b c q' := by
  have hcl := hS.cl
  obtain ⟨P, R, _, _, g⟩ := tok (fun c hc => (hS.res c hc).1) hS.ends (q' - q) (by omega) b (lakesB N) (st0 N c q) (st0 N c q') _ _ (lakesB_len N) (st0_len0 N c q) (st0_len0 N c q') (st0_len1 N c q) (st0_len1 N c q') hS.tr (st0_diff hS.ends hc hcl hne)
  have := g (backL N.cs b (st0 N c q)).1 (backL N.cs b (st0 N c q')).1 (headsL N) (headsL N) (headsL_len N) (headsL_len N) (fun _ _ => rfl) (fun _ _ => rfl) (Int.le_refl _) (Int.le_refl _)
  have hl := loss_mono (hS.res (N.cs.getD c.toNat cn0) (mem_getD (by omega))).1 h
  unfold gapF stateF
  simp only
  omega
end Go.Tr

/- Plain: the closing conduit, and what holds in a state. Conditions: none. -/
namespace Go.Tr
open Go Go.Proofs
set_option maxRecDepth 20000
set_option maxHeartbeats 8000000

theorem closeF_keep (T : List Int) : ∀ (l : List Cn) (k : Nat) (o : Int), 0 ≤ o → (closeF T k l o).2 = 0 → (closeF T k l o).1 = o ∧ ∀ j, j < l.length → (l.getD j cn0).opn = true → T.contains ((k + j : Nat) : Int) = true
  | [], k, o, ho, h => ⟨rfl, fun j hj => by simp at hj⟩
  | c :: r, k, o, ho, h => by
    rw [closeF] at h ⊢
    by_cases e : c.opn = false ∨ T.contains (k : Int) = true
    · rw [if_pos e] at h ⊢
      have ih := closeF_keep T r (k + 1) o ho h
      refine ⟨ih.1, fun j hj hop => ?_⟩
      cases j with
      | zero =>
        rcases e with e | e
        · rw [List.getD_cons_zero, e] at hop; cases hop
        · exact e
      | succ j =>
        have := ih.2 j (by simpa using hj) (by simpa using hop)
        rwa [show k + (j + 1) = k + 1 + j by omega]
    · rw [if_neg e, if_pos ho] at h
      exact absurd (show (8 : Int) = 0 from h) (by decide)
theorem closeF_all (T : List Int) : ∀ (l : List Cn) (k : Nat), (closeF T k l (-1)).2 = 0 →
    (∀ j, j < l.length → (l.getD j cn0).opn = true → T.contains ((k + j : Nat) : Int) = false → (closeF T k l (-1)).1 = (k + j : Nat)) ∧
    (0 ≤ (closeF T k l (-1)).1 → ∃ j, j < l.length ∧ (closeF T k l (-1)).1 = (k + j : Nat) ∧ (l.getD j cn0).opn = true ∧ T.contains ((k + j : Nat) : Int) = false)
  | [], k, h => ⟨fun j hj => by simp at hj, fun h0 => by rw [closeF] at h0; exact absurd h0 (by decide)⟩
  | c :: r, k, h => by
    rw [closeF] at h ⊢
    by_cases e : c.opn = false ∨ T.contains (k : Int) = true
    · rw [if_pos e] at h ⊢
      have ih := closeF_all T r (k + 1) h
      refine ⟨fun j hj hop ht => ?_, fun h0 => ?_⟩
      · cases j with
        | zero =>
          rw [List.getD_cons_zero] at hop
          rw [Nat.add_zero] at ht
          rcases e with e | e
          · rw [e] at hop; cases hop
          · rw [e] at ht; cases ht
        | succ j =>
          have := ih.1 j (by simpa using hj) (by simpa using hop) (by rwa [show k + 1 + j = k + (j + 1) by omega])
          rw [this, show k + 1 + j = k + (j + 1) by omega]
      · obtain ⟨j, a, b, c, d⟩ := ih.2 h0
        refine ⟨j + 1, by simpa using a, ?_, by simpa using c, ?_⟩
        · rw [b, show k + 1 + j = k + (j + 1) by omega]
        · rwa [show k + (j + 1) = k + 1 + j by omega]
    · rw [if_neg e, if_neg (by decide)] at h ⊢
      have kp := closeF_keep T r (k + 1) k (by omega) h
      have ho : c.opn = true := by
        cases hc : c.opn with
        | true => rfl
        | false => exact absurd (.inl hc) e
      have ht : T.contains (k : Int) = false := by
        cases hc : T.contains (k : Int) with
        | false => rfl
        | true => exact absurd (.inr hc) e
      refine ⟨fun j hj hop hn => ?_, fun h0 => ⟨0, by simp, kp.1, ho, ht⟩⟩
      cases j with
      | zero => exact kp.1
      | succ j =>
        have := kp.2 j (by simpa using hj) (by simpa using hop)
        rw [show k + 1 + j = k + (j + 1) by omega] at this
        rw [this] at hn; cases hn
theorem not_contains {l : List (Int × Int)} {x : Int} (h : (l.map (·.1)).contains x = false) : ∀ b ∈ l, b.1 ≠ x := fun b hb e => by
  have : (l.map (·.1)).contains x = true := by
    rw [List.contains_iff_mem]; exact List.mem_map.2 ⟨b, hb, e⟩
  rw [this] at h; cases h
theorem is_contains {l : List (Int × Int)} {x : Int} (h : (l.map (·.1)).contains x = true) : ∃ b ∈ l, b.1 = x := by
  rw [List.contains_iff_mem] at h
  exact List.mem_map.1 h
/-- What the form says of a net. -/
theorem form_ok {N : Net} (hok : N.Ok) (h : (clF N).2 = 0) :
    (∀ u, u < N.ns.length → (afterF (lakesB N) (brF N)).getD u false = true) ∧
    (∀ j, j < N.cs.length → (N.cs.getD j cn0).opn = true → (∀ b ∈ brF N, b.1 ≠ j) → (clF N).1 = j) ∧
    (0 ≤ (clF N).1 → (N.cs.getD (clF N).1.toNat cn0).opn = true ∧ ∀ b ∈ brF N, b.1 ≠ (clF N).1) := by
  unfold clF at h ⊢
  by_cases hg : gapE N = true
  · rw [if_pos hg] at h; exact absurd h (by decide)
  · rw [if_neg hg] at h ⊢
    have ha := closeF_all _ _ _ h
    refine ⟨fun u hu => ?_, fun j hj ho hb => ?_, fun h0 => ?_⟩
    · have hl := (treeF_len hok.ends).1
      have ht := (brF_tree hok.ends).2
      unfold gapE at hg
      rw [ht] at hg hl
      cases e : (afterF (lakesB N) (brF N)).getD u false with
      | true => rfl
      | false =>
        refine absurd ?_ hg
        rw [List.contains_iff_mem]
        have hu' : u < (afterF (lakesB N) (brF N)).length := by omega
        rw [List.getD_eq_getElem?_getD, List.getElem?_eq_getElem hu', Option.getD_some] at e
        rw [← e]; exact List.getElem_mem hu'
    · have := ha.1 j hj ho (by
        rw [Nat.zero_add]
        cases e : ((brF N).map (·.1)).contains (j : Int) with
        | false => rfl
        | true =>
          obtain ⟨b, hb1, hb2⟩ := is_contains e
          exact absurd hb2 (hb b hb1))
      rw [this, Nat.zero_add]
    · obtain ⟨j, a, b, c, d⟩ := ha.2 h0
      rw [Nat.zero_add] at b d
      rw [b, Int.toNat_natCast]
      exact ⟨c, not_contains d⟩
/-- A sum of sizes, after a change. -/
theorem sumA_set : ∀ (d : List Int) (k : Nat) (x : Int), sumA (d.set k (d.getD k 0 + x)) ≤ sumA d + absI x
  | [], k, x => by simp [sumA]; exact absI_nonneg x
  | a :: r, 0, x => by
    have := absI_add a x
    simp only [List.set_cons_zero, List.getD_cons_zero, sumA, List.map_cons, List.sum_cons]
    omega
  | a :: r, k + 1, x => by
    have := sumA_set r k x
    simp only [List.set_cons_succ, List.getD_cons_succ]
    unfold sumA at this ⊢
    simp only [List.map_cons, List.sum_cons]
    omega
theorem st0_sum' {N : Net} {b : List (Int × Int)} {c q : Int} (hS : StOk N b c) (hq : -200000 ≤ q ∧ q ≤ 200000) : sumA (st0 N c q).2 ≤ 500000 := by
  have h := sumA_le (B := 10000) (drawsL N) fun i => absI_of (drawsL_bd hS.dr i)
  rw [drawsL_len] at h
  have := hS.n1
  have ha : absI q ≤ 200000 := absI_of hq
  have hb : absI (-q) ≤ 200000 := absI_of (by omega)
  unfold st0
  split
  · show sumA (drawsL N) ≤ _
    omega
  · have h1 := sumA_set (drawsL N) (N.cs.getD c.toNat cn0).fr.toNat q
    have h2 := sumA_set ((drawsL N).set (N.cs.getD c.toNat cn0).fr.toNat ((drawsL N).getD (N.cs.getD c.toNat cn0).fr.toNat 0 + q)) (N.cs.getD c.toNat cn0).to.toNat (-q)
    show sumA (((drawsL N).set _ _).set _ (_ - q)) ≤ _
    rw [Int.sub_eq_add_neg]
    omega
theorem st0_fl' {N : Net} {c q : Int} (hq : -200000 ≤ q ∧ q ≤ 200000) (i : Nat) : -500000 ≤ (st0 N c q).1.getD i 0 ∧ (st0 N c q).1.getD i 0 ≤ 500000 := by
  have hz : ∀ i, -500000 ≤ (List.replicate N.cs.length (0 : Int)).getD i 0 ∧ (List.replicate N.cs.length (0 : Int)).getD i 0 ≤ 500000 := fun i => by
    have e : (List.replicate N.cs.length (0 : Int)).getD i 0 = 0 := by
      simp only [List.getD_eq_getElem?_getD, List.getElem?_replicate]; split <;> rfl
    omega
  unfold st0
  split
  · exact hz i
  · exact set_bdI hz (by omega) i
theorem inflow_zero : ∀ (cs : List Cn) (n : Nat) (u : Nat), inflow cs (List.replicate n 0) u = 0
  | [], n, u => by cases n <;> rfl
  | c :: r, 0, u => rfl
  | c :: r, n + 1, u => by rw [List.replicate_succ, inflow, inflow_zero r n u]; omega
theorem st0_z {N : Net} {c q : Int} {i : Nat} (h : (i : Int) ≠ c) : (st0 N c q).1.getD i 0 = 0 := by
  have e : (List.replicate N.cs.length (0 : Int)).getD i 0 = 0 := by
    simp only [List.getD_eq_getElem?_getD, List.getElem?_replicate]; split <;> rfl
  unfold st0
  split
  · exact e
  · show ((List.replicate N.cs.length (0 : Int)).set c.toNat q).getD i 0 = 0
    rw [getD_setI, if_neg (fun h => by omega)]; exact e
theorem st0_in {N : Net} {c q : Int} (hr : inR N.ns.length N.cs) (hc : c < N.cs.length) (hne : 0 ≤ c → (N.cs.getD c.toNat cn0).fr ≠ (N.cs.getD c.toNat cn0).to) (u : Nat) :
    inflow N.cs (st0 N c q).1 u + (st0 N c q).2.getD u 0 = (drawsL N).getD u 0 := by
  by_cases h0 : 0 ≤ c
  · have hd := st0_diff (q := 0) (q' := q) hr h0 hc (hne h0) u
    have hz : (st0 N c 0).2.getD u 0 = (drawsL N).getD u 0 := by
      unfold st0
      rw [if_neg (by omega)]
      show (((drawsL N).set _ (_ + 0)).set _ (_ - 0)).getD u 0 = _
      have he := hr (N.cs.getD c.toNat cn0) (mem_getD (by omega))
      have := drawsL_len N
      rw [getD_setI]
      split
      · next h => rw [Int.sub_zero, Int.add_zero, ← h.1, getD_setI]; split
                  · next h => rw [← h.1]
                  · rfl
      · rw [Int.add_zero, getD_setI]
        split
        · next h => rw [← h.1]
        · rfl
    rw [hd, hz]
    have e : (st0 N c q).1 = (List.replicate N.cs.length 0).set c.toNat q := by unfold st0; rw [if_neg (by omega)]
    have e0 : (List.replicate N.cs.length (0 : Int)).getD c.toNat 0 = 0 := by
      simp only [List.getD_eq_getElem?_getD, List.getElem?_replicate]; split <;> rfl
    rw [e, inflow_set _ _ _ _ _ (by simp) (by omega), inflow_zero, e0]
    unfold dl
    have f : ∀ v : Nat, (if v = u then (1 : Int) else 0) = if u = v then 1 else 0 := fun v => by
      by_cases h : v = u
      · rw [if_pos h, if_pos h.symm]
      · rw [if_neg h, if_neg (fun e => h e.symm)]
    rw [f, f, Int.sub_zero]
    have := Int.mul_sub q (if u = (N.cs.getD c.toNat cn0).to.toNat then (1 : Int) else 0) (if u = (N.cs.getD c.toNat cn0).fr.toNat then 1 else 0)
    have := Int.mul_sub q (if u = (N.cs.getD c.toNat cn0).fr.toNat then (1 : Int) else 0) (if u = (N.cs.getD c.toNat cn0).to.toNat then 1 else 0)
    omega
  · have e : st0 N c q = (List.replicate N.cs.length 0, drawsL N) := by unfold st0; rw [if_pos (by omega)]
    rw [e, inflow_zero]
    show 0 + (drawsL N).getD u 0 = _
    omega

/-- What WaterKept asks of a state. -/
structure Kept (N : Net) (q : Int) (s : List Int × List Int) : Prop where
  l1 : s.1.length = N.cs.length
  l2 : s.2.length = N.ns.length
  bd : ∀ i, -1000000 ≤ s.1.getD i 0 ∧ s.1.getD i 0 ≤ 1000000
  shut : ∀ i, i < N.cs.length → (N.cs.getD i cn0).opn = false → s.1.getD i 0 = 0
  cl : ∀ i, i < N.cs.length → (i : Int) = (clF N).1 → s.1.getD i 0 = q
  hd : ∀ i, -180000000000000000 ≤ s.2.getD i 0 ∧ s.2.getD i 0 ≤ 180000000000000000
  loss : ∀ i, i < N.cs.length → (N.cs.getD i cn0).opn = true → (i : Int) ≠ (clF N).1 → s.2.getD (N.cs.getD i cn0).fr.toNat 0 - s.2.getD (N.cs.getD i cn0).to.toNat 0 = lossF (N.cs.getD i cn0).res (s.1.getD i 0)
  lake : ∀ u, u < N.ns.length → (N.ns.getD u nd0).lake = true → s.2.getD u 0 = 1000 * (N.ns.getD u nd0).head
  draw : ∀ u, u < N.ns.length → (N.ns.getD u nd0).lake = false → inflow N.cs s.1 u = (N.ns.getD u nd0).draw
theorem kept_ok {N : Net} {q : Int} (hok : N.Ok) (h : (clF N).2 = 0) (hq : -200000 ≤ q ∧ q ≤ 200000) : Kept N q (stateF N (brF N) (clF N).1 q) := by
  have hS := stOk hok
  have hl := state_len N (brF N) (clF N).1 q
  obtain ⟨hf1, hf2, hf3⟩ := form_ok hok h
  have hrg := tree_range (brF N) _ hS.tr
  have hlk : ∀ u, u < N.ns.length → (lakesB N).getD u false = (N.ns.getD u nd0).lake := fun u hu =>
    lakesB_getD N u hu
  have hz : ∀ b ∈ brF N, (st0 N (clF N).1 q).1.getD b.1.toNat 0 = 0 := fun b hb => st0_z fun e => by
    have := hrg b hb
    have := (hf3 (by omega)).2 b hb
    omega
  refine ⟨hl.1, hl.2, fun i => ?_, fun i hi ho => ?_, fun i hi he => ?_, fun i => (state_bd hS hq i).2, fun i hi ho he => ?_, fun u hu hu1 => ?_, fun u hu hu1 => ?_⟩
  · have := back_flow (brF N) _ (st0 N (clF N).1 q) (lakesB_len N) (st0_len1 N _ q) hS.tr (st0_sum' hS hq) (st0_fl' hq) i
    unfold stateF
    simp only
    omega
  · unfold stateF
    show (backL N.cs (brF N) _).1.getD i 0 = 0
    rw [back_other _ _ i (fun b hb => (hrg b hb).1) (fun b hb e => by
      have := (hrg b hb).2.2.2.2
      rw [e, Int.toNat_natCast, ho] at this
      cases this)]
    exact st0_z fun e => by
      have := (hf3 (by omega)).1
      rw [← e, Int.toNat_natCast, ho] at this
      cases this
  · unfold stateF
    show (backL N.cs (brF N) _).1.getD i 0 = q
    have h0 : 0 ≤ (clF N).1 := by omega
    rw [back_other _ _ i (fun b hb => (hrg b hb).1) (fun b hb e => (hf3 h0).2 b hb (by omega))]
    unfold st0
    rw [if_neg (by omega)]
    show ((List.replicate N.cs.length (0 : Int)).set (clF N).1.toNat q).getD i 0 = q
    rw [getD_setI, if_pos ⟨by omega, by simp; omega⟩]
  · by_cases hb : ∀ b ∈ brF N, b.1 ≠ i
    · exact absurd (hf2 i hi ho hb).symm he
    · have hx : ∃ b ∈ brF N, b.1 = (i : Int) := Classical.byContradiction fun hn => hb fun b h1 h2 => hn ⟨b, h1, h2⟩
      obtain ⟨b, hb1, hbi⟩ := hx
      have := fore_loss (n := N.ns.length) (cs := N.cs) (f := (backL N.cs (brF N) (st0 N (clF N).1 q)).1) (brF N) _ (headsL N) (lakesB_len N) (headsL_len N) hS.tr b hb1
      rw [hbi, Int.toNat_natCast] at this
      exact this
  · have := fore_keep (n := N.ns.length) (cs := N.cs) (f := (backL N.cs (brF N) (st0 N (clF N).1 q)).1) (brF N) _ (headsL N) u hS.tr (by rw [hlk u hu, hu1])
    rw [headsL_getD N u hu] at this
    exact this
  · have := (kept (n := N.ns.length) (cs := N.cs) (brF N) _ (st0 N (clF N).1 q) (lakesB_len N) (st0_len0 N _ q) (st0_len1 N _ q) hok.ends hS.tr hz u hu).2 (by rw [hlk u hu, hu1]) (hf1 u hu)
    have h2 := st0_in (q := q) hok.ends hS.cl (fun h0 => (hok.con _ (mem_getD (by have := hS.cl; omega))).1) u
    rw [drawsL_getD N u hu] at h2
    unfold stateF
    simp only
    omega
end Go.Tr

/- The examples of chapter 2 are as they should be: awake gives true. Conditions: none. -/
namespace Go.Tr
open Go Go.Proofs

def G83 : FuncId → List AV → Option (AV × Bool)
  | 83, [.val (.int .i64 r), .val (.int .i64 d)] => bif decide (0 ≤ r) && decide (r ≤ 1000000) then some (.agg [i64 (loF r d), i64 (hiF r d)], false) else none
  | _, _ => none
theorem G83_ok (f : FuncId) (args : List AV) (r : AV) (fr : Bool) (h : G83 f args = some (r, fr)) : SP f args r fr ∧ fr = false := by
  unfold G83 at h
  split at h
  · rename_i r0 d0
    cases hb : (decide (0 ≤ r0) && decide (r0 ≤ 1000000)) with
    | true =>
      rw [hb, cond_true] at h
      cases h
      simp only [Bool.and_eq_true, decide_eq_true_eq] at hb
      exact ⟨S83 r0 d0 hb.1 hb.2, rfl⟩
    | false => rw [hb] at h; cases h
  · cases h

theorem run_drop : Run.ok Try.prog ⟨28, [tab 1 [[i64 100], [i64 400]], i64 30], .tuple [.agg [i64 36101, i64 40000], i64 0]⟩ := run_okG mixed2 G83_ok 1000 60 (by kernel_rfl)
theorem run_gap : Run.ok Try.prog ⟨42, [netA, i64 17], .tuple [i64 (-2200), i64 0]⟩ := run_ok mixed2 (l := []) (by simp) 1000 60 (by kernel_rfl)
end Go.Tr

/- The examples of chapter 2: cuts and fills. Conditions: none. -/
namespace Go.Tr
open Go Go.Proofs
theorem run_fill : Run.ok Try.prog ⟨31, [dryA, i64 0], .tuple [tab 1 [[i64 0], [i64 1]], i64 0]⟩ := run_ok mixed2 (l := []) (by simp) 1000 60 (by kernel_rfl)
theorem run_cut : Run.ok Try.prog ⟨55, [netA, .agg [i64 0, i64 2]], .tuple [tab 1 [[i64 1]], i64 0]⟩ := run_ok mixed2 (l := []) (by simp) 1000 60 (by kernel_rfl)
end Go.Tr

/- The examples of chapter 2: the circulation. Conditions: none. -/
namespace Go.Tr
open Go Go.Proofs
theorem run_circ : Run.ok Try.prog ⟨48, [netA], .tuple [.agg [i64 17, i64 18], i64 0]⟩ := run_ok mixed2 (l := []) (by simp) 1000 60 (by kernel_rfl)
end Go.Tr

/- The examples of chapter 2 are as they should be: awake gives true. Conditions: none. -/
namespace Go.Tr
open Go Go.Proofs
def runs2 : List Run := [⟨69, [], netA⟩, ⟨70, [], dryA⟩, ⟨28, [tab 1 [[i64 100], [i64 400]], i64 30], .tuple [.agg [i64 36101, i64 40000], i64 0]⟩, ⟨42, [netA, i64 17], .tuple [i64 (-2200), i64 0]⟩,
  ⟨31, [dryA, i64 0], .tuple [tab 1 [[i64 0], [i64 1]], i64 0]⟩, ⟨55, [netA, .agg [i64 0, i64 2]], .tuple [tab 1 [[i64 1]], i64 0]⟩, ⟨48, [netA], .tuple [.agg [i64 17, i64 18], i64 0]⟩]
theorem runs2_ok : ∀ x ∈ runs2, x.ok Try.prog := by
  intro x hx
  simp only [runs2, List.mem_cons, List.not_mem_nil, or_false] at hx
  rcases hx with rfl | rfl | rfl | rfl | rfl | rfl | rfl
  · exact run_net
  · exact run_dry
  · exact run_drop
  · exact run_gap
  · exact run_fill
  · exact run_cut
  · exact run_circ
theorem S14 : SP 14 [] (vb true) false := run_ok mixed2 runs2_ok 1000 60 (y := vb true) (by kernel_rfl)
end Go.Tr

/- The law WaterNets returns true for every net and every two numbers. Conditions: none. -/
namespace Go.Tr
open Go Go.Proofs
set_option maxRecDepth 20000
set_option maxHeartbeats 8000000

theorem few_bounds {N : Net} (h : fewB N = true) : N.ns.length ≤ 12 ∧ N.cs.length ≤ 16 := by
  unfold fewB at h
  simp only [Bool.and_eq_true, decide_eq_true_eq] at h
  exact h.1.1

theorem S18a (r f : Int) (h : 0 ≤ r ∧ r ≤ 1000 ∧ -200000 ≤ f ∧ f ≤ 200000) : SP 18 [i64 r, i64 f] (.tuple [i64 (lossF r f), i64 0]) false := by
  have := S18 r f
  rw [if_pos h] at this
  exact this
theorem S18b (r f : Int) (h : ¬ (0 ≤ r ∧ r ≤ 1000 ∧ -200000 ≤ f ∧ f ≤ 200000)) : SP 18 [i64 r, i64 f] (.tuple [i64 0, i64 2]) false := by
  have := S18 r f
  rw [if_neg h] at this
  exact this

theorem S3 (N : Net) (hN : N.In) (r f : Int) : SP 3 [netV N, i64 r, i64 f] (vb true) false := by
  by_cases hc : 0 ≤ r ∧ r ≤ 1000 ∧ -200000 ≤ f ∧ f ≤ 200000
  · refine sound (d := 2) tok2 mixed2 Try.func3 (by kernel_rfl) (by kernel_rfl) ?_
    refine .inl ⟨_, _, byS (d := 2) (S14), ?_⟩
    refine .inl ⟨_, _, byS (d := 2) (S15 N hN), ?_⟩
    refine ifB_intro (fun h1 => ?_) (fun h1 => ?_)
    · refine ⟨?_, nofun⟩
      rfl
    · obtain ⟨b1, b2⟩ := few_bounds (not_f h1)
      refine .inl ⟨_, _, byS (d := 2) (S17 N (by omega) (by omega)), ?_⟩
      refine .inl ⟨_, _, byS (d := 2) (S16 N hN), ?_⟩
      refine .inl ⟨_, _, byS (d := 2) (S18a r f hc), ?_⟩
      refine .inl ⟨_, _, byS (d := 2) (S19 N hN), ?_⟩
      refine ifB_intro (fun h2 => ?_) (fun h2 => ?_)
      · exact absurd rfl (bne_iff_ne.1 h2)
      · refine ifB_intro (fun h3 => ?_) (fun h3 => ?_)
        · exact absurd rfl (bne_iff_ne.1 h3)
        · refine .inl ⟨_, _, byS (d := 2) (S20 r 0 1000), ?_⟩
          refine ifB_intro (fun h4 => ?_) (fun h4 => ?_)
          · exact absurd (of_decide_eq_false (not_t h4)) (by omega)
          · refine .inl ⟨_, _, byS (d := 2) (S21 f), ?_⟩
            refine ifB_intro (fun h5 => ?_) (fun h5 => ?_)
            · exact absurd (if_pos (by omega)) (bne_iff_ne.1 h5)
            · refine .inl ⟨_, _, byS (d := 2) (S22 r f (by omega) (by omega) (by omega) (by omega)), ?_⟩
              refine ⟨?_, nofun⟩
              show vb (lossF r f == lossF r f) = vb true
              rw [beq_self_eq_true]
  · refine sound (d := 2) tok2 mixed2 Try.func3 (by kernel_rfl) (by kernel_rfl) ?_
    refine .inl ⟨_, _, byS (d := 2) (S14), ?_⟩
    refine .inl ⟨_, _, byS (d := 2) (S15 N hN), ?_⟩
    refine ifB_intro (fun h1 => ?_) (fun h1 => ?_)
    · refine ⟨?_, nofun⟩
      rfl
    · obtain ⟨b1, b2⟩ := few_bounds (not_f h1)
      refine .inl ⟨_, _, byS (d := 2) (S17 N (by omega) (by omega)), ?_⟩
      refine .inl ⟨_, _, byS (d := 2) (S16 N hN), ?_⟩
      refine .inl ⟨_, _, byS (d := 2) (S18b r f hc), ?_⟩
      refine .inl ⟨_, _, byS (d := 2) (S19 N hN), ?_⟩
      refine ifB_intro (fun h2 => ?_) (fun h2 => ?_)
      · exact absurd rfl (bne_iff_ne.1 h2)
      · refine ifB_intro (fun h3 => ?_) (fun h3 => ?_)
        · exact absurd rfl (bne_iff_ne.1 h3)
        · refine .inl ⟨_, _, byS (d := 2) (S20 r 0 1000), ?_⟩
          refine ifB_intro (fun h4 => ?_) (fun h4 => ?_)
          · refine ⟨?_, nofun⟩
            rfl
          · refine .inl ⟨_, _, byS (d := 2) (S21 f), ?_⟩
            refine ifB_intro (fun h5 => ?_) (fun h5 => ?_)
            · refine ⟨?_, nofun⟩
              rfl
            · have h4' := of_decide_eq_true (not_f h4)
              have h5' : (if -200000 ≤ f ∧ f ≤ 200000 then (0 : Int) else 2) = 0 := bne_eq_false_iff_eq.1 h5
              rw [if_neg (by omega)] at h5'
              exact absurd h5' (by decide)
end Go.Tr

/- The law WaterReaches returns true. Conditions: none. -/
namespace Go.Tr
open Go Go.Proofs
set_option maxRecDepth 20000
set_option maxHeartbeats 8000000

theorem S29ex (N : Net) (hN : N.In) (k : Int) : ∃ L E, SP 29 [netV N, i64 k] (.tuple [ints L, i64 E]) false ∧
    (netE N ≠ 0 ∧ E = netE N ∧ L = [] ∨ netE N = 0 ∧ ndE N k ≠ 0 ∧ E = ndE N k ∧ L = [] ∨ netE N = 0 ∧ ndE N k = 0 ∧ E = 0 ∧ L = whereF 0 (reachB N k)) := by
  refine ⟨_, _, S29 N hN k, ?_⟩
  rw [firstOf2]
  by_cases h1 : netE N = 0
  · rw [if_pos h1]
    by_cases h2 : ndE N k = 0
    · rw [if_pos h2, if_pos rfl]; exact .inr (.inr ⟨h1, h2, rfl, rfl⟩)
    · rw [if_neg h2, if_neg h2]; exact .inr (.inl ⟨h1, h2, rfl, rfl⟩)
  · rw [if_neg h1, if_neg h1]; exact .inl ⟨h1, rfl, rfl⟩
theorem S30ex (N : Net) (hN : N.In) : ∃ L, SP 30 [netV N] (.tuple [ints L, i64 (netE N)]) false ∧ (netE N ≠ 0 ∧ L = [] ∨ netE N = 0 ∧ L = whereF 0 (wetB N)) := by
  refine ⟨_, S30 N hN, ?_⟩
  by_cases h1 : netE N = 0
  · rw [if_pos h1]; exact .inr ⟨h1, rfl⟩
  · rw [if_neg h1]; exact .inl ⟨h1, rfl⟩
theorem S31ex (N : Net) (hN : N.In) (k : Int) : ∃ L E, SP 31 [netV N, i64 k] (.tuple [ints L, i64 E]) false ∧
    (netE N ≠ 0 ∧ E = netE N ∧ L = [] ∨ netE N = 0 ∧ ¬ (0 ≤ k ∧ k ≤ (N.cs.length : Int) - 1) ∧ E = 6 ∧ L = [] ∨
      netE N = 0 ∧ (0 ≤ k ∧ k ≤ (N.cs.length : Int) - 1) ∧ (N.cs.getD k.toNat cn0).valve = false ∧ E = 12 ∧ L = [] ∨
      netE N = 0 ∧ (0 ≤ k ∧ k ≤ (N.cs.length : Int) - 1) ∧ (N.cs.getD k.toNat cn0).valve = true ∧ E = 0 ∧ L = whereF 0 (fillB N k.toNat)) := by
  refine ⟨_, _, S31 N hN k, ?_⟩
  unfold fillE
  rw [firstOf2]
  by_cases h1 : netE N = 0
  · rw [if_pos h1]
    unfold conN
    by_cases h2 : 0 ≤ k ∧ k ≤ (N.cs.length : Int) - 1
    · have e : (if decide (0 ≤ k ∧ k ≤ (N.cs.length : Int) - 1) = true then (0 : Int) else 6) = 0 := if_pos (decide_eq_true h2)
      rw [e]
      cases hv : (N.cs.getD k.toNat cn0).valve with
      | true => exact .inr (.inr (.inr ⟨h1, h2, rfl, rfl, rfl⟩))
      | false => exact .inr (.inr (.inl ⟨h1, h2, rfl, rfl, rfl⟩))
    · have e : (if decide (0 ≤ k ∧ k ≤ (N.cs.length : Int) - 1) = true then (0 : Int) else 6) = 6 := if_neg (by simpa using h2)
      rw [e]
      exact .inr (.inl ⟨h1, h2, rfl, rfl⟩)
  · rw [if_neg h1, if_neg h1, if_neg h1]; exact .inl ⟨h1, rfl, rfl⟩

set_option maxHeartbeats 0 in
theorem S5 (N : Net) (hN : N.In) (k c : Int) : SP 5 [netV N, i64 k, i64 c] (vb true) false := by
  have hn := hN.nl
  cases hf : fewB N with
  | false =>
    have h15 := S15 N hN
    rw [hf] at h15
    refine sound (d := 2) tok2 mixed2 Try.func5 (by kernel_rfl) (by kernel_rfl) ?_
    conv => whnf
    refine .inl ⟨_, _, byX rfl (Sound1.pl (S14) rfl), ?_⟩
    conv => whnf
    refine .inl ⟨_, _, byX rfl (Sound1.pl (h15) rfl), ?_⟩
    conv => whnf
    refine ⟨?_, nofun⟩
    (rfl)
  | true =>
    obtain ⟨b1, b2⟩ := few_bounds hf
    obtain ⟨L1, E1, h29, q1⟩ := S29ex N hN k
    obtain ⟨L2, h30, q2⟩ := S30ex N hN
    obtain ⟨L3, E3, h31, q3⟩ := S31ex N hN c
    have h15 := S15 N hN
    rw [hf] at h15
    have h17 := S17 N (by omega) (by omega)
    have h32 := S32 N hN
    have h33 := S33 N hn k
    by_cases hE : netE N = 0
    · have hok := net_ok hE
      replace q2 : L2 = whereF 0 (wetB N) := by
        rcases q2 with ⟨e, _⟩ | ⟨_, e⟩
        · exact absurd hE e
        · exact e
      subst q2
      have l2 := whereF_len (wetB N) 0
      rw [wetB_len] at l2
      have h36 := S36 N (by omega) (by omega) hok.ends
      have h34b := S34 (whereF 0 (wetB N)) (whereF 0 (wetB N)) (by omega) (by omega)
      rcases q1 with ⟨e, _⟩ | ⟨_, e1, e2, rfl⟩ | ⟨_, e1, e2, rfl⟩
      · exact absurd hE e
      · rcases q3 with ⟨e, _⟩ | ⟨_, f1, f2, rfl⟩ | ⟨_, f1, f2, f3, rfl⟩ | ⟨_, f1, f2, f3, rfl⟩
        · exact absurd hE e
        · refine sound (d := 2) tok2 mixed2 Try.func5 (by kernel_rfl) (by kernel_rfl) ?_
          conv => whnf
          refine .inl ⟨_, _, byX rfl (Sound1.pl (S14) rfl), ?_⟩
          conv => whnf
          refine .inl ⟨_, _, byX rfl (Sound1.pl (h15) rfl), ?_⟩
          conv => whnf
          refine .inl ⟨_, _, byX rfl (h17), ?_⟩
          conv => whnf
          refine .inl ⟨_, _, byX rfl (h29), ?_⟩
          conv => whnf
          refine .inl ⟨_, _, byX rfl (h17), ?_⟩
          conv => whnf
          refine .inl ⟨_, _, byX rfl (h30), ?_⟩
          conv => whnf
          refine .inl ⟨_, _, byX rfl (h17), ?_⟩
          conv => whnf
          refine .inl ⟨_, _, byX rfl (h31), ?_⟩
          conv => whnf
          refine .inl ⟨_, _, byX rfl (Sound1.pl (h32) rfl), ?_⟩
          conv => whnf
          refine ifB_bne (fun w1 => ?_) (fun w1 => ?_)
          · (exfalso; omega)
          · conv => whnf
            refine .inl ⟨_, _, byX rfl (Sound1.pl (h33) rfl), ?_⟩
            conv => whnf
            refine ifB_bne (fun w2 => ?_) (fun w2 => ?_)
            · conv => whnf
              refine ifB_bne (fun w3 => ?_) (fun w3 => ?_)
              · (exfalso; omega)
              · conv => whnf
                refine ifB_beq (fun w4 => ?_) (fun w4 => ?_)
                · (exfalso; omega)
                · conv => whnf
                  refine ifB_bne (fun w5 => ?_) (fun w5 => ?_)
                  · (exfalso; omega)
                  · conv => whnf
                    refine .inl ⟨_, _, byX rfl (h36), ?_⟩
                    conv => whnf
                    refine .inl ⟨_, _, byX rfl (Sound1.pl (h34b) rfl), ?_⟩
                    conv => whnf
                    refine ifB_not ?_
                    conv => whnf
                    refine ifB_dec (fun w6 => ?_) (fun w6 => ?_)
                    · conv => whnf
                      refine ⟨inK64 (by omega) (by omega), ?_⟩
                      conv => whnf
                      refine .inl ⟨_, _, byX rfl (Sound1.pl (S20 _ _ _) rfl), ?_⟩
                      conv => whnf
                      refine ifB_not ?_
                      conv => whnf
                      refine ifB_dec (fun w7 => ?_) (fun w7 => ?_)
                      · (exfalso; omega)
                      · conv => whnf
                        refine ifB_beq (fun w8 => ?_) (fun w8 => ?_)
                        · conv => whnf
                          refine ⟨?_, nofun⟩
                          (rfl)
                        · (exfalso; omega)
                    · exact absurd rfl w6
            · (exfalso; omega)
        · refine sound (d := 2) tok2 mixed2 Try.func5 (by kernel_rfl) (by kernel_rfl) ?_
          conv => whnf
          refine .inl ⟨_, _, byX rfl (Sound1.pl (S14) rfl), ?_⟩
          conv => whnf
          refine .inl ⟨_, _, byX rfl (Sound1.pl (h15) rfl), ?_⟩
          conv => whnf
          refine .inl ⟨_, _, byX rfl (h17), ?_⟩
          conv => whnf
          refine .inl ⟨_, _, byX rfl (h29), ?_⟩
          conv => whnf
          refine .inl ⟨_, _, byX rfl (h17), ?_⟩
          conv => whnf
          refine .inl ⟨_, _, byX rfl (h30), ?_⟩
          conv => whnf
          refine .inl ⟨_, _, byX rfl (h17), ?_⟩
          conv => whnf
          refine .inl ⟨_, _, byX rfl (h31), ?_⟩
          conv => whnf
          refine .inl ⟨_, _, byX rfl (Sound1.pl (h32) rfl), ?_⟩
          conv => whnf
          refine ifB_bne (fun w1 => ?_) (fun w1 => ?_)
          · (exfalso; omega)
          · conv => whnf
            refine .inl ⟨_, _, byX rfl (Sound1.pl (h33) rfl), ?_⟩
            conv => whnf
            refine ifB_bne (fun w2 => ?_) (fun w2 => ?_)
            · conv => whnf
              refine ifB_bne (fun w3 => ?_) (fun w3 => ?_)
              · (exfalso; omega)
              · conv => whnf
                refine ifB_beq (fun w4 => ?_) (fun w4 => ?_)
                · (exfalso; omega)
                · conv => whnf
                  refine ifB_bne (fun w5 => ?_) (fun w5 => ?_)
                  · (exfalso; omega)
                  · conv => whnf
                    refine .inl ⟨_, _, byX rfl (h36), ?_⟩
                    conv => whnf
                    refine .inl ⟨_, _, byX rfl (Sound1.pl (h34b) rfl), ?_⟩
                    conv => whnf
                    refine ifB_not ?_
                    conv => whnf
                    refine ifB_dec (fun w6 => ?_) (fun w6 => ?_)
                    · conv => whnf
                      refine ⟨inK64 (by omega) (by omega), ?_⟩
                      conv => whnf
                      refine .inl ⟨_, _, byX rfl (Sound1.pl (S20 _ _ _) rfl), ?_⟩
                      conv => whnf
                      refine ifB_not ?_
                      conv => whnf
                      refine ifB_dec (fun w7 => ?_) (fun w7 => ?_)
                      · conv => whnf
                        refine ⟨⟨(by omega), (by omega)⟩, ?_⟩
                        conv => whnf
                        refine ifB_not ?_
                        conv => whnf
                        refine ifB_intro (fun w8 => ?_) (fun w8 => ?_)
                        · exact absurd (f2.symm.trans w8) nofun
                        · conv => whnf
                          refine ifB_beq (fun w9 => ?_) (fun w9 => ?_)
                          · conv => whnf
                            refine ⟨?_, nofun⟩
                            (rfl)
                          · (exfalso; omega)
                      · (exfalso; omega)
                    · exact absurd rfl w6
            · (exfalso; omega)
        · have l3 := whereF_len (fillB N c.toNat) 0
          rw [fillB_len] at l3
          have h37 := S37 N c.toNat (by omega) (by omega) (by omega) hok.ends
          rw [show ((c.toNat : Nat) : Int) = c by omega] at h37
          have h34c := S34 (whereF 0 (fillB N c.toNat)) (whereF 0 (fillB N c.toNat)) (by omega) (by omega)
          refine sound (d := 2) tok2 mixed2 Try.func5 (by kernel_rfl) (by kernel_rfl) ?_
          conv => whnf
          refine .inl ⟨_, _, byX rfl (Sound1.pl (S14) rfl), ?_⟩
          conv => whnf
          refine .inl ⟨_, _, byX rfl (Sound1.pl (h15) rfl), ?_⟩
          conv => whnf
          refine .inl ⟨_, _, byX rfl (h17), ?_⟩
          conv => whnf
          refine .inl ⟨_, _, byX rfl (h29), ?_⟩
          conv => whnf
          refine .inl ⟨_, _, byX rfl (h17), ?_⟩
          conv => whnf
          refine .inl ⟨_, _, byX rfl (h30), ?_⟩
          conv => whnf
          refine .inl ⟨_, _, byX rfl (h17), ?_⟩
          conv => whnf
          refine .inl ⟨_, _, byX rfl (h31), ?_⟩
          conv => whnf
          refine .inl ⟨_, _, byX rfl (Sound1.pl (h32) rfl), ?_⟩
          conv => whnf
          refine ifB_bne (fun w1 => ?_) (fun w1 => ?_)
          · (exfalso; omega)
          · conv => whnf
            refine .inl ⟨_, _, byX rfl (Sound1.pl (h33) rfl), ?_⟩
            conv => whnf
            refine ifB_bne (fun w2 => ?_) (fun w2 => ?_)
            · conv => whnf
              refine ifB_bne (fun w3 => ?_) (fun w3 => ?_)
              · (exfalso; omega)
              · conv => whnf
                refine ifB_beq (fun w4 => ?_) (fun w4 => ?_)
                · (exfalso; omega)
                · conv => whnf
                  refine ifB_bne (fun w5 => ?_) (fun w5 => ?_)
                  · (exfalso; omega)
                  · conv => whnf
                    refine .inl ⟨_, _, byX rfl (h36), ?_⟩
                    conv => whnf
                    refine .inl ⟨_, _, byX rfl (Sound1.pl (h34b) rfl), ?_⟩
                    conv => whnf
                    refine ifB_not ?_
                    conv => whnf
                    refine ifB_dec (fun w6 => ?_) (fun w6 => ?_)
                    · conv => whnf
                      refine ⟨inK64 (by omega) (by omega), ?_⟩
                      conv => whnf
                      refine .inl ⟨_, _, byX rfl (Sound1.pl (S20 _ _ _) rfl), ?_⟩
                      conv => whnf
                      refine ifB_not ?_
                      conv => whnf
                      refine ifB_dec (fun w7 => ?_) (fun w7 => ?_)
                      · conv => whnf
                        refine ⟨⟨(by omega), (by omega)⟩, ?_⟩
                        conv => whnf
                        refine ifB_not ?_
                        conv => whnf
                        refine ifB_intro (fun w8 => ?_) (fun w8 => ?_)
                        · conv => whnf
                          refine ifB_beq (fun w9 => ?_) (fun w9 => ?_)
                          · conv => whnf
                            refine .inl ⟨_, _, byX rfl (h37), ?_⟩
                            conv => whnf
                            refine .inl ⟨_, _, byX rfl (Sound1.pl (h34c) rfl), ?_⟩
                            conv => whnf
                            refine ⟨?_, nofun⟩
                            show vb (decide (_ = _)) = vb true
                            rw [decide_eq_true rfl]
                          · (exfalso; omega)
                        · exact absurd (f2.symm.trans w8) nofun
                      · (exfalso; omega)
                    · exact absurd rfl w6
            · (exfalso; omega)
      · have hk : 0 ≤ k ∧ k ≤ (N.ns.length : Int) - 1 := by
          unfold ndE at e1
          split at e1
          · assumption
          · cases e1
        have l1 := whereF_len (reachB N k) 0
        rw [reachB_len] at l1
        have h35 := S35 N k hk.1 (by omega) (by omega) (by omega) hok.ends
        have h34a := S34 (whereF 0 (reachB N k)) (whereF 0 (reachB N k)) (by omega) (by omega)
        rcases q3 with ⟨e, _⟩ | ⟨_, f1, f2, rfl⟩ | ⟨_, f1, f2, f3, rfl⟩ | ⟨_, f1, f2, f3, rfl⟩
        · exact absurd hE e
        · refine sound (d := 2) tok2 mixed2 Try.func5 (by kernel_rfl) (by kernel_rfl) ?_
          conv => whnf
          refine .inl ⟨_, _, byX rfl (Sound1.pl (S14) rfl), ?_⟩
          conv => whnf
          refine .inl ⟨_, _, byX rfl (Sound1.pl (h15) rfl), ?_⟩
          conv => whnf
          refine .inl ⟨_, _, byX rfl (h17), ?_⟩
          conv => whnf
          refine .inl ⟨_, _, byX rfl (h29), ?_⟩
          conv => whnf
          refine .inl ⟨_, _, byX rfl (h17), ?_⟩
          conv => whnf
          refine .inl ⟨_, _, byX rfl (h30), ?_⟩
          conv => whnf
          refine .inl ⟨_, _, byX rfl (h17), ?_⟩
          conv => whnf
          refine .inl ⟨_, _, byX rfl (h31), ?_⟩
          conv => whnf
          refine .inl ⟨_, _, byX rfl (Sound1.pl (h32) rfl), ?_⟩
          conv => whnf
          refine ifB_bne (fun w1 => ?_) (fun w1 => ?_)
          · (exfalso; omega)
          · conv => whnf
            refine .inl ⟨_, _, byX rfl (Sound1.pl (h33) rfl), ?_⟩
            conv => whnf
            refine ifB_bne (fun w2 => ?_) (fun w2 => ?_)
            · (exfalso; omega)
            · conv => whnf
              refine ifB_beq (fun w3 => ?_) (fun w3 => ?_)
              · conv => whnf
                refine ifB_bne (fun w4 => ?_) (fun w4 => ?_)
                · (exfalso; omega)
                · conv => whnf
                  refine .inl ⟨_, _, byX rfl (h35), ?_⟩
                  conv => whnf
                  refine .inl ⟨_, _, byX rfl (Sound1.pl (h34a) rfl), ?_⟩
                  conv => whnf
                  refine ifB_not ?_
                  conv => whnf
                  refine ifB_dec (fun w5 => ?_) (fun w5 => ?_)
                  · conv => whnf
                    refine ifB_bne (fun w6 => ?_) (fun w6 => ?_)
                    · (exfalso; omega)
                    · conv => whnf
                      refine .inl ⟨_, _, byX rfl (h36), ?_⟩
                      conv => whnf
                      refine .inl ⟨_, _, byX rfl (Sound1.pl (h34b) rfl), ?_⟩
                      conv => whnf
                      refine ifB_not ?_
                      conv => whnf
                      refine ifB_dec (fun w7 => ?_) (fun w7 => ?_)
                      · conv => whnf
                        refine ⟨inK64 (by omega) (by omega), ?_⟩
                        conv => whnf
                        refine .inl ⟨_, _, byX rfl (Sound1.pl (S20 _ _ _) rfl), ?_⟩
                        conv => whnf
                        refine ifB_not ?_
                        conv => whnf
                        refine ifB_dec (fun w8 => ?_) (fun w8 => ?_)
                        · (exfalso; omega)
                        · conv => whnf
                          refine ifB_beq (fun w9 => ?_) (fun w9 => ?_)
                          · conv => whnf
                            refine ⟨?_, nofun⟩
                            (rfl)
                          · (exfalso; omega)
                      · exact absurd rfl w7
                  · exact absurd rfl w5
              · (exfalso; omega)
        · refine sound (d := 2) tok2 mixed2 Try.func5 (by kernel_rfl) (by kernel_rfl) ?_
          conv => whnf
          refine .inl ⟨_, _, byX rfl (Sound1.pl (S14) rfl), ?_⟩
          conv => whnf
          refine .inl ⟨_, _, byX rfl (Sound1.pl (h15) rfl), ?_⟩
          conv => whnf
          refine .inl ⟨_, _, byX rfl (h17), ?_⟩
          conv => whnf
          refine .inl ⟨_, _, byX rfl (h29), ?_⟩
          conv => whnf
          refine .inl ⟨_, _, byX rfl (h17), ?_⟩
          conv => whnf
          refine .inl ⟨_, _, byX rfl (h30), ?_⟩
          conv => whnf
          refine .inl ⟨_, _, byX rfl (h17), ?_⟩
          conv => whnf
          refine .inl ⟨_, _, byX rfl (h31), ?_⟩
          conv => whnf
          refine .inl ⟨_, _, byX rfl (Sound1.pl (h32) rfl), ?_⟩
          conv => whnf
          refine ifB_bne (fun w1 => ?_) (fun w1 => ?_)
          · (exfalso; omega)
          · conv => whnf
            refine .inl ⟨_, _, byX rfl (Sound1.pl (h33) rfl), ?_⟩
            conv => whnf
            refine ifB_bne (fun w2 => ?_) (fun w2 => ?_)
            · (exfalso; omega)
            · conv => whnf
              refine ifB_beq (fun w3 => ?_) (fun w3 => ?_)
              · conv => whnf
                refine ifB_bne (fun w4 => ?_) (fun w4 => ?_)
                · (exfalso; omega)
                · conv => whnf
                  refine .inl ⟨_, _, byX rfl (h35), ?_⟩
                  conv => whnf
                  refine .inl ⟨_, _, byX rfl (Sound1.pl (h34a) rfl), ?_⟩
                  conv => whnf
                  refine ifB_not ?_
                  conv => whnf
                  refine ifB_dec (fun w5 => ?_) (fun w5 => ?_)
                  · conv => whnf
                    refine ifB_bne (fun w6 => ?_) (fun w6 => ?_)
                    · (exfalso; omega)
                    · conv => whnf
                      refine .inl ⟨_, _, byX rfl (h36), ?_⟩
                      conv => whnf
                      refine .inl ⟨_, _, byX rfl (Sound1.pl (h34b) rfl), ?_⟩
                      conv => whnf
                      refine ifB_not ?_
                      conv => whnf
                      refine ifB_dec (fun w7 => ?_) (fun w7 => ?_)
                      · conv => whnf
                        refine ⟨inK64 (by omega) (by omega), ?_⟩
                        conv => whnf
                        refine .inl ⟨_, _, byX rfl (Sound1.pl (S20 _ _ _) rfl), ?_⟩
                        conv => whnf
                        refine ifB_not ?_
                        conv => whnf
                        refine ifB_dec (fun w8 => ?_) (fun w8 => ?_)
                        · conv => whnf
                          refine ⟨⟨(by omega), (by omega)⟩, ?_⟩
                          conv => whnf
                          refine ifB_not ?_
                          conv => whnf
                          refine ifB_intro (fun w9 => ?_) (fun w9 => ?_)
                          · exact absurd (f2.symm.trans w9) nofun
                          · conv => whnf
                            refine ifB_beq (fun w10 => ?_) (fun w10 => ?_)
                            · conv => whnf
                              refine ⟨?_, nofun⟩
                              (rfl)
                            · (exfalso; omega)
                        · (exfalso; omega)
                      · exact absurd rfl w7
                  · exact absurd rfl w5
              · (exfalso; omega)
        · have l3 := whereF_len (fillB N c.toNat) 0
          rw [fillB_len] at l3
          have h37 := S37 N c.toNat (by omega) (by omega) (by omega) hok.ends
          rw [show ((c.toNat : Nat) : Int) = c by omega] at h37
          have h34c := S34 (whereF 0 (fillB N c.toNat)) (whereF 0 (fillB N c.toNat)) (by omega) (by omega)
          refine sound (d := 2) tok2 mixed2 Try.func5 (by kernel_rfl) (by kernel_rfl) ?_
          conv => whnf
          refine .inl ⟨_, _, byX rfl (Sound1.pl (S14) rfl), ?_⟩
          conv => whnf
          refine .inl ⟨_, _, byX rfl (Sound1.pl (h15) rfl), ?_⟩
          conv => whnf
          refine .inl ⟨_, _, byX rfl (h17), ?_⟩
          conv => whnf
          refine .inl ⟨_, _, byX rfl (h29), ?_⟩
          conv => whnf
          refine .inl ⟨_, _, byX rfl (h17), ?_⟩
          conv => whnf
          refine .inl ⟨_, _, byX rfl (h30), ?_⟩
          conv => whnf
          refine .inl ⟨_, _, byX rfl (h17), ?_⟩
          conv => whnf
          refine .inl ⟨_, _, byX rfl (h31), ?_⟩
          conv => whnf
          refine .inl ⟨_, _, byX rfl (Sound1.pl (h32) rfl), ?_⟩
          conv => whnf
          refine ifB_bne (fun w1 => ?_) (fun w1 => ?_)
          · (exfalso; omega)
          · conv => whnf
            refine .inl ⟨_, _, byX rfl (Sound1.pl (h33) rfl), ?_⟩
            conv => whnf
            refine ifB_bne (fun w2 => ?_) (fun w2 => ?_)
            · (exfalso; omega)
            · conv => whnf
              refine ifB_beq (fun w3 => ?_) (fun w3 => ?_)
              · conv => whnf
                refine ifB_bne (fun w4 => ?_) (fun w4 => ?_)
                · (exfalso; omega)
                · conv => whnf
                  refine .inl ⟨_, _, byX rfl (h35), ?_⟩
                  conv => whnf
                  refine .inl ⟨_, _, byX rfl (Sound1.pl (h34a) rfl), ?_⟩
                  conv => whnf
                  refine ifB_not ?_
                  conv => whnf
                  refine ifB_dec (fun w5 => ?_) (fun w5 => ?_)
                  · conv => whnf
                    refine ifB_bne (fun w6 => ?_) (fun w6 => ?_)
                    · (exfalso; omega)
                    · conv => whnf
                      refine .inl ⟨_, _, byX rfl (h36), ?_⟩
                      conv => whnf
                      refine .inl ⟨_, _, byX rfl (Sound1.pl (h34b) rfl), ?_⟩
                      conv => whnf
                      refine ifB_not ?_
                      conv => whnf
                      refine ifB_dec (fun w7 => ?_) (fun w7 => ?_)
                      · conv => whnf
                        refine ⟨inK64 (by omega) (by omega), ?_⟩
                        conv => whnf
                        refine .inl ⟨_, _, byX rfl (Sound1.pl (S20 _ _ _) rfl), ?_⟩
                        conv => whnf
                        refine ifB_not ?_
                        conv => whnf
                        refine ifB_dec (fun w8 => ?_) (fun w8 => ?_)
                        · conv => whnf
                          refine ⟨⟨(by omega), (by omega)⟩, ?_⟩
                          conv => whnf
                          refine ifB_not ?_
                          conv => whnf
                          refine ifB_intro (fun w9 => ?_) (fun w9 => ?_)
                          · conv => whnf
                            refine ifB_beq (fun w10 => ?_) (fun w10 => ?_)
                            · conv => whnf
                              refine .inl ⟨_, _, byX rfl (h37), ?_⟩
                              conv => whnf
                              refine .inl ⟨_, _, byX rfl (Sound1.pl (h34c) rfl), ?_⟩
                              conv => whnf
                              refine ⟨?_, nofun⟩
                              show vb (decide (_ = _)) = vb true
                              rw [decide_eq_true rfl]
                            · (exfalso; omega)
                          · exact absurd (f2.symm.trans w9) nofun
                        · (exfalso; omega)
                      · exact absurd rfl w7
                  · exact absurd rfl w5
              · (exfalso; omega)
    · replace q1 : E1 = netE N ∧ L1 = [] := by
        rcases q1 with ⟨_, e⟩ | ⟨e, _⟩ | ⟨e, _⟩
        · exact e
        · exact absurd e hE
        · exact absurd e hE
      replace q2 : L2 = [] := by
        rcases q2 with ⟨_, e⟩ | ⟨e, _⟩
        · exact e
        · exact absurd e hE
      replace q3 : E3 = netE N ∧ L3 = [] := by
        rcases q3 with ⟨_, e⟩ | ⟨e, _⟩ | ⟨e, _⟩ | ⟨e, _⟩
        · exact e
        · exact absurd e hE
        · exact absurd e hE
        · exact absurd e hE
      obtain ⟨e1, rfl⟩ := q1
      subst q2
      obtain ⟨e3, rfl⟩ := q3
      refine sound (d := 2) tok2 mixed2 Try.func5 (by kernel_rfl) (by kernel_rfl) ?_
      conv => whnf
      refine .inl ⟨_, _, byX rfl (Sound1.pl (S14) rfl), ?_⟩
      conv => whnf
      refine .inl ⟨_, _, byX rfl (Sound1.pl (h15) rfl), ?_⟩
      conv => whnf
      refine .inl ⟨_, _, byX rfl (h17), ?_⟩
      conv => whnf
      refine .inl ⟨_, _, byX rfl (h29), ?_⟩
      conv => whnf
      refine .inl ⟨_, _, byX rfl (h17), ?_⟩
      conv => whnf
      refine .inl ⟨_, _, byX rfl (h30), ?_⟩
      conv => whnf
      refine .inl ⟨_, _, byX rfl (h17), ?_⟩
      conv => whnf
      refine .inl ⟨_, _, byX rfl (h31), ?_⟩
      conv => whnf
      refine .inl ⟨_, _, byX rfl (Sound1.pl (h32) rfl), ?_⟩
      conv => whnf
      refine ifB_bne (fun w1 => ?_) (fun w1 => ?_)
      · conv => whnf
        refine ifB_beq (fun w2 => ?_) (fun w2 => ?_)
        · conv => whnf
          refine ifB_beq (fun w3 => ?_) (fun w3 => ?_)
          · conv => whnf
            refine ifB_beq (fun w4 => ?_) (fun w4 => ?_)
            · conv => whnf
              refine ⟨?_, ?_⟩
              · exact ⟨by decide, by decide⟩
              · conv => whnf
                refine ⟨?_, ?_⟩
                · exact ⟨by decide, by decide⟩
                · conv => whnf
                  refine ⟨?_, nofun⟩
                  (rfl)
            · (exfalso; omega)
          · (exfalso; omega)
        · (exfalso; omega)
      · (exfalso; omega)
end Go.Tr

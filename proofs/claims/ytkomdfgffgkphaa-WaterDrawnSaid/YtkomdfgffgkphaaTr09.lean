/- Plain laws of chapter 2: the gap never decreases with the circulation; the closing conduit. Conditions: none. -/
import Derived.Test.YtkomdfgffgkphaaTr08
import Derived.Test.YtkomdfgffgkphaaTr05
import Derived.Test.YtkomdfgffgkphaaTr06

namespace Go.Tr
open Go Go.Proofs
set_option maxRecDepth 20000
set_option maxHeartbeats 8000000

theorem size_nonneg (f : Int) : 0 ≤ sizeF f := by unfold sizeF; split <;> omega
theorem sq_size_mono {f g : Int} (h : f ≤ g) : f * sizeF f ≤ g * sizeF g := by
  by_cases hf : 0 ≤ f
  · have e1 : sizeF f = f := by unfold sizeF; split <;> omega
    have e2 : sizeF g = g := by unfold sizeF; split <;> omega
    rw [e1, e2]
    exact Int.mul_le_mul h h hf (by omega)
  · have e1 : sizeF f = -f := by unfold sizeF; split <;> omega
    by_cases hg : 0 ≤ g
    · have h1 : f * sizeF f ≤ 0 := by
        rw [e1]; exact Int.mul_nonpos_of_nonpos_of_nonneg (by omega) (by omega)
      have h2 : 0 ≤ g * sizeF g := Int.mul_nonneg hg (size_nonneg g)
      omega
    · have e2 : sizeF g = -g := by unfold sizeF; split <;> omega
      rw [e1, e2, Int.mul_neg, Int.mul_neg]
      have : (-g) * (-g) ≤ (-f) * (-f) := Int.mul_le_mul (by omega) (by omega) (by omega) (by omega)
      rw [Int.neg_mul_neg, Int.neg_mul_neg] at this
      omega
theorem loss_mono {r f g : Int} (hr : 0 ≤ r) (h : f ≤ g) : lossF r f ≤ lossF r g := by
  unfold lossF
  rw [Int.mul_assoc, Int.mul_assoc]
  exact Int.mul_le_mul_of_nonneg_left (sq_size_mono h) hr

/-- Is it this node? -/
def dl (u p : Nat) : Int := if u = p then 1 else 0

section
variable {n : Nat} {cs : List Cn}
theorem tok (hcs : ∀ c ∈ cs, 0 ≤ c.res) (hr : inR n cs) (D : Int) (hD : 0 ≤ D) : ∀ (l : List (Int × Int)) (m : List Bool) (s s' : List Int × List Int) (P0 R0 : Nat), m.length = n → s.1.length = cs.length → s'.1.length = cs.length → s.2.length = n → s'.2.length = n → TreeOk n cs m l →
    (∀ u : Nat, s'.2.getD u 0 = s.2.getD u 0 + D * (dl u P0 - dl u R0)) →
    ∃ P R : Nat, (∀ u : Nat, m.getD u false = true → (backL cs l s').2.getD u 0 = (backL cs l s).2.getD u 0 + D * (dl u P - dl u R)) ∧
      ((l = [] → P = P0 ∧ R = R0) ∧ ∀ F F' h h' : List Int, h.length = n → h'.length = n → (∀ x ∈ l, F.getD x.1.toNat 0 = (backL cs l s).1.getD x.1.toNat 0) → (∀ x ∈ l, F'.getD x.1.toNat 0 = (backL cs l s').1.getD x.1.toNat 0) →
        h'.getD P 0 ≤ h.getD P 0 → h.getD R 0 ≤ h'.getD R 0 → (foreL cs F' l h').getD P0 0 ≤ (foreL cs F l h).getD P0 0 ∧ (foreL cs F l h).getD R0 0 ≤ (foreL cs F' l h').getD R0 0)
  | [], m, s, s', P0, R0, _, _, _, _, _, _, hs => ⟨P0, R0, fun u _ => hs u, fun _ => ⟨rfl, rfl⟩, fun F F' h h' _ _ _ _ h1 h2 => ⟨h1, h2⟩⟩
  | b :: r, m, s, s', P0, R0, hm, a1, a2, a3, a4, ht, hs => by
    have ht0 := ht
    have hd := tree_dist hm hr ht
    have hrg := tree_range r _ ht.2
    obtain ⟨hB, ht2⟩ := ht
    have i0 := hB.i0; have i1 := hB.i1; have v0 := hB.v0; have v1 := hB.v1; have o0 := hB.o0; have o1 := hB.o1
    obtain ⟨P1, R1, g1, _, g2⟩ := tok hcs hr D hD r (m.set b.2.toNat true) s s' P0 R0 (by simpa using hm) a1 a2 a3 a4 ht2 hs
    have hne : (otherN (cs.getD b.1.toNat cn0) b.2).toNat ≠ b.2.toNat := fun e => by
      have := hB.new
      rw [← e, hB.old] at this
      cases this
    have mk : ∀ u, m.getD u false = true → (m.set b.2.toNat true).getD u false = true := fun u hu => by
      rw [getD_set]; split
      · rfl
      · exact hu
    have mv : (m.set b.2.toNat true).getD b.2.toNat false = true := by rw [getD_set, if_pos]; exact ⟨rfl, by omega⟩
    have gv := g1 _ mv
    have hl1 : (backL cs r s).2.length = n := by rw [(backL_len cs r s).2, a3]
    have hl2 : (backL cs r s').2.length = n := by rw [(backL_len cs r s').2, a4]
    refine ⟨if P1 = b.2.toNat then (otherN (cs.getD b.1.toNat cn0) b.2).toNat else P1, if R1 = b.2.toNat then (otherN (cs.getD b.1.toNat cn0) b.2).toNat else R1, ?_, ⟨(fun h => by cases h), ?_⟩⟩
    · intro u hu
      have gu := g1 u (mk u hu)
      have huv : u ≠ b.2.toNat := fun e => by
        have := hB.new
        rw [← e, hu] at this
        cases this
      show ((backL cs r s').2.set _ _).getD u 0 = ((backL cs r s).2.set _ _).getD u 0 + _
      rw [getD_setI, getD_setI]
      by_cases huo : u = (otherN (cs.getD b.1.toNat cn0) b.2).toNat
      · rw [if_pos ⟨huo, by omega⟩, if_pos ⟨huo, by omega⟩, ← huo, gu, gv]
        have e1 : dl u (if P1 = b.2.toNat then u else P1) = dl u P1 + dl b.2.toNat P1 := by
          unfold dl
          by_cases e : P1 = b.2.toNat
          · rw [if_pos e, if_pos rfl, if_neg (by omega), if_pos e.symm]; rfl
          · have h0 : (if b.2.toNat = P1 then (1 : Int) else 0) = 0 := if_neg (fun h => e h.symm)
            rw [if_neg e, h0]; omega
        have e2 : dl u (if R1 = b.2.toNat then u else R1) = dl u R1 + dl b.2.toNat R1 := by
          unfold dl
          by_cases e : R1 = b.2.toNat
          · rw [if_pos e, if_pos rfl, if_neg (by omega), if_pos e.symm]; rfl
          · have h0 : (if b.2.toNat = R1 then (1 : Int) else 0) = 0 := if_neg (fun h => e h.symm)
            rw [if_neg e, h0]; omega
        rw [e1, e2]
        simp only [Int.mul_sub, Int.mul_add]
        omega
      · rw [if_neg (fun h => huo h.1), if_neg (fun h => huo h.1), gu]
        have e1 : dl u (if P1 = b.2.toNat then (otherN (cs.getD b.1.toNat cn0) b.2).toNat else P1) = dl u P1 := by
          unfold dl
          by_cases e : P1 = b.2.toNat
          · rw [if_pos e, if_neg huo, if_neg (by omega)]
          · rw [if_neg e]
        have e2 : dl u (if R1 = b.2.toNat then (otherN (cs.getD b.1.toNat cn0) b.2).toNat else R1) = dl u R1 := by
          unfold dl
          by_cases e : R1 = b.2.toNat
          · rw [if_pos e, if_neg huo, if_neg (by omega)]
          · rw [if_neg e]
        rw [e1, e2]
    · intro F F' h h' hh hh' hF hF' hP hR
      have sgn : ∀ (c : Cn) (v x : Int), signN c v * (signN c v * x) = x := fun c v x => by
        unfold signN; split <;> omega
      have f1 : signN (cs.getD b.1.toNat cn0) b.2 * F.getD b.1.toNat 0 = (backL cs r s).2.getD b.2.toNat 0 := by
        rw [hF b (by simp), back_flow_at a1 ht0, sgn]
      have f2 : signN (cs.getD b.1.toNat cn0) b.2 * F'.getD b.1.toNat 0 = (backL cs r s').2.getD b.2.toNat 0 := by
        rw [hF' b (by simp), back_flow_at a2 ht0, sgn]
      have hFr : ∀ x ∈ r, F.getD x.1.toNat 0 = (backL cs r s).1.getD x.1.toNat 0 := fun x hx => by
        rw [hF x (by simp [hx])]
        show ((backL cs r s).1.set _ _).getD _ 0 = _
        rw [getD_setI, if_neg]
        rintro ⟨e, _⟩
        have := (hrg x hx).1
        exact hd x hx (by omega)
      have hFr' : ∀ x ∈ r, F'.getD x.1.toNat 0 = (backL cs r s').1.getD x.1.toNat 0 := fun x hx => by
        rw [hF' x (by simp [hx])]
        show ((backL cs r s').1.set _ _).getD _ 0 = _
        rw [getD_setI, if_neg]
        rintro ⟨e, _⟩
        have := (hrg x hx).1
        exact hd x hx (by omega)
      have hres := hcs (cs.getD b.1.toNat cn0) (mem_getD (by omega))
      have sv : ∀ (G g : List Int), g.length = n → (stepH cs G b g).getD b.2.toNat 0 = g.getD (otherN (cs.getD b.1.toNat cn0) b.2).toNat 0 - lossF (cs.getD b.1.toNat cn0).res (signN (cs.getD b.1.toNat cn0) b.2 * G.getD b.1.toNat 0) := fun G g hg => by
        unfold stepH
        rw [getD_setI, if_pos]
        exact ⟨rfl, by omega⟩
      have so : ∀ (G g : List Int) (u : Nat), u ≠ b.2.toNat → (stepH cs G b g).getD u 0 = g.getD u 0 := fun G g u hu => by
        unfold stepH
        rw [getD_setI, if_neg (fun h => hu h.1)]
      refine g2 F F' (stepH cs F b h) (stepH cs F' b h') (by simpa [stepH] using hh) (by simpa [stepH] using hh') hFr hFr' ?_ ?_
      · by_cases e : P1 = b.2.toNat
        · rw [if_pos e] at hP
          rw [e, sv F h hh, sv F' h' hh', f1, f2, gv]
          have hd1 : dl b.2.toNat P1 = 1 := if_pos e.symm
          have hd2 : dl b.2.toNat R1 ≤ 1 := by unfold dl; split <;> omega
          have := Int.mul_nonneg hD (show 0 ≤ dl b.2.toNat P1 - dl b.2.toNat R1 by omega)
          have := loss_mono hres (show (backL cs r s).2.getD b.2.toNat 0 ≤ (backL cs r s).2.getD b.2.toNat 0 + D * (dl b.2.toNat P1 - dl b.2.toNat R1) by omega)
          omega
        · rw [if_neg e] at hP
          rw [so F h P1 e, so F' h' P1 e]
          exact hP
      · by_cases e : R1 = b.2.toNat
        · rw [if_pos e] at hR
          rw [e, sv F h hh, sv F' h' hh', f1, f2, gv]
          have hd1 : dl b.2.toNat R1 = 1 := if_pos e.symm
          have hd2 : dl b.2.toNat P1 ≤ 1 := by unfold dl; split <;> omega
          have := Int.mul_nonneg hD (show 0 ≤ dl b.2.toNat R1 - dl b.2.toNat P1 by omega)
          have e3 : D * (dl b.2.toNat P1 - dl b.2.toNat R1) = -(D * (dl b.2.toNat R1 - dl b.2.toNat P1)) := by
            rw [← Int.mul_neg]; congr 1; omega
          have := loss_mono hres (show (backL cs r s).2.getD b.2.toNat 0 + D * (dl b.2.toNat P1 - dl b.2.toNat R1) ≤ (backL cs r s).2.getD b.2.toNat 0 by omega)
          omega
        · rw [if_neg e] at hR
          rw [so F h R1 e, so F' h' R1 e]
          exact hR
end

theorem st0_diff {N : Net} {c q q' : Int} (hr : inR N.ns.length N.cs) (hc0 : 0 ≤ c) (hc : c < N.cs.length) (hne : (N.cs.getD c.toNat cn0).fr ≠ (N.cs.getD c.toNat cn0).to) (u : Nat) :
    (st0 N c q').2.getD u 0 = (st0 N c q).2.getD u 0 + (q' - q) * (dl u (N.cs.getD c.toNat cn0).fr.toNat - dl u (N.cs.getD c.toNat cn0).to.toNat) := by
  have he := hr (N.cs.getD c.toNat cn0) (mem_getD (by omega))
  have hn : (N.cs.getD c.toNat cn0).to.toNat ≠ (N.cs.getD c.toNat cn0).fr.toNat := by omega
  have hl := drawsL_len N
  have hv : ∀ q : Int, ((drawsL N).set (N.cs.getD c.toNat cn0).fr.toNat ((drawsL N).getD (N.cs.getD c.toNat cn0).fr.toNat 0 + q)).getD (N.cs.getD c.toNat cn0).to.toNat 0 = (drawsL N).getD (N.cs.getD c.toNat cn0).to.toNat 0 := fun q => by
    rw [getD_setI, if_neg (fun h => hn h.1)]
  have hx : ∀ q : Int, (st0 N c q).2.getD u 0 = if u = (N.cs.getD c.toNat cn0).to.toNat then (drawsL N).getD u 0 - q else if u = (N.cs.getD c.toNat cn0).fr.toNat then (drawsL N).getD u 0 + q else (drawsL N).getD u 0 := fun q => by
    unfold st0
    rw [if_neg (by omega)]
    show (((drawsL N).set _ _).set _ _).getD u 0 = _
    rw [hv, getD_setI, getD_setI]
    by_cases h1 : u = (N.cs.getD c.toNat cn0).to.toNat
    · rw [if_pos ⟨h1, by rw [List.length_set]; omega⟩, if_pos h1, ← h1]
    · rw [if_neg (fun h => h1 h.1), if_neg h1]
      by_cases h2 : u = (N.cs.getD c.toNat cn0).fr.toNat
      · rw [if_pos ⟨h2, by omega⟩, if_pos h2, ← h2]
      · rw [if_neg (fun h => h2 h.1), if_neg h2]
  rw [hx, hx]
  unfold dl
  by_cases h1 : u = (N.cs.getD c.toNat cn0).to.toNat
  · rw [if_pos h1, if_pos h1, if_neg (by omega), if_pos h1]
    omega
  · rw [if_neg h1, if_neg h1, if_neg h1]
    by_cases h2 : u = (N.cs.getD c.toNat cn0).fr.toNat
    · rw [if_pos h2, if_pos h2, if_pos h2]; omega
    · rw [if_neg h2, if_neg h2, if_neg h2]; omega

/-- The gap never decreases with the circulation. -/
theorem gap_mono {N : Net} {b : List (Int × Int)} {c q q' : Int} (hS : StOk N b c) (hc : 0 ≤ c) (hne : (N.cs.getD c.toNat cn0).fr ≠ (N.cs.getD c.toNat cn0).to) (h : q ≤ q') : gapF N b c q ≤ gapF N b c q' := by
  have hcl := hS.cl
  obtain ⟨P, R, _, _, g⟩ := tok (fun c hc => (hS.res c hc).1) hS.ends (q' - q) (by omega) b (lakesB N) (st0 N c q) (st0 N c q') _ _ (lakesB_len N) (st0_len0 N c q) (st0_len0 N c q') (st0_len1 N c q) (st0_len1 N c q') hS.tr (st0_diff hS.ends hc hcl hne)
  have := g (backL N.cs b (st0 N c q)).1 (backL N.cs b (st0 N c q')).1 (headsL N) (headsL N) (headsL_len N) (headsL_len N) (fun _ _ => rfl) (fun _ _ => rfl) (Int.le_refl _) (Int.le_refl _)
  have hl := loss_mono (hS.res (N.cs.getD c.toNat cn0) (mem_getD (by omega))).1 h
  unfold gapF stateF
  simp only
  omega
end Go.Tr

/- Plain: the closing conduit, and what holds in a state. Conditions: none. -/
namespace Go.Tr
open Go Go.Proofs
set_option maxRecDepth 20000
set_option maxHeartbeats 8000000

theorem closeF_keep (T : List Int) : ∀ (l : List Cn) (k : Nat) (o : Int), 0 ≤ o → (closeF T k l o).2 = 0 → (closeF T k l o).1 = o ∧ ∀ j, j < l.length → (l.getD j cn0).opn = true → T.contains ((k + j : Nat) : Int) = true
  | [], k, o, ho, h => ⟨rfl, fun j hj => by simp at hj⟩
  | c :: r, k, o, ho, h => by
    rw [closeF] at h ⊢
    by_cases e : c.opn = false ∨ T.contains (k : Int) = true
    · rw [if_pos e] at h ⊢
      have ih := closeF_keep T r (k + 1) o ho h
      refine ⟨ih.1, fun j hj hop => ?_⟩
      cases j with
      | zero =>
        rcases e with e | e
        · rw [List.getD_cons_zero, e] at hop; cases hop
        · exact e
      | succ j =>
        have := ih.2 j (by simpa using hj) (by simpa using hop)
        rwa [show k + (j + 1) = k + 1 + j by omega]
    · rw [if_neg e, if_pos ho] at h
      exact absurd (show (8 : Int) = 0 from h) (by decide)
theorem closeF_all (T : List Int) : ∀ (l : List Cn) (k : Nat), (closeF T k l (-1)).2 = 0 →
    (∀ j, j < l.length → (l.getD j cn0).opn = true → T.contains ((k + j : Nat) : Int) = false → (closeF T k l (-1)).1 = (k + j : Nat)) ∧
    (0 ≤ (closeF T k l (-1)).1 → ∃ j, j < l.length ∧ (closeF T k l (-1)).1 = (k + j : Nat) ∧ (l.getD j cn0).opn = true ∧ T.contains ((k + j : Nat) : Int) = false)
  | [], k, h => ⟨fun j hj => by simp at hj, fun h0 => by rw [closeF] at h0; exact absurd h0 (by decide)⟩
  | c :: r, k, h => by
    rw [closeF] at h ⊢
    by_cases e : c.opn = false ∨ T.contains (k : Int) = true
    · rw [if_pos e] at h ⊢
      have ih := closeF_all T r (k + 1) h
      refine ⟨fun j hj hop ht => ?_, fun h0 => ?_⟩
      · cases j with
        | zero =>
          rw [List.getD_cons_zero] at hop
          rw [Nat.add_zero] at ht
          rcases e with e | e
          · rw [e] at hop; cases hop
          · rw [e] at ht; cases ht
        | succ j =>
          have := ih.1 j (by simpa using hj) (by simpa using hop) (by rwa [show k + 1 + j = k + (j + 1) by omega])
          rw [this, show k + 1 + j = k + (j + 1) by omega]
      · obtain ⟨j, a, b, c, d⟩ := ih.2 h0
        refine ⟨j + 1, by simpa using a, ?_, by simpa using c, ?_⟩
        · rw [b, show k + 1 + j = k + (j + 1) by omega]
        · rwa [show k + (j + 1) = k + 1 + j by omega]
    · rw [if_neg e, if_neg (by decide)] at h ⊢
      have kp := closeF_keep T r (k + 1) k (by omega) h
      have ho : c.opn = true := by
        cases hc : c.opn with
        | true => rfl
        | false => exact absurd (.inl hc) e
      have ht : T.contains (k : Int) = false := by
        cases hc : T.contains (k : Int) with
        | false => rfl
        | true => exact absurd (.inr hc) e
      refine ⟨fun j hj hop hn => ?_, fun h0 => ⟨0, by simp, kp.1, ho, ht⟩⟩
      cases j with
      | zero => exact kp.1
      | succ j =>
        have := kp.2 j (by simpa using hj) (by simpa using hop)
        rw [show k + 1 + j = k + (j + 1) by omega] at this
        rw [this] at hn; cases hn
theorem not_contains {l : List (Int × Int)} {x : Int} (h : (l.map (·.1)).contains x = false) : ∀ b ∈ l, b.1 ≠ x := fun b hb e => by
  have : (l.map (·.1)).contains x = true := by
    rw [List.contains_iff_mem]; exact List.mem_map.2 ⟨b, hb, e⟩
  rw [this] at h; cases h
theorem is_contains {l : List (Int × Int)} {x : Int} (h : (l.map (·.1)).contains x = true) : ∃ b ∈ l, b.1 = x := by
  rw [List.contains_iff_mem] at h
  exact List.mem_map.1 h
/-- What the form says of a net. -/
theorem form_ok {N : Net} (hok : N.Ok) (h : (clF N).2 = 0) :
    (∀ u, u < N.ns.length → (afterF (lakesB N) (brF N)).getD u false = true) ∧
    (∀ j, j < N.cs.length → (N.cs.getD j cn0).opn = true → (∀ b ∈ brF N, b.1 ≠ j) → (clF N).1 = j) ∧
    (0 ≤ (clF N).1 → (N.cs.getD (clF N).1.toNat cn0).opn = true ∧ ∀ b ∈ brF N, b.1 ≠ (clF N).1) := by
  unfold clF at h ⊢
  by_cases hg : gapE N = true
  · rw [if_pos hg] at h; exact absurd h (by decide)
  · rw [if_neg hg] at h ⊢
    have ha := closeF_all _ _ _ h
    refine ⟨fun u hu => ?_, fun j hj ho hb => ?_, fun h0 => ?_⟩
    · have hl := (treeF_len hok.ends).1
      have ht := (brF_tree hok.ends).2
      unfold gapE at hg
      rw [ht] at hg hl
      cases e : (afterF (lakesB N) (brF N)).getD u false with
      | true => rfl
      | false =>
        refine absurd ?_ hg
        rw [List.contains_iff_mem]
        have hu' : u < (afterF (lakesB N) (brF N)).length := by omega
        rw [List.getD_eq_getElem?_getD, List.getElem?_eq_getElem hu', Option.getD_some] at e
        rw [← e]; exact List.getElem_mem hu'
    · have := ha.1 j hj ho (by
        rw [Nat.zero_add]
        cases e : ((brF N).map (·.1)).contains (j : Int) with
        | false => rfl
        | true =>
          obtain ⟨b, hb1, hb2⟩ := is_contains e
          exact absurd hb2 (hb b hb1))
      rw [this, Nat.zero_add]
    · obtain ⟨j, a, b, c, d⟩ := ha.2 h0
      rw [Nat.zero_add] at b d
      rw [b, Int.toNat_natCast]
      exact ⟨c, not_contains d⟩
/-- A sum of sizes, after a change. -/
theorem sumA_set : ∀ (d : List Int) (k : Nat) (x : Int), sumA (d.set k (d.getD k 0 + x)) ≤ sumA d + absI x
  | [], k, x => by simp [sumA]; exact absI_nonneg x
  | a :: r, 0, x => by
    have := absI_add a x
    simp only [List.set_cons_zero, List.getD_cons_zero, sumA, List.map_cons, List.sum_cons]
    omega
  | a :: r, k + 1, x => by
    have := sumA_set r k x
    simp only [List.set_cons_succ, List.getD_cons_succ]
    unfold sumA at this ⊢
    simp only [List.map_cons, List.sum_cons]
    omega
theorem st0_sum' {N : Net} {b : List (Int × Int)} {c q : Int} (hS : StOk N b c) (hq : -200000 ≤ q ∧ q ≤ 200000) : sumA (st0 N c q).2 ≤ 500000 := by
  have h := sumA_le (B := 10000) (drawsL N) fun i => absI_of (drawsL_bd hS.dr i)
  rw [drawsL_len] at h
  have := hS.n1
  have ha : absI q ≤ 200000 := absI_of hq
  have hb : absI (-q) ≤ 200000 := absI_of (by omega)
  unfold st0
  split
  · show sumA (drawsL N) ≤ _
    omega
  · have h1 := sumA_set (drawsL N) (N.cs.getD c.toNat cn0).fr.toNat q
    have h2 := sumA_set ((drawsL N).set (N.cs.getD c.toNat cn0).fr.toNat ((drawsL N).getD (N.cs.getD c.toNat cn0).fr.toNat 0 + q)) (N.cs.getD c.toNat cn0).to.toNat (-q)
    show sumA (((drawsL N).set _ _).set _ (_ - q)) ≤ _
    rw [Int.sub_eq_add_neg]
    omega
theorem st0_fl' {N : Net} {c q : Int} (hq : -200000 ≤ q ∧ q ≤ 200000) (i : Nat) : -500000 ≤ (st0 N c q).1.getD i 0 ∧ (st0 N c q).1.getD i 0 ≤ 500000 := by
  have hz : ∀ i, -500000 ≤ (List.replicate N.cs.length (0 : Int)).getD i 0 ∧ (List.replicate N.cs.length (0 : Int)).getD i 0 ≤ 500000 := fun i => by
    have e : (List.replicate N.cs.length (0 : Int)).getD i 0 = 0 := by
      simp only [List.getD_eq_getElem?_getD, List.getElem?_replicate]; split <;> rfl
    omega
  unfold st0
  split
  · exact hz i
  · exact set_bdI hz (by omega) i
theorem inflow_zero : ∀ (cs : List Cn) (n : Nat) (u : Nat), inflow cs (List.replicate n 0) u = 0
  | [], n, u => by cases n <;> rfl
  | c :: r, 0, u => rfl
  | c :: r, n + 1, u => by rw [List.replicate_succ, inflow, inflow_zero r n u]; omega
theorem st0_z {N : Net} {c q : Int} {i : Nat} (h : (i : Int) ≠ c) : (st0 N c q).1.getD i 0 = 0 := by
  have e : (List.replicate N.cs.length (0 : Int)).getD i 0 = 0 := by
    simp only [List.getD_eq_getElem?_getD, List.getElem?_replicate]; split <;> rfl
  unfold st0
  split
  · exact e
  · show ((List.replicate N.cs.length (0 : Int)).set c.toNat q).getD i 0 = 0
    rw [getD_setI, if_neg (fun h => by omega)]; exact e
theorem st0_in {N : Net} {c q : Int} (hr : inR N.ns.length N.cs) (hc : c < N.cs.length) (hne : 0 ≤ c → (N.cs.getD c.toNat cn0).fr ≠ (N.cs.getD c.toNat cn0).to) (u : Nat) :
    inflow N.cs (st0 N c q).1 u + (st0 N c q).2.getD u 0 = (drawsL N).getD u 0 := by
  by_cases h0 : 0 ≤ c
  · have hd := st0_diff (q := 0) (q' := q) hr h0 hc (hne h0) u
    have hz : (st0 N c 0).2.getD u 0 = (drawsL N).getD u 0 := by
      unfold st0
      rw [if_neg (by omega)]
      show (((drawsL N).set _ (_ + 0)).set _ (_ - 0)).getD u 0 = _
      have he := hr (N.cs.getD c.toNat cn0) (mem_getD (by omega))
      have := drawsL_len N
      rw [getD_setI]
      split
      · next h => rw [Int.sub_zero, Int.add_zero, ← h.1, getD_setI]; split
                  · next h => rw [← h.1]
                  · rfl
      · rw [Int.add_zero, getD_setI]
        split
        · next h => rw [← h.1]
        · rfl
    rw [hd, hz]
    have e : (st0 N c q).1 = (List.replicate N.cs.length 0).set c.toNat q := by unfold st0; rw [if_neg (by omega)]
    have e0 : (List.replicate N.cs.length (0 : Int)).getD c.toNat 0 = 0 := by
      simp only [List.getD_eq_getElem?_getD, List.getElem?_replicate]; split <;> rfl
    rw [e, inflow_set _ _ _ _ _ (by simp) (by omega), inflow_zero, e0]
    unfold dl
    have f : ∀ v : Nat, (if v = u then (1 : Int) else 0) = if u = v then 1 else 0 := fun v => by
      by_cases h : v = u
      · rw [if_pos h, if_pos h.symm]
      · rw [if_neg h, if_neg (fun e => h e.symm)]
    rw [f, f, Int.sub_zero]
    have := Int.mul_sub q (if u = (N.cs.getD c.toNat cn0).to.toNat then (1 : Int) else 0) (if u = (N.cs.getD c.toNat cn0).fr.toNat then 1 else 0)
    have := Int.mul_sub q (if u = (N.cs.getD c.toNat cn0).fr.toNat then (1 : Int) else 0) (if u = (N.cs.getD c.toNat cn0).to.toNat then 1 else 0)
    omega
  · have e : st0 N c q = (List.replicate N.cs.length 0, drawsL N) := by unfold st0; rw [if_pos (by omega)]
    rw [e, inflow_zero]
    show 0 + (drawsL N).getD u 0 = _
    omega

/-- What WaterKept asks of a state. -/
structure Kept (N : Net) (q : Int) (s : List Int × List Int) : Prop where
  l1 : s.1.length = N.cs.length
  l2 : s.2.length = N.ns.length
  bd : ∀ i, -1000000 ≤ s.1.getD i 0 ∧ s.1.getD i 0 ≤ 1000000
  shut : ∀ i, i < N.cs.length → (N.cs.getD i cn0).opn = false → s.1.getD i 0 = 0
  cl : ∀ i, i < N.cs.length → (i : Int) = (clF N).1 → s.1.getD i 0 = q
  hd : ∀ i, -180000000000000000 ≤ s.2.getD i 0 ∧ s.2.getD i 0 ≤ 180000000000000000
  loss : ∀ i, i < N.cs.length → (N.cs.getD i cn0).opn = true → (i : Int) ≠ (clF N).1 → s.2.getD (N.cs.getD i cn0).fr.toNat 0 - s.2.getD (N.cs.getD i cn0).to.toNat 0 = lossF (N.cs.getD i cn0).res (s.1.getD i 0)
  lake : ∀ u, u < N.ns.length → (N.ns.getD u nd0).lake = true → s.2.getD u 0 = 1000 * (N.ns.getD u nd0).head
  draw : ∀ u, u < N.ns.length → (N.ns.getD u nd0).lake = false → inflow N.cs s.1 u = (N.ns.getD u nd0).draw
theorem kept_ok {N : Net} {q : Int} (hok : N.Ok) (h : (clF N).2 = 0) (hq : -200000 ≤ q ∧ q ≤ 200000) : Kept N q (stateF N (brF N) (clF N).1 q) := by
  have hS := stOk hok
  have hl := state_len N (brF N) (clF N).1 q
  obtain ⟨hf1, hf2, hf3⟩ := form_ok hok h
  have hrg := tree_range (brF N) _ hS.tr
  have hlk : ∀ u, u < N.ns.length → (lakesB N).getD u false = (N.ns.getD u nd0).lake := fun u hu =>
    lakesB_getD N u hu
  have hz : ∀ b ∈ brF N, (st0 N (clF N).1 q).1.getD b.1.toNat 0 = 0 := fun b hb => st0_z fun e => by
    have := hrg b hb
    have := (hf3 (by omega)).2 b hb
    omega
  refine ⟨hl.1, hl.2, fun i => ?_, fun i hi ho => ?_, fun i hi he => ?_, fun i => (state_bd hS hq i).2, fun i hi ho he => ?_, fun u hu hu1 => ?_, fun u hu hu1 => ?_⟩
  · have := back_flow (brF N) _ (st0 N (clF N).1 q) (lakesB_len N) (st0_len1 N _ q) hS.tr (st0_sum' hS hq) (st0_fl' hq) i
    unfold stateF
    simp only
    omega
  · unfold stateF
    show (backL N.cs (brF N) _).1.getD i 0 = 0
    rw [back_other _ _ i (fun b hb => (hrg b hb).1) (fun b hb e => by
      have := (hrg b hb).2.2.2.2
      rw [e, Int.toNat_natCast, ho] at this
      cases this)]
    exact st0_z fun e => by
      have := (hf3 (by omega)).1
      rw [← e, Int.toNat_natCast, ho] at this
      cases this
  · unfold stateF
    show (backL N.cs (brF N) _).1.getD i 0 = q
    have h0 : 0 ≤ (clF N).1 := by omega
    rw [back_other _ _ i (fun b hb => (hrg b hb).1) (fun b hb e => (hf3 h0).2 b hb (by omega))]
    unfold st0
    rw [if_neg (by omega)]
    show ((List.replicate N.cs.length (0 : Int)).set (clF N).1.toNat q).getD i 0 = q
    rw [getD_setI, if_pos ⟨by omega, by simp; omega⟩]
  · by_cases hb : ∀ b ∈ brF N, b.1 ≠ i
    · exact absurd (hf2 i hi ho hb).symm he
    · have hx : ∃ b ∈ brF N, b.1 = (i : Int) := Classical.byContradiction fun hn => hb fun b h1 h2 => hn ⟨b, h1, h2⟩
      obtain ⟨b, hb1, hbi⟩ := hx
      have := fore_loss (n := N.ns.length) (cs := N.cs) (f := (backL N.cs (brF N) (st0 N (clF N).1 q)).1) (brF N) _ (headsL N) (lakesB_len N) (headsL_len N) hS.tr b hb1
      rw [hbi, Int.toNat_natCast] at this
      exact this
  · have := fore_keep (n := N.ns.length) (cs := N.cs) (f := (backL N.cs (brF N) (st0 N (clF N).1 q)).1) (brF N) _ (headsL N) u hS.tr (by rw [hlk u hu, hu1])
    rw [headsL_getD N u hu] at this
    exact this
  · have := (kept (n := N.ns.length) (cs := N.cs) (brF N) _ (st0 N (clF N).1 q) (lakesB_len N) (st0_len0 N _ q) (st0_len1 N _ q) hok.ends hS.tr hz u hu).2 (by rw [hlk u hu, hu1]) (hf1 u hu)
    have h2 := st0_in (q := q) hok.ends hS.cl (fun h0 => (hok.con _ (mem_getD (by have := hS.cl; omega))).1) u
    rw [drawsL_getD N u hu] at h2
    unfold stateF
    simp only
    omega
end Go.Tr

/- Plain: what a branch carries is the sum over the branches that climb to its node. Conditions: none. -/
namespace Go.Tr
open Go Go.Proofs
set_option maxRecDepth 20000
set_option maxHeartbeats 8000000

section
variable {n : Nat} {cs : List Cn}
/-- The node where one comes out who climbs from a node until the branches of a list are behind. -/
def rootOf (cs : List Cn) : List (Int × Int) → Int → Int
  | [], u => u
  | b :: r, u => if rootOf cs r u = b.2 then otherN (cs.getD b.1.toNat cn0) b.2 else rootOf cs r u
def sumRt (g : Int → Int) (w : Int) (D : List Int) : List (Int × Int) → Int
  | [] => 0
  | x :: r => (if g x.2 = w then D.getD x.2.toNat 0 else 0) + sumRt g w D r
theorem mark_mono {m : List Bool} {v u : Nat} (h : m.getD u false = true) : (m.set v true).getD u false = true := by
  rw [getD_set]; split
  · rfl
  · exact h
theorem root_fix : ∀ (l : List (Int × Int)) (m : List Bool) (u : Int), TreeOk n cs m l → m.getD u.toNat false = true → rootOf cs l u = u
  | [], m, u, _, _ => rfl
  | b :: r, m, u, ht, h => by
    have ih := root_fix r _ u ht.2 (mark_mono h)
    rw [rootOf, ih, if_neg]
    intro e
    have hn := ht.1.new
    rw [← e, h] at hn
    cases hn
theorem root_up : ∀ (l : List (Int × Int)) (m : List Bool), m.length = n → TreeOk n cs m l → ∀ b ∈ l, rootOf cs l b.2 = rootOf cs l (otherN (cs.getD b.1.toNat cn0) b.2)
  | [], m, _, _, b, hb => by simp at hb
  | x :: r, m, hm, ht, b, hb => by
    rcases List.mem_cons.1 hb with rfl | hb
    · have hB := ht.1
      have v0 := hB.v0; have v1 := hB.v1
      have e1 : rootOf cs r b.2 = b.2 := root_fix r _ _ ht.2 (by rw [getD_set, if_pos]; exact ⟨rfl, by omega⟩)
      have e2 := root_fix r _ (otherN (cs.getD b.1.toNat cn0) b.2) ht.2 (mark_mono hB.old)
      have hne : ¬ otherN (cs.getD b.1.toNat cn0) b.2 = b.2 := fun e => by
        have h1 := hB.old
        rw [e, hB.new] at h1
        cases h1
      rw [rootOf, rootOf, e1, e2, if_pos rfl, if_neg hne]
    · have ih := root_up r _ (by simpa using hm) ht.2 b hb
      rw [rootOf, rootOf, ih]
theorem sum_split {g : Int → Int} {v o w : Int} {D : List Int} (h : w ≠ v) : ∀ l : List (Int × Int), sumRt (fun u => if g u = v then o else g u) w D l = sumRt g w D l + (if o = w then sumRt g v D l else 0)
  | [] => by simp [sumRt]
  | x :: r => by
    have ih := sum_split (g := g) (o := o) (D := D) h r
    simp only [sumRt]
    rw [ih]
    by_cases e : g x.2 = v
    · have e3 : ¬ g x.2 = w := by omega
      by_cases e2 : o = w
      · simp only [if_pos e, if_pos e2, if_neg e3]; omega
      · simp only [if_pos e, if_neg e2, if_neg e3]; omega
    · by_cases e2 : o = w
      · simp only [if_neg e, if_pos e2]; omega
      · simp only [if_neg e, if_neg e2]; omega
/-- What stands at a node ahead of the branches. -/
theorem back_root : ∀ (l : List (Int × Int)) (m : List Bool) (s : List Int × List Int), m.length = n → s.2.length = n → TreeOk n cs m l → ∀ w : Int, 0 ≤ w → m.getD w.toNat false = true →
    (backL cs l s).2.getD w.toNat 0 = s.2.getD w.toNat 0 + sumRt (rootOf cs l) w s.2 l
  | [], m, s, _, _, _, w, _, _ => by simp [backL, sumRt]
  | b :: r, m, s, hm, hs, ht, w, hw, h => by
    have hB := ht.1
    have v0 := hB.v0; have v1 := hB.v1; have o0 := hB.o0; have o1 := hB.o1
    have ih := fun w hw h => back_root r (m.set b.2.toNat true) s (by simpa using hm) hs ht.2 w hw h
    have hv : (m.set b.2.toNat true).getD b.2.toNat false = true := by rw [getD_set, if_pos]; exact ⟨rfl, by omega⟩
    have iw := ih w hw (mark_mono h)
    have iv := ih b.2 v0 hv
    have io := ih _ o0 (mark_mono hB.old)
    have hl := (backL_len cs r s).2
    have hwv : w ≠ b.2 := fun e => by
      have hn := hB.new
      rw [← e, h] at hn
      cases hn
    have e1 : rootOf cs (b :: r) b.2 = otherN (cs.getD b.1.toNat cn0) b.2 := by
      rw [rootOf, root_fix r _ _ ht.2 hv, if_pos rfl]
    have e2 : rootOf cs (b :: r) = fun u => if rootOf cs r u = b.2 then otherN (cs.getD b.1.toNat cn0) b.2 else rootOf cs r u := by funext u; rw [rootOf]
    have e3 := sum_split (g := rootOf cs r) (o := otherN (cs.getD b.1.toNat cn0) b.2) (D := s.2) hwv r
    rw [sumRt, e1, e2, e3]
    show ((backL cs r s).2.set _ _).getD w.toNat 0 = _
    rw [getD_setI]
    by_cases e : otherN (cs.getD b.1.toNat cn0) b.2 = w
    · rw [if_pos ⟨by rw [e], by omega⟩, if_pos e, if_pos e, io, iv, e]
      omega
    · rw [if_neg (fun h => e (by omega)), if_neg e, if_neg e, iw]
      omega
end
end Go.Tr

/- Contracts of chapter 2: the drop for a flow. Conditions: none. -/
namespace Go.Tr
open Go Go.Proofs
set_option maxRecDepth 20000
set_option maxHeartbeats 8000000

theorem S85 (l : List Int) (hl : l.length ≤ 1000) (hr : ∀ r ∈ l, 0 ≤ r ∧ r ≤ 1000000) (fl d : Int) : SP 85 [i64 d, .rptr [ints l], .rptr [i64 fl]] (vb (decide (hiS d l ≥ fl))) false := by
  have h82 := S82 l hl hr d
  refine sound (d := 2) tok2 mixed2 Try.func85 (by kernel_rfl) (by kernel_rfl) ?_
  conv => whnf
  refine ⟨[], by kernel_rfl, ?_⟩
  conv => whnf
  refine .inl ⟨_, _, byX rfl (Sound1.pl (h82) rfl), ?_⟩
  conv => whnf
  refine ⟨?_, nofun⟩
  (rfl)
theorem S86 (l : List Int) (hl : l.length ≤ 1000) (hr : ∀ r ∈ l, 0 ≤ r ∧ r ≤ 1000000) (fl d : Int) : SP 86 [i64 d, .rptr [ints l], .rptr [i64 fl]] (vb (decide (loS d l ≥ fl))) false := by
  have h82 := S82 l hl hr d
  refine sound (d := 2) tok2 mixed2 Try.func86 (by kernel_rfl) (by kernel_rfl) ?_
  conv => whnf
  refine ⟨[], by kernel_rfl, ?_⟩
  conv => whnf
  refine .inl ⟨_, _, byX rfl (Sound1.pl (h82) rfl), ?_⟩
  conv => whnf
  refine ⟨?_, nofun⟩
  (rfl)

def dropLo (l : List Int) (fl : Int) : Int := leastF (fun d => decide (hiS d l ≥ fl)) 30 0 1000000001
def dropHi (l : List Int) (fl : Int) : Int := leastF (fun d => decide (loS d l ≥ fl)) 30 (dropLo l fl) 1000000001
def fE (fl : Int) : Int := if 0 ≤ fl ∧ fl ≤ 10000 then 0 else 2
def dropE (l : List Int) (fl : Int) : Int := if rsE l = 0 then fE fl else rsE l
def dropF (l : List Int) (fl : Int) : (Int × Int) × Int :=
  if dropE l fl = 0 then (if dropHi l fl > 1000000000 then ((0, 0), 12) else ((dropLo l fl, dropHi l fl), 0)) else ((0, 0), dropE l fl)
theorem dropE_eq (l : List Int) (fl : Int) : firstOf [rsE l, fE fl] = dropE l fl := by
  rw [firstOf2]; unfold dropE; split
  · split <;> simp_all
  · rfl
theorem fE_eq (fl : Int) : (if decide (0 ≤ fl ∧ fl ≤ 10000) = true then (0 : Int) else 2) = fE fl := by unfold fE; simp only [decide_eq_true_eq]
theorem dropE_ok {l : List Int} {fl : Int} (h : dropE l fl = 0) : (0 < l.length ∧ l.length ≤ 8 ∧ ∀ r ∈ l, 1 ≤ r ∧ r ≤ 1000) ∧ 0 ≤ fl ∧ fl ≤ 10000 := by
  unfold dropE at h
  split at h
  · refine ⟨rsE_ok (by assumption), ?_⟩
    unfold fE at h
    split at h
    · assumption
    · cases h
  · contradiction

theorem dropLo_mem (l : List Int) (fl : Int) : 0 ≤ dropLo l fl ∧ dropLo l fl ≤ 1000000001 := leastF_mem _ 30 0 1000000001 (by omega)
theorem dropHi_mem (l : List Int) (fl : Int) : dropLo l fl ≤ dropHi l fl ∧ dropHi l fl ≤ 1000000001 := leastF_mem _ 30 _ 1000000001 (dropLo_mem l fl).2
theorem S28 (l : List Int) (hl : l.length ≤ 1000000000) (fl : Int) : SP 28 [ints l, i64 fl] (rngE (dropF l fl)) false := by
  generalize hR : dropF l fl = R
  unfold dropF at hR
  rw [← dropE_eq, ← fE_eq] at hR
  have h80 := S80 l hl
  have m1 := dropLo_mem l fl
  have m2 := dropHi_mem l fl
  by_cases hE : firstOf [rsE l, if decide (0 ≤ fl ∧ fl ≤ 10000) = true then 0 else 2] = 0
  · rw [if_pos hE] at hR
    have hk := dropE_ok ((dropE_eq l fl).symm.trans ((by rw [fE_eq] at hE; exact hE)))
    have hr : ∀ r ∈ l, 0 ≤ r ∧ r ≤ 1000000 := fun r hr => by have := hk.1.2.2 r hr; omega
    have c1 : SP 84 [i64 0, i64 1000000001, .func (.func 85) 0 [.rptr [ints l], .rptr [i64 fl]]] (i64 (dropLo l fl)) false :=
      S84 85 [ints l] [i64 fl] _ 0 1000000001 30 (by omega) (by omega) (by decide) fun x _ _ => S85 l (by omega) hr fl x
    have hn : (1000000001 - dropLo l fl).toNat < 2 ^ 30 := by
      have : (2 : Nat) ^ 30 = 1073741824 := by decide
      omega
    have c2 : SP 84 [i64 (dropLo l fl), i64 1000000001, .func (.func 86) 0 [.rptr [ints l], .rptr [i64 fl]]] (i64 (dropHi l fl)) false :=
      S84 86 [ints l] [i64 fl] _ (dropLo l fl) 1000000001 30 (by omega) (by omega) hn fun x _ _ => S86 l (by omega) hr fl x
    refine sound (d := 2) tok2 mixed2 Try.func28 (by kernel_rfl) (by kernel_rfl) ?_
    conv => whnf
    refine ⟨[], by kernel_rfl, ?_⟩
    conv => whnf
    refine .inl ⟨_, _, byX rfl (Sound1.pl (h80) rfl), ?_⟩
    conv => whnf
    refine .inl ⟨_, _, byX rfl (Sound1.pl (S74 _ _ _) rfl), ?_⟩
    conv => whnf
    refine .inl ⟨_, _, byX rfl (Sound1.pl (S72 _ _) rfl), ?_⟩
    conv => whnf
    refine .inl ⟨_, _, byX rfl (Sound1.pl (S71_2 _ _ _ ⟨rfl, rfl⟩) rfl), ?_⟩
    conv => whnf
    refine ifB_bne (fun w1 => ?_) (fun w1 => ?_)
    · (exfalso; omega)
    · conv => whnf
      refine .inl ⟨_, _, byX rfl (Sound1.pl (c1) rfl), ?_⟩
      conv => whnf
      refine .inl ⟨_, _, byX rfl (Sound1.pl (c2) rfl), ?_⟩
      conv => whnf
      refine ifB_dec (fun w2 => ?_) (fun w2 => ?_)
      · conv => whnf
        refine ⟨?_, nofun⟩
        rw [if_pos w2] at hR
        exact ave_rngE _ _ _ _ hR.symm
      · conv => whnf
        refine ⟨?_, nofun⟩
        rw [if_neg w2] at hR
        exact ave_rngE _ _ _ _ hR.symm
  · rw [if_neg hE] at hR
    refine sound (d := 2) tok2 mixed2 Try.func28 (by kernel_rfl) (by kernel_rfl) ?_
    conv => whnf
    refine ⟨[], by kernel_rfl, ?_⟩
    conv => whnf
    refine .inl ⟨_, _, byX rfl (Sound1.pl (h80) rfl), ?_⟩
    conv => whnf
    refine .inl ⟨_, _, byX rfl (Sound1.pl (S74 _ _ _) rfl), ?_⟩
    conv => whnf
    refine .inl ⟨_, _, byX rfl (Sound1.pl (S72 _ _) rfl), ?_⟩
    conv => whnf
    refine .inl ⟨_, _, byX rfl (Sound1.pl (S71_2 _ _ _ ⟨rfl, rfl⟩) rfl), ?_⟩
    conv => whnf
    refine ifB_bne (fun w1 => ?_) (fun w1 => ?_)
    · conv => whnf
      refine ⟨?_, nofun⟩
      exact ave_rngE _ _ _ _ hR.symm
    · (exfalso; omega)
end Go.Tr

/- Plain laws of chapter 2: flows of parallel conduits, drops. Conditions: none. -/
namespace Go.Tr
open Go Go.Proofs
set_option maxRecDepth 20000
set_option maxHeartbeats 8000000

theorem leastF_least (p : Int → Bool) (A B : Int) (hp : ∀ x y, A ≤ x → x ≤ y → y < B → p x = true → p y = true) : ∀ (n : Nat) (a b : Int), A ≤ a → a ≤ b → b ≤ B → (b - a).toNat < 2 ^ n →
    (∀ x, a ≤ x → x < leastF p n a b → p x = false) ∧ (leastF p n a b < b → p (leastF p n a b) = true)
  | 0, a, b, hA, hab, hB, hn => by
    have : b = a := by simp at hn; omega
    subst this
    exact ⟨fun x h1 h2 => by unfold leastF at h2; omega, fun h => by unfold leastF at h; omega⟩
  | n + 1, a, b, hA, hab, hB, hn => by
    unfold leastF
    by_cases h : a < b
    · rw [if_pos h]
      have hs : (b - a).toNat < 2 ^ n * 2 := by rw [← Nat.pow_succ]; exact hn
      generalize hm : a + (b - a) / 2 = m
      cases hpm : p m with
      | true =>
        rw [cond_true]
        obtain ⟨h1, h2⟩ := leastF_least p A B hp n a m hA (by omega) (by omega) (by omega)
        have h3 := leastF_mem p n a m (by omega)
        refine ⟨h1, fun _ => ?_⟩
        by_cases h4 : leastF p n a m < m
        · exact h2 h4
        · rw [show leastF p n a m = m by omega]; exact hpm
      | false =>
        rw [cond_false]
        obtain ⟨h1, h2⟩ := leastF_least p A B hp n (m + 1) b (by omega) (by omega) (by omega) (by omega)
        refine ⟨fun x h3 h4 => ?_, h2⟩
        by_cases h5 : m + 1 ≤ x
        · exact h1 x h5 h4
        · cases h6 : p x with
          | false => rfl
          | true => rw [hp x m (by omega) (by omega) (by omega) h6] at hpm; cases hpm
    · rw [if_neg h]
      exact ⟨fun x h1 h2 => by omega, fun h' => absurd h' h⟩

theorem sq_mono {r x y : Int} (hr : 0 ≤ r) (hx : 0 ≤ x) (h : x ≤ y) : r * x * x ≤ r * y * y :=
  Int.mul_le_mul (Int.mul_le_mul_of_nonneg_left h hr) h hx (Int.mul_nonneg hr (by omega))

theorem hiF_spec {r d : Int} (hr : 1 ≤ r) (hd : d ≤ 1000000001) : d ≤ r * hiF r d * hiF r d ∧ ∀ x, 0 ≤ x → x < hiF r d → r * x * x < d := by
  have hm := hiF_mem r d
  have hl := leastF_least (fun x => decide (r * x * x ≥ d)) 0 31623 (fun x y h1 h2 _ h => by
    have := sq_mono (r := r) (by omega) h1 h2
    simp only [decide_eq_true_eq] at h ⊢
    omega) 15 0 31623 (by omega) (by omega) (by omega) (by decide)
  change (∀ x, 0 ≤ x → x < hiF r d → _) ∧ (hiF r d < 31623 → decide (r * hiF r d * hiF r d ≥ d) = true) at hl
  refine ⟨?_, fun x h1 h2 => ?_⟩
  · by_cases h : hiF r d < 31623
    · exact of_decide_eq_true (hl.2 h)
    · rw [show hiF r d = 31623 by omega]; omega
  · have := of_decide_eq_false (hl.1 x h1 h2)
    omega

theorem loF_spec {r d : Int} (hr : 1 ≤ r) (h0 : 0 ≤ d) (hd : d ≤ 1000000001) : 0 ≤ loF r d ∧ loF r d ≤ hiF r d ∧ hiF r d ≤ loF r d + 1 ∧ r * loF r d * loF r d ≤ d ∧ d < r * (loF r d + 1) * (loF r d + 1) := by
  have hm := hiF_mem r d
  obtain ⟨s1, s2⟩ := hiF_spec hr hd
  unfold loF loOf
  generalize hiF r d = H at *
  split
  · rename_i h
    have h1 : H ≠ 0 := fun e => by subst e; simp at h; omega
    have := s2 (H - 1) (by omega) (by omega)
    refine ⟨by omega, by omega, by omega, by omega, ?_⟩
    rw [show H - 1 + 1 = H by omega]
    exact h
  · rename_i h
    refine ⟨by omega, by omega, by omega, by omega, ?_⟩
    have e : r * (H + 1) * (H + 1) = r * H * H + (r * H + r * H + r) := by
      simp only [Int.mul_add, Int.add_mul, Int.mul_one]
      omega
    have : 0 ≤ r * H := Int.mul_nonneg (by omega) hm.1
    omega

theorem hiF_mono {r d d' : Int} (hr : 1 ≤ r) (h : d ≤ d') (hd : d' ≤ 1000000001) : hiF r d ≤ hiF r d' := by
  have h1 := (hiF_spec (r := r) (d := d) hr (by omega)).2 (hiF r d')
  have h2 := (hiF_spec (r := r) (d := d') hr hd).1
  have h3 := hiF_mem r d'
  rcases Int.lt_or_le (hiF r d') (hiF r d) with h4 | h4
  · have := h1 h3.1 h4; omega
  · exact h4
theorem loF_mono {r d d' : Int} (hr : 1 ≤ r) (h0 : 0 ≤ d) (h : d ≤ d') (hd : d' ≤ 1000000001) : loF r d ≤ loF r d' := by
  obtain ⟨a1, a2, a3, a4, a5⟩ := loF_spec (r := r) (d := d) hr h0 (by omega)
  obtain ⟨b1, b2, b3, b4, b5⟩ := loF_spec (r := r) (d := d') hr (by omega) hd
  rcases Int.lt_or_le (loF r d') (loF r d) with h4 | h4
  · have := sq_mono (r := r) (x := loF r d' + 1) (y := loF r d) (by omega) (by omega) (by omega); omega
  · exact h4

theorem sums {l : List Int} (hr : ∀ r ∈ l, 1 ≤ r ∧ r ≤ 1000) {d : Int} (h0 : 0 ≤ d) (hd : d ≤ 1000000001) : 0 ≤ loS d l ∧ loS d l ≤ hiS d l ∧ hiS d l ≤ loS d l + l.length := by
  induction l with
  | nil => simp [loS, hiS]
  | cons r l ih =>
    have := loF_spec (hr r (by simp)).1 h0 hd
    have := ih fun x hx => hr x (by simp [hx])
    simp only [loS, hiS, List.length_cons]
    omega
theorem sums_mono {l : List Int} (hr : ∀ r ∈ l, 1 ≤ r ∧ r ≤ 1000) {d d' : Int} (h0 : 0 ≤ d) (h : d ≤ d') (hd : d' ≤ 1000000001) : loS d l ≤ loS d' l ∧ hiS d l ≤ hiS d' l := by
  induction l with
  | nil => simp [loS, hiS]
  | cons r l ih =>
    have h1 := loF_mono (hr r (by simp)).1 h0 h hd
    have h2 := hiF_mono (hr r (by simp)).1 h hd
    have := ih fun x hx => hr x (by simp [hx])
    simp only [loS, hiS]
    omega

/-- What a drop for a flow says. -/
theorem drop_spec {l : List Int} (hr : ∀ r ∈ l, 1 ≤ r ∧ r ≤ 1000) {fl : Int} (h : dropHi l fl ≤ 1000000000) : fl ≤ hiS (dropLo l fl) l ∧ fl ≤ loS (dropHi l fl) l := by
  have m1 := dropLo_mem l fl
  have m2 := dropHi_mem l fl
  have a := leastF_least (fun d => decide (hiS d l ≥ fl)) 0 1000000001 (fun x y h1 h2 h3 h => by
    have := sums_mono hr h1 h2 (by omega)
    simp only [decide_eq_true_eq] at h ⊢
    omega) 30 0 1000000001 (by omega) (by omega) (by omega) (by decide)
  have b := leastF_least (fun d => decide (loS d l ≥ fl)) 0 1000000001 (fun x y h1 h2 h3 h => by
    have := sums_mono hr h1 h2 (by omega)
    simp only [decide_eq_true_eq] at h ⊢
    omega) 30 (dropLo l fl) 1000000001 (by omega) (by omega) (by omega) (by
      have : (2 : Nat) ^ 30 = 1073741824 := by decide
      omega)
  exact ⟨of_decide_eq_true (a.2 (show dropLo l fl < _ by omega)), of_decide_eq_true (b.2 (show dropHi l fl < _ by omega))⟩

theorem sums_one {l : List Int} (hr : ∀ r ∈ l, 1 ≤ r ∧ r ≤ 1000) {d : Int} (h0 : 0 ≤ d) (hd : d ≤ 1000000001) (hl : 0 < l.length) : loS d [l.getD 0 0] ≤ loS d l ∧ hiS d [l.getD 0 0] ≤ hiS d l := by
  match l, hl with
  | r :: l, _ =>
    have := sums (l := l) (fun x hx => hr x (by simp [hx])) h0 hd
    simp only [loS, hiS, List.getD_cons_zero]
    omega
end Go.Tr

/- Plain: the gap of a net is a sum of losses at shifted flows, less a constant. Conditions: none. -/
namespace Go.Tr
open Go Go.Proofs
set_option maxRecDepth 20000
set_option maxHeartbeats 8000000

section
variable {n : Nat} {cs : List Cn}
/-- Where one comes out who climbs from a node until the branches of a list are behind. -/
def rootN (cs : List Cn) : List (Int × Int) → Nat → Nat
  | [], u => u
  | b :: r, u => if rootN cs r u = b.2.toNat then (otherN (cs.getD b.1.toNat cn0) b.2).toNat else rootN cs r u
theorem dl_step (u v o P : Nat) (h : u ≠ v) : dl u (if P = v then o else P) = dl u P + (if u = o then dl v P else 0) := by
  unfold dl
  by_cases h1 : P = v
  · rw [if_pos h1]
    by_cases h2 : u = o
    · rw [if_pos h2, if_pos h2, if_neg (by omega), if_pos h1.symm]; rfl
    · rw [if_neg h2, if_neg h2, if_neg (by omega)]; rfl
  · rw [if_neg h1]
    have h3 : (if v = P then (1 : Int) else 0) = 0 := if_neg (fun e => h1 e.symm)
    rw [h3]
    split <;> omega
theorem mark_self {m : List Bool} {v : Nat} (h : v < m.length) : (m.set v true).getD v false = true := by
  rw [getD_set, if_pos ⟨rfl, h⟩]
theorem br_ne {m : List Bool} {b : Int × Int} (hB : BrOk n cs m b) : (otherN (cs.getD b.1.toNat cn0) b.2).toNat ≠ b.2.toNat := fun e => by
  have := hB.new
  rw [← e, hB.old] at this
  cases this
/-- Two walks whose draws differ at two nodes. -/
theorem back_diff {D : Int} {P0 R0 : Nat} : ∀ (l : List (Int × Int)) (m : List Bool) (s s' : List Int × List Int), m.length = n → s.2.length = n → s'.2.length = n → TreeOk n cs m l →
    (∀ u : Nat, s'.2.getD u 0 = s.2.getD u 0 + D * (dl u P0 - dl u R0)) →
    ∀ u : Nat, m.getD u false = true → (backL cs l s').2.getD u 0 = (backL cs l s).2.getD u 0 + D * (dl u (rootN cs l P0) - dl u (rootN cs l R0))
  | [], m, s, s', _, _, _, _, hs, u, _ => hs u
  | b :: r, m, s, s', hm, a3, a4, ht, hs, u, hu => by
    obtain ⟨hB, ht2⟩ := ht
    have v0 := hB.v0; have v1 := hB.v1; have o0 := hB.o0; have o1 := hB.o1
    have ih := back_diff r (m.set b.2.toNat true) s s' (by simpa using hm) a3 a4 ht2 hs
    have gu := ih u (mark_mono hu)
    have gv := ih b.2.toNat (mark_self (by omega))
    have hl1 : (backL cs r s).2.length = n := by rw [(backL_len cs r s).2, a3]
    have hl2 : (backL cs r s').2.length = n := by rw [(backL_len cs r s').2, a4]
    have huv : u ≠ b.2.toNat := fun e => by
      have := hB.new
      rw [← e, hu] at this
      cases this
    rw [rootN, rootN, dl_step _ _ _ _ huv, dl_step _ _ _ _ huv]
    show ((backL cs r s').2.set _ _).getD u 0 = ((backL cs r s).2.set _ _).getD u 0 + _
    rw [getD_setI, getD_setI]
    by_cases huo : u = (otherN (cs.getD b.1.toNat cn0) b.2).toNat
    · rw [if_pos ⟨huo, by omega⟩, if_pos ⟨huo, by omega⟩, if_pos huo, if_pos huo, ← huo, gu, gv]
      simp only [Int.mul_sub, Int.mul_add]
      omega
    · rw [if_neg (fun h => huo h.1), if_neg (fun h => huo h.1), if_neg huo, if_neg huo, gu]
      simp only [Int.add_zero]
theorem dl_cases (u p q : Nat) : dl u p - dl u q = 0 ∧ (u = p ↔ u = q) ∨ dl u p - dl u q = 1 ∧ u = p ∧ u ≠ q ∨ dl u p - dl u q = -1 ∧ u ≠ p ∧ u = q := by
  unfold dl
  by_cases h1 : u = p <;> by_cases h2 : u = q
  · rw [if_pos h1, if_pos h2]; exact .inl ⟨rfl, fun _ => h2, fun _ => h1⟩
  · rw [if_pos h1, if_neg h2]; exact .inr (.inl ⟨rfl, h1, h2⟩)
  · rw [if_neg h1, if_pos h2]; exact .inr (.inr ⟨rfl, h1, h2⟩)
  · rw [if_neg h1, if_neg h2]; exact .inl ⟨rfl, fun h => absurd h h1, fun h => absurd h h2⟩
/-- All flows differ by no more than the draws do. -/
theorem flow_diff {D : Int} {P0 R0 : Nat} (hD : 0 ≤ D) : ∀ (l : List (Int × Int)) (m : List Bool) (s s' : List Int × List Int), m.length = n → s.2.length = n → s'.2.length = n → s'.1.length = s.1.length → TreeOk n cs m l →
    (∀ u : Nat, s'.2.getD u 0 = s.2.getD u 0 + D * (dl u P0 - dl u R0)) → (∀ i : Nat, -D ≤ s'.1.getD i 0 - s.1.getD i 0 ∧ s'.1.getD i 0 - s.1.getD i 0 ≤ D) →
    ∀ i : Nat, -D ≤ (backL cs l s').1.getD i 0 - (backL cs l s).1.getD i 0 ∧ (backL cs l s').1.getD i 0 - (backL cs l s).1.getD i 0 ≤ D
  | [], m, s, s', _, _, _, _, _, _, hf, i => hf i
  | b :: r, m, s, s', hm, a3, a4, a5, ht, hs, hf, i => by
    obtain ⟨hB, ht2⟩ := ht
    have v0 := hB.v0; have v1 := hB.v1
    have hm' : (m.set b.2.toNat true).length = n := by simpa using hm
    have ih := flow_diff hD r _ s s' hm' a3 a4 a5 ht2 hs hf i
    have gv := back_diff r _ s s' hm' a3 a4 ht2 hs b.2.toNat (mark_self (by omega))
    show -D ≤ ((backL cs r s').1.set _ _).getD i 0 - ((backL cs r s).1.set _ _).getD i 0 ∧ ((backL cs r s').1.set _ _).getD i 0 - ((backL cs r s).1.set _ _).getD i 0 ≤ D
    rw [getD_setI, getD_setI, (backL_len cs r s).1, (backL_len cs r s').1, a5]
    split
    · have hd : -D ≤ (backL cs r s').2.getD b.2.toNat 0 - (backL cs r s).2.getD b.2.toNat 0 ∧ (backL cs r s').2.getD b.2.toNat 0 - (backL cs r s).2.getD b.2.toNat 0 ≤ D := by
        rw [gv]
        rcases dl_cases b.2.toNat (rootN cs r P0) (rootN cs r R0) with ⟨e, _⟩ | ⟨e, _⟩ | ⟨e, _⟩
        · rw [e, Int.mul_zero]; omega
        · rw [e, Int.mul_one]; omega
        · rw [e, Int.mul_neg, Int.mul_one]; omega
      unfold signN
      split <;> omega
    · exact ih

/-- What is lost on the way up. -/
def climb (cs : List Cn) (F : List Int) : List (Int × Int) → Nat → Int
  | [], _ => 0
  | b :: r, P => climb cs F r P + (if rootN cs r P = b.2.toNat then lossF (cs.getD b.1.toNat cn0).res (signN (cs.getD b.1.toNat cn0) b.2 * F.getD b.1.toNat 0) else 0)
theorem fore_climb {F : List Int} {P : Nat} : ∀ (l : List (Int × Int)) (m : List Bool) (h : List Int), h.length = n → TreeOk n cs m l → (foreL cs F l h).getD P 0 = h.getD (rootN cs l P) 0 - climb cs F l P
  | [], m, h, _, _ => by rw [foreL, rootN, climb, Int.sub_zero]
  | b :: r, m, h, hh, ht => by
    obtain ⟨hB, ht2⟩ := ht
    have v0 := hB.v0; have v1 := hB.v1
    have ih := fore_climb r _ (stepH cs F b h) (by simpa [stepH] using hh) ht2 (P := P) (F := F)
    rw [foreL, ih, rootN, climb]
    by_cases e : rootN cs r P = b.2.toNat
    · rw [if_pos e, if_pos e, e]
      unfold stepH
      rw [getD_setI, if_pos ⟨rfl, by omega⟩]
      omega
    · rw [if_neg e, if_neg e]
      unfold stepH
      rw [getD_setI, if_neg (fun h => e h.1)]
      omega
/-- Losses at flows that are all shifted by the same number. -/
def gsum : List (Int × Int) → Int → Int
  | [], _ => 0
  | x :: r, q => lossF x.1 (q + x.2) + gsum r q
/-- The conduits of the loop, with what they carry in its direction. -/
def cyc (cs : List Cn) (s : List Int × List Int) (P R : Nat) : List (Int × Int) → List (Int × Int)
  | [] => []
  | b :: r => ((if dl b.2.toNat (rootN cs r P) - dl b.2.toNat (rootN cs r R) = 0 then 0 else (cs.getD b.1.toNat cn0).res), (dl b.2.toNat (rootN cs r P) - dl b.2.toNat (rootN cs r R)) * (backL cs r s).2.getD b.2.toNat 0) :: cyc cs s P R r
theorem sgn_sgn (c : Cn) (v x : Int) : signN c v * (signN c v * x) = x := by unfold signN; split <;> omega
theorem loss_zero (f : Int) : lossF 0 f = 0 := by unfold lossF; rw [Int.zero_mul, Int.zero_mul]
theorem climb_cyc {D : Int} {P R : Nat} (hr : inR n cs) : ∀ (l : List (Int × Int)) (m : List Bool) (s s' : List Int × List Int) (F : List Int), m.length = n → s'.1.length = cs.length → s.2.length = n → s'.2.length = n → TreeOk n cs m l →
    (∀ u : Nat, s'.2.getD u 0 = s.2.getD u 0 + D * (dl u P - dl u R)) → (∀ x ∈ l, F.getD x.1.toNat 0 = (backL cs l s').1.getD x.1.toNat 0) →
    climb cs F l P - climb cs F l R = gsum (cyc cs s P R l) D
  | [], m, s, s', F, _, _, _, _, _, _, _ => by simp [climb, cyc, gsum]
  | b :: r, m, s, s', F, hm, a1, a3, a4, ht, hs, hF => by
    have hd := tree_dist hm hr ht
    have hrg := tree_range r _ ht.2
    have fb := back_flow_at a1 ht
    obtain ⟨hB, ht2⟩ := ht
    have v0 := hB.v0; have v1 := hB.v1; have i0 := hB.i0
    have hm' : (m.set b.2.toNat true).length = n := by simpa using hm
    have hFr : ∀ x ∈ r, F.getD x.1.toNat 0 = (backL cs r s').1.getD x.1.toNat 0 := fun x hx => by
      rw [hF x (by simp [hx])]
      show ((backL cs r s').1.set _ _).getD _ 0 = _
      rw [getD_setI, if_neg]
      rintro ⟨e, _⟩
      have := (hrg x hx).1
      exact hd x hx (by omega)
    have ih := climb_cyc hr r _ s s' F hm' a1 a3 a4 ht2 hs hFr
    have gv := back_diff r _ s s' hm' a3 a4 ht2 hs b.2.toNat (mark_self (by omega))
    rw [climb, climb, cyc, gsum, ← ih, hF b (by simp), fb, sgn_sgn, gv]
    rcases dl_cases b.2.toNat (rootN cs r P) (rootN cs r R) with ⟨e, h⟩ | ⟨e, h1, h2⟩ | ⟨e, h1, h2⟩
    · rw [e, if_pos rfl, loss_zero]
      by_cases h3 : b.2.toNat = rootN cs r P
      · rw [if_pos h3.symm, if_pos (h.1 h3).symm]; omega
      · rw [if_neg (fun h4 => h3 h4.symm), if_neg (fun h4 => h3 (h.2 h4.symm))]; omega
    · rw [e, if_pos h1.symm, if_neg (fun h4 => h2 h4.symm), Int.mul_one]
      show _ = lossF (cs.getD b.1.toNat cn0).res (D + 1 * (backL cs r s).2.getD b.2.toNat 0) + _
      rw [Int.one_mul, Int.add_comm D]; omega
    · rw [e, if_neg (fun h4 => h1 h4.symm), if_pos h2.symm]
      have h5 := loss_neg (cs.getD b.1.toNat cn0).res ((backL cs r s).2.getD b.2.toNat 0 + D * -1)
      show _ = lossF (cs.getD b.1.toNat cn0).res (D + -1 * (backL cs r s).2.getD b.2.toNat 0) + _
      rw [show D + -1 * (backL cs r s).2.getD b.2.toNat 0 = -((backL cs r s).2.getD b.2.toNat 0 + D * -1) by omega, h5]
      omega
theorem cyc_bd {s : List Int × List Int} {P R : Nat} {S : Int} (hcs : ∀ c ∈ cs, 0 ≤ c.res) (hs : s.2.length = n) (hS : sumA s.2 ≤ S) : ∀ (l : List (Int × Int)) (m : List Bool), m.length = n → TreeOk n cs m l →
    ∀ x ∈ cyc cs s P R l, 0 ≤ x.1 ∧ -S ≤ x.2 ∧ x.2 ≤ S
  | [], m, _, _, x, hx => by simp [cyc] at hx
  | b :: r, m, hm, ht, x, hx => by
    obtain ⟨hB, ht2⟩ := ht
    have v0 := hB.v0; have v1 := hB.v1; have i0 := hB.i0; have i1 := hB.i1
    have hm' : (m.set b.2.toNat true).length = n := by simpa using hm
    rcases List.mem_cons.1 hx with rfl | hx
    · have h1 := back_sum r _ s hm' hs ht2
      have h2 := sumM_mem _ (backL cs r s).2 b.2.toNat (by rw [(backL_len cs r s).2]; omega) (by omega) (mark_self (m := m) (v := b.2.toNat) (by omega))
      have h3 := absI_le (Int.le_trans h2 (Int.le_trans h1 hS))
      have h4 := hcs (cs.getD b.1.toNat cn0) (mem_getD (by omega))
      refine ⟨?_, ?_⟩
      · show 0 ≤ (if _ then (0 : Int) else _)
        split <;> omega
      · show -S ≤ _ * _ ∧ _ * _ ≤ S
        rcases dl_cases b.2.toNat (rootN cs r P) (rootN cs r R) with ⟨e, _⟩ | ⟨e, _⟩ | ⟨e, _⟩ <;> rw [e] <;> omega
    · exact cyc_bd hcs hs hS r _ hm' ht2 x hx
end

theorem gsum_mono : ∀ (L : List (Int × Int)) {q q' : Int}, (∀ x ∈ L, 0 ≤ x.1) → q ≤ q' → gsum L q ≤ gsum L q'
  | [], q, q', _, _ => Int.le_refl _
  | x :: r, q, q', h, hq => by
    have ih := gsum_mono r (fun y hy => h y (by simp [hy])) hq
    have := loss_mono (h x (by simp)) (show q + x.2 ≤ q' + x.2 by omega)
    rw [gsum, gsum]; omega
theorem loss_ge {r f B : Int} (hr : 1 ≤ r) (hB : 0 ≤ B) (h : B ≤ f) : B * B ≤ lossF r f := by
  have e : sizeF f = f := by unfold sizeF; split <;> omega
  unfold lossF
  rw [e]
  have h1 : B * B ≤ f * f := Int.mul_le_mul h h hB (by omega)
  have h2 : 1 * (f * f) ≤ r * (f * f) := Int.mul_le_mul_of_nonneg_right hr (Int.mul_nonneg (by omega) (by omega))
  rw [Int.mul_assoc]; omega
theorem sq_size_strict {f g : Int} (h : f < g) : f * sizeF f < g * sizeF g := by
  have a := sq_size_mono (show f ≤ g - 1 by omega)
  have b : (g - 1) * sizeF (g - 1) < g * sizeF g := by
    by_cases hg : 1 ≤ g
    · have e1 : sizeF (g - 1) = g - 1 := by unfold sizeF; split <;> omega
      have e2 : sizeF g = g := by unfold sizeF; split <;> omega
      rw [e1, e2]
      have : (g - 1) * (g - 1) ≤ (g - 1) * g := Int.mul_le_mul_of_nonneg_left (by omega) (by omega)
      rw [Int.sub_mul (g) 1 g] at this
      omega
    · have e1 : sizeF (g - 1) = -(g - 1) := by unfold sizeF; split <;> omega
      have e2 : sizeF g = -g := by unfold sizeF; split <;> omega
      rw [e1, e2, Int.mul_neg, Int.mul_neg]
      have h1 : g * g = (-g) * (-g) := (Int.neg_mul_neg g g).symm
      have h2 : (g - 1) * (g - 1) = (-g + 1) * (-g + 1) := by
        rw [show g - 1 = -(-g + 1) by omega, Int.neg_mul_neg]
      have h3 : (-g) * (-g) ≤ (-g + 1) * (-g) := Int.mul_le_mul_of_nonneg_right (by omega) (by omega)
      have h4 : (-g + 1) * (-g) + (-g + 1) = (-g + 1) * (-g + 1) := by rw [Int.mul_add, Int.mul_one]
      omega
  omega
theorem loss_strict {r f g : Int} (hr : 1 ≤ r) (h : f < g) : lossF r f < lossF r g := by
  unfold lossF
  rw [Int.mul_assoc, Int.mul_assoc]
  exact Int.mul_lt_mul_of_pos_left (sq_size_strict h) (by omega)
/-- Either the sum is 0 at all flows, or it grows strictly, and far. -/
theorem gsum_two : ∀ (L : List (Int × Int)), (∀ x ∈ L, 0 ≤ x.1 ∧ -100000 ≤ x.2 ∧ x.2 ≤ 100000) →
    (∀ q, gsum L q = 0) ∨ ((∀ q q', q < q' → gsum L q < gsum L q') ∧ 10000000000 ≤ gsum L 200000 ∧ gsum L (-200000) ≤ -10000000000)
  | [], _ => .inl fun _ => rfl
  | x :: r, h => by
    have hx := h x (by simp)
    have hr : ∀ y ∈ r, 0 ≤ y.1 ∧ -100000 ≤ y.2 ∧ y.2 ≤ 100000 := fun y hy => h y (by simp [hy])
    have ih := gsum_two r hr
    by_cases e : x.1 = 0
    · have e2 : ∀ q, gsum (x :: r) q = gsum r q := fun q => by rw [gsum, e, loss_zero, Int.zero_add]
      rcases ih with ih | ⟨a, b, c⟩
      · exact .inl fun q => by rw [e2, ih]
      · exact .inr ⟨fun q q' hq => by rw [e2, e2]; exact a q q' hq, by rw [e2]; exact b, by rw [e2]; exact c⟩
    · have m := fun q q' (hq : q ≤ q') => gsum_mono r (fun y hy => (hr y hy).1) hq
      have p := loss_ge (r := x.1) (f := 200000 + x.2) (B := 100000) (by omega) (by omega) (by omega)
      have n := loss_ge (r := x.1) (f := -(-200000 + x.2)) (B := 100000) (by omega) (by omega) (by omega)
      rw [loss_neg] at n
      have m1 : 0 ≤ gsum r 200000 := by rcases ih with ih | ⟨_, b, _⟩; rw [ih]; exact Int.le_refl _; omega
      have m2 : gsum r (-200000) ≤ 0 := by rcases ih with ih | ⟨_, _, b⟩; rw [ih]; exact Int.le_refl _; omega
      refine .inr ⟨fun q q' hq => ?_, ?_, ?_⟩
      · have := loss_strict (r := x.1) (by omega) (show q + x.2 < q' + x.2 by omega)
        have := m q q' (by omega)
        rw [gsum, gsum]; omega
      · rw [gsum]; omega
      · rw [gsum]; omega

theorem st0_sum0 {N : Net} {b : List (Int × Int)} {c : Int} (hS : StOk N b c) : sumA (st0 N c 0).2 ≤ 100000 := by
  have h := sumA_le (B := 10000) (drawsL N) fun i => absI_of (drawsL_bd hS.dr i)
  rw [drawsL_len] at h
  have := hS.n1
  unfold st0
  split
  · show sumA (drawsL N) ≤ _
    omega
  · have h1 := sumA_set (drawsL N) (N.cs.getD c.toNat cn0).fr.toNat 0
    have h2 := sumA_set ((drawsL N).set (N.cs.getD c.toNat cn0).fr.toNat ((drawsL N).getD (N.cs.getD c.toNat cn0).fr.toNat 0 + 0)) (N.cs.getD c.toNat cn0).to.toNat 0
    have e : absI 0 = 0 := rfl
    show sumA (((drawsL N).set _ _).set _ (_ - 0)) ≤ _
    rw [Int.sub_zero]
    rw [Int.add_zero (List.getD _ (N.cs.getD c.toNat cn0).to.toNat 0)] at h2
    omega
/-- The gap, as a sum. -/
theorem gap_form {N : Net} {b : List (Int × Int)} {c : Int} (hS : StOk N b c) (hc : 0 ≤ c) (hne : (N.cs.getD c.toNat cn0).fr ≠ (N.cs.getD c.toNat cn0).to) :
    ∃ (L : List (Int × Int)) (K : Int), (∀ x ∈ L, 0 ≤ x.1 ∧ -100000 ≤ x.2 ∧ x.2 ≤ 100000) ∧ -1000000000 ≤ K ∧ K ≤ 1000000000 ∧ ∀ q, gapF N b c q = gsum L q - K := by
  have hcl := hS.cl
  have hb := headsL_bd hS.hd
  have hcs : ∀ c ∈ N.cs, 0 ≤ c.res := fun c hc => (hS.res c hc).1
  obtain ⟨P, hP⟩ : ∃ P, P = (N.cs.getD c.toNat cn0).fr.toNat := ⟨_, rfl⟩
  obtain ⟨R, hR⟩ : ∃ R, R = (N.cs.getD c.toNat cn0).to.toNat := ⟨_, rfl⟩
  refine ⟨((N.cs.getD c.toNat cn0).res, 0) :: cyc N.cs (st0 N c 0) P R b, (headsL N).getD (rootN N.cs b P) 0 - (headsL N).getD (rootN N.cs b R) 0, ?_, ?_, ?_, fun q => ?_⟩
  · intro x hx
    rcases List.mem_cons.1 hx with rfl | hx
    · exact ⟨hcs _ (mem_getD (by omega)), by show (-100000 : Int) ≤ 0; decide, by show (0 : Int) ≤ 100000; decide⟩
    · exact cyc_bd hcs (st0_len1 N c 0) (st0_sum0 hS) b _ (lakesB_len N) hS.tr x hx
  · have hh : ∀ n ∈ N.ns, 0 ≤ n.head := fun n hn => (hS.hd n hn).1
    have h0 : ∀ i, 0 ≤ (headsL N).getD i 0 ∧ (headsL N).getD i 0 ≤ 1000000000 := fun i =>
      getD_bdI (fun x hx => by obtain ⟨n, hn, rfl⟩ := List.mem_map.1 hx; have := hS.hd n hn; omega) (by omega) (by omega) i
    have h1 := h0 (rootN N.cs b P)
    have h2 := h0 (rootN N.cs b R)
    omega
  · have h0 : ∀ i, 0 ≤ (headsL N).getD i 0 ∧ (headsL N).getD i 0 ≤ 1000000000 := fun i =>
      getD_bdI (fun x hx => by obtain ⟨n, hn, rfl⟩ := List.mem_map.1 hx; have := hS.hd n hn; omega) (by omega) (by omega) i
    have h1 := h0 (rootN N.cs b P)
    have h2 := h0 (rootN N.cs b R)
    omega
  · have hd := fun u => st0_diff (q := 0) (q' := q) hS.ends hc hcl hne u
    simp only [Int.sub_zero, ← hP, ← hR] at hd
    have h1 := climb_cyc hS.ends b _ (st0 N c 0) (st0 N c q) (backL N.cs b (st0 N c q)).1 (lakesB_len N) (st0_len0 N c q) (st0_len1 N c 0) (st0_len1 N c q) hS.tr hd (fun _ _ => rfl)
    have h2 := fore_climb (F := (backL N.cs b (st0 N c q)).1) (P := P) b _ (headsL N) (headsL_len N) hS.tr
    have h3 := fore_climb (F := (backL N.cs b (st0 N c q)).1) (P := R) b _ (headsL N) (headsL_len N) hS.tr
    unfold gapF stateF
    rw [← hP, ← hR]
    show lossF _ q - ((foreL _ _ _ _).getD P 0 - (foreL _ _ _ _).getD R 0) = _
    rw [h2, h3, gsum]
    show _ = lossF (N.cs.getD c.toNat cn0).res (q + 0) + gsum (cyc N.cs (st0 N c 0) P R b) q - _
    rw [← h1, Int.add_zero]
    omega

/-- Is the gap the same everywhere? -/
def flatB (N : Net) (b : List (Int × Int)) (c : Int) : Bool := decide (gapF N b c (-200000) = gapF N b c 200000)
theorem gap_flat {N : Net} {b : List (Int × Int)} {c : Int} (hS : StOk N b c) (hc : 0 ≤ c) (hne : (N.cs.getD c.toNat cn0).fr ≠ (N.cs.getD c.toNat cn0).to) (h : flatB N b c = false) :
    (∀ q q', q < q' → gapF N b c q < gapF N b c q') ∧ 0 < gapF N b c 200000 ∧ gapF N b c (-200000) < 0 := by
  obtain ⟨L, K, h1, h2, h3, h4⟩ := gap_form hS hc hne
  have hf := of_decide_eq_false h
  rw [h4, h4] at hf
  rcases gsum_two L h1 with g | ⟨a, b, c⟩
  · rw [g, g] at hf; exact absurd rfl hf
  · refine ⟨fun q q' hq => ?_, ?_, ?_⟩
    · rw [h4, h4]; have := a q q' hq; omega
    · rw [h4]; omega
    · rw [h4]; omega
/-- The circulation. -/
def circHi (N : Net) (b : List (Int × Int)) (c : Int) : Int := leastF (fun q => decide (gapF N b c q ≥ 0)) 19 (-200000) 200000
def circF (N : Net) (b : List (Int × Int)) (c : Int) : Int × Int :=
  if c < 0 then (0, 0) else if gapF N b c (circHi N b c) = 0 then (circHi N b c, circHi N b c) else (circHi N b c - 1, circHi N b c)
theorem circ_spec {N : Net} {b : List (Int × Int)} {c : Int} (hS : StOk N b c) (hc : 0 ≤ c) (hne : (N.cs.getD c.toNat cn0).fr ≠ (N.cs.getD c.toNat cn0).to) (h : flatB N b c = false) :
    -200000 < circHi N b c ∧ circHi N b c ≤ 200000 ∧ 0 ≤ gapF N b c (circHi N b c) ∧ gapF N b c (circHi N b c - 1) < 0 := by
  obtain ⟨g1, g2, g3⟩ := gap_flat hS hc hne h
  have hm := leastF_mem (fun q => decide (gapF N b c q ≥ 0)) 19 (-200000) 200000 (by omega)
  have hl := leastF_least (fun q => decide (gapF N b c q ≥ 0)) (-200000) 200000 (fun x y _ h1 _ h2 => by
    have h2 := of_decide_eq_true h2
    have := gap_mono hS hc hne h1
    exact decide_eq_true (by omega)) 19 (-200000) 200000 (by omega) (by omega) (by omega) (by decide)
  change -200000 ≤ circHi N b c ∧ circHi N b c ≤ 200000 at hm
  change (∀ x, -200000 ≤ x → x < circHi N b c → _) ∧ (circHi N b c < 200000 → decide (gapF N b c (circHi N b c) ≥ 0) = true) at hl
  have h1 : 0 ≤ gapF N b c (circHi N b c) := by
    by_cases e : circHi N b c < 200000
    · exact of_decide_eq_true (hl.2 e)
    · rw [show circHi N b c = 200000 by omega]; omega
  have h2 : -200000 < circHi N b c := by
    rcases Int.lt_or_le (-200000) (circHi N b c) with h | h
    · exact h
    · rw [show circHi N b c = -200000 by omega] at h1; omega
  refine ⟨h2, hm.2, h1, ?_⟩
  have := of_decide_eq_false (hl.1 (circHi N b c - 1) (by omega) (by omega))
  omega
/-- By two signs alone. -/
def provesB (N : Net) (b : List (Int × Int)) (c : Int) (x : Int × Int) : Bool :=
  if c < 0 then decide (x = (0, 0)) else if x.1 = x.2 then decide (gapF N b c x.1 = 0) else decide (x.2 = x.1 + 1 ∧ gapF N b c x.1 < 0 ∧ gapF N b c x.2 > 0)
theorem proves_iff {N : Net} {b : List (Int × Int)} {c : Int} (hS : StOk N b c) (hne : 0 ≤ c → (N.cs.getD c.toNat cn0).fr ≠ (N.cs.getD c.toNat cn0).to) (h : 0 ≤ c → flatB N b c = false) (x : Int × Int) :
    provesB N b c x = true ↔ x = circF N b c := by
  unfold provesB circF
  by_cases hc : c < 0
  · rw [if_pos hc, if_pos hc]; exact decide_eq_true_iff
  · have hc0 : 0 ≤ c := by omega
    rw [if_neg hc, if_neg hc]
    obtain ⟨g1, g2, g3⟩ := gap_flat hS hc0 (hne hc0) (h hc0)
    obtain ⟨c1, c2, c3, c4⟩ := circ_spec hS hc0 (hne hc0) (h hc0)
    have inj : ∀ q q', gapF N b c q = gapF N b c q' → q = q' := fun q q' e => by
      rcases Int.lt_trichotomy q q' with h | h | h
      · have := g1 q q' h; omega
      · exact h
      · have := g1 q' q h; omega
    have lt : ∀ q q', gapF N b c q < gapF N b c q' → q < q' := fun q q' e => by
      rcases Int.lt_or_le q q' with h | h
      · exact h
      · have := gap_mono hS hc0 (hne hc0) h; omega
    obtain ⟨lo, hi⟩ := x
    simp only
    by_cases hz : gapF N b c (circHi N b c) = 0
    · rw [if_pos hz]
      by_cases e : lo = hi
      · rw [if_pos e, decide_eq_true_iff]
        subst e
        constructor
        · intro h1
          have := inj lo (circHi N b c) (by omega)
          rw [this]
        · intro h1
          injection h1 with h1 h2
          rw [h1]; exact hz
      · rw [if_neg e, decide_eq_true_iff]
        constructor
        · rintro ⟨h1, h2, h3⟩
          have := lt lo (circHi N b c) (by omega)
          have := lt (circHi N b c) hi (by omega)
          omega
        · intro h1
          injection h1 with h1 h2
          omega
    · rw [if_neg hz]
      by_cases e : lo = hi
      · rw [if_pos e, decide_eq_true_iff]
        subst e
        constructor
        · intro h1
          have := lt lo (circHi N b c) (by omega)
          have := lt (circHi N b c - 1) lo (by omega)
          omega
        · intro h1
          injection h1 with h1 h2
          omega
      · rw [if_neg e, decide_eq_true_iff]
        constructor
        · rintro ⟨h1, h2, h3⟩
          have a := lt lo (circHi N b c) (by omega)
          have d := lt (circHi N b c - 1) hi (by omega)
          rw [Prod.mk.injEq]; omega
        · intro h1
          injection h1 with h1 h2
          subst h1 h2
          exact ⟨by omega, c4, by omega⟩
end Go.Tr

/- Contracts of chapter 2: circulation, steady state. Conditions: none. -/
namespace Go.Tr
open Go Go.Proofs
set_option maxRecDepth 20000
set_option maxHeartbeats 8000000

/-- The search by halves, from any number on, over a closure with one part. -/
theorem S84c (g : FuncId) (l1 : List AV) (p : Int → Bool) (a b : Int) (n : Nat) (ha : -4000000000000000000 ≤ a) (hb : b ≤ 4000000000000000000) (hn : (b - a).toNat < 2 ^ n)
    (hp : ∀ x, a ≤ x → x < b → SP g [i64 x, .rptr l1] (vb (p x)) false) : SP 84 [i64 a, i64 b, .func (.func g) 0 [.rptr l1]] (i64 (leastF p n a b)) false := by
  refine sound (d := 2) tok2 mixed2 Try.func84 (by kernel_rfl) (by kernel_rfl) ?_
  refine ⟨[], [0, 1, 2], fun s m => ∃ (n' : Nat) (a' b' : Int), a ≤ a' ∧ b' ≤ b ∧ (b' - a').toNat < 2 ^ n' ∧ leastF p n' a' b' = leastF p n a b ∧ s = ⟨[(0, i64 a'), (1, i64 b'), (2, .func (.func g) 0 [.rptr l1])], ⟨[], [], none, 0⟩, []⟩ ∧ m = n',
    ⟨_, _, ⟨n, a, b, by omega, by omega, hn, rfl, rfl, rfl⟩, ⟨⟨rfl, rfl, rfl, rfl⟩, trivial, trivial⟩⟩, ?_⟩
  rintro s0 m0 ⟨n', a', b', h1, h2, h3, h4, rfl, hm0⟩
  refine ifB_intro (fun hc => ?_) (fun hc => ?_)
  · have hlt : a' < b' := of_decide_eq_true hc
    obtain ⟨k, rfl⟩ : ∃ k, n' = k + 1 := by
      cases n' with
      | zero => simp at h3; omega
      | succ k => exact ⟨k, rfl⟩
    have ht : (b' - a').tdiv 2 = (b' - a') / 2 := Int.tdiv_eq_ediv_of_nonneg (by omega)
    have hs : (b' - a').toNat < 2 ^ k * 2 := by rw [← Nat.pow_succ]; exact h3
    refine ⟨inK64 (by omega) (by omega), ?_⟩
    refine ⟨⟨by omega, inK64 (by omega) (by omega)⟩, ?_⟩
    refine ⟨inK64 (by omega) (by omega), ?_⟩
    refine .inl ⟨_, _, byS (d := 2) (hp (a' + (b' - a').tdiv 2) (by omega) (by omega)), ?_⟩
    rw [leastF, if_pos hlt] at h4
    rw [← ht] at h4
    refine ifB_intro (fun hx => ?_) (fun hx => ?_)
    · rw [hx, cond_true] at h4
      refine ⟨_, _, ⟨⟨k, a', a' + (b' - a').tdiv 2, by omega, by omega, by omega, h4, rfl, rfl⟩, by omega⟩, ⟨⟨rfl, rfl, rfl, rfl⟩, trivial, trivial⟩⟩
    · rw [hx, cond_false] at h4
      refine ⟨inK64 (by omega) (by omega), ?_⟩
      refine ⟨_, _, ⟨⟨k, a' + (b' - a').tdiv 2 + 1, b', by omega, by omega, by omega, h4, rfl, rfl⟩, by omega⟩, ⟨⟨rfl, rfl, rfl, rfl⟩, trivial, trivial⟩⟩
  · have hlt : ¬ a' < b' := of_decide_eq_false hc
    have h5 : leastF p n' a' b' = a' := by cases n' <;> simp [leastF, hlt]
    refine ⟨?_, nofun⟩
    show i64 _ = i64 _
    rw [← h4, h5]

theorem S71_4 (a b c d : Int) (f : Nat → List AV) (h : f 0 = [i64 a] ∧ f 1 = [i64 b] ∧ f 2 = [i64 c] ∧ f 3 = [i64 d]) : SP 71 [.rslice 1 4 f] (i64 (firstOf [a, b, c, d])) false :=
  S71f [a, b, c, d] f (Nat.le_of_ble_eq_true rfl) fun i hi => match i, hi with | 0, _ => h.1 | 1, _ => h.2.1 | 2, _ => h.2.2.1 | 3, _ => h.2.2.2

theorem vbE {k : Nat} {a b : Bool} (h : a = b) : AVE (k + 1) (.val (.bool a)) (vb b) := by subst h; rfl
/-- A net with a closing conduit and no circulation. -/
def flatQ (N : Net) (b : List (Int × Int)) (c : Int) : Bool := if 0 ≤ c then flatB N b c else false
theorem S108 (N : Net) (b : List (Int × Int)) (c : Int) (hS : StOk N b c) : SP 108 [treeA N b c] (vb (flatQ N b c)) false := by
  unfold flatQ
  by_cases hc : 0 ≤ c
  · rw [if_pos hc]
    have h1 := S102 N b c (-200000) hS (by omega) hc
    have h2 := S102 N b c 200000 hS (by omega) hc
    refine sound (d := 2) tok2 mixed2 Try.func108 (by kernel_rfl) (by kernel_rfl) ?_
    conv => whnf
    refine ⟨[], by kernel_rfl, ?_⟩
    conv => whnf
    refine ifB_dec (fun w1 => ?_) (fun w1 => ?_)
    · conv => whnf
      refine .inl ⟨_, _, byX rfl (Sound1.pl (h1) rfl), ?_⟩
      conv => whnf
      refine .inl ⟨_, _, byX rfl (Sound1.pl (h2) rfl), ?_⟩
      conv => whnf
      refine ⟨?_, nofun⟩
      show vb _ = vb _
      rfl
    · (exfalso; omega)
  · rw [if_neg hc]
    refine sound (d := 2) tok2 mixed2 Try.func108 (by kernel_rfl) (by kernel_rfl) ?_
    conv => whnf
    refine ⟨[], by kernel_rfl, ?_⟩
    conv => whnf
    refine ifB_dec (fun w1 => ?_) (fun w1 => ?_)
    · (exfalso; omega)
    · conv => whnf
      refine ⟨?_, nofun⟩
      rfl
theorem S141 (N : Net) (b : List (Int × Int)) (c q : Int) (hS : StOk N b c) (hq : -200000 ≤ q ∧ q ≤ 200000) (hc : 0 ≤ c) : SP 141 [i64 q, .rptr [listA 4 ndC nd0 N.ns, listA 6 cnC cn0 N.cs, brA b, i64 c]] (vb (decide (gapF N b c q ≥ 0))) false := by
  have h1 := S102 N b c q hS hq hc
  refine sound (d := 2) tok2 mixed2 Try.func141 (by kernel_rfl) (by kernel_rfl) ?_
  conv => whnf
  refine .inl ⟨_, _, byX rfl (Sound1.pl (h1) rfl), ?_⟩
  conv => whnf
  refine ⟨?_, nofun⟩
  rfl
theorem circHi_mem (N : Net) (b : List (Int × Int)) (c : Int) : -200000 ≤ circHi N b c ∧ circHi N b c ≤ 200000 := leastF_mem _ 19 (-200000) 200000 (by omega)
theorem S107 (N : Net) (b : List (Int × Int)) (c : Int) (hS : StOk N b c) : SP 107 [treeA N b c] (rngA (circF N b c)) false := by
  unfold circF
  by_cases hc : c < 0
  · rw [if_pos hc]
    refine sound (d := 2) tok2 mixed2 Try.func107 (by kernel_rfl) (by kernel_rfl) ?_
    conv => whnf
    refine ifB_dec (fun w1 => ?_) (fun w1 => ?_)
    · conv => whnf
      refine ⟨?_, nofun⟩
      exact ave2 _ _
    · (exfalso; omega)
  · rw [if_neg hc]
    have hm := circHi_mem N b c
    have h1 : SP 84 [i64 (-200000), i64 200000, .func (.func 141) 0 [.rptr [listA 4 ndC nd0 N.ns, listA 6 cnC cn0 N.cs, brA b, i64 c]]] (i64 (circHi N b c)) false :=
      S84c 141 _ _ (-200000) 200000 19 (by omega) (by omega) (by decide) fun x h1 h2 => S141 N b c x hS (by omega) (by omega)
    have h2 := S102 N b c (circHi N b c) hS hm (by omega)
    refine sound (d := 2) tok2 mixed2 Try.func107 (by kernel_rfl) (by kernel_rfl) ?_
    conv => whnf
    refine ifB_dec (fun w1 => ?_) (fun w1 => ?_)
    · (exfalso; omega)
    · conv => whnf
      refine .inl ⟨_, _, byX rfl (Sound1.pl (h1) rfl), ?_⟩
      conv => whnf
      refine .inl ⟨_, _, byX rfl (Sound1.pl (h2) rfl), ?_⟩
      conv => whnf
      refine ifB_beq (fun w2 => ?_) (fun w2 => ?_)
      · conv => whnf
        refine ⟨?_, nofun⟩
        rw [if_pos w2]; exact ave2 _ _
      · conv => whnf
        refine ⟨inK64 (by omega) (by omega), ?_⟩
        conv => whnf
        refine ⟨?_, nofun⟩
        rw [if_neg w2]; exact ave2 _ _
theorem S109 (N : Net) (b : List (Int × Int)) (c x y : Int) (hS : StOk N b c) (hx : -200000 ≤ x ∧ x ≤ 200000) (hy : -200000 ≤ y ∧ y ≤ 200000) : SP 109 [treeA N b c, .agg [i64 x, i64 y]] (vb (provesB N b c (x, y))) false := by
  unfold provesB
  by_cases hc : c < 0
  · rw [if_pos hc]
    refine sound (d := 2) tok2 mixed2 Try.func109 (by kernel_rfl) (by kernel_rfl) ?_
    conv => whnf
    refine ifB_dec (fun w1 => ?_) (fun w1 => ?_)
    · conv => whnf
      refine ⟨?_, nofun⟩
      refine vbE ?_
      simp only [vEqL, Bool.and_true]
      rw [Bool.eq_iff_iff]
      simp only [Bool.and_eq_true, beq_iff_eq, decide_eq_true_eq, Prod.mk.injEq]
    · (exfalso; omega)
  · rw [if_neg hc]
    have h1 := S102 N b c x hS hx (by omega)
    have h2 := S102 N b c y hS hy (by omega)
    simp only
    refine sound (d := 2) tok2 mixed2 Try.func109 (by kernel_rfl) (by kernel_rfl) ?_
    conv => whnf
    refine ifB_dec (fun w1 => ?_) (fun w1 => ?_)
    · (exfalso; omega)
    · conv => whnf
      refine ifB_beq (fun w2 => ?_) (fun w2 => ?_)
      · conv => whnf
        refine .inl ⟨_, _, byX rfl (Sound1.pl (h1) rfl), ?_⟩
        conv => whnf
        refine ⟨?_, nofun⟩
        exact vbE (by rw [if_pos w2, Bool.eq_iff_iff]; simp only [beq_iff_eq, decide_eq_true_eq])
      · conv => whnf
        refine ⟨inK64 (by omega) (by omega), ?_⟩
        conv => whnf
        refine ifB_beq (fun w3 => ?_) (fun w3 => ?_)
        · conv => whnf
          refine .inl ⟨_, _, byX rfl (Sound1.pl (h1) rfl), ?_⟩
          conv => whnf
          refine ifB_dec (fun w4 => ?_) (fun w4 => ?_)
          · conv => whnf
            refine .inl ⟨_, _, byX rfl (Sound1.pl (h2) rfl), ?_⟩
            conv => whnf
            refine ⟨?_, nofun⟩
            exact vbE (by rw [if_neg w2, Bool.eq_iff_iff]; simp only [decide_eq_true_eq]; omega)
          · conv => whnf
            refine ⟨?_, nofun⟩
            exact vbE (by rw [if_neg w2, eq_comm, decide_eq_false_iff_not]; omega)
        · conv => whnf
          refine ⟨?_, nofun⟩
          exact vbE (by rw [if_neg w2, eq_comm, decide_eq_false_iff_not]; omega)

/-- What the opening of a net with a circulation gives. -/
def flowE (N : Net) : Int := if formE N = 0 then (if flatQ N (brF N) (clF N).1 then 11 else 0) else formE N
theorem S106 (N : Net) (hN : N.In) : SP 106 [netV N] (.tuple [treeT N, i64 (flowE N)]) false := by
  unfold treeT flowE formE
  by_cases hn : netE N = 0
  · simp only [if_pos hn]
    have h99 := S99ok N hN hn
    have h108 := S108 N (brF N) (clF N).1 (stOk (net_ok hn))
    by_cases hF : (clF N).2 = 0
    · rw [if_pos hF]
      rw [hF] at h99
      refine sound (d := 2) tok2 mixed2 Try.func106 (by kernel_rfl) (by kernel_rfl) ?_
      conv => whnf
      refine .inl ⟨_, _, byX rfl (h99), ?_⟩
      conv => whnf
      refine ⟨[], by kernel_rfl, ?_⟩
      conv => whnf
      refine .inl ⟨_, _, byX rfl (Sound1.pl (h108) rfl), ?_⟩
      conv => whnf
      refine .inl ⟨_, _, byX rfl (Sound1.pl (S72 _ _) rfl), ?_⟩
      conv => whnf
      refine ⟨?_, nofun⟩
      refine ave_tup2 (k := 4) (ave_agg4 (k := 3) (a := .rslice 4 N.ns.length _) (b := .rslice 6 N.cs.length _) (c := .rslice 2 (brF N).length _) (d := i64 (clF N).1) ⟨rfl, rfl, fun _ _ => rfl⟩ ⟨rfl, rfl, fun _ _ => rfl⟩ ⟨rfl, rfl, fun _ _ => rfl⟩ rfl) ?_
      show i64 _ = i64 _
      cases flatQ N (brF N) (clF N).1 <;> rfl
    · rw [if_neg hF]
      refine sound (d := 2) tok2 mixed2 Try.func106 (by kernel_rfl) (by kernel_rfl) ?_
      conv => whnf
      refine .inl ⟨_, _, byX rfl (h99), ?_⟩
      conv => whnf
      refine ifB_bne (fun w1 => ?_) (fun w1 => ?_)
      · conv => whnf
        refine ⟨?_, nofun⟩
        refine ave_tup2 (k := 4) (ave_agg4 (k := 3) (a := .rslice 4 N.ns.length _) (b := .rslice 6 N.cs.length _) (c := .rslice 2 (brF N).length _) (d := i64 (clF N).1) ⟨rfl, rfl, fun _ _ => rfl⟩ ⟨rfl, rfl, fun _ _ => rfl⟩ ⟨rfl, rfl, fun _ _ => rfl⟩ rfl) ?_
        rfl
      · (exfalso; omega)
  · simp only [if_neg hn]
    have h99 := S99err N hN hn
    refine sound (d := 2) tok2 mixed2 Try.func106 (by kernel_rfl) (by kernel_rfl) ?_
    conv => whnf
    refine .inl ⟨_, _, byX rfl (h99), ?_⟩
    conv => whnf
    refine ifB_bne (fun w1 => ?_) (fun w1 => ?_)
    · conv => whnf
      refine ⟨?_, nofun⟩
      refine ave_tup2 (k := 4) (ave_agg4 (k := 3) rfl rfl rfl rfl) ?_
      rfl
    · (exfalso; omega)
theorem flowE_ok {N : Net} (h : flowE N = 0) : formE N = 0 ∧ flatQ N (brF N) (clF N).1 = false := by
  unfold flowE at h
  split at h
  · split at h
    · cases h
    · exact ⟨by assumption, Bool.eq_false_iff.2 (by assumption)⟩
  · contradiction
theorem S48 (N : Net) (hN : N.In) : SP 48 [netV N] (rngE (if flowE N = 0 then circF N (brF N) (clF N).1 else (0, 0), flowE N)) false := by
  have h106 := S106 N hN
  by_cases hE : flowE N = 0
  · rw [if_pos hE]
    have hn := formE_ok (flowE_ok hE).1
    have h107 := S107 N (brF N) (clF N).1 (stOk (net_ok hn.1))
    unfold treeT at h106
    rw [if_pos hn.1] at h106
    refine sound (d := 2) tok2 mixed2 Try.func48 (by kernel_rfl) (by kernel_rfl) ?_
    conv => whnf
    refine .inl ⟨_, _, byX rfl (h106), ?_⟩
    conv => whnf
    refine ifB_bne (fun w1 => ?_) (fun w1 => ?_)
    · (exfalso; omega)
    · conv => whnf
      refine .inl ⟨_, _, byX rfl (Sound1.pl (h107) rfl), ?_⟩
      conv => whnf
      refine ⟨?_, nofun⟩
      exact ave_tup2 (k := 4) (ave_agg2 (k := 3) rfl rfl) (by show i64 _ = i64 _; rw [hE])
  · rw [if_neg hE]
    unfold treeT at h106
    by_cases hn : netE N = 0
    · rw [if_pos hn] at h106
      refine sound (d := 2) tok2 mixed2 Try.func48 (by kernel_rfl) (by kernel_rfl) ?_
      conv => whnf
      refine .inl ⟨_, _, byX rfl (h106), ?_⟩
      conv => whnf
      refine ifB_bne (fun w1 => ?_) (fun w1 => ?_)
      · conv => whnf
        refine ⟨?_, nofun⟩
        exact ave_tup2 (k := 4) (ave_agg2 (k := 3) rfl rfl) rfl
      · (exfalso; omega)
    · rw [if_neg hn] at h106
      refine sound (d := 2) tok2 mixed2 Try.func48 (by kernel_rfl) (by kernel_rfl) ?_
      conv => whnf
      refine .inl ⟨_, _, byX rfl (h106), ?_⟩
      conv => whnf
      refine ifB_bne (fun w1 => ?_) (fun w1 => ?_)
      · conv => whnf
        refine ⟨?_, nofun⟩
        exact ave_tup2 (k := 4) (ave_agg2 (k := 3) rfl rfl) rfl
      · (exfalso; omega)

/-- From the smaller to the greater one of two numbers each. -/
def rngL (a b : List Int) : List (Int × Int) := List.zipWith (fun x y => (if y < x then y else x, if y > x then y else x)) a b
theorem rngL_len {a b : List Int} {n : Nat} (ha : a.length = n) (hb : b.length = n) : (rngL a b).length = n := by simp [rngL, ha, hb]
theorem rngL_getD {a b : List Int} {n : Nat} (ha : a.length = n) (hb : b.length = n) {i : Nat} (h : i < n) : (rngL a b).getD i (0, 0) = (if b.getD i 0 < a.getD i 0 then b.getD i 0 else a.getD i 0, if b.getD i 0 > a.getD i 0 then b.getD i 0 else a.getD i 0) := by
  simp [rngL, List.getD_eq_getElem?_getD, List.getElem?_zipWith, List.getElem?_eq_getElem (show i < a.length by omega), List.getElem?_eq_getElem (show i < b.length by omega)]
/-- A row is appended to those that stand there. -/
theorem ext_row {α : Type} {L : List α} {d : α} {g : α → List AV} {k i es : Nat} {r : List AV} (h : g (L.getD k d) = r) (hr : r.length = es) (hi : i < k + 1) : g (L.getD i d) = if i < k then g (L.getD (0 + i) d) else List.take es (List.drop ((i - k) * es) r) := by
  rw [Nat.zero_add]
  by_cases e : i < k
  · rw [if_pos e]
  · rw [if_neg e, show i = k by omega, Nat.sub_self, Nat.zero_mul, List.drop_zero, ← hr, List.take_length]; exact h
theorem S142 (a b : List Int) (n : Nat) (ha : a.length = n) (hb : b.length = n) (hn : n ≤ 1000000) : SP 142 [ints a, ints b] (brA (rngL a b)) false := by
  rw [ints_n ha, ints_n hb]
  have hl := rngL_len ha hb
  refine sound (d := 2) tok2 mixed2 Try.func142 (by kernel_rfl) (by kernel_rfl) ?_
  conv => whnf
  refine ⟨[.slot 5 2], [0, 1, 5, 8, 9], fun st mq => ∃ (k : Nat), (k ≤ n) ∧ st = ⟨[(0, .rslice 1 n fun i => [i64 (a.getD i 0)]), (1, .rslice 1 n fun i => [i64 (b.getD i 0)]), (5, .oslice 0 0 0 k none), (8, i64 n), (9, i64 k)], ⟨[⟨2, k, fun i => brC ((rngL a b).getD i (0, 0)), 0, false, true, false⟩], [], none, 0⟩, []⟩ ∧ mq = n - k,
    ⟨_, _, ⟨0, by omega, rfl, rfl⟩, ⟨⟨rfl, rfl, rfl, rfl⟩, ⟨⟨rfl, rfl, rfl, rfl, fun _ => rfl, fun i h => absurd h (Nat.not_lt_zero i)⟩, trivial⟩, trivial⟩⟩, ?_⟩
  rintro s0 m0 ⟨k, hk, rfl, hmeas⟩
  by_cases h : k < n
  · have e := rngL_getD ha hb h
    conv => whnf
    conv => whnf
    refine ifB_dec (fun w1 => ?_) (fun w1 => ?_)
    · conv => whnf
      conv => whnf
      refine ⟨[], by kernel_rfl, ?_⟩
      conv => whnf
      conv => whnf
      refine ⟨⟨(by omega), (by omega)⟩, ?_⟩
      conv => whnf
      conv => whnf
      refine ⟨⟨(by omega), (by omega)⟩, ?_⟩
      conv => whnf
      conv => whnf
      refine ⟨⟨(by omega), (by omega)⟩, ?_⟩
      conv => whnf
      conv => whnf
      refine ⟨⟨(by omega), (by omega)⟩, ?_⟩
      conv => whnf
      conv => whnf
      refine ⟨(by show _ * (16 + 1) ≤ _; omega), ?_⟩
      conv => whnf
      conv => whnf
      refine ⟨inK64 (by omega) (by omega), ?_⟩
      conv => whnf
      conv => whnf
      refine ⟨_, _, ⟨⟨k + 1, by omega, rfl, rfl⟩, by omega⟩, ⟨⟨rfl, rfl, rfl, rfl⟩, ⟨⟨rfl, rfl, rfl, rfl, fun _ => rfl, fun i h => ext_row (congrArg brC e) rfl h⟩, trivial⟩, trivial⟩⟩
    · (exfalso; omega)
  · have e : k = n := by omega
    subst e
    conv => whnf
    conv => whnf
    refine ifB_dec (fun w1 => ?_) (fun w1 => ?_)
    · (exfalso; omega)
    · conv => whnf
      conv => whnf
      refine ⟨?_, nofun⟩
      exact ⟨rfl, hl.symm, fun _ _ => rfl⟩

/-- The steady state. -/
def steadyF (N : Net) (b : List (Int × Int)) (c : Int) : List (Int × Int) × List (Int × Int) :=
  (rngL (stateF N b c (circF N b c).1).1 (stateF N b c (circF N b c).2).1, rngL (stateF N b c (circF N b c).1).2 (stateF N b c (circF N b c).2).2)
def sdA (s : List (Int × Int) × List (Int × Int)) : AV := .agg [brA s.1, brA s.2]
theorem ave_br {k n : Nat} {f : Nat → List AV} {l : List (Int × Int)} (hn : n = l.length) (hf : ∀ i, i < l.length → f i = brC (l.getD i (0, 0))) : AVE (k + 1) (.rslice 2 n f) (brA l) :=
  ⟨rfl, hn, fun i hi => hf i (by omega)⟩
theorem S110 (N : Net) (b : List (Int × Int)) (c : Int) (hS : StOk N b c) (h1 : -200000 ≤ (circF N b c).1 ∧ (circF N b c).1 ≤ 200000) (h2 : -200000 ≤ (circF N b c).2 ∧ (circF N b c).2 ≤ 200000) :
    SP 110 [treeA N b c] (sdA (steadyF N b c)) false := by
  have h107 := S107 N b c hS
  have hA := S101 N b c (circF N b c).1 hS h1
  have hB := S101 N b c (circF N b c).2 hS h2
  have lA := state_len N b c (circF N b c).1
  have lB := state_len N b c (circF N b c).2
  have hn := hS.n1
  have hc := hS.c1
  have h5 := S142 _ _ N.cs.length lA.1 lB.1 (by omega)
  have h6 := S142 _ _ N.ns.length lA.2 lB.2 (by omega)
  unfold sdA steadyF
  have k1 := rngL_len lA.1 lB.1
  have k2 := rngL_len lA.2 lB.2
  generalize stateF N b c (circF N b c).1 = sA at *
  generalize stateF N b c (circF N b c).2 = sB at *
  refine sound (d := 2) tok2 mixed2 Try.func110 (by kernel_rfl) (by kernel_rfl) ?_
  conv => whnf
  refine .inl ⟨_, _, byX rfl (Sound1.pl (h107) rfl), ?_⟩
  conv => whnf
  refine ⟨[], by kernel_rfl, ?_⟩
  conv => whnf
  refine .inl ⟨_, _, byX rfl (hA), ?_⟩
  conv => whnf
  refine .inl ⟨_, _, byX rfl (hB), ?_⟩
  conv => whnf
  refine ⟨[], by kernel_rfl, ?_⟩
  conv => whnf
  refine .inl ⟨_, _, byX rfl (h5), ?_⟩
  conv => whnf
  refine .inl ⟨_, _, byX rfl (h6), ?_⟩
  conv => whnf
  refine ⟨?_, nofun⟩
  exact ave_agg2 (k := 4) (ave_br rfl fun _ _ => rfl) (ave_br rfl fun _ _ => rfl)

theorem flatQ_of {N : Net} {b : List (Int × Int)} {c : Int} (h : flatQ N b c = false) (hc : 0 ≤ c) : flatB N b c = false := by
  unfold flatQ at h; rwa [if_pos hc] at h
/-- Where the circulation lies. -/
theorem circ_bd {N : Net} {b : List (Int × Int)} {c : Int} (hS : StOk N b c) (hne : 0 ≤ c → (N.cs.getD c.toNat cn0).fr ≠ (N.cs.getD c.toNat cn0).to) (h : flatQ N b c = false) :
    (-200000 ≤ (circF N b c).1 ∧ (circF N b c).1 ≤ 200000) ∧ (-200000 ≤ (circF N b c).2 ∧ (circF N b c).2 ≤ 200000) ∧ (circF N b c).1 ≤ (circF N b c).2 ∧ (circF N b c).2 ≤ (circF N b c).1 + 1 := by
  unfold circF
  by_cases hc : c < 0
  · rw [if_pos hc]; simp only; omega
  · rw [if_neg hc]
    have := circ_spec hS (by omega) (hne (by omega)) (flatQ_of h (by omega))
    split <;> simp only <;> omega
theorem net_ne {N : Net} (hok : N.Ok) {c : Int} (h : c < N.cs.length) (h0 : 0 ≤ c) : (N.cs.getD c.toNat cn0).fr ≠ (N.cs.getD c.toNat cn0).to :=
  (hok.con _ (mem_getD (by omega))).1
theorem ave_sdE (s : List (Int × Int) × List (Int × Int)) (e : Int) : AVE 5 (.tuple [sdA s, i64 e]) (.tuple [sdA s, i64 e]) :=
  ave_tup2 (k := 4) (ave_agg2 (k := 3) (ave_br rfl fun _ _ => rfl) (ave_br rfl fun _ _ => rfl)) rfl
theorem S50 (N : Net) (hN : N.In) : SP 50 [netV N] (.tuple [sdA (if flowE N = 0 then steadyF N (brF N) (clF N).1 else ([], [])), i64 (flowE N)]) false := by
  have h106 := S106 N hN
  by_cases hE : flowE N = 0
  · rw [if_pos hE]
    have hk := flowE_ok hE
    have hn := formE_ok hk.1
    have hS := stOk (net_ok hn.1)
    have hb := circ_bd hS (net_ne (net_ok hn.1) hS.cl) hk.2
    have h110 := S110 N (brF N) (clF N).1 hS hb.1 hb.2.1
    unfold treeT at h106
    rw [if_pos hn.1] at h106
    refine sound (d := 2) tok2 mixed2 Try.func50 (by kernel_rfl) (by kernel_rfl) ?_
    conv => whnf
    refine .inl ⟨_, _, byX rfl (h106), ?_⟩
    conv => whnf
    refine ifB_bne (fun w1 => ?_) (fun w1 => ?_)
    · (exfalso; omega)
    · conv => whnf
      refine .inl ⟨_, _, byX rfl (h110), ?_⟩
      conv => whnf
      refine ⟨?_, nofun⟩
      rw [hE]; exact ave_sdE _ _
  · rw [if_neg hE]
    unfold treeT at h106
    by_cases hn : netE N = 0
    · rw [if_pos hn] at h106
      refine sound (d := 2) tok2 mixed2 Try.func50 (by kernel_rfl) (by kernel_rfl) ?_
      conv => whnf
      refine .inl ⟨_, _, byX rfl (h106), ?_⟩
      conv => whnf
      refine ifB_bne (fun w1 => ?_) (fun w1 => ?_)
      · conv => whnf
        refine ⟨?_, nofun⟩
        exact ave_tup2 (k := 4) (ave_agg2 (k := 3) (show (0 : Nat) = 0 from rfl) (show (0 : Nat) = 0 from rfl)) rfl
      · (exfalso; omega)
    · rw [if_neg hn] at h106
      refine sound (d := 2) tok2 mixed2 Try.func50 (by kernel_rfl) (by kernel_rfl) ?_
      conv => whnf
      refine .inl ⟨_, _, byX rfl (h106), ?_⟩
      conv => whnf
      refine ifB_bne (fun w1 => ?_) (fun w1 => ?_)
      · conv => whnf
        refine ⟨?_, nofun⟩
        exact ave_tup2 (k := 4) (ave_agg2 (k := 3) (show (0 : Nat) = 0 from rfl) (show (0 : Nat) = 0 from rfl)) rfl
      · (exfalso; omega)

/-- What is first wrong of a circulation; the error of a circulation. -/
def chk0 (N : Net) (x : Int × Int) : Int := firstOf [formE N, crE x.1, crE x.2, if decide (x.1 ≤ x.2) = true then 0 else 9]
def chkE (N : Net) (x : Int × Int) : Int :=
  if chk0 N x = 0 then (if flatQ N (brF N) (clF N).1 then 11 else if provesB N (brF N) (clF N).1 x then 0 else 19) else chk0 N x
theorem firstOf4 (a b c d : Int) : firstOf [a, b, c, d] = if a = 0 then (if b = 0 then (if c = 0 then (if d = 0 then 0 else d) else c) else b) else a := rfl
theorem chk0_ok {N : Net} {x : Int × Int} (h : chk0 N x = 0) : formE N = 0 ∧ crE x.1 = 0 ∧ crE x.2 = 0 ∧ x.1 ≤ x.2 := by
  unfold chk0 at h
  rw [firstOf4] at h
  split at h
  · split at h
    · split at h
      · split at h
        · rename_i a b c d
          exact ⟨a, b, c, of_decide_eq_true d⟩
        · contradiction
      · contradiction
    · contradiction
  · contradiction
theorem S49 (N : Net) (hN : N.In) (x y : Int) : SP 49 [netV N, .agg [i64 x, i64 y]] (i64 (chkE N (x, y))) false := by
  have hx : SP 100 [i64 x] (i64 (crE x)) false := S100 x
  have hy : SP 100 [i64 y] (i64 (crE y)) false := S100 y
  unfold chkE
  by_cases hE : chk0 N (x, y) = 0
  · rw [if_pos hE]
    obtain ⟨k1, k2, k3, k4⟩ := chk0_ok hE
    have hn := formE_ok k1
    have h99 := S99ok N hN hn.1
    have hS := stOk (net_ok hn.1)
    have h108 := S108 N (brF N) (clF N).1 hS
    have h109 := S109 N (brF N) (clF N).1 x y hS (crE_ok k2) (crE_ok k3)
    unfold chk0 formE at hE
    rw [if_pos hn.1] at hE
    simp only at hE
    refine sound (d := 2) tok2 mixed2 Try.func49 (by kernel_rfl) (by kernel_rfl) ?_
    conv => whnf
    refine .inl ⟨_, _, byX rfl (h99), ?_⟩
    conv => whnf
    refine ⟨[], by kernel_rfl, ?_⟩
    conv => whnf
    refine .inl ⟨_, _, byX rfl (Sound1.pl (hx) rfl), ?_⟩
    conv => whnf
    refine .inl ⟨_, _, byX rfl (Sound1.pl (hy) rfl), ?_⟩
    conv => whnf
    refine .inl ⟨_, _, byX rfl (Sound1.pl (S72 _ _) rfl), ?_⟩
    conv => whnf
    refine .inl ⟨_, _, byX rfl (Sound1.pl (S71_4 _ _ _ _ _ ⟨rfl, rfl, rfl, rfl⟩) rfl), ?_⟩
    conv => whnf
    refine ifB_bne (fun w1 => ?_) (fun w1 => ?_)
    · (exfalso; omega)
    · conv => whnf
      refine ⟨[], by kernel_rfl, ?_⟩
      conv => whnf
      refine .inl ⟨_, _, byX rfl (Sound1.pl (h108) rfl), ?_⟩
      conv => whnf
      refine .inl ⟨_, _, byX rfl (Sound1.pl (S72 _ _) rfl), ?_⟩
      conv => whnf
      refine .inl ⟨_, _, byX rfl (Sound1.pl (h109) rfl), ?_⟩
      conv => whnf
      refine .inl ⟨_, _, byX rfl (Sound1.pl (S72 _ _) rfl), ?_⟩
      conv => whnf
      refine .inl ⟨_, _, byX rfl (Sound1.pl (S71_2 _ _ _ ⟨rfl, rfl⟩) rfl), ?_⟩
      conv => whnf
      refine ⟨?_, nofun⟩
      · show i64 (firstOf [_, _]) = i64 _
        rw [firstOf2]
        cases flatQ N (brF N) (clF N).1 <;> cases provesB N (brF N) (clF N).1 (x, y) <;> rfl
  · rw [if_neg hE]
    by_cases hn : netE N = 0
    · have h99 := S99ok N hN hn
      unfold chk0 formE at hE ⊢
      rw [if_pos hn] at hE ⊢
      simp only at hE ⊢
      refine sound (d := 2) tok2 mixed2 Try.func49 (by kernel_rfl) (by kernel_rfl) ?_
      conv => whnf
      refine .inl ⟨_, _, byX rfl (h99), ?_⟩
      conv => whnf
      refine ⟨[], by kernel_rfl, ?_⟩
      conv => whnf
      refine .inl ⟨_, _, byX rfl (Sound1.pl (hx) rfl), ?_⟩
      conv => whnf
      refine .inl ⟨_, _, byX rfl (Sound1.pl (hy) rfl), ?_⟩
      conv => whnf
      refine .inl ⟨_, _, byX rfl (Sound1.pl (S72 _ _) rfl), ?_⟩
      conv => whnf
      refine .inl ⟨_, _, byX rfl (Sound1.pl (S71_4 _ _ _ _ _ ⟨rfl, rfl, rfl, rfl⟩) rfl), ?_⟩
      conv => whnf
      refine ifB_bne (fun w1 => ?_) (fun w1 => ?_)
      · conv => whnf
        refine ⟨?_, nofun⟩
        rfl
      · (exfalso; omega)
    · have h99 := S99err N hN hn
      unfold chk0 formE at hE ⊢
      rw [if_neg hn] at hE ⊢
      simp only at hE ⊢
      refine sound (d := 2) tok2 mixed2 Try.func49 (by kernel_rfl) (by kernel_rfl) ?_
      conv => whnf
      refine .inl ⟨_, _, byX rfl (h99), ?_⟩
      conv => whnf
      refine ⟨[], by kernel_rfl, ?_⟩
      conv => whnf
      refine .inl ⟨_, _, byX rfl (Sound1.pl (hx) rfl), ?_⟩
      conv => whnf
      refine .inl ⟨_, _, byX rfl (Sound1.pl (hy) rfl), ?_⟩
      conv => whnf
      refine .inl ⟨_, _, byX rfl (Sound1.pl (S72 _ _) rfl), ?_⟩
      conv => whnf
      refine .inl ⟨_, _, byX rfl (Sound1.pl (S71_4 _ _ _ _ _ ⟨rfl, rfl, rfl, rfl⟩) rfl), ?_⟩
      conv => whnf
      refine ifB_bne (fun w1 => ?_) (fun w1 => ?_)
      · conv => whnf
        refine ⟨?_, nofun⟩
        rfl
      · (exfalso; omega)
end Go.Tr

/- Plain: a net with another draw at a junction. Conditions: none. -/
namespace Go.Tr
open Go Go.Proofs
set_option maxRecDepth 20000
set_option maxHeartbeats 8000000

def nsD (ns : List Nd) (k : Nat) (d : Int) : List Nd := ns.set k { ns.getD k nd0 with draw := d }
def setD (N : Net) (k : Nat) (d : Int) : Net := ⟨nsD N.ns k d, N.cs⟩
theorem nsD_len (ns : List Nd) (k : Nat) (d : Int) : (nsD ns k d).length = ns.length := by simp [nsD]
theorem setD_ns (N : Net) (k : Nat) (d : Int) : (setD N k d).ns.length = N.ns.length := nsD_len _ _ _
theorem nsD_getD (ns : List Nd) (k i : Nat) (d : Int) (hk : k < ns.length) : (nsD ns k d).getD i nd0 = if i = k then { ns.getD k nd0 with draw := d } else ns.getD i nd0 := by
  unfold nsD
  simp only [List.getD_eq_getElem?_getD, List.getElem?_set]
  by_cases h : k = i
  · subst h; simp [hk]
  · rw [if_neg h, if_neg (fun e => h e.symm)]
theorem nd_row (ns : List Nd) (k i : Nat) (d v : Int) (hk : k < ns.length) : ndC ((nsD ns k v).getD i nd0) = bif Nat.beq i (0 + k) then splice (ndC ((nsD ns k d).getD i nd0)) 3 [i64 v] else ndC ((nsD ns k d).getD i nd0) := by
  rw [Nat.zero_add, nsD_getD _ _ _ _ hk, nsD_getD _ _ _ _ hk]
  cases e : Nat.beq i k with
  | true => cases Nat.eq_of_beq_eq_true e; rw [if_pos rfl, if_pos rfl]; rfl
  | false => have := Nat.ne_of_beq_eq_false e; rw [if_neg this, if_neg this]; rfl
theorem nsD_self (ns : List Nd) (k i : Nat) (hk : k < ns.length) : (nsD ns k (ns.getD k nd0).draw).getD i nd0 = ns.getD i nd0 := by
  rw [nsD_getD _ _ _ _ hk]
  split
  · rename_i e; rw [e]
  · rfl
theorem setD_lakes (N : Net) (k : Nat) (d : Int) (hk : k < N.ns.length) : lakesB (setD N k d) = lakesB N := by
  unfold lakesB
  apply List.ext_getElem (by simp [setD_ns])
  intro i h1 h2
  have h3 : i < N.ns.length := by simpa using h2
  have h4 : i < (nsD N.ns k d).length := by rw [nsD_len]; exact h3
  rw [List.getElem_map, List.getElem_map]
  have e := nsD_getD N.ns k i d hk
  rw [List.getD_eq_getElem?_getD, List.getElem?_eq_getElem h4, Option.getD_some] at e
  show ((nsD N.ns k d)[i]).lake = _
  rw [e]
  split
  · rename_i e; subst e
    simp [List.getD_eq_getElem?_getD, h3]
  · simp [List.getD_eq_getElem?_getD, h3]
theorem setD_tree (N : Net) (k : Nat) (d : Int) (hk : k < N.ns.length) : treeF (setD N k d) = treeF N := by
  unfold treeF
  rw [setD_lakes N k d hk]
  rfl
theorem setD_br (N : Net) (k : Nat) (d : Int) (hk : k < N.ns.length) : brF (setD N k d) = brF N := by unfold brF; rw [setD_tree N k d hk]
theorem setD_cl (N : Net) (k : Nat) (d : Int) (hk : k < N.ns.length) : clF (setD N k d) = clF N := by
  unfold clF gapE
  rw [setD_br N k d hk, setD_tree N k d hk]
  rfl
theorem nd_mem {ns : List Nd} {k : Nat} {d : Int} {n : Nd} (h : n ∈ nsD ns k d) : n ∈ ns ∨ n = { ns.getD k nd0 with draw := d } := by
  rcases List.mem_or_eq_of_mem_set h with h | h
  · exact .inl h
  · exact .inr h
theorem getD_memN {ns : List Nd} {k : Nat} (hk : k < ns.length) : ns.getD k nd0 ∈ ns := by simp [List.getD_eq_getElem?_getD, hk]
theorem setD_ok {N : Net} {k : Nat} {d : Int} (hok : N.Ok) (hk : k < N.ns.length) (hl : (N.ns.getD k nd0).lake = false) (hd : -10000 ≤ d ∧ d ≤ 10000) : (setD N k d).Ok where
  n0 := by rw [setD_ns]; exact hok.n0
  n1 := by rw [setD_ns]; exact hok.n1
  c0 := hok.c0
  c1 := hok.c1
  ends := by rw [setD_ns]; exact hok.ends
  con := hok.con
  node := fun n hn => by
    rcases nd_mem hn with h | h
    · exact hok.node n h
    · subst h
      have h0 := hok.node _ (getD_memN hk)
      unfold nodeRight nodeOther at h0 ⊢
      simp only [hl, Bool.false_eq_true, if_false] at h0 ⊢
      exact ⟨decide_eq_true hd, h0.2⟩

/-- The conduits of the loop do not depend on what is carried. -/
theorem cyc_fst {cs : List Cn} {s s' : List Int × List Int} {P R : Nat} : ∀ l : List (Int × Int), (cyc cs s P R l).map (·.1) = (cyc cs s' P R l).map (·.1)
  | [] => rfl
  | b :: r => by
    rw [cyc, cyc, List.map_cons, List.map_cons, cyc_fst r]
theorem gsum_zero : ∀ (L : List (Int × Int)) (q : Int), (∀ x ∈ L.map (·.1), x = 0) → gsum L q = 0
  | [], _, _ => rfl
  | x :: r, q, h => by
    have h1 := h x.1 (by simp)
    rw [gsum, gsum_zero r q (fun y hy => h y (by simp at hy ⊢; exact .inr hy)), h1, loss_zero]; rfl
theorem gsum_pos : ∀ (L : List (Int × Int)), (∀ x ∈ L, 0 ≤ x.1 ∧ -100000 ≤ x.2 ∧ x.2 ≤ 100000) → (∀ q, gsum L q = 0) → ∀ x ∈ L.map (·.1), x = 0
  | [], _, _, x, hx => by simp at hx
  | y :: r, h, hz, x, hx => by
    have hy := h y (by simp)
    have hr : ∀ y ∈ r, 0 ≤ y.1 ∧ -100000 ≤ y.2 ∧ y.2 ≤ 100000 := fun y hy => h y (by simp [hy])
    have m := gsum_mono r (q := -200000) (q' := 200000) (fun y hy => (hr y hy).1) (by omega)
    have e1 := hz 200000
    have e2 := hz (-200000)
    rw [gsum] at e1 e2
    have y0 : y.1 = 0 := by
      rcases Int.lt_or_le 0 y.1 with h0 | h0
      · have := loss_strict (r := y.1) (by omega) (show -200000 + y.2 < 200000 + y.2 by omega)
        omega
      · omega
    simp only [List.map_cons, List.mem_cons] at hx
    rcases hx with rfl | hx
    · exact y0
    · refine gsum_pos r hr (fun q => ?_) x hx
      have := hz q
      rw [gsum, y0, loss_zero, Int.zero_add] at this
      exact this
theorem flat_iff {N : Net} {b : List (Int × Int)} {c : Int} (hS : StOk N b c) (hc : 0 ≤ c) (hne : (N.cs.getD c.toNat cn0).fr ≠ (N.cs.getD c.toNat cn0).to) (s : List Int × List Int) :
    flatB N b c = true ↔ ∀ x ∈ (((N.cs.getD c.toNat cn0).res, (0 : Int)) :: cyc N.cs s (N.cs.getD c.toNat cn0).fr.toNat (N.cs.getD c.toNat cn0).to.toNat b).map (·.1), x = 0 := by
  have hcl := hS.cl
  have hcs : ∀ c ∈ N.cs, 0 ≤ c.res := fun c hc => (hS.res c hc).1
  obtain ⟨P, hP⟩ : ∃ P, P = (N.cs.getD c.toNat cn0).fr.toNat := ⟨_, rfl⟩
  obtain ⟨R, hR⟩ : ∃ R, R = (N.cs.getD c.toNat cn0).to.toNat := ⟨_, rfl⟩
  have hL : ∀ x ∈ ((N.cs.getD c.toNat cn0).res, (0 : Int)) :: cyc N.cs (st0 N c 0) P R b, 0 ≤ x.1 ∧ -100000 ≤ x.2 ∧ x.2 ≤ 100000 := fun x hx => by
    rcases List.mem_cons.1 hx with rfl | hx
    · exact ⟨hcs _ (mem_getD (by omega)), by show (-100000 : Int) ≤ 0; decide, by show (0 : Int) ≤ 100000; decide⟩
    · exact cyc_bd hcs (st0_len1 N c 0) (st0_sum0 hS) b _ (lakesB_len N) hS.tr x hx
  have hg : ∀ q, gapF N b c q = gsum (((N.cs.getD c.toNat cn0).res, 0) :: cyc N.cs (st0 N c 0) P R b) q - ((headsL N).getD (rootN N.cs b P) 0 - (headsL N).getD (rootN N.cs b R) 0) := fun q => by
    have hd := fun u => st0_diff (q := 0) (q' := q) hS.ends hc hcl hne u
    simp only [Int.sub_zero, ← hP, ← hR] at hd
    have h1 := climb_cyc hS.ends b _ (st0 N c 0) (st0 N c q) (backL N.cs b (st0 N c q)).1 (lakesB_len N) (st0_len0 N c q) (st0_len1 N c 0) (st0_len1 N c q) hS.tr hd (fun _ _ => rfl)
    have h2 := fore_climb (F := (backL N.cs b (st0 N c q)).1) (P := P) b _ (headsL N) (headsL_len N) hS.tr
    have h3 := fore_climb (F := (backL N.cs b (st0 N c q)).1) (P := R) b _ (headsL N) (headsL_len N) hS.tr
    unfold gapF stateF
    rw [← hP, ← hR]
    show lossF _ q - ((foreL _ _ _ _).getD P 0 - (foreL _ _ _ _).getD R 0) = _
    rw [h2, h3, gsum]
    show _ = lossF (N.cs.getD c.toNat cn0).res (q + 0) + gsum (cyc N.cs (st0 N c 0) P R b) q - _
    rw [← h1, Int.add_zero]
    omega
  rw [← hP, ← hR, List.map_cons, cyc_fst (s := s) (s' := st0 N c 0), ← List.map_cons (f := (·.1)) (a := ((N.cs.getD c.toNat cn0).res, (0 : Int)))]
  unfold flatB
  rw [decide_eq_true_iff, hg, hg]
  generalize ((N.cs.getD c.toNat cn0).res, (0 : Int)) :: cyc N.cs (st0 N c 0) P R b = L at hL
  constructor
  · intro h
    rcases gsum_two L hL with g | ⟨a, _, _⟩
    · exact gsum_pos L hL g
    · have := a (-200000) 200000 (by omega); omega
  · intro h
    rw [gsum_zero L _ h, gsum_zero L _ h]
theorem setD_flat {N : Net} {b : List (Int × Int)} {c : Int} {k : Nat} {d : Int} (hS : StOk N b c) (hS' : StOk (setD N k d) b c) (hne : 0 ≤ c → (N.cs.getD c.toNat cn0).fr ≠ (N.cs.getD c.toNat cn0).to) : flatQ (setD N k d) b c = flatQ N b c := by
  unfold flatQ
  split
  · rename_i hc
    have h1 := flat_iff hS hc (hne hc) ([], [])
    have h2 := flat_iff hS' hc (hne hc) ([], [])
    rw [Bool.eq_iff_iff, h1, h2]
    exact Iff.rfl
  · rfl
end Go.Tr

/- The examples of chapter 2 are as they should be: awake gives true. Conditions: none. -/
namespace Go.Tr
open Go Go.Proofs

def G83 : FuncId → List AV → Option (AV × Bool)
  | 83, [.val (.int .i64 r), .val (.int .i64 d)] => bif decide (0 ≤ r) && decide (r ≤ 1000000) then some (.agg [i64 (loF r d), i64 (hiF r d)], false) else none
  | _, _ => none
theorem G83_ok (f : FuncId) (args : List AV) (r : AV) (fr : Bool) (h : G83 f args = some (r, fr)) : SP f args r fr ∧ fr = false := by
  unfold G83 at h
  split at h
  · rename_i r0 d0
    cases hb : (decide (0 ≤ r0) && decide (r0 ≤ 1000000)) with
    | true =>
      rw [hb, cond_true] at h
      cases h
      simp only [Bool.and_eq_true, decide_eq_true_eq] at hb
      exact ⟨S83 r0 d0 hb.1 hb.2, rfl⟩
    | false => rw [hb] at h; cases h
  · cases h

theorem run_drop : Run.ok Try.prog ⟨28, [tab 1 [[i64 100], [i64 400]], i64 30], .tuple [.agg [i64 36101, i64 40000], i64 0]⟩ := run_okG mixed2 G83_ok 1000 60 (by kernel_rfl)
theorem run_gap : Run.ok Try.prog ⟨42, [netA, i64 17], .tuple [i64 (-2200), i64 0]⟩ := run_ok mixed2 (l := []) (by simp) 1000 60 (by kernel_rfl)
end Go.Tr

/- The examples of chapter 2: cuts and fills. Conditions: none. -/
namespace Go.Tr
open Go Go.Proofs
theorem run_fill : Run.ok Try.prog ⟨31, [dryA, i64 0], .tuple [tab 1 [[i64 0], [i64 1]], i64 0]⟩ := run_ok mixed2 (l := []) (by simp) 1000 60 (by kernel_rfl)
theorem run_cut : Run.ok Try.prog ⟨55, [netA, .agg [i64 0, i64 2]], .tuple [tab 1 [[i64 1]], i64 0]⟩ := run_ok mixed2 (l := []) (by simp) 1000 60 (by kernel_rfl)
end Go.Tr

/- The examples of chapter 2: the circulation. Conditions: none. -/
namespace Go.Tr
open Go Go.Proofs
theorem run_circ : Run.ok Try.prog ⟨48, [netA], .tuple [.agg [i64 17, i64 18], i64 0]⟩ := run_ok mixed2 (l := []) (by simp) 1000 60 (by kernel_rfl)
end Go.Tr

/- The examples of chapter 2 are as they should be: awake gives true. Conditions: none. -/
namespace Go.Tr
open Go Go.Proofs
def runs2 : List Run := [⟨69, [], netA⟩, ⟨70, [], dryA⟩, ⟨28, [tab 1 [[i64 100], [i64 400]], i64 30], .tuple [.agg [i64 36101, i64 40000], i64 0]⟩, ⟨42, [netA, i64 17], .tuple [i64 (-2200), i64 0]⟩,
  ⟨31, [dryA, i64 0], .tuple [tab 1 [[i64 0], [i64 1]], i64 0]⟩, ⟨55, [netA, .agg [i64 0, i64 2]], .tuple [tab 1 [[i64 1]], i64 0]⟩, ⟨48, [netA], .tuple [.agg [i64 17, i64 18], i64 0]⟩]
theorem runs2_ok : ∀ x ∈ runs2, x.ok Try.prog := by
  intro x hx
  simp only [runs2, List.mem_cons, List.not_mem_nil, or_false] at hx
  rcases hx with rfl | rfl | rfl | rfl | rfl | rfl | rfl
  · exact run_net
  · exact run_dry
  · exact run_drop
  · exact run_gap
  · exact run_fill
  · exact run_cut
  · exact run_circ
theorem S14 : SP 14 [] (vb true) false := run_ok mixed2 runs2_ok 1000 60 (y := vb true) (by kernel_rfl)
end Go.Tr

/- The law WaterNets returns true for every net and every two numbers. Conditions: none. -/
namespace Go.Tr
open Go Go.Proofs
set_option maxRecDepth 20000
set_option maxHeartbeats 8000000

theorem few_bounds {N : Net} (h : fewB N = true) : N.ns.length ≤ 12 ∧ N.cs.length ≤ 16 := by
  unfold fewB at h
  simp only [Bool.and_eq_true, decide_eq_true_eq] at h
  exact h.1.1

theorem S18a (r f : Int) (h : 0 ≤ r ∧ r ≤ 1000 ∧ -200000 ≤ f ∧ f ≤ 200000) : SP 18 [i64 r, i64 f] (.tuple [i64 (lossF r f), i64 0]) false := by
  have := S18 r f
  rw [if_pos h] at this
  exact this
theorem S18b (r f : Int) (h : ¬ (0 ≤ r ∧ r ≤ 1000 ∧ -200000 ≤ f ∧ f ≤ 200000)) : SP 18 [i64 r, i64 f] (.tuple [i64 0, i64 2]) false := by
  have := S18 r f
  rw [if_neg h] at this
  exact this

theorem S3 (N : Net) (hN : N.In) (r f : Int) : SP 3 [netV N, i64 r, i64 f] (vb true) false := by
  by_cases hc : 0 ≤ r ∧ r ≤ 1000 ∧ -200000 ≤ f ∧ f ≤ 200000
  · refine sound (d := 2) tok2 mixed2 Try.func3 (by kernel_rfl) (by kernel_rfl) ?_
    refine .inl ⟨_, _, byS (d := 2) (S14), ?_⟩
    refine .inl ⟨_, _, byS (d := 2) (S15 N hN), ?_⟩
    refine ifB_intro (fun h1 => ?_) (fun h1 => ?_)
    · refine ⟨?_, nofun⟩
      rfl
    · obtain ⟨b1, b2⟩ := few_bounds (not_f h1)
      refine .inl ⟨_, _, byS (d := 2) (S17 N (by omega) (by omega)), ?_⟩
      refine .inl ⟨_, _, byS (d := 2) (S16 N hN), ?_⟩
      refine .inl ⟨_, _, byS (d := 2) (S18a r f hc), ?_⟩
      refine .inl ⟨_, _, byS (d := 2) (S19 N hN), ?_⟩
      refine ifB_intro (fun h2 => ?_) (fun h2 => ?_)
      · exact absurd rfl (bne_iff_ne.1 h2)
      · refine ifB_intro (fun h3 => ?_) (fun h3 => ?_)
        · exact absurd rfl (bne_iff_ne.1 h3)
        · refine .inl ⟨_, _, byS (d := 2) (S20 r 0 1000), ?_⟩
          refine ifB_intro (fun h4 => ?_) (fun h4 => ?_)
          · exact absurd (of_decide_eq_false (not_t h4)) (by omega)
          · refine .inl ⟨_, _, byS (d := 2) (S21 f), ?_⟩
            refine ifB_intro (fun h5 => ?_) (fun h5 => ?_)
            · exact absurd (if_pos (by omega)) (bne_iff_ne.1 h5)
            · refine .inl ⟨_, _, byS (d := 2) (S22 r f (by omega) (by omega) (by omega) (by omega)), ?_⟩
              refine ⟨?_, nofun⟩
              show vb (lossF r f == lossF r f) = vb true
              rw [beq_self_eq_true]
  · refine sound (d := 2) tok2 mixed2 Try.func3 (by kernel_rfl) (by kernel_rfl) ?_
    refine .inl ⟨_, _, byS (d := 2) (S14), ?_⟩
    refine .inl ⟨_, _, byS (d := 2) (S15 N hN), ?_⟩
    refine ifB_intro (fun h1 => ?_) (fun h1 => ?_)
    · refine ⟨?_, nofun⟩
      rfl
    · obtain ⟨b1, b2⟩ := few_bounds (not_f h1)
      refine .inl ⟨_, _, byS (d := 2) (S17 N (by omega) (by omega)), ?_⟩
      refine .inl ⟨_, _, byS (d := 2) (S16 N hN), ?_⟩
      refine .inl ⟨_, _, byS (d := 2) (S18b r f hc), ?_⟩
      refine .inl ⟨_, _, byS (d := 2) (S19 N hN), ?_⟩
      refine ifB_intro (fun h2 => ?_) (fun h2 => ?_)
      · exact absurd rfl (bne_iff_ne.1 h2)
      · refine ifB_intro (fun h3 => ?_) (fun h3 => ?_)
        · exact absurd rfl (bne_iff_ne.1 h3)
        · refine .inl ⟨_, _, byS (d := 2) (S20 r 0 1000), ?_⟩
          refine ifB_intro (fun h4 => ?_) (fun h4 => ?_)
          · refine ⟨?_, nofun⟩
            rfl
          · refine .inl ⟨_, _, byS (d := 2) (S21 f), ?_⟩
            refine ifB_intro (fun h5 => ?_) (fun h5 => ?_)
            · refine ⟨?_, nofun⟩
              rfl
            · have h4' := of_decide_eq_true (not_f h4)
              have h5' : (if -200000 ≤ f ∧ f ≤ 200000 then (0 : Int) else 2) = 0 := bne_eq_false_iff_eq.1 h5
              rw [if_neg (by omega)] at h5'
              exact absurd h5' (by decide)
end Go.Tr

/- The law GovernorValues returns true. Conditions: none. -/
import Derived.Test.YtolohdpbgocgkaaGreatTr10
set_option linter.unusedSectionVars false
set_option linter.unnecessarySimpa false
set_option linter.unusedVariables false
set_option linter.unusedSimpArgs false

namespace Go.Tr
open Go Go.Proofs
set_option maxRecDepth 20000
set_option maxHeartbeats 8000000

theorem quadL_len (p l : List Int) : (quadL p l).length = l.length := by simp [quadL]
theorem S3 (p : List Int) (w : Int) (l : List Int) (hpl : p.length ≤ 9223372036854775807) (hl : l.length ≤ 9223372036854775807) : SP 3 [ints p, i64 w, ints l] (vb true) false := by
  have h17 := S17 p hpl
  by_cases hps : p.length ≤ 7 ∧ l.length ≤ 22
  · have hp1 : p.length ≤ 1000000 := by omega
    have hl1 : l.length ≤ 1000000 := by omega
    rw [decide_eq_true hps.1] at h17
    have h19p := S19 p hp1
    have h19l := S19 l hl1
    have h18 := S18 p w hp1
    have h20 := S20 p l hp1 hl1
    have h21 := S21 p hp1
    have h22 := S22 w
    have h24 := S24 l hl
    by_cases h0 : polyE p = 0
    · have hp := PolyOk.of h0
      have e1 : valE p w = freqE w := if_neg (not_not_intro h0)
      have e2 : quadE p l = if gridE l ≠ 0 then gridE l else if quadB p l = true then 0 else 11 := if_neg (not_not_intro h0)
      rw [h0] at h21
      rw [e1] at h18
      rw [e2] at h20
      -- the grid
      by_cases hg : gridE l = 0
      · have hgo := GridOk.of hg
        have h25 := S25 p l hp hgo
        have h26 := S26 (quadL p l) (quadL p l) (by rw [quadL_len]; omega) (by rw [quadL_len]; omega)
        rw [decide_eq_true rfl] at h26
        rw [if_neg (not_not_intro hg)] at h20
        rw [hg] at h24
        by_cases hf : freqE w = 0
        · have hw : 0 ≤ w ∧ w ≤ 1000 := by
            unfold freqE at hf
            split at hf
            · assumption
            · exact absurd hf (by decide)
          have h23 := S23 p w hp hw
          rw [hf, if_pos rfl] at h18
          rw [hf] at h22
          cases hq : quadB p l with
          | true =>
            rw [hq, if_pos rfl, if_pos rfl] at h20
            rw [hq, if_pos rfl] at h25
            refine sound (d := 2) tok2 mixed2 Tryz.func3 (by kernel_rfl) (by kernel_rfl) ?_
            conv => whnf
            refine .inl ⟨_, _, byX rfl (Sound1.pl (S16) rfl), ?_⟩
            conv => whnf
            refine .inl ⟨_, _, byX rfl (Sound1.pl (h17) rfl), ?_⟩
            conv => whnf
            refine ifB_dec (fun w1 => ?_) (fun w1 => ?_)
            · (exfalso; omega)
            · conv => whnf
              refine .inl ⟨_, _, byX rfl (h19p), ?_⟩
              conv => whnf
              refine .inl ⟨_, _, byX rfl (Sound1.pl (h18) rfl), ?_⟩
              conv => whnf
              refine .inl ⟨_, _, byX rfl (h19p), ?_⟩
              conv => whnf
              refine .inl ⟨_, _, byX rfl (h19l), ?_⟩
              conv => whnf
              refine .inl ⟨_, _, byX rfl (h20), ?_⟩
              conv => whnf
              refine .inl ⟨_, _, byX rfl (Sound1.pl (h21) rfl), ?_⟩
              conv => whnf
              refine .inl ⟨_, _, byX rfl (Sound1.pl (h22) rfl), ?_⟩
              conv => whnf
              refine ⟨[], by kernel_rfl, ?_⟩
              conv => whnf
              refine .inl ⟨_, _, byX rfl (Sound1.pl (h23) rfl), ?_⟩
              conv => whnf
              refine ifB_not ?_
              conv => whnf
              refine ifB_veq2 (fun w2 => ?_) (fun w2 => ?_)
              · conv => whnf
                refine .inl ⟨_, _, byX rfl (Sound1.pl (h24) rfl), ?_⟩
                conv => whnf
                refine .inl ⟨_, _, byX rfl (h25), ?_⟩
                conv => whnf
                refine .inl ⟨_, _, byX rfl (Sound1.pl (h26) rfl), ?_⟩
                conv => whnf
                refine ⟨?_, nofun⟩
                (first | rfl | exact endb (by simp))
              · (exfalso; omega)
          | false =>
            rw [hq, if_neg (by nofun), if_neg (by decide)] at h20
            rw [hq, if_neg (by nofun)] at h25
            refine sound (d := 2) tok2 mixed2 Tryz.func3 (by kernel_rfl) (by kernel_rfl) ?_
            conv => whnf
            refine .inl ⟨_, _, byX rfl (Sound1.pl (S16) rfl), ?_⟩
            conv => whnf
            refine .inl ⟨_, _, byX rfl (Sound1.pl (h17) rfl), ?_⟩
            conv => whnf
            refine ifB_dec (fun w1 => ?_) (fun w1 => ?_)
            · (exfalso; omega)
            · conv => whnf
              refine .inl ⟨_, _, byX rfl (h19p), ?_⟩
              conv => whnf
              refine .inl ⟨_, _, byX rfl (Sound1.pl (h18) rfl), ?_⟩
              conv => whnf
              refine .inl ⟨_, _, byX rfl (h19p), ?_⟩
              conv => whnf
              refine .inl ⟨_, _, byX rfl (h19l), ?_⟩
              conv => whnf
              refine .inl ⟨_, _, byX rfl (h20), ?_⟩
              conv => whnf
              refine .inl ⟨_, _, byX rfl (Sound1.pl (h21) rfl), ?_⟩
              conv => whnf
              refine .inl ⟨_, _, byX rfl (Sound1.pl (h22) rfl), ?_⟩
              conv => whnf
              refine ⟨[], by kernel_rfl, ?_⟩
              conv => whnf
              refine .inl ⟨_, _, byX rfl (Sound1.pl (h23) rfl), ?_⟩
              conv => whnf
              refine ifB_not ?_
              conv => whnf
              refine ifB_veq2 (fun w2 => ?_) (fun w2 => ?_)
              · conv => whnf
                refine .inl ⟨_, _, byX rfl (Sound1.pl (h24) rfl), ?_⟩
                conv => whnf
                refine .inl ⟨_, _, byX rfl (h25), ?_⟩
                conv => whnf
                refine ⟨?_, nofun⟩
                (first | rfl | exact endb (by simp))
              · (exfalso; omega)
        · rw [if_neg hf] at h18
          cases hq : quadB p l with
          | true =>
            rw [hq, if_pos rfl, if_pos rfl] at h20
            rw [hq, if_pos rfl] at h25
            refine sound (d := 2) tok2 mixed2 Tryz.func3 (by kernel_rfl) (by kernel_rfl) ?_
            conv => whnf
            refine .inl ⟨_, _, byX rfl (Sound1.pl (S16) rfl), ?_⟩
            conv => whnf
            refine .inl ⟨_, _, byX rfl (Sound1.pl (h17) rfl), ?_⟩
            conv => whnf
            refine ifB_dec (fun w1 => ?_) (fun w1 => ?_)
            · (exfalso; omega)
            · conv => whnf
              refine .inl ⟨_, _, byX rfl (h19p), ?_⟩
              conv => whnf
              refine .inl ⟨_, _, byX rfl (Sound1.pl (h18) rfl), ?_⟩
              conv => whnf
              refine .inl ⟨_, _, byX rfl (h19p), ?_⟩
              conv => whnf
              refine .inl ⟨_, _, byX rfl (h19l), ?_⟩
              conv => whnf
              refine .inl ⟨_, _, byX rfl (h20), ?_⟩
              conv => whnf
              refine .inl ⟨_, _, byX rfl (Sound1.pl (h21) rfl), ?_⟩
              conv => whnf
              refine .inl ⟨_, _, byX rfl (Sound1.pl (h22) rfl), ?_⟩
              conv => whnf
              refine ⟨[], by kernel_rfl, ?_⟩
              conv => whnf
              refine ifB_bne (fun w2 => ?_) (fun w2 => ?_)
              · conv => whnf
                refine ifB_bne (fun w3 => ?_) (fun w3 => ?_)
                · (exfalso; omega)
                · conv => whnf
                  refine ifB_beq (fun w4 => ?_) (fun w4 => ?_)
                  · (exfalso; omega)
                  · conv => whnf
                    refine .inl ⟨_, _, byX rfl (Sound1.pl (h24) rfl), ?_⟩
                    conv => whnf
                    refine .inl ⟨_, _, byX rfl (h25), ?_⟩
                    conv => whnf
                    refine .inl ⟨_, _, byX rfl (Sound1.pl (h26) rfl), ?_⟩
                    conv => whnf
                    refine ⟨?_, nofun⟩
                    (first | rfl | exact endb (by simp))
              · (exfalso; omega)
          | false =>
            rw [hq, if_neg (by nofun), if_neg (by decide)] at h20
            rw [hq, if_neg (by nofun)] at h25
            refine sound (d := 2) tok2 mixed2 Tryz.func3 (by kernel_rfl) (by kernel_rfl) ?_
            conv => whnf
            refine .inl ⟨_, _, byX rfl (Sound1.pl (S16) rfl), ?_⟩
            conv => whnf
            refine .inl ⟨_, _, byX rfl (Sound1.pl (h17) rfl), ?_⟩
            conv => whnf
            refine ifB_dec (fun w1 => ?_) (fun w1 => ?_)
            · (exfalso; omega)
            · conv => whnf
              refine .inl ⟨_, _, byX rfl (h19p), ?_⟩
              conv => whnf
              refine .inl ⟨_, _, byX rfl (Sound1.pl (h18) rfl), ?_⟩
              conv => whnf
              refine .inl ⟨_, _, byX rfl (h19p), ?_⟩
              conv => whnf
              refine .inl ⟨_, _, byX rfl (h19l), ?_⟩
              conv => whnf
              refine .inl ⟨_, _, byX rfl (h20), ?_⟩
              conv => whnf
              refine .inl ⟨_, _, byX rfl (Sound1.pl (h21) rfl), ?_⟩
              conv => whnf
              refine .inl ⟨_, _, byX rfl (Sound1.pl (h22) rfl), ?_⟩
              conv => whnf
              refine ⟨[], by kernel_rfl, ?_⟩
              conv => whnf
              refine ifB_bne (fun w2 => ?_) (fun w2 => ?_)
              · conv => whnf
                refine ifB_bne (fun w3 => ?_) (fun w3 => ?_)
                · (exfalso; omega)
                · conv => whnf
                  refine ifB_beq (fun w4 => ?_) (fun w4 => ?_)
                  · (exfalso; omega)
                  · conv => whnf
                    refine .inl ⟨_, _, byX rfl (Sound1.pl (h24) rfl), ?_⟩
                    conv => whnf
                    refine .inl ⟨_, _, byX rfl (h25), ?_⟩
                    conv => whnf
                    refine ⟨?_, nofun⟩
                    (first | rfl | exact endb (by simp))
              · (exfalso; omega)
      · rw [if_pos hg, if_neg hg] at h20
        by_cases hf : freqE w = 0
        · have hw : 0 ≤ w ∧ w ≤ 1000 := by
            unfold freqE at hf
            split at hf
            · assumption
            · exact absurd hf (by decide)
          have h23 := S23 p w hp hw
          rw [hf, if_pos rfl] at h18
          rw [hf] at h22
          refine sound (d := 2) tok2 mixed2 Tryz.func3 (by kernel_rfl) (by kernel_rfl) ?_
          conv => whnf
          refine .inl ⟨_, _, byX rfl (Sound1.pl (S16) rfl), ?_⟩
          conv => whnf
          refine .inl ⟨_, _, byX rfl (Sound1.pl (h17) rfl), ?_⟩
          conv => whnf
          refine ifB_dec (fun w1 => ?_) (fun w1 => ?_)
          · (exfalso; omega)
          · conv => whnf
            refine .inl ⟨_, _, byX rfl (h19p), ?_⟩
            conv => whnf
            refine .inl ⟨_, _, byX rfl (Sound1.pl (h18) rfl), ?_⟩
            conv => whnf
            refine .inl ⟨_, _, byX rfl (h19p), ?_⟩
            conv => whnf
            refine .inl ⟨_, _, byX rfl (h19l), ?_⟩
            conv => whnf
            refine .inl ⟨_, _, byX rfl (h20), ?_⟩
            conv => whnf
            refine .inl ⟨_, _, byX rfl (Sound1.pl (h21) rfl), ?_⟩
            conv => whnf
            refine .inl ⟨_, _, byX rfl (Sound1.pl (h22) rfl), ?_⟩
            conv => whnf
            refine ⟨[], by kernel_rfl, ?_⟩
            conv => whnf
            refine .inl ⟨_, _, byX rfl (Sound1.pl (h23) rfl), ?_⟩
            conv => whnf
            refine ifB_not ?_
            conv => whnf
            refine ifB_veq2 (fun w2 => ?_) (fun w2 => ?_)
            · conv => whnf
              refine .inl ⟨_, _, byX rfl (Sound1.pl (h24) rfl), ?_⟩
              conv => whnf
              refine ifB_bne (fun w3 => ?_) (fun w3 => ?_)
              · conv => whnf
                refine ifB_beq (fun w4 => ?_) (fun w4 => ?_)
                · conv => whnf
                  refine ⟨?_, nofun⟩
                  (first | rfl | exact endb (by simp))
                · (exfalso; omega)
              · (exfalso; omega)
            · (exfalso; omega)
        · rw [if_neg hf] at h18
          refine sound (d := 2) tok2 mixed2 Tryz.func3 (by kernel_rfl) (by kernel_rfl) ?_
          conv => whnf
          refine .inl ⟨_, _, byX rfl (Sound1.pl (S16) rfl), ?_⟩
          conv => whnf
          refine .inl ⟨_, _, byX rfl (Sound1.pl (h17) rfl), ?_⟩
          conv => whnf
          refine ifB_dec (fun w1 => ?_) (fun w1 => ?_)
          · (exfalso; omega)
          · conv => whnf
            refine .inl ⟨_, _, byX rfl (h19p), ?_⟩
            conv => whnf
            refine .inl ⟨_, _, byX rfl (Sound1.pl (h18) rfl), ?_⟩
            conv => whnf
            refine .inl ⟨_, _, byX rfl (h19p), ?_⟩
            conv => whnf
            refine .inl ⟨_, _, byX rfl (h19l), ?_⟩
            conv => whnf
            refine .inl ⟨_, _, byX rfl (h20), ?_⟩
            conv => whnf
            refine .inl ⟨_, _, byX rfl (Sound1.pl (h21) rfl), ?_⟩
            conv => whnf
            refine .inl ⟨_, _, byX rfl (Sound1.pl (h22) rfl), ?_⟩
            conv => whnf
            refine ⟨[], by kernel_rfl, ?_⟩
            conv => whnf
            refine ifB_bne (fun w2 => ?_) (fun w2 => ?_)
            · conv => whnf
              refine ifB_bne (fun w3 => ?_) (fun w3 => ?_)
              · (exfalso; omega)
              · conv => whnf
                refine ifB_beq (fun w4 => ?_) (fun w4 => ?_)
                · (exfalso; omega)
                · conv => whnf
                  refine .inl ⟨_, _, byX rfl (Sound1.pl (h24) rfl), ?_⟩
                  conv => whnf
                  refine ifB_bne (fun w5 => ?_) (fun w5 => ?_)
                  · conv => whnf
                    refine ifB_beq (fun w6 => ?_) (fun w6 => ?_)
                    · conv => whnf
                      refine ⟨?_, nofun⟩
                      (first | rfl | exact endb (by simp))
                    · (exfalso; omega)
                  · (exfalso; omega)
            · (exfalso; omega)
    · have e1 : valE p w = polyE p := if_pos h0
      have e2 : quadE p l = polyE p := if_pos h0
      rw [e1, if_neg h0] at h18
      rw [e2, if_neg h0] at h20
      refine sound (d := 2) tok2 mixed2 Tryz.func3 (by kernel_rfl) (by kernel_rfl) ?_
      conv => whnf
      refine .inl ⟨_, _, byX rfl (Sound1.pl (S16) rfl), ?_⟩
      conv => whnf
      refine .inl ⟨_, _, byX rfl (Sound1.pl (h17) rfl), ?_⟩
      conv => whnf
      refine ifB_dec (fun w1 => ?_) (fun w1 => ?_)
      · (exfalso; omega)
      · conv => whnf
        refine .inl ⟨_, _, byX rfl (h19p), ?_⟩
        conv => whnf
        refine .inl ⟨_, _, byX rfl (Sound1.pl (h18) rfl), ?_⟩
        conv => whnf
        refine .inl ⟨_, _, byX rfl (h19p), ?_⟩
        conv => whnf
        refine .inl ⟨_, _, byX rfl (h19l), ?_⟩
        conv => whnf
        refine .inl ⟨_, _, byX rfl (h20), ?_⟩
        conv => whnf
        refine .inl ⟨_, _, byX rfl (Sound1.pl (h21) rfl), ?_⟩
        conv => whnf
        refine ifB_bne (fun w2 => ?_) (fun w2 => ?_)
        · conv => whnf
          refine ifB_beq (fun w3 => ?_) (fun w3 => ?_)
          · conv => whnf
            refine ifB_beq (fun w4 => ?_) (fun w4 => ?_)
            · conv => whnf
              refine ⟨?_, nofun⟩
              (first | rfl | exact endb (by simp))
            · (exfalso; omega)
          · (exfalso; omega)
        · (exfalso; omega)
  · refine sound (d := 2) tok2 mixed2 Tryz.func3 (by kernel_rfl) (by kernel_rfl) ?_
    conv => whnf
    refine .inl ⟨_, _, byX rfl (Sound1.pl (S16) rfl), ?_⟩
    conv => whnf
    refine .inl ⟨_, _, byX rfl (Sound1.pl (h17) rfl), ?_⟩
    conv => whnf
    refine ifB_not ?_
    conv => whnf
    refine ifB_dec (fun w1 => ?_) (fun w1 => ?_)
    · conv => whnf
      refine ifB_dec (fun w2 => ?_) (fun w2 => ?_)
      · conv => whnf
        refine ⟨?_, nofun⟩
        (first | rfl | (exfalso; omega))
      · (exfalso; omega)
    · conv => whnf
      refine ⟨?_, nofun⟩
      (first | rfl | (exfalso; omega))
end Go.Tr

/- Plain laws: tables of multiples; which tables are accepted. Conditions: none. -/
namespace Go.Tr
open Go Go.Proofs
set_option maxRecDepth 20000
set_option maxHeartbeats 8000000

theorem gcd_scale (c : Int) : ∀ (l : List Int) (g : Nat), (l.map (c * ·)).foldl (fun g x => Nat.gcd g x.natAbs) (c.natAbs * g) = c.natAbs * l.foldl (fun g x => Nat.gcd g x.natAbs) g
  | [], _ => rfl
  | x :: l, g => by
    have e : Nat.gcd (c.natAbs * g) (c * x).natAbs = c.natAbs * Nat.gcd g x.natAbs := by rw [Int.natAbs_mul, Nat.gcd_mul_left]
    show (l.map (c * ·)).foldl (fun g x => Nat.gcd g x.natAbs) (Nat.gcd (c.natAbs * g) (c * x).natAbs) = _
    rw [e]
    exact gcd_scale c l _
theorem gcdR_scale (c : Int) (l : List Int) : gcdR (l.map (c * ·)) = c.natAbs * gcdR l := gcd_scale c l 0
theorem gcdR_zero {l : List Int} (h : gcdR l = 0) : ∀ x ∈ l, x = 0 := fun x hx => by
  have h1 := (gcd_fold l 0).2 x hx
  have h2 : gcdR l ∣ x.natAbs := h1
  rw [h] at h2
  have := Nat.eq_zero_of_zero_dvd h2
  omega
theorem redL_scale {c : Int} (hc : 0 < c) (l : List Int) : redL (l.map (c * ·)) = redL l := by
  unfold redL
  rw [gcdR_scale]
  by_cases h : gcdR l = 0
  · rw [h, Nat.mul_zero, if_pos rfl, if_pos rfl]
    have hz := gcdR_zero h
    have : l.map (c * ·) = l.map id := List.map_congr_left fun x hx => by rw [hz x hx]; simp
    rw [this, List.map_id]
  · have hne : c.natAbs * gcdR l ≠ 0 := Nat.mul_ne_zero (by omega) h
    rw [if_neg h, if_neg hne, List.map_map]
    refine List.map_congr_left fun x _ => ?_
    show (c * x).tdiv ((c.natAbs * gcdR l : Nat) : Int) = x.tdiv (gcdR l : Nat)
    rw [Int.natCast_mul, show ((c.natAbs : Nat) : Int) = c by omega]
    exact Int.mul_tdiv_mul_of_pos x _ hc
theorem entL_map (c : Int) (p : List Int) (i : Nat) : entL (p.map (c * ·)) i = c * entL p i := by
  unfold entL
  by_cases h : i < p.length
  · rw [map_getD _ p i h]
  · rw [List.getD_eq_getElem?_getD, List.getD_eq_getElem?_getD, List.getElem?_eq_none (by simp; omega), List.getElem?_eq_none (by omega)]
    simp
theorem next_scale {c : Int} (hc : 0 < c) (p : List Int) (R : List (List Int)) : nextL (p.map (c * ·)) R = nextL p R := by
  unfold nextL
  by_cases h : R.length < 2
  · have e : rawL (p.map (c * ·)) R = (rawL p R).map (c * ·) := by
      unfold rawL
      rw [List.length_map, List.map_map]
      refine List.map_congr_left fun j _ => ?_
      show rowAt (p.map (c * ·)) R j = c * rowAt p R j
      unfold rowAt
      rw [if_pos h, if_pos h, entL_map]
    rw [e, redL_scale hc]
  · have e : rawL (p.map (c * ·)) R = rawL p R := by
      unfold rawL
      rw [List.length_map]
      refine List.map_congr_left fun j _ => ?_
      unfold rowAt
      rw [if_neg h, if_neg h]
    rw [e]
theorem tabG_scale {c : Int} (hc : 0 < c) (p : List Int) : ∀ (n : Nat) (R : List (List Int)), tabG (p.map (c * ·)) n R = tabG p n R
  | 0, _ => rfl
  | n + 1, R => by
    unfold tabG
    rw [next_scale hc, tabG_scale hc p n]
theorem tab_scale {c : Int} (hc : 0 < c) (p : List Int) : tabL (p.map (c * ·)) = tabL p := by
  unfold tabL
  rw [List.length_map]
  exact tabG_scale hc p _ _
theorem stab_scale {c : Int} (hc : 0 < c) (p : List Int) : stabB (p.map (c * ·)) = stabB p := by
  unfold stabB
  rw [tab_scale hc, List.length_map]
/-- Each row of the table is the next one; all but the last begin above 0. -/
theorem tabG_rows (p : List Int) : ∀ (n : Nat) (R : List (List Int)) (k : Nat), R.length ≤ k → k < (tabG p n R).length → (tabG p n R).getD k [] = nextL p ((tabG p n R).take k) ∧ (k + 1 < (tabG p n R).length → 0 < ((tabG p n R).getD k []).getD 0 0)
  | 0, R, k, h1, h2 => absurd h2 (by show ¬ k < R.length; omega)
  | n + 1, R, k, h1, h2 => by
    by_cases h0 : (nextL p R).getD 0 0 ≤ 0
    · have e : tabG p (n + 1) R = R ++ [nextL p R] := if_pos h0
      rw [e] at h2 ⊢
      have hk : k = R.length := by simp at h2; omega
      subst hk
      refine ⟨by simp [List.getD_eq_getElem?_getD], fun h => absurd h (by simp)⟩
    · have e : tabG p (n + 1) R = tabG p n (R ++ [nextL p R]) := if_neg h0
      rw [e] at h2 ⊢
      by_cases hk : k = R.length
      · obtain ⟨E, hE⟩ := tabG_pre (p := p) n (R ++ [nextL p R])
        rw [hE, hk]
        refine ⟨by simp [List.getD_eq_getElem?_getD], fun _ => ?_⟩
        have : (R ++ [nextL p R] ++ E).getD R.length [] = nextL p R := by simp [List.getD_eq_getElem?_getD]
        rw [this]
        omega
      · exact tabG_rows p n (R ++ [nextL p R]) k (by simp; omega) h2
theorem eachL_all {g : Nat → List Int → Int} : ∀ (l : List (List Int)) (k : Nat), (∀ i, i < l.length → g (k + i) (l.getD i []) = 0) → eachL g l k = (0, 0)
  | [], _, _ => rfl
  | x :: l, k, h => by
    have h0 : g k x = 0 := h 0 (by simp)
    unfold eachL
    rw [if_pos h0]
    refine eachL_all l (k + 1) fun i hi => ?_
    have := h (i + 1) (by simpa using hi)
    rw [show k + 1 + i = k + (i + 1) by omega]
    exact this
theorem eachL_err {g : Nat → List Int → Int} (hg : ∀ k x, g k x = 0 ∨ g k x = 19) : ∀ (l : List (List Int)) (k : Nat), (∃ i, i < l.length ∧ g (k + i) (l.getD i []) ≠ 0) → (eachL g l k).2 = 19
  | [], _, ⟨i, hi, _⟩ => absurd hi (Nat.not_lt_zero i)
  | x :: l, k, ⟨i, hi, h⟩ => by
    unfold eachL
    by_cases h0 : g k x = 0
    · rw [if_pos h0]
      refine eachL_err hg l (k + 1) ?_
      match i, hi, h with
      | 0, _, h => exact absurd h0 h
      | i + 1, hi, h => exact ⟨i, by simpa using hi, by rw [show k + 1 + i = k + (i + 1) by omega]; exact h⟩
    · rw [if_neg h0]
      rcases hg k x with e | e
      · exact absurd e h0
      · exact e
theorem chk_tab {p : List Int} (hp : PolyOk p) : (stabB p = true → chkT p (tabL p) = (0, 0)) ∧ (stabB p = false → (chkT p (tabL p)).2 = 19 ∨ (chkT p (tabL p)).2 = 10) := by
  have hrow : ∀ k, k < (tabL p).length → (tabL p).getD k [] = nextL p ((tabL p).take k) ∧ (k + 1 < (tabL p).length → 0 < ((tabL p).getD k []).getD 0 0) := fun k hk => tabG_rows p p.length [] k (Nat.zero_le _) hk
  have hg : ∀ k x, rowE p (tabL p) k x = 0 ∨ rowE p (tabL p) k x = 19 := fun k x => by unfold rowE; split <;> simp
  unfold chkT stabB
  by_cases hl : (tabL p).length = p.length
  · rw [if_pos hl, decide_eq_true hl, Bool.true_and]
    have h2 := hp.p2
    constructor
    · intro h
      rw [decide_eq_true_eq] at h
      refine eachL_all _ 0 fun i hi => ?_
      rw [Nat.zero_add]
      have h1 := hrow i hi
      refine if_pos ⟨h1.1, ?_⟩
      by_cases hi2 : i + 1 < (tabL p).length
      · exact h1.2 hi2
      · rw [show i = (tabL p).length - 1 by omega]
        exact h
    · intro h
      rw [decide_eq_false_iff_not] at h
      refine .inl (eachL_err hg _ 0 ⟨(tabL p).length - 1, by omega, ?_⟩)
      rw [Nat.zero_add]
      intro h3
      exact h (rowE_zero h3).2
  · rw [if_neg hl, decide_eq_false hl, Bool.false_and]
    exact ⟨fun h => absurd h (by nofun), fun _ => .inr rfl⟩
theorem eachI_zero {g : Nat → Int → Int} : ∀ (l : List Int) (k : Nat), (∀ i, i < l.length → g (k + i) (l.getD i 0) = 0) → eachI g l k = (0, 0)
  | [], _, _ => rfl
  | x :: l, k, h => by
    have h0 : g k x = 0 := h 0 (by simp)
    unfold eachI
    rw [if_pos h0]
    refine eachI_zero l (k + 1) fun i hi => ?_
    have := h (i + 1) (by simpa using hi)
    rw [show k + 1 + i = k + (i + 1) by omega]
    exact this
theorem gridE_ok {l : List Int} (h : GridOk l) : gridE l = 0 := by
  have hn := h.n
  have he : eachI (grE l) l 0 = (0, 0) := eachI_zero l 0 fun i hi => by
    rw [Nat.zero_add]
    have hf : freqE (l.getD i 0) = 0 := if_pos (h.rg i hi)
    unfold grE
    rw [first2, if_neg (not_not_intro hf), if_pos]
    by_cases h0 : i = 0
    · exact .inl h0
    · have := h.up (i - 1) (by omega)
      rw [show i - 1 + 1 = i by omega] at this
      exact .inr this
  unfold gridE
  rw [if_neg (by omega), he]
end Go.Tr

/- The law GovernorTwoWays returns true. Conditions: none. -/
namespace Go.Tr
open Go Go.Proofs
set_option maxRecDepth 20000
set_option maxHeartbeats 8000000

theorem S21w' (l : List Int) (hl : l.length ≤ 9223372036854775807) : SP 21 [ints l] (i64 (polyE l)) false := by
  by_cases h : l.length ≤ 1000000
  · exact S21 l h
  · have h97 := S97 l.length
    have hs : shapeE l.length = 8 := by unfold shapeE; (repeat' split) <;> omega
    have hp : polyE l = 8 := by unfold polyE; rw [hs, if_pos (by decide)]
    rw [hs] at h97
    rw [hp]
    refine sound (d := 2) tok2 mixed2 Tryz.func21 (by kernel_rfl) (by kernel_rfl) ?_
    conv => whnf
    refine .inl ⟨_, _, byX rfl (Sound1.pl (h97) rfl), ?_⟩
    conv => whnf
    refine ⟨?_, nofun⟩
    rfl
theorem ints_n' {P : List Int} {n : Nat} (h : P.length = n) : ints P = .rslice 1 n fun i => [i64 (P.getD i 0)] := by
  subst h; rfl
theorem poly_ok' {p : List Int} (h : PolyOk p) : polyE p = 0 := by
  have h2 := h.p2
  have hs : shapeE p.length = 0 := by unfold shapeE; (repeat' split) <;> omega
  have hz : ∀ (l : List Int) (k : Nat), Sml 1000 l → eachI (fun _ x => coefE x) l k = (0, 0) := fun l => by
    induction l with
    | nil => intro k _; rfl
    | cons x l ih =>
      intro k h
      have hx := h x (by simp)
      have : coefE x = 0 := if_pos (by omega)
      unfold eachI
      rw [if_pos this]
      exact ih _ fun y hy => h y (by simp [hy])
  unfold polyE coefsE
  rw [if_neg (not_not_intro hs), hz p 0 h.ps, if_neg (by simp), if_pos h.p0]
/-- Quadrants of a stable polynomial on a grid that begins with 0. -/
theorem quad_laws {p G : List Int} (hp : PolyOk p) (h : stabB p = true) (hg : GridOk G) (h0 : G.getD 0 0 = 0) : quadE p G = 0 ∧ ∀ i, i < G.length → (0 ≤ (quadL p G).getD i 0 ∧ (quadL p G).getD i 0 ≤ (p.length : Int) - 2) ∧ (i = 0 → (quadL p G).getD i 0 = 0) ∧ (0 < i → (quadL p G).getD (i - 1) 0 ≤ (quadL p G).getD i 0) := by
  have ht := turns hp.p2 h
  have hpe : polyE p = 0 := poly_ok' hp
  have hat : ∀ i, i < G.length → (quadL p G).getD i 0 = qdV (valV p (G.getD i 0)) := fun i hi => by
    unfold quadL
    rw [List.getD_eq_getElem?_getD, List.getElem?_map, List.getElem?_eq_getElem hi]
    simp [List.getD_eq_getElem?_getD, hi]
  have hgE : gridE G = 0 := gridE_ok hg
  refine ⟨?_, fun i hi => ⟨?_, fun h => ?_, fun h => ?_⟩⟩
  · unfold quadE
    rw [if_neg (not_not_intro hpe), if_neg (not_not_intro hgE), if_pos]
    unfold quadB
    rw [List.all_eq_true]
    intro x hx
    obtain ⟨i, hi, rfl⟩ := List.getElem_of_mem hx
    have h1 := hg.rg i hi
    rw [show G.getD i 0 = G[i] by simp [List.getD_eq_getElem?_getD, hi]] at h1
    exact decide_eq_true (ht.nz _ h1.1)
  · rw [hat i hi]
    exact ⟨qd_nn _, ht.hi _ (hg.rg i hi).1⟩
  · subst h
    rw [hat 0 hi, h0]
    exact ht.zero
  · rw [hat i hi, hat (i - 1) (by omega)]
    have h1 := hg.up (i - 1) (by omega)
    rw [show i - 1 + 1 = i by omega] at h1
    exact ht.mono _ _ (hg.rg (i - 1) (by omega)).1 h1
theorem cons_row (l : List Int) (i : Nat) : (if i < 1 then List.take (0 + 1) (List.drop ((0 + i) * (0 + 1)) [i64 0]) else [i64 (l.getD (i - 1) 0)]) = [i64 ((0 :: l).getD i 0)] := by
  match i with
  | 0 => rfl
  | i + 1 =>
    rw [if_neg (by omega), show i + 1 - 1 = i by omega]
    rfl
theorem one_row (i : Nat) (h : i < 1) : List.take (0 + 1) (List.drop (i * (0 + 1)) [i64 0]) = [i64 (([0] : List Int).getD i 0)] := by
  rw [show i = 0 by omega]
  rfl
theorem SPg {F : Nat} {G : List Int} {r : AV} {n : Nat} (h : SP F [ints G] r false) (hn : n = G.length) (f : Nat → List AV) (hf : ∀ i, i < n → f i = [i64 (G.getD i 0)]) : SP F [.rslice 1 n f] r false := by
  refine h.argsD rfl fun i y x hy hx => ?_
  match i, hy, hx with
  | 0, hy, hx => cases hy; cases hx; exact .inr ⟨1, AVF_rows hn hf 0⟩
theorem SPg2 {F : Nat} {p G : List Int} {r : AV} {n : Nat} (h : SP F [ints p, ints G] r false) (hn : n = G.length) (f : Nat → List AV) (hf : ∀ i, i < n → f i = [i64 (G.getD i 0)]) : SP F [ints p, .rslice 1 n f] r false := by
  refine h.argsD rfl fun i y x hy hx => ?_
  match i, hy, hx with
  | 0, hy, hx => cases hy; cases hx; exact .inl rfl
  | 1, hy, hx => cases hy; cases hx; exact .inr ⟨1, AVF_rows hn hf 0⟩
theorem tab_ne {p : List Int} (hp : PolyOk p) : (tabL p).length ≠ 0 := by
  have h2 := hp.p2
  unfold tabL
  obtain ⟨n, hn⟩ : ∃ n, p.length = n + 1 := ⟨p.length - 1, by omega⟩
  rw [hn]
  unfold tabG
  split
  · simp
  · obtain ⟨E, hE⟩ := tabG_pre (p := p) n ([] ++ [nextL p []])
    rw [hE]; simp
theorem S10n (p l : List Int) (t : Int) (h0 : polyE p = 0) (hg : gridE l = 0) (hsb : stabB p = false) : SP 10 [ints p, ints l, i64 t] (vb true) false := by
  have hp := PolyOk.of h0
  have hpn := hp.len
  have hp1 : p.length ≤ 1000000 := by omega
  have hgo := GridOk.of hg
  have hgn := hgo.n
  have h21 := S21w' p (by omega)
  have h24 := S24 l (by omega)
  rw [h0] at h21
  rw [hg] at h24
  have h19 := S19 p hp1
  have h37 := S37 p hp1
  have h61 := S61 p hp1
  rw [h0, if_pos rfl, hsb] at h37
  rw [h0, if_pos rfl] at h61
  have ht := tab_small hp
  have hti := tab_in hp
  have htl := hti.le
  have htn : (tabL p).length ≠ 0 := tab_ne hp
  have h63 := S63 (tabL p) (by omega) ht.2
  have h62 := S62 p hp1 (tabL p) (by omega) ht.2
  rw [if_pos h0, if_pos h0] at h62
  have h32 := S32 (tabL p) (tabL p) (by omega) (by omega) ht.2 ht.2
  rw [decide_eq_true rfl] at h32
  have hc := (chk_tab hp).2 hsb
  generalize (chkT p (tabL p)).1 = c1 at h62
  rcases hc with hc | hc
  · rw [hc] at h62
    refine sound (d := 2) tok2 mixed2 Tryz.func10 (by kernel_rfl) (by kernel_rfl) ?_
    conv => whnf
    refine .inl ⟨_, _, byX rfl (Sound1.pl (S16) rfl), ?_⟩
    conv => whnf
    refine .inl ⟨_, _, byX rfl (Sound1.pl (h21) rfl), ?_⟩
    conv => whnf
    refine .inl ⟨_, _, byX rfl (Sound1.pl (h24) rfl), ?_⟩
    conv => whnf
    refine .inl ⟨_, _, byX rfl (h19), ?_⟩
    conv => whnf
    refine .inl ⟨_, _, byX rfl (Sound1.pl (h37) rfl), ?_⟩
    conv => whnf
    refine .inl ⟨_, _, byX rfl (h19), ?_⟩
    conv => whnf
    refine .inl ⟨_, _, byX rfl (h61), ?_⟩
    conv => whnf
    refine ifB_beq (fun w1 => ?_) (fun w1 => ?_)
    · (exfalso; omega)
    · conv => whnf
      refine ifB_dec (fun w2 => ?_) (fun w2 => ?_)
      · (exfalso; omega)
      · conv => whnf
        refine .inl ⟨_, _, byX rfl (h19), ?_⟩
        conv => whnf
        refine .inl ⟨_, _, byX rfl (h63), ?_⟩
        conv => whnf
        refine .inl ⟨_, _, byX rfl (Sound1.pl (h62) rfl), ?_⟩
        conv => whnf
        refine .inl ⟨_, _, byX rfl (Sound1.pl (S68 _ _ _) rfl), ?_⟩
        conv => whnf
        refine ifB_not ?_
        conv => whnf
        refine ifB_dec (fun w3 => ?_) (fun w3 => ?_)
        · have hby : 1 ≤ t ∧ t ≤ 10 := by assumption
          conv => whnf
          refine ⟨[.slot 18 1], [0, 2, 7, 9, 18, 19], fun st mq => ∃ (k : Nat) (O : List Int), (k ≤ p.length) ∧ (O = (p.take k).map (t * ·)) ∧ (Sml 100 (p.take k)) ∧ st = ⟨[(0, ints p), (2, i64 t), (7, vb false), (9, listsA (tabL p)), (18, .oslice 0 0 0 k none), (19, i64 k)], ⟨[⟨1, k, fun i => [i64 (O.getD i 0)], 0, false, true, false⟩], [], none, 0⟩, []⟩ ∧ mq = p.length - k,
            ⟨_, _, ⟨0, [], by omega, rfl, (fun x hx => absurd hx (by simp)), rfl, rfl⟩, ⟨⟨.inl rfl, rfl, rfl, rfl⟩, ⟨⟨rfl, rfl, rfl, rfl, fun _ => rfl, fun i h => .inl (absurd h (Nat.not_lt_zero i))⟩, trivial⟩, trivial⟩⟩, ?_⟩
          rintro s0 m0 ⟨k, O, hk, hO, hs, rfl, hmeas⟩
          by_cases hlt : k < p.length
          · have h68k := S68 (p.getD (k : Int).toNat 0) (-100) 100
            have hOl : O.length = k := by rw [hO]; simp; omega
            by_cases hx : -100 ≤ p.getD k 0 ∧ p.getD k 0 ≤ 100
            · have hx' : -100 ≤ p.getD (k : Int).toNat 0 ∧ p.getD (k : Int).toNat 0 ≤ 100 := hx
              have hm := mul_sml (show t.natAbs ≤ 10 by omega) (show (p.getD (k : Int).toNat 0).natAbs ≤ 100 by omega)
              conv => whnf
              conv => whnf
              refine ifB_dec (fun w4 => ?_) (fun w4 => ?_)
              · conv => whnf
                conv => whnf
                refine ⟨⟨(by omega), (by omega)⟩, ?_⟩
                conv => whnf
                conv => whnf
                refine .inl ⟨_, _, byX rfl (Sound1.pl (h68k) rfl), ?_⟩
                conv => whnf
                conv => whnf
                refine ifB_not ?_
                conv => whnf
                conv => whnf
                refine ifB_dec (fun w5 => ?_) (fun w5 => ?_)
                · conv => whnf
                  conv => whnf
                  refine ⟨⟨(by omega), (by omega)⟩, ?_⟩
                  conv => whnf
                  conv => whnf
                  refine ⟨inK64 (by omega) (by omega), ?_⟩
                  conv => whnf
                  conv => whnf
                  refine .inl ?_
                  conv => whnf
                  conv => whnf
                  refine ⟨(by show _ * (8 + 1) ≤ _; omega), ?_⟩
                  conv => whnf
                  conv => whnf
                  refine ⟨inK64 (by omega) (by omega), ?_⟩
                  conv => whnf
                  conv => whnf
                  refine ⟨_, _, ⟨⟨k + 1, O ++ [t * p.getD k 0], by omega, (by rw [take_snocI hlt, List.map_append, hO]; rfl), (by rw [take_snocI hlt]; intro x h; rcases List.mem_append.1 h with h | h; exact hs x h; rw [List.mem_singleton.1 h]; omega), rfl, rfl⟩, by omega⟩, ⟨⟨.inl rfl, rfl, rfl, rfl⟩, ⟨⟨rfl, rfl, rfl, rfl, fun _ => rfl, fun i hi => .inl (app_row O _ k i hOl hi)⟩, trivial⟩, trivial⟩⟩
                · (exfalso; omega)
              · (exfalso; omega)
            · have hx' : ¬(-100 ≤ p.getD (k : Int).toNat 0 ∧ p.getD (k : Int).toNat 0 ≤ 100) := hx
              conv => whnf
              conv => whnf
              refine ifB_dec (fun w4 => ?_) (fun w4 => ?_)
              · conv => whnf
                conv => whnf
                refine ⟨⟨(by omega), (by omega)⟩, ?_⟩
                conv => whnf
                conv => whnf
                refine .inl ⟨_, _, byX rfl (Sound1.pl (h68k) rfl), ?_⟩
                conv => whnf
                conv => whnf
                refine ifB_not ?_
                conv => whnf
                conv => whnf
                refine ifB_dec (fun w5 => ?_) (fun w5 => ?_)
                · (exfalso; omega)
                · conv => whnf
                  conv => whnf
                  refine ⟨?_, nofun⟩
                  (first | contradiction | rfl)
              · (exfalso; omega)
          · have e : k = p.length := by omega
            subst e
            rw [List.take_length] at hO hs
            have hOl : O.length = p.length := by rw [hO, List.length_map]
            have hOp : PolyOk O := by
              refine ⟨by rw [hOl]; exact hp.p2, fun x hx => ?_, ?_⟩
              · rw [hO] at hx
                obtain ⟨y, hy, rfl⟩ := List.mem_map.1 hx
                exact Nat.le_trans (mul_sml (show t.natAbs ≤ 10 by omega) (hs y hy)) (by decide)
              · rw [hO, map_getD _ _ _ (by have := hp.p2; omega)]
                exact Int.mul_pos (by omega) hp.p0
            have hOe : polyE O = 0 := poly_ok' hOp
            have h19O := S19 O (by omega)
            have h61O := S61 O (by omega)
            have h37O := S37 O (by omega)
            have et : tabL O = tabL p := by rw [hO]; exact tab_scale (by omega) p
            have es : stabB O = stabB p := by rw [hO]; exact stab_scale (by omega) p
            rw [hOe, if_pos rfl, et] at h61O
            rw [hOe, if_pos rfl, es, hsb] at h37O
            rw [ints_n' hOl] at h19O h61O h37O
            conv => whnf
            conv => whnf
            refine ifB_dec (fun w4 => ?_) (fun w4 => ?_)
            · (exfalso; omega)
            · conv => whnf
              conv => whnf
              refine .inl ⟨_, _, byX rfl (h19O), ?_⟩
              conv => whnf
              conv => whnf
              refine .inl ⟨_, _, byX rfl (h61O), ?_⟩
              conv => whnf
              conv => whnf
              refine .inl ⟨_, _, byX rfl (Sound1.pl (h37O) rfl), ?_⟩
              conv => whnf
              conv => whnf
              refine .inl ⟨_, _, byX rfl (Sound1.pl (h32) rfl), ?_⟩
              conv => whnf
              conv => whnf
              refine ⟨?_, nofun⟩
              exact endb (beq_iff_eq.2 rfl)
        · conv => whnf
          refine ⟨?_, nofun⟩
          rfl
  · rw [hc] at h62
    refine sound (d := 2) tok2 mixed2 Tryz.func10 (by kernel_rfl) (by kernel_rfl) ?_
    conv => whnf
    refine .inl ⟨_, _, byX rfl (Sound1.pl (S16) rfl), ?_⟩
    conv => whnf
    refine .inl ⟨_, _, byX rfl (Sound1.pl (h21) rfl), ?_⟩
    conv => whnf
    refine .inl ⟨_, _, byX rfl (Sound1.pl (h24) rfl), ?_⟩
    conv => whnf
    refine .inl ⟨_, _, byX rfl (h19), ?_⟩
    conv => whnf
    refine .inl ⟨_, _, byX rfl (Sound1.pl (h37) rfl), ?_⟩
    conv => whnf
    refine .inl ⟨_, _, byX rfl (h19), ?_⟩
    conv => whnf
    refine .inl ⟨_, _, byX rfl (h61), ?_⟩
    conv => whnf
    refine ifB_beq (fun w1 => ?_) (fun w1 => ?_)
    · (exfalso; omega)
    · conv => whnf
      refine ifB_dec (fun w2 => ?_) (fun w2 => ?_)
      · (exfalso; omega)
      · conv => whnf
        refine .inl ⟨_, _, byX rfl (h19), ?_⟩
        conv => whnf
        refine .inl ⟨_, _, byX rfl (h63), ?_⟩
        conv => whnf
        refine .inl ⟨_, _, byX rfl (Sound1.pl (h62) rfl), ?_⟩
        conv => whnf
        refine .inl ⟨_, _, byX rfl (Sound1.pl (S68 _ _ _) rfl), ?_⟩
        conv => whnf
        refine ifB_not ?_
        conv => whnf
        refine ifB_dec (fun w3 => ?_) (fun w3 => ?_)
        · have hby : 1 ≤ t ∧ t ≤ 10 := by assumption
          conv => whnf
          refine ⟨[.slot 18 1], [0, 2, 7, 9, 18, 19], fun st mq => ∃ (k : Nat) (O : List Int), (k ≤ p.length) ∧ (O = (p.take k).map (t * ·)) ∧ (Sml 100 (p.take k)) ∧ st = ⟨[(0, ints p), (2, i64 t), (7, vb false), (9, listsA (tabL p)), (18, .oslice 0 0 0 k none), (19, i64 k)], ⟨[⟨1, k, fun i => [i64 (O.getD i 0)], 0, false, true, false⟩], [], none, 0⟩, []⟩ ∧ mq = p.length - k,
            ⟨_, _, ⟨0, [], by omega, rfl, (fun x hx => absurd hx (by simp)), rfl, rfl⟩, ⟨⟨.inl rfl, rfl, rfl, rfl⟩, ⟨⟨rfl, rfl, rfl, rfl, fun _ => rfl, fun i h => .inl (absurd h (Nat.not_lt_zero i))⟩, trivial⟩, trivial⟩⟩, ?_⟩
          rintro s0 m0 ⟨k, O, hk, hO, hs, rfl, hmeas⟩
          by_cases hlt : k < p.length
          · have h68k := S68 (p.getD (k : Int).toNat 0) (-100) 100
            have hOl : O.length = k := by rw [hO]; simp; omega
            by_cases hx : -100 ≤ p.getD k 0 ∧ p.getD k 0 ≤ 100
            · have hx' : -100 ≤ p.getD (k : Int).toNat 0 ∧ p.getD (k : Int).toNat 0 ≤ 100 := hx
              have hm := mul_sml (show t.natAbs ≤ 10 by omega) (show (p.getD (k : Int).toNat 0).natAbs ≤ 100 by omega)
              conv => whnf
              conv => whnf
              refine ifB_dec (fun w4 => ?_) (fun w4 => ?_)
              · conv => whnf
                conv => whnf
                refine ⟨⟨(by omega), (by omega)⟩, ?_⟩
                conv => whnf
                conv => whnf
                refine .inl ⟨_, _, byX rfl (Sound1.pl (h68k) rfl), ?_⟩
                conv => whnf
                conv => whnf
                refine ifB_not ?_
                conv => whnf
                conv => whnf
                refine ifB_dec (fun w5 => ?_) (fun w5 => ?_)
                · conv => whnf
                  conv => whnf
                  refine ⟨⟨(by omega), (by omega)⟩, ?_⟩
                  conv => whnf
                  conv => whnf
                  refine ⟨inK64 (by omega) (by omega), ?_⟩
                  conv => whnf
                  conv => whnf
                  refine .inl ?_
                  conv => whnf
                  conv => whnf
                  refine ⟨(by show _ * (8 + 1) ≤ _; omega), ?_⟩
                  conv => whnf
                  conv => whnf
                  refine ⟨inK64 (by omega) (by omega), ?_⟩
                  conv => whnf
                  conv => whnf
                  refine ⟨_, _, ⟨⟨k + 1, O ++ [t * p.getD k 0], by omega, (by rw [take_snocI hlt, List.map_append, hO]; rfl), (by rw [take_snocI hlt]; intro x h; rcases List.mem_append.1 h with h | h; exact hs x h; rw [List.mem_singleton.1 h]; omega), rfl, rfl⟩, by omega⟩, ⟨⟨.inl rfl, rfl, rfl, rfl⟩, ⟨⟨rfl, rfl, rfl, rfl, fun _ => rfl, fun i hi => .inl (app_row O _ k i hOl hi)⟩, trivial⟩, trivial⟩⟩
                · (exfalso; omega)
              · (exfalso; omega)
            · have hx' : ¬(-100 ≤ p.getD (k : Int).toNat 0 ∧ p.getD (k : Int).toNat 0 ≤ 100) := hx
              conv => whnf
              conv => whnf
              refine ifB_dec (fun w4 => ?_) (fun w4 => ?_)
              · conv => whnf
                conv => whnf
                refine ⟨⟨(by omega), (by omega)⟩, ?_⟩
                conv => whnf
                conv => whnf
                refine .inl ⟨_, _, byX rfl (Sound1.pl (h68k) rfl), ?_⟩
                conv => whnf
                conv => whnf
                refine ifB_not ?_
                conv => whnf
                conv => whnf
                refine ifB_dec (fun w5 => ?_) (fun w5 => ?_)
                · (exfalso; omega)
                · conv => whnf
                  conv => whnf
                  refine ⟨?_, nofun⟩
                  (first | contradiction | rfl)
              · (exfalso; omega)
          · have e : k = p.length := by omega
            subst e
            rw [List.take_length] at hO hs
            have hOl : O.length = p.length := by rw [hO, List.length_map]
            have hOp : PolyOk O := by
              refine ⟨by rw [hOl]; exact hp.p2, fun x hx => ?_, ?_⟩
              · rw [hO] at hx
                obtain ⟨y, hy, rfl⟩ := List.mem_map.1 hx
                exact Nat.le_trans (mul_sml (show t.natAbs ≤ 10 by omega) (hs y hy)) (by decide)
              · rw [hO, map_getD _ _ _ (by have := hp.p2; omega)]
                exact Int.mul_pos (by omega) hp.p0
            have hOe : polyE O = 0 := poly_ok' hOp
            have h19O := S19 O (by omega)
            have h61O := S61 O (by omega)
            have h37O := S37 O (by omega)
            have et : tabL O = tabL p := by rw [hO]; exact tab_scale (by omega) p
            have es : stabB O = stabB p := by rw [hO]; exact stab_scale (by omega) p
            rw [hOe, if_pos rfl, et] at h61O
            rw [hOe, if_pos rfl, es, hsb] at h37O
            rw [ints_n' hOl] at h19O h61O h37O
            conv => whnf
            conv => whnf
            refine ifB_dec (fun w4 => ?_) (fun w4 => ?_)
            · (exfalso; omega)
            · conv => whnf
              conv => whnf
              refine .inl ⟨_, _, byX rfl (h19O), ?_⟩
              conv => whnf
              conv => whnf
              refine .inl ⟨_, _, byX rfl (h61O), ?_⟩
              conv => whnf
              conv => whnf
              refine .inl ⟨_, _, byX rfl (Sound1.pl (h37O) rfl), ?_⟩
              conv => whnf
              conv => whnf
              refine .inl ⟨_, _, byX rfl (Sound1.pl (h32) rfl), ?_⟩
              conv => whnf
              conv => whnf
              refine ⟨?_, nofun⟩
              exact endb (beq_iff_eq.2 rfl)
        · conv => whnf
          refine ⟨?_, nofun⟩
          rfl
theorem S10A (p l : List Int) (t : Int) (h0 : polyE p = 0) (hg : gridE l = 0) (hsb : stabB p = true) (hl0 : l.length = 0) : SP 10 [ints p, ints l, i64 t] (vb true) false := by
  have hp := PolyOk.of h0
  have hpn := hp.len
  have hp1 : p.length ≤ 1000000 := by omega
  have hgo := GridOk.of hg
  have hgn := hgo.n
  have h21 := S21w' p (by omega)
  have h24 := S24 l (by omega)
  rw [h0] at h21
  rw [hg] at h24
  have h19 := S19 p hp1
  have h37 := S37 p hp1
  have h61 := S61 p hp1
  rw [h0, if_pos rfl, hsb] at h37
  rw [h0, if_pos rfl] at h61
  have ht := tab_small hp
  have hti := tab_in hp
  have htl := hti.le
  have htn : (tabL p).length ≠ 0 := tab_ne hp
  have h63 := S63 (tabL p) (by omega) ht.2
  have h62 := S62 p hp1 (tabL p) (by omega) ht.2
  rw [if_pos h0, if_pos h0] at h62
  have h32 := S32 (tabL p) (tabL p) (by omega) (by omega) ht.2 ht.2
  rw [decide_eq_true rfl] at h32
  have hc := (chk_tab hp).1 hsb
  rw [hc] at h62
  have hpos := stab_pos hp.p2 hsb
  have hb8 : Tryz.prog.types[3].bytes = 8 := by kernel_rfl
  have hp2 := hp.p2
  have h19l := S19 l (by omega)
  refine sound (d := 2) tok2 mixed2 Tryz.func10 (by kernel_rfl) (by kernel_rfl) ?_
  conv => whnf
  refine .inl ⟨_, _, byX rfl (Sound1.pl (S16) rfl), ?_⟩
  conv => whnf
  refine .inl ⟨_, _, byX rfl (Sound1.pl (h21) rfl), ?_⟩
  conv => whnf
  refine .inl ⟨_, _, byX rfl (Sound1.pl (h24) rfl), ?_⟩
  conv => whnf
  refine .inl ⟨_, _, byX rfl (h19), ?_⟩
  conv => whnf
  refine .inl ⟨_, _, byX rfl (Sound1.pl (h37) rfl), ?_⟩
  conv => whnf
  refine .inl ⟨_, _, byX rfl (h19), ?_⟩
  conv => whnf
  refine .inl ⟨_, _, byX rfl (h61), ?_⟩
  conv => whnf
  refine ifB_beq (fun w1 => ?_) (fun w1 => ?_)
  · (exfalso; omega)
  · conv => whnf
    refine ifB_dec (fun w2 => ?_) (fun w2 => ?_)
    · (exfalso; omega)
    · conv => whnf
      refine .inl ⟨_, _, byX rfl (h19), ?_⟩
      conv => whnf
      refine .inl ⟨_, _, byX rfl (h63), ?_⟩
      conv => whnf
      refine .inl ⟨_, _, byX rfl (Sound1.pl (h62) rfl), ?_⟩
      conv => whnf
      refine ⟨[], [0, 1, 2, 7, 9, 13], fun st mq => ∃ (k : Nat), (k ≤ p.length) ∧ st = ⟨[(0, ints p), (1, ints l), (2, i64 t), (7, vb true), (9, listsA (tabL p)), (13, i64 k)], ⟨[], [], none, 0⟩, []⟩ ∧ mq = p.length - k,
        ⟨_, _, ⟨0, by omega, rfl, rfl⟩, ⟨⟨.inl rfl, rfl, rfl, rfl⟩, trivial, trivial⟩⟩, ?_⟩
      rintro s0 m0 ⟨k, hk, rfl, hmeas⟩
      by_cases hlt : k < p.length
      · have hx : 0 < p.getD (k : Int).toNat 0 := hpos _ (getD_memI (i := k) hlt)
        conv => whnf
        conv => whnf
        refine ifB_dec (fun w3 => ?_) (fun w3 => ?_)
        · conv => whnf
          conv => whnf
          refine ⟨⟨(by omega), (by omega)⟩, ?_⟩
          conv => whnf
          conv => whnf
          refine ifB_dec (fun w4 => ?_) (fun w4 => ?_)
          · (exfalso; omega)
          · conv => whnf
            conv => whnf
            refine ⟨inK64 (by omega) (by omega), ?_⟩
            conv => whnf
            conv => whnf
            refine ⟨_, _, ⟨⟨k + 1, by omega, rfl, rfl⟩, by omega⟩, ⟨⟨.inl rfl, rfl, rfl, rfl⟩, trivial, trivial⟩⟩
        · (exfalso; omega)
      · have e : k = p.length := by omega
        subst e
        by_cases hG : gridE [0] = 0
        · have hgG := GridOk.of hG
          have hq := quad_laws hp hsb hgG rfl
          have hGn := hgG.n
          have h20G := S20 p [0] hp1 (by omega)
          rw [hq.1, if_pos rfl] at h20G
          have hql := quadL_len p [0]
          generalize quadL p [0] = Q at hq h20G hql
          have hql1 : Q.length = 1 := hql
          have h24G := fun f (hf : ∀ i, i < 1 → f i = [i64 (([0] : List Int).getD i 0)]) => SPg (S24 [0] (by simp)) rfl f hf
          rw [hG] at h24G
          have h20g := fun f (hf : ∀ i, i < 1 → f i = [i64 (([0] : List Int).getD i 0)]) => SPg2 h20G rfl f hf
          refine ifB_dec (fun w3 => ?_) (fun w3 => ?_)
          · (exfalso; omega)
          · refine .inr ?_
            refine ⟨(by omega), ?_⟩
            refine ifB_dec (fun w4 => ?_) (fun w4 => ?_)
            · (exfalso; omega)
            · refine .inl ⟨_, _, byX rfl (Sound1.pl (h24G _ ?_) rfl), ?_⟩
              · (first | rfl | exact hl0 | exact fun i hi => one_row i hi | contradiction)
              · refine .inl ⟨_, _, byX rfl (h20g _ ?_), ?_⟩
                · (first | rfl | exact hl0 | exact fun i hi => one_row i hi | contradiction)
                · refine ifB_bne (fun w5 => ?_) (fun w5 => ?_)
                  · (exfalso; omega)
                  · refine ⟨[], [0, 2, 7, 9, 15, 17], fun st mq => ∃ (k : Nat), (k ≤ Q.length) ∧ st = ⟨[(0, ints p), (2, i64 t), (7, vb true), (9, listsA (tabL p)), (15, ints Q), (17, i64 k)], ⟨[⟨1, 1, fun _ => [i64 0], 0, true, true, true⟩], [], none, 0⟩, []⟩ ∧ mq = Q.length - k,
                      ⟨_, _, ⟨0, by omega, rfl, rfl⟩, ⟨⟨.inl rfl, rfl, rfl, rfl⟩, ⟨⟨rfl, rfl, rfl, rfl, fun _ => rfl, fun i hi => .inl ((by have h1 : i < 1 := hi; rw [show i = 0 by omega]; rfl))⟩, trivial⟩, trivial⟩⟩, ?_⟩
                    rintro s0 m0 ⟨k, hk, rfl, hmeas⟩
                    by_cases hlt : k < Q.length
                    · have hx := hq.2 k (by omega)
                      have hx1 : 0 ≤ Q.getD (k : Int).toNat 0 ∧ Q.getD (k : Int).toNat 0 ≤ (p.length : Int) - 2 := hx.1
                      by_cases hk0 : k = 0
                      · have hx2 : Q.getD (k : Int).toNat 0 = 0 := hx.2.1 hk0
                        conv => whnf
                        refine ifB_dec (fun w6 => ?_) (fun w6 => ?_)
                        · conv => whnf
                          refine ⟨[], by kernel_rfl, ?_⟩
                          conv => whnf
                          refine ⟨⟨(by omega), (by omega)⟩, ?_⟩
                          conv => whnf
                          refine ⟨inK64 (by omega) (by omega), ?_⟩
                          conv => whnf
                          refine .inl ⟨_, _, byX rfl (Sound1.pl (S68 _ _ _) rfl), ?_⟩
                          conv => whnf
                          refine ifB_not ?_
                          conv => whnf
                          refine ifB_dec (fun w7 => ?_) (fun w7 => ?_)
                          · conv => whnf
                            refine ifB_beq (fun w8 => ?_) (fun w8 => ?_)
                            · conv => whnf
                              refine ⟨⟨(by omega), (by omega)⟩, ?_⟩
                              conv => whnf
                              refine ifB_bne (fun w9 => ?_) (fun w9 => ?_)
                              · (exfalso; omega)
                              · conv => whnf
                                refine ifB_dec (fun w10 => ?_) (fun w10 => ?_)
                                · (exfalso; omega)
                                · conv => whnf
                                  refine ⟨inK64 (by omega) (by omega), ?_⟩
                                  conv => whnf
                                  refine ⟨_, _, ⟨⟨k + 1, by omega, rfl, rfl⟩, by omega⟩, ⟨⟨.inl rfl, rfl, rfl, rfl⟩, ⟨⟨rfl, rfl, rfl, rfl, fun _ => rfl, fun _ _ => .inl rfl⟩, trivial⟩, trivial⟩⟩
                            · (exfalso; omega)
                          · (exfalso; omega)
                        · (exfalso; omega)
                      · exfalso; omega
                    · have e : k = Q.length := by omega
                      conv => whnf
                      refine ifB_dec (fun w6 => ?_) (fun w6 => ?_)
                      · (exfalso; omega)
                      · conv => whnf
                        refine .inl ⟨_, _, byX rfl (Sound1.pl (S68 _ _ _) rfl), ?_⟩
                        conv => whnf
                        refine ifB_not ?_
                        conv => whnf
                        refine ifB_dec (fun w7 => ?_) (fun w7 => ?_)
                        · have hby : 1 ≤ t ∧ t ≤ 10 := by assumption
                          conv => whnf
                          refine ⟨[.slot 18 1], [0, 2, 7, 9, 18, 19], fun st mq => ∃ (k : Nat) (O : List Int), (k ≤ p.length) ∧ (O = (p.take k).map (t * ·)) ∧ (Sml 100 (p.take k)) ∧ st = ⟨[(0, ints p), (2, i64 t), (7, vb true), (9, listsA (tabL p)), (18, .oslice 1 0 0 k none), (19, i64 k)], ⟨[⟨1, 1, fun _ => [i64 0], 0, true, true, true⟩, ⟨1, k, fun i => [i64 (O.getD i 0)], 0, false, true, false⟩], [], none, 0⟩, []⟩ ∧ mq = p.length - k,
                            ⟨_, _, ⟨0, [], by omega, rfl, (fun x hx => absurd hx (by simp)), rfl, rfl⟩, ⟨⟨.inl rfl, rfl, rfl, rfl⟩, ⟨⟨rfl, rfl, rfl, rfl, fun _ => rfl, fun _ _ => .inl rfl⟩, ⟨⟨rfl, rfl, rfl, rfl, fun _ => rfl, fun i h => .inl (absurd h (Nat.not_lt_zero i))⟩, trivial⟩⟩, trivial⟩⟩, ?_⟩
                          rintro s0 m0 ⟨k, O, hk, hO, hs, rfl, hmeas⟩
                          by_cases hlt : k < p.length
                          · have h68k := S68 (p.getD (k : Int).toNat 0) (-100) 100
                            have hOl : O.length = k := by rw [hO]; simp; omega
                            by_cases hx : -100 ≤ p.getD k 0 ∧ p.getD k 0 ≤ 100
                            · have hx' : -100 ≤ p.getD (k : Int).toNat 0 ∧ p.getD (k : Int).toNat 0 ≤ 100 := hx
                              have hm := mul_sml (show t.natAbs ≤ 10 by omega) (show (p.getD (k : Int).toNat 0).natAbs ≤ 100 by omega)
                              conv => whnf
                              conv => whnf
                              refine ifB_dec (fun w8 => ?_) (fun w8 => ?_)
                              · conv => whnf
                                conv => whnf
                                refine ⟨⟨(by omega), (by omega)⟩, ?_⟩
                                conv => whnf
                                conv => whnf
                                refine .inl ⟨_, _, byX rfl (Sound1.pl (h68k) rfl), ?_⟩
                                conv => whnf
                                conv => whnf
                                refine ifB_not ?_
                                conv => whnf
                                conv => whnf
                                refine ifB_dec (fun w9 => ?_) (fun w9 => ?_)
                                · conv => whnf
                                  conv => whnf
                                  refine ⟨⟨(by omega), (by omega)⟩, ?_⟩
                                  conv => whnf
                                  conv => whnf
                                  refine ⟨inK64 (by omega) (by omega), ?_⟩
                                  conv => whnf
                                  conv => whnf
                                  refine .inl ?_
                                  conv => whnf
                                  conv => whnf
                                  refine ⟨(by show _ * (8 + 1) ≤ _; omega), ?_⟩
                                  conv => whnf
                                  conv => whnf
                                  refine ⟨inK64 (by omega) (by omega), ?_⟩
                                  conv => whnf
                                  conv => whnf
                                  refine ⟨_, _, ⟨⟨k + 1, O ++ [t * p.getD k 0], by omega, (by rw [take_snocI hlt, List.map_append, hO]; rfl), (by rw [take_snocI hlt]; intro x h; rcases List.mem_append.1 h with h | h; exact hs x h; rw [List.mem_singleton.1 h]; omega), rfl, rfl⟩, by omega⟩, ⟨⟨.inl rfl, rfl, rfl, rfl⟩, ⟨⟨rfl, rfl, rfl, rfl, fun _ => rfl, fun _ _ => .inl rfl⟩, ⟨⟨rfl, rfl, rfl, rfl, fun _ => rfl, fun i hi => .inl (app_row O _ k i hOl hi)⟩, trivial⟩⟩, trivial⟩⟩
                                · (exfalso; omega)
                              · (exfalso; omega)
                            · have hx' : ¬(-100 ≤ p.getD (k : Int).toNat 0 ∧ p.getD (k : Int).toNat 0 ≤ 100) := hx
                              conv => whnf
                              conv => whnf
                              refine ifB_dec (fun w8 => ?_) (fun w8 => ?_)
                              · conv => whnf
                                conv => whnf
                                refine ⟨⟨(by omega), (by omega)⟩, ?_⟩
                                conv => whnf
                                conv => whnf
                                refine .inl ⟨_, _, byX rfl (Sound1.pl (h68k) rfl), ?_⟩
                                conv => whnf
                                conv => whnf
                                refine ifB_not ?_
                                conv => whnf
                                conv => whnf
                                refine ifB_dec (fun w9 => ?_) (fun w9 => ?_)
                                · (exfalso; omega)
                                · conv => whnf
                                  conv => whnf
                                  refine ⟨?_, nofun⟩
                                  (first | contradiction | rfl)
                              · (exfalso; omega)
                          · have e : k = p.length := by omega
                            subst e
                            rw [List.take_length] at hO hs
                            have hOl : O.length = p.length := by rw [hO, List.length_map]
                            have hOp : PolyOk O := by
                              refine ⟨by rw [hOl]; exact hp.p2, fun x hx => ?_, ?_⟩
                              · rw [hO] at hx
                                obtain ⟨y, hy, rfl⟩ := List.mem_map.1 hx
                                exact Nat.le_trans (mul_sml (show t.natAbs ≤ 10 by omega) (hs y hy)) (by decide)
                              · rw [hO, map_getD _ _ _ (by have := hp.p2; omega)]
                                exact Int.mul_pos (by omega) hp.p0
                            have hOe : polyE O = 0 := poly_ok' hOp
                            have h19O := S19 O (by omega)
                            have h61O := S61 O (by omega)
                            have h37O := S37 O (by omega)
                            have et : tabL O = tabL p := by rw [hO]; exact tab_scale (by omega) p
                            have es : stabB O = stabB p := by rw [hO]; exact stab_scale (by omega) p
                            rw [hOe, if_pos rfl, et] at h61O
                            rw [hOe, if_pos rfl, es, hsb] at h37O
                            rw [ints_n' hOl] at h19O h61O h37O
                            conv => whnf
                            conv => whnf
                            refine ifB_dec (fun w8 => ?_) (fun w8 => ?_)
                            · (exfalso; omega)
                            · conv => whnf
                              conv => whnf
                              refine .inl ⟨_, _, byX rfl (h19O), ?_⟩
                              conv => whnf
                              conv => whnf
                              refine .inl ⟨_, _, byX rfl (h61O), ?_⟩
                              conv => whnf
                              conv => whnf
                              refine .inl ⟨_, _, byX rfl (Sound1.pl (h37O) rfl), ?_⟩
                              conv => whnf
                              conv => whnf
                              refine .inl ⟨_, _, byX rfl (Sound1.pl (h32) rfl), ?_⟩
                              conv => whnf
                              conv => whnf
                              refine ⟨?_, nofun⟩
                              exact endb (beq_iff_eq.2 rfl)
                        · conv => whnf
                          refine ⟨?_, nofun⟩
                          rfl
        · have hl00 : ([] : List Int).length = 0 := rfl
          have h24G := fun f (hf : ∀ i, i < 1 → f i = [i64 (([0] : List Int).getD i 0)]) => SPg (S24 [0] (by simp)) rfl f hf
          refine ifB_dec (fun w3 => ?_) (fun w3 => ?_)
          · (exfalso; omega)
          · refine .inr ?_
            refine ⟨(by omega), ?_⟩
            refine ifB_dec (fun w4 => ?_) (fun w4 => ?_)
            · (exfalso; omega)
            · refine .inl ⟨_, _, byX rfl (Sound1.pl (h24G _ ?_) rfl), ?_⟩
              · (first | rfl | exact hl0 | exact fun i hi => one_row i hi | contradiction)
              · (first | rfl | exact hl0 | exact fun i hi => one_row i hi | contradiction)
theorem S10B (p l : List Int) (t : Int) (h0 : polyE p = 0) (hg : gridE l = 0) (hsb : stabB p = true) (hln : 0 < l.length) (hz : l.getD 0 0 = 0) : SP 10 [ints p, ints l, i64 t] (vb true) false := by
  have hp := PolyOk.of h0
  have hpn := hp.len
  have hp1 : p.length ≤ 1000000 := by omega
  have hgo := GridOk.of hg
  have hgn := hgo.n
  have h21 := S21w' p (by omega)
  have h24 := S24 l (by omega)
  rw [h0] at h21
  rw [hg] at h24
  have h19 := S19 p hp1
  have h37 := S37 p hp1
  have h61 := S61 p hp1
  rw [h0, if_pos rfl, hsb] at h37
  rw [h0, if_pos rfl] at h61
  have ht := tab_small hp
  have hti := tab_in hp
  have htl := hti.le
  have htn : (tabL p).length ≠ 0 := tab_ne hp
  have h63 := S63 (tabL p) (by omega) ht.2
  have h62 := S62 p hp1 (tabL p) (by omega) ht.2
  rw [if_pos h0, if_pos h0] at h62
  have h32 := S32 (tabL p) (tabL p) (by omega) (by omega) ht.2 ht.2
  rw [decide_eq_true rfl] at h32
  have hc := (chk_tab hp).1 hsb
  rw [hc] at h62
  have hpos := stab_pos hp.p2 hsb
  have hb8 : Tryz.prog.types[3].bytes = 8 := by kernel_rfl
  have hp2 := hp.p2
  have h19l := S19 l (by omega)
  have hz0 : l.getD (Int.toNat 0) 0 = 0 := hz
  refine sound (d := 2) tok2 mixed2 Tryz.func10 (by kernel_rfl) (by kernel_rfl) ?_
  conv => whnf
  refine .inl ⟨_, _, byX rfl (Sound1.pl (S16) rfl), ?_⟩
  conv => whnf
  refine .inl ⟨_, _, byX rfl (Sound1.pl (h21) rfl), ?_⟩
  conv => whnf
  refine .inl ⟨_, _, byX rfl (Sound1.pl (h24) rfl), ?_⟩
  conv => whnf
  refine .inl ⟨_, _, byX rfl (h19), ?_⟩
  conv => whnf
  refine .inl ⟨_, _, byX rfl (Sound1.pl (h37) rfl), ?_⟩
  conv => whnf
  refine .inl ⟨_, _, byX rfl (h19), ?_⟩
  conv => whnf
  refine .inl ⟨_, _, byX rfl (h61), ?_⟩
  conv => whnf
  refine ifB_beq (fun w1 => ?_) (fun w1 => ?_)
  · (exfalso; omega)
  · conv => whnf
    refine ifB_dec (fun w2 => ?_) (fun w2 => ?_)
    · (exfalso; omega)
    · conv => whnf
      refine .inl ⟨_, _, byX rfl (h19), ?_⟩
      conv => whnf
      refine .inl ⟨_, _, byX rfl (h63), ?_⟩
      conv => whnf
      refine .inl ⟨_, _, byX rfl (Sound1.pl (h62) rfl), ?_⟩
      conv => whnf
      refine ⟨[], [0, 1, 2, 7, 9, 13], fun st mq => ∃ (k : Nat), (k ≤ p.length) ∧ st = ⟨[(0, ints p), (1, ints l), (2, i64 t), (7, vb true), (9, listsA (tabL p)), (13, i64 k)], ⟨[], [], none, 0⟩, []⟩ ∧ mq = p.length - k,
        ⟨_, _, ⟨0, by omega, rfl, rfl⟩, ⟨⟨.inl rfl, rfl, rfl, rfl⟩, trivial, trivial⟩⟩, ?_⟩
      rintro s0 m0 ⟨k, hk, rfl, hmeas⟩
      by_cases hlt : k < p.length
      · have hx : 0 < p.getD (k : Int).toNat 0 := hpos _ (getD_memI (i := k) hlt)
        conv => whnf
        conv => whnf
        refine ifB_dec (fun w3 => ?_) (fun w3 => ?_)
        · conv => whnf
          conv => whnf
          refine ⟨⟨(by omega), (by omega)⟩, ?_⟩
          conv => whnf
          conv => whnf
          refine ifB_dec (fun w4 => ?_) (fun w4 => ?_)
          · (exfalso; omega)
          · conv => whnf
            conv => whnf
            refine ⟨inK64 (by omega) (by omega), ?_⟩
            conv => whnf
            conv => whnf
            refine ⟨_, _, ⟨⟨k + 1, by omega, rfl, rfl⟩, by omega⟩, ⟨⟨.inl rfl, rfl, rfl, rfl⟩, trivial, trivial⟩⟩
        · (exfalso; omega)
      · have e : k = p.length := by omega
        subst e
        by_cases hG : gridE l = 0
        · have hgG := GridOk.of hG
          have hq := quad_laws hp hsb hgG hz
          have hGn := hgG.n
          have h20G := S20 p l hp1 (by omega)
          rw [hq.1, if_pos rfl] at h20G
          have hql := quadL_len p l
          generalize quadL p l = Q at hq h20G hql
          have h24G := h24
          conv => whnf
          conv => whnf
          refine ifB_dec (fun w3 => ?_) (fun w3 => ?_)
          · (exfalso; omega)
          · conv => whnf
            conv => whnf
            refine .inl ?_
            conv => whnf
            conv => whnf
            refine ⟨⟨(by omega), (by show _ * (8 + 1) ≤ _; omega)⟩, ?_⟩
            conv => whnf
            conv => whnf
            refine ifB_dec (fun w4 => ?_) (fun w4 => ?_)
            · conv => whnf
              conv => whnf
              refine ⟨⟨(by omega), (by omega)⟩, ?_⟩
              conv => whnf
              conv => whnf
              refine ifB_beq (fun w5 => ?_) (fun w5 => ?_)
              · conv => whnf
                conv => whnf
                refine .inl ⟨_, _, byX rfl (h19l), ?_⟩
                conv => whnf
                conv => whnf
                refine .inl ⟨_, _, byX rfl (Sound1.pl (h24) rfl), ?_⟩
                conv => whnf
                conv => whnf
                refine .inl ⟨_, _, byX rfl (h20G), ?_⟩
                conv => whnf
                conv => whnf
                refine ifB_bne (fun w6 => ?_) (fun w6 => ?_)
                · (exfalso; omega)
                · conv => whnf
                  conv => whnf
                  refine ⟨[], [0, 2, 7, 9, 15, 17], fun st mq => ∃ (k : Nat) (F0 : Nat → List AV) (F1 : Nat → List AV), (k ≤ Q.length) ∧ st = ⟨[(0, ints p), (2, i64 t), (7, vb true), (9, listsA (tabL p)), (15, ints Q), (17, i64 k)], ⟨[⟨1, 1, F0, 0, false, true, false⟩, ⟨1, 1 + l.length, F1, 0, false, true, false⟩], [], none, 0⟩, []⟩ ∧ mq = Q.length - k,
                    ⟨_, _, ⟨0, _, _, by omega, rfl, rfl⟩, ⟨⟨.inl rfl, rfl, rfl, rfl⟩, ⟨⟨rfl, rfl, rfl, rfl, fun _ => rfl, fun _ _ => .inl rfl⟩, ⟨⟨rfl, rfl, rfl, rfl, fun _ => rfl, fun _ _ => .inl rfl⟩, trivial⟩⟩, trivial⟩⟩, ?_⟩
                  rintro s0 m0 ⟨k, F0, F1, hk, rfl, hmeas⟩
                  by_cases hlt : k < Q.length
                  · have hx := hq.2 k (by omega)
                    have hx1 : 0 ≤ Q.getD (k : Int).toNat 0 ∧ Q.getD (k : Int).toNat 0 ≤ (p.length : Int) - 2 := hx.1
                    by_cases hk0 : k = 0
                    · have hx2 : Q.getD (k : Int).toNat 0 = 0 := hx.2.1 hk0
                      conv => whnf
                      conv => whnf
                      conv => whnf
                      refine ifB_dec (fun w7 => ?_) (fun w7 => ?_)
                      · conv => whnf
                        conv => whnf
                        conv => whnf
                        refine ⟨[], by kernel_rfl, ?_⟩
                        conv => whnf
                        conv => whnf
                        conv => whnf
                        refine ⟨⟨(by omega), (by omega)⟩, ?_⟩
                        conv => whnf
                        conv => whnf
                        conv => whnf
                        refine ⟨inK64 (by omega) (by omega), ?_⟩
                        conv => whnf
                        conv => whnf
                        conv => whnf
                        refine .inl ⟨_, _, byX rfl (Sound1.pl (S68 _ _ _) rfl), ?_⟩
                        conv => whnf
                        conv => whnf
                        conv => whnf
                        refine ifB_not ?_
                        conv => whnf
                        conv => whnf
                        conv => whnf
                        refine ifB_dec (fun w8 => ?_) (fun w8 => ?_)
                        · conv => whnf
                          conv => whnf
                          conv => whnf
                          refine ifB_beq (fun w9 => ?_) (fun w9 => ?_)
                          · conv => whnf
                            conv => whnf
                            conv => whnf
                            refine ⟨⟨(by omega), (by omega)⟩, ?_⟩
                            conv => whnf
                            conv => whnf
                            conv => whnf
                            refine ifB_bne (fun w10 => ?_) (fun w10 => ?_)
                            · (exfalso; omega)
                            · conv => whnf
                              conv => whnf
                              conv => whnf
                              refine ifB_dec (fun w11 => ?_) (fun w11 => ?_)
                              · (exfalso; omega)
                              · conv => whnf
                                conv => whnf
                                conv => whnf
                                refine ⟨inK64 (by omega) (by omega), ?_⟩
                                conv => whnf
                                conv => whnf
                                conv => whnf
                                refine ⟨_, _, ⟨⟨k + 1, _, _, by omega, rfl, rfl⟩, by omega⟩, ⟨⟨.inl rfl, rfl, rfl, rfl⟩, ⟨⟨rfl, rfl, rfl, rfl, fun _ => rfl, fun _ _ => .inl rfl⟩, ⟨⟨rfl, rfl, rfl, rfl, fun _ => rfl, fun _ _ => .inl rfl⟩, trivial⟩⟩, trivial⟩⟩
                          · (exfalso; omega)
                        · (exfalso; omega)
                      · (exfalso; omega)
                    · have ek : ((k : Int) - 1).toNat = k - 1 := by omega
                      have hx3 : Q.getD ((k : Int) - 1).toNat 0 ≤ Q.getD (k : Int).toNat 0 := by rw [ek]; exact hx.2.2 (by omega)
                      conv => whnf
                      conv => whnf
                      conv => whnf
                      refine ifB_dec (fun w7 => ?_) (fun w7 => ?_)
                      · conv => whnf
                        conv => whnf
                        conv => whnf
                        refine ⟨[], by kernel_rfl, ?_⟩
                        conv => whnf
                        conv => whnf
                        conv => whnf
                        refine ⟨⟨(by omega), (by omega)⟩, ?_⟩
                        conv => whnf
                        conv => whnf
                        conv => whnf
                        refine ⟨inK64 (by omega) (by omega), ?_⟩
                        conv => whnf
                        conv => whnf
                        conv => whnf
                        refine .inl ⟨_, _, byX rfl (Sound1.pl (S68 _ _ _) rfl), ?_⟩
                        conv => whnf
                        conv => whnf
                        conv => whnf
                        refine ifB_not ?_
                        conv => whnf
                        conv => whnf
                        conv => whnf
                        refine ifB_dec (fun w8 => ?_) (fun w8 => ?_)
                        · conv => whnf
                          conv => whnf
                          conv => whnf
                          refine ifB_beq (fun w9 => ?_) (fun w9 => ?_)
                          · (exfalso; omega)
                          · conv => whnf
                            conv => whnf
                            conv => whnf
                            refine ifB_dec (fun w10 => ?_) (fun w10 => ?_)
                            · conv => whnf
                              conv => whnf
                              conv => whnf
                              refine ⟨⟨(by omega), (by omega)⟩, ?_⟩
                              conv => whnf
                              conv => whnf
                              conv => whnf
                              refine ⟨inK64 (by omega) (by omega), ?_⟩
                              conv => whnf
                              conv => whnf
                              conv => whnf
                              refine ⟨⟨(by omega), (by omega)⟩, ?_⟩
                              conv => whnf
                              conv => whnf
                              conv => whnf
                              refine ifB_dec (fun w11 => ?_) (fun w11 => ?_)
                              · (exfalso; omega)
                              · conv => whnf
                                conv => whnf
                                conv => whnf
                                refine ⟨inK64 (by omega) (by omega), ?_⟩
                                conv => whnf
                                conv => whnf
                                conv => whnf
                                refine ⟨_, _, ⟨⟨k + 1, _, _, by omega, rfl, rfl⟩, by omega⟩, ⟨⟨.inl rfl, rfl, rfl, rfl⟩, ⟨⟨rfl, rfl, rfl, rfl, fun _ => rfl, fun _ _ => .inl rfl⟩, ⟨⟨rfl, rfl, rfl, rfl, fun _ => rfl, fun _ _ => .inl rfl⟩, trivial⟩⟩, trivial⟩⟩
                            · (exfalso; omega)
                        · (exfalso; omega)
                      · (exfalso; omega)
                  · have e : k = Q.length := by omega
                    subst e
                    conv => whnf
                    conv => whnf
                    conv => whnf
                    refine ifB_dec (fun w7 => ?_) (fun w7 => ?_)
                    · (exfalso; omega)
                    · conv => whnf
                      conv => whnf
                      conv => whnf
                      refine .inl ⟨_, _, byX rfl (Sound1.pl (S68 _ _ _) rfl), ?_⟩
                      conv => whnf
                      conv => whnf
                      conv => whnf
                      refine ifB_not ?_
                      conv => whnf
                      conv => whnf
                      conv => whnf
                      refine ifB_dec (fun w8 => ?_) (fun w8 => ?_)
                      · have hby : 1 ≤ t ∧ t ≤ 10 := by assumption
                        conv => whnf
                        conv => whnf
                        conv => whnf
                        refine ⟨[.slot 18 1], [0, 2, 7, 9, 18, 19], fun st mq => ∃ (k : Nat) (O : List Int) (F0 : Nat → List AV) (F1 : Nat → List AV), (k ≤ p.length) ∧ (O = (p.take k).map (t * ·)) ∧ (Sml 100 (p.take k)) ∧ st = ⟨[(0, ints p), (2, i64 t), (7, vb true), (9, listsA (tabL p)), (18, .oslice 2 0 0 k none), (19, i64 k)], ⟨[⟨1, 1, F0, 0, false, true, false⟩, ⟨1, 1 + l.length, F1, 0, false, true, false⟩, ⟨1, k, fun i => [i64 (O.getD i 0)], 0, false, true, false⟩], [], none, 0⟩, []⟩ ∧ mq = p.length - k,
                          ⟨_, _, ⟨0, [], _, _, by omega, rfl, (fun x hx => absurd hx (by simp)), rfl, rfl⟩, ⟨⟨.inl rfl, rfl, rfl, rfl⟩, ⟨⟨rfl, rfl, rfl, rfl, fun _ => rfl, fun _ _ => .inl rfl⟩, ⟨⟨rfl, rfl, rfl, rfl, fun _ => rfl, fun _ _ => .inl rfl⟩, ⟨⟨rfl, rfl, rfl, rfl, fun _ => rfl, fun i h => .inl (absurd h (Nat.not_lt_zero i))⟩, trivial⟩⟩⟩, trivial⟩⟩, ?_⟩
                        rintro s0 m0 ⟨k, O, F0, F1, hk, hO, hs, rfl, hmeas⟩
                        by_cases hlt : k < p.length
                        · have h68k := S68 (p.getD (k : Int).toNat 0) (-100) 100
                          have hOl : O.length = k := by rw [hO]; simp; omega
                          by_cases hx : -100 ≤ p.getD k 0 ∧ p.getD k 0 ≤ 100
                          · have hx' : -100 ≤ p.getD (k : Int).toNat 0 ∧ p.getD (k : Int).toNat 0 ≤ 100 := hx
                            have hm := mul_sml (show t.natAbs ≤ 10 by omega) (show (p.getD (k : Int).toNat 0).natAbs ≤ 100 by omega)
                            conv => whnf
                            conv => whnf
                            conv => whnf
                            conv => whnf
                            refine ifB_dec (fun w9 => ?_) (fun w9 => ?_)
                            · conv => whnf
                              conv => whnf
                              conv => whnf
                              conv => whnf
                              refine ⟨⟨(by omega), (by omega)⟩, ?_⟩
                              conv => whnf
                              conv => whnf
                              conv => whnf
                              conv => whnf
                              refine .inl ⟨_, _, byX rfl (Sound1.pl (h68k) rfl), ?_⟩
                              conv => whnf
                              conv => whnf
                              conv => whnf
                              conv => whnf
                              refine ifB_not ?_
                              conv => whnf
                              conv => whnf
                              conv => whnf
                              conv => whnf
                              refine ifB_dec (fun w10 => ?_) (fun w10 => ?_)
                              · conv => whnf
                                conv => whnf
                                conv => whnf
                                conv => whnf
                                refine ⟨⟨(by omega), (by omega)⟩, ?_⟩
                                conv => whnf
                                conv => whnf
                                conv => whnf
                                conv => whnf
                                refine ⟨inK64 (by omega) (by omega), ?_⟩
                                conv => whnf
                                conv => whnf
                                conv => whnf
                                conv => whnf
                                refine .inl ?_
                                conv => whnf
                                conv => whnf
                                conv => whnf
                                conv => whnf
                                refine ⟨(by show _ * (8 + 1) ≤ _; omega), ?_⟩
                                conv => whnf
                                conv => whnf
                                conv => whnf
                                conv => whnf
                                refine ⟨inK64 (by omega) (by omega), ?_⟩
                                conv => whnf
                                conv => whnf
                                conv => whnf
                                conv => whnf
                                refine ⟨_, _, ⟨⟨k + 1, O ++ [t * p.getD k 0], _, _, by omega, (by rw [take_snocI hlt, List.map_append, hO]; rfl), (by rw [take_snocI hlt]; intro x h; rcases List.mem_append.1 h with h | h; exact hs x h; rw [List.mem_singleton.1 h]; omega), rfl, rfl⟩, by omega⟩, ⟨⟨.inl rfl, rfl, rfl, rfl⟩, ⟨⟨rfl, rfl, rfl, rfl, fun _ => rfl, fun _ _ => .inl rfl⟩, ⟨⟨rfl, rfl, rfl, rfl, fun _ => rfl, fun _ _ => .inl rfl⟩, ⟨⟨rfl, rfl, rfl, rfl, fun _ => rfl, fun i hi => .inl (app_row O _ k i hOl hi)⟩, trivial⟩⟩⟩, trivial⟩⟩
                              · (exfalso; omega)
                            · (exfalso; omega)
                          · have hx' : ¬(-100 ≤ p.getD (k : Int).toNat 0 ∧ p.getD (k : Int).toNat 0 ≤ 100) := hx
                            conv => whnf
                            conv => whnf
                            conv => whnf
                            conv => whnf
                            refine ifB_dec (fun w9 => ?_) (fun w9 => ?_)
                            · conv => whnf
                              conv => whnf
                              conv => whnf
                              conv => whnf
                              refine ⟨⟨(by omega), (by omega)⟩, ?_⟩
                              conv => whnf
                              conv => whnf
                              conv => whnf
                              conv => whnf
                              refine .inl ⟨_, _, byX rfl (Sound1.pl (h68k) rfl), ?_⟩
                              conv => whnf
                              conv => whnf
                              conv => whnf
                              conv => whnf
                              refine ifB_not ?_
                              conv => whnf
                              conv => whnf
                              conv => whnf
                              conv => whnf
                              refine ifB_dec (fun w10 => ?_) (fun w10 => ?_)
                              · (exfalso; omega)
                              · conv => whnf
                                conv => whnf
                                conv => whnf
                                conv => whnf
                                refine ⟨?_, nofun⟩
                                (first | contradiction | rfl)
                            · (exfalso; omega)
                        · have e : k = p.length := by omega
                          subst e
                          rw [List.take_length] at hO hs
                          have hOl : O.length = p.length := by rw [hO, List.length_map]
                          have hOp : PolyOk O := by
                            refine ⟨by rw [hOl]; exact hp.p2, fun x hx => ?_, ?_⟩
                            · rw [hO] at hx
                              obtain ⟨y, hy, rfl⟩ := List.mem_map.1 hx
                              exact Nat.le_trans (mul_sml (show t.natAbs ≤ 10 by omega) (hs y hy)) (by decide)
                            · rw [hO, map_getD _ _ _ (by have := hp.p2; omega)]
                              exact Int.mul_pos (by omega) hp.p0
                          have hOe : polyE O = 0 := poly_ok' hOp
                          have h19O := S19 O (by omega)
                          have h61O := S61 O (by omega)
                          have h37O := S37 O (by omega)
                          have et : tabL O = tabL p := by rw [hO]; exact tab_scale (by omega) p
                          have es : stabB O = stabB p := by rw [hO]; exact stab_scale (by omega) p
                          rw [hOe, if_pos rfl, et] at h61O
                          rw [hOe, if_pos rfl, es, hsb] at h37O
                          rw [ints_n' hOl] at h19O h61O h37O
                          conv => whnf
                          conv => whnf
                          conv => whnf
                          conv => whnf
                          refine ifB_dec (fun w9 => ?_) (fun w9 => ?_)
                          · (exfalso; omega)
                          · conv => whnf
                            conv => whnf
                            conv => whnf
                            conv => whnf
                            refine .inl ⟨_, _, byX rfl (h19O), ?_⟩
                            conv => whnf
                            conv => whnf
                            conv => whnf
                            conv => whnf
                            refine .inl ⟨_, _, byX rfl (h61O), ?_⟩
                            conv => whnf
                            conv => whnf
                            conv => whnf
                            conv => whnf
                            refine .inl ⟨_, _, byX rfl (Sound1.pl (h37O) rfl), ?_⟩
                            conv => whnf
                            conv => whnf
                            conv => whnf
                            conv => whnf
                            refine .inl ⟨_, _, byX rfl (Sound1.pl (h32) rfl), ?_⟩
                            conv => whnf
                            conv => whnf
                            conv => whnf
                            conv => whnf
                            refine ⟨?_, nofun⟩
                            exact endb (beq_iff_eq.2 rfl)
                      · conv => whnf
                        conv => whnf
                        conv => whnf
                        refine ⟨?_, nofun⟩
                        rfl
              · (exfalso; omega)
            · (exfalso; omega)
        · exact absurd hg hG
theorem S10C (p l : List Int) (t : Int) (h0 : polyE p = 0) (hg : gridE l = 0) (hsb : stabB p = true) (hln : 0 < l.length) (hz : l.getD 0 0 ≠ 0) : SP 10 [ints p, ints l, i64 t] (vb true) false := by
  have hp := PolyOk.of h0
  have hpn := hp.len
  have hp1 : p.length ≤ 1000000 := by omega
  have hgo := GridOk.of hg
  have hgn := hgo.n
  have h21 := S21w' p (by omega)
  have h24 := S24 l (by omega)
  rw [h0] at h21
  rw [hg] at h24
  have h19 := S19 p hp1
  have h37 := S37 p hp1
  have h61 := S61 p hp1
  rw [h0, if_pos rfl, hsb] at h37
  rw [h0, if_pos rfl] at h61
  have ht := tab_small hp
  have hti := tab_in hp
  have htl := hti.le
  have htn : (tabL p).length ≠ 0 := tab_ne hp
  have h63 := S63 (tabL p) (by omega) ht.2
  have h62 := S62 p hp1 (tabL p) (by omega) ht.2
  rw [if_pos h0, if_pos h0] at h62
  have h32 := S32 (tabL p) (tabL p) (by omega) (by omega) ht.2 ht.2
  rw [decide_eq_true rfl] at h32
  have hc := (chk_tab hp).1 hsb
  rw [hc] at h62
  have hpos := stab_pos hp.p2 hsb
  have hb8 : Tryz.prog.types[3].bytes = 8 := by kernel_rfl
  have hp2 := hp.p2
  have h19l := S19 l (by omega)
  have hz0 : ¬ l.getD (Int.toNat 0) 0 = 0 := hz
  refine sound (d := 2) tok2 mixed2 Tryz.func10 (by kernel_rfl) (by kernel_rfl) ?_
  conv => whnf
  refine .inl ⟨_, _, byX rfl (Sound1.pl (S16) rfl), ?_⟩
  conv => whnf
  refine .inl ⟨_, _, byX rfl (Sound1.pl (h21) rfl), ?_⟩
  conv => whnf
  refine .inl ⟨_, _, byX rfl (Sound1.pl (h24) rfl), ?_⟩
  conv => whnf
  refine .inl ⟨_, _, byX rfl (h19), ?_⟩
  conv => whnf
  refine .inl ⟨_, _, byX rfl (Sound1.pl (h37) rfl), ?_⟩
  conv => whnf
  refine .inl ⟨_, _, byX rfl (h19), ?_⟩
  conv => whnf
  refine .inl ⟨_, _, byX rfl (h61), ?_⟩
  conv => whnf
  refine ifB_beq (fun w1 => ?_) (fun w1 => ?_)
  · (exfalso; omega)
  · conv => whnf
    refine ifB_dec (fun w2 => ?_) (fun w2 => ?_)
    · (exfalso; omega)
    · conv => whnf
      refine .inl ⟨_, _, byX rfl (h19), ?_⟩
      conv => whnf
      refine .inl ⟨_, _, byX rfl (h63), ?_⟩
      conv => whnf
      refine .inl ⟨_, _, byX rfl (Sound1.pl (h62) rfl), ?_⟩
      conv => whnf
      refine ⟨[], [0, 1, 2, 7, 9, 13], fun st mq => ∃ (k : Nat), (k ≤ p.length) ∧ st = ⟨[(0, ints p), (1, ints l), (2, i64 t), (7, vb true), (9, listsA (tabL p)), (13, i64 k)], ⟨[], [], none, 0⟩, []⟩ ∧ mq = p.length - k,
        ⟨_, _, ⟨0, by omega, rfl, rfl⟩, ⟨⟨.inl rfl, rfl, rfl, rfl⟩, trivial, trivial⟩⟩, ?_⟩
      rintro s0 m0 ⟨k, hk, rfl, hmeas⟩
      by_cases hlt : k < p.length
      · have hx : 0 < p.getD (k : Int).toNat 0 := hpos _ (getD_memI (i := k) hlt)
        conv => whnf
        conv => whnf
        refine ifB_dec (fun w3 => ?_) (fun w3 => ?_)
        · conv => whnf
          conv => whnf
          refine ⟨⟨(by omega), (by omega)⟩, ?_⟩
          conv => whnf
          conv => whnf
          refine ifB_dec (fun w4 => ?_) (fun w4 => ?_)
          · (exfalso; omega)
          · conv => whnf
            conv => whnf
            refine ⟨inK64 (by omega) (by omega), ?_⟩
            conv => whnf
            conv => whnf
            refine ⟨_, _, ⟨⟨k + 1, by omega, rfl, rfl⟩, by omega⟩, ⟨⟨.inl rfl, rfl, rfl, rfl⟩, trivial, trivial⟩⟩
        · (exfalso; omega)
      · have e : k = p.length := by omega
        subst e
        by_cases hG : gridE (0 :: l) = 0
        · have hgG := GridOk.of hG
          have hq := quad_laws hp hsb hgG rfl
          have hGn := hgG.n
          have h20G := S20 p (0 :: l) hp1 (by omega)
          rw [hq.1, if_pos rfl] at h20G
          have hql := quadL_len p (0 :: l)
          generalize quadL p (0 :: l) = Q at hq h20G hql
          have hql1 : Q.length = 1 + l.length := by rw [hql]; simp; omega
          have h24G := fun f (hf : ∀ i, i < 1 + l.length → f i = [i64 ((0 :: l).getD i 0)]) => SPg (S24 (0 :: l) (by simp; omega)) (by simp; omega) f hf
          rw [hG] at h24G
          have h20g := fun f (hf : ∀ i, i < 1 + l.length → f i = [i64 ((0 :: l).getD i 0)]) => SPg2 h20G (by simp; omega) f hf
          conv => whnf
          conv => whnf
          refine ifB_dec (fun w3 => ?_) (fun w3 => ?_)
          · (exfalso; omega)
          · conv => whnf
            conv => whnf
            refine .inl ?_
            conv => whnf
            conv => whnf
            refine ⟨⟨(by omega), (by show _ * (8 + 1) ≤ _; omega)⟩, ?_⟩
            conv => whnf
            conv => whnf
            refine ifB_dec (fun w4 => ?_) (fun w4 => ?_)
            · conv => whnf
              conv => whnf
              refine ⟨⟨(by omega), (by omega)⟩, ?_⟩
              conv => whnf
              conv => whnf
              refine ifB_beq (fun w5 => ?_) (fun w5 => ?_)
              · (exfalso; omega)
              · conv => whnf
                conv => whnf
                refine .inl ⟨_, _, byX rfl (Sound1.pl (h24G _ ?_) rfl), ?_⟩
                · (first | rfl | exact fun i hi => cons_row l i | exact fun i hi => one_row i hi | contradiction)
                · conv => whnf
                  conv => whnf
                  refine .inl ⟨_, _, byX rfl (h20g _ ?_), ?_⟩
                  · (first | rfl | exact fun i hi => cons_row l i | exact fun i hi => one_row i hi | contradiction)
                  · conv => whnf
                    conv => whnf
                    refine ifB_bne (fun w6 => ?_) (fun w6 => ?_)
                    · (exfalso; omega)
                    · conv => whnf
                      conv => whnf
                      refine ⟨[], [0, 2, 7, 9, 15, 17], fun st mq => ∃ (k : Nat) (F0 : Nat → List AV), (k ≤ Q.length) ∧ st = ⟨[(0, ints p), (2, i64 t), (7, vb true), (9, listsA (tabL p)), (15, ints Q), (17, i64 k)], ⟨[⟨1, 1, F0, 0, false, true, false⟩, ⟨1, 1 + l.length, fun i => [i64 ((0 :: l).getD i 0)], 0, true, true, false⟩], [], none, 0⟩, []⟩ ∧ mq = Q.length - k,
                        ⟨_, _, ⟨0, _, by omega, rfl, rfl⟩, ⟨⟨.inl rfl, rfl, rfl, rfl⟩, ⟨⟨rfl, rfl, rfl, rfl, fun _ => rfl, fun _ _ => .inl rfl⟩, ⟨⟨rfl, rfl, rfl, rfl, fun _ => rfl, fun i hi => .inl ((cons_row l i).symm)⟩, trivial⟩⟩, trivial⟩⟩, ?_⟩
                      rintro s0 m0 ⟨k, F0, hk, rfl, hmeas⟩
                      by_cases hlt : k < Q.length
                      · have hx := hq.2 k (by omega)
                        have hx1 : 0 ≤ Q.getD (k : Int).toNat 0 ∧ Q.getD (k : Int).toNat 0 ≤ (p.length : Int) - 2 := hx.1
                        by_cases hk0 : k = 0
                        · have hx2 : Q.getD (k : Int).toNat 0 = 0 := hx.2.1 hk0
                          conv => whnf
                          conv => whnf
                          conv => whnf
                          refine ifB_dec (fun w7 => ?_) (fun w7 => ?_)
                          · conv => whnf
                            conv => whnf
                            conv => whnf
                            refine ⟨[], by kernel_rfl, ?_⟩
                            conv => whnf
                            conv => whnf
                            conv => whnf
                            refine ⟨⟨(by omega), (by omega)⟩, ?_⟩
                            conv => whnf
                            conv => whnf
                            conv => whnf
                            refine ⟨inK64 (by omega) (by omega), ?_⟩
                            conv => whnf
                            conv => whnf
                            conv => whnf
                            refine .inl ⟨_, _, byX rfl (Sound1.pl (S68 _ _ _) rfl), ?_⟩
                            conv => whnf
                            conv => whnf
                            conv => whnf
                            refine ifB_not ?_
                            conv => whnf
                            conv => whnf
                            conv => whnf
                            refine ifB_dec (fun w8 => ?_) (fun w8 => ?_)
                            · conv => whnf
                              conv => whnf
                              conv => whnf
                              refine ifB_beq (fun w9 => ?_) (fun w9 => ?_)
                              · conv => whnf
                                conv => whnf
                                conv => whnf
                                refine ⟨⟨(by omega), (by omega)⟩, ?_⟩
                                conv => whnf
                                conv => whnf
                                conv => whnf
                                refine ifB_bne (fun w10 => ?_) (fun w10 => ?_)
                                · (exfalso; omega)
                                · conv => whnf
                                  conv => whnf
                                  conv => whnf
                                  refine ifB_dec (fun w11 => ?_) (fun w11 => ?_)
                                  · (exfalso; omega)
                                  · conv => whnf
                                    conv => whnf
                                    conv => whnf
                                    refine ⟨inK64 (by omega) (by omega), ?_⟩
                                    conv => whnf
                                    conv => whnf
                                    conv => whnf
                                    refine ⟨_, _, ⟨⟨k + 1, _, by omega, rfl, rfl⟩, by omega⟩, ⟨⟨.inl rfl, rfl, rfl, rfl⟩, ⟨⟨rfl, rfl, rfl, rfl, fun _ => rfl, fun _ _ => .inl rfl⟩, ⟨⟨rfl, rfl, rfl, rfl, fun _ => rfl, fun _ _ => .inl rfl⟩, trivial⟩⟩, trivial⟩⟩
                              · (exfalso; omega)
                            · (exfalso; omega)
                          · (exfalso; omega)
                        · have ek : ((k : Int) - 1).toNat = k - 1 := by omega
                          have hx3 : Q.getD ((k : Int) - 1).toNat 0 ≤ Q.getD (k : Int).toNat 0 := by rw [ek]; exact hx.2.2 (by omega)
                          conv => whnf
                          conv => whnf
                          conv => whnf
                          refine ifB_dec (fun w7 => ?_) (fun w7 => ?_)
                          · conv => whnf
                            conv => whnf
                            conv => whnf
                            refine ⟨[], by kernel_rfl, ?_⟩
                            conv => whnf
                            conv => whnf
                            conv => whnf
                            refine ⟨⟨(by omega), (by omega)⟩, ?_⟩
                            conv => whnf
                            conv => whnf
                            conv => whnf
                            refine ⟨inK64 (by omega) (by omega), ?_⟩
                            conv => whnf
                            conv => whnf
                            conv => whnf
                            refine .inl ⟨_, _, byX rfl (Sound1.pl (S68 _ _ _) rfl), ?_⟩
                            conv => whnf
                            conv => whnf
                            conv => whnf
                            refine ifB_not ?_
                            conv => whnf
                            conv => whnf
                            conv => whnf
                            refine ifB_dec (fun w8 => ?_) (fun w8 => ?_)
                            · conv => whnf
                              conv => whnf
                              conv => whnf
                              refine ifB_beq (fun w9 => ?_) (fun w9 => ?_)
                              · (exfalso; omega)
                              · conv => whnf
                                conv => whnf
                                conv => whnf
                                refine ifB_dec (fun w10 => ?_) (fun w10 => ?_)
                                · conv => whnf
                                  conv => whnf
                                  conv => whnf
                                  refine ⟨⟨(by omega), (by omega)⟩, ?_⟩
                                  conv => whnf
                                  conv => whnf
                                  conv => whnf
                                  refine ⟨inK64 (by omega) (by omega), ?_⟩
                                  conv => whnf
                                  conv => whnf
                                  conv => whnf
                                  refine ⟨⟨(by omega), (by omega)⟩, ?_⟩
                                  conv => whnf
                                  conv => whnf
                                  conv => whnf
                                  refine ifB_dec (fun w11 => ?_) (fun w11 => ?_)
                                  · (exfalso; omega)
                                  · conv => whnf
                                    conv => whnf
                                    conv => whnf
                                    refine ⟨inK64 (by omega) (by omega), ?_⟩
                                    conv => whnf
                                    conv => whnf
                                    conv => whnf
                                    refine ⟨_, _, ⟨⟨k + 1, _, by omega, rfl, rfl⟩, by omega⟩, ⟨⟨.inl rfl, rfl, rfl, rfl⟩, ⟨⟨rfl, rfl, rfl, rfl, fun _ => rfl, fun _ _ => .inl rfl⟩, ⟨⟨rfl, rfl, rfl, rfl, fun _ => rfl, fun _ _ => .inl rfl⟩, trivial⟩⟩, trivial⟩⟩
                                · (exfalso; omega)
                            · (exfalso; omega)
                          · (exfalso; omega)
                      · have e : k = Q.length := by omega
                        subst e
                        conv => whnf
                        conv => whnf
                        conv => whnf
                        refine ifB_dec (fun w7 => ?_) (fun w7 => ?_)
                        · (exfalso; omega)
                        · conv => whnf
                          conv => whnf
                          conv => whnf
                          refine .inl ⟨_, _, byX rfl (Sound1.pl (S68 _ _ _) rfl), ?_⟩
                          conv => whnf
                          conv => whnf
                          conv => whnf
                          refine ifB_not ?_
                          conv => whnf
                          conv => whnf
                          conv => whnf
                          refine ifB_dec (fun w8 => ?_) (fun w8 => ?_)
                          · have hby : 1 ≤ t ∧ t ≤ 10 := by assumption
                            conv => whnf
                            conv => whnf
                            conv => whnf
                            refine ⟨[.slot 18 1], [0, 2, 7, 9, 18, 19], fun st mq => ∃ (k : Nat) (O : List Int) (F0 : Nat → List AV), (k ≤ p.length) ∧ (O = (p.take k).map (t * ·)) ∧ (Sml 100 (p.take k)) ∧ st = ⟨[(0, ints p), (2, i64 t), (7, vb true), (9, listsA (tabL p)), (18, .oslice 2 0 0 k none), (19, i64 k)], ⟨[⟨1, 1, F0, 0, false, true, false⟩, ⟨1, 1 + l.length, fun i => [i64 ((0 :: l).getD i 0)], 0, true, true, false⟩, ⟨1, k, fun i => [i64 (O.getD i 0)], 0, false, true, false⟩], [], none, 0⟩, []⟩ ∧ mq = p.length - k,
                              ⟨_, _, ⟨0, [], _, by omega, rfl, (fun x hx => absurd hx (by simp)), rfl, rfl⟩, ⟨⟨.inl rfl, rfl, rfl, rfl⟩, ⟨⟨rfl, rfl, rfl, rfl, fun _ => rfl, fun _ _ => .inl rfl⟩, ⟨⟨rfl, rfl, rfl, rfl, fun _ => rfl, fun _ _ => .inl rfl⟩, ⟨⟨rfl, rfl, rfl, rfl, fun _ => rfl, fun i h => .inl (absurd h (Nat.not_lt_zero i))⟩, trivial⟩⟩⟩, trivial⟩⟩, ?_⟩
                            rintro s0 m0 ⟨k, O, F0, hk, hO, hs, rfl, hmeas⟩
                            by_cases hlt : k < p.length
                            · have h68k := S68 (p.getD (k : Int).toNat 0) (-100) 100
                              have hOl : O.length = k := by rw [hO]; simp; omega
                              by_cases hx : -100 ≤ p.getD k 0 ∧ p.getD k 0 ≤ 100
                              · have hx' : -100 ≤ p.getD (k : Int).toNat 0 ∧ p.getD (k : Int).toNat 0 ≤ 100 := hx
                                have hm := mul_sml (show t.natAbs ≤ 10 by omega) (show (p.getD (k : Int).toNat 0).natAbs ≤ 100 by omega)
                                conv => whnf
                                conv => whnf
                                conv => whnf
                                conv => whnf
                                refine ifB_dec (fun w9 => ?_) (fun w9 => ?_)
                                · conv => whnf
                                  conv => whnf
                                  conv => whnf
                                  conv => whnf
                                  refine ⟨⟨(by omega), (by omega)⟩, ?_⟩
                                  conv => whnf
                                  conv => whnf
                                  conv => whnf
                                  conv => whnf
                                  refine .inl ⟨_, _, byX rfl (Sound1.pl (h68k) rfl), ?_⟩
                                  conv => whnf
                                  conv => whnf
                                  conv => whnf
                                  conv => whnf
                                  refine ifB_not ?_
                                  conv => whnf
                                  conv => whnf
                                  conv => whnf
                                  conv => whnf
                                  refine ifB_dec (fun w10 => ?_) (fun w10 => ?_)
                                  · conv => whnf
                                    conv => whnf
                                    conv => whnf
                                    conv => whnf
                                    refine ⟨⟨(by omega), (by omega)⟩, ?_⟩
                                    conv => whnf
                                    conv => whnf
                                    conv => whnf
                                    conv => whnf
                                    refine ⟨inK64 (by omega) (by omega), ?_⟩
                                    conv => whnf
                                    conv => whnf
                                    conv => whnf
                                    conv => whnf
                                    refine .inl ?_
                                    conv => whnf
                                    conv => whnf
                                    conv => whnf
                                    conv => whnf
                                    refine ⟨(by show _ * (8 + 1) ≤ _; omega), ?_⟩
                                    conv => whnf
                                    conv => whnf
                                    conv => whnf
                                    conv => whnf
                                    refine ⟨inK64 (by omega) (by omega), ?_⟩
                                    conv => whnf
                                    conv => whnf
                                    conv => whnf
                                    conv => whnf
                                    refine ⟨_, _, ⟨⟨k + 1, O ++ [t * p.getD k 0], _, by omega, (by rw [take_snocI hlt, List.map_append, hO]; rfl), (by rw [take_snocI hlt]; intro x h; rcases List.mem_append.1 h with h | h; exact hs x h; rw [List.mem_singleton.1 h]; omega), rfl, rfl⟩, by omega⟩, ⟨⟨.inl rfl, rfl, rfl, rfl⟩, ⟨⟨rfl, rfl, rfl, rfl, fun _ => rfl, fun _ _ => .inl rfl⟩, ⟨⟨rfl, rfl, rfl, rfl, fun _ => rfl, fun _ _ => .inl rfl⟩, ⟨⟨rfl, rfl, rfl, rfl, fun _ => rfl, fun i hi => .inl (app_row O _ k i hOl hi)⟩, trivial⟩⟩⟩, trivial⟩⟩
                                  · (exfalso; omega)
                                · (exfalso; omega)
                              · have hx' : ¬(-100 ≤ p.getD (k : Int).toNat 0 ∧ p.getD (k : Int).toNat 0 ≤ 100) := hx
                                conv => whnf
                                conv => whnf
                                conv => whnf
                                conv => whnf
                                refine ifB_dec (fun w9 => ?_) (fun w9 => ?_)
                                · conv => whnf
                                  conv => whnf
                                  conv => whnf
                                  conv => whnf
                                  refine ⟨⟨(by omega), (by omega)⟩, ?_⟩
                                  conv => whnf
                                  conv => whnf
                                  conv => whnf
                                  conv => whnf
                                  refine .inl ⟨_, _, byX rfl (Sound1.pl (h68k) rfl), ?_⟩
                                  conv => whnf
                                  conv => whnf
                                  conv => whnf
                                  conv => whnf
                                  refine ifB_not ?_
                                  conv => whnf
                                  conv => whnf
                                  conv => whnf
                                  conv => whnf
                                  refine ifB_dec (fun w10 => ?_) (fun w10 => ?_)
                                  · (exfalso; omega)
                                  · conv => whnf
                                    conv => whnf
                                    conv => whnf
                                    conv => whnf
                                    refine ⟨?_, nofun⟩
                                    (first | contradiction | rfl)
                                · (exfalso; omega)
                            · have e : k = p.length := by omega
                              subst e
                              rw [List.take_length] at hO hs
                              have hOl : O.length = p.length := by rw [hO, List.length_map]
                              have hOp : PolyOk O := by
                                refine ⟨by rw [hOl]; exact hp.p2, fun x hx => ?_, ?_⟩
                                · rw [hO] at hx
                                  obtain ⟨y, hy, rfl⟩ := List.mem_map.1 hx
                                  exact Nat.le_trans (mul_sml (show t.natAbs ≤ 10 by omega) (hs y hy)) (by decide)
                                · rw [hO, map_getD _ _ _ (by have := hp.p2; omega)]
                                  exact Int.mul_pos (by omega) hp.p0
                              have hOe : polyE O = 0 := poly_ok' hOp
                              have h19O := S19 O (by omega)
                              have h61O := S61 O (by omega)
                              have h37O := S37 O (by omega)
                              have et : tabL O = tabL p := by rw [hO]; exact tab_scale (by omega) p
                              have es : stabB O = stabB p := by rw [hO]; exact stab_scale (by omega) p
                              rw [hOe, if_pos rfl, et] at h61O
                              rw [hOe, if_pos rfl, es, hsb] at h37O
                              rw [ints_n' hOl] at h19O h61O h37O
                              conv => whnf
                              conv => whnf
                              conv => whnf
                              conv => whnf
                              refine ifB_dec (fun w9 => ?_) (fun w9 => ?_)
                              · (exfalso; omega)
                              · conv => whnf
                                conv => whnf
                                conv => whnf
                                conv => whnf
                                refine .inl ⟨_, _, byX rfl (h19O), ?_⟩
                                conv => whnf
                                conv => whnf
                                conv => whnf
                                conv => whnf
                                refine .inl ⟨_, _, byX rfl (h61O), ?_⟩
                                conv => whnf
                                conv => whnf
                                conv => whnf
                                conv => whnf
                                refine .inl ⟨_, _, byX rfl (Sound1.pl (h37O) rfl), ?_⟩
                                conv => whnf
                                conv => whnf
                                conv => whnf
                                conv => whnf
                                refine .inl ⟨_, _, byX rfl (Sound1.pl (h32) rfl), ?_⟩
                                conv => whnf
                                conv => whnf
                                conv => whnf
                                conv => whnf
                                refine ⟨?_, nofun⟩
                                exact endb (beq_iff_eq.2 rfl)
                          · conv => whnf
                            conv => whnf
                            conv => whnf
                            refine ⟨?_, nofun⟩
                            rfl
            · (exfalso; omega)
        · have h24G := fun f (hf : ∀ i, i < 1 + l.length → f i = [i64 ((0 :: l).getD i 0)]) => SPg (S24 (0 :: l) (by simp; omega)) (by simp; omega) f hf
          conv => whnf
          conv => whnf
          refine ifB_dec (fun w3 => ?_) (fun w3 => ?_)
          · (exfalso; omega)
          · conv => whnf
            conv => whnf
            refine .inl ?_
            conv => whnf
            conv => whnf
            refine ⟨⟨(by omega), (by show _ * (8 + 1) ≤ _; omega)⟩, ?_⟩
            conv => whnf
            conv => whnf
            refine ifB_dec (fun w4 => ?_) (fun w4 => ?_)
            · conv => whnf
              conv => whnf
              refine ⟨⟨(by omega), (by omega)⟩, ?_⟩
              conv => whnf
              conv => whnf
              refine ifB_beq (fun w5 => ?_) (fun w5 => ?_)
              · (exfalso; omega)
              · conv => whnf
                conv => whnf
                refine .inl ⟨_, _, byX rfl (Sound1.pl (h24G _ ?_) rfl), ?_⟩
                · (first | rfl | exact fun i hi => cons_row l i | exact fun i hi => one_row i hi | contradiction)
                · conv => whnf
                  conv => whnf
                  refine ifB_bne (fun w6 => ?_) (fun w6 => ?_)
                  · conv => whnf
                    conv => whnf
                    refine ⟨?_, nofun⟩
                    (first | rfl | exact fun i hi => cons_row l i | exact fun i hi => one_row i hi | contradiction)
                  · (exfalso; omega)
            · (exfalso; omega)
theorem S10 (p l : List Int) (t : Int) (hpl : p.length ≤ 9223372036854775807) (hll : l.length ≤ 9223372036854775807) : SP 10 [ints p, ints l, i64 t] (vb true) false := by
  have h21 := S21w' p hpl
  have h24 := S24 l hll
  by_cases h0 : polyE p = 0
  · by_cases hg : gridE l = 0
    · cases hsb : stabB p with
      | false => exact S10n p l t h0 hg hsb
      | true =>
        match l, hg with
        | [], hg => exact S10A p [] t h0 hg hsb rfl
        | x :: l, hg =>
          by_cases hz : x = 0
          · exact S10B p (x :: l) t h0 hg hsb (by simp) hz
          · exact S10C p (x :: l) t h0 hg hsb (by simp) hz
    · refine sound (d := 2) tok2 mixed2 Tryz.func10 (by kernel_rfl) (by kernel_rfl) ?_
      conv => whnf
      refine .inl ⟨_, _, byX rfl (Sound1.pl (S16) rfl), ?_⟩
      conv => whnf
      refine .inl ⟨_, _, byX rfl (Sound1.pl (h21) rfl), ?_⟩
      conv => whnf
      refine ifB_bne (fun w1 => ?_) (fun w1 => ?_)
      · (exfalso; omega)
      · conv => whnf
        refine .inl ⟨_, _, byX rfl (Sound1.pl (h24) rfl), ?_⟩
        conv => whnf
        refine ifB_bne (fun w2 => ?_) (fun w2 => ?_)
        · conv => whnf
          refine ⟨?_, nofun⟩
          (first | rfl | contradiction)
        · (exfalso; omega)
  · refine sound (d := 2) tok2 mixed2 Tryz.func10 (by kernel_rfl) (by kernel_rfl) ?_
    conv => whnf
    refine .inl ⟨_, _, byX rfl (Sound1.pl (S16) rfl), ?_⟩
    conv => whnf
    refine .inl ⟨_, _, byX rfl (Sound1.pl (h21) rfl), ?_⟩
    conv => whnf
    refine ifB_bne (fun w1 => ?_) (fun w1 => ?_)
    · conv => whnf
      refine ⟨?_, nofun⟩
      (first | rfl | contradiction)
    · (exfalso; omega)
end Go.Tr

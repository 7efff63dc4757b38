/- The law TopSequenceShortcuts returns true (numbers of another seat). Conditions: none. -/
import Derived.Test.YtklnmbeceaafgaaDoorTr09
import Derived.Test.YtklnmbeceaafgaaDoorTr06
import Derived.ProofKit
set_option linter.unusedSectionVars false
set_option linter.unnecessarySimpa false
set_option linter.unusedVariables false
set_option linter.unusedSimpArgs false

-- seat YtklnmbeceaafgaaDoor
namespace Go.Tr
open Go Go.Proofs
set_option maxRecDepth 20000
set_option maxHeartbeats 8000000

theorem S4 : SP 4 [] (vb true) false := by
  have h16 := S16 plE fewE (2, 3) (1, true)
  have h10 := S10 plE fewE (0, 0) 2
  have h18 := @S18_1 [1] (by decide) 1
  have e2 : fastR plE (0, 0) 2 = .tuple [ints [1], i64 31, i64 0] := by unfold fastR; rw [ex_fast.1, ex_fast.2]; rfl
  obtain ⟨l, hl, e5⟩ : ∃ l : List S2, l.length = 3 ∧ homeR plE (2, 3) (1, true) = .tuple [sts l, i64 91, i64 0] := by
    obtain ⟨x, h1, h2⟩ := Option.map_eq_some_iff.1 ex_home.2
    refine ⟨x.1, congrArg Prod.fst h2, ?_⟩
    unfold homeR
    rw [ex_home.1, h1, if_neg (not_not_intro rfl)]
    show AV.tuple [sts x.1, i64 x.2, i64 0] = _
    rw [show x.2 = 91 from congrArg Prod.snd h2]
  rw [e2] at h10
  rw [e5] at h16
  refine sound (d := 2) tok2 mixed2 Tryd.func4 (by kernel_rfl) (by kernel_rfl) ?_
  conv => whnf
  refine .inl ⟨_, _, byX rfl (S17), ?_⟩
  conv => whnf
  refine .inl ⟨_, _, byX rfl (h16), ?_⟩
  conv => whnf
  refine .inl ⟨_, _, byX rfl (S17), ?_⟩
  conv => whnf
  refine .inl ⟨_, _, byX rfl (h10), ?_⟩
  conv => whnf
  refine ifB_beq (fun w1 => ?_) (fun w1 => ?_)
  · conv => whnf
    refine .inl ⟨_, _, byX rfl (Sound1.pl (h18 rfl) rfl), ?_⟩
    conv => whnf
    refine ⟨?_, nofun⟩
    rfl
  · (exfalso; omega)
theorem Leads.append {p : Pln} {s0 s1 s2 : S2} {c1 c2 : List Int} {t1 t2 : Int} (h1 : Leads p s0 c1 s1 t1) (h2 : Leads p s1 c2 s2 t2) : Leads p s0 (c1 ++ c2) s2 (t1 + t2) := by
  induction h2 with
  | nil => rw [List.append_nil, Int.add_zero]; exact h1
  | snoc h hc hr ih => rw [← List.append_assoc, ← Int.add_assoc]; exact .snoc ih hc hr
theorem best_time {p : Pln} (hg : Good p) {s0 : S2} (hs : OkS p s0) (hw : (stp p s0).wait = 0) {to : Int} {b : Way} (h : bestW p s0 to 11 = some b) : 0 ≤ b.2 ∧ b.2 ≤ 44000000 := by
  obtain ⟨k, h1, h2⟩ := best_here 11 b h
  obtain ⟨e, h3, h4⟩ := List.mem_map.1 (minL_some.1 h2).1
  obtain ⟨h5, h6⟩ := List.mem_filter.1 h3
  have h8 := (layer_ok hg hs hw k e (norm_mem h5)).2.2.2
  rw [h4] at h8
  omega
theorem leads_best {p : Pln} {s0 s : S2} {to : Int} {cs : List Int} {t : Int} (h : Leads p s0 cs s t) (hs : s.1 = to) (hc : cs.length ≤ 10) : ∃ b, bestW p s0 to 11 = some b ∧ b.2 ≤ t := by
  obtain ⟨v, h3, h5⟩ := here_of_leads h hs
  obtain ⟨b, h4, h6⟩ := best_le h3 11 (by omega)
  exact ⟨b, h4, Int.le_trans h6 h5⟩
theorem fast_cases {p : Pln} {s : S2} {to : Int} (h0 : openE p s noF = 0) (hx : idxE p.steps.length to = 0) :
    (¬ ((stp p s).wait = 0 ∧ (p.steps.getD to.toNat stp0).wait = 0) ∧ fastR p s to = .tuple [ints [], i64 0, i64 20]) ∨ ((stp p s).wait = 0 ∧ (p.steps.getD to.toNat stp0).wait = 0) ∧ fastR p s to = (match bestW p s to 11 with | none => .tuple [ints [], i64 0, i64 12] | some w => .tuple [ints w.1, i64 w.2, i64 0]) := by
  by_cases hw : (stp p s).wait = 0 ∧ (p.steps.getD to.toNat stp0).wait = 0
  · have hE : fastE p s to = 0 := by
      unfold fastE
      rw [if_neg (not_not_intro h0), if_neg (not_not_intro hx), if_pos hw]
    refine .inr ⟨hw, ?_⟩
    unfold fastR
    rw [hE, if_neg (not_not_intro rfl)]
    cases bestW p s to 11 <;> rfl
  · have hE : fastE p s to = 20 := by
      unfold fastE
      rw [if_neg (not_not_intro h0), if_neg (not_not_intro hx), if_neg hw]
    refine .inl ⟨hw, ?_⟩
    unfold fastR
    rw [hE, if_pos (by decide)]
theorem fault_no (p : Pln) : faultE p (-1, false) = 0 := by
  unfold faultE
  rw [if_pos (decide_eq_true (show (-1 : Int) ≤ -1 ∧ (-1 : Int) ≤ (p.sig.length : Int) - 1 by omega))]
  rfl
set_option maxHeartbeats 8000000 in
theorem S3 (p : Pln) (hl : p.sig.length ≤ 9223372036854775807 ∧ p.steps.length ≤ 9223372036854775807) (s : S2) (a b : Int) : SP 3 [planA p, stA s, .agg [i64 a, i64 b]] (vb true) false := by
  have h5 := S5 p hl
  have h7 := S7 p hl
  have h13 := S13
  cases hf : fewB p with
  | false =>
    rw [hf] at h5
    refine sound (d := 2) tok2 mixed2 Tryd.func3 (by kernel_rfl) (by kernel_rfl) ?_
    conv => whnf
    refine .inl ⟨_, _, byX rfl (Sound1.pl (S4) rfl), ?_⟩
    conv => whnf
    refine .inl ⟨_, _, byX rfl (Sound1.pl (h5) rfl), ?_⟩
    conv => whnf
    refine ⟨?_, nofun⟩
    (rfl)
  | true =>
    rw [hf] at h5
    have hp := FewP.of hf
    have hm0 := hp.steps
    have h6 := S6 p hp
    have h8 := S8 p hp.sig (by omega) s
    have h9a := S9 p (by omega) a
    have h9b := S9 p (by omega) b
    have h11 := S11 p hp
    by_cases hC : (checkP p).2 = 0 ∧ stateE p s = 0 ∧ idxE p.steps.length a = 0 ∧ idxE p.steps.length b = 0
    · obtain ⟨hC, hS, hA, hB⟩ := hC
      have h0 : openE p s noF = 0 := by
        unfold openE
        rw [if_pos hC, first2_iff]
        exact ⟨hS, fault_no p⟩
      obtain ⟨hg, hs, hff⟩ := open_ok hp h0
      rw [hC] at h6
      rw [hS] at h8
      rw [hA] at h9a
      rw [hB] at h9b
      have h10a := S10 p hp s a
      rcases fast_cases h0 hA with ⟨_, e⟩ | ⟨hw, e⟩
      · rw [e] at h10a
        refine sound (d := 2) tok2 mixed2 Tryd.func3 (by kernel_rfl) (by kernel_rfl) ?_
        conv => whnf
        refine .inl ⟨_, _, byX rfl (Sound1.pl (S4) rfl), ?_⟩
        conv => whnf
        refine .inl ⟨_, _, byX rfl (Sound1.pl (h5) rfl), ?_⟩
        conv => whnf
        refine .inl ⟨_, _, byX rfl (Sound1.pl (h6) rfl), ?_⟩
        conv => whnf
        refine .inl ⟨_, _, byX rfl (Sound1.pl (h7) rfl), ?_⟩
        conv => whnf
        refine ifB_not ?_
        conv => whnf
        refine ifB_intro (fun w1 => ?_) (fun w1 => ?_)
        · conv => whnf
          refine .inl ⟨_, _, byX rfl (Sound1.pl (h8) rfl), ?_⟩
          conv => whnf
          refine ⟨⟨(by omega), (by omega)⟩, ?_⟩
          conv => whnf
          refine .inl ⟨_, _, byX rfl (Sound1.pl (h9a) rfl), ?_⟩
          conv => whnf
          refine ⟨⟨(by omega), (by omega)⟩, ?_⟩
          conv => whnf
          refine .inl ⟨_, _, byX rfl (Sound1.pl (h9b) rfl), ?_⟩
          conv => whnf
          refine ⟨[], by kernel_rfl, ?_⟩
          conv => whnf
          refine .inl ⟨_, _, byX rfl (h11), ?_⟩
          conv => whnf
          refine ⟨⟨(by omega), (by omega)⟩, ?_⟩
          conv => whnf
          refine .inl ⟨_, _, byX rfl (h10a), ?_⟩
          conv => whnf
          refine ⟨?_, nofun⟩
          (rfl)
        · conv => whnf
          refine ⟨?_, nofun⟩
          (rfl)
      · rw [e] at h10a
        cases hba : bestW p s a 11 with
        | none =>
          rw [hba] at h10a
          refine sound (d := 2) tok2 mixed2 Tryd.func3 (by kernel_rfl) (by kernel_rfl) ?_
          conv => whnf
          refine .inl ⟨_, _, byX rfl (Sound1.pl (S4) rfl), ?_⟩
          conv => whnf
          refine .inl ⟨_, _, byX rfl (Sound1.pl (h5) rfl), ?_⟩
          conv => whnf
          refine .inl ⟨_, _, byX rfl (Sound1.pl (h6) rfl), ?_⟩
          conv => whnf
          refine .inl ⟨_, _, byX rfl (Sound1.pl (h7) rfl), ?_⟩
          conv => whnf
          refine ifB_not ?_
          conv => whnf
          refine ifB_intro (fun w1 => ?_) (fun w1 => ?_)
          · conv => whnf
            refine .inl ⟨_, _, byX rfl (Sound1.pl (h8) rfl), ?_⟩
            conv => whnf
            refine ⟨⟨(by omega), (by omega)⟩, ?_⟩
            conv => whnf
            refine .inl ⟨_, _, byX rfl (Sound1.pl (h9a) rfl), ?_⟩
            conv => whnf
            refine ⟨⟨(by omega), (by omega)⟩, ?_⟩
            conv => whnf
            refine .inl ⟨_, _, byX rfl (Sound1.pl (h9b) rfl), ?_⟩
            conv => whnf
            refine ⟨[], by kernel_rfl, ?_⟩
            conv => whnf
            refine .inl ⟨_, _, byX rfl (h11), ?_⟩
            conv => whnf
            refine ⟨⟨(by omega), (by omega)⟩, ?_⟩
            conv => whnf
            refine .inl ⟨_, _, byX rfl (h10a), ?_⟩
            conv => whnf
            refine ⟨?_, nofun⟩
            (rfl)
          · conv => whnf
            refine ⟨?_, nofun⟩
            (rfl)
        | some w =>
          rw [hba] at h10a
          obtain ⟨mid, hm1, hm2, hm3⟩ := best_leads hg hs hw.1 hba
          obtain ⟨L, hL1, hL2, hL3⟩ := leads_run hg hs hw.1 h0 (by omega) hm2
          have hmo := hm2.ok hg hs hw.1
          have hwt := best_time hg hs hw.1 hba
          have h14 := S14f w.1 (by omega)
          have h12 := S12 p hp s noF w.1 (by omega)
          have hLb := runP_len (f := noF) (cs := w.1) hg hs
          rw [hL1] at h12 hLb
          have hLb : L.length ≤ 10000 := hLb
          have h12 : SP 12 [planA p, stA s, rnA noF w.1] (.tuple [sts L, i64 w.2, i64 0]) false := h12
          have hbe : ((L.length : Int) == 0) = ((w.1.length : Int) == 0) := by
            by_cases hLe : L = []
            · rw [hL3.1 hLe, hLe]; rfl
            · have h1 : 0 < L.length := List.length_pos_iff.2 hLe
              have h2 : 0 < w.1.length := List.length_pos_iff.2 fun e => hLe (hL3.2 e)
              rw [beq_eq_false_iff_ne.2 (by omega), beq_eq_false_iff_ne.2 (by omega)]
          have h0m : openE p mid noF = 0 := open_same h0 hmo.1
          have h8m := S8 p hp.sig (by omega) mid
          rw [state_ok.2 hmo.1] at h8m
          by_cases hLe : L = []
          · have hLl : L.length = 0 := by rw [hLe]; rfl
            have hwl : w.1.length = 0 := by rw [hL3.1 hLe]; rfl
            have hms : mid = s := by rw [← hL2, hLe]; rfl
            subst hms
            have h10b := S10 p hp mid b
            have h15a := S15 w.2 0 1099511627776
            rw [decide_eq_true (show 0 ≤ w.2 ∧ w.2 ≤ 1099511627776 by omega)] at h15a
            rcases fast_cases h0 hB with ⟨hnb, eb⟩ | ⟨hwb, eb⟩
            · rw [eb] at h10b
              refine sound (d := 2) tok2 mixed2 Tryd.func3 (by kernel_rfl) (by kernel_rfl) ?_
              conv => whnf
              refine .inl ⟨_, _, byX rfl (Sound1.pl (S4) rfl), ?_⟩
              conv => whnf
              refine .inl ⟨_, _, byX rfl (Sound1.pl (h5) rfl), ?_⟩
              conv => whnf
              refine .inl ⟨_, _, byX rfl (Sound1.pl (h6) rfl), ?_⟩
              conv => whnf
              refine .inl ⟨_, _, byX rfl (Sound1.pl (h7) rfl), ?_⟩
              conv => whnf
              refine ifB_not ?_
              conv => whnf
              refine ifB_intro (fun w1 => ?_) (fun w1 => ?_)
              · conv => whnf
                refine .inl ⟨_, _, byX rfl (Sound1.pl (h8) rfl), ?_⟩
                conv => whnf
                refine ⟨⟨(by omega), (by omega)⟩, ?_⟩
                conv => whnf
                refine .inl ⟨_, _, byX rfl (Sound1.pl (h9a) rfl), ?_⟩
                conv => whnf
                refine ⟨⟨(by omega), (by omega)⟩, ?_⟩
                conv => whnf
                refine .inl ⟨_, _, byX rfl (Sound1.pl (h9b) rfl), ?_⟩
                conv => whnf
                refine ⟨[], by kernel_rfl, ?_⟩
                conv => whnf
                refine .inl ⟨_, _, byX rfl (h11), ?_⟩
                conv => whnf
                refine ⟨⟨(by omega), (by omega)⟩, ?_⟩
                conv => whnf
                refine .inl ⟨_, _, byX rfl (h10a), ?_⟩
                conv => whnf
                refine ⟨[], by kernel_rfl, ?_⟩
                conv => whnf
                refine .inl ⟨_, _, byX rfl (h11), ?_⟩
                conv => whnf
                refine .inl ⟨_, _, byX rfl (Sound1.pl (h13) rfl), ?_⟩
                conv => whnf
                refine .inl ⟨_, _, byX rfl (h14), ?_⟩
                conv => whnf
                refine .inl ⟨_, _, byX rfl (h12), ?_⟩
                conv => whnf
                refine ifB_bne (fun w2 => ?_) (fun w2 => ?_)
                · (exfalso; omega)
                · conv => whnf
                  refine ifB_not ?_
                  conv => whnf
                  refine ifB_beqB (fun w3 => ?_) (fun w3 => ?_)
                  · conv => whnf
                    refine ifB_dec (fun w4 => ?_) (fun w4 => ?_)
                    · (exfalso; omega)
                    · conv => whnf
                      refine ⟨⟨(by omega), (by omega)⟩, ?_⟩
                      conv => whnf
                      refine ifB_bne (fun w5 => ?_) (fun w5 => ?_)
                      · (exfalso; omega)
                      · conv => whnf
                        refine .inl ⟨_, _, byX rfl (Sound1.pl (h8) rfl), ?_⟩
                        conv => whnf
                        refine ⟨[], by kernel_rfl, ?_⟩
                        conv => whnf
                        refine .inl ⟨_, _, byX rfl (h11), ?_⟩
                        conv => whnf
                        refine ⟨⟨(by omega), (by omega)⟩, ?_⟩
                        conv => whnf
                        refine .inl ⟨_, _, byX rfl (h10b), ?_⟩
                        conv => whnf
                        refine ⟨[], by kernel_rfl, ?_⟩
                        conv => whnf
                        refine .inl ⟨_, _, byX rfl (h11), ?_⟩
                        conv => whnf
                        refine ⟨⟨(by omega), (by omega)⟩, ?_⟩
                        conv => whnf
                        refine .inl ⟨_, _, byX rfl (h10b), ?_⟩
                        conv => whnf
                        refine ⟨?_, nofun⟩
                        (rfl)
                  · conv => whnf
                    refine ⟨?_, nofun⟩
                    (exact absurd hbe w3)
              · conv => whnf
                refine ⟨?_, nofun⟩
                (rfl)
            · cases hbb : bestW p mid b 11 with
              | none =>
                rw [eb, hbb] at h10b
                refine sound (d := 2) tok2 mixed2 Tryd.func3 (by kernel_rfl) (by kernel_rfl) ?_
                conv => whnf
                refine .inl ⟨_, _, byX rfl (Sound1.pl (S4) rfl), ?_⟩
                conv => whnf
                refine .inl ⟨_, _, byX rfl (Sound1.pl (h5) rfl), ?_⟩
                conv => whnf
                refine .inl ⟨_, _, byX rfl (Sound1.pl (h6) rfl), ?_⟩
                conv => whnf
                refine .inl ⟨_, _, byX rfl (Sound1.pl (h7) rfl), ?_⟩
                conv => whnf
                refine ifB_not ?_
                conv => whnf
                refine ifB_intro (fun w1 => ?_) (fun w1 => ?_)
                · conv => whnf
                  refine .inl ⟨_, _, byX rfl (Sound1.pl (h8) rfl), ?_⟩
                  conv => whnf
                  refine ⟨⟨(by omega), (by omega)⟩, ?_⟩
                  conv => whnf
                  refine .inl ⟨_, _, byX rfl (Sound1.pl (h9a) rfl), ?_⟩
                  conv => whnf
                  refine ⟨⟨(by omega), (by omega)⟩, ?_⟩
                  conv => whnf
                  refine .inl ⟨_, _, byX rfl (Sound1.pl (h9b) rfl), ?_⟩
                  conv => whnf
                  refine ⟨[], by kernel_rfl, ?_⟩
                  conv => whnf
                  refine .inl ⟨_, _, byX rfl (h11), ?_⟩
                  conv => whnf
                  refine ⟨⟨(by omega), (by omega)⟩, ?_⟩
                  conv => whnf
                  refine .inl ⟨_, _, byX rfl (h10a), ?_⟩
                  conv => whnf
                  refine ⟨[], by kernel_rfl, ?_⟩
                  conv => whnf
                  refine .inl ⟨_, _, byX rfl (h11), ?_⟩
                  conv => whnf
                  refine .inl ⟨_, _, byX rfl (Sound1.pl (h13) rfl), ?_⟩
                  conv => whnf
                  refine .inl ⟨_, _, byX rfl (h14), ?_⟩
                  conv => whnf
                  refine .inl ⟨_, _, byX rfl (h12), ?_⟩
                  conv => whnf
                  refine ifB_bne (fun w2 => ?_) (fun w2 => ?_)
                  · (exfalso; omega)
                  · conv => whnf
                    refine ifB_not ?_
                    conv => whnf
                    refine ifB_beqB (fun w3 => ?_) (fun w3 => ?_)
                    · conv => whnf
                      refine ifB_dec (fun w4 => ?_) (fun w4 => ?_)
                      · (exfalso; omega)
                      · conv => whnf
                        refine ⟨⟨(by omega), (by omega)⟩, ?_⟩
                        conv => whnf
                        refine ifB_bne (fun w5 => ?_) (fun w5 => ?_)
                        · (exfalso; omega)
                        · conv => whnf
                          refine .inl ⟨_, _, byX rfl (Sound1.pl (h8) rfl), ?_⟩
                          conv => whnf
                          refine ⟨[], by kernel_rfl, ?_⟩
                          conv => whnf
                          refine .inl ⟨_, _, byX rfl (h11), ?_⟩
                          conv => whnf
                          refine ⟨⟨(by omega), (by omega)⟩, ?_⟩
                          conv => whnf
                          refine .inl ⟨_, _, byX rfl (h10b), ?_⟩
                          conv => whnf
                          refine ⟨[], by kernel_rfl, ?_⟩
                          conv => whnf
                          refine .inl ⟨_, _, byX rfl (h11), ?_⟩
                          conv => whnf
                          refine ⟨⟨(by omega), (by omega)⟩, ?_⟩
                          conv => whnf
                          refine .inl ⟨_, _, byX rfl (h10b), ?_⟩
                          conv => whnf
                          refine ⟨?_, nofun⟩
                          (rfl)
                    · conv => whnf
                      refine ⟨?_, nofun⟩
                      (exact absurd hbe w3)
                · conv => whnf
                  refine ⟨?_, nofun⟩
                  (rfl)
              | some v =>
                rw [eb, hbb] at h10b
                have hvt := best_time hg hmo.1 hmo.2 hbb
                obtain ⟨_, _, _, hv3⟩ := best_leads hg hmo.1 hmo.2 hbb
                have h15b := S15 v.2 0 1099511627776
                rw [decide_eq_true (show 0 ≤ v.2 ∧ v.2 ≤ 1099511627776 by omega)] at h15b
                refine sound (d := 2) tok2 mixed2 Tryd.func3 (by kernel_rfl) (by kernel_rfl) ?_
                conv => whnf
                refine .inl ⟨_, _, byX rfl (Sound1.pl (S4) rfl), ?_⟩
                conv => whnf
                refine .inl ⟨_, _, byX rfl (Sound1.pl (h5) rfl), ?_⟩
                conv => whnf
                refine .inl ⟨_, _, byX rfl (Sound1.pl (h6) rfl), ?_⟩
                conv => whnf
                refine .inl ⟨_, _, byX rfl (Sound1.pl (h7) rfl), ?_⟩
                conv => whnf
                refine ifB_not ?_
                conv => whnf
                refine ifB_intro (fun w1 => ?_) (fun w1 => ?_)
                · conv => whnf
                  refine .inl ⟨_, _, byX rfl (Sound1.pl (h8) rfl), ?_⟩
                  conv => whnf
                  refine ⟨⟨(by omega), (by omega)⟩, ?_⟩
                  conv => whnf
                  refine .inl ⟨_, _, byX rfl (Sound1.pl (h9a) rfl), ?_⟩
                  conv => whnf
                  refine ⟨⟨(by omega), (by omega)⟩, ?_⟩
                  conv => whnf
                  refine .inl ⟨_, _, byX rfl (Sound1.pl (h9b) rfl), ?_⟩
                  conv => whnf
                  refine ⟨[], by kernel_rfl, ?_⟩
                  conv => whnf
                  refine .inl ⟨_, _, byX rfl (h11), ?_⟩
                  conv => whnf
                  refine ⟨⟨(by omega), (by omega)⟩, ?_⟩
                  conv => whnf
                  refine .inl ⟨_, _, byX rfl (h10a), ?_⟩
                  conv => whnf
                  refine ⟨[], by kernel_rfl, ?_⟩
                  conv => whnf
                  refine .inl ⟨_, _, byX rfl (h11), ?_⟩
                  conv => whnf
                  refine .inl ⟨_, _, byX rfl (Sound1.pl (h13) rfl), ?_⟩
                  conv => whnf
                  refine .inl ⟨_, _, byX rfl (h14), ?_⟩
                  conv => whnf
                  refine .inl ⟨_, _, byX rfl (h12), ?_⟩
                  conv => whnf
                  refine ifB_bne (fun w2 => ?_) (fun w2 => ?_)
                  · (exfalso; omega)
                  · conv => whnf
                    refine ifB_not ?_
                    conv => whnf
                    refine ifB_beqB (fun w3 => ?_) (fun w3 => ?_)
                    · conv => whnf
                      refine ifB_dec (fun w4 => ?_) (fun w4 => ?_)
                      · (exfalso; omega)
                      · conv => whnf
                        refine ⟨⟨(by omega), (by omega)⟩, ?_⟩
                        conv => whnf
                        refine ifB_bne (fun w5 => ?_) (fun w5 => ?_)
                        · (exfalso; omega)
                        · conv => whnf
                          refine .inl ⟨_, _, byX rfl (Sound1.pl (h8) rfl), ?_⟩
                          conv => whnf
                          refine ⟨[], by kernel_rfl, ?_⟩
                          conv => whnf
                          refine .inl ⟨_, _, byX rfl (h11), ?_⟩
                          conv => whnf
                          refine ⟨⟨(by omega), (by omega)⟩, ?_⟩
                          conv => whnf
                          refine .inl ⟨_, _, byX rfl (h10b), ?_⟩
                          conv => whnf
                          refine ⟨[], by kernel_rfl, ?_⟩
                          conv => whnf
                          refine .inl ⟨_, _, byX rfl (h11), ?_⟩
                          conv => whnf
                          refine ⟨⟨(by omega), (by omega)⟩, ?_⟩
                          conv => whnf
                          refine .inl ⟨_, _, byX rfl (h10b), ?_⟩
                          conv => whnf
                          refine ⟨inK64 (by omega) (by omega), ?_⟩
                          conv => whnf
                          refine ifB_dec (fun w6 => ?_) (fun w6 => ?_)
                          · (exfalso; omega)
                          · conv => whnf
                            refine .inl ⟨_, _, byX rfl (Sound1.pl (h15a) rfl), ?_⟩
                            conv => whnf
                            refine .inl ⟨_, _, byX rfl (Sound1.pl (h15b) rfl), ?_⟩
                            conv => whnf
                            refine ⟨inK64 (by omega) (by omega), ?_⟩
                            conv => whnf
                            refine ⟨?_, nofun⟩
                            (exact endb (decide_eq_true (by omega)))
                    · conv => whnf
                      refine ⟨?_, nofun⟩
                      (exact absurd hbe w3)
                · conv => whnf
                  refine ⟨?_, nofun⟩
                  (rfl)
          · have hLl : 0 < L.length := List.length_pos_iff.2 hLe
            have hwl : 0 < w.1.length := List.length_pos_iff.2 fun e => hLe (hL3.2 e)
            have hM : L.getD ((L.length : Int) - 1).toNat (0, 0) = mid := by rw [last_pos s (by omega), hL2]
            subst hM
            have h10b := S10 p hp (L.getD ((L.length : Int) - 1).toNat (0, 0)) b
            have h10c := S10 p hp s b
            have h15a := S15 w.2 0 1099511627776
            rw [decide_eq_true (show 0 ≤ w.2 ∧ w.2 ≤ 1099511627776 by omega)] at h15a
            rcases fast_cases h0 hB with ⟨hnc, ec⟩ | ⟨hwc, ec⟩
            · rcases fast_cases h0m hB with ⟨hnb, eb⟩ | ⟨hwb, eb⟩
              · rw [eb] at h10b
                rw [ec] at h10c
                refine sound (d := 2) tok2 mixed2 Tryd.func3 (by kernel_rfl) (by kernel_rfl) ?_
                conv => whnf
                refine .inl ⟨_, _, byX rfl (Sound1.pl (S4) rfl), ?_⟩
                conv => whnf
                refine .inl ⟨_, _, byX rfl (Sound1.pl (h5) rfl), ?_⟩
                conv => whnf
                refine .inl ⟨_, _, byX rfl (Sound1.pl (h6) rfl), ?_⟩
                conv => whnf
                refine .inl ⟨_, _, byX rfl (Sound1.pl (h7) rfl), ?_⟩
                conv => whnf
                refine ifB_not ?_
                conv => whnf
                refine ifB_intro (fun w1 => ?_) (fun w1 => ?_)
                · conv => whnf
                  refine .inl ⟨_, _, byX rfl (Sound1.pl (h8) rfl), ?_⟩
                  conv => whnf
                  refine ⟨⟨(by omega), (by omega)⟩, ?_⟩
                  conv => whnf
                  refine .inl ⟨_, _, byX rfl (Sound1.pl (h9a) rfl), ?_⟩
                  conv => whnf
                  refine ⟨⟨(by omega), (by omega)⟩, ?_⟩
                  conv => whnf
                  refine .inl ⟨_, _, byX rfl (Sound1.pl (h9b) rfl), ?_⟩
                  conv => whnf
                  refine ⟨[], by kernel_rfl, ?_⟩
                  conv => whnf
                  refine .inl ⟨_, _, byX rfl (h11), ?_⟩
                  conv => whnf
                  refine ⟨⟨(by omega), (by omega)⟩, ?_⟩
                  conv => whnf
                  refine .inl ⟨_, _, byX rfl (h10a), ?_⟩
                  conv => whnf
                  refine ⟨[], by kernel_rfl, ?_⟩
                  conv => whnf
                  refine .inl ⟨_, _, byX rfl (h11), ?_⟩
                  conv => whnf
                  refine .inl ⟨_, _, byX rfl (Sound1.pl (h13) rfl), ?_⟩
                  conv => whnf
                  refine .inl ⟨_, _, byX rfl (h14), ?_⟩
                  conv => whnf
                  refine .inl ⟨_, _, byX rfl (h12), ?_⟩
                  conv => whnf
                  refine ifB_bne (fun w2 => ?_) (fun w2 => ?_)
                  · (exfalso; omega)
                  · conv => whnf
                    refine ifB_not ?_
                    conv => whnf
                    refine ifB_beqB (fun w3 => ?_) (fun w3 => ?_)
                    · conv => whnf
                      refine ifB_dec (fun w4 => ?_) (fun w4 => ?_)
                      · conv => whnf
                        refine ⟨inK64 (by omega) (by omega), ?_⟩
                        conv => whnf
                        refine ⟨⟨(by omega), (by omega)⟩, ?_⟩
                        conv => whnf
                        refine ⟨⟨(by omega), (by omega)⟩, ?_⟩
                        conv => whnf
                        refine ifB_bne (fun w5 => ?_) (fun w5 => ?_)
                        · (exfalso; omega)
                        · conv => whnf
                          refine .inl ⟨_, _, byX rfl (Sound1.pl (h8m) rfl), ?_⟩
                          conv => whnf
                          refine ⟨[], by kernel_rfl, ?_⟩
                          conv => whnf
                          refine .inl ⟨_, _, byX rfl (h11), ?_⟩
                          conv => whnf
                          refine ⟨⟨(by omega), (by omega)⟩, ?_⟩
                          conv => whnf
                          refine .inl ⟨_, _, byX rfl (h10b), ?_⟩
                          conv => whnf
                          refine ⟨[], by kernel_rfl, ?_⟩
                          conv => whnf
                          refine .inl ⟨_, _, byX rfl (h11), ?_⟩
                          conv => whnf
                          refine ⟨⟨(by omega), (by omega)⟩, ?_⟩
                          conv => whnf
                          refine .inl ⟨_, _, byX rfl (h10c), ?_⟩
                          conv => whnf
                          refine ⟨?_, nofun⟩
                          (rfl)
                      · (exfalso; omega)
                    · conv => whnf
                      refine ⟨?_, nofun⟩
                      (exact absurd hbe w3)
                · conv => whnf
                  refine ⟨?_, nofun⟩
                  (rfl)
              · exact absurd ⟨hw.1, hwb.2⟩ hnc
            · rcases fast_cases h0m hB with ⟨hnb, eb⟩ | ⟨hwb, eb⟩
              · exact absurd ⟨hmo.2, hwc.2⟩ hnb
              · cases hbb : bestW p (L.getD ((L.length : Int) - 1).toNat (0, 0)) b 11 with
                | none =>
                  rw [eb, hbb] at h10b
                  rw [ec] at h10c
                  cases hbc : bestW p s b 11 with
                  | none =>
                    rw [hbc] at h10c
                    refine sound (d := 2) tok2 mixed2 Tryd.func3 (by kernel_rfl) (by kernel_rfl) ?_
                    conv => whnf
                    refine .inl ⟨_, _, byX rfl (Sound1.pl (S4) rfl), ?_⟩
                    conv => whnf
                    refine .inl ⟨_, _, byX rfl (Sound1.pl (h5) rfl), ?_⟩
                    conv => whnf
                    refine .inl ⟨_, _, byX rfl (Sound1.pl (h6) rfl), ?_⟩
                    conv => whnf
                    refine .inl ⟨_, _, byX rfl (Sound1.pl (h7) rfl), ?_⟩
                    conv => whnf
                    refine ifB_not ?_
                    conv => whnf
                    refine ifB_intro (fun w1 => ?_) (fun w1 => ?_)
                    · conv => whnf
                      refine .inl ⟨_, _, byX rfl (Sound1.pl (h8) rfl), ?_⟩
                      conv => whnf
                      refine ⟨⟨(by omega), (by omega)⟩, ?_⟩
                      conv => whnf
                      refine .inl ⟨_, _, byX rfl (Sound1.pl (h9a) rfl), ?_⟩
                      conv => whnf
                      refine ⟨⟨(by omega), (by omega)⟩, ?_⟩
                      conv => whnf
                      refine .inl ⟨_, _, byX rfl (Sound1.pl (h9b) rfl), ?_⟩
                      conv => whnf
                      refine ⟨[], by kernel_rfl, ?_⟩
                      conv => whnf
                      refine .inl ⟨_, _, byX rfl (h11), ?_⟩
                      conv => whnf
                      refine ⟨⟨(by omega), (by omega)⟩, ?_⟩
                      conv => whnf
                      refine .inl ⟨_, _, byX rfl (h10a), ?_⟩
                      conv => whnf
                      refine ⟨[], by kernel_rfl, ?_⟩
                      conv => whnf
                      refine .inl ⟨_, _, byX rfl (h11), ?_⟩
                      conv => whnf
                      refine .inl ⟨_, _, byX rfl (Sound1.pl (h13) rfl), ?_⟩
                      conv => whnf
                      refine .inl ⟨_, _, byX rfl (h14), ?_⟩
                      conv => whnf
                      refine .inl ⟨_, _, byX rfl (h12), ?_⟩
                      conv => whnf
                      refine ifB_bne (fun w2 => ?_) (fun w2 => ?_)
                      · (exfalso; omega)
                      · conv => whnf
                        refine ifB_not ?_
                        conv => whnf
                        refine ifB_beqB (fun w3 => ?_) (fun w3 => ?_)
                        · conv => whnf
                          refine ifB_dec (fun w4 => ?_) (fun w4 => ?_)
                          · conv => whnf
                            refine ⟨inK64 (by omega) (by omega), ?_⟩
                            conv => whnf
                            refine ⟨⟨(by omega), (by omega)⟩, ?_⟩
                            conv => whnf
                            refine ⟨⟨(by omega), (by omega)⟩, ?_⟩
                            conv => whnf
                            refine ifB_bne (fun w5 => ?_) (fun w5 => ?_)
                            · (exfalso; omega)
                            · conv => whnf
                              refine .inl ⟨_, _, byX rfl (Sound1.pl (h8m) rfl), ?_⟩
                              conv => whnf
                              refine ⟨[], by kernel_rfl, ?_⟩
                              conv => whnf
                              refine .inl ⟨_, _, byX rfl (h11), ?_⟩
                              conv => whnf
                              refine ⟨⟨(by omega), (by omega)⟩, ?_⟩
                              conv => whnf
                              refine .inl ⟨_, _, byX rfl (h10b), ?_⟩
                              conv => whnf
                              refine ⟨[], by kernel_rfl, ?_⟩
                              conv => whnf
                              refine .inl ⟨_, _, byX rfl (h11), ?_⟩
                              conv => whnf
                              refine ⟨⟨(by omega), (by omega)⟩, ?_⟩
                              conv => whnf
                              refine .inl ⟨_, _, byX rfl (h10c), ?_⟩
                              conv => whnf
                              refine ⟨?_, nofun⟩
                              (rfl)
                          · (exfalso; omega)
                        · conv => whnf
                          refine ⟨?_, nofun⟩
                          (exact absurd hbe w3)
                    · conv => whnf
                      refine ⟨?_, nofun⟩
                      (rfl)
                  | some u =>
                    rw [hbc] at h10c
                    refine sound (d := 2) tok2 mixed2 Tryd.func3 (by kernel_rfl) (by kernel_rfl) ?_
                    conv => whnf
                    refine .inl ⟨_, _, byX rfl (Sound1.pl (S4) rfl), ?_⟩
                    conv => whnf
                    refine .inl ⟨_, _, byX rfl (Sound1.pl (h5) rfl), ?_⟩
                    conv => whnf
                    refine .inl ⟨_, _, byX rfl (Sound1.pl (h6) rfl), ?_⟩
                    conv => whnf
                    refine .inl ⟨_, _, byX rfl (Sound1.pl (h7) rfl), ?_⟩
                    conv => whnf
                    refine ifB_not ?_
                    conv => whnf
                    refine ifB_intro (fun w1 => ?_) (fun w1 => ?_)
                    · conv => whnf
                      refine .inl ⟨_, _, byX rfl (Sound1.pl (h8) rfl), ?_⟩
                      conv => whnf
                      refine ⟨⟨(by omega), (by omega)⟩, ?_⟩
                      conv => whnf
                      refine .inl ⟨_, _, byX rfl (Sound1.pl (h9a) rfl), ?_⟩
                      conv => whnf
                      refine ⟨⟨(by omega), (by omega)⟩, ?_⟩
                      conv => whnf
                      refine .inl ⟨_, _, byX rfl (Sound1.pl (h9b) rfl), ?_⟩
                      conv => whnf
                      refine ⟨[], by kernel_rfl, ?_⟩
                      conv => whnf
                      refine .inl ⟨_, _, byX rfl (h11), ?_⟩
                      conv => whnf
                      refine ⟨⟨(by omega), (by omega)⟩, ?_⟩
                      conv => whnf
                      refine .inl ⟨_, _, byX rfl (h10a), ?_⟩
                      conv => whnf
                      refine ⟨[], by kernel_rfl, ?_⟩
                      conv => whnf
                      refine .inl ⟨_, _, byX rfl (h11), ?_⟩
                      conv => whnf
                      refine .inl ⟨_, _, byX rfl (Sound1.pl (h13) rfl), ?_⟩
                      conv => whnf
                      refine .inl ⟨_, _, byX rfl (h14), ?_⟩
                      conv => whnf
                      refine .inl ⟨_, _, byX rfl (h12), ?_⟩
                      conv => whnf
                      refine ifB_bne (fun w2 => ?_) (fun w2 => ?_)
                      · (exfalso; omega)
                      · conv => whnf
                        refine ifB_not ?_
                        conv => whnf
                        refine ifB_beqB (fun w3 => ?_) (fun w3 => ?_)
                        · conv => whnf
                          refine ifB_dec (fun w4 => ?_) (fun w4 => ?_)
                          · conv => whnf
                            refine ⟨inK64 (by omega) (by omega), ?_⟩
                            conv => whnf
                            refine ⟨⟨(by omega), (by omega)⟩, ?_⟩
                            conv => whnf
                            refine ⟨⟨(by omega), (by omega)⟩, ?_⟩
                            conv => whnf
                            refine ifB_bne (fun w5 => ?_) (fun w5 => ?_)
                            · (exfalso; omega)
                            · conv => whnf
                              refine .inl ⟨_, _, byX rfl (Sound1.pl (h8m) rfl), ?_⟩
                              conv => whnf
                              refine ⟨[], by kernel_rfl, ?_⟩
                              conv => whnf
                              refine .inl ⟨_, _, byX rfl (h11), ?_⟩
                              conv => whnf
                              refine ⟨⟨(by omega), (by omega)⟩, ?_⟩
                              conv => whnf
                              refine .inl ⟨_, _, byX rfl (h10b), ?_⟩
                              conv => whnf
                              refine ⟨[], by kernel_rfl, ?_⟩
                              conv => whnf
                              refine .inl ⟨_, _, byX rfl (h11), ?_⟩
                              conv => whnf
                              refine ⟨⟨(by omega), (by omega)⟩, ?_⟩
                              conv => whnf
                              refine .inl ⟨_, _, byX rfl (h10c), ?_⟩
                              conv => whnf
                              refine ⟨?_, nofun⟩
                              (rfl)
                          · (exfalso; omega)
                        · conv => whnf
                          refine ⟨?_, nofun⟩
                          (exact absurd hbe w3)
                    · conv => whnf
                      refine ⟨?_, nofun⟩
                      (rfl)
                | some v =>
                  rw [eb, hbb] at h10b
                  rw [ec] at h10c
                  obtain ⟨s2, hv1, hv2, hv3⟩ := best_leads hg hmo.1 hmo.2 hbb
                  have hvt := best_time hg hmo.1 hmo.2 hbb
                  have h15b := S15 v.2 0 1099511627776
                  rw [decide_eq_true (show 0 ≤ v.2 ∧ v.2 ≤ 1099511627776 by omega)] at h15b
                  have hlaw : w.1.length + v.1.length ≤ 10 → ∃ u, bestW p s b 11 = some u ∧ u.2 ≤ w.2 + v.2 := fun h => leads_best (hm2.append hv2) hv1 (by rw [List.length_append]; exact h)
                  cases hbc : bestW p s b 11 with
                  | none =>
                    rw [hbc] at h10c
                    have hlen : ¬ w.1.length + v.1.length ≤ 10 := fun h => by
                      obtain ⟨u, h1, _⟩ := hlaw h
                      rw [hbc] at h1; cases h1
                    refine sound (d := 2) tok2 mixed2 Tryd.func3 (by kernel_rfl) (by kernel_rfl) ?_
                    conv => whnf
                    refine .inl ⟨_, _, byX rfl (Sound1.pl (S4) rfl), ?_⟩
                    conv => whnf
                    refine .inl ⟨_, _, byX rfl (Sound1.pl (h5) rfl), ?_⟩
                    conv => whnf
                    refine .inl ⟨_, _, byX rfl (Sound1.pl (h6) rfl), ?_⟩
                    conv => whnf
                    refine .inl ⟨_, _, byX rfl (Sound1.pl (h7) rfl), ?_⟩
                    conv => whnf
                    refine ifB_not ?_
                    conv => whnf
                    refine ifB_intro (fun w1 => ?_) (fun w1 => ?_)
                    · conv => whnf
                      refine .inl ⟨_, _, byX rfl (Sound1.pl (h8) rfl), ?_⟩
                      conv => whnf
                      refine ⟨⟨(by omega), (by omega)⟩, ?_⟩
                      conv => whnf
                      refine .inl ⟨_, _, byX rfl (Sound1.pl (h9a) rfl), ?_⟩
                      conv => whnf
                      refine ⟨⟨(by omega), (by omega)⟩, ?_⟩
                      conv => whnf
                      refine .inl ⟨_, _, byX rfl (Sound1.pl (h9b) rfl), ?_⟩
                      conv => whnf
                      refine ⟨[], by kernel_rfl, ?_⟩
                      conv => whnf
                      refine .inl ⟨_, _, byX rfl (h11), ?_⟩
                      conv => whnf
                      refine ⟨⟨(by omega), (by omega)⟩, ?_⟩
                      conv => whnf
                      refine .inl ⟨_, _, byX rfl (h10a), ?_⟩
                      conv => whnf
                      refine ⟨[], by kernel_rfl, ?_⟩
                      conv => whnf
                      refine .inl ⟨_, _, byX rfl (h11), ?_⟩
                      conv => whnf
                      refine .inl ⟨_, _, byX rfl (Sound1.pl (h13) rfl), ?_⟩
                      conv => whnf
                      refine .inl ⟨_, _, byX rfl (h14), ?_⟩
                      conv => whnf
                      refine .inl ⟨_, _, byX rfl (h12), ?_⟩
                      conv => whnf
                      refine ifB_bne (fun w2 => ?_) (fun w2 => ?_)
                      · (exfalso; omega)
                      · conv => whnf
                        refine ifB_not ?_
                        conv => whnf
                        refine ifB_beqB (fun w3 => ?_) (fun w3 => ?_)
                        · conv => whnf
                          refine ifB_dec (fun w4 => ?_) (fun w4 => ?_)
                          · conv => whnf
                            refine ⟨inK64 (by omega) (by omega), ?_⟩
                            conv => whnf
                            refine ⟨⟨(by omega), (by omega)⟩, ?_⟩
                            conv => whnf
                            refine ⟨⟨(by omega), (by omega)⟩, ?_⟩
                            conv => whnf
                            refine ifB_bne (fun w5 => ?_) (fun w5 => ?_)
                            · (exfalso; omega)
                            · conv => whnf
                              refine .inl ⟨_, _, byX rfl (Sound1.pl (h8m) rfl), ?_⟩
                              conv => whnf
                              refine ⟨[], by kernel_rfl, ?_⟩
                              conv => whnf
                              refine .inl ⟨_, _, byX rfl (h11), ?_⟩
                              conv => whnf
                              refine ⟨⟨(by omega), (by omega)⟩, ?_⟩
                              conv => whnf
                              refine .inl ⟨_, _, byX rfl (h10b), ?_⟩
                              conv => whnf
                              refine ⟨[], by kernel_rfl, ?_⟩
                              conv => whnf
                              refine .inl ⟨_, _, byX rfl (h11), ?_⟩
                              conv => whnf
                              refine ⟨⟨(by omega), (by omega)⟩, ?_⟩
                              conv => whnf
                              refine .inl ⟨_, _, byX rfl (h10c), ?_⟩
                              conv => whnf
                              refine ⟨inK64 (by omega) (by omega), ?_⟩
                              conv => whnf
                              refine ifB_dec (fun w6 => ?_) (fun w6 => ?_)
                              · conv => whnf
                                refine ⟨?_, nofun⟩
                                (rfl)
                              · (exfalso; omega)
                          · (exfalso; omega)
                        · conv => whnf
                          refine ⟨?_, nofun⟩
                          (exact absurd hbe w3)
                    · conv => whnf
                      refine ⟨?_, nofun⟩
                      (rfl)
                  | some u =>
                    rw [hbc] at h10c
                    have hlaw : w.1.length + v.1.length ≤ 10 → u.2 ≤ w.2 + v.2 := fun h => by
                      obtain ⟨x, h1, h2⟩ := hlaw h
                      rw [hbc] at h1; cases h1; exact h2
                    refine sound (d := 2) tok2 mixed2 Tryd.func3 (by kernel_rfl) (by kernel_rfl) ?_
                    conv => whnf
                    refine .inl ⟨_, _, byX rfl (Sound1.pl (S4) rfl), ?_⟩
                    conv => whnf
                    refine .inl ⟨_, _, byX rfl (Sound1.pl (h5) rfl), ?_⟩
                    conv => whnf
                    refine .inl ⟨_, _, byX rfl (Sound1.pl (h6) rfl), ?_⟩
                    conv => whnf
                    refine .inl ⟨_, _, byX rfl (Sound1.pl (h7) rfl), ?_⟩
                    conv => whnf
                    refine ifB_not ?_
                    conv => whnf
                    refine ifB_intro (fun w1 => ?_) (fun w1 => ?_)
                    · conv => whnf
                      refine .inl ⟨_, _, byX rfl (Sound1.pl (h8) rfl), ?_⟩
                      conv => whnf
                      refine ⟨⟨(by omega), (by omega)⟩, ?_⟩
                      conv => whnf
                      refine .inl ⟨_, _, byX rfl (Sound1.pl (h9a) rfl), ?_⟩
                      conv => whnf
                      refine ⟨⟨(by omega), (by omega)⟩, ?_⟩
                      conv => whnf
                      refine .inl ⟨_, _, byX rfl (Sound1.pl (h9b) rfl), ?_⟩
                      conv => whnf
                      refine ⟨[], by kernel_rfl, ?_⟩
                      conv => whnf
                      refine .inl ⟨_, _, byX rfl (h11), ?_⟩
                      conv => whnf
                      refine ⟨⟨(by omega), (by omega)⟩, ?_⟩
                      conv => whnf
                      refine .inl ⟨_, _, byX rfl (h10a), ?_⟩
                      conv => whnf
                      refine ⟨[], by kernel_rfl, ?_⟩
                      conv => whnf
                      refine .inl ⟨_, _, byX rfl (h11), ?_⟩
                      conv => whnf
                      refine .inl ⟨_, _, byX rfl (Sound1.pl (h13) rfl), ?_⟩
                      conv => whnf
                      refine .inl ⟨_, _, byX rfl (h14), ?_⟩
                      conv => whnf
                      refine .inl ⟨_, _, byX rfl (h12), ?_⟩
                      conv => whnf
                      refine ifB_bne (fun w2 => ?_) (fun w2 => ?_)
                      · (exfalso; omega)
                      · conv => whnf
                        refine ifB_not ?_
                        conv => whnf
                        refine ifB_beqB (fun w3 => ?_) (fun w3 => ?_)
                        · conv => whnf
                          refine ifB_dec (fun w4 => ?_) (fun w4 => ?_)
                          · conv => whnf
                            refine ⟨inK64 (by omega) (by omega), ?_⟩
                            conv => whnf
                            refine ⟨⟨(by omega), (by omega)⟩, ?_⟩
                            conv => whnf
                            refine ⟨⟨(by omega), (by omega)⟩, ?_⟩
                            conv => whnf
                            refine ifB_bne (fun w5 => ?_) (fun w5 => ?_)
                            · (exfalso; omega)
                            · conv => whnf
                              refine .inl ⟨_, _, byX rfl (Sound1.pl (h8m) rfl), ?_⟩
                              conv => whnf
                              refine ⟨[], by kernel_rfl, ?_⟩
                              conv => whnf
                              refine .inl ⟨_, _, byX rfl (h11), ?_⟩
                              conv => whnf
                              refine ⟨⟨(by omega), (by omega)⟩, ?_⟩
                              conv => whnf
                              refine .inl ⟨_, _, byX rfl (h10b), ?_⟩
                              conv => whnf
                              refine ⟨[], by kernel_rfl, ?_⟩
                              conv => whnf
                              refine .inl ⟨_, _, byX rfl (h11), ?_⟩
                              conv => whnf
                              refine ⟨⟨(by omega), (by omega)⟩, ?_⟩
                              conv => whnf
                              refine .inl ⟨_, _, byX rfl (h10c), ?_⟩
                              conv => whnf
                              refine ⟨inK64 (by omega) (by omega), ?_⟩
                              conv => whnf
                              refine ifB_dec (fun w6 => ?_) (fun w6 => ?_)
                              · conv => whnf
                                refine ⟨?_, nofun⟩
                                (rfl)
                              · conv => whnf
                                refine .inl ⟨_, _, byX rfl (Sound1.pl (h15a) rfl), ?_⟩
                                conv => whnf
                                refine .inl ⟨_, _, byX rfl (Sound1.pl (h15b) rfl), ?_⟩
                                conv => whnf
                                refine ⟨inK64 (by omega) (by omega), ?_⟩
                                conv => whnf
                                refine ⟨?_, nofun⟩
                                (exact endb (decide_eq_true (hlaw (by omega))))
                          · (exfalso; omega)
                        · conv => whnf
                          refine ⟨?_, nofun⟩
                          (exact absurd hbe w3)
                    · conv => whnf
                      refine ⟨?_, nofun⟩
                      (rfl)
    · refine sound (d := 2) tok2 mixed2 Tryd.func3 (by kernel_rfl) (by kernel_rfl) ?_
      conv => whnf
      refine .inl ⟨_, _, byX rfl (Sound1.pl (S4) rfl), ?_⟩
      conv => whnf
      refine .inl ⟨_, _, byX rfl (Sound1.pl (h5) rfl), ?_⟩
      conv => whnf
      refine .inl ⟨_, _, byX rfl (Sound1.pl (h6) rfl), ?_⟩
      conv => whnf
      refine ifB_bne (fun w1 => ?_) (fun w1 => ?_)
      · conv => whnf
        refine ⟨?_, nofun⟩
        (rfl)
      · conv => whnf
        refine .inl ⟨_, _, byX rfl (Sound1.pl (h7) rfl), ?_⟩
        conv => whnf
        refine ifB_not ?_
        conv => whnf
        refine ifB_intro (fun w2 => ?_) (fun w2 => ?_)
        · conv => whnf
          refine .inl ⟨_, _, byX rfl (Sound1.pl (h8) rfl), ?_⟩
          conv => whnf
          refine ifB_bne (fun w3 => ?_) (fun w3 => ?_)
          · conv => whnf
            refine ⟨?_, nofun⟩
            (rfl)
          · conv => whnf
            refine ⟨⟨(by omega), (by omega)⟩, ?_⟩
            conv => whnf
            refine .inl ⟨_, _, byX rfl (Sound1.pl (h9a) rfl), ?_⟩
            conv => whnf
            refine ifB_bne (fun w4 => ?_) (fun w4 => ?_)
            · conv => whnf
              refine ⟨?_, nofun⟩
              (rfl)
            · conv => whnf
              refine ⟨⟨(by omega), (by omega)⟩, ?_⟩
              conv => whnf
              refine .inl ⟨_, _, byX rfl (Sound1.pl (h9b) rfl), ?_⟩
              conv => whnf
              refine ifB_bne (fun w5 => ?_) (fun w5 => ?_)
              · conv => whnf
                refine ⟨?_, nofun⟩
                (rfl)
              · (exfalso; omega)
        · conv => whnf
          refine ⟨?_, nofun⟩
          (rfl)
end Go.Tr

/- The opening of a law: what an argument reads as, as abstract values, with its shape. Conditions: types of numbers, truth values, strings, slices, structs and arrays. -/
namespace Go.Tr
open Go Go.RowKit

def V2 (P : Program) (w : World) (q : Nat → Prop) : List AV → List Value → Prop
  | [], [] => True
  | x :: xs, v :: vs => (VT P w q x v ∧ v.oneCell' = true) ∧ V2 P w q xs vs
  | _, _ => False

def All2 {α β : Type} (p : α → β → Prop) : List α → List β → Prop
  | [], [] => True
  | x :: xs, y :: ys => p x y ∧ All2 p xs ys
  | _, _ => False

/-- The shape of what a type's cells read as. -/
def TyC (P : Program) : Nat → TypeId → List AV → Prop
  | 0, _, _ => True
  | m + 1, t, xs => match P.underlying t with
    | some .bool => ∃ b, xs = [.val (.bool b)]
    | some (.int k) => ∃ n, xs = [.val (.int k n)] ∧ inK k n
    | some .string => ∃ s : ByteArray, xs = [.val (.string s)] ∧ s.size ≤ 9223372036854775807
    | some (.slice e) => ∃ len f, xs = [.rslice (P.cellsOf e) len f] ∧ len ≤ 9223372036854775807 ∧ ∀ i, i < len → TyC P m e (f i)
    | some (.struct fs) => ∃ ps : List (List AV), xs = ps.flatten ∧ All2 (fun f p => TyC P m f.type p) fs.toList ps
    | some (.array n e) => ∃ ps : List (List AV), xs = ps.flatten ∧ ps.length = n ∧ ∀ p ∈ ps, TyC P m e p
    | _ => False

def layF (P : Program) (g : TypeId → Bool) : List Field → Nat → Nat → Bool
  | [], off, tot => Nat.beq off tot
  | f :: r, off, tot => Nat.beq f.offset off && g f.type && layF P g r (off + P.cellsOf f.type) tot

/-- Types that are covered, laid out part behind part. -/
def lay (P : Program) : Nat → TypeId → Bool
  | 0, _ => false
  | m + 1, t => match P.underlying t with
    | some .bool | some (.int _) | some .string => true
    | some (.slice e) => Nat.blt 0 (P.cellsOf e) && lay P m e
    | some (.struct fs) => layF P (lay P m) fs.toList 0 (P.cellsOf t)
    | some (.array n e) => Nat.beq (P.cellsOf t) (n * P.cellsOf e) && lay P m e
    | _ => false

section
variable {H : Type} {enc : TypeId × Value → H} {P : Program} {w : World} {spare : Nat → Bool} {held : Bool} {q : Nat → Prop}

theorem V2_len : ∀ {xs : List AV} {vs : List Value}, V2 P w q xs vs → xs.length = vs.length
  | [], [], _ => rfl
  | x :: xs, v :: vs, h => by simp [V2_len h.2]
  | [], _ :: _, h => h.elim
  | _ :: _, [], h => h.elim

theorem V2_append : ∀ {xs : List AV} {vs : List Value} {ys : List AV} {us : List Value}, V2 P w q xs vs → V2 P w q ys us → V2 P w q (xs ++ ys) (vs ++ us)
  | [], [], _, _, _, h => h
  | _ :: _, _ :: _, _, _, h, h' => ⟨h.1, V2_append h.2 h'⟩
  | [], _ :: _, _, _, h, _ => h.elim
  | _ :: _, [], _, _, h, _ => h.elim

theorem V2_get : ∀ {xs : List AV} {vs : List Value}, V2 P w q xs vs → ∀ (i : Nat) x, xs[i]? = some x → VT P w q x (vs.getD i undef) ∧ (vs.getD i undef).oneCell' = true
  | [], [], _, i, x, hx => by simp at hx
  | y :: ys, v :: vs, h, 0, x, hx => by
    simp at hx
    subst hx
    simpa using h.1
  | y :: ys, v :: vs, h, i + 1, x, hx => by
    have := V2_get h.2 i x (by simpa using hx)
    simpa using this
  | [], _ :: _, h, _, _, _ => h.elim
  | _ :: _, [], h, _, _, _ => h.elim

theorem mapM_cons_some {α β : Type} {f : α → Option β} {a : α} {l : List α} {r : List β} (h : (a :: l).mapM f = some r) : ∃ b bs, f a = some b ∧ l.mapM f = some bs ∧ r = b :: bs := by
  rw [List.mapM_cons] at h
  cases ha : f a with
  | none => simp [ha] at h
  | some b =>
    cases hl : l.mapM f with
    | none => simp [ha, hl] at h
    | some bs => simp [ha, hl] at h; exact ⟨b, bs, rfl, rfl, h.symm⟩

theorem mapM_get {α β : Type} {f : α → Option β} : ∀ {l : List α} {r : List β}, l.mapM f = some r → r.length = l.length ∧ ∀ (i : Nat) x, l[i]? = some x → ∃ y, f x = some y ∧ r[i]? = some y
  | [], r, h => by simp at h; subst h; exact ⟨rfl, fun i x hx => by simp at hx⟩
  | a :: l, r, h => by
    obtain ⟨b, bs, h1, h2, rfl⟩ := mapM_cons_some h
    obtain ⟨g1, g2⟩ := mapM_get h2
    refine ⟨by simp [g1], fun i x hx => ?_⟩
    cases i with
    | zero => simp at hx; subst hx; exact ⟨b, h1, rfl⟩
    | succ i => simpa using g2 i x (by simpa using hx)

theorem cells_some {a : Addr} {n : Nat} {cs : List Value} (h : w.cells? 0 a n = some cs) : cs.length = n ∧ ∀ j, j < n → w.cell? (a.add j) = some (cs.getD j undef) := by
  unfold World.cells? at h
  rw [if_pos (Nat.zero_le _)] at h
  obtain ⟨h1, h2⟩ := mapM_get h
  refine ⟨by simpa using h1, fun j hj => ?_⟩
  obtain ⟨y, h3, h4⟩ := h2 j j (by simp [hj])
  rw [h3, List.getD_eq_getElem?_getD, h4]
  rfl

theorem cell_spot {a : Addr} {v : Value} (h : w.cell? a = some v) : a.spot = none ∧ a.block < w.heap.size := by
  unfold World.cell? at h
  split at h
  · rename_i c t fr hb
    refine ⟨?_, ?_⟩
    · cases hs : a.spot with
      | none => rfl
      | some s => simp [hs] at h
    · exact (Array.getElem?_eq_some_iff.1 hb).1
  · cases h

theorem addr_add2 (blk off u j : Nat) : ((⟨blk, off, none⟩ : Addr).add u).add j = ⟨blk, off + (u + j), none⟩ := by
  unfold Addr.add
  by_cases h1 : u = 0
  · subst h1
    by_cases h2 : j = 0
    · subst h2; rfl
    · simp [h2]
  · by_cases h2 : j = 0
    · subst h2; simp [h1]
    · simp [h1, h2, Nat.add_assoc]

theorem fields_av {g : TypeId → List Value → Option (DataW H × List MemPlace)} {T : TypeId → List AV → Prop} {ly : TypeId → Bool}
    (ih : ∀ t, ly t = true → ∀ cs x, g t cs = some x → ∃ xs, V2 P w q xs cs ∧ T t xs) (cs : List Value) : ∀ (fs : List Field) (off : Nat) (r : List (DataW H × List MemPlace)), layF P ly fs off cs.length = true →
    (fs.mapM fun f => g f.type ((cs.drop f.offset).take (P.cellsOf f.type))) = some r → ∃ ps : List (List AV), V2 P w q ps.flatten (cs.drop off) ∧ All2 (fun f p => T f.type p) fs ps
  | [], off, r, hl, h => by
    have := Nat.eq_of_beq_eq_true hl
    subst this
    exact ⟨[], by simp [V2], trivial⟩
  | f :: fs, off, r, hl, h => by
    simp only [layF, Bool.and_eq_true] at hl
    obtain ⟨⟨h1, h2⟩, h3⟩ := hl
    have e := Nat.eq_of_beq_eq_true h1
    obtain ⟨b, bs, g1, g2, rfl⟩ := mapM_cons_some h
    obtain ⟨p, p1, p2⟩ := ih _ h2 _ _ g1
    obtain ⟨ps, r1, r2⟩ := fields_av ih cs fs _ _ h3 g2
    refine ⟨p :: ps, ?_, p2, r2⟩
    rw [List.flatten_cons]
    have : cs.drop off = (cs.drop f.offset).take (P.cellsOf f.type) ++ cs.drop (off + P.cellsOf f.type) := by
      rw [e, ← List.drop_drop]
      exact (List.take_append_drop _ _).symm
    rw [this]
    exact V2_append p1 r1

theorem items_av {g : List Value → Option (DataW H × List MemPlace)} {T : List AV → Prop} (ih : ∀ cs x, g cs = some x → ∃ xs, V2 P w q xs cs ∧ T xs) (cs : List Value) (s n : Nat) (hn : cs.length = n * s)
    (h : ∀ i, i < n → ∃ x, g ((cs.drop (i * s)).take s) = some x) : ∀ (k i : Nat), i + k = n → ∃ ps : List (List AV), V2 P w q ps.flatten (cs.drop (i * s)) ∧ ps.length = k ∧ ∀ p ∈ ps, T p
  | 0, i, hi => by
    have : i = n := by omega
    subst this
    refine ⟨[], ?_, rfl, nofun⟩
    rw [List.drop_eq_nil_of_le (by omega)]
    exact trivial
  | k + 1, i, hi => by
    obtain ⟨x, hx⟩ := h i (by omega)
    obtain ⟨p, p1, p2⟩ := ih _ _ hx
    obtain ⟨ps, r1, r2, r3⟩ := items_av ih cs s n hn h k (i + 1) (by omega)
    refine ⟨p :: ps, ?_, by simp [r2], fun y hy => ?_⟩
    · rw [List.flatten_cons]
      have : cs.drop (i * s) = (cs.drop (i * s)).take s ++ cs.drop ((i + 1) * s) := by
        rw [Nat.succ_mul, ← List.drop_drop]
        exact (List.take_append_drop _ _).symm
      rw [this]
      exact V2_append p1 r1
    · rcases List.mem_cons.1 hy with rfl | hy
      · exact p2
      · exact r3 y hy

theorem trod_av (hq : ∀ b, b < w.heap.size → q b) : ∀ (m : Nat) (t : TypeId), lay P m t = true → ∀ (fuel : Nat) (cs : List Value) (x : DataW H × List MemPlace), DataW.trod enc P w 0 spare held fuel t cs = some x → ∃ xs, V2 P w q xs cs ∧ TyC P m t xs
  | 0, t, hl, _, _, _, _ => by simp [lay] at hl
  | m + 1, t, hl, 0, cs, x, h => by simp [DataW.trod] at h
  | m + 1, t, hl, fuel + 1, cs, x, h => by
    unfold lay at hl
    unfold TyC
    unfold DataW.trod at h
    cases hu : P.underlying t with
    | none => simp [hu] at hl
    | some d =>
      simp only [hu] at hl h ⊢
      cases d with
      | bool =>
        split at h <;> first | (cases h; done) | (rename_i e; cases e; done) | skip
        cases h
        exact ⟨[.val (.bool _)], ⟨⟨.val _, rfl⟩, trivial⟩, _, rfl⟩
      | int k =>
        split at h <;> first | (cases h; done) | (rename_i e; cases e; done) | skip
        rename_i e
        cases e
        split at h
        · rename_i hk
          obtain ⟨rfl, hw⟩ := hk
          simp only [Lit.wf, Bool.and_eq_true, decide_eq_true_eq] at hw
          exact ⟨[.val (.int _ _)], ⟨⟨.val _, rfl⟩, trivial⟩, _, rfl, hw⟩
        · cases h
      | string =>
        split at h <;> first | (cases h; done) | (rename_i e; cases e; done) | skip
        split at h
        · rename_i hs
          exact ⟨[.val (.string _)], ⟨⟨.val _, rfl⟩, trivial⟩, _, rfl, hs⟩
        · cases h
      | slice e =>
        simp only [Bool.and_eq_true] at hl
        split at h <;> first | (cases h; done) | (rename_i e; cases e; done) | skip
        · exact ⟨[.rslice (P.cellsOf e) 0 fun _ => []], ⟨⟨.rslice0 _ _ _ _, rfl⟩, trivial⟩, _, _, rfl, by omega, fun i hi => absurd hi (Nat.not_lt_zero i)⟩
        · rename_i e0 a len cap e1
          cases e1
          split at h
          case isFalse => cases h
          rename_i hb
          have hes : 0 < P.cellsOf e := Nat.le_of_ble_eq_true hl.1
          cases hM : (List.range len).mapM fun i => (w.cells? 0 (a.add (i * P.cellsOf e)) (P.cellsOf e)).bind (DataW.trod enc P w 0 spare held fuel e) with
          | none => rw [hM] at h; cases h
          | some elems =>
            obtain ⟨_, g2⟩ := mapM_get hM
            have hx : ∀ i, ∃ xs : List AV, i < len → ∃ cs, (cs.length = P.cellsOf e ∧ ∀ j, j < P.cellsOf e → w.cell? ((a.add (i * P.cellsOf e)).add j) = some (cs.getD j undef)) ∧ V2 P w q xs cs ∧ TyC P m e xs := fun i => by
              by_cases hi : i < len
              · obtain ⟨y, y1, _⟩ := g2 i i (by simp [hi])
                cases hc : w.cells? 0 (a.add (i * P.cellsOf e)) (P.cellsOf e) with
                | none => rw [hc] at y1; cases y1
                | some cs1 =>
                  rw [hc] at y1
                  obtain ⟨xs, x1, x2⟩ := trod_av hq m e hl.2 _ _ _ y1
                  exact ⟨xs, fun _ => ⟨cs1, cells_some hc, x1, x2⟩⟩
              · exact ⟨[], fun h => absurd h hi⟩
            have hf := fun i => (Classical.choose_spec (hx i))
            generalize hF : (fun i => Classical.choose (hx i)) = F
            have hf : ∀ i, i < len → ∃ cs, (cs.length = P.cellsOf e ∧ ∀ j, j < P.cellsOf e → w.cell? ((a.add (i * P.cellsOf e)).add j) = some (cs.getD j undef)) ∧ V2 P w q (F i) cs ∧ TyC P m e (F i) := fun i hi => by
              have := Classical.choose_spec (hx i) hi
              rw [← hF]
              exact this
            refine ⟨[.rslice (P.cellsOf e) len F], ⟨⟨?_, rfl⟩, trivial⟩, len, F, rfl, ?_, fun i hi => ?_⟩
            · rcases Nat.eq_zero_or_pos len with rfl | hp
              · exact .rslice0 _ _ _ _
              · obtain ⟨cs0, c1, _, _⟩ := hf 0 hp
                have hc0 := c1.2 0 hes
                have e0 : ((a.add (0 * P.cellsOf e)).add 0) = a := by simp [Addr.add]
                rw [e0] at hc0
                obtain ⟨s1, s2⟩ := cell_spot hc0
                obtain ⟨blk, off, spot⟩ := a
                simp only at s1 s2
                subst s1
                have hG : ∀ i, ∃ cs : List Value, i < len → (cs.length = P.cellsOf e ∧ ∀ j, j < P.cellsOf e → w.cell? (((⟨blk, off, none⟩ : Addr).add (i * P.cellsOf e)).add j) = some (cs.getD j undef)) ∧ V2 P w q (F i) cs := fun i => by
                  by_cases hi : i < len
                  · obtain ⟨cs, c1, c2, _⟩ := hf i hi
                    exact ⟨cs, fun _ => ⟨c1, c2⟩⟩
                  · exact ⟨[], fun h => absurd h hi⟩
                refine .rslice _ _ _ blk off cap (fun i j => (Classical.choose (hG i)).getD j undef) hb.2.1 (hq _ s2) (fun i hi => ?_) (fun i j hi hj => ?_) (fun i j x hi hx => ?_)
                · obtain ⟨c1, c2⟩ := Classical.choose_spec (hG i) hi
                  rw [V2_len c2, c1.1]
                · obtain ⟨c1, c2⟩ := Classical.choose_spec (hG i) hi
                  have hc := c1.2 j hj
                  have ea : ((⟨blk, off, none⟩ : Addr).add (i * P.cellsOf e)).add j = ⟨blk, off + (i * P.cellsOf e + j), none⟩ := by
                    exact addr_add2 blk off _ j
                  rw [ea] at hc
                  refine ⟨hc, ?_⟩
                  have hlt : j < (F i).length := by rw [V2_len c2, c1.1]; exact hj
                  exact (V2_get c2 j _ (List.getElem?_eq_getElem hlt)).2
                · obtain ⟨c1, c2⟩ := Classical.choose_spec (hG i) hi
                  exact (V2_get c2 j x hx).1
            · have := hb.2.2
              unfold maxLen at this
              omega
            · obtain ⟨_, _, _, h3⟩ := hf i hi
              exact h3
      | struct fs =>
        replace h : (if cs.length = P.cellsOf t then (fs.toList.mapM fun f => DataW.trod enc P w 0 spare held fuel f.type ((cs.drop f.offset).take (P.cellsOf f.type))).map fun xs => (.agg (xs.map (·.1)), xs.flatMap (·.2)) else none) = some x := h
        split at h
        case isFalse => cases h
        rename_i hc
        cases hM : fs.toList.mapM fun f => DataW.trod enc P w 0 spare held fuel f.type ((cs.drop f.offset).take (P.cellsOf f.type)) with
        | none => rw [hM] at h; cases h
        | some r =>
          obtain ⟨ps, p1, p2⟩ := fields_av (T := TyC P m) (ly := lay P m) (fun t ht cs x hx => trod_av hq m t ht fuel cs x hx) cs fs.toList 0 r (by rw [hc]; exact hl) hM
          exact ⟨ps.flatten, by simpa using p1, ps, rfl, p2⟩
      | array n e =>
        simp only [Bool.and_eq_true] at hl
        replace h : (if cs.length = P.cellsOf t then ((List.range n).mapM fun i => DataW.trod enc P w 0 spare held fuel e ((cs.drop (i * P.cellsOf e)).take (P.cellsOf e))).map fun xs => (.agg (xs.map (·.1)), xs.flatMap (·.2)) else none) = some x := h
        split at h
        case isFalse => cases h
        rename_i hc
        cases hM : (List.range n).mapM fun i => DataW.trod enc P w 0 spare held fuel e ((cs.drop (i * P.cellsOf e)).take (P.cellsOf e)) with
        | none => rw [hM] at h; cases h
        | some r =>
          obtain ⟨_, g2⟩ := mapM_get hM
          obtain ⟨ps, p1, p2, p3⟩ := items_av (T := TyC P m e) (fun cs x hx => trod_av hq m e hl.2 fuel cs x hx) cs (P.cellsOf e) n (by rw [hc]; exact Nat.eq_of_beq_eq_true hl.1)
            (fun i hi => by obtain ⟨y, y1, _⟩ := g2 i i (by simp [hi]); exact ⟨y, y1⟩) n 0 (by omega)
          exact ⟨ps.flatten, by simpa using p1, ps, rfl, p2, p3⟩
      | _ => simp at hl

/-- The shape of an argument. -/
def TyA (P : Program) (m : Nat) (t : TypeId) (x : AV) : Prop :=
  match P.underlying t with
  | some (.struct _) | some (.array _ _) => ∃ xs, x = .agg xs ∧ TyC P m t xs
  | _ => TyC P m t [x]

/-- An argument of a law, as an abstract value. -/
theorem open_av {r : Reach} {b0 : Nat} {t : TypeId} {v : Value} {d : DataW H} {ps : List MemPlace} {m : Nat} (hl : lay P m t = true) (hq : ∀ b, b < w.heap.size → q b)
    (hv : Value.okWide P w r b0 t v) (hd : DataW.Trod enc P w 0 spare held t v d ps) : ∃ x, VT P w q x v ∧ TyA P m t x := by
  obtain ⟨fuel, hf⟩ := hd
  obtain ⟨xs, h1, h2⟩ := trod_av hq m t hl fuel _ _ hf
  have agg : ∀ cs, v = .agg cs → VT P w q (.agg xs) v := by
    rintro cs rfl
    have hlen := V2_len h1
    refine .agg xs cs (by rw [hlen]; simp [Value.cells]) (fun u hu => ?_) (fun i x hx => ?_)
    · obtain ⟨i, hi, rfl⟩ := List.getElem_of_mem hu
      have hx : i < xs.length := by rw [hlen]; simpa [Value.cells] using hi
      have := (V2_get h1 i _ (List.getElem?_eq_getElem hx)).2
      have hi' : i < cs.size := by simpa using hi
      simpa [Value.cells, List.getD_eq_getElem?_getD, hi'] using this
    · have := (V2_get h1 i x hx).1
      simpa [Value.cells, List.getD_eq_getElem?_getD, Array.getD_eq_getD_getElem?] using this
  have one : ∀ u, v.cells.toList = [u] → v = u → ∃ x, VT P w q x v ∧ TyC P m t [x] := by
    rintro u e rfl
    rw [e] at h1
    match xs, h1, h2 with
    | [x], h1, h2 => exact ⟨x, h1.1.1, h2⟩
  unfold TyA
  unfold Value.okWide at hv
  split
  · rename_i fs hu
    simp only [hu] at hv
    obtain ⟨cs, e, _, _⟩ := hv
    exact ⟨_, agg cs e, xs, rfl, h2⟩
  · rename_i n e hu
    simp only [hu] at hv
    obtain ⟨cs, e, _, _⟩ := hv
    exact ⟨_, agg cs e, xs, rfl, h2⟩
  · rename_i n1 n2
    have hc : Cell.okWide P w r b0 t v := by
      split at hv
      · rename_i hu; exact absurd hu (n1 _)
      · rename_i hu; exact absurd hu (n2 _ _)
      · exact hv
    cases v with
    | agg cs =>
      simp only [Cell.okWide] at hc
      split at hc <;> first | (rename_i e _; cases e; done) | (rename_i e; cases e; done) | (simp [Cell.ok] at hc)
    | tuple cs =>
      simp only [Cell.okWide] at hc
      split at hc <;> first | (rename_i e _; cases e; done) | (rename_i e; cases e; done) | (simp [Cell.ok] at hc)
    | _ => exact one _ rfl rfl
end
end Go.Tr

/- The laws SequenceHalls and SequenceLocked return true. Conditions: none. -/
import Derived.Test.YtflgajlngiojbaaDoorTr10
set_option linter.unusedSectionVars false
set_option linter.unnecessarySimpa false
set_option linter.unusedVariables false
set_option linter.unusedSimpArgs false

namespace Go.Tr
open Go Go.Proofs
set_option maxRecDepth 20000
set_option maxHeartbeats 8000000

theorem steps_ok {h : Hal} {l : List Int} (h0 : stepsH h l = 0) : (l.length : Int) = h.mach := by
  unfold stepsH at h0
  split at h0
  · cases h0
  · rename_i h1; exact Decidable.of_not_not h1
theorem S6 (h : Hal) (l : List Int) (hl : l.length ≤ 9223372036854775807) (x : Int × Int) : SP 6 [hallA h, ints l, stA x] (vb true) false := by
  have h32 := S32 h l
  cases hf : decide (h.rules.length ≤ 14) && decide (l.length ≤ 8) with
  | false =>
    rw [hf] at h32
    refine sound (d := 2) tok2 mixed2 Tryd.func6 (by kernel_rfl) (by kernel_rfl) ?_
    conv => whnf
    refine .inl ⟨_, _, byX rfl (Sound1.pl (S13) rfl), ?_⟩
    conv => whnf
    refine .inl ⟨_, _, byX rfl (Sound1.pl (h32) rfl), ?_⟩
    conv => whnf
    refine ⟨?_, nofun⟩
    (rfl)
  | true =>
    rw [hf] at h32
    rw [Bool.and_eq_true, decide_eq_true_iff, decide_eq_true_iff] at hf
    have h34 := S34 h (by omega)
    have h36 := S36 l (by omega)
    have h33 := S33 h (by omega)
    have h35 := S35 h (by omega) l (by omega)
    have h37 := S37 h (by omega) l (by omega) x
    have h38 := S38 h (by omega)
    have h39 := S39 h l (by omega)
    by_cases hC : (checkH h).2 = 0
    · have hO : openH h l = stepsH h l := if_pos hC
      rw [hC] at h33 h38
      by_cases hS : stepsH h l = 0
      · have hlm := steps_ok hS
        rw [hS] at hO h39
        have h40 := S40 h (by omega) l (by omega)
        have h41 := S41 x.1 0 (h.mach - 1)
        have h41b := S41 x.2 0 9
        have hE : enterE h l x = if decide (0 ≤ x.1 ∧ x.1 ≤ (l.length : Int) - 1) && isStepB x.2 then 0 else 6 := if_pos hO
        rw [hlm] at hE
        rw [isStep_dec] at h41b
        unfold brokenR at h35
        unfold mayR at h37
        rw [hO, if_neg (not_not_intro rfl)] at h35
        by_cases hw : 0 ≤ x.1 ∧ x.1 ≤ h.mach - 1
        · rw [decide_eq_true hw, Bool.true_and] at hE
          rw [decide_eq_true hw] at h41
          cases hb2 : isStepB x.2 with
          | true =>
            rw [hb2] at hE h41b
            have hE : enterE h l x = 0 := hE
            rw [hE, if_neg (not_not_intro rfl)] at h37
            have h42 := S42 l (by omega) x (by omega)
            have h40b := S40 h (by omega) (enteredL l x) (by rw [entered_len]; omega)
            cases hb : brokenF h l with
            | none =>
              rw [hb] at h35 h40
              cases hc : brokenF h (enteredL l x) with
              | none =>
                rw [hc] at h37 h40b
                refine sound (d := 2) tok2 mixed2 Tryd.func6 (by kernel_rfl) (by kernel_rfl) ?_
                conv => whnf
                refine .inl ⟨_, _, byX rfl (Sound1.pl (S13) rfl), ?_⟩
                conv => whnf
                refine .inl ⟨_, _, byX rfl (Sound1.pl (h32) rfl), ?_⟩
                conv => whnf
                refine .inl ⟨_, _, byX rfl (h34), ?_⟩
                conv => whnf
                refine .inl ⟨_, _, byX rfl (Sound1.pl (h33) rfl), ?_⟩
                conv => whnf
                refine .inl ⟨_, _, byX rfl (h34), ?_⟩
                conv => whnf
                refine .inl ⟨_, _, byX rfl (h36), ?_⟩
                conv => whnf
                refine .inl ⟨_, _, byX rfl (Sound1.pl (h35) rfl), ?_⟩
                conv => whnf
                refine ⟨[], by kernel_rfl, ?_⟩
                conv => whnf
                refine .inl ⟨_, _, byX rfl (h34), ?_⟩
                conv => whnf
                refine .inl ⟨_, _, byX rfl (h36), ?_⟩
                conv => whnf
                refine .inl ⟨_, _, byX rfl (Sound1.pl (h37) rfl), ?_⟩
                conv => whnf
                refine .inl ⟨_, _, byX rfl (Sound1.pl (h38) rfl), ?_⟩
                conv => whnf
                refine ifB_bne (fun w1 => ?_) (fun w1 => ?_)
                · (exfalso; omega)
                · conv => whnf
                  refine .inl ⟨_, _, byX rfl (Sound1.pl (h39) rfl), ?_⟩
                  conv => whnf
                  refine .inl ⟨_, _, byX rfl (Sound1.pl (h40) rfl), ?_⟩
                  conv => whnf
                  refine ⟨inK64 (by omega) (by omega), ?_⟩
                  conv => whnf
                  refine .inl ⟨_, _, byX rfl (Sound1.pl (h41) rfl), ?_⟩
                  conv => whnf
                  refine .inl ⟨_, _, byX rfl (Sound1.pl (h41b) rfl), ?_⟩
                  conv => whnf
                  refine ⟨[], by kernel_rfl, ?_⟩
                  conv => whnf
                  refine .inl ⟨_, _, byX rfl (h42), ?_⟩
                  conv => whnf
                  refine .inl ⟨_, _, byX rfl (Sound1.pl (h40b) rfl), ?_⟩
                  conv => whnf
                  refine ⟨?_, nofun⟩
                  (rfl)
              | some z =>
                rw [hc] at h37 h40b
                refine sound (d := 2) tok2 mixed2 Tryd.func6 (by kernel_rfl) (by kernel_rfl) ?_
                conv => whnf
                refine .inl ⟨_, _, byX rfl (Sound1.pl (S13) rfl), ?_⟩
                conv => whnf
                refine .inl ⟨_, _, byX rfl (Sound1.pl (h32) rfl), ?_⟩
                conv => whnf
                refine .inl ⟨_, _, byX rfl (h34), ?_⟩
                conv => whnf
                refine .inl ⟨_, _, byX rfl (Sound1.pl (h33) rfl), ?_⟩
                conv => whnf
                refine .inl ⟨_, _, byX rfl (h34), ?_⟩
                conv => whnf
                refine .inl ⟨_, _, byX rfl (h36), ?_⟩
                conv => whnf
                refine .inl ⟨_, _, byX rfl (Sound1.pl (h35) rfl), ?_⟩
                conv => whnf
                refine ⟨[], by kernel_rfl, ?_⟩
                conv => whnf
                refine .inl ⟨_, _, byX rfl (h34), ?_⟩
                conv => whnf
                refine .inl ⟨_, _, byX rfl (h36), ?_⟩
                conv => whnf
                refine .inl ⟨_, _, byX rfl (Sound1.pl (h37) rfl), ?_⟩
                conv => whnf
                refine .inl ⟨_, _, byX rfl (Sound1.pl (h38) rfl), ?_⟩
                conv => whnf
                refine ifB_bne (fun w1 => ?_) (fun w1 => ?_)
                · (exfalso; omega)
                · conv => whnf
                  refine .inl ⟨_, _, byX rfl (Sound1.pl (h39) rfl), ?_⟩
                  conv => whnf
                  refine .inl ⟨_, _, byX rfl (Sound1.pl (h40) rfl), ?_⟩
                  conv => whnf
                  refine ⟨inK64 (by omega) (by omega), ?_⟩
                  conv => whnf
                  refine .inl ⟨_, _, byX rfl (Sound1.pl (h41) rfl), ?_⟩
                  conv => whnf
                  refine .inl ⟨_, _, byX rfl (Sound1.pl (h41b) rfl), ?_⟩
                  conv => whnf
                  refine ⟨[], by kernel_rfl, ?_⟩
                  conv => whnf
                  refine .inl ⟨_, _, byX rfl (h42), ?_⟩
                  conv => whnf
                  refine .inl ⟨_, _, byX rfl (Sound1.pl (h40b) rfl), ?_⟩
                  conv => whnf
                  refine ⟨?_, nofun⟩
                  (exact endb (beq_self_eq_true _))
            | some y =>
              rw [hb] at h35 h40
              cases hc : brokenF h (enteredL l x) with
              | none =>
                rw [hc] at h37 h40b
                refine sound (d := 2) tok2 mixed2 Tryd.func6 (by kernel_rfl) (by kernel_rfl) ?_
                conv => whnf
                refine .inl ⟨_, _, byX rfl (Sound1.pl (S13) rfl), ?_⟩
                conv => whnf
                refine .inl ⟨_, _, byX rfl (Sound1.pl (h32) rfl), ?_⟩
                conv => whnf
                refine .inl ⟨_, _, byX rfl (h34), ?_⟩
                conv => whnf
                refine .inl ⟨_, _, byX rfl (Sound1.pl (h33) rfl), ?_⟩
                conv => whnf
                refine .inl ⟨_, _, byX rfl (h34), ?_⟩
                conv => whnf
                refine .inl ⟨_, _, byX rfl (h36), ?_⟩
                conv => whnf
                refine .inl ⟨_, _, byX rfl (Sound1.pl (h35) rfl), ?_⟩
                conv => whnf
                refine ⟨[], by kernel_rfl, ?_⟩
                conv => whnf
                refine .inl ⟨_, _, byX rfl (h34), ?_⟩
                conv => whnf
                refine .inl ⟨_, _, byX rfl (h36), ?_⟩
                conv => whnf
                refine .inl ⟨_, _, byX rfl (Sound1.pl (h37) rfl), ?_⟩
                conv => whnf
                refine .inl ⟨_, _, byX rfl (Sound1.pl (h38) rfl), ?_⟩
                conv => whnf
                refine ifB_bne (fun w1 => ?_) (fun w1 => ?_)
                · (exfalso; omega)
                · conv => whnf
                  refine .inl ⟨_, _, byX rfl (Sound1.pl (h39) rfl), ?_⟩
                  conv => whnf
                  refine .inl ⟨_, _, byX rfl (Sound1.pl (h40) rfl), ?_⟩
                  conv => whnf
                  refine ifB_not ?_
                  conv => whnf
                  refine ifB_veq2 (fun w2 => ?_) (fun w2 => ?_)
                  · conv => whnf
                    refine ⟨inK64 (by omega) (by omega), ?_⟩
                    conv => whnf
                    refine .inl ⟨_, _, byX rfl (Sound1.pl (h41) rfl), ?_⟩
                    conv => whnf
                    refine .inl ⟨_, _, byX rfl (Sound1.pl (h41b) rfl), ?_⟩
                    conv => whnf
                    refine ⟨[], by kernel_rfl, ?_⟩
                    conv => whnf
                    refine .inl ⟨_, _, byX rfl (h42), ?_⟩
                    conv => whnf
                    refine .inl ⟨_, _, byX rfl (Sound1.pl (h40b) rfl), ?_⟩
                    conv => whnf
                    refine ⟨?_, nofun⟩
                    (rfl)
                  · (exfalso; omega)
              | some z =>
                rw [hc] at h37 h40b
                refine sound (d := 2) tok2 mixed2 Tryd.func6 (by kernel_rfl) (by kernel_rfl) ?_
                conv => whnf
                refine .inl ⟨_, _, byX rfl (Sound1.pl (S13) rfl), ?_⟩
                conv => whnf
                refine .inl ⟨_, _, byX rfl (Sound1.pl (h32) rfl), ?_⟩
                conv => whnf
                refine .inl ⟨_, _, byX rfl (h34), ?_⟩
                conv => whnf
                refine .inl ⟨_, _, byX rfl (Sound1.pl (h33) rfl), ?_⟩
                conv => whnf
                refine .inl ⟨_, _, byX rfl (h34), ?_⟩
                conv => whnf
                refine .inl ⟨_, _, byX rfl (h36), ?_⟩
                conv => whnf
                refine .inl ⟨_, _, byX rfl (Sound1.pl (h35) rfl), ?_⟩
                conv => whnf
                refine ⟨[], by kernel_rfl, ?_⟩
                conv => whnf
                refine .inl ⟨_, _, byX rfl (h34), ?_⟩
                conv => whnf
                refine .inl ⟨_, _, byX rfl (h36), ?_⟩
                conv => whnf
                refine .inl ⟨_, _, byX rfl (Sound1.pl (h37) rfl), ?_⟩
                conv => whnf
                refine .inl ⟨_, _, byX rfl (Sound1.pl (h38) rfl), ?_⟩
                conv => whnf
                refine ifB_bne (fun w1 => ?_) (fun w1 => ?_)
                · (exfalso; omega)
                · conv => whnf
                  refine .inl ⟨_, _, byX rfl (Sound1.pl (h39) rfl), ?_⟩
                  conv => whnf
                  refine .inl ⟨_, _, byX rfl (Sound1.pl (h40) rfl), ?_⟩
                  conv => whnf
                  refine ifB_not ?_
                  conv => whnf
                  refine ifB_veq2 (fun w2 => ?_) (fun w2 => ?_)
                  · conv => whnf
                    refine ⟨inK64 (by omega) (by omega), ?_⟩
                    conv => whnf
                    refine .inl ⟨_, _, byX rfl (Sound1.pl (h41) rfl), ?_⟩
                    conv => whnf
                    refine .inl ⟨_, _, byX rfl (Sound1.pl (h41b) rfl), ?_⟩
                    conv => whnf
                    refine ⟨[], by kernel_rfl, ?_⟩
                    conv => whnf
                    refine .inl ⟨_, _, byX rfl (h42), ?_⟩
                    conv => whnf
                    refine .inl ⟨_, _, byX rfl (Sound1.pl (h40b) rfl), ?_⟩
                    conv => whnf
                    refine ⟨?_, nofun⟩
                    (exact endb (beq_self_eq_true _))
                  · (exfalso; omega)
          | false =>
            rw [hb2] at hE h41b
            have hE : enterE h l x = 6 := hE
            rw [hE, if_pos (by decide)] at h37
            cases hb : brokenF h l with
            | none =>
              rw [hb] at h35 h40
              refine sound (d := 2) tok2 mixed2 Tryd.func6 (by kernel_rfl) (by kernel_rfl) ?_
              conv => whnf
              refine .inl ⟨_, _, byX rfl (Sound1.pl (S13) rfl), ?_⟩
              conv => whnf
              refine .inl ⟨_, _, byX rfl (Sound1.pl (h32) rfl), ?_⟩
              conv => whnf
              refine .inl ⟨_, _, byX rfl (h34), ?_⟩
              conv => whnf
              refine .inl ⟨_, _, byX rfl (Sound1.pl (h33) rfl), ?_⟩
              conv => whnf
              refine .inl ⟨_, _, byX rfl (h34), ?_⟩
              conv => whnf
              refine .inl ⟨_, _, byX rfl (h36), ?_⟩
              conv => whnf
              refine .inl ⟨_, _, byX rfl (Sound1.pl (h35) rfl), ?_⟩
              conv => whnf
              refine ⟨[], by kernel_rfl, ?_⟩
              conv => whnf
              refine .inl ⟨_, _, byX rfl (h34), ?_⟩
              conv => whnf
              refine .inl ⟨_, _, byX rfl (h36), ?_⟩
              conv => whnf
              refine .inl ⟨_, _, byX rfl (Sound1.pl (h37) rfl), ?_⟩
              conv => whnf
              refine .inl ⟨_, _, byX rfl (Sound1.pl (h38) rfl), ?_⟩
              conv => whnf
              refine ifB_bne (fun w1 => ?_) (fun w1 => ?_)
              · (exfalso; omega)
              · conv => whnf
                refine .inl ⟨_, _, byX rfl (Sound1.pl (h39) rfl), ?_⟩
                conv => whnf
                refine .inl ⟨_, _, byX rfl (Sound1.pl (h40) rfl), ?_⟩
                conv => whnf
                refine ⟨inK64 (by omega) (by omega), ?_⟩
                conv => whnf
                refine .inl ⟨_, _, byX rfl (Sound1.pl (h41) rfl), ?_⟩
                conv => whnf
                refine .inl ⟨_, _, byX rfl (Sound1.pl (h41b) rfl), ?_⟩
                conv => whnf
                refine ⟨?_, nofun⟩
                (rfl)
            | some y =>
              rw [hb] at h35 h40
              refine sound (d := 2) tok2 mixed2 Tryd.func6 (by kernel_rfl) (by kernel_rfl) ?_
              conv => whnf
              refine .inl ⟨_, _, byX rfl (Sound1.pl (S13) rfl), ?_⟩
              conv => whnf
              refine .inl ⟨_, _, byX rfl (Sound1.pl (h32) rfl), ?_⟩
              conv => whnf
              refine .inl ⟨_, _, byX rfl (h34), ?_⟩
              conv => whnf
              refine .inl ⟨_, _, byX rfl (Sound1.pl (h33) rfl), ?_⟩
              conv => whnf
              refine .inl ⟨_, _, byX rfl (h34), ?_⟩
              conv => whnf
              refine .inl ⟨_, _, byX rfl (h36), ?_⟩
              conv => whnf
              refine .inl ⟨_, _, byX rfl (Sound1.pl (h35) rfl), ?_⟩
              conv => whnf
              refine ⟨[], by kernel_rfl, ?_⟩
              conv => whnf
              refine .inl ⟨_, _, byX rfl (h34), ?_⟩
              conv => whnf
              refine .inl ⟨_, _, byX rfl (h36), ?_⟩
              conv => whnf
              refine .inl ⟨_, _, byX rfl (Sound1.pl (h37) rfl), ?_⟩
              conv => whnf
              refine .inl ⟨_, _, byX rfl (Sound1.pl (h38) rfl), ?_⟩
              conv => whnf
              refine ifB_bne (fun w1 => ?_) (fun w1 => ?_)
              · (exfalso; omega)
              · conv => whnf
                refine .inl ⟨_, _, byX rfl (Sound1.pl (h39) rfl), ?_⟩
                conv => whnf
                refine .inl ⟨_, _, byX rfl (Sound1.pl (h40) rfl), ?_⟩
                conv => whnf
                refine ifB_not ?_
                conv => whnf
                refine ifB_veq2 (fun w2 => ?_) (fun w2 => ?_)
                · conv => whnf
                  refine ⟨inK64 (by omega) (by omega), ?_⟩
                  conv => whnf
                  refine .inl ⟨_, _, byX rfl (Sound1.pl (h41) rfl), ?_⟩
                  conv => whnf
                  refine .inl ⟨_, _, byX rfl (Sound1.pl (h41b) rfl), ?_⟩
                  conv => whnf
                  refine ⟨?_, nofun⟩
                  (rfl)
                · (exfalso; omega)
        · rw [decide_eq_false hw, Bool.false_and] at hE
          have hE : enterE h l x = 6 := hE
          rw [decide_eq_false hw] at h41
          rw [hE, if_pos (by decide)] at h37
          cases hb : brokenF h l with
          | none =>
            rw [hb] at h35 h40
            refine sound (d := 2) tok2 mixed2 Tryd.func6 (by kernel_rfl) (by kernel_rfl) ?_
            conv => whnf
            refine .inl ⟨_, _, byX rfl (Sound1.pl (S13) rfl), ?_⟩
            conv => whnf
            refine .inl ⟨_, _, byX rfl (Sound1.pl (h32) rfl), ?_⟩
            conv => whnf
            refine .inl ⟨_, _, byX rfl (h34), ?_⟩
            conv => whnf
            refine .inl ⟨_, _, byX rfl (Sound1.pl (h33) rfl), ?_⟩
            conv => whnf
            refine .inl ⟨_, _, byX rfl (h34), ?_⟩
            conv => whnf
            refine .inl ⟨_, _, byX rfl (h36), ?_⟩
            conv => whnf
            refine .inl ⟨_, _, byX rfl (Sound1.pl (h35) rfl), ?_⟩
            conv => whnf
            refine ⟨[], by kernel_rfl, ?_⟩
            conv => whnf
            refine .inl ⟨_, _, byX rfl (h34), ?_⟩
            conv => whnf
            refine .inl ⟨_, _, byX rfl (h36), ?_⟩
            conv => whnf
            refine .inl ⟨_, _, byX rfl (Sound1.pl (h37) rfl), ?_⟩
            conv => whnf
            refine .inl ⟨_, _, byX rfl (Sound1.pl (h38) rfl), ?_⟩
            conv => whnf
            refine ifB_bne (fun w1 => ?_) (fun w1 => ?_)
            · (exfalso; omega)
            · conv => whnf
              refine .inl ⟨_, _, byX rfl (Sound1.pl (h39) rfl), ?_⟩
              conv => whnf
              refine .inl ⟨_, _, byX rfl (Sound1.pl (h40) rfl), ?_⟩
              conv => whnf
              refine ⟨inK64 (by omega) (by omega), ?_⟩
              conv => whnf
              refine .inl ⟨_, _, byX rfl (Sound1.pl (h41) rfl), ?_⟩
              conv => whnf
              refine ⟨?_, nofun⟩
              (rfl)
          | some y =>
            rw [hb] at h35 h40
            refine sound (d := 2) tok2 mixed2 Tryd.func6 (by kernel_rfl) (by kernel_rfl) ?_
            conv => whnf
            refine .inl ⟨_, _, byX rfl (Sound1.pl (S13) rfl), ?_⟩
            conv => whnf
            refine .inl ⟨_, _, byX rfl (Sound1.pl (h32) rfl), ?_⟩
            conv => whnf
            refine .inl ⟨_, _, byX rfl (h34), ?_⟩
            conv => whnf
            refine .inl ⟨_, _, byX rfl (Sound1.pl (h33) rfl), ?_⟩
            conv => whnf
            refine .inl ⟨_, _, byX rfl (h34), ?_⟩
            conv => whnf
            refine .inl ⟨_, _, byX rfl (h36), ?_⟩
            conv => whnf
            refine .inl ⟨_, _, byX rfl (Sound1.pl (h35) rfl), ?_⟩
            conv => whnf
            refine ⟨[], by kernel_rfl, ?_⟩
            conv => whnf
            refine .inl ⟨_, _, byX rfl (h34), ?_⟩
            conv => whnf
            refine .inl ⟨_, _, byX rfl (h36), ?_⟩
            conv => whnf
            refine .inl ⟨_, _, byX rfl (Sound1.pl (h37) rfl), ?_⟩
            conv => whnf
            refine .inl ⟨_, _, byX rfl (Sound1.pl (h38) rfl), ?_⟩
            conv => whnf
            refine ifB_bne (fun w1 => ?_) (fun w1 => ?_)
            · (exfalso; omega)
            · conv => whnf
              refine .inl ⟨_, _, byX rfl (Sound1.pl (h39) rfl), ?_⟩
              conv => whnf
              refine .inl ⟨_, _, byX rfl (Sound1.pl (h40) rfl), ?_⟩
              conv => whnf
              refine ifB_not ?_
              conv => whnf
              refine ifB_veq2 (fun w2 => ?_) (fun w2 => ?_)
              · conv => whnf
                refine ⟨inK64 (by omega) (by omega), ?_⟩
                conv => whnf
                refine .inl ⟨_, _, byX rfl (Sound1.pl (h41) rfl), ?_⟩
                conv => whnf
                refine ⟨?_, nofun⟩
                (rfl)
              · (exfalso; omega)
      · have hE : enterE h l x = openH h l := if_neg (by rw [hO]; exact hS)
        unfold brokenR at h35
        unfold mayR at h37
        rw [hE] at h37
        rw [hO, if_pos hS] at h35 h37
        refine sound (d := 2) tok2 mixed2 Tryd.func6 (by kernel_rfl) (by kernel_rfl) ?_
        conv => whnf
        refine .inl ⟨_, _, byX rfl (Sound1.pl (S13) rfl), ?_⟩
        conv => whnf
        refine .inl ⟨_, _, byX rfl (Sound1.pl (h32) rfl), ?_⟩
        conv => whnf
        refine .inl ⟨_, _, byX rfl (h34), ?_⟩
        conv => whnf
        refine .inl ⟨_, _, byX rfl (Sound1.pl (h33) rfl), ?_⟩
        conv => whnf
        refine .inl ⟨_, _, byX rfl (h34), ?_⟩
        conv => whnf
        refine .inl ⟨_, _, byX rfl (h36), ?_⟩
        conv => whnf
        refine .inl ⟨_, _, byX rfl (Sound1.pl (h35) rfl), ?_⟩
        conv => whnf
        refine ⟨[], by kernel_rfl, ?_⟩
        conv => whnf
        refine .inl ⟨_, _, byX rfl (h34), ?_⟩
        conv => whnf
        refine .inl ⟨_, _, byX rfl (h36), ?_⟩
        conv => whnf
        refine .inl ⟨_, _, byX rfl (Sound1.pl (h37) rfl), ?_⟩
        conv => whnf
        refine .inl ⟨_, _, byX rfl (Sound1.pl (h38) rfl), ?_⟩
        conv => whnf
        refine ifB_bne (fun w1 => ?_) (fun w1 => ?_)
        · (exfalso; omega)
        · conv => whnf
          refine .inl ⟨_, _, byX rfl (Sound1.pl (h39) rfl), ?_⟩
          conv => whnf
          refine ifB_bne (fun w2 => ?_) (fun w2 => ?_)
          · conv => whnf
            refine ifB_beq (fun w3 => ?_) (fun w3 => ?_)
            · conv => whnf
              refine ifB_beq (fun w4 => ?_) (fun w4 => ?_)
              · conv => whnf
                refine ⟨?_, nofun⟩
                (rfl)
              · (exfalso; omega)
            · (exfalso; omega)
          · (exfalso; omega)
    · have hO : openH h l = (checkH h).2 := if_neg hC
      have hE : enterE h l x = openH h l := if_neg (by rw [hO]; exact hC)
      unfold brokenR at h35
      unfold mayR at h37
      rw [hE] at h37
      rw [hO, if_pos hC] at h35 h37
      refine sound (d := 2) tok2 mixed2 Tryd.func6 (by kernel_rfl) (by kernel_rfl) ?_
      conv => whnf
      refine .inl ⟨_, _, byX rfl (Sound1.pl (S13) rfl), ?_⟩
      conv => whnf
      refine .inl ⟨_, _, byX rfl (Sound1.pl (h32) rfl), ?_⟩
      conv => whnf
      refine .inl ⟨_, _, byX rfl (h34), ?_⟩
      conv => whnf
      refine .inl ⟨_, _, byX rfl (Sound1.pl (h33) rfl), ?_⟩
      conv => whnf
      refine .inl ⟨_, _, byX rfl (h34), ?_⟩
      conv => whnf
      refine .inl ⟨_, _, byX rfl (h36), ?_⟩
      conv => whnf
      refine .inl ⟨_, _, byX rfl (Sound1.pl (h35) rfl), ?_⟩
      conv => whnf
      refine ⟨[], by kernel_rfl, ?_⟩
      conv => whnf
      refine .inl ⟨_, _, byX rfl (h34), ?_⟩
      conv => whnf
      refine .inl ⟨_, _, byX rfl (h36), ?_⟩
      conv => whnf
      refine .inl ⟨_, _, byX rfl (Sound1.pl (h37) rfl), ?_⟩
      conv => whnf
      refine .inl ⟨_, _, byX rfl (Sound1.pl (h38) rfl), ?_⟩
      conv => whnf
      refine ifB_bne (fun w1 => ?_) (fun w1 => ?_)
      · (exfalso; omega)
      · conv => whnf
        refine ifB_bne (fun w2 => ?_) (fun w2 => ?_)
        · (exfalso; omega)
        · conv => whnf
          refine ifB_beq (fun w3 => ?_) (fun w3 => ?_)
          · (exfalso; omega)
          · conv => whnf
            refine ifB_bne (fun w4 => ?_) (fun w4 => ?_)
            · conv => whnf
              refine ifB_beq (fun w5 => ?_) (fun w5 => ?_)
              · conv => whnf
                refine ifB_beq (fun w6 => ?_) (fun w6 => ?_)
                · conv => whnf
                  refine ⟨?_, nofun⟩
                  (rfl)
                · (exfalso; omega)
              · (exfalso; omega)
            · (exfalso; omega)

/-! ### Machines that enter one after the other -/

theorem firstN_false {P : Nat → Bool} {n : Nat} (h : firstN P n 0 = none) : ∀ j, j < n → P j = false := by
  have key : ∀ (m i : Nat), firstN P m i = none → ∀ j, i ≤ j → j < i + m → P j = false := by
    intro m
    induction m with
    | zero => intro i _ j h1 h2; omega
    | succ m ih =>
      intro i hs j h1 h2
      unfold firstN at hs
      cases hp : P i with
      | true => rw [hp] at hs; cases hs
      | false =>
        rw [hp] at hs
        rcases Nat.eq_or_lt_of_le h1 with e | e
        · rw [← e]; exact hp
        · exact ih (i + 1) hs j (by omega) (by omega)
  exact fun j hj => key n 0 h j (by omega) (by omega)
/-- No rule is broken. -/
def Whole (h : Hal) (l : List Int) : Prop := ∀ m k, m < l.length → k < h.rules.length → condB h l m k = false
theorem whole_of {h : Hal} {l : List Int} (hb : brokenF h l = none) : Whole h l := by
  unfold brokenF at hb
  cases hf : firstN (fun m => (rowB h l m).isSome) l.length 0 with
  | none =>
    intro m k hm hk
    have h1 := firstN_false hf m hm
    unfold rowB at h1
    exact firstN_false (Option.isSome_eq_false_iff.1 h1 |> Option.isNone_iff_eq_none.1) k hk
  | some m =>
    rw [hf] at hb
    exfalso
    have key : ∀ (P : Nat → Bool) (n i j : Nat), firstN P n i = some j → P j = true := by
      intro P n
      induction n with
      | zero => intro i j h; cases h
      | succ n ih =>
        intro i j h
        unfold firstN at h
        split at h
        · cases h; assumption
        · exact ih _ _ h
    have h1 := key _ _ _ _ hf
    obtain ⟨k, hk⟩ := Option.isSome_iff_exists.1 h1
    have hb : (rowB h l m).map (fun k => (m, k)) = none := hb
    rw [hk] at hb; cases hb
theorem Whole.at {h : Hal} {l : List Int} (hw : Whole h l) {m k : Nat} (hm : m < l.length) (hk : k < h.rules.length) (he : (h.rules.getD k rul0).1 = l.getD m 0) : otherB l m (h.rules.getD k rul0).2.1 = decide ((h.rules.getD k rul0).2.2 = 1) := by
  have := hw m k hm hk
  unfold condB at this
  rw [decide_eq_true he, Bool.true_and] at this
  exact bne_eq_false_iff_eq.1 this
theorem open_entered {h : Hal} {l : List Int} {x : Int × Int} (h0 : openH h l = 0) (hx : 0 ≤ x.1) (hx2 : isStepB x.2 = true) : openH h (enteredL l x) = 0 := by
  unfold openH at h0 ⊢
  split at h0
  · rename_i hc
    rw [if_pos hc]
    unfold stepsH at h0 ⊢
    rw [entered_len]
    split at h0
    · cases h0
    · rename_i h1
      rw [if_neg h1]
      split at h0
      · rename_i h2
        rw [if_pos]
        rw [List.all_eq_true] at h2 ⊢
        intro y hy
        rcases List.mem_or_eq_of_mem_set hy with hy | hy
        · exact h2 y hy
        · rw [hy]; exact hx2
      · cases h0
  · rename_i hc; exact absurd h0 hc
theorem ex_none {P : Nat → Prop} : false = true ↔ ∃ j, j < 0 ∧ P j := ⟨nofun, fun ⟨j, h, _⟩ => absurd h (Nat.not_lt_zero j)⟩
theorem ex_next {P : Nat → Prop} {b : Nat} {T T' : Bool} (hT : T = true ↔ ∃ j, j < b ∧ P j) (h : T' = true ↔ (T = true ∨ P b)) : T' = true ↔ ∃ j, j < b + 1 ∧ P j := by
  rw [h, hT]
  constructor
  · rintro (⟨j, h1, h2⟩ | h2)
    · exact ⟨j, by omega, h2⟩
    · exact ⟨b, by omega, h2⟩
  · rintro ⟨j, h1, h2⟩
    rcases Nat.lt_succ_iff_lt_or_eq.1 h1 with h | h
    · exact .inl ⟨j, h, h2⟩
    · exact .inr (h ▸ h2)
theorem there_eq {l : List Int} {a : Nat} {x : Int} {T : Bool} (hT : T = true ↔ ∃ j, j < l.length ∧ (j ≠ a ∧ l.getD j 0 = x)) : T = otherB l a x := by
  cases T with
  | true =>
    obtain ⟨j, h1, h2, h3⟩ := hT.1 rfl
    exact (other_true h1 h2 h3).symm
  | false => exact (other_false fun i hi hne he => absurd (hT.2 ⟨i, hi, hne, he⟩) nofun).symm
theorem S7 (h : Hal) (l : List Int) (hl : l.length ≤ 9223372036854775807) (L : List (Int × Int)) (hL : L.length ≤ 9223372036854775807) : SP 7 [hallA h, ints l, entsA L] (vb true) false := by
  have h32 := S32 h l
  cases hf : decide (h.rules.length ≤ 14) && decide (l.length ≤ 8) with
  | false =>
    rw [hf] at h32
    refine sound (d := 2) tok2 mixed2 Tryd.func7 (by kernel_rfl) (by kernel_rfl) ?_
    conv => whnf
    refine .inl ⟨_, _, byX rfl (Sound1.pl (S13) rfl), ?_⟩
    conv => whnf
    refine .inl ⟨_, _, byX rfl (Sound1.pl (h32) rfl), ?_⟩
    conv => whnf
    refine ⟨?_, nofun⟩
    (rfl)
  | true =>
    rw [hf] at h32
    rw [Bool.and_eq_true, decide_eq_true_iff, decide_eq_true_iff] at hf
    have h34 := S34 h (by omega)
    have h36 := S36 l (by omega)
    have h35 := S35 h (by omega) l (by omega)
    have h43 := S43 h (by omega)
    have h39 := S39 h l (by omega)
    by_cases hC : (checkH h).2 = 0
    · rw [hC] at h43
      by_cases hS : stepsH h l = 0
      · have hO : openH h l = 0 := (if_pos hC).trans hS
        rw [hS] at h39
        unfold brokenR at h35
        rw [hO, if_neg (not_not_intro rfl)] at h35
        by_cases hL12 : L.length ≤ 12
        · cases hb : brokenF h l with
          | none =>
            rw [hb] at h35
            refine sound (d := 2) tok2 mixed2 Tryd.func7 (by kernel_rfl) (by kernel_rfl) ?_
            conv => whnf
            refine .inl ⟨_, _, byX rfl (Sound1.pl (S13) rfl), ?_⟩
            conv => whnf
            refine .inl ⟨_, _, byX rfl (Sound1.pl (h32) rfl), ?_⟩
            conv => whnf
            refine .inl ⟨_, _, byX rfl (Sound1.pl (h43) rfl), ?_⟩
            conv => whnf
            refine .inl ⟨_, _, byX rfl (Sound1.pl (h39) rfl), ?_⟩
            conv => whnf
            refine ifB_dec (fun w1 => ?_) (fun w1 => ?_)
            · (exfalso; omega)
            · conv => whnf
              refine .inl ⟨_, _, byX rfl (h34), ?_⟩
              conv => whnf
              refine .inl ⟨_, _, byX rfl (h36), ?_⟩
              conv => whnf
              refine .inl ⟨_, _, byX rfl (Sound1.pl (h35) rfl), ?_⟩
              conv => whnf
              refine .inl ⟨_, _, byX rfl (h36), ?_⟩
              conv => whnf
              refine ⟨[.freeze 9], [2, 3, 9, 10], fun st mq => ∃ (i : Nat) (now : List Int) (G3 : Nat → List AV) (F1 : Nat → List AV) (F2 : Nat → List AV), (i ≤ L.length) ∧ (now.length = l.length) ∧ (openH h now = 0) ∧ (Whole h now) ∧ st = ⟨[(2, entsA L), (3, .optr 0 0 0 0), (9, ints now), (10, i64 i)], ⟨[⟨2, 1, fun _ => hallC h, 0, false, true, true⟩, ⟨1, l.length, F1, 0, false, true, false⟩, ⟨2, 1, F2, 0, false, true, false⟩, ⟨1, l.length, G3, 0, true, true, false⟩], [], none, 0⟩, []⟩ ∧ mq = L.length - i,
                ⟨_, _, ⟨0, l, _, _, _, by omega, rfl, hO, whole_of hb, rfl, rfl⟩, ⟨⟨.inl rfl, rfl, rfl, rfl⟩, ⟨⟨rfl, rfl, rfl, rfl, fun _ => rfl, fun _ _ => .inl rfl⟩, ⟨⟨rfl, rfl, rfl, rfl, fun _ => rfl, fun _ _ => .inl rfl⟩, ⟨⟨rfl, rfl, rfl, rfl, fun _ => rfl, fun _ _ => .inl rfl⟩, ⟨⟨rfl, rfl, rfl, rfl, fun _ => rfl, fun _ _ => .inl rfl⟩, trivial⟩⟩⟩⟩, trivial⟩⟩, ?_⟩
              rintro s0 m0 ⟨i, now, G3, F1, F2, hi, hlen, hon, hW, rfl, hmeas⟩
              by_cases hlt : i < L.length
              · have h36n := S36 now (by omega)
                have h37 := S37 h (by omega) now (by omega) (L.getD (i : Int).toNat (0, 0))
                unfold mayR at h37
                generalize hxv : L.getD (i : Int).toNat (0, 0) = x at h37
                by_cases hE : enterE h now x = 0
                · rw [hE, if_neg (not_not_intro rfl)] at h37
                  obtain ⟨e1, e2, e3⟩ := enter_ok hE
                  have h42 := S42 now (by omega) x (by omega)
                  have h41 := S41 x.1 0 ((now.length : Int) - 1)
                  have h41b := S41 x.2 0 9
                  rw [isStep_dec, e3] at h41b
                  rw [decide_eq_true e2] at h41
                  rw [← hxv] at h37 h42 h41 h41b
                  cases hc : brokenF h (enteredL now x) with
                  | none =>
                    rw [hxv] at h37
                    rw [hc, ← hxv] at h37
                    have hW1 : Whole h (enteredL now (L.getD (i : Int).toNat (0, 0))) := by rw [hxv]; exact whole_of hc
                    have h1len : (enteredL now (L.getD (i : Int).toNat (0, 0))).length = l.length := by rw [entered_len]; exact hlen
                    have h1on : openH h (enteredL now (L.getD (i : Int).toNat (0, 0))) = 0 := by rw [hxv]; exact open_entered hon e2.1 e3
                    conv => whnf
                    conv => whnf
                    refine ifB_dec (fun w2 => ?_) (fun w2 => ?_)
                    · conv => whnf
                      conv => whnf
                      refine ⟨[], by kernel_rfl, ?_⟩
                      conv => whnf
                      conv => whnf
                      refine .inl ⟨_, _, byX rfl (h34), ?_⟩
                      conv => whnf
                      conv => whnf
                      refine .inl ⟨_, _, byX rfl (h36n), ?_⟩
                      conv => whnf
                      conv => whnf
                      refine ⟨⟨(by omega), (by omega)⟩, ?_⟩
                      conv => whnf
                      conv => whnf
                      refine .inl ⟨_, _, byX rfl (Sound1.pl (h37) rfl), ?_⟩
                      conv => whnf
                      conv => whnf
                      refine ⟨⟨(by omega), (by omega)⟩, ?_⟩
                      conv => whnf
                      conv => whnf
                      refine ⟨inK64 (by omega) (by omega), ?_⟩
                      conv => whnf
                      conv => whnf
                      refine .inl ⟨_, _, byX rfl (Sound1.pl (h41) rfl), ?_⟩
                      conv => whnf
                      conv => whnf
                      refine ⟨⟨(by omega), (by omega)⟩, ?_⟩
                      conv => whnf
                      conv => whnf
                      refine .inl ⟨_, _, byX rfl (Sound1.pl (h41b) rfl), ?_⟩
                      conv => whnf
                      conv => whnf
                      refine ⟨⟨(by omega), (by omega)⟩, ?_⟩
                      conv => whnf
                      conv => whnf
                      refine .inl ⟨_, _, byX rfl (h42), ?_⟩
                      conv => whnf
                      conv => whnf
                      refine ⟨[.freeze 9], [2, 3, 9, 10, 13], fun st mq => ∃ (k : Nat) (G3 : Nat → List AV) (G5 : Nat → List AV) (F1 : Nat → List AV) (F2 : Nat → List AV) (F4 : Nat → List AV), (k ≤ h.rules.length) ∧ st = ⟨[(2, entsA L), (3, .optr 0 0 0 0), (9, ints (enteredL now (L.getD (i : Int).toNat (0, 0)))), (10, i64 i), (13, i64 k)], ⟨[⟨2, 1, fun _ => hallC h, 0, false, true, true⟩, ⟨1, l.length, F1, 0, false, true, false⟩, ⟨2, 1, F2, 0, false, true, false⟩, ⟨1, l.length, G3, 0, true, true, false⟩, ⟨1, now.length, F4, 0, false, true, false⟩, ⟨1, (enteredL now (L.getD (i : Int).toNat (0, 0))).length, G5, 0, true, true, false⟩], [], none, 0⟩, []⟩ ∧ mq = h.rules.length - k,
                        ⟨_, _, ⟨0, _, _, _, _, _, by omega, rfl, rfl⟩, ⟨⟨.inl rfl, rfl, rfl, rfl⟩, ⟨⟨rfl, rfl, rfl, rfl, fun _ => rfl, fun _ _ => .inl rfl⟩, ⟨⟨rfl, rfl, rfl, rfl, fun _ => rfl, fun _ _ => .inl rfl⟩, ⟨⟨rfl, rfl, rfl, rfl, fun _ => rfl, fun _ _ => .inl rfl⟩, ⟨⟨rfl, rfl, rfl, rfl, fun _ => rfl, fun _ _ => .inl rfl⟩, ⟨⟨rfl, rfl, rfl, rfl, fun _ => rfl, fun _ _ => .inl rfl⟩, ⟨⟨rfl, rfl, rfl, rfl, fun _ => rfl, fun _ _ => .inl rfl⟩, trivial⟩⟩⟩⟩⟩⟩, trivial⟩⟩, ?_⟩
                      rintro s0 m0 ⟨k, G3, G5, F1, F2, F4, hk, rfl, hmeas⟩
                      by_cases hkl : k < h.rules.length
                      · conv => whnf
                        conv => whnf
                        conv => whnf
                        refine ifB_dec (fun w3 => ?_) (fun w3 => ?_)
                        · conv => whnf
                          conv => whnf
                          conv => whnf
                          refine ⟨⟨(by omega), (by omega)⟩, ?_⟩
                          conv => whnf
                          conv => whnf
                          conv => whnf
                          refine ⟨[], [2, 3, 9, 10, 13, 14, 15], fun st mq => ∃ (a : Nat) (G3 : Nat → List AV) (G5 : Nat → List AV) (F1 : Nat → List AV) (F2 : Nat → List AV) (F4 : Nat → List AV), (a ≤ (enteredL now (L.getD (i : Int).toNat (0, 0))).length) ∧ st = ⟨[(2, entsA L), (3, .optr 0 0 0 0), (9, ints (enteredL now (L.getD (i : Int).toNat (0, 0)))), (10, i64 i), (13, i64 k), (14, .optr 6 0 0 0), (15, i64 a)], ⟨[⟨2, 1, fun _ => hallC h, 0, false, true, true⟩, ⟨1, l.length, F1, 0, false, true, false⟩, ⟨2, 1, F2, 0, false, true, false⟩, ⟨1, l.length, G3, 0, true, true, false⟩, ⟨1, now.length, F4, 0, false, true, false⟩, ⟨1, (enteredL now (L.getD (i : Int).toNat (0, 0))).length, G5, 0, true, true, false⟩, ⟨3, 1, fun _ => rulC (h.rules.getD k rul0), 0, false, true, true⟩], [], none, 0⟩, []⟩ ∧ mq = (enteredL now (L.getD (i : Int).toNat (0, 0))).length - a,
                            ⟨_, _, ⟨0, _, _, _, _, _, by omega, rfl, rfl⟩, ⟨⟨.inl rfl, rfl, rfl, rfl⟩, ⟨⟨rfl, rfl, rfl, rfl, fun _ => rfl, fun _ _ => .inl rfl⟩, ⟨⟨rfl, rfl, rfl, rfl, fun _ => rfl, fun _ _ => .inl rfl⟩, ⟨⟨rfl, rfl, rfl, rfl, fun _ => rfl, fun _ _ => .inl rfl⟩, ⟨⟨rfl, rfl, rfl, rfl, fun _ => rfl, fun _ _ => .inl rfl⟩, ⟨⟨rfl, rfl, rfl, rfl, fun _ => rfl, fun _ _ => .inl rfl⟩, ⟨⟨rfl, rfl, rfl, rfl, fun _ => rfl, fun _ _ => .inl rfl⟩, ⟨⟨rfl, rfl, rfl, rfl, fun _ => rfl, fun _ _ => .inl rfl⟩, trivial⟩⟩⟩⟩⟩⟩⟩, trivial⟩⟩, ?_⟩
                          rintro s0 m0 ⟨a, G3, G5, F1, F2, F4, ha, rfl, hmeas⟩
                          by_cases hal : a < (enteredL now (L.getD (i : Int).toNat (0, 0))).length
                          · conv => whnf
                            conv => whnf
                            conv => whnf
                            conv => whnf
                            refine ifB_dec (fun w4 => ?_) (fun w4 => ?_)
                            · conv => whnf
                              conv => whnf
                              conv => whnf
                              conv => whnf
                              refine ⟨[], [2, 3, 9, 10, 13, 14, 15, 16, 17], fun st mq => ∃ (b : Nat) (T : Bool) (G3 : Nat → List AV) (G5 : Nat → List AV) (F1 : Nat → List AV) (F2 : Nat → List AV) (F4 : Nat → List AV), (b ≤ (enteredL now (L.getD (i : Int).toNat (0, 0))).length) ∧ (T = true ↔ ∃ j, j < b ∧ (j ≠ a ∧ (enteredL now (L.getD (i : Int).toNat (0, 0))).getD j 0 = (h.rules.getD k rul0).2.1)) ∧ st = ⟨[(2, entsA L), (3, .optr 0 0 0 0), (9, ints (enteredL now (L.getD (i : Int).toNat (0, 0)))), (10, i64 i), (13, i64 k), (14, .optr 6 0 0 0), (15, i64 a), (16, vb T), (17, i64 b)], ⟨[⟨2, 1, fun _ => hallC h, 0, false, true, true⟩, ⟨1, l.length, F1, 0, false, true, false⟩, ⟨2, 1, F2, 0, false, true, false⟩, ⟨1, l.length, G3, 0, true, true, false⟩, ⟨1, now.length, F4, 0, false, true, false⟩, ⟨1, (enteredL now (L.getD (i : Int).toNat (0, 0))).length, G5, 0, true, true, false⟩, ⟨3, 1, fun _ => rulC (h.rules.getD k rul0), 0, false, true, true⟩], [], none, 0⟩, []⟩ ∧ mq = (enteredL now (L.getD (i : Int).toNat (0, 0))).length - b,
                                ⟨_, _, ⟨0, false, _, _, _, _, _, by omega, ex_none, rfl, rfl⟩, ⟨⟨.inl rfl, rfl, rfl, rfl⟩, ⟨⟨rfl, rfl, rfl, rfl, fun _ => rfl, fun _ _ => .inl rfl⟩, ⟨⟨rfl, rfl, rfl, rfl, fun _ => rfl, fun _ _ => .inl rfl⟩, ⟨⟨rfl, rfl, rfl, rfl, fun _ => rfl, fun _ _ => .inl rfl⟩, ⟨⟨rfl, rfl, rfl, rfl, fun _ => rfl, fun _ _ => .inl rfl⟩, ⟨⟨rfl, rfl, rfl, rfl, fun _ => rfl, fun _ _ => .inl rfl⟩, ⟨⟨rfl, rfl, rfl, rfl, fun _ => rfl, fun _ _ => .inl rfl⟩, ⟨⟨rfl, rfl, rfl, rfl, fun _ => rfl, fun _ _ => .inl rfl⟩, trivial⟩⟩⟩⟩⟩⟩⟩, trivial⟩⟩, ?_⟩
                              rintro s0 m0 ⟨b, T, G3, G5, F1, F2, F4, hb2, hT, rfl, hmeas⟩
                              by_cases hbl : b < (enteredL now (L.getD (i : Int).toNat (0, 0))).length
                              · conv => whnf
                                conv => whnf
                                conv => whnf
                                conv => whnf
                                conv => whnf
                                refine ifB_dec (fun w5 => ?_) (fun w5 => ?_)
                                · conv => whnf
                                  conv => whnf
                                  conv => whnf
                                  conv => whnf
                                  conv => whnf
                                  refine ⟨[], by kernel_rfl, ?_⟩
                                  conv => whnf
                                  conv => whnf
                                  conv => whnf
                                  conv => whnf
                                  conv => whnf
                                  refine ifB_intro (fun w6 => ?_) (fun w6 => ?_)
                                  · conv => whnf
                                    conv => whnf
                                    conv => whnf
                                    conv => whnf
                                    conv => whnf
                                    refine ⟨inK64 (by omega) (by omega), ?_⟩
                                    conv => whnf
                                    conv => whnf
                                    conv => whnf
                                    conv => whnf
                                    conv => whnf
                                    refine ⟨_, _, ⟨⟨b + 1, true, G3, G5, _, _, _, by omega, ex_next hT ⟨fun _ => .inl w6, fun _ => rfl⟩, rfl, rfl⟩, by omega⟩, ⟨⟨.inl rfl, rfl, rfl, rfl⟩, ⟨⟨rfl, rfl, rfl, rfl, fun _ => rfl, fun _ _ => .inl rfl⟩, ⟨⟨rfl, rfl, rfl, rfl, fun _ => rfl, fun _ _ => .inl rfl⟩, ⟨⟨rfl, rfl, rfl, rfl, fun _ => rfl, fun _ _ => .inl rfl⟩, ⟨⟨rfl, rfl, rfl, rfl, fun _ => rfl, fun _ _ => .inl rfl⟩, ⟨⟨rfl, rfl, rfl, rfl, fun _ => rfl, fun _ _ => .inl rfl⟩, ⟨⟨rfl, rfl, rfl, rfl, fun _ => rfl, fun _ _ => .inl rfl⟩, ⟨⟨rfl, rfl, rfl, rfl, fun _ => rfl, fun _ _ => .inl rfl⟩, trivial⟩⟩⟩⟩⟩⟩⟩, trivial⟩⟩
                                  · conv => whnf
                                    conv => whnf
                                    conv => whnf
                                    conv => whnf
                                    conv => whnf
                                    refine ifB_bne (fun w7 => ?_) (fun w7 => ?_)
                                    · conv => whnf
                                      conv => whnf
                                      conv => whnf
                                      conv => whnf
                                      conv => whnf
                                      refine ⟨⟨(by omega), (by omega)⟩, ?_⟩
                                      conv => whnf
                                      conv => whnf
                                      conv => whnf
                                      conv => whnf
                                      conv => whnf
                                      refine ⟨inK64 (by omega) (by omega), ?_⟩
                                      conv => whnf
                                      conv => whnf
                                      conv => whnf
                                      conv => whnf
                                      conv => whnf
                                      refine ⟨_, _, ⟨⟨b + 1, ((enteredL now (L.getD (i : Int).toNat (0, 0))).getD b 0 == (h.rules.getD k rul0).2.1), G3, G5, _, _, _, by omega, ex_next hT ⟨fun h => .inr ⟨by omega, eq_of_beq h⟩, fun h => h.elim (fun e => absurd (w6.symm.trans e) nofun) fun e => beq_iff_eq.2 e.2⟩, rfl, rfl⟩, by omega⟩, ⟨⟨.inl rfl, rfl, rfl, rfl⟩, ⟨⟨rfl, rfl, rfl, rfl, fun _ => rfl, fun _ _ => .inl rfl⟩, ⟨⟨rfl, rfl, rfl, rfl, fun _ => rfl, fun _ _ => .inl rfl⟩, ⟨⟨rfl, rfl, rfl, rfl, fun _ => rfl, fun _ _ => .inl rfl⟩, ⟨⟨rfl, rfl, rfl, rfl, fun _ => rfl, fun _ _ => .inl rfl⟩, ⟨⟨rfl, rfl, rfl, rfl, fun _ => rfl, fun _ _ => .inl rfl⟩, ⟨⟨rfl, rfl, rfl, rfl, fun _ => rfl, fun _ _ => .inl rfl⟩, ⟨⟨rfl, rfl, rfl, rfl, fun _ => rfl, fun _ _ => .inl rfl⟩, trivial⟩⟩⟩⟩⟩⟩⟩, trivial⟩⟩
                                    · conv => whnf
                                      conv => whnf
                                      conv => whnf
                                      conv => whnf
                                      conv => whnf
                                      refine ⟨inK64 (by omega) (by omega), ?_⟩
                                      conv => whnf
                                      conv => whnf
                                      conv => whnf
                                      conv => whnf
                                      conv => whnf
                                      refine ⟨_, _, ⟨⟨b + 1, false, G3, G5, _, _, _, by omega, ex_next hT ⟨nofun, fun h => h.elim (fun e => absurd (w6.symm.trans e) nofun) fun e => absurd (by omega) e.1⟩, rfl, rfl⟩, by omega⟩, ⟨⟨.inl rfl, rfl, rfl, rfl⟩, ⟨⟨rfl, rfl, rfl, rfl, fun _ => rfl, fun _ _ => .inl rfl⟩, ⟨⟨rfl, rfl, rfl, rfl, fun _ => rfl, fun _ _ => .inl rfl⟩, ⟨⟨rfl, rfl, rfl, rfl, fun _ => rfl, fun _ _ => .inl rfl⟩, ⟨⟨rfl, rfl, rfl, rfl, fun _ => rfl, fun _ _ => .inl rfl⟩, ⟨⟨rfl, rfl, rfl, rfl, fun _ => rfl, fun _ _ => .inl rfl⟩, ⟨⟨rfl, rfl, rfl, rfl, fun _ => rfl, fun _ _ => .inl rfl⟩, ⟨⟨rfl, rfl, rfl, rfl, fun _ => rfl, fun _ _ => .inl rfl⟩, trivial⟩⟩⟩⟩⟩⟩⟩, trivial⟩⟩
                                · (exfalso; omega)
                              · have hTo := there_eq (T := T) (show T = true ↔ ∃ j, j < (enteredL now (L.getD (i : Int).toNat (0, 0))).length ∧ (j ≠ a ∧ (enteredL now (L.getD (i : Int).toNat (0, 0))).getD j 0 = (h.rules.getD k rul0).2.1) by rw [show (enteredL now (L.getD (i : Int).toNat (0, 0))).length = b by omega]; exact hT)
                                have hWa := hW1.at hal hkl
                                clear hT
                                conv => whnf
                                conv => whnf
                                conv => whnf
                                conv => whnf
                                conv => whnf
                                refine ifB_dec (fun w5 => ?_) (fun w5 => ?_)
                                · (exfalso; omega)
                                · conv => whnf
                                  conv => whnf
                                  conv => whnf
                                  conv => whnf
                                  conv => whnf
                                  refine ⟨[], by kernel_rfl, ?_⟩
                                  conv => whnf
                                  conv => whnf
                                  conv => whnf
                                  conv => whnf
                                  conv => whnf
                                  refine ⟨⟨(by omega), (by omega)⟩, ?_⟩
                                  conv => whnf
                                  conv => whnf
                                  conv => whnf
                                  conv => whnf
                                  conv => whnf
                                  refine ifB_beq (fun w6 => ?_) (fun w6 => ?_)
                                  · conv => whnf
                                    conv => whnf
                                    conv => whnf
                                    conv => whnf
                                    conv => whnf
                                    refine ifB_beq (fun w7 => ?_) (fun w7 => ?_)
                                    · conv => whnf
                                      conv => whnf
                                      conv => whnf
                                      conv => whnf
                                      conv => whnf
                                      refine ifB_intro (fun w8 => ?_) (fun w8 => ?_)
                                      · conv => whnf
                                        conv => whnf
                                        conv => whnf
                                        conv => whnf
                                        conv => whnf
                                        refine ⟨?_, nofun⟩
                                        have e := hTo.trans (hWa w6.symm)
                                        rw [w8, w7] at e
                                        exact absurd e (by decide)
                                      · conv => whnf
                                        conv => whnf
                                        conv => whnf
                                        conv => whnf
                                        conv => whnf
                                        refine ifB_beq (fun w9 => ?_) (fun w9 => ?_)
                                        · (exfalso; omega)
                                        · conv => whnf
                                          conv => whnf
                                          conv => whnf
                                          conv => whnf
                                          conv => whnf
                                          refine ⟨inK64 (by omega) (by omega), ?_⟩
                                          conv => whnf
                                          conv => whnf
                                          conv => whnf
                                          conv => whnf
                                          conv => whnf
                                          refine ⟨_, _, ⟨⟨a + 1, G3, G5, _, _, _, by omega, rfl, rfl⟩, by omega⟩, ⟨⟨.inl rfl, rfl, rfl, rfl⟩, ⟨⟨rfl, rfl, rfl, rfl, fun _ => rfl, fun _ _ => .inl rfl⟩, ⟨⟨rfl, rfl, rfl, rfl, fun _ => rfl, fun _ _ => .inl rfl⟩, ⟨⟨rfl, rfl, rfl, rfl, fun _ => rfl, fun _ _ => .inl rfl⟩, ⟨⟨rfl, rfl, rfl, rfl, fun _ => rfl, fun _ _ => .inl rfl⟩, ⟨⟨rfl, rfl, rfl, rfl, fun _ => rfl, fun _ _ => .inl rfl⟩, ⟨⟨rfl, rfl, rfl, rfl, fun _ => rfl, fun _ _ => .inl rfl⟩, ⟨⟨rfl, rfl, rfl, rfl, fun _ => rfl, fun _ _ => .inl rfl⟩, trivial⟩⟩⟩⟩⟩⟩⟩, trivial⟩⟩
                                    · conv => whnf
                                      conv => whnf
                                      conv => whnf
                                      conv => whnf
                                      conv => whnf
                                      refine ifB_beq (fun w8 => ?_) (fun w8 => ?_)
                                      · conv => whnf
                                        conv => whnf
                                        conv => whnf
                                        conv => whnf
                                        conv => whnf
                                        refine ifB_not ?_
                                        conv => whnf
                                        conv => whnf
                                        conv => whnf
                                        conv => whnf
                                        conv => whnf
                                        refine ifB_intro (fun w9 => ?_) (fun w9 => ?_)
                                        · conv => whnf
                                          conv => whnf
                                          conv => whnf
                                          conv => whnf
                                          conv => whnf
                                          refine ⟨inK64 (by omega) (by omega), ?_⟩
                                          conv => whnf
                                          conv => whnf
                                          conv => whnf
                                          conv => whnf
                                          conv => whnf
                                          refine ⟨_, _, ⟨⟨a + 1, G3, G5, _, _, _, by omega, rfl, rfl⟩, by omega⟩, ⟨⟨.inl rfl, rfl, rfl, rfl⟩, ⟨⟨rfl, rfl, rfl, rfl, fun _ => rfl, fun _ _ => .inl rfl⟩, ⟨⟨rfl, rfl, rfl, rfl, fun _ => rfl, fun _ _ => .inl rfl⟩, ⟨⟨rfl, rfl, rfl, rfl, fun _ => rfl, fun _ _ => .inl rfl⟩, ⟨⟨rfl, rfl, rfl, rfl, fun _ => rfl, fun _ _ => .inl rfl⟩, ⟨⟨rfl, rfl, rfl, rfl, fun _ => rfl, fun _ _ => .inl rfl⟩, ⟨⟨rfl, rfl, rfl, rfl, fun _ => rfl, fun _ _ => .inl rfl⟩, ⟨⟨rfl, rfl, rfl, rfl, fun _ => rfl, fun _ _ => .inl rfl⟩, trivial⟩⟩⟩⟩⟩⟩⟩, trivial⟩⟩
                                        · conv => whnf
                                          conv => whnf
                                          conv => whnf
                                          conv => whnf
                                          conv => whnf
                                          refine ⟨?_, nofun⟩
                                          have e := hTo.trans (hWa w6.symm)
                                          rw [w9, w8] at e
                                          exact absurd e (by decide)
                                      · conv => whnf
                                        conv => whnf
                                        conv => whnf
                                        conv => whnf
                                        conv => whnf
                                        refine ⟨inK64 (by omega) (by omega), ?_⟩
                                        conv => whnf
                                        conv => whnf
                                        conv => whnf
                                        conv => whnf
                                        conv => whnf
                                        refine ⟨_, _, ⟨⟨a + 1, G3, G5, _, _, _, by omega, rfl, rfl⟩, by omega⟩, ⟨⟨.inl rfl, rfl, rfl, rfl⟩, ⟨⟨rfl, rfl, rfl, rfl, fun _ => rfl, fun _ _ => .inl rfl⟩, ⟨⟨rfl, rfl, rfl, rfl, fun _ => rfl, fun _ _ => .inl rfl⟩, ⟨⟨rfl, rfl, rfl, rfl, fun _ => rfl, fun _ _ => .inl rfl⟩, ⟨⟨rfl, rfl, rfl, rfl, fun _ => rfl, fun _ _ => .inl rfl⟩, ⟨⟨rfl, rfl, rfl, rfl, fun _ => rfl, fun _ _ => .inl rfl⟩, ⟨⟨rfl, rfl, rfl, rfl, fun _ => rfl, fun _ _ => .inl rfl⟩, ⟨⟨rfl, rfl, rfl, rfl, fun _ => rfl, fun _ _ => .inl rfl⟩, trivial⟩⟩⟩⟩⟩⟩⟩, trivial⟩⟩
                                  · conv => whnf
                                    conv => whnf
                                    conv => whnf
                                    conv => whnf
                                    conv => whnf
                                    refine ⟨inK64 (by omega) (by omega), ?_⟩
                                    conv => whnf
                                    conv => whnf
                                    conv => whnf
                                    conv => whnf
                                    conv => whnf
                                    refine ⟨_, _, ⟨⟨a + 1, G3, G5, _, _, _, by omega, rfl, rfl⟩, by omega⟩, ⟨⟨.inl rfl, rfl, rfl, rfl⟩, ⟨⟨rfl, rfl, rfl, rfl, fun _ => rfl, fun _ _ => .inl rfl⟩, ⟨⟨rfl, rfl, rfl, rfl, fun _ => rfl, fun _ _ => .inl rfl⟩, ⟨⟨rfl, rfl, rfl, rfl, fun _ => rfl, fun _ _ => .inl rfl⟩, ⟨⟨rfl, rfl, rfl, rfl, fun _ => rfl, fun _ _ => .inl rfl⟩, ⟨⟨rfl, rfl, rfl, rfl, fun _ => rfl, fun _ _ => .inl rfl⟩, ⟨⟨rfl, rfl, rfl, rfl, fun _ => rfl, fun _ _ => .inl rfl⟩, ⟨⟨rfl, rfl, rfl, rfl, fun _ => rfl, fun _ _ => .inl rfl⟩, trivial⟩⟩⟩⟩⟩⟩⟩, trivial⟩⟩
                            · (exfalso; omega)
                          · conv => whnf
                            conv => whnf
                            conv => whnf
                            conv => whnf
                            refine ifB_dec (fun w4 => ?_) (fun w4 => ?_)
                            · (exfalso; omega)
                            · conv => whnf
                              conv => whnf
                              conv => whnf
                              conv => whnf
                              refine ⟨inK64 (by omega) (by omega), ?_⟩
                              conv => whnf
                              conv => whnf
                              conv => whnf
                              conv => whnf
                              refine ⟨_, _, ⟨⟨k + 1, G3, G5, _, _, _, by omega, rfl, rfl⟩, by omega⟩, ⟨⟨.inl rfl, rfl, rfl, rfl⟩, ⟨⟨rfl, rfl, rfl, rfl, fun _ => rfl, fun _ _ => .inl rfl⟩, ⟨⟨rfl, rfl, rfl, rfl, fun _ => rfl, fun _ _ => .inl rfl⟩, ⟨⟨rfl, rfl, rfl, rfl, fun _ => rfl, fun _ _ => .inl rfl⟩, ⟨⟨rfl, rfl, rfl, rfl, fun _ => rfl, fun _ _ => .inl rfl⟩, ⟨⟨rfl, rfl, rfl, rfl, fun _ => rfl, fun _ _ => .inl rfl⟩, ⟨⟨rfl, rfl, rfl, rfl, fun _ => rfl, fun _ _ => .inl rfl⟩, trivial⟩⟩⟩⟩⟩⟩, trivial⟩⟩
                        · (exfalso; omega)
                      · conv => whnf
                        conv => whnf
                        conv => whnf
                        refine ifB_dec (fun w3 => ?_) (fun w3 => ?_)
                        · (exfalso; omega)
                        · conv => whnf
                          conv => whnf
                          conv => whnf
                          refine ⟨inK64 (by omega) (by omega), ?_⟩
                          conv => whnf
                          conv => whnf
                          conv => whnf
                          refine ⟨_, _, ⟨⟨i + 1, (enteredL now (L.getD (i : Int).toNat (0, 0))), G3, _, _, by omega, h1len, h1on, hW1, rfl, rfl⟩, by omega⟩, ⟨⟨.inl rfl, rfl, rfl, rfl⟩, ⟨⟨rfl, rfl, rfl, rfl, fun _ => rfl, fun _ _ => .inl rfl⟩, ⟨⟨rfl, rfl, rfl, rfl, fun _ => rfl, fun _ _ => .inl rfl⟩, ⟨⟨rfl, rfl, rfl, rfl, fun _ => rfl, fun _ _ => .inl rfl⟩, ⟨⟨rfl, rfl, rfl, rfl, fun _ => rfl, fun _ _ => .inl rfl⟩, trivial⟩⟩⟩⟩, trivial⟩⟩
                    · (exfalso; omega)
                  | some z =>
                    rw [hxv] at h37
                    rw [hc, ← hxv] at h37
                    conv => whnf
                    conv => whnf
                    refine ifB_dec (fun w2 => ?_) (fun w2 => ?_)
                    · conv => whnf
                      conv => whnf
                      refine ⟨[], by kernel_rfl, ?_⟩
                      conv => whnf
                      conv => whnf
                      refine .inl ⟨_, _, byX rfl (h34), ?_⟩
                      conv => whnf
                      conv => whnf
                      refine .inl ⟨_, _, byX rfl (h36n), ?_⟩
                      conv => whnf
                      conv => whnf
                      refine ⟨⟨(by omega), (by omega)⟩, ?_⟩
                      conv => whnf
                      conv => whnf
                      refine .inl ⟨_, _, byX rfl (Sound1.pl (h37) rfl), ?_⟩
                      conv => whnf
                      conv => whnf
                      refine ⟨[.freeze 9], [2, 3, 9, 10, 13], fun st mq => ∃ (k : Nat) (G3 : Nat → List AV) (F1 : Nat → List AV) (F2 : Nat → List AV) (F4 : Nat → List AV), (k ≤ h.rules.length) ∧ st = ⟨[(2, entsA L), (3, .optr 0 0 0 0), (9, ints now), (10, i64 i), (13, i64 k)], ⟨[⟨2, 1, fun _ => hallC h, 0, false, true, true⟩, ⟨1, l.length, F1, 0, false, true, false⟩, ⟨2, 1, F2, 0, false, true, false⟩, ⟨1, l.length, G3, 0, true, true, false⟩, ⟨1, now.length, F4, 0, false, true, false⟩], [], none, 0⟩, []⟩ ∧ mq = h.rules.length - k,
                        ⟨_, _, ⟨0, _, _, _, _, by omega, rfl, rfl⟩, ⟨⟨.inl rfl, rfl, rfl, rfl⟩, ⟨⟨rfl, rfl, rfl, rfl, fun _ => rfl, fun _ _ => .inl rfl⟩, ⟨⟨rfl, rfl, rfl, rfl, fun _ => rfl, fun _ _ => .inl rfl⟩, ⟨⟨rfl, rfl, rfl, rfl, fun _ => rfl, fun _ _ => .inl rfl⟩, ⟨⟨rfl, rfl, rfl, rfl, fun _ => rfl, fun _ _ => .inl rfl⟩, ⟨⟨rfl, rfl, rfl, rfl, fun _ => rfl, fun _ _ => .inl rfl⟩, trivial⟩⟩⟩⟩⟩, trivial⟩⟩, ?_⟩
                      rintro s0 m0 ⟨k, G3, F1, F2, F4, hk, rfl, hmeas⟩
                      by_cases hkl : k < h.rules.length
                      · conv => whnf
                        conv => whnf
                        conv => whnf
                        refine ifB_dec (fun w3 => ?_) (fun w3 => ?_)
                        · conv => whnf
                          conv => whnf
                          conv => whnf
                          refine ⟨⟨(by omega), (by omega)⟩, ?_⟩
                          conv => whnf
                          conv => whnf
                          conv => whnf
                          refine ⟨[], [2, 3, 9, 10, 13, 14, 15], fun st mq => ∃ (a : Nat) (G3 : Nat → List AV) (F1 : Nat → List AV) (F2 : Nat → List AV) (F4 : Nat → List AV), (a ≤ now.length) ∧ st = ⟨[(2, entsA L), (3, .optr 0 0 0 0), (9, ints now), (10, i64 i), (13, i64 k), (14, .optr 5 0 0 0), (15, i64 a)], ⟨[⟨2, 1, fun _ => hallC h, 0, false, true, true⟩, ⟨1, l.length, F1, 0, false, true, false⟩, ⟨2, 1, F2, 0, false, true, false⟩, ⟨1, l.length, G3, 0, true, true, false⟩, ⟨1, now.length, F4, 0, false, true, false⟩, ⟨3, 1, fun _ => rulC (h.rules.getD k rul0), 0, false, true, true⟩], [], none, 0⟩, []⟩ ∧ mq = now.length - a,
                            ⟨_, _, ⟨0, _, _, _, _, by omega, rfl, rfl⟩, ⟨⟨.inl rfl, rfl, rfl, rfl⟩, ⟨⟨rfl, rfl, rfl, rfl, fun _ => rfl, fun _ _ => .inl rfl⟩, ⟨⟨rfl, rfl, rfl, rfl, fun _ => rfl, fun _ _ => .inl rfl⟩, ⟨⟨rfl, rfl, rfl, rfl, fun _ => rfl, fun _ _ => .inl rfl⟩, ⟨⟨rfl, rfl, rfl, rfl, fun _ => rfl, fun _ _ => .inl rfl⟩, ⟨⟨rfl, rfl, rfl, rfl, fun _ => rfl, fun _ _ => .inl rfl⟩, ⟨⟨rfl, rfl, rfl, rfl, fun _ => rfl, fun _ _ => .inl rfl⟩, trivial⟩⟩⟩⟩⟩⟩, trivial⟩⟩, ?_⟩
                          rintro s0 m0 ⟨a, G3, F1, F2, F4, ha, rfl, hmeas⟩
                          by_cases hal : a < now.length
                          · conv => whnf
                            conv => whnf
                            conv => whnf
                            conv => whnf
                            refine ifB_dec (fun w4 => ?_) (fun w4 => ?_)
                            · conv => whnf
                              conv => whnf
                              conv => whnf
                              conv => whnf
                              refine ⟨[], [2, 3, 9, 10, 13, 14, 15, 16, 17], fun st mq => ∃ (b : Nat) (T : Bool) (G3 : Nat → List AV) (F1 : Nat → List AV) (F2 : Nat → List AV) (F4 : Nat → List AV), (b ≤ now.length) ∧ (T = true ↔ ∃ j, j < b ∧ (j ≠ a ∧ now.getD j 0 = (h.rules.getD k rul0).2.1)) ∧ st = ⟨[(2, entsA L), (3, .optr 0 0 0 0), (9, ints now), (10, i64 i), (13, i64 k), (14, .optr 5 0 0 0), (15, i64 a), (16, vb T), (17, i64 b)], ⟨[⟨2, 1, fun _ => hallC h, 0, false, true, true⟩, ⟨1, l.length, F1, 0, false, true, false⟩, ⟨2, 1, F2, 0, false, true, false⟩, ⟨1, l.length, G3, 0, true, true, false⟩, ⟨1, now.length, F4, 0, false, true, false⟩, ⟨3, 1, fun _ => rulC (h.rules.getD k rul0), 0, false, true, true⟩], [], none, 0⟩, []⟩ ∧ mq = now.length - b,
                                ⟨_, _, ⟨0, false, _, _, _, _, by omega, ex_none, rfl, rfl⟩, ⟨⟨.inl rfl, rfl, rfl, rfl⟩, ⟨⟨rfl, rfl, rfl, rfl, fun _ => rfl, fun _ _ => .inl rfl⟩, ⟨⟨rfl, rfl, rfl, rfl, fun _ => rfl, fun _ _ => .inl rfl⟩, ⟨⟨rfl, rfl, rfl, rfl, fun _ => rfl, fun _ _ => .inl rfl⟩, ⟨⟨rfl, rfl, rfl, rfl, fun _ => rfl, fun _ _ => .inl rfl⟩, ⟨⟨rfl, rfl, rfl, rfl, fun _ => rfl, fun _ _ => .inl rfl⟩, ⟨⟨rfl, rfl, rfl, rfl, fun _ => rfl, fun _ _ => .inl rfl⟩, trivial⟩⟩⟩⟩⟩⟩, trivial⟩⟩, ?_⟩
                              rintro s0 m0 ⟨b, T, G3, F1, F2, F4, hb2, hT, rfl, hmeas⟩
                              by_cases hbl : b < now.length
                              · conv => whnf
                                conv => whnf
                                conv => whnf
                                conv => whnf
                                conv => whnf
                                refine ifB_dec (fun w5 => ?_) (fun w5 => ?_)
                                · conv => whnf
                                  conv => whnf
                                  conv => whnf
                                  conv => whnf
                                  conv => whnf
                                  refine ⟨[], by kernel_rfl, ?_⟩
                                  conv => whnf
                                  conv => whnf
                                  conv => whnf
                                  conv => whnf
                                  conv => whnf
                                  refine ifB_intro (fun w6 => ?_) (fun w6 => ?_)
                                  · conv => whnf
                                    conv => whnf
                                    conv => whnf
                                    conv => whnf
                                    conv => whnf
                                    refine ⟨inK64 (by omega) (by omega), ?_⟩
                                    conv => whnf
                                    conv => whnf
                                    conv => whnf
                                    conv => whnf
                                    conv => whnf
                                    refine ⟨_, _, ⟨⟨b + 1, true, G3, _, _, _, by omega, ex_next hT ⟨fun _ => .inl w6, fun _ => rfl⟩, rfl, rfl⟩, by omega⟩, ⟨⟨.inl rfl, rfl, rfl, rfl⟩, ⟨⟨rfl, rfl, rfl, rfl, fun _ => rfl, fun _ _ => .inl rfl⟩, ⟨⟨rfl, rfl, rfl, rfl, fun _ => rfl, fun _ _ => .inl rfl⟩, ⟨⟨rfl, rfl, rfl, rfl, fun _ => rfl, fun _ _ => .inl rfl⟩, ⟨⟨rfl, rfl, rfl, rfl, fun _ => rfl, fun _ _ => .inl rfl⟩, ⟨⟨rfl, rfl, rfl, rfl, fun _ => rfl, fun _ _ => .inl rfl⟩, ⟨⟨rfl, rfl, rfl, rfl, fun _ => rfl, fun _ _ => .inl rfl⟩, trivial⟩⟩⟩⟩⟩⟩, trivial⟩⟩
                                  · conv => whnf
                                    conv => whnf
                                    conv => whnf
                                    conv => whnf
                                    conv => whnf
                                    refine ifB_bne (fun w7 => ?_) (fun w7 => ?_)
                                    · conv => whnf
                                      conv => whnf
                                      conv => whnf
                                      conv => whnf
                                      conv => whnf
                                      refine ⟨⟨(by omega), (by omega)⟩, ?_⟩
                                      conv => whnf
                                      conv => whnf
                                      conv => whnf
                                      conv => whnf
                                      conv => whnf
                                      refine ⟨inK64 (by omega) (by omega), ?_⟩
                                      conv => whnf
                                      conv => whnf
                                      conv => whnf
                                      conv => whnf
                                      conv => whnf
                                      refine ⟨_, _, ⟨⟨b + 1, (now.getD b 0 == (h.rules.getD k rul0).2.1), G3, _, _, _, by omega, ex_next hT ⟨fun h => .inr ⟨by omega, eq_of_beq h⟩, fun h => h.elim (fun e => absurd (w6.symm.trans e) nofun) fun e => beq_iff_eq.2 e.2⟩, rfl, rfl⟩, by omega⟩, ⟨⟨.inl rfl, rfl, rfl, rfl⟩, ⟨⟨rfl, rfl, rfl, rfl, fun _ => rfl, fun _ _ => .inl rfl⟩, ⟨⟨rfl, rfl, rfl, rfl, fun _ => rfl, fun _ _ => .inl rfl⟩, ⟨⟨rfl, rfl, rfl, rfl, fun _ => rfl, fun _ _ => .inl rfl⟩, ⟨⟨rfl, rfl, rfl, rfl, fun _ => rfl, fun _ _ => .inl rfl⟩, ⟨⟨rfl, rfl, rfl, rfl, fun _ => rfl, fun _ _ => .inl rfl⟩, ⟨⟨rfl, rfl, rfl, rfl, fun _ => rfl, fun _ _ => .inl rfl⟩, trivial⟩⟩⟩⟩⟩⟩, trivial⟩⟩
                                    · conv => whnf
                                      conv => whnf
                                      conv => whnf
                                      conv => whnf
                                      conv => whnf
                                      refine ⟨inK64 (by omega) (by omega), ?_⟩
                                      conv => whnf
                                      conv => whnf
                                      conv => whnf
                                      conv => whnf
                                      conv => whnf
                                      refine ⟨_, _, ⟨⟨b + 1, false, G3, _, _, _, by omega, ex_next hT ⟨nofun, fun h => h.elim (fun e => absurd (w6.symm.trans e) nofun) fun e => absurd (by omega) e.1⟩, rfl, rfl⟩, by omega⟩, ⟨⟨.inl rfl, rfl, rfl, rfl⟩, ⟨⟨rfl, rfl, rfl, rfl, fun _ => rfl, fun _ _ => .inl rfl⟩, ⟨⟨rfl, rfl, rfl, rfl, fun _ => rfl, fun _ _ => .inl rfl⟩, ⟨⟨rfl, rfl, rfl, rfl, fun _ => rfl, fun _ _ => .inl rfl⟩, ⟨⟨rfl, rfl, rfl, rfl, fun _ => rfl, fun _ _ => .inl rfl⟩, ⟨⟨rfl, rfl, rfl, rfl, fun _ => rfl, fun _ _ => .inl rfl⟩, ⟨⟨rfl, rfl, rfl, rfl, fun _ => rfl, fun _ _ => .inl rfl⟩, trivial⟩⟩⟩⟩⟩⟩, trivial⟩⟩
                                · (exfalso; omega)
                              · have hTo := there_eq (T := T) (show T = true ↔ ∃ j, j < now.length ∧ (j ≠ a ∧ now.getD j 0 = (h.rules.getD k rul0).2.1) by rw [show now.length = b by omega]; exact hT)
                                have hWa := hW.at hal hkl
                                clear hT
                                conv => whnf
                                conv => whnf
                                conv => whnf
                                conv => whnf
                                conv => whnf
                                refine ifB_dec (fun w5 => ?_) (fun w5 => ?_)
                                · (exfalso; omega)
                                · conv => whnf
                                  conv => whnf
                                  conv => whnf
                                  conv => whnf
                                  conv => whnf
                                  refine ⟨[], by kernel_rfl, ?_⟩
                                  conv => whnf
                                  conv => whnf
                                  conv => whnf
                                  conv => whnf
                                  conv => whnf
                                  refine ⟨⟨(by omega), (by omega)⟩, ?_⟩
                                  conv => whnf
                                  conv => whnf
                                  conv => whnf
                                  conv => whnf
                                  conv => whnf
                                  refine ifB_beq (fun w6 => ?_) (fun w6 => ?_)
                                  · conv => whnf
                                    conv => whnf
                                    conv => whnf
                                    conv => whnf
                                    conv => whnf
                                    refine ifB_beq (fun w7 => ?_) (fun w7 => ?_)
                                    · conv => whnf
                                      conv => whnf
                                      conv => whnf
                                      conv => whnf
                                      conv => whnf
                                      refine ifB_intro (fun w8 => ?_) (fun w8 => ?_)
                                      · conv => whnf
                                        conv => whnf
                                        conv => whnf
                                        conv => whnf
                                        conv => whnf
                                        refine ⟨?_, nofun⟩
                                        have e := hTo.trans (hWa w6.symm)
                                        rw [w8, w7] at e
                                        exact absurd e (by decide)
                                      · conv => whnf
                                        conv => whnf
                                        conv => whnf
                                        conv => whnf
                                        conv => whnf
                                        refine ifB_beq (fun w9 => ?_) (fun w9 => ?_)
                                        · (exfalso; omega)
                                        · conv => whnf
                                          conv => whnf
                                          conv => whnf
                                          conv => whnf
                                          conv => whnf
                                          refine ⟨inK64 (by omega) (by omega), ?_⟩
                                          conv => whnf
                                          conv => whnf
                                          conv => whnf
                                          conv => whnf
                                          conv => whnf
                                          refine ⟨_, _, ⟨⟨a + 1, G3, _, _, _, by omega, rfl, rfl⟩, by omega⟩, ⟨⟨.inl rfl, rfl, rfl, rfl⟩, ⟨⟨rfl, rfl, rfl, rfl, fun _ => rfl, fun _ _ => .inl rfl⟩, ⟨⟨rfl, rfl, rfl, rfl, fun _ => rfl, fun _ _ => .inl rfl⟩, ⟨⟨rfl, rfl, rfl, rfl, fun _ => rfl, fun _ _ => .inl rfl⟩, ⟨⟨rfl, rfl, rfl, rfl, fun _ => rfl, fun _ _ => .inl rfl⟩, ⟨⟨rfl, rfl, rfl, rfl, fun _ => rfl, fun _ _ => .inl rfl⟩, ⟨⟨rfl, rfl, rfl, rfl, fun _ => rfl, fun _ _ => .inl rfl⟩, trivial⟩⟩⟩⟩⟩⟩, trivial⟩⟩
                                    · conv => whnf
                                      conv => whnf
                                      conv => whnf
                                      conv => whnf
                                      conv => whnf
                                      refine ifB_beq (fun w8 => ?_) (fun w8 => ?_)
                                      · conv => whnf
                                        conv => whnf
                                        conv => whnf
                                        conv => whnf
                                        conv => whnf
                                        refine ifB_not ?_
                                        conv => whnf
                                        conv => whnf
                                        conv => whnf
                                        conv => whnf
                                        conv => whnf
                                        refine ifB_intro (fun w9 => ?_) (fun w9 => ?_)
                                        · conv => whnf
                                          conv => whnf
                                          conv => whnf
                                          conv => whnf
                                          conv => whnf
                                          refine ⟨inK64 (by omega) (by omega), ?_⟩
                                          conv => whnf
                                          conv => whnf
                                          conv => whnf
                                          conv => whnf
                                          conv => whnf
                                          refine ⟨_, _, ⟨⟨a + 1, G3, _, _, _, by omega, rfl, rfl⟩, by omega⟩, ⟨⟨.inl rfl, rfl, rfl, rfl⟩, ⟨⟨rfl, rfl, rfl, rfl, fun _ => rfl, fun _ _ => .inl rfl⟩, ⟨⟨rfl, rfl, rfl, rfl, fun _ => rfl, fun _ _ => .inl rfl⟩, ⟨⟨rfl, rfl, rfl, rfl, fun _ => rfl, fun _ _ => .inl rfl⟩, ⟨⟨rfl, rfl, rfl, rfl, fun _ => rfl, fun _ _ => .inl rfl⟩, ⟨⟨rfl, rfl, rfl, rfl, fun _ => rfl, fun _ _ => .inl rfl⟩, ⟨⟨rfl, rfl, rfl, rfl, fun _ => rfl, fun _ _ => .inl rfl⟩, trivial⟩⟩⟩⟩⟩⟩, trivial⟩⟩
                                        · conv => whnf
                                          conv => whnf
                                          conv => whnf
                                          conv => whnf
                                          conv => whnf
                                          refine ⟨?_, nofun⟩
                                          have e := hTo.trans (hWa w6.symm)
                                          rw [w9, w8] at e
                                          exact absurd e (by decide)
                                      · conv => whnf
                                        conv => whnf
                                        conv => whnf
                                        conv => whnf
                                        conv => whnf
                                        refine ⟨inK64 (by omega) (by omega), ?_⟩
                                        conv => whnf
                                        conv => whnf
                                        conv => whnf
                                        conv => whnf
                                        conv => whnf
                                        refine ⟨_, _, ⟨⟨a + 1, G3, _, _, _, by omega, rfl, rfl⟩, by omega⟩, ⟨⟨.inl rfl, rfl, rfl, rfl⟩, ⟨⟨rfl, rfl, rfl, rfl, fun _ => rfl, fun _ _ => .inl rfl⟩, ⟨⟨rfl, rfl, rfl, rfl, fun _ => rfl, fun _ _ => .inl rfl⟩, ⟨⟨rfl, rfl, rfl, rfl, fun _ => rfl, fun _ _ => .inl rfl⟩, ⟨⟨rfl, rfl, rfl, rfl, fun _ => rfl, fun _ _ => .inl rfl⟩, ⟨⟨rfl, rfl, rfl, rfl, fun _ => rfl, fun _ _ => .inl rfl⟩, ⟨⟨rfl, rfl, rfl, rfl, fun _ => rfl, fun _ _ => .inl rfl⟩, trivial⟩⟩⟩⟩⟩⟩, trivial⟩⟩
                                  · conv => whnf
                                    conv => whnf
                                    conv => whnf
                                    conv => whnf
                                    conv => whnf
                                    refine ⟨inK64 (by omega) (by omega), ?_⟩
                                    conv => whnf
                                    conv => whnf
                                    conv => whnf
                                    conv => whnf
                                    conv => whnf
                                    refine ⟨_, _, ⟨⟨a + 1, G3, _, _, _, by omega, rfl, rfl⟩, by omega⟩, ⟨⟨.inl rfl, rfl, rfl, rfl⟩, ⟨⟨rfl, rfl, rfl, rfl, fun _ => rfl, fun _ _ => .inl rfl⟩, ⟨⟨rfl, rfl, rfl, rfl, fun _ => rfl, fun _ _ => .inl rfl⟩, ⟨⟨rfl, rfl, rfl, rfl, fun _ => rfl, fun _ _ => .inl rfl⟩, ⟨⟨rfl, rfl, rfl, rfl, fun _ => rfl, fun _ _ => .inl rfl⟩, ⟨⟨rfl, rfl, rfl, rfl, fun _ => rfl, fun _ _ => .inl rfl⟩, ⟨⟨rfl, rfl, rfl, rfl, fun _ => rfl, fun _ _ => .inl rfl⟩, trivial⟩⟩⟩⟩⟩⟩, trivial⟩⟩
                            · (exfalso; omega)
                          · conv => whnf
                            conv => whnf
                            conv => whnf
                            conv => whnf
                            refine ifB_dec (fun w4 => ?_) (fun w4 => ?_)
                            · (exfalso; omega)
                            · conv => whnf
                              conv => whnf
                              conv => whnf
                              conv => whnf
                              refine ⟨inK64 (by omega) (by omega), ?_⟩
                              conv => whnf
                              conv => whnf
                              conv => whnf
                              conv => whnf
                              refine ⟨_, _, ⟨⟨k + 1, G3, _, _, _, by omega, rfl, rfl⟩, by omega⟩, ⟨⟨.inl rfl, rfl, rfl, rfl⟩, ⟨⟨rfl, rfl, rfl, rfl, fun _ => rfl, fun _ _ => .inl rfl⟩, ⟨⟨rfl, rfl, rfl, rfl, fun _ => rfl, fun _ _ => .inl rfl⟩, ⟨⟨rfl, rfl, rfl, rfl, fun _ => rfl, fun _ _ => .inl rfl⟩, ⟨⟨rfl, rfl, rfl, rfl, fun _ => rfl, fun _ _ => .inl rfl⟩, ⟨⟨rfl, rfl, rfl, rfl, fun _ => rfl, fun _ _ => .inl rfl⟩, trivial⟩⟩⟩⟩⟩, trivial⟩⟩
                        · (exfalso; omega)
                      · conv => whnf
                        conv => whnf
                        conv => whnf
                        refine ifB_dec (fun w3 => ?_) (fun w3 => ?_)
                        · (exfalso; omega)
                        · conv => whnf
                          conv => whnf
                          conv => whnf
                          refine ⟨inK64 (by omega) (by omega), ?_⟩
                          conv => whnf
                          conv => whnf
                          conv => whnf
                          refine ⟨_, _, ⟨⟨i + 1, now, G3, _, _, by omega, hlen, hon, hW, rfl, rfl⟩, by omega⟩, ⟨⟨.inl rfl, rfl, rfl, rfl⟩, ⟨⟨rfl, rfl, rfl, rfl, fun _ => rfl, fun _ _ => .inl rfl⟩, ⟨⟨rfl, rfl, rfl, rfl, fun _ => rfl, fun _ _ => .inl rfl⟩, ⟨⟨rfl, rfl, rfl, rfl, fun _ => rfl, fun _ _ => .inl rfl⟩, ⟨⟨rfl, rfl, rfl, rfl, fun _ => rfl, fun _ _ => .inl rfl⟩, trivial⟩⟩⟩⟩, trivial⟩⟩
                    · (exfalso; omega)
                · have hE6 : enterE h now x = 6 := by
                    have := hE
                    unfold enterE at this ⊢
                    rw [if_pos hon] at this ⊢
                    split
                    · rename_i h1; rw [if_pos h1] at this; exact absurd rfl this
                    · rfl
                  rw [hE6, if_pos (by decide), ← hxv] at h37
                  conv => whnf
                  conv => whnf
                  refine ifB_dec (fun w2 => ?_) (fun w2 => ?_)
                  · conv => whnf
                    conv => whnf
                    refine ⟨[], by kernel_rfl, ?_⟩
                    conv => whnf
                    conv => whnf
                    refine .inl ⟨_, _, byX rfl (h34), ?_⟩
                    conv => whnf
                    conv => whnf
                    refine .inl ⟨_, _, byX rfl (h36n), ?_⟩
                    conv => whnf
                    conv => whnf
                    refine ⟨⟨(by omega), (by omega)⟩, ?_⟩
                    conv => whnf
                    conv => whnf
                    refine .inl ⟨_, _, byX rfl (Sound1.pl (h37) rfl), ?_⟩
                    conv => whnf
                    conv => whnf
                    refine ⟨[.freeze 9], [2, 3, 9, 10, 13], fun st mq => ∃ (k : Nat) (G3 : Nat → List AV) (F1 : Nat → List AV) (F2 : Nat → List AV) (F4 : Nat → List AV), (k ≤ h.rules.length) ∧ st = ⟨[(2, entsA L), (3, .optr 0 0 0 0), (9, ints now), (10, i64 i), (13, i64 k)], ⟨[⟨2, 1, fun _ => hallC h, 0, false, true, true⟩, ⟨1, l.length, F1, 0, false, true, false⟩, ⟨2, 1, F2, 0, false, true, false⟩, ⟨1, l.length, G3, 0, true, true, false⟩, ⟨1, now.length, F4, 0, false, true, false⟩], [], none, 0⟩, []⟩ ∧ mq = h.rules.length - k,
                      ⟨_, _, ⟨0, _, _, _, _, by omega, rfl, rfl⟩, ⟨⟨.inl rfl, rfl, rfl, rfl⟩, ⟨⟨rfl, rfl, rfl, rfl, fun _ => rfl, fun _ _ => .inl rfl⟩, ⟨⟨rfl, rfl, rfl, rfl, fun _ => rfl, fun _ _ => .inl rfl⟩, ⟨⟨rfl, rfl, rfl, rfl, fun _ => rfl, fun _ _ => .inl rfl⟩, ⟨⟨rfl, rfl, rfl, rfl, fun _ => rfl, fun _ _ => .inl rfl⟩, ⟨⟨rfl, rfl, rfl, rfl, fun _ => rfl, fun _ _ => .inl rfl⟩, trivial⟩⟩⟩⟩⟩, trivial⟩⟩, ?_⟩
                    rintro s0 m0 ⟨k, G3, F1, F2, F4, hk, rfl, hmeas⟩
                    by_cases hkl : k < h.rules.length
                    · conv => whnf
                      conv => whnf
                      conv => whnf
                      refine ifB_dec (fun w3 => ?_) (fun w3 => ?_)
                      · conv => whnf
                        conv => whnf
                        conv => whnf
                        refine ⟨⟨(by omega), (by omega)⟩, ?_⟩
                        conv => whnf
                        conv => whnf
                        conv => whnf
                        refine ⟨[], [2, 3, 9, 10, 13, 14, 15], fun st mq => ∃ (a : Nat) (G3 : Nat → List AV) (F1 : Nat → List AV) (F2 : Nat → List AV) (F4 : Nat → List AV), (a ≤ now.length) ∧ st = ⟨[(2, entsA L), (3, .optr 0 0 0 0), (9, ints now), (10, i64 i), (13, i64 k), (14, .optr 5 0 0 0), (15, i64 a)], ⟨[⟨2, 1, fun _ => hallC h, 0, false, true, true⟩, ⟨1, l.length, F1, 0, false, true, false⟩, ⟨2, 1, F2, 0, false, true, false⟩, ⟨1, l.length, G3, 0, true, true, false⟩, ⟨1, now.length, F4, 0, false, true, false⟩, ⟨3, 1, fun _ => rulC (h.rules.getD k rul0), 0, false, true, true⟩], [], none, 0⟩, []⟩ ∧ mq = now.length - a,
                          ⟨_, _, ⟨0, _, _, _, _, by omega, rfl, rfl⟩, ⟨⟨.inl rfl, rfl, rfl, rfl⟩, ⟨⟨rfl, rfl, rfl, rfl, fun _ => rfl, fun _ _ => .inl rfl⟩, ⟨⟨rfl, rfl, rfl, rfl, fun _ => rfl, fun _ _ => .inl rfl⟩, ⟨⟨rfl, rfl, rfl, rfl, fun _ => rfl, fun _ _ => .inl rfl⟩, ⟨⟨rfl, rfl, rfl, rfl, fun _ => rfl, fun _ _ => .inl rfl⟩, ⟨⟨rfl, rfl, rfl, rfl, fun _ => rfl, fun _ _ => .inl rfl⟩, ⟨⟨rfl, rfl, rfl, rfl, fun _ => rfl, fun _ _ => .inl rfl⟩, trivial⟩⟩⟩⟩⟩⟩, trivial⟩⟩, ?_⟩
                        rintro s0 m0 ⟨a, G3, F1, F2, F4, ha, rfl, hmeas⟩
                        by_cases hal : a < now.length
                        · conv => whnf
                          conv => whnf
                          conv => whnf
                          conv => whnf
                          refine ifB_dec (fun w4 => ?_) (fun w4 => ?_)
                          · conv => whnf
                            conv => whnf
                            conv => whnf
                            conv => whnf
                            refine ⟨[], [2, 3, 9, 10, 13, 14, 15, 16, 17], fun st mq => ∃ (b : Nat) (T : Bool) (G3 : Nat → List AV) (F1 : Nat → List AV) (F2 : Nat → List AV) (F4 : Nat → List AV), (b ≤ now.length) ∧ (T = true ↔ ∃ j, j < b ∧ (j ≠ a ∧ now.getD j 0 = (h.rules.getD k rul0).2.1)) ∧ st = ⟨[(2, entsA L), (3, .optr 0 0 0 0), (9, ints now), (10, i64 i), (13, i64 k), (14, .optr 5 0 0 0), (15, i64 a), (16, vb T), (17, i64 b)], ⟨[⟨2, 1, fun _ => hallC h, 0, false, true, true⟩, ⟨1, l.length, F1, 0, false, true, false⟩, ⟨2, 1, F2, 0, false, true, false⟩, ⟨1, l.length, G3, 0, true, true, false⟩, ⟨1, now.length, F4, 0, false, true, false⟩, ⟨3, 1, fun _ => rulC (h.rules.getD k rul0), 0, false, true, true⟩], [], none, 0⟩, []⟩ ∧ mq = now.length - b,
                              ⟨_, _, ⟨0, false, _, _, _, _, by omega, ex_none, rfl, rfl⟩, ⟨⟨.inl rfl, rfl, rfl, rfl⟩, ⟨⟨rfl, rfl, rfl, rfl, fun _ => rfl, fun _ _ => .inl rfl⟩, ⟨⟨rfl, rfl, rfl, rfl, fun _ => rfl, fun _ _ => .inl rfl⟩, ⟨⟨rfl, rfl, rfl, rfl, fun _ => rfl, fun _ _ => .inl rfl⟩, ⟨⟨rfl, rfl, rfl, rfl, fun _ => rfl, fun _ _ => .inl rfl⟩, ⟨⟨rfl, rfl, rfl, rfl, fun _ => rfl, fun _ _ => .inl rfl⟩, ⟨⟨rfl, rfl, rfl, rfl, fun _ => rfl, fun _ _ => .inl rfl⟩, trivial⟩⟩⟩⟩⟩⟩, trivial⟩⟩, ?_⟩
                            rintro s0 m0 ⟨b, T, G3, F1, F2, F4, hb2, hT, rfl, hmeas⟩
                            by_cases hbl : b < now.length
                            · conv => whnf
                              conv => whnf
                              conv => whnf
                              conv => whnf
                              conv => whnf
                              refine ifB_dec (fun w5 => ?_) (fun w5 => ?_)
                              · conv => whnf
                                conv => whnf
                                conv => whnf
                                conv => whnf
                                conv => whnf
                                refine ⟨[], by kernel_rfl, ?_⟩
                                conv => whnf
                                conv => whnf
                                conv => whnf
                                conv => whnf
                                conv => whnf
                                refine ifB_intro (fun w6 => ?_) (fun w6 => ?_)
                                · conv => whnf
                                  conv => whnf
                                  conv => whnf
                                  conv => whnf
                                  conv => whnf
                                  refine ⟨inK64 (by omega) (by omega), ?_⟩
                                  conv => whnf
                                  conv => whnf
                                  conv => whnf
                                  conv => whnf
                                  conv => whnf
                                  refine ⟨_, _, ⟨⟨b + 1, true, G3, _, _, _, by omega, ex_next hT ⟨fun _ => .inl w6, fun _ => rfl⟩, rfl, rfl⟩, by omega⟩, ⟨⟨.inl rfl, rfl, rfl, rfl⟩, ⟨⟨rfl, rfl, rfl, rfl, fun _ => rfl, fun _ _ => .inl rfl⟩, ⟨⟨rfl, rfl, rfl, rfl, fun _ => rfl, fun _ _ => .inl rfl⟩, ⟨⟨rfl, rfl, rfl, rfl, fun _ => rfl, fun _ _ => .inl rfl⟩, ⟨⟨rfl, rfl, rfl, rfl, fun _ => rfl, fun _ _ => .inl rfl⟩, ⟨⟨rfl, rfl, rfl, rfl, fun _ => rfl, fun _ _ => .inl rfl⟩, ⟨⟨rfl, rfl, rfl, rfl, fun _ => rfl, fun _ _ => .inl rfl⟩, trivial⟩⟩⟩⟩⟩⟩, trivial⟩⟩
                                · conv => whnf
                                  conv => whnf
                                  conv => whnf
                                  conv => whnf
                                  conv => whnf
                                  refine ifB_bne (fun w7 => ?_) (fun w7 => ?_)
                                  · conv => whnf
                                    conv => whnf
                                    conv => whnf
                                    conv => whnf
                                    conv => whnf
                                    refine ⟨⟨(by omega), (by omega)⟩, ?_⟩
                                    conv => whnf
                                    conv => whnf
                                    conv => whnf
                                    conv => whnf
                                    conv => whnf
                                    refine ⟨inK64 (by omega) (by omega), ?_⟩
                                    conv => whnf
                                    conv => whnf
                                    conv => whnf
                                    conv => whnf
                                    conv => whnf
                                    refine ⟨_, _, ⟨⟨b + 1, (now.getD b 0 == (h.rules.getD k rul0).2.1), G3, _, _, _, by omega, ex_next hT ⟨fun h => .inr ⟨by omega, eq_of_beq h⟩, fun h => h.elim (fun e => absurd (w6.symm.trans e) nofun) fun e => beq_iff_eq.2 e.2⟩, rfl, rfl⟩, by omega⟩, ⟨⟨.inl rfl, rfl, rfl, rfl⟩, ⟨⟨rfl, rfl, rfl, rfl, fun _ => rfl, fun _ _ => .inl rfl⟩, ⟨⟨rfl, rfl, rfl, rfl, fun _ => rfl, fun _ _ => .inl rfl⟩, ⟨⟨rfl, rfl, rfl, rfl, fun _ => rfl, fun _ _ => .inl rfl⟩, ⟨⟨rfl, rfl, rfl, rfl, fun _ => rfl, fun _ _ => .inl rfl⟩, ⟨⟨rfl, rfl, rfl, rfl, fun _ => rfl, fun _ _ => .inl rfl⟩, ⟨⟨rfl, rfl, rfl, rfl, fun _ => rfl, fun _ _ => .inl rfl⟩, trivial⟩⟩⟩⟩⟩⟩, trivial⟩⟩
                                  · conv => whnf
                                    conv => whnf
                                    conv => whnf
                                    conv => whnf
                                    conv => whnf
                                    refine ⟨inK64 (by omega) (by omega), ?_⟩
                                    conv => whnf
                                    conv => whnf
                                    conv => whnf
                                    conv => whnf
                                    conv => whnf
                                    refine ⟨_, _, ⟨⟨b + 1, false, G3, _, _, _, by omega, ex_next hT ⟨nofun, fun h => h.elim (fun e => absurd (w6.symm.trans e) nofun) fun e => absurd (by omega) e.1⟩, rfl, rfl⟩, by omega⟩, ⟨⟨.inl rfl, rfl, rfl, rfl⟩, ⟨⟨rfl, rfl, rfl, rfl, fun _ => rfl, fun _ _ => .inl rfl⟩, ⟨⟨rfl, rfl, rfl, rfl, fun _ => rfl, fun _ _ => .inl rfl⟩, ⟨⟨rfl, rfl, rfl, rfl, fun _ => rfl, fun _ _ => .inl rfl⟩, ⟨⟨rfl, rfl, rfl, rfl, fun _ => rfl, fun _ _ => .inl rfl⟩, ⟨⟨rfl, rfl, rfl, rfl, fun _ => rfl, fun _ _ => .inl rfl⟩, ⟨⟨rfl, rfl, rfl, rfl, fun _ => rfl, fun _ _ => .inl rfl⟩, trivial⟩⟩⟩⟩⟩⟩, trivial⟩⟩
                              · (exfalso; omega)
                            · have hTo := there_eq (T := T) (show T = true ↔ ∃ j, j < now.length ∧ (j ≠ a ∧ now.getD j 0 = (h.rules.getD k rul0).2.1) by rw [show now.length = b by omega]; exact hT)
                              have hWa := hW.at hal hkl
                              clear hT
                              conv => whnf
                              conv => whnf
                              conv => whnf
                              conv => whnf
                              conv => whnf
                              refine ifB_dec (fun w5 => ?_) (fun w5 => ?_)
                              · (exfalso; omega)
                              · conv => whnf
                                conv => whnf
                                conv => whnf
                                conv => whnf
                                conv => whnf
                                refine ⟨[], by kernel_rfl, ?_⟩
                                conv => whnf
                                conv => whnf
                                conv => whnf
                                conv => whnf
                                conv => whnf
                                refine ⟨⟨(by omega), (by omega)⟩, ?_⟩
                                conv => whnf
                                conv => whnf
                                conv => whnf
                                conv => whnf
                                conv => whnf
                                refine ifB_beq (fun w6 => ?_) (fun w6 => ?_)
                                · conv => whnf
                                  conv => whnf
                                  conv => whnf
                                  conv => whnf
                                  conv => whnf
                                  refine ifB_beq (fun w7 => ?_) (fun w7 => ?_)
                                  · conv => whnf
                                    conv => whnf
                                    conv => whnf
                                    conv => whnf
                                    conv => whnf
                                    refine ifB_intro (fun w8 => ?_) (fun w8 => ?_)
                                    · conv => whnf
                                      conv => whnf
                                      conv => whnf
                                      conv => whnf
                                      conv => whnf
                                      refine ⟨?_, nofun⟩
                                      have e := hTo.trans (hWa w6.symm)
                                      rw [w8, w7] at e
                                      exact absurd e (by decide)
                                    · conv => whnf
                                      conv => whnf
                                      conv => whnf
                                      conv => whnf
                                      conv => whnf
                                      refine ifB_beq (fun w9 => ?_) (fun w9 => ?_)
                                      · (exfalso; omega)
                                      · conv => whnf
                                        conv => whnf
                                        conv => whnf
                                        conv => whnf
                                        conv => whnf
                                        refine ⟨inK64 (by omega) (by omega), ?_⟩
                                        conv => whnf
                                        conv => whnf
                                        conv => whnf
                                        conv => whnf
                                        conv => whnf
                                        refine ⟨_, _, ⟨⟨a + 1, G3, _, _, _, by omega, rfl, rfl⟩, by omega⟩, ⟨⟨.inl rfl, rfl, rfl, rfl⟩, ⟨⟨rfl, rfl, rfl, rfl, fun _ => rfl, fun _ _ => .inl rfl⟩, ⟨⟨rfl, rfl, rfl, rfl, fun _ => rfl, fun _ _ => .inl rfl⟩, ⟨⟨rfl, rfl, rfl, rfl, fun _ => rfl, fun _ _ => .inl rfl⟩, ⟨⟨rfl, rfl, rfl, rfl, fun _ => rfl, fun _ _ => .inl rfl⟩, ⟨⟨rfl, rfl, rfl, rfl, fun _ => rfl, fun _ _ => .inl rfl⟩, ⟨⟨rfl, rfl, rfl, rfl, fun _ => rfl, fun _ _ => .inl rfl⟩, trivial⟩⟩⟩⟩⟩⟩, trivial⟩⟩
                                  · conv => whnf
                                    conv => whnf
                                    conv => whnf
                                    conv => whnf
                                    conv => whnf
                                    refine ifB_beq (fun w8 => ?_) (fun w8 => ?_)
                                    · conv => whnf
                                      conv => whnf
                                      conv => whnf
                                      conv => whnf
                                      conv => whnf
                                      refine ifB_not ?_
                                      conv => whnf
                                      conv => whnf
                                      conv => whnf
                                      conv => whnf
                                      conv => whnf
                                      refine ifB_intro (fun w9 => ?_) (fun w9 => ?_)
                                      · conv => whnf
                                        conv => whnf
                                        conv => whnf
                                        conv => whnf
                                        conv => whnf
                                        refine ⟨inK64 (by omega) (by omega), ?_⟩
                                        conv => whnf
                                        conv => whnf
                                        conv => whnf
                                        conv => whnf
                                        conv => whnf
                                        refine ⟨_, _, ⟨⟨a + 1, G3, _, _, _, by omega, rfl, rfl⟩, by omega⟩, ⟨⟨.inl rfl, rfl, rfl, rfl⟩, ⟨⟨rfl, rfl, rfl, rfl, fun _ => rfl, fun _ _ => .inl rfl⟩, ⟨⟨rfl, rfl, rfl, rfl, fun _ => rfl, fun _ _ => .inl rfl⟩, ⟨⟨rfl, rfl, rfl, rfl, fun _ => rfl, fun _ _ => .inl rfl⟩, ⟨⟨rfl, rfl, rfl, rfl, fun _ => rfl, fun _ _ => .inl rfl⟩, ⟨⟨rfl, rfl, rfl, rfl, fun _ => rfl, fun _ _ => .inl rfl⟩, ⟨⟨rfl, rfl, rfl, rfl, fun _ => rfl, fun _ _ => .inl rfl⟩, trivial⟩⟩⟩⟩⟩⟩, trivial⟩⟩
                                      · conv => whnf
                                        conv => whnf
                                        conv => whnf
                                        conv => whnf
                                        conv => whnf
                                        refine ⟨?_, nofun⟩
                                        have e := hTo.trans (hWa w6.symm)
                                        rw [w9, w8] at e
                                        exact absurd e (by decide)
                                    · conv => whnf
                                      conv => whnf
                                      conv => whnf
                                      conv => whnf
                                      conv => whnf
                                      refine ⟨inK64 (by omega) (by omega), ?_⟩
                                      conv => whnf
                                      conv => whnf
                                      conv => whnf
                                      conv => whnf
                                      conv => whnf
                                      refine ⟨_, _, ⟨⟨a + 1, G3, _, _, _, by omega, rfl, rfl⟩, by omega⟩, ⟨⟨.inl rfl, rfl, rfl, rfl⟩, ⟨⟨rfl, rfl, rfl, rfl, fun _ => rfl, fun _ _ => .inl rfl⟩, ⟨⟨rfl, rfl, rfl, rfl, fun _ => rfl, fun _ _ => .inl rfl⟩, ⟨⟨rfl, rfl, rfl, rfl, fun _ => rfl, fun _ _ => .inl rfl⟩, ⟨⟨rfl, rfl, rfl, rfl, fun _ => rfl, fun _ _ => .inl rfl⟩, ⟨⟨rfl, rfl, rfl, rfl, fun _ => rfl, fun _ _ => .inl rfl⟩, ⟨⟨rfl, rfl, rfl, rfl, fun _ => rfl, fun _ _ => .inl rfl⟩, trivial⟩⟩⟩⟩⟩⟩, trivial⟩⟩
                                · conv => whnf
                                  conv => whnf
                                  conv => whnf
                                  conv => whnf
                                  conv => whnf
                                  refine ⟨inK64 (by omega) (by omega), ?_⟩
                                  conv => whnf
                                  conv => whnf
                                  conv => whnf
                                  conv => whnf
                                  conv => whnf
                                  refine ⟨_, _, ⟨⟨a + 1, G3, _, _, _, by omega, rfl, rfl⟩, by omega⟩, ⟨⟨.inl rfl, rfl, rfl, rfl⟩, ⟨⟨rfl, rfl, rfl, rfl, fun _ => rfl, fun _ _ => .inl rfl⟩, ⟨⟨rfl, rfl, rfl, rfl, fun _ => rfl, fun _ _ => .inl rfl⟩, ⟨⟨rfl, rfl, rfl, rfl, fun _ => rfl, fun _ _ => .inl rfl⟩, ⟨⟨rfl, rfl, rfl, rfl, fun _ => rfl, fun _ _ => .inl rfl⟩, ⟨⟨rfl, rfl, rfl, rfl, fun _ => rfl, fun _ _ => .inl rfl⟩, ⟨⟨rfl, rfl, rfl, rfl, fun _ => rfl, fun _ _ => .inl rfl⟩, trivial⟩⟩⟩⟩⟩⟩, trivial⟩⟩
                          · (exfalso; omega)
                        · conv => whnf
                          conv => whnf
                          conv => whnf
                          conv => whnf
                          refine ifB_dec (fun w4 => ?_) (fun w4 => ?_)
                          · (exfalso; omega)
                          · conv => whnf
                            conv => whnf
                            conv => whnf
                            conv => whnf
                            refine ⟨inK64 (by omega) (by omega), ?_⟩
                            conv => whnf
                            conv => whnf
                            conv => whnf
                            conv => whnf
                            refine ⟨_, _, ⟨⟨k + 1, G3, _, _, _, by omega, rfl, rfl⟩, by omega⟩, ⟨⟨.inl rfl, rfl, rfl, rfl⟩, ⟨⟨rfl, rfl, rfl, rfl, fun _ => rfl, fun _ _ => .inl rfl⟩, ⟨⟨rfl, rfl, rfl, rfl, fun _ => rfl, fun _ _ => .inl rfl⟩, ⟨⟨rfl, rfl, rfl, rfl, fun _ => rfl, fun _ _ => .inl rfl⟩, ⟨⟨rfl, rfl, rfl, rfl, fun _ => rfl, fun _ _ => .inl rfl⟩, ⟨⟨rfl, rfl, rfl, rfl, fun _ => rfl, fun _ _ => .inl rfl⟩, trivial⟩⟩⟩⟩⟩, trivial⟩⟩
                      · (exfalso; omega)
                    · conv => whnf
                      conv => whnf
                      conv => whnf
                      refine ifB_dec (fun w3 => ?_) (fun w3 => ?_)
                      · (exfalso; omega)
                      · conv => whnf
                        conv => whnf
                        conv => whnf
                        refine ⟨inK64 (by omega) (by omega), ?_⟩
                        conv => whnf
                        conv => whnf
                        conv => whnf
                        refine ⟨_, _, ⟨⟨i + 1, now, G3, _, _, by omega, hlen, hon, hW, rfl, rfl⟩, by omega⟩, ⟨⟨.inl rfl, rfl, rfl, rfl⟩, ⟨⟨rfl, rfl, rfl, rfl, fun _ => rfl, fun _ _ => .inl rfl⟩, ⟨⟨rfl, rfl, rfl, rfl, fun _ => rfl, fun _ _ => .inl rfl⟩, ⟨⟨rfl, rfl, rfl, rfl, fun _ => rfl, fun _ _ => .inl rfl⟩, ⟨⟨rfl, rfl, rfl, rfl, fun _ => rfl, fun _ _ => .inl rfl⟩, trivial⟩⟩⟩⟩, trivial⟩⟩
                  · (exfalso; omega)
              · conv => whnf
                conv => whnf
                refine ifB_dec (fun w2 => ?_) (fun w2 => ?_)
                · (exfalso; omega)
                · conv => whnf
                  conv => whnf
                  refine ⟨?_, nofun⟩
                  (rfl)
          | some y =>
            rw [hb] at h35
            refine sound (d := 2) tok2 mixed2 Tryd.func7 (by kernel_rfl) (by kernel_rfl) ?_
            conv => whnf
            refine .inl ⟨_, _, byX rfl (Sound1.pl (S13) rfl), ?_⟩
            conv => whnf
            refine .inl ⟨_, _, byX rfl (Sound1.pl (h32) rfl), ?_⟩
            conv => whnf
            refine .inl ⟨_, _, byX rfl (Sound1.pl (h43) rfl), ?_⟩
            conv => whnf
            refine .inl ⟨_, _, byX rfl (Sound1.pl (h39) rfl), ?_⟩
            conv => whnf
            refine ifB_dec (fun w1 => ?_) (fun w1 => ?_)
            · (exfalso; omega)
            · conv => whnf
              refine .inl ⟨_, _, byX rfl (h34), ?_⟩
              conv => whnf
              refine .inl ⟨_, _, byX rfl (h36), ?_⟩
              conv => whnf
              refine .inl ⟨_, _, byX rfl (Sound1.pl (h35) rfl), ?_⟩
              conv => whnf
              refine ⟨?_, nofun⟩
              (rfl)
        · refine sound (d := 2) tok2 mixed2 Tryd.func7 (by kernel_rfl) (by kernel_rfl) ?_
          conv => whnf
          refine .inl ⟨_, _, byX rfl (Sound1.pl (S13) rfl), ?_⟩
          conv => whnf
          refine .inl ⟨_, _, byX rfl (Sound1.pl (h32) rfl), ?_⟩
          conv => whnf
          refine .inl ⟨_, _, byX rfl (Sound1.pl (h43) rfl), ?_⟩
          conv => whnf
          refine .inl ⟨_, _, byX rfl (Sound1.pl (h39) rfl), ?_⟩
          conv => whnf
          refine ifB_dec (fun w1 => ?_) (fun w1 => ?_)
          · conv => whnf
            refine ⟨?_, nofun⟩
            (rfl)
          · (exfalso; omega)
      · refine sound (d := 2) tok2 mixed2 Tryd.func7 (by kernel_rfl) (by kernel_rfl) ?_
        conv => whnf
        refine .inl ⟨_, _, byX rfl (Sound1.pl (S13) rfl), ?_⟩
        conv => whnf
        refine .inl ⟨_, _, byX rfl (Sound1.pl (h32) rfl), ?_⟩
        conv => whnf
        refine .inl ⟨_, _, byX rfl (Sound1.pl (h43) rfl), ?_⟩
        conv => whnf
        refine .inl ⟨_, _, byX rfl (Sound1.pl (h39) rfl), ?_⟩
        conv => whnf
        refine ifB_bne (fun w1 => ?_) (fun w1 => ?_)
        · conv => whnf
          refine ⟨?_, nofun⟩
          (rfl)
        · (exfalso; omega)
    · refine sound (d := 2) tok2 mixed2 Tryd.func7 (by kernel_rfl) (by kernel_rfl) ?_
      conv => whnf
      refine .inl ⟨_, _, byX rfl (Sound1.pl (S13) rfl), ?_⟩
      conv => whnf
      refine .inl ⟨_, _, byX rfl (Sound1.pl (h32) rfl), ?_⟩
      conv => whnf
      refine .inl ⟨_, _, byX rfl (Sound1.pl (h43) rfl), ?_⟩
      conv => whnf
      refine ifB_bne (fun w1 => ?_) (fun w1 => ?_)
      · conv => whnf
        refine ⟨?_, nofun⟩
        (rfl)
      · (exfalso; omega)
end Go.Tr

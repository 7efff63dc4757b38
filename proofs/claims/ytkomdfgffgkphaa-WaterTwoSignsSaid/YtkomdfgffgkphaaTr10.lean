/- The law WaterReaches returns true. Conditions: none. -/
import Derived.Test.YtkomdfgffgkphaaTr07
import Derived.Test.YtkomdfgffgkphaaTr09
import Derived.Test.YtkomdfgffgkphaaRows
import Derived.Test.YtkomdfgffgkphaaTr05
import Derived.ProofKit

namespace Go.Tr
open Go Go.Proofs
set_option maxRecDepth 20000
set_option maxHeartbeats 8000000

theorem S29ex (N : Net) (hN : N.In) (k : Int) : ∃ L E, SP 29 [netV N, i64 k] (.tuple [ints L, i64 E]) false ∧
    (netE N ≠ 0 ∧ E = netE N ∧ L = [] ∨ netE N = 0 ∧ ndE N k ≠ 0 ∧ E = ndE N k ∧ L = [] ∨ netE N = 0 ∧ ndE N k = 0 ∧ E = 0 ∧ L = whereF 0 (reachB N k)) := by
  refine ⟨_, _, S29 N hN k, ?_⟩
  rw [firstOf2]
  by_cases h1 : netE N = 0
  · rw [if_pos h1]
    by_cases h2 : ndE N k = 0
    · rw [if_pos h2, if_pos rfl]; exact .inr (.inr ⟨h1, h2, rfl, rfl⟩)
    · rw [if_neg h2, if_neg h2]; exact .inr (.inl ⟨h1, h2, rfl, rfl⟩)
  · rw [if_neg h1, if_neg h1]; exact .inl ⟨h1, rfl, rfl⟩
theorem S30ex (N : Net) (hN : N.In) : ∃ L, SP 30 [netV N] (.tuple [ints L, i64 (netE N)]) false ∧ (netE N ≠ 0 ∧ L = [] ∨ netE N = 0 ∧ L = whereF 0 (wetB N)) := by
  refine ⟨_, S30 N hN, ?_⟩
  by_cases h1 : netE N = 0
  · rw [if_pos h1]; exact .inr ⟨h1, rfl⟩
  · rw [if_neg h1]; exact .inl ⟨h1, rfl⟩
theorem S31ex (N : Net) (hN : N.In) (k : Int) : ∃ L E, SP 31 [netV N, i64 k] (.tuple [ints L, i64 E]) false ∧
    (netE N ≠ 0 ∧ E = netE N ∧ L = [] ∨ netE N = 0 ∧ ¬ (0 ≤ k ∧ k ≤ (N.cs.length : Int) - 1) ∧ E = 6 ∧ L = [] ∨
      netE N = 0 ∧ (0 ≤ k ∧ k ≤ (N.cs.length : Int) - 1) ∧ (N.cs.getD k.toNat cn0).valve = false ∧ E = 12 ∧ L = [] ∨
      netE N = 0 ∧ (0 ≤ k ∧ k ≤ (N.cs.length : Int) - 1) ∧ (N.cs.getD k.toNat cn0).valve = true ∧ E = 0 ∧ L = whereF 0 (fillB N k.toNat)) := by
  refine ⟨_, _, S31 N hN k, ?_⟩
  unfold fillE
  rw [firstOf2]
  by_cases h1 : netE N = 0
  · rw [if_pos h1]
    unfold conN
    by_cases h2 : 0 ≤ k ∧ k ≤ (N.cs.length : Int) - 1
    · have e : (if decide (0 ≤ k ∧ k ≤ (N.cs.length : Int) - 1) = true then (0 : Int) else 6) = 0 := if_pos (decide_eq_true h2)
      rw [e]
      cases hv : (N.cs.getD k.toNat cn0).valve with
      | true => exact .inr (.inr (.inr ⟨h1, h2, rfl, rfl, rfl⟩))
      | false => exact .inr (.inr (.inl ⟨h1, h2, rfl, rfl, rfl⟩))
    · have e : (if decide (0 ≤ k ∧ k ≤ (N.cs.length : Int) - 1) = true then (0 : Int) else 6) = 6 := if_neg (by simpa using h2)
      rw [e]
      exact .inr (.inl ⟨h1, h2, rfl, rfl⟩)
  · rw [if_neg h1, if_neg h1, if_neg h1]; exact .inl ⟨h1, rfl, rfl⟩

set_option maxHeartbeats 0 in
theorem S5 (N : Net) (hN : N.In) (k c : Int) : SP 5 [netV N, i64 k, i64 c] (vb true) false := by
  have hn := hN.nl
  cases hf : fewB N with
  | false =>
    have h15 := S15 N hN
    rw [hf] at h15
    refine sound (d := 2) tok2 mixed2 Try.func5 (by kernel_rfl) (by kernel_rfl) ?_
    conv => whnf
    refine .inl ⟨_, _, byX rfl (Sound1.pl (S14) rfl), ?_⟩
    conv => whnf
    refine .inl ⟨_, _, byX rfl (Sound1.pl (h15) rfl), ?_⟩
    conv => whnf
    refine ⟨?_, nofun⟩
    (rfl)
  | true =>
    obtain ⟨b1, b2⟩ := few_bounds hf
    obtain ⟨L1, E1, h29, q1⟩ := S29ex N hN k
    obtain ⟨L2, h30, q2⟩ := S30ex N hN
    obtain ⟨L3, E3, h31, q3⟩ := S31ex N hN c
    have h15 := S15 N hN
    rw [hf] at h15
    have h17 := S17 N (by omega) (by omega)
    have h32 := S32 N hN
    have h33 := S33 N hn k
    by_cases hE : netE N = 0
    · have hok := net_ok hE
      replace q2 : L2 = whereF 0 (wetB N) := by
        rcases q2 with ⟨e, _⟩ | ⟨_, e⟩
        · exact absurd hE e
        · exact e
      subst q2
      have l2 := whereF_len (wetB N) 0
      rw [wetB_len] at l2
      have h36 := S36 N (by omega) (by omega) hok.ends
      have h34b := S34 (whereF 0 (wetB N)) (whereF 0 (wetB N)) (by omega) (by omega)
      rcases q1 with ⟨e, _⟩ | ⟨_, e1, e2, rfl⟩ | ⟨_, e1, e2, rfl⟩
      · exact absurd hE e
      · rcases q3 with ⟨e, _⟩ | ⟨_, f1, f2, rfl⟩ | ⟨_, f1, f2, f3, rfl⟩ | ⟨_, f1, f2, f3, rfl⟩
        · exact absurd hE e
        · refine sound (d := 2) tok2 mixed2 Try.func5 (by kernel_rfl) (by kernel_rfl) ?_
          conv => whnf
          refine .inl ⟨_, _, byX rfl (Sound1.pl (S14) rfl), ?_⟩
          conv => whnf
          refine .inl ⟨_, _, byX rfl (Sound1.pl (h15) rfl), ?_⟩
          conv => whnf
          refine .inl ⟨_, _, byX rfl (h17), ?_⟩
          conv => whnf
          refine .inl ⟨_, _, byX rfl (h29), ?_⟩
          conv => whnf
          refine .inl ⟨_, _, byX rfl (h17), ?_⟩
          conv => whnf
          refine .inl ⟨_, _, byX rfl (h30), ?_⟩
          conv => whnf
          refine .inl ⟨_, _, byX rfl (h17), ?_⟩
          conv => whnf
          refine .inl ⟨_, _, byX rfl (h31), ?_⟩
          conv => whnf
          refine .inl ⟨_, _, byX rfl (Sound1.pl (h32) rfl), ?_⟩
          conv => whnf
          refine ifB_bne (fun w1 => ?_) (fun w1 => ?_)
          · (exfalso; omega)
          · conv => whnf
            refine .inl ⟨_, _, byX rfl (Sound1.pl (h33) rfl), ?_⟩
            conv => whnf
            refine ifB_bne (fun w2 => ?_) (fun w2 => ?_)
            · conv => whnf
              refine ifB_bne (fun w3 => ?_) (fun w3 => ?_)
              · (exfalso; omega)
              · conv => whnf
                refine ifB_beq (fun w4 => ?_) (fun w4 => ?_)
                · (exfalso; omega)
                · conv => whnf
                  refine ifB_bne (fun w5 => ?_) (fun w5 => ?_)
                  · (exfalso; omega)
                  · conv => whnf
                    refine .inl ⟨_, _, byX rfl (h36), ?_⟩
                    conv => whnf
                    refine .inl ⟨_, _, byX rfl (Sound1.pl (h34b) rfl), ?_⟩
                    conv => whnf
                    refine ifB_not ?_
                    conv => whnf
                    refine ifB_dec (fun w6 => ?_) (fun w6 => ?_)
                    · conv => whnf
                      refine ⟨inK64 (by omega) (by omega), ?_⟩
                      conv => whnf
                      refine .inl ⟨_, _, byX rfl (Sound1.pl (S20 _ _ _) rfl), ?_⟩
                      conv => whnf
                      refine ifB_not ?_
                      conv => whnf
                      refine ifB_dec (fun w7 => ?_) (fun w7 => ?_)
                      · (exfalso; omega)
                      · conv => whnf
                        refine ifB_beq (fun w8 => ?_) (fun w8 => ?_)
                        · conv => whnf
                          refine ⟨?_, nofun⟩
                          (rfl)
                        · (exfalso; omega)
                    · exact absurd rfl w6
            · (exfalso; omega)
        · refine sound (d := 2) tok2 mixed2 Try.func5 (by kernel_rfl) (by kernel_rfl) ?_
          conv => whnf
          refine .inl ⟨_, _, byX rfl (Sound1.pl (S14) rfl), ?_⟩
          conv => whnf
          refine .inl ⟨_, _, byX rfl (Sound1.pl (h15) rfl), ?_⟩
          conv => whnf
          refine .inl ⟨_, _, byX rfl (h17), ?_⟩
          conv => whnf
          refine .inl ⟨_, _, byX rfl (h29), ?_⟩
          conv => whnf
          refine .inl ⟨_, _, byX rfl (h17), ?_⟩
          conv => whnf
          refine .inl ⟨_, _, byX rfl (h30), ?_⟩
          conv => whnf
          refine .inl ⟨_, _, byX rfl (h17), ?_⟩
          conv => whnf
          refine .inl ⟨_, _, byX rfl (h31), ?_⟩
          conv => whnf
          refine .inl ⟨_, _, byX rfl (Sound1.pl (h32) rfl), ?_⟩
          conv => whnf
          refine ifB_bne (fun w1 => ?_) (fun w1 => ?_)
          · (exfalso; omega)
          · conv => whnf
            refine .inl ⟨_, _, byX rfl (Sound1.pl (h33) rfl), ?_⟩
            conv => whnf
            refine ifB_bne (fun w2 => ?_) (fun w2 => ?_)
            · conv => whnf
              refine ifB_bne (fun w3 => ?_) (fun w3 => ?_)
              · (exfalso; omega)
              · conv => whnf
                refine ifB_beq (fun w4 => ?_) (fun w4 => ?_)
                · (exfalso; omega)
                · conv => whnf
                  refine ifB_bne (fun w5 => ?_) (fun w5 => ?_)
                  · (exfalso; omega)
                  · conv => whnf
                    refine .inl ⟨_, _, byX rfl (h36), ?_⟩
                    conv => whnf
                    refine .inl ⟨_, _, byX rfl (Sound1.pl (h34b) rfl), ?_⟩
                    conv => whnf
                    refine ifB_not ?_
                    conv => whnf
                    refine ifB_dec (fun w6 => ?_) (fun w6 => ?_)
                    · conv => whnf
                      refine ⟨inK64 (by omega) (by omega), ?_⟩
                      conv => whnf
                      refine .inl ⟨_, _, byX rfl (Sound1.pl (S20 _ _ _) rfl), ?_⟩
                      conv => whnf
                      refine ifB_not ?_
                      conv => whnf
                      refine ifB_dec (fun w7 => ?_) (fun w7 => ?_)
                      · conv => whnf
                        refine ⟨⟨(by omega), (by omega)⟩, ?_⟩
                        conv => whnf
                        refine ifB_not ?_
                        conv => whnf
                        refine ifB_intro (fun w8 => ?_) (fun w8 => ?_)
                        · exact absurd (f2.symm.trans w8) nofun
                        · conv => whnf
                          refine ifB_beq (fun w9 => ?_) (fun w9 => ?_)
                          · conv => whnf
                            refine ⟨?_, nofun⟩
                            (rfl)
                          · (exfalso; omega)
                      · (exfalso; omega)
                    · exact absurd rfl w6
            · (exfalso; omega)
        · have l3 := whereF_len (fillB N c.toNat) 0
          rw [fillB_len] at l3
          have h37 := S37 N c.toNat (by omega) (by omega) (by omega) hok.ends
          rw [show ((c.toNat : Nat) : Int) = c by omega] at h37
          have h34c := S34 (whereF 0 (fillB N c.toNat)) (whereF 0 (fillB N c.toNat)) (by omega) (by omega)
          refine sound (d := 2) tok2 mixed2 Try.func5 (by kernel_rfl) (by kernel_rfl) ?_
          conv => whnf
          refine .inl ⟨_, _, byX rfl (Sound1.pl (S14) rfl), ?_⟩
          conv => whnf
          refine .inl ⟨_, _, byX rfl (Sound1.pl (h15) rfl), ?_⟩
          conv => whnf
          refine .inl ⟨_, _, byX rfl (h17), ?_⟩
          conv => whnf
          refine .inl ⟨_, _, byX rfl (h29), ?_⟩
          conv => whnf
          refine .inl ⟨_, _, byX rfl (h17), ?_⟩
          conv => whnf
          refine .inl ⟨_, _, byX rfl (h30), ?_⟩
          conv => whnf
          refine .inl ⟨_, _, byX rfl (h17), ?_⟩
          conv => whnf
          refine .inl ⟨_, _, byX rfl (h31), ?_⟩
          conv => whnf
          refine .inl ⟨_, _, byX rfl (Sound1.pl (h32) rfl), ?_⟩
          conv => whnf
          refine ifB_bne (fun w1 => ?_) (fun w1 => ?_)
          · (exfalso; omega)
          · conv => whnf
            refine .inl ⟨_, _, byX rfl (Sound1.pl (h33) rfl), ?_⟩
            conv => whnf
            refine ifB_bne (fun w2 => ?_) (fun w2 => ?_)
            · conv => whnf
              refine ifB_bne (fun w3 => ?_) (fun w3 => ?_)
              · (exfalso; omega)
              · conv => whnf
                refine ifB_beq (fun w4 => ?_) (fun w4 => ?_)
                · (exfalso; omega)
                · conv => whnf
                  refine ifB_bne (fun w5 => ?_) (fun w5 => ?_)
                  · (exfalso; omega)
                  · conv => whnf
                    refine .inl ⟨_, _, byX rfl (h36), ?_⟩
                    conv => whnf
                    refine .inl ⟨_, _, byX rfl (Sound1.pl (h34b) rfl), ?_⟩
                    conv => whnf
                    refine ifB_not ?_
                    conv => whnf
                    refine ifB_dec (fun w6 => ?_) (fun w6 => ?_)
                    · conv => whnf
                      refine ⟨inK64 (by omega) (by omega), ?_⟩
                      conv => whnf
                      refine .inl ⟨_, _, byX rfl (Sound1.pl (S20 _ _ _) rfl), ?_⟩
                      conv => whnf
                      refine ifB_not ?_
                      conv => whnf
                      refine ifB_dec (fun w7 => ?_) (fun w7 => ?_)
                      · conv => whnf
                        refine ⟨⟨(by omega), (by omega)⟩, ?_⟩
                        conv => whnf
                        refine ifB_not ?_
                        conv => whnf
                        refine ifB_intro (fun w8 => ?_) (fun w8 => ?_)
                        · conv => whnf
                          refine ifB_beq (fun w9 => ?_) (fun w9 => ?_)
                          · conv => whnf
                            refine .inl ⟨_, _, byX rfl (h37), ?_⟩
                            conv => whnf
                            refine .inl ⟨_, _, byX rfl (Sound1.pl (h34c) rfl), ?_⟩
                            conv => whnf
                            refine ⟨?_, nofun⟩
                            show vb (decide (_ = _)) = vb true
                            rw [decide_eq_true rfl]
                          · (exfalso; omega)
                        · exact absurd (f2.symm.trans w8) nofun
                      · (exfalso; omega)
                    · exact absurd rfl w6
            · (exfalso; omega)
      · have hk : 0 ≤ k ∧ k ≤ (N.ns.length : Int) - 1 := by
          unfold ndE at e1
          split at e1
          · assumption
          · cases e1
        have l1 := whereF_len (reachB N k) 0
        rw [reachB_len] at l1
        have h35 := S35 N k hk.1 (by omega) (by omega) (by omega) hok.ends
        have h34a := S34 (whereF 0 (reachB N k)) (whereF 0 (reachB N k)) (by omega) (by omega)
        rcases q3 with ⟨e, _⟩ | ⟨_, f1, f2, rfl⟩ | ⟨_, f1, f2, f3, rfl⟩ | ⟨_, f1, f2, f3, rfl⟩
        · exact absurd hE e
        · refine sound (d := 2) tok2 mixed2 Try.func5 (by kernel_rfl) (by kernel_rfl) ?_
          conv => whnf
          refine .inl ⟨_, _, byX rfl (Sound1.pl (S14) rfl), ?_⟩
          conv => whnf
          refine .inl ⟨_, _, byX rfl (Sound1.pl (h15) rfl), ?_⟩
          conv => whnf
          refine .inl ⟨_, _, byX rfl (h17), ?_⟩
          conv => whnf
          refine .inl ⟨_, _, byX rfl (h29), ?_⟩
          conv => whnf
          refine .inl ⟨_, _, byX rfl (h17), ?_⟩
          conv => whnf
          refine .inl ⟨_, _, byX rfl (h30), ?_⟩
          conv => whnf
          refine .inl ⟨_, _, byX rfl (h17), ?_⟩
          conv => whnf
          refine .inl ⟨_, _, byX rfl (h31), ?_⟩
          conv => whnf
          refine .inl ⟨_, _, byX rfl (Sound1.pl (h32) rfl), ?_⟩
          conv => whnf
          refine ifB_bne (fun w1 => ?_) (fun w1 => ?_)
          · (exfalso; omega)
          · conv => whnf
            refine .inl ⟨_, _, byX rfl (Sound1.pl (h33) rfl), ?_⟩
            conv => whnf
            refine ifB_bne (fun w2 => ?_) (fun w2 => ?_)
            · (exfalso; omega)
            · conv => whnf
              refine ifB_beq (fun w3 => ?_) (fun w3 => ?_)
              · conv => whnf
                refine ifB_bne (fun w4 => ?_) (fun w4 => ?_)
                · (exfalso; omega)
                · conv => whnf
                  refine .inl ⟨_, _, byX rfl (h35), ?_⟩
                  conv => whnf
                  refine .inl ⟨_, _, byX rfl (Sound1.pl (h34a) rfl), ?_⟩
                  conv => whnf
                  refine ifB_not ?_
                  conv => whnf
                  refine ifB_dec (fun w5 => ?_) (fun w5 => ?_)
                  · conv => whnf
                    refine ifB_bne (fun w6 => ?_) (fun w6 => ?_)
                    · (exfalso; omega)
                    · conv => whnf
                      refine .inl ⟨_, _, byX rfl (h36), ?_⟩
                      conv => whnf
                      refine .inl ⟨_, _, byX rfl (Sound1.pl (h34b) rfl), ?_⟩
                      conv => whnf
                      refine ifB_not ?_
                      conv => whnf
                      refine ifB_dec (fun w7 => ?_) (fun w7 => ?_)
                      · conv => whnf
                        refine ⟨inK64 (by omega) (by omega), ?_⟩
                        conv => whnf
                        refine .inl ⟨_, _, byX rfl (Sound1.pl (S20 _ _ _) rfl), ?_⟩
                        conv => whnf
                        refine ifB_not ?_
                        conv => whnf
                        refine ifB_dec (fun w8 => ?_) (fun w8 => ?_)
                        · (exfalso; omega)
                        · conv => whnf
                          refine ifB_beq (fun w9 => ?_) (fun w9 => ?_)
                          · conv => whnf
                            refine ⟨?_, nofun⟩
                            (rfl)
                          · (exfalso; omega)
                      · exact absurd rfl w7
                  · exact absurd rfl w5
              · (exfalso; omega)
        · refine sound (d := 2) tok2 mixed2 Try.func5 (by kernel_rfl) (by kernel_rfl) ?_
          conv => whnf
          refine .inl ⟨_, _, byX rfl (Sound1.pl (S14) rfl), ?_⟩
          conv => whnf
          refine .inl ⟨_, _, byX rfl (Sound1.pl (h15) rfl), ?_⟩
          conv => whnf
          refine .inl ⟨_, _, byX rfl (h17), ?_⟩
          conv => whnf
          refine .inl ⟨_, _, byX rfl (h29), ?_⟩
          conv => whnf
          refine .inl ⟨_, _, byX rfl (h17), ?_⟩
          conv => whnf
          refine .inl ⟨_, _, byX rfl (h30), ?_⟩
          conv => whnf
          refine .inl ⟨_, _, byX rfl (h17), ?_⟩
          conv => whnf
          refine .inl ⟨_, _, byX rfl (h31), ?_⟩
          conv => whnf
          refine .inl ⟨_, _, byX rfl (Sound1.pl (h32) rfl), ?_⟩
          conv => whnf
          refine ifB_bne (fun w1 => ?_) (fun w1 => ?_)
          · (exfalso; omega)
          · conv => whnf
            refine .inl ⟨_, _, byX rfl (Sound1.pl (h33) rfl), ?_⟩
            conv => whnf
            refine ifB_bne (fun w2 => ?_) (fun w2 => ?_)
            · (exfalso; omega)
            · conv => whnf
              refine ifB_beq (fun w3 => ?_) (fun w3 => ?_)
              · conv => whnf
                refine ifB_bne (fun w4 => ?_) (fun w4 => ?_)
                · (exfalso; omega)
                · conv => whnf
                  refine .inl ⟨_, _, byX rfl (h35), ?_⟩
                  conv => whnf
                  refine .inl ⟨_, _, byX rfl (Sound1.pl (h34a) rfl), ?_⟩
                  conv => whnf
                  refine ifB_not ?_
                  conv => whnf
                  refine ifB_dec (fun w5 => ?_) (fun w5 => ?_)
                  · conv => whnf
                    refine ifB_bne (fun w6 => ?_) (fun w6 => ?_)
                    · (exfalso; omega)
                    · conv => whnf
                      refine .inl ⟨_, _, byX rfl (h36), ?_⟩
                      conv => whnf
                      refine .inl ⟨_, _, byX rfl (Sound1.pl (h34b) rfl), ?_⟩
                      conv => whnf
                      refine ifB_not ?_
                      conv => whnf
                      refine ifB_dec (fun w7 => ?_) (fun w7 => ?_)
                      · conv => whnf
                        refine ⟨inK64 (by omega) (by omega), ?_⟩
                        conv => whnf
                        refine .inl ⟨_, _, byX rfl (Sound1.pl (S20 _ _ _) rfl), ?_⟩
                        conv => whnf
                        refine ifB_not ?_
                        conv => whnf
                        refine ifB_dec (fun w8 => ?_) (fun w8 => ?_)
                        · conv => whnf
                          refine ⟨⟨(by omega), (by omega)⟩, ?_⟩
                          conv => whnf
                          refine ifB_not ?_
                          conv => whnf
                          refine ifB_intro (fun w9 => ?_) (fun w9 => ?_)
                          · exact absurd (f2.symm.trans w9) nofun
                          · conv => whnf
                            refine ifB_beq (fun w10 => ?_) (fun w10 => ?_)
                            · conv => whnf
                              refine ⟨?_, nofun⟩
                              (rfl)
                            · (exfalso; omega)
                        · (exfalso; omega)
                      · exact absurd rfl w7
                  · exact absurd rfl w5
              · (exfalso; omega)
        · have l3 := whereF_len (fillB N c.toNat) 0
          rw [fillB_len] at l3
          have h37 := S37 N c.toNat (by omega) (by omega) (by omega) hok.ends
          rw [show ((c.toNat : Nat) : Int) = c by omega] at h37
          have h34c := S34 (whereF 0 (fillB N c.toNat)) (whereF 0 (fillB N c.toNat)) (by omega) (by omega)
          refine sound (d := 2) tok2 mixed2 Try.func5 (by kernel_rfl) (by kernel_rfl) ?_
          conv => whnf
          refine .inl ⟨_, _, byX rfl (Sound1.pl (S14) rfl), ?_⟩
          conv => whnf
          refine .inl ⟨_, _, byX rfl (Sound1.pl (h15) rfl), ?_⟩
          conv => whnf
          refine .inl ⟨_, _, byX rfl (h17), ?_⟩
          conv => whnf
          refine .inl ⟨_, _, byX rfl (h29), ?_⟩
          conv => whnf
          refine .inl ⟨_, _, byX rfl (h17), ?_⟩
          conv => whnf
          refine .inl ⟨_, _, byX rfl (h30), ?_⟩
          conv => whnf
          refine .inl ⟨_, _, byX rfl (h17), ?_⟩
          conv => whnf
          refine .inl ⟨_, _, byX rfl (h31), ?_⟩
          conv => whnf
          refine .inl ⟨_, _, byX rfl (Sound1.pl (h32) rfl), ?_⟩
          conv => whnf
          refine ifB_bne (fun w1 => ?_) (fun w1 => ?_)
          · (exfalso; omega)
          · conv => whnf
            refine .inl ⟨_, _, byX rfl (Sound1.pl (h33) rfl), ?_⟩
            conv => whnf
            refine ifB_bne (fun w2 => ?_) (fun w2 => ?_)
            · (exfalso; omega)
            · conv => whnf
              refine ifB_beq (fun w3 => ?_) (fun w3 => ?_)
              · conv => whnf
                refine ifB_bne (fun w4 => ?_) (fun w4 => ?_)
                · (exfalso; omega)
                · conv => whnf
                  refine .inl ⟨_, _, byX rfl (h35), ?_⟩
                  conv => whnf
                  refine .inl ⟨_, _, byX rfl (Sound1.pl (h34a) rfl), ?_⟩
                  conv => whnf
                  refine ifB_not ?_
                  conv => whnf
                  refine ifB_dec (fun w5 => ?_) (fun w5 => ?_)
                  · conv => whnf
                    refine ifB_bne (fun w6 => ?_) (fun w6 => ?_)
                    · (exfalso; omega)
                    · conv => whnf
                      refine .inl ⟨_, _, byX rfl (h36), ?_⟩
                      conv => whnf
                      refine .inl ⟨_, _, byX rfl (Sound1.pl (h34b) rfl), ?_⟩
                      conv => whnf
                      refine ifB_not ?_
                      conv => whnf
                      refine ifB_dec (fun w7 => ?_) (fun w7 => ?_)
                      · conv => whnf
                        refine ⟨inK64 (by omega) (by omega), ?_⟩
                        conv => whnf
                        refine .inl ⟨_, _, byX rfl (Sound1.pl (S20 _ _ _) rfl), ?_⟩
                        conv => whnf
                        refine ifB_not ?_
                        conv => whnf
                        refine ifB_dec (fun w8 => ?_) (fun w8 => ?_)
                        · conv => whnf
                          refine ⟨⟨(by omega), (by omega)⟩, ?_⟩
                          conv => whnf
                          refine ifB_not ?_
                          conv => whnf
                          refine ifB_intro (fun w9 => ?_) (fun w9 => ?_)
                          · conv => whnf
                            refine ifB_beq (fun w10 => ?_) (fun w10 => ?_)
                            · conv => whnf
                              refine .inl ⟨_, _, byX rfl (h37), ?_⟩
                              conv => whnf
                              refine .inl ⟨_, _, byX rfl (Sound1.pl (h34c) rfl), ?_⟩
                              conv => whnf
                              refine ⟨?_, nofun⟩
                              show vb (decide (_ = _)) = vb true
                              rw [decide_eq_true rfl]
                            · (exfalso; omega)
                          · exact absurd (f2.symm.trans w9) nofun
                        · (exfalso; omega)
                      · exact absurd rfl w7
                  · exact absurd rfl w5
              · (exfalso; omega)
    · replace q1 : E1 = netE N ∧ L1 = [] := by
        rcases q1 with ⟨_, e⟩ | ⟨e, _⟩ | ⟨e, _⟩
        · exact e
        · exact absurd e hE
        · exact absurd e hE
      replace q2 : L2 = [] := by
        rcases q2 with ⟨_, e⟩ | ⟨e, _⟩
        · exact e
        · exact absurd e hE
      replace q3 : E3 = netE N ∧ L3 = [] := by
        rcases q3 with ⟨_, e⟩ | ⟨e, _⟩ | ⟨e, _⟩ | ⟨e, _⟩
        · exact e
        · exact absurd e hE
        · exact absurd e hE
        · exact absurd e hE
      obtain ⟨e1, rfl⟩ := q1
      subst q2
      obtain ⟨e3, rfl⟩ := q3
      refine sound (d := 2) tok2 mixed2 Try.func5 (by kernel_rfl) (by kernel_rfl) ?_
      conv => whnf
      refine .inl ⟨_, _, byX rfl (Sound1.pl (S14) rfl), ?_⟩
      conv => whnf
      refine .inl ⟨_, _, byX rfl (Sound1.pl (h15) rfl), ?_⟩
      conv => whnf
      refine .inl ⟨_, _, byX rfl (h17), ?_⟩
      conv => whnf
      refine .inl ⟨_, _, byX rfl (h29), ?_⟩
      conv => whnf
      refine .inl ⟨_, _, byX rfl (h17), ?_⟩
      conv => whnf
      refine .inl ⟨_, _, byX rfl (h30), ?_⟩
      conv => whnf
      refine .inl ⟨_, _, byX rfl (h17), ?_⟩
      conv => whnf
      refine .inl ⟨_, _, byX rfl (h31), ?_⟩
      conv => whnf
      refine .inl ⟨_, _, byX rfl (Sound1.pl (h32) rfl), ?_⟩
      conv => whnf
      refine ifB_bne (fun w1 => ?_) (fun w1 => ?_)
      · conv => whnf
        refine ifB_beq (fun w2 => ?_) (fun w2 => ?_)
        · conv => whnf
          refine ifB_beq (fun w3 => ?_) (fun w3 => ?_)
          · conv => whnf
            refine ifB_beq (fun w4 => ?_) (fun w4 => ?_)
            · conv => whnf
              refine ⟨?_, ?_⟩
              · exact ⟨by decide, by decide⟩
              · conv => whnf
                refine ⟨?_, ?_⟩
                · exact ⟨by decide, by decide⟩
                · conv => whnf
                  refine ⟨?_, nofun⟩
                  (rfl)
            · (exfalso; omega)
          · (exfalso; omega)
        · (exfalso; omega)
      · (exfalso; omega)
end Go.Tr

/- The law WaterTwoSigns returns true. Conditions: none. -/
namespace Go.Tr
open Go Go.Proofs
set_option maxRecDepth 20000
set_option maxHeartbeats 8000000

/-- Flows at the two ends of a circulation. -/
theorem steady_flow {N : Net} (hok : N.Ok) (hF : (clF N).2 = 0) (hq : flatQ N (brF N) (clF N).1 = false) (i : Nat) (hi : i < N.cs.length) :
    -1000000 ≤ ((steadyF N (brF N) (clF N).1).1.getD i (0, 0)).1 ∧ ((steadyF N (brF N) (clF N).1).1.getD i (0, 0)).1 ≤ 1000000 ∧ ((steadyF N (brF N) (clF N).1).1.getD i (0, 0)).1 ≤ ((steadyF N (brF N) (clF N).1).1.getD i (0, 0)).2 ∧ ((steadyF N (brF N) (clF N).1).1.getD i (0, 0)).2 ≤ ((steadyF N (brF N) (clF N).1).1.getD i (0, 0)).1 + 1 := by
  have hS := stOk hok
  have hne := net_ne hok hS.cl
  obtain ⟨b1, b2, b3, b4⟩ := circ_bd hS hne hq
  have lA := state_len N (brF N) (clF N).1 (circF N (brF N) (clF N).1).1
  have lB := state_len N (brF N) (clF N).1 (circF N (brF N) (clF N).1).2
  have kA := (kept_ok hok hF b1).bd i
  have kB := (kept_ok hok hF b2).bd i
  have hd : -1 ≤ (stateF N (brF N) (clF N).1 (circF N (brF N) (clF N).1).2).1.getD i 0 - (stateF N (brF N) (clF N).1 (circF N (brF N) (clF N).1).1).1.getD i 0 ∧ (stateF N (brF N) (clF N).1 (circF N (brF N) (clF N).1).2).1.getD i 0 - (stateF N (brF N) (clF N).1 (circF N (brF N) (clF N).1).1).1.getD i 0 ≤ 1 := by
    by_cases hc : (clF N).1 < 0
    · have e : circF N (brF N) (clF N).1 = (0, 0) := by unfold circF; rw [if_pos hc]
      rw [e]; simp only; omega
    · generalize circF N (brF N) (clF N).1 = x at *
      have hs := st0_diff (N := N) (q := x.1) (q' := x.2) hS.ends (by omega) hS.cl (hne (by omega))
      have := flow_diff (D := x.2 - x.1) (by omega) (brF N) (lakesB N) (st0 N (clF N).1 x.1) (st0 N (clF N).1 x.2) (lakesB_len N) (st0_len1 N _ _) (st0_len1 N _ _) (by rw [st0_len0, st0_len0]) hS.tr hs (fun j => by
        unfold st0
        rw [if_neg hc, if_neg hc]
        show _ ≤ ((List.replicate N.cs.length (0 : Int)).set _ _).getD j 0 - ((List.replicate N.cs.length (0 : Int)).set _ _).getD j 0 ∧ ((List.replicate N.cs.length (0 : Int)).set _ _).getD j 0 - ((List.replicate N.cs.length (0 : Int)).set _ _).getD j 0 ≤ _
        rw [getD_setI, getD_setI]
        split <;> omega) i
      unfold stateF
      simp only
      omega
  unfold steadyF
  simp only
  rw [rngL_getD lA.1 lB.1 hi]
  simp only
  refine ⟨?_, ?_, ?_, ?_⟩ <;> (split <;> (try split) <;> omega)
/-- The gap at both ends. -/
theorem steady_gap {N : Net} (hok : N.Ok) (hc : 0 ≤ (clF N).1) (hq : flatQ N (brF N) (clF N).1 = false) :
    (gapF N (brF N) (clF N).1 (circF N (brF N) (clF N).1).1 = 0 ∧ (circF N (brF N) (clF N).1).1 = (circF N (brF N) (clF N).1).2) ∨ (gapF N (brF N) (clF N).1 (circF N (brF N) (clF N).1).1 < 0 ∧ 0 < gapF N (brF N) (clF N).1 (circF N (brF N) (clF N).1).2) := by
  have hS := stOk hok
  have h := circ_spec hS hc (net_ne hok hS.cl hc) (flatQ_of hq hc)
  unfold circF
  rw [if_neg (by omega)]
  split
  · rename_i e
    exact .inl ⟨e, rfl⟩
  · exact .inr ⟨h.2.2.2, by simp only; omega⟩
theorem chk_iff {N : Net} (h : flowE N = 0) (x : Int × Int) : chkE N x = 0 ↔ x = circF N (brF N) (clF N).1 := by
  have hk := flowE_ok h
  have hn := formE_ok hk.1
  have hok := net_ok hn.1
  have hS := stOk hok
  have hne := net_ne hok hS.cl
  have hp := proves_iff hS hne (flatQ_of hk.2) x
  obtain ⟨b1, b2, b3, b4⟩ := circ_bd hS hne hk.2
  unfold chkE
  constructor
  · intro hx
    split at hx
    · rw [hk.2] at hx
      simp only [Bool.false_eq_true, if_false] at hx
      split at hx
      · exact hp.1 (by assumption)
      · cases hx
    · contradiction
  · intro e
    have hp := hp.2 e
    have c1 : crE x.1 = 0 := by unfold crE; rw [e, decide_eq_true b1]; rfl
    have c2 : crE x.2 = 0 := by unfold crE; rw [e, decide_eq_true b2]; rfl
    have h0 : chk0 N x = 0 := by
      unfold chk0
      rw [firstOf4, if_pos hk.1, if_pos c1, if_pos c2, decide_eq_true (by rw [e]; exact b3)]
      rfl
    rw [if_pos h0, hk.2, hp]; rfl

set_option maxHeartbeats 0 in
theorem S10 (N : Net) (hN : N.In) (x y : Int) : SP 10 [netV N, .agg [i64 x, i64 y]] (vb true) false := by
  have h15 := S15 N hN
  cases hf : fewB N with
  | false =>
    rw [hf] at h15
    refine sound (d := 2) tok2 mixed2 Try.func10 (by kernel_rfl) (by kernel_rfl) ?_
    conv => whnf
    refine .inl ⟨_, _, byX rfl (Sound1.pl (S14) rfl), ?_⟩
    conv => whnf
    refine .inl ⟨_, _, byX rfl (Sound1.pl (h15) rfl), ?_⟩
    conv => whnf
    refine ⟨?_, nofun⟩
    (rfl)
  | true =>
    rw [hf] at h15
    obtain ⟨b1, b2⟩ := few_bounds hf
    have h38 := S38 N hN
    by_cases hF : formE N = 0
    · rw [hF] at h38
      have h17 := S17 N (by omega) (by omega)
      have hn := formE_ok hF
      have hok := net_ok hn.1
      have hS := stOk hok
      have hne := net_ne hok hS.cl
      have h48 := S48 N hN
      by_cases hE : flowE N = 0
      · rw [if_pos hE, hE] at h48
        have hq := (flowE_ok hE).2
        obtain ⟨q1, q2, q3, q4⟩ := circ_bd hS hne hq
        have hci := chk_iff hE
        have h49a := S49 N hN (circF N (brF N) (clF N).1).1 (circF N (brF N) (clF N).1).2
        rw [show chkE N ((circF N (brF N) (clF N).1).1, (circF N (brF N) (clF N).1).2) = 0 from (hci _).2 rfl] at h49a
        have h49b := S49 N hN x y
        have hcx := hci (x, y)
        have h50 := S50 N hN
        rw [if_pos hE, hE] at h50
        have hsf := steady_flow hok hn.2 hq
        have h39 := S39 N hN
        have h42a := S42 N hN (circF N (brF N) (clF N).1).1
        have h42b := S42 N hN (circF N (brF N) (clF N).1).2
        have hgp := fun h0 : 0 ≤ (clF N).1 => steady_gap hok h0 hq
        have hcd : (clF N).1 < 0 → circF N (brF N) (clF N).1 = (0, 0) := fun h => by unfold circF; rw [if_pos h]
        have hl : (steadyF N (brF N) (clF N).1).1.length = N.cs.length ∧ (steadyF N (brF N) (clF N).1).2.length = N.ns.length :=
          ⟨rngL_len (state_len N _ _ _).1 (state_len N _ _ _).1, rngL_len (state_len N _ _ _).2 (state_len N _ _ _).2⟩
        generalize chkE N (x, y) = E at h49b hcx
        generalize circF N (brF N) (clF N).1 = z at *
        generalize steadyF N (brF N) (clF N).1 = sd at *
        obtain ⟨z1, z2⟩ := z
        simp only at *
        change SP 48 [netV N] (.tuple [.agg [i64 z1, i64 z2], i64 0]) false at h48
        have hb : (E == 0) = vEqL [Value.int IntKind.i64 x, Value.int IntKind.i64 y] [Value.int IntKind.i64 z1, Value.int IntKind.i64 z2] := by
          rw [Bool.eq_iff_iff]
          simp only [vEqL, Bool.and_true, Bool.and_eq_true, beq_iff_eq]
          rw [hcx, Prod.mk.injEq]
        rw [Prod.mk.injEq] at hcd
        refine sound (d := 2) tok2 mixed2 Try.func10 (by kernel_rfl) (by kernel_rfl) ?_
        conv => whnf
        refine .inl ⟨_, _, byX rfl (Sound1.pl (S14) rfl), ?_⟩
        conv => whnf
        refine .inl ⟨_, _, byX rfl (Sound1.pl (h15) rfl), ?_⟩
        conv => whnf
        refine .inl ⟨_, _, byX rfl (Sound1.pl (h38) rfl), ?_⟩
        conv => whnf
        refine .inl ⟨_, _, byX rfl (h17), ?_⟩
        conv => whnf
        refine .inl ⟨_, _, byX rfl (Sound1.pl (h48) rfl), ?_⟩
        conv => whnf
        refine ⟨[], by kernel_rfl, ?_⟩
        conv => whnf
        refine .inl ⟨_, _, byX rfl (Sound1.pl (S20 _ _ _) rfl), ?_⟩
        conv => whnf
        refine ifB_not ?_
        conv => whnf
        refine ifB_dec (fun w1 => ?_) (fun w1 => ?_)
        · conv => whnf
          refine ⟨inK64 (by omega) (by omega), ?_⟩
          conv => whnf
          refine .inl ⟨_, _, byX rfl (Sound1.pl (S20 _ _ _) rfl), ?_⟩
          conv => whnf
          refine ifB_not ?_
          conv => whnf
          refine ifB_dec (fun w2 => ?_) (fun w2 => ?_)
          · conv => whnf
            refine .inl ⟨_, _, byX rfl (h17), ?_⟩
            conv => whnf
            refine .inl ⟨_, _, byX rfl (Sound1.pl (h49a) rfl), ?_⟩
            conv => whnf
            refine ⟨[], by kernel_rfl, ?_⟩
            conv => whnf
            refine .inl ⟨_, _, byX rfl (h17), ?_⟩
            conv => whnf
            refine .inl ⟨_, _, byX rfl (Sound1.pl (h49b) rfl), ?_⟩
            conv => whnf
            refine ifB_not ?_
            conv => whnf
            refine ifB_beqB (fun w3 => ?_) (fun w3 => ?_)
            · conv => whnf
              refine .inl ⟨_, _, byX rfl (h17), ?_⟩
              conv => whnf
              refine .inl ⟨_, _, byX rfl (h50), ?_⟩
              conv => whnf
              refine ifB_bne (fun w4 => ?_) (fun w4 => ?_)
              · (exfalso; omega)
              · conv => whnf
                refine ifB_bne (fun w5 => ?_) (fun w5 => ?_)
                · (exfalso; omega)
                · · conv => whnf
                    refine ⟨[], [2, 5, 8, 10], fun st mq => ∃ (k : Nat), (k ≤ sd.1.length) ∧ st = ⟨[(2, .optr 0 0 0 0), (5, .optr 2 0 0 0), (8, .optr 3 0 0 0), (10, i64 k)], ⟨[⟨2, 1, fun _ => [.rslice 4 N.ns.length fun i => ndC (N.ns.getD i nd0), .rslice 6 N.cs.length fun i => cnC (N.cs.getD i cn0)], 0, false, true, true⟩, ⟨2, 1, fun _ => [i64 x, i64 y], 0, false, true, true⟩, ⟨2, 1, fun _ => [i64 z1, i64 z2], 0, false, true, true⟩, ⟨2, 1, fun _ => [.rslice 2 sd.1.length fun i => brC (sd.1.getD i (0, 0)), .rslice 2 sd.2.length fun i => brC (sd.2.getD i (0, 0))], 0, false, true, true⟩], [], none, 0⟩, []⟩ ∧ mq = sd.1.length - k,
                      ⟨_, _, ⟨0, by omega, rfl, rfl⟩, ⟨⟨rfl, rfl, rfl, rfl⟩, ⟨⟨rfl, rfl, rfl, rfl, fun _ => rfl, fun _ _ => rfl⟩, ⟨⟨rfl, rfl, rfl, rfl, fun _ => rfl, fun _ _ => rfl⟩, ⟨⟨rfl, rfl, rfl, rfl, fun _ => rfl, fun _ _ => rfl⟩, ⟨⟨rfl, rfl, rfl, rfl, fun _ => rfl, fun _ _ => rfl⟩, trivial⟩⟩⟩⟩, trivial⟩⟩, ?_⟩
                    rintro s0 m0 ⟨k, hk, rfl, hmeas⟩
                    by_cases hkl : k < sd.1.length
                    · have hx := hsf (k : Int).toNat (by omega)
                      conv => whnf
                      conv => whnf
                      refine ifB_dec (fun w6 => ?_) (fun w6 => ?_)
                      · conv => whnf
                        conv => whnf
                        refine ⟨[], by kernel_rfl, ?_⟩
                        conv => whnf
                        conv => whnf
                        refine ⟨⟨(by omega), (by omega)⟩, ?_⟩
                        conv => whnf
                        conv => whnf
                        refine .inl ⟨_, _, byX rfl (Sound1.pl (S20 _ _ _) rfl), ?_⟩
                        conv => whnf
                        conv => whnf
                        refine ifB_not ?_
                        conv => whnf
                        conv => whnf
                        refine ifB_dec (fun w7 => ?_) (fun w7 => ?_)
                        · conv => whnf
                          conv => whnf
                          refine ⟨⟨(by omega), (by omega)⟩, ?_⟩
                          conv => whnf
                          conv => whnf
                          refine ⟨⟨(by omega), (by omega)⟩, ?_⟩
                          conv => whnf
                          conv => whnf
                          refine ⟨⟨(by omega), (by omega)⟩, ?_⟩
                          conv => whnf
                          conv => whnf
                          refine ⟨inK64 (by omega) (by omega), ?_⟩
                          conv => whnf
                          conv => whnf
                          refine .inl ⟨_, _, byX rfl (Sound1.pl (S20 _ _ _) rfl), ?_⟩
                          conv => whnf
                          conv => whnf
                          refine ifB_not ?_
                          conv => whnf
                          conv => whnf
                          refine ifB_dec (fun w8 => ?_) (fun w8 => ?_)
                          · conv => whnf
                            conv => whnf
                            refine ⟨inK64 (by omega) (by omega), ?_⟩
                            conv => whnf
                            conv => whnf
                            refine ⟨_, _, ⟨⟨k + 1, by omega, rfl, rfl⟩, by omega⟩, ⟨⟨rfl, rfl, rfl, rfl⟩, ⟨⟨rfl, rfl, rfl, rfl, fun _ => rfl, fun _ _ => rfl⟩, ⟨⟨rfl, rfl, rfl, rfl, fun _ => rfl, fun _ _ => rfl⟩, ⟨⟨rfl, rfl, rfl, rfl, fun _ => rfl, fun _ _ => rfl⟩, ⟨⟨rfl, rfl, rfl, rfl, fun _ => rfl, fun _ _ => rfl⟩, trivial⟩⟩⟩⟩, trivial⟩⟩
                          · (exfalso; omega)
                        · (exfalso; omega)
                      · (exfalso; omega)
                    · by_cases hc : 0 ≤ (clF N).1
                      · have hE9 : closE N = 0 := by unfold closE; rw [if_pos hF, if_pos hc]
                        rw [if_pos hE9, hE9] at h39
                        have cr : ∀ q : Int, -200000 ≤ q ∧ q ≤ 200000 → gapErr N q = 0 := fun q h => by
                          unfold gapErr crE; rw [if_pos hE9, decide_eq_true h]; rfl
                        rw [if_pos (cr _ q1), cr _ q1] at h42a
                        rw [if_pos (cr _ q2), cr _ q2] at h42b
                        have hg : (gapF N (brF N) (clF N).1 z1 = 0 ∧ gapF N (brF N) (clF N).1 z2 = 0 ∧ z1 = z2) ∨ (gapF N (brF N) (clF N).1 z1 < 0 ∧ 0 < gapF N (brF N) (clF N).1 z2) := by
                          rcases hgp hc with ⟨g1, g2⟩ | g
                          · exact .inl ⟨g1, by rw [← g2]; exact g1, g2⟩
                          · exact .inr g
                        conv => whnf
                        conv => whnf
                        refine ifB_dec (fun w6 => ?_) (fun w6 => ?_)
                        · (exfalso; omega)
                        · conv => whnf
                          conv => whnf
                          refine .inl ⟨_, _, byX rfl (h17), ?_⟩
                          conv => whnf
                          conv => whnf
                          refine .inl ⟨_, _, byX rfl (Sound1.pl (h39) rfl), ?_⟩
                          conv => whnf
                          conv => whnf
                          refine ⟨[], by kernel_rfl, ?_⟩
                          conv => whnf
                          conv => whnf
                          refine .inl ⟨_, _, byX rfl (h17), ?_⟩
                          conv => whnf
                          conv => whnf
                          refine .inl ⟨_, _, byX rfl (Sound1.pl (h42a) rfl), ?_⟩
                          conv => whnf
                          conv => whnf
                          refine ⟨[], by kernel_rfl, ?_⟩
                          conv => whnf
                          conv => whnf
                          refine .inl ⟨_, _, byX rfl (h17), ?_⟩
                          conv => whnf
                          conv => whnf
                          refine .inl ⟨_, _, byX rfl (Sound1.pl (h42b) rfl), ?_⟩
                          conv => whnf
                          conv => whnf
                          refine ifB_dec (fun w7 => ?_) (fun w7 => ?_)
                          · conv => whnf
                            conv => whnf
                            refine ifB_dec (fun w8 => ?_) (fun w8 => ?_)
                            · conv => whnf
                              conv => whnf
                              refine ifB_beq (fun w9 => ?_) (fun w9 => ?_)
                              · conv => whnf
                                conv => whnf
                                refine ⟨?_, nofun⟩
                                (rfl)
                              · conv => whnf
                                conv => whnf
                                refine ifB_dec (fun w10 => ?_) (fun w10 => ?_)
                                · conv => whnf
                                  conv => whnf
                                  refine ⟨?_, nofun⟩
                                  (exact vbE (decide_eq_true (by omega)))
                                · (exfalso; omega)
                            · (exfalso; omega)
                          · (exfalso; omega)
                      · have hE9 : closE N = 12 := by unfold closE; rw [if_pos hF, if_neg hc]
                        rw [if_neg (by rw [hE9]; decide), hE9] at h39
                        have hz := hcd (by omega)
                        rw [hz.1, hz.2] at *
                        conv => whnf
                        conv => whnf
                        refine ifB_dec (fun w6 => ?_) (fun w6 => ?_)
                        · (exfalso; omega)
                        · conv => whnf
                          conv => whnf
                          refine .inl ⟨_, _, byX rfl (h17), ?_⟩
                          conv => whnf
                          conv => whnf
                          refine .inl ⟨_, _, byX rfl (Sound1.pl (h39) rfl), ?_⟩
                          conv => whnf
                          conv => whnf
                          refine ⟨?_, nofun⟩
                          (rfl)
            · conv => whnf
              refine ⟨?_, nofun⟩
              (exact absurd hb (by assumption))
          · (exfalso; omega)
        · (exfalso; omega)
      · rw [if_neg hE] at h48
        have e : flowE N = 11 := by
          unfold flowE at hE ⊢
          rw [if_pos hF] at hE ⊢
          split
          · rfl
          · rename_i h; rw [if_neg h] at hE; exact absurd rfl hE
        rw [e] at h48
        refine sound (d := 2) tok2 mixed2 Try.func10 (by kernel_rfl) (by kernel_rfl) ?_
        conv => whnf
        refine .inl ⟨_, _, byX rfl (Sound1.pl (S14) rfl), ?_⟩
        conv => whnf
        refine .inl ⟨_, _, byX rfl (Sound1.pl (h15) rfl), ?_⟩
        conv => whnf
        refine .inl ⟨_, _, byX rfl (Sound1.pl (h38) rfl), ?_⟩
        conv => whnf
        refine .inl ⟨_, _, byX rfl (h17), ?_⟩
        conv => whnf
        refine .inl ⟨_, _, byX rfl (Sound1.pl (h48) rfl), ?_⟩
        conv => whnf
        refine ⟨?_, nofun⟩
        (rfl)
    · refine sound (d := 2) tok2 mixed2 Try.func10 (by kernel_rfl) (by kernel_rfl) ?_
      conv => whnf
      refine .inl ⟨_, _, byX rfl (Sound1.pl (S14) rfl), ?_⟩
      conv => whnf
      refine .inl ⟨_, _, byX rfl (Sound1.pl (h15) rfl), ?_⟩
      conv => whnf
      refine .inl ⟨_, _, byX rfl (Sound1.pl (h38) rfl), ?_⟩
      conv => whnf
      refine ifB_bne (fun w1 => ?_) (fun w1 => ?_)
      · conv => whnf
        refine ⟨?_, nofun⟩
        (rfl)
      · (exfalso; omega)
end Go.Tr

/- The end of a law's proof: what every law shares; further openings of arguments. Conditions: none. -/
namespace Go.Tr
open Go Go.Proofs Go.RowKit Go.WideShapes Go.ChangeShapes
section
variable {H : Type} {enc : TypeId × Value → H} {P : Program}
theorem post_of_below {f : Func} {s : ChangeSpec} {apart fresh handsOn again : Bool} {W W' : World} {args : Array Value} {v : Value} {ds gs : List (DataW H)} {before pa pv : List MemPlace}
    (hW : DataW.Whole enc P f.params.toList s.vars apart W args.toList ds gs before)
    (hres : ∀ (b : Nat) (sp : Nat → Bool) (hd : Bool), DataW.TrodAll enc P W' b sp hd f.resultTypes.toList (v.resultList f.resultTypes.size) (s.fn H (ds ++ gs)).results [])
    (hargs : ∀ sp : Nat → Bool, (∀ p ∈ before, sp p.block = true) → DataW.TrodAll enc P W' 0 sp true f.params.toList args.toList (s.fn H (ds ++ gs)).args pa)
    (hvars : ∀ sp : Nat → Bool, (∀ p ∈ before, sp p.block = true) → DataW.TrodVars enc P W' sp s.vars (s.fn H (ds ++ gs)).vars pv)
    (hps : before = pa ++ pv) (hb : Below W.heap.size W W')
    (hok : ∀ (j : Nat) (t : TypeId) (r : Value), f.resultTypes[j]? = some t → (v.resultList f.resultTypes.size)[j]? = some r → Value.okWide P W' .any 0 t r) :
    s.post enc P f apart fresh handsOn again W args v W' := by
  have hlt : ∀ p ∈ before, p.block < W.heap.size := fun p hp => hW.lt p hp
  have hold : ∀ p ∈ before, (fun b => decide (b < W.heap.size)) p.block = true := fun p hp => by simpa using hlt p hp
  refine ⟨ds, gs, before, [], pa, pv, hW, hres _ _ _, hargs _ hold, hvars _ hold, World.keptBut_mono (fun p hp => ⟨hp, ?_⟩) (hb.frame (· ∈ before)), fun _ => ?_⟩
  · rw [hps, List.mem_append] at hp
    exact Or.inr hp
  · obtain ⟨_, _, _, _, _, hz, hn⟩ := hW
    refine ⟨hok, _, _, ([] ++ pa) ++ pv, ⟨[] ++ pa, pv, trodAll_append (hargs _ (fun _ _ => rfl)) (hres _ _ _), hvars _ (fun _ _ => rfl), rfl, ?_, ?_⟩, ?_⟩
    · intro b off hp
      have hin : MemPlace.cell b off ∈ before := by rw [hps]; simpa using hp
      rw [hb.frozen (hlt _ hin)]
      exact hz b off hin
    · intro ha
      have := hn ha
      rw [hps] at this
      simpa using this
    · intro p hp _
      rw [hps]
      simpa using hp
end

set_option maxRecDepth 20000
theorem cells3 : Try.prog.cellsOf 3 = 1 := by kernel_rfl
theorem ints_open {x : AV} (h : TyA Try.prog 4 39 x) : ∃ l : List Int, AVE 5 x (ints l) ∧ l.length ≤ 9223372036854775807 ∧ ∀ a ∈ l, inK .i64 a := by
  simp only [TyA, Try.underlying39] at h
  unfold TyC at h
  simp only [Try.underlying39] at h
  obtain ⟨len, f, e, hl, hf⟩ := h
  cases e
  obtain ⟨l, n1, n2, n3⟩ := list_open (g := fun n : Int => [i64 n]) (p := fun n => inK .i64 n) 0 (fun i hi => int_open Try.underlying3 (hf i hi))
  rw [cells3]
  exact ⟨l, n3 4, by rw [n1]; exact hl, n2⟩
theorem arr2_open {x : AV} (h : TyA Try.prog 4 40 x) : ∃ a b : Int, AVE 5 x (.agg [i64 a, i64 b]) ∧ inK .i64 a ∧ inK .i64 b := by
  simp only [TyA, Try.underlying40] at h
  obtain ⟨xs, rfl, h⟩ := h
  unfold TyC at h
  simp only [Try.underlying40] at h
  obtain ⟨ps, rfl, hn, h⟩ := h
  match ps, hn with
  | [p, q], _ =>
    obtain ⟨a, rfl, ha⟩ := int_open Try.underlying3 (h p (by simp))
    obtain ⟨b, rfl, hb⟩ := int_open Try.underlying3 (h q (by simp))
    exact ⟨a, b, ave2 a b, ha, hb⟩
theorem pair_open {t : TypeId} {fs : Array Field} (hu : Try.prog.underlying t = some (.struct fs)) (hf : fs.toList.map (·.type) = [3, 3]) {x : AV} (h : TyA Try.prog 4 t x) : ∃ a b : Int, AVE 5 x (.agg [i64 a, i64 b]) ∧ inK .i64 a ∧ inK .i64 b := by
  simp only [TyA, hu] at h
  obtain ⟨xs, rfl, h⟩ := h
  unfold TyC at h
  simp only [hu] at h
  obtain ⟨ps, rfl, h⟩ := h
  generalize fs.toList = L at hf h
  match L with
  | [] => simp at hf
  | [_] => simp at hf
  | _ :: _ :: _ :: _ => simp at hf
  | [f, g] =>
    simp only [List.map_cons, List.map_nil, List.cons.injEq, and_true] at hf
    obtain ⟨p, q, rfl, h1, h2⟩ := all2_2 h
    rw [hf.1] at h1
    rw [hf.2] at h2
    obtain ⟨a, rfl, ha⟩ := int_open Try.underlying3 h1
    obtain ⟨b, rfl, hb⟩ := int_open Try.underlying3 h2
    exact ⟨a, b, ave2 a b, ha, hb⟩
theorem range_open {x : AV} (h : TyA Try.prog 4 43 x) : ∃ a b : Int, AVE 5 x (.agg [i64 a, i64 b]) ∧ inK .i64 a ∧ inK .i64 b := pair_open Try.underlying43 rfl h
theorem way_open {x : AV} (h : TyA Try.prog 4 87 x) : ∃ a b : Int, AVE 5 x (.agg [i64 a, i64 b]) ∧ inK .i64 a ∧ inK .i64 b := pair_open Try.underlying87 rfl h
end Go.Tr

namespace Go.Proofs.Ytkomdfgffgkphaa
open Go.ChangeShapes Go.WideShapes Go.ChangeAt Go.RowKit Go.Tr
theorem Try.own : ownKnob Try.prog.godebug = none := by kernel_rfl
theorem Try.laidOut : laidOutB Try.prog = true := by kernel_rfl
end Go.Proofs.Ytkomdfgffgkphaa

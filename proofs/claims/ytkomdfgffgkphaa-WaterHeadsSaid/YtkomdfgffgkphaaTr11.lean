/- The law WaterReaches returns true. Conditions: none. -/
import Derived.Test.YtkomdfgffgkphaaTr07
import Derived.Test.YtkomdfgffgkphaaTr10
import Derived.Test.YtkomdfgffgkphaaTr09

namespace Go.Tr
open Go Go.Proofs
set_option maxRecDepth 20000
set_option maxHeartbeats 8000000

theorem S29ex (N : Net) (hN : N.In) (k : Int) : ∃ L E, SP 29 [netV N, i64 k] (.tuple [ints L, i64 E]) false ∧
    (netE N ≠ 0 ∧ E = netE N ∧ L = [] ∨ netE N = 0 ∧ ndE N k ≠ 0 ∧ E = ndE N k ∧ L = [] ∨ netE N = 0 ∧ ndE N k = 0 ∧ E = 0 ∧ L = whereF 0 (reachB N k)) := by
  refine ⟨_, _, S29 N hN k, ?_⟩
  rw [firstOf2]
  by_cases h1 : netE N = 0
  · rw [if_pos h1]
    by_cases h2 : ndE N k = 0
    · rw [if_pos h2, if_pos rfl]; exact .inr (.inr ⟨h1, h2, rfl, rfl⟩)
    · rw [if_neg h2, if_neg h2]; exact .inr (.inl ⟨h1, h2, rfl, rfl⟩)
  · rw [if_neg h1, if_neg h1]; exact .inl ⟨h1, rfl, rfl⟩
theorem S30ex (N : Net) (hN : N.In) : ∃ L, SP 30 [netV N] (.tuple [ints L, i64 (netE N)]) false ∧ (netE N ≠ 0 ∧ L = [] ∨ netE N = 0 ∧ L = whereF 0 (wetB N)) := by
  refine ⟨_, S30 N hN, ?_⟩
  by_cases h1 : netE N = 0
  · rw [if_pos h1]; exact .inr ⟨h1, rfl⟩
  · rw [if_neg h1]; exact .inl ⟨h1, rfl⟩
theorem S31ex (N : Net) (hN : N.In) (k : Int) : ∃ L E, SP 31 [netV N, i64 k] (.tuple [ints L, i64 E]) false ∧
    (netE N ≠ 0 ∧ E = netE N ∧ L = [] ∨ netE N = 0 ∧ ¬ (0 ≤ k ∧ k ≤ (N.cs.length : Int) - 1) ∧ E = 6 ∧ L = [] ∨
      netE N = 0 ∧ (0 ≤ k ∧ k ≤ (N.cs.length : Int) - 1) ∧ (N.cs.getD k.toNat cn0).valve = false ∧ E = 12 ∧ L = [] ∨
      netE N = 0 ∧ (0 ≤ k ∧ k ≤ (N.cs.length : Int) - 1) ∧ (N.cs.getD k.toNat cn0).valve = true ∧ E = 0 ∧ L = whereF 0 (fillB N k.toNat)) := by
  refine ⟨_, _, S31 N hN k, ?_⟩
  unfold fillE
  rw [firstOf2]
  by_cases h1 : netE N = 0
  · rw [if_pos h1]
    unfold conN
    by_cases h2 : 0 ≤ k ∧ k ≤ (N.cs.length : Int) - 1
    · have e : (if decide (0 ≤ k ∧ k ≤ (N.cs.length : Int) - 1) = true then (0 : Int) else 6) = 0 := if_pos (decide_eq_true h2)
      rw [e]
      cases hv : (N.cs.getD k.toNat cn0).valve with
      | true => exact .inr (.inr (.inr ⟨h1, h2, rfl, rfl, rfl⟩))
      | false => exact .inr (.inr (.inl ⟨h1, h2, rfl, rfl, rfl⟩))
    · have e : (if decide (0 ≤ k ∧ k ≤ (N.cs.length : Int) - 1) = true then (0 : Int) else 6) = 6 := if_neg (by simpa using h2)
      rw [e]
      exact .inr (.inl ⟨h1, h2, rfl, rfl⟩)
  · rw [if_neg h1, if_neg h1, if_neg h1]; exact .inl ⟨h1, rfl, rfl⟩

set_option maxHeartbeats 0 in
theorem S5 (N : Net) (hN : N.In) (k c : Int) : SP 5 [netV N, i64 k, i64 c] (vb true) false := by
  have hn := hN.nl
  cases hf : fewB N with
  | false =>
    have h15 := S15 N hN
    rw [hf] at h15
    refine sound (d := 2) tok2 mixed2 Try.func5 (by kernel_rfl) (by kernel_rfl) ?_
    conv => whnf
    refine .inl ⟨_, _, byX rfl (Sound1.pl (S14) rfl), ?_⟩
    conv => whnf
    refine .inl ⟨_, _, byX rfl (Sound1.pl (h15) rfl), ?_⟩
    conv => whnf
    refine ⟨?_, nofun⟩
    (rfl)
  | true =>
    obtain ⟨b1, b2⟩ := few_bounds hf
    obtain ⟨L1, E1, h29, q1⟩ := S29ex N hN k
    obtain ⟨L2, h30, q2⟩ := S30ex N hN
    obtain ⟨L3, E3, h31, q3⟩ := S31ex N hN c
    have h15 := S15 N hN
    rw [hf] at h15
    have h17 := S17 N (by omega) (by omega)
    have h32 := S32 N hN
    have h33 := S33 N hn k
    by_cases hE : netE N = 0
    · have hok := net_ok hE
      replace q2 : L2 = whereF 0 (wetB N) := by
        rcases q2 with ⟨e, _⟩ | ⟨_, e⟩
        · exact absurd hE e
        · exact e
      subst q2
      have l2 := whereF_len (wetB N) 0
      rw [wetB_len] at l2
      have h36 := S36 N (by omega) (by omega) hok.ends
      have h34b := S34 (whereF 0 (wetB N)) (whereF 0 (wetB N)) (by omega) (by omega)
      rcases q1 with ⟨e, _⟩ | ⟨_, e1, e2, rfl⟩ | ⟨_, e1, e2, rfl⟩
      · exact absurd hE e
      · rcases q3 with ⟨e, _⟩ | ⟨_, f1, f2, rfl⟩ | ⟨_, f1, f2, f3, rfl⟩ | ⟨_, f1, f2, f3, rfl⟩
        · exact absurd hE e
        · refine sound (d := 2) tok2 mixed2 Try.func5 (by kernel_rfl) (by kernel_rfl) ?_
          conv => whnf
          refine .inl ⟨_, _, byX rfl (Sound1.pl (S14) rfl), ?_⟩
          conv => whnf
          refine .inl ⟨_, _, byX rfl (Sound1.pl (h15) rfl), ?_⟩
          conv => whnf
          refine .inl ⟨_, _, byX rfl (h17), ?_⟩
          conv => whnf
          refine .inl ⟨_, _, byX rfl (h29), ?_⟩
          conv => whnf
          refine .inl ⟨_, _, byX rfl (h17), ?_⟩
          conv => whnf
          refine .inl ⟨_, _, byX rfl (h30), ?_⟩
          conv => whnf
          refine .inl ⟨_, _, byX rfl (h17), ?_⟩
          conv => whnf
          refine .inl ⟨_, _, byX rfl (h31), ?_⟩
          conv => whnf
          refine .inl ⟨_, _, byX rfl (Sound1.pl (h32) rfl), ?_⟩
          conv => whnf
          refine ifB_bne (fun w1 => ?_) (fun w1 => ?_)
          · (exfalso; omega)
          · conv => whnf
            refine .inl ⟨_, _, byX rfl (Sound1.pl (h33) rfl), ?_⟩
            conv => whnf
            refine ifB_bne (fun w2 => ?_) (fun w2 => ?_)
            · conv => whnf
              refine ifB_bne (fun w3 => ?_) (fun w3 => ?_)
              · (exfalso; omega)
              · conv => whnf
                refine ifB_beq (fun w4 => ?_) (fun w4 => ?_)
                · (exfalso; omega)
                · conv => whnf
                  refine ifB_bne (fun w5 => ?_) (fun w5 => ?_)
                  · (exfalso; omega)
                  · conv => whnf
                    refine .inl ⟨_, _, byX rfl (h36), ?_⟩
                    conv => whnf
                    refine .inl ⟨_, _, byX rfl (Sound1.pl (h34b) rfl), ?_⟩
                    conv => whnf
                    refine ifB_not ?_
                    conv => whnf
                    refine ifB_dec (fun w6 => ?_) (fun w6 => ?_)
                    · conv => whnf
                      refine ⟨inK64 (by omega) (by omega), ?_⟩
                      conv => whnf
                      refine .inl ⟨_, _, byX rfl (Sound1.pl (S20 _ _ _) rfl), ?_⟩
                      conv => whnf
                      refine ifB_not ?_
                      conv => whnf
                      refine ifB_dec (fun w7 => ?_) (fun w7 => ?_)
                      · (exfalso; omega)
                      · conv => whnf
                        refine ifB_beq (fun w8 => ?_) (fun w8 => ?_)
                        · conv => whnf
                          refine ⟨?_, nofun⟩
                          (rfl)
                        · (exfalso; omega)
                    · exact absurd rfl w6
            · (exfalso; omega)
        · refine sound (d := 2) tok2 mixed2 Try.func5 (by kernel_rfl) (by kernel_rfl) ?_
          conv => whnf
          refine .inl ⟨_, _, byX rfl (Sound1.pl (S14) rfl), ?_⟩
          conv => whnf
          refine .inl ⟨_, _, byX rfl (Sound1.pl (h15) rfl), ?_⟩
          conv => whnf
          refine .inl ⟨_, _, byX rfl (h17), ?_⟩
          conv => whnf
          refine .inl ⟨_, _, byX rfl (h29), ?_⟩
          conv => whnf
          refine .inl ⟨_, _, byX rfl (h17), ?_⟩
          conv => whnf
          refine .inl ⟨_, _, byX rfl (h30), ?_⟩
          conv => whnf
          refine .inl ⟨_, _, byX rfl (h17), ?_⟩
          conv => whnf
          refine .inl ⟨_, _, byX rfl (h31), ?_⟩
          conv => whnf
          refine .inl ⟨_, _, byX rfl (Sound1.pl (h32) rfl), ?_⟩
          conv => whnf
          refine ifB_bne (fun w1 => ?_) (fun w1 => ?_)
          · (exfalso; omega)
          · conv => whnf
            refine .inl ⟨_, _, byX rfl (Sound1.pl (h33) rfl), ?_⟩
            conv => whnf
            refine ifB_bne (fun w2 => ?_) (fun w2 => ?_)
            · conv => whnf
              refine ifB_bne (fun w3 => ?_) (fun w3 => ?_)
              · (exfalso; omega)
              · conv => whnf
                refine ifB_beq (fun w4 => ?_) (fun w4 => ?_)
                · (exfalso; omega)
                · conv => whnf
                  refine ifB_bne (fun w5 => ?_) (fun w5 => ?_)
                  · (exfalso; omega)
                  · conv => whnf
                    refine .inl ⟨_, _, byX rfl (h36), ?_⟩
                    conv => whnf
                    refine .inl ⟨_, _, byX rfl (Sound1.pl (h34b) rfl), ?_⟩
                    conv => whnf
                    refine ifB_not ?_
                    conv => whnf
                    refine ifB_dec (fun w6 => ?_) (fun w6 => ?_)
                    · conv => whnf
                      refine ⟨inK64 (by omega) (by omega), ?_⟩
                      conv => whnf
                      refine .inl ⟨_, _, byX rfl (Sound1.pl (S20 _ _ _) rfl), ?_⟩
                      conv => whnf
                      refine ifB_not ?_
                      conv => whnf
                      refine ifB_dec (fun w7 => ?_) (fun w7 => ?_)
                      · conv => whnf
                        refine ⟨⟨(by omega), (by omega)⟩, ?_⟩
                        conv => whnf
                        refine ifB_not ?_
                        conv => whnf
                        refine ifB_intro (fun w8 => ?_) (fun w8 => ?_)
                        · exact absurd (f2.symm.trans w8) nofun
                        · conv => whnf
                          refine ifB_beq (fun w9 => ?_) (fun w9 => ?_)
                          · conv => whnf
                            refine ⟨?_, nofun⟩
                            (rfl)
                          · (exfalso; omega)
                      · (exfalso; omega)
                    · exact absurd rfl w6
            · (exfalso; omega)
        · have l3 := whereF_len (fillB N c.toNat) 0
          rw [fillB_len] at l3
          have h37 := S37 N c.toNat (by omega) (by omega) (by omega) hok.ends
          rw [show ((c.toNat : Nat) : Int) = c by omega] at h37
          have h34c := S34 (whereF 0 (fillB N c.toNat)) (whereF 0 (fillB N c.toNat)) (by omega) (by omega)
          refine sound (d := 2) tok2 mixed2 Try.func5 (by kernel_rfl) (by kernel_rfl) ?_
          conv => whnf
          refine .inl ⟨_, _, byX rfl (Sound1.pl (S14) rfl), ?_⟩
          conv => whnf
          refine .inl ⟨_, _, byX rfl (Sound1.pl (h15) rfl), ?_⟩
          conv => whnf
          refine .inl ⟨_, _, byX rfl (h17), ?_⟩
          conv => whnf
          refine .inl ⟨_, _, byX rfl (h29), ?_⟩
          conv => whnf
          refine .inl ⟨_, _, byX rfl (h17), ?_⟩
          conv => whnf
          refine .inl ⟨_, _, byX rfl (h30), ?_⟩
          conv => whnf
          refine .inl ⟨_, _, byX rfl (h17), ?_⟩
          conv => whnf
          refine .inl ⟨_, _, byX rfl (h31), ?_⟩
          conv => whnf
          refine .inl ⟨_, _, byX rfl (Sound1.pl (h32) rfl), ?_⟩
          conv => whnf
          refine ifB_bne (fun w1 => ?_) (fun w1 => ?_)
          · (exfalso; omega)
          · conv => whnf
            refine .inl ⟨_, _, byX rfl (Sound1.pl (h33) rfl), ?_⟩
            conv => whnf
            refine ifB_bne (fun w2 => ?_) (fun w2 => ?_)
            · conv => whnf
              refine ifB_bne (fun w3 => ?_) (fun w3 => ?_)
              · (exfalso; omega)
              · conv => whnf
                refine ifB_beq (fun w4 => ?_) (fun w4 => ?_)
                · (exfalso; omega)
                · conv => whnf
                  refine ifB_bne (fun w5 => ?_) (fun w5 => ?_)
                  · (exfalso; omega)
                  · conv => whnf
                    refine .inl ⟨_, _, byX rfl (h36), ?_⟩
                    conv => whnf
                    refine .inl ⟨_, _, byX rfl (Sound1.pl (h34b) rfl), ?_⟩
                    conv => whnf
                    refine ifB_not ?_
                    conv => whnf
                    refine ifB_dec (fun w6 => ?_) (fun w6 => ?_)
                    · conv => whnf
                      refine ⟨inK64 (by omega) (by omega), ?_⟩
                      conv => whnf
                      refine .inl ⟨_, _, byX rfl (Sound1.pl (S20 _ _ _) rfl), ?_⟩
                      conv => whnf
                      refine ifB_not ?_
                      conv => whnf
                      refine ifB_dec (fun w7 => ?_) (fun w7 => ?_)
                      · conv => whnf
                        refine ⟨⟨(by omega), (by omega)⟩, ?_⟩
                        conv => whnf
                        refine ifB_not ?_
                        conv => whnf
                        refine ifB_intro (fun w8 => ?_) (fun w8 => ?_)
                        · conv => whnf
                          refine ifB_beq (fun w9 => ?_) (fun w9 => ?_)
                          · conv => whnf
                            refine .inl ⟨_, _, byX rfl (h37), ?_⟩
                            conv => whnf
                            refine .inl ⟨_, _, byX rfl (Sound1.pl (h34c) rfl), ?_⟩
                            conv => whnf
                            refine ⟨?_, nofun⟩
                            show vb (decide (_ = _)) = vb true
                            rw [decide_eq_true rfl]
                          · (exfalso; omega)
                        · exact absurd (f2.symm.trans w8) nofun
                      · (exfalso; omega)
                    · exact absurd rfl w6
            · (exfalso; omega)
      · have hk : 0 ≤ k ∧ k ≤ (N.ns.length : Int) - 1 := by
          unfold ndE at e1
          split at e1
          · assumption
          · cases e1
        have l1 := whereF_len (reachB N k) 0
        rw [reachB_len] at l1
        have h35 := S35 N k hk.1 (by omega) (by omega) (by omega) hok.ends
        have h34a := S34 (whereF 0 (reachB N k)) (whereF 0 (reachB N k)) (by omega) (by omega)
        rcases q3 with ⟨e, _⟩ | ⟨_, f1, f2, rfl⟩ | ⟨_, f1, f2, f3, rfl⟩ | ⟨_, f1, f2, f3, rfl⟩
        · exact absurd hE e
        · refine sound (d := 2) tok2 mixed2 Try.func5 (by kernel_rfl) (by kernel_rfl) ?_
          conv => whnf
          refine .inl ⟨_, _, byX rfl (Sound1.pl (S14) rfl), ?_⟩
          conv => whnf
          refine .inl ⟨_, _, byX rfl (Sound1.pl (h15) rfl), ?_⟩
          conv => whnf
          refine .inl ⟨_, _, byX rfl (h17), ?_⟩
          conv => whnf
          refine .inl ⟨_, _, byX rfl (h29), ?_⟩
          conv => whnf
          refine .inl ⟨_, _, byX rfl (h17), ?_⟩
          conv => whnf
          refine .inl ⟨_, _, byX rfl (h30), ?_⟩
          conv => whnf
          refine .inl ⟨_, _, byX rfl (h17), ?_⟩
          conv => whnf
          refine .inl ⟨_, _, byX rfl (h31), ?_⟩
          conv => whnf
          refine .inl ⟨_, _, byX rfl (Sound1.pl (h32) rfl), ?_⟩
          conv => whnf
          refine ifB_bne (fun w1 => ?_) (fun w1 => ?_)
          · (exfalso; omega)
          · conv => whnf
            refine .inl ⟨_, _, byX rfl (Sound1.pl (h33) rfl), ?_⟩
            conv => whnf
            refine ifB_bne (fun w2 => ?_) (fun w2 => ?_)
            · (exfalso; omega)
            · conv => whnf
              refine ifB_beq (fun w3 => ?_) (fun w3 => ?_)
              · conv => whnf
                refine ifB_bne (fun w4 => ?_) (fun w4 => ?_)
                · (exfalso; omega)
                · conv => whnf
                  refine .inl ⟨_, _, byX rfl (h35), ?_⟩
                  conv => whnf
                  refine .inl ⟨_, _, byX rfl (Sound1.pl (h34a) rfl), ?_⟩
                  conv => whnf
                  refine ifB_not ?_
                  conv => whnf
                  refine ifB_dec (fun w5 => ?_) (fun w5 => ?_)
                  · conv => whnf
                    refine ifB_bne (fun w6 => ?_) (fun w6 => ?_)
                    · (exfalso; omega)
                    · conv => whnf
                      refine .inl ⟨_, _, byX rfl (h36), ?_⟩
                      conv => whnf
                      refine .inl ⟨_, _, byX rfl (Sound1.pl (h34b) rfl), ?_⟩
                      conv => whnf
                      refine ifB_not ?_
                      conv => whnf
                      refine ifB_dec (fun w7 => ?_) (fun w7 => ?_)
                      · conv => whnf
                        refine ⟨inK64 (by omega) (by omega), ?_⟩
                        conv => whnf
                        refine .inl ⟨_, _, byX rfl (Sound1.pl (S20 _ _ _) rfl), ?_⟩
                        conv => whnf
                        refine ifB_not ?_
                        conv => whnf
                        refine ifB_dec (fun w8 => ?_) (fun w8 => ?_)
                        · (exfalso; omega)
                        · conv => whnf
                          refine ifB_beq (fun w9 => ?_) (fun w9 => ?_)
                          · conv => whnf
                            refine ⟨?_, nofun⟩
                            (rfl)
                          · (exfalso; omega)
                      · exact absurd rfl w7
                  · exact absurd rfl w5
              · (exfalso; omega)
        · refine sound (d := 2) tok2 mixed2 Try.func5 (by kernel_rfl) (by kernel_rfl) ?_
          conv => whnf
          refine .inl ⟨_, _, byX rfl (Sound1.pl (S14) rfl), ?_⟩
          conv => whnf
          refine .inl ⟨_, _, byX rfl (Sound1.pl (h15) rfl), ?_⟩
          conv => whnf
          refine .inl ⟨_, _, byX rfl (h17), ?_⟩
          conv => whnf
          refine .inl ⟨_, _, byX rfl (h29), ?_⟩
          conv => whnf
          refine .inl ⟨_, _, byX rfl (h17), ?_⟩
          conv => whnf
          refine .inl ⟨_, _, byX rfl (h30), ?_⟩
          conv => whnf
          refine .inl ⟨_, _, byX rfl (h17), ?_⟩
          conv => whnf
          refine .inl ⟨_, _, byX rfl (h31), ?_⟩
          conv => whnf
          refine .inl ⟨_, _, byX rfl (Sound1.pl (h32) rfl), ?_⟩
          conv => whnf
          refine ifB_bne (fun w1 => ?_) (fun w1 => ?_)
          · (exfalso; omega)
          · conv => whnf
            refine .inl ⟨_, _, byX rfl (Sound1.pl (h33) rfl), ?_⟩
            conv => whnf
            refine ifB_bne (fun w2 => ?_) (fun w2 => ?_)
            · (exfalso; omega)
            · conv => whnf
              refine ifB_beq (fun w3 => ?_) (fun w3 => ?_)
              · conv => whnf
                refine ifB_bne (fun w4 => ?_) (fun w4 => ?_)
                · (exfalso; omega)
                · conv => whnf
                  refine .inl ⟨_, _, byX rfl (h35), ?_⟩
                  conv => whnf
                  refine .inl ⟨_, _, byX rfl (Sound1.pl (h34a) rfl), ?_⟩
                  conv => whnf
                  refine ifB_not ?_
                  conv => whnf
                  refine ifB_dec (fun w5 => ?_) (fun w5 => ?_)
                  · conv => whnf
                    refine ifB_bne (fun w6 => ?_) (fun w6 => ?_)
                    · (exfalso; omega)
                    · conv => whnf
                      refine .inl ⟨_, _, byX rfl (h36), ?_⟩
                      conv => whnf
                      refine .inl ⟨_, _, byX rfl (Sound1.pl (h34b) rfl), ?_⟩
                      conv => whnf
                      refine ifB_not ?_
                      conv => whnf
                      refine ifB_dec (fun w7 => ?_) (fun w7 => ?_)
                      · conv => whnf
                        refine ⟨inK64 (by omega) (by omega), ?_⟩
                        conv => whnf
                        refine .inl ⟨_, _, byX rfl (Sound1.pl (S20 _ _ _) rfl), ?_⟩
                        conv => whnf
                        refine ifB_not ?_
                        conv => whnf
                        refine ifB_dec (fun w8 => ?_) (fun w8 => ?_)
                        · conv => whnf
                          refine ⟨⟨(by omega), (by omega)⟩, ?_⟩
                          conv => whnf
                          refine ifB_not ?_
                          conv => whnf
                          refine ifB_intro (fun w9 => ?_) (fun w9 => ?_)
                          · exact absurd (f2.symm.trans w9) nofun
                          · conv => whnf
                            refine ifB_beq (fun w10 => ?_) (fun w10 => ?_)
                            · conv => whnf
                              refine ⟨?_, nofun⟩
                              (rfl)
                            · (exfalso; omega)
                        · (exfalso; omega)
                      · exact absurd rfl w7
                  · exact absurd rfl w5
              · (exfalso; omega)
        · have l3 := whereF_len (fillB N c.toNat) 0
          rw [fillB_len] at l3
          have h37 := S37 N c.toNat (by omega) (by omega) (by omega) hok.ends
          rw [show ((c.toNat : Nat) : Int) = c by omega] at h37
          have h34c := S34 (whereF 0 (fillB N c.toNat)) (whereF 0 (fillB N c.toNat)) (by omega) (by omega)
          refine sound (d := 2) tok2 mixed2 Try.func5 (by kernel_rfl) (by kernel_rfl) ?_
          conv => whnf
          refine .inl ⟨_, _, byX rfl (Sound1.pl (S14) rfl), ?_⟩
          conv => whnf
          refine .inl ⟨_, _, byX rfl (Sound1.pl (h15) rfl), ?_⟩
          conv => whnf
          refine .inl ⟨_, _, byX rfl (h17), ?_⟩
          conv => whnf
          refine .inl ⟨_, _, byX rfl (h29), ?_⟩
          conv => whnf
          refine .inl ⟨_, _, byX rfl (h17), ?_⟩
          conv => whnf
          refine .inl ⟨_, _, byX rfl (h30), ?_⟩
          conv => whnf
          refine .inl ⟨_, _, byX rfl (h17), ?_⟩
          conv => whnf
          refine .inl ⟨_, _, byX rfl (h31), ?_⟩
          conv => whnf
          refine .inl ⟨_, _, byX rfl (Sound1.pl (h32) rfl), ?_⟩
          conv => whnf
          refine ifB_bne (fun w1 => ?_) (fun w1 => ?_)
          · (exfalso; omega)
          · conv => whnf
            refine .inl ⟨_, _, byX rfl (Sound1.pl (h33) rfl), ?_⟩
            conv => whnf
            refine ifB_bne (fun w2 => ?_) (fun w2 => ?_)
            · (exfalso; omega)
            · conv => whnf
              refine ifB_beq (fun w3 => ?_) (fun w3 => ?_)
              · conv => whnf
                refine ifB_bne (fun w4 => ?_) (fun w4 => ?_)
                · (exfalso; omega)
                · conv => whnf
                  refine .inl ⟨_, _, byX rfl (h35), ?_⟩
                  conv => whnf
                  refine .inl ⟨_, _, byX rfl (Sound1.pl (h34a) rfl), ?_⟩
                  conv => whnf
                  refine ifB_not ?_
                  conv => whnf
                  refine ifB_dec (fun w5 => ?_) (fun w5 => ?_)
                  · conv => whnf
                    refine ifB_bne (fun w6 => ?_) (fun w6 => ?_)
                    · (exfalso; omega)
                    · conv => whnf
                      refine .inl ⟨_, _, byX rfl (h36), ?_⟩
                      conv => whnf
                      refine .inl ⟨_, _, byX rfl (Sound1.pl (h34b) rfl), ?_⟩
                      conv => whnf
                      refine ifB_not ?_
                      conv => whnf
                      refine ifB_dec (fun w7 => ?_) (fun w7 => ?_)
                      · conv => whnf
                        refine ⟨inK64 (by omega) (by omega), ?_⟩
                        conv => whnf
                        refine .inl ⟨_, _, byX rfl (Sound1.pl (S20 _ _ _) rfl), ?_⟩
                        conv => whnf
                        refine ifB_not ?_
                        conv => whnf
                        refine ifB_dec (fun w8 => ?_) (fun w8 => ?_)
                        · conv => whnf
                          refine ⟨⟨(by omega), (by omega)⟩, ?_⟩
                          conv => whnf
                          refine ifB_not ?_
                          conv => whnf
                          refine ifB_intro (fun w9 => ?_) (fun w9 => ?_)
                          · conv => whnf
                            refine ifB_beq (fun w10 => ?_) (fun w10 => ?_)
                            · conv => whnf
                              refine .inl ⟨_, _, byX rfl (h37), ?_⟩
                              conv => whnf
                              refine .inl ⟨_, _, byX rfl (Sound1.pl (h34c) rfl), ?_⟩
                              conv => whnf
                              refine ⟨?_, nofun⟩
                              show vb (decide (_ = _)) = vb true
                              rw [decide_eq_true rfl]
                            · (exfalso; omega)
                          · exact absurd (f2.symm.trans w9) nofun
                        · (exfalso; omega)
                      · exact absurd rfl w7
                  · exact absurd rfl w5
              · (exfalso; omega)
    · replace q1 : E1 = netE N ∧ L1 = [] := by
        rcases q1 with ⟨_, e⟩ | ⟨e, _⟩ | ⟨e, _⟩
        · exact e
        · exact absurd e hE
        · exact absurd e hE
      replace q2 : L2 = [] := by
        rcases q2 with ⟨_, e⟩ | ⟨e, _⟩
        · exact e
        · exact absurd e hE
      replace q3 : E3 = netE N ∧ L3 = [] := by
        rcases q3 with ⟨_, e⟩ | ⟨e, _⟩ | ⟨e, _⟩ | ⟨e, _⟩
        · exact e
        · exact absurd e hE
        · exact absurd e hE
        · exact absurd e hE
      obtain ⟨e1, rfl⟩ := q1
      subst q2
      obtain ⟨e3, rfl⟩ := q3
      refine sound (d := 2) tok2 mixed2 Try.func5 (by kernel_rfl) (by kernel_rfl) ?_
      conv => whnf
      refine .inl ⟨_, _, byX rfl (Sound1.pl (S14) rfl), ?_⟩
      conv => whnf
      refine .inl ⟨_, _, byX rfl (Sound1.pl (h15) rfl), ?_⟩
      conv => whnf
      refine .inl ⟨_, _, byX rfl (h17), ?_⟩
      conv => whnf
      refine .inl ⟨_, _, byX rfl (h29), ?_⟩
      conv => whnf
      refine .inl ⟨_, _, byX rfl (h17), ?_⟩
      conv => whnf
      refine .inl ⟨_, _, byX rfl (h30), ?_⟩
      conv => whnf
      refine .inl ⟨_, _, byX rfl (h17), ?_⟩
      conv => whnf
      refine .inl ⟨_, _, byX rfl (h31), ?_⟩
      conv => whnf
      refine .inl ⟨_, _, byX rfl (Sound1.pl (h32) rfl), ?_⟩
      conv => whnf
      refine ifB_bne (fun w1 => ?_) (fun w1 => ?_)
      · conv => whnf
        refine ifB_beq (fun w2 => ?_) (fun w2 => ?_)
        · conv => whnf
          refine ifB_beq (fun w3 => ?_) (fun w3 => ?_)
          · conv => whnf
            refine ifB_beq (fun w4 => ?_) (fun w4 => ?_)
            · conv => whnf
              refine ⟨?_, ?_⟩
              · exact ⟨by decide, by decide⟩
              · conv => whnf
                refine ⟨?_, ?_⟩
                · exact ⟨by decide, by decide⟩
                · conv => whnf
                  refine ⟨?_, nofun⟩
                  (rfl)
            · (exfalso; omega)
          · (exfalso; omega)
        · (exfalso; omega)
      · (exfalso; omega)
end Go.Tr

/- The law WaterTwoSigns returns true. Conditions: none. -/
namespace Go.Tr
open Go Go.Proofs
set_option maxRecDepth 20000
set_option maxHeartbeats 8000000

/-- Flows at the two ends of a circulation. -/
theorem steady_flow {N : Net} (hok : N.Ok) (hF : (clF N).2 = 0) (hq : flatQ N (brF N) (clF N).1 = false) (i : Nat) (hi : i < N.cs.length) :
    -1000000 ≤ ((steadyF N (brF N) (clF N).1).1.getD i (0, 0)).1 ∧ ((steadyF N (brF N) (clF N).1).1.getD i (0, 0)).1 ≤ 1000000 ∧ ((steadyF N (brF N) (clF N).1).1.getD i (0, 0)).1 ≤ ((steadyF N (brF N) (clF N).1).1.getD i (0, 0)).2 ∧ ((steadyF N (brF N) (clF N).1).1.getD i (0, 0)).2 ≤ ((steadyF N (brF N) (clF N).1).1.getD i (0, 0)).1 + 1 := by
  have hS := stOk hok
  have hne := net_ne hok hS.cl
  obtain ⟨b1, b2, b3, b4⟩ := circ_bd hS hne hq
  have lA := state_len N (brF N) (clF N).1 (circF N (brF N) (clF N).1).1
  have lB := state_len N (brF N) (clF N).1 (circF N (brF N) (clF N).1).2
  have kA := (kept_ok hok hF b1).bd i
  have kB := (kept_ok hok hF b2).bd i
  have hd : -1 ≤ (stateF N (brF N) (clF N).1 (circF N (brF N) (clF N).1).2).1.getD i 0 - (stateF N (brF N) (clF N).1 (circF N (brF N) (clF N).1).1).1.getD i 0 ∧ (stateF N (brF N) (clF N).1 (circF N (brF N) (clF N).1).2).1.getD i 0 - (stateF N (brF N) (clF N).1 (circF N (brF N) (clF N).1).1).1.getD i 0 ≤ 1 := by
    by_cases hc : (clF N).1 < 0
    · have e : circF N (brF N) (clF N).1 = (0, 0) := by unfold circF; rw [if_pos hc]
      rw [e]; simp only; omega
    · generalize circF N (brF N) (clF N).1 = x at *
      have hs := st0_diff (N := N) (q := x.1) (q' := x.2) hS.ends (by omega) hS.cl (hne (by omega))
      have := flow_diff (D := x.2 - x.1) (by omega) (brF N) (lakesB N) (st0 N (clF N).1 x.1) (st0 N (clF N).1 x.2) (lakesB_len N) (st0_len1 N _ _) (st0_len1 N _ _) (by rw [st0_len0, st0_len0]) hS.tr hs (fun j => by
        unfold st0
        rw [if_neg hc, if_neg hc]
        show _ ≤ ((List.replicate N.cs.length (0 : Int)).set _ _).getD j 0 - ((List.replicate N.cs.length (0 : Int)).set _ _).getD j 0 ∧ ((List.replicate N.cs.length (0 : Int)).set _ _).getD j 0 - ((List.replicate N.cs.length (0 : Int)).set _ _).getD j 0 ≤ _
        rw [getD_setI, getD_setI]
        split <;> omega) i
      unfold stateF
      simp only
      omega
  unfold steadyF
  simp only
  rw [rngL_getD lA.1 lB.1 hi]
  simp only
  refine ⟨?_, ?_, ?_, ?_⟩ <;> (split <;> (try split) <;> omega)
/-- The gap at both ends. -/
theorem steady_gap {N : Net} (hok : N.Ok) (hc : 0 ≤ (clF N).1) (hq : flatQ N (brF N) (clF N).1 = false) :
    (gapF N (brF N) (clF N).1 (circF N (brF N) (clF N).1).1 = 0 ∧ (circF N (brF N) (clF N).1).1 = (circF N (brF N) (clF N).1).2) ∨ (gapF N (brF N) (clF N).1 (circF N (brF N) (clF N).1).1 < 0 ∧ 0 < gapF N (brF N) (clF N).1 (circF N (brF N) (clF N).1).2) := by
  have hS := stOk hok
  have h := circ_spec hS hc (net_ne hok hS.cl hc) (flatQ_of hq hc)
  unfold circF
  rw [if_neg (by omega)]
  split
  · rename_i e
    exact .inl ⟨e, rfl⟩
  · exact .inr ⟨h.2.2.2, by simp only; omega⟩
theorem chk_iff {N : Net} (h : flowE N = 0) (x : Int × Int) : chkE N x = 0 ↔ x = circF N (brF N) (clF N).1 := by
  have hk := flowE_ok h
  have hn := formE_ok hk.1
  have hok := net_ok hn.1
  have hS := stOk hok
  have hne := net_ne hok hS.cl
  have hp := proves_iff hS hne (flatQ_of hk.2) x
  obtain ⟨b1, b2, b3, b4⟩ := circ_bd hS hne hk.2
  unfold chkE
  constructor
  · intro hx
    split at hx
    · rw [hk.2] at hx
      simp only [Bool.false_eq_true, if_false] at hx
      split at hx
      · exact hp.1 (by assumption)
      · cases hx
    · contradiction
  · intro e
    have hp := hp.2 e
    have c1 : crE x.1 = 0 := by unfold crE; rw [e, decide_eq_true b1]; rfl
    have c2 : crE x.2 = 0 := by unfold crE; rw [e, decide_eq_true b2]; rfl
    have h0 : chk0 N x = 0 := by
      unfold chk0
      rw [firstOf4, if_pos hk.1, if_pos c1, if_pos c2, decide_eq_true (by rw [e]; exact b3)]
      rfl
    rw [if_pos h0, hk.2, hp]; rfl

set_option maxHeartbeats 0 in
theorem S10 (N : Net) (hN : N.In) (x y : Int) : SP 10 [netV N, .agg [i64 x, i64 y]] (vb true) false := by
  have h15 := S15 N hN
  cases hf : fewB N with
  | false =>
    rw [hf] at h15
    refine sound (d := 2) tok2 mixed2 Try.func10 (by kernel_rfl) (by kernel_rfl) ?_
    conv => whnf
    refine .inl ⟨_, _, byX rfl (Sound1.pl (S14) rfl), ?_⟩
    conv => whnf
    refine .inl ⟨_, _, byX rfl (Sound1.pl (h15) rfl), ?_⟩
    conv => whnf
    refine ⟨?_, nofun⟩
    (rfl)
  | true =>
    rw [hf] at h15
    obtain ⟨b1, b2⟩ := few_bounds hf
    have h38 := S38 N hN
    by_cases hF : formE N = 0
    · rw [hF] at h38
      have h17 := S17 N (by omega) (by omega)
      have hn := formE_ok hF
      have hok := net_ok hn.1
      have hS := stOk hok
      have hne := net_ne hok hS.cl
      have h48 := S48 N hN
      by_cases hE : flowE N = 0
      · rw [if_pos hE, hE] at h48
        have hq := (flowE_ok hE).2
        obtain ⟨q1, q2, q3, q4⟩ := circ_bd hS hne hq
        have hci := chk_iff hE
        have h49a := S49 N hN (circF N (brF N) (clF N).1).1 (circF N (brF N) (clF N).1).2
        rw [show chkE N ((circF N (brF N) (clF N).1).1, (circF N (brF N) (clF N).1).2) = 0 from (hci _).2 rfl] at h49a
        have h49b := S49 N hN x y
        have hcx := hci (x, y)
        have h50 := S50 N hN
        rw [if_pos hE, hE] at h50
        have hsf := steady_flow hok hn.2 hq
        have h39 := S39 N hN
        have h42a := S42 N hN (circF N (brF N) (clF N).1).1
        have h42b := S42 N hN (circF N (brF N) (clF N).1).2
        have hgp := fun h0 : 0 ≤ (clF N).1 => steady_gap hok h0 hq
        have hcd : (clF N).1 < 0 → circF N (brF N) (clF N).1 = (0, 0) := fun h => by unfold circF; rw [if_pos h]
        have hl : (steadyF N (brF N) (clF N).1).1.length = N.cs.length ∧ (steadyF N (brF N) (clF N).1).2.length = N.ns.length :=
          ⟨rngL_len (state_len N _ _ _).1 (state_len N _ _ _).1, rngL_len (state_len N _ _ _).2 (state_len N _ _ _).2⟩
        generalize chkE N (x, y) = E at h49b hcx
        generalize circF N (brF N) (clF N).1 = z at *
        generalize steadyF N (brF N) (clF N).1 = sd at *
        obtain ⟨z1, z2⟩ := z
        simp only at *
        change SP 48 [netV N] (.tuple [.agg [i64 z1, i64 z2], i64 0]) false at h48
        have hb : (E == 0) = vEqL [Value.int IntKind.i64 x, Value.int IntKind.i64 y] [Value.int IntKind.i64 z1, Value.int IntKind.i64 z2] := by
          rw [Bool.eq_iff_iff]
          simp only [vEqL, Bool.and_true, Bool.and_eq_true, beq_iff_eq]
          rw [hcx, Prod.mk.injEq]
        rw [Prod.mk.injEq] at hcd
        refine sound (d := 2) tok2 mixed2 Try.func10 (by kernel_rfl) (by kernel_rfl) ?_
        conv => whnf
        refine .inl ⟨_, _, byX rfl (Sound1.pl (S14) rfl), ?_⟩
        conv => whnf
        refine .inl ⟨_, _, byX rfl (Sound1.pl (h15) rfl), ?_⟩
        conv => whnf
        refine .inl ⟨_, _, byX rfl (Sound1.pl (h38) rfl), ?_⟩
        conv => whnf
        refine .inl ⟨_, _, byX rfl (h17), ?_⟩
        conv => whnf
        refine .inl ⟨_, _, byX rfl (Sound1.pl (h48) rfl), ?_⟩
        conv => whnf
        refine ⟨[], by kernel_rfl, ?_⟩
        conv => whnf
        refine .inl ⟨_, _, byX rfl (Sound1.pl (S20 _ _ _) rfl), ?_⟩
        conv => whnf
        refine ifB_not ?_
        conv => whnf
        refine ifB_dec (fun w1 => ?_) (fun w1 => ?_)
        · conv => whnf
          refine ⟨inK64 (by omega) (by omega), ?_⟩
          conv => whnf
          refine .inl ⟨_, _, byX rfl (Sound1.pl (S20 _ _ _) rfl), ?_⟩
          conv => whnf
          refine ifB_not ?_
          conv => whnf
          refine ifB_dec (fun w2 => ?_) (fun w2 => ?_)
          · conv => whnf
            refine .inl ⟨_, _, byX rfl (h17), ?_⟩
            conv => whnf
            refine .inl ⟨_, _, byX rfl (Sound1.pl (h49a) rfl), ?_⟩
            conv => whnf
            refine ⟨[], by kernel_rfl, ?_⟩
            conv => whnf
            refine .inl ⟨_, _, byX rfl (h17), ?_⟩
            conv => whnf
            refine .inl ⟨_, _, byX rfl (Sound1.pl (h49b) rfl), ?_⟩
            conv => whnf
            refine ifB_not ?_
            conv => whnf
            refine ifB_beqB (fun w3 => ?_) (fun w3 => ?_)
            · conv => whnf
              refine .inl ⟨_, _, byX rfl (h17), ?_⟩
              conv => whnf
              refine .inl ⟨_, _, byX rfl (h50), ?_⟩
              conv => whnf
              refine ifB_bne (fun w4 => ?_) (fun w4 => ?_)
              · (exfalso; omega)
              · conv => whnf
                refine ifB_bne (fun w5 => ?_) (fun w5 => ?_)
                · (exfalso; omega)
                · · conv => whnf
                    refine ⟨[], [2, 5, 8, 10], fun st mq => ∃ (k : Nat), (k ≤ sd.1.length) ∧ st = ⟨[(2, .optr 0 0 0 0), (5, .optr 2 0 0 0), (8, .optr 3 0 0 0), (10, i64 k)], ⟨[⟨2, 1, fun _ => [.rslice 4 N.ns.length fun i => ndC (N.ns.getD i nd0), .rslice 6 N.cs.length fun i => cnC (N.cs.getD i cn0)], 0, false, true, true⟩, ⟨2, 1, fun _ => [i64 x, i64 y], 0, false, true, true⟩, ⟨2, 1, fun _ => [i64 z1, i64 z2], 0, false, true, true⟩, ⟨2, 1, fun _ => [.rslice 2 sd.1.length fun i => brC (sd.1.getD i (0, 0)), .rslice 2 sd.2.length fun i => brC (sd.2.getD i (0, 0))], 0, false, true, true⟩], [], none, 0⟩, []⟩ ∧ mq = sd.1.length - k,
                      ⟨_, _, ⟨0, by omega, rfl, rfl⟩, ⟨⟨rfl, rfl, rfl, rfl⟩, ⟨⟨rfl, rfl, rfl, rfl, fun _ => rfl, fun _ _ => rfl⟩, ⟨⟨rfl, rfl, rfl, rfl, fun _ => rfl, fun _ _ => rfl⟩, ⟨⟨rfl, rfl, rfl, rfl, fun _ => rfl, fun _ _ => rfl⟩, ⟨⟨rfl, rfl, rfl, rfl, fun _ => rfl, fun _ _ => rfl⟩, trivial⟩⟩⟩⟩, trivial⟩⟩, ?_⟩
                    rintro s0 m0 ⟨k, hk, rfl, hmeas⟩
                    by_cases hkl : k < sd.1.length
                    · have hx := hsf (k : Int).toNat (by omega)
                      conv => whnf
                      conv => whnf
                      refine ifB_dec (fun w6 => ?_) (fun w6 => ?_)
                      · conv => whnf
                        conv => whnf
                        refine ⟨[], by kernel_rfl, ?_⟩
                        conv => whnf
                        conv => whnf
                        refine ⟨⟨(by omega), (by omega)⟩, ?_⟩
                        conv => whnf
                        conv => whnf
                        refine .inl ⟨_, _, byX rfl (Sound1.pl (S20 _ _ _) rfl), ?_⟩
                        conv => whnf
                        conv => whnf
                        refine ifB_not ?_
                        conv => whnf
                        conv => whnf
                        refine ifB_dec (fun w7 => ?_) (fun w7 => ?_)
                        · conv => whnf
                          conv => whnf
                          refine ⟨⟨(by omega), (by omega)⟩, ?_⟩
                          conv => whnf
                          conv => whnf
                          refine ⟨⟨(by omega), (by omega)⟩, ?_⟩
                          conv => whnf
                          conv => whnf
                          refine ⟨⟨(by omega), (by omega)⟩, ?_⟩
                          conv => whnf
                          conv => whnf
                          refine ⟨inK64 (by omega) (by omega), ?_⟩
                          conv => whnf
                          conv => whnf
                          refine .inl ⟨_, _, byX rfl (Sound1.pl (S20 _ _ _) rfl), ?_⟩
                          conv => whnf
                          conv => whnf
                          refine ifB_not ?_
                          conv => whnf
                          conv => whnf
                          refine ifB_dec (fun w8 => ?_) (fun w8 => ?_)
                          · conv => whnf
                            conv => whnf
                            refine ⟨inK64 (by omega) (by omega), ?_⟩
                            conv => whnf
                            conv => whnf
                            refine ⟨_, _, ⟨⟨k + 1, by omega, rfl, rfl⟩, by omega⟩, ⟨⟨rfl, rfl, rfl, rfl⟩, ⟨⟨rfl, rfl, rfl, rfl, fun _ => rfl, fun _ _ => rfl⟩, ⟨⟨rfl, rfl, rfl, rfl, fun _ => rfl, fun _ _ => rfl⟩, ⟨⟨rfl, rfl, rfl, rfl, fun _ => rfl, fun _ _ => rfl⟩, ⟨⟨rfl, rfl, rfl, rfl, fun _ => rfl, fun _ _ => rfl⟩, trivial⟩⟩⟩⟩, trivial⟩⟩
                          · (exfalso; omega)
                        · (exfalso; omega)
                      · (exfalso; omega)
                    · by_cases hc : 0 ≤ (clF N).1
                      · have hE9 : closE N = 0 := by unfold closE; rw [if_pos hF, if_pos hc]
                        rw [if_pos hE9, hE9] at h39
                        have cr : ∀ q : Int, -200000 ≤ q ∧ q ≤ 200000 → gapErr N q = 0 := fun q h => by
                          unfold gapErr crE; rw [if_pos hE9, decide_eq_true h]; rfl
                        rw [if_pos (cr _ q1), cr _ q1] at h42a
                        rw [if_pos (cr _ q2), cr _ q2] at h42b
                        have hg : (gapF N (brF N) (clF N).1 z1 = 0 ∧ gapF N (brF N) (clF N).1 z2 = 0 ∧ z1 = z2) ∨ (gapF N (brF N) (clF N).1 z1 < 0 ∧ 0 < gapF N (brF N) (clF N).1 z2) := by
                          rcases hgp hc with ⟨g1, g2⟩ | g
                          · exact .inl ⟨g1, by rw [← g2]; exact g1, g2⟩
                          · exact .inr g
                        conv => whnf
                        conv => whnf
                        refine ifB_dec (fun w6 => ?_) (fun w6 => ?_)
                        · (exfalso; omega)
                        · conv => whnf
                          conv => whnf
                          refine .inl ⟨_, _, byX rfl (h17), ?_⟩
                          conv => whnf
                          conv => whnf
                          refine .inl ⟨_, _, byX rfl (Sound1.pl (h39) rfl), ?_⟩
                          conv => whnf
                          conv => whnf
                          refine ⟨[], by kernel_rfl, ?_⟩
                          conv => whnf
                          conv => whnf
                          refine .inl ⟨_, _, byX rfl (h17), ?_⟩
                          conv => whnf
                          conv => whnf
                          refine .inl ⟨_, _, byX rfl (Sound1.pl (h42a) rfl), ?_⟩
                          conv => whnf
                          conv => whnf
                          refine ⟨[], by kernel_rfl, ?_⟩
                          conv => whnf
                          conv => whnf
                          refine .inl ⟨_, _, byX rfl (h17), ?_⟩
                          conv => whnf
                          conv => whnf
                          refine .inl ⟨_, _, byX rfl (Sound1.pl (h42b) rfl), ?_⟩
                          conv => whnf
                          conv => whnf
                          refine ifB_dec (fun w7 => ?_) (fun w7 => ?_)
                          · conv => whnf
                            conv => whnf
                            refine ifB_dec (fun w8 => ?_) (fun w8 => ?_)
                            · conv => whnf
                              conv => whnf
                              refine ifB_beq (fun w9 => ?_) (fun w9 => ?_)
                              · conv => whnf
                                conv => whnf
                                refine ⟨?_, nofun⟩
                                (rfl)
                              · conv => whnf
                                conv => whnf
                                refine ifB_dec (fun w10 => ?_) (fun w10 => ?_)
                                · conv => whnf
                                  conv => whnf
                                  refine ⟨?_, nofun⟩
                                  (exact vbE (decide_eq_true (by omega)))
                                · (exfalso; omega)
                            · (exfalso; omega)
                          · (exfalso; omega)
                      · have hE9 : closE N = 12 := by unfold closE; rw [if_pos hF, if_neg hc]
                        rw [if_neg (by rw [hE9]; decide), hE9] at h39
                        have hz := hcd (by omega)
                        rw [hz.1, hz.2] at *
                        conv => whnf
                        conv => whnf
                        refine ifB_dec (fun w6 => ?_) (fun w6 => ?_)
                        · (exfalso; omega)
                        · conv => whnf
                          conv => whnf
                          refine .inl ⟨_, _, byX rfl (h17), ?_⟩
                          conv => whnf
                          conv => whnf
                          refine .inl ⟨_, _, byX rfl (Sound1.pl (h39) rfl), ?_⟩
                          conv => whnf
                          conv => whnf
                          refine ⟨?_, nofun⟩
                          (rfl)
            · conv => whnf
              refine ⟨?_, nofun⟩
              (exact absurd hb (by assumption))
          · (exfalso; omega)
        · (exfalso; omega)
      · rw [if_neg hE] at h48
        have e : flowE N = 11 := by
          unfold flowE at hE ⊢
          rw [if_pos hF] at hE ⊢
          split
          · rfl
          · rename_i h; rw [if_neg h] at hE; exact absurd rfl hE
        rw [e] at h48
        refine sound (d := 2) tok2 mixed2 Try.func10 (by kernel_rfl) (by kernel_rfl) ?_
        conv => whnf
        refine .inl ⟨_, _, byX rfl (Sound1.pl (S14) rfl), ?_⟩
        conv => whnf
        refine .inl ⟨_, _, byX rfl (Sound1.pl (h15) rfl), ?_⟩
        conv => whnf
        refine .inl ⟨_, _, byX rfl (Sound1.pl (h38) rfl), ?_⟩
        conv => whnf
        refine .inl ⟨_, _, byX rfl (h17), ?_⟩
        conv => whnf
        refine .inl ⟨_, _, byX rfl (Sound1.pl (h48) rfl), ?_⟩
        conv => whnf
        refine ⟨?_, nofun⟩
        (rfl)
    · refine sound (d := 2) tok2 mixed2 Try.func10 (by kernel_rfl) (by kernel_rfl) ?_
      conv => whnf
      refine .inl ⟨_, _, byX rfl (Sound1.pl (S14) rfl), ?_⟩
      conv => whnf
      refine .inl ⟨_, _, byX rfl (Sound1.pl (h15) rfl), ?_⟩
      conv => whnf
      refine .inl ⟨_, _, byX rfl (Sound1.pl (h38) rfl), ?_⟩
      conv => whnf
      refine ifB_bne (fun w1 => ?_) (fun w1 => ?_)
      · conv => whnf
        refine ⟨?_, nofun⟩
        (rfl)
      · (exfalso; omega)
end Go.Tr

/- Plain laws of chapter 2: roots. Conditions: none. -/
namespace Go.Tr
open Go Go.Proofs
set_option maxRecDepth 20000
set_option maxHeartbeats 8000000

/-- The root rounded down, bit by bit. -/
def rootF : Nat → Int → Int → Int
  | 0, _, r => r
  | k + 1, n, r => rootF k n (if (r + 2 ^ k) * (r + 2 ^ k) ≤ n then r + 2 ^ k else r)
theorem two_pow_pos (k : Nat) : (1 : Int) ≤ 2 ^ k := by
  induction k with
  | zero => decide
  | succ k ih => rw [Int.pow_succ]; omega
theorem rootF_spec : ∀ (k : Nat) (n r : Int), 0 ≤ r → r * r ≤ n → n < (r + 2 ^ k) * (r + 2 ^ k) → 0 ≤ rootF k n r ∧ rootF k n r * rootF k n r ≤ n ∧ n < (rootF k n r + 1) * (rootF k n r + 1)
  | 0, n, r, h0, h1, h2 => ⟨h0, h1, by simp only [rootF]; simpa using h2⟩
  | k + 1, n, r, h0, h1, h2 => by
    have hb := two_pow_pos k
    unfold rootF
    split
    · rename_i h
      refine rootF_spec k n _ (by omega) h ?_
      rw [Int.pow_succ] at h2
      rw [show r + 2 ^ k + 2 ^ k = r + 2 ^ k * 2 by omega]
      exact h2
    · rename_i h
      exact rootF_spec k n r h0 h1 (by omega)
def rOf (n : Int) : Int := rootF 31 n 0
theorem rOf_spec {n : Int} (h0 : 0 ≤ n) (h1 : n < 4611686018427387904) : 0 ≤ rOf n ∧ rOf n * rOf n ≤ n ∧ n < (rOf n + 1) * (rOf n + 1) :=
  rootF_spec 31 n 0 (by omega) h0 (by
    have : ((0 : Int) + 2 ^ 31) * (0 + 2 ^ 31) = 4611686018427387904 := by decide
    omega)
theorem sq_lt {a b n : Int} (hb : 0 ≤ b) (h1 : a * a ≤ n) (h2 : n < (b + 1) * (b + 1)) : a ≤ b := by
  rcases Int.lt_or_le b a with h | h
  · have : (b + 1) * (b + 1) ≤ a * a := Int.mul_le_mul (by omega) (by omega) (by omega) (by omega)
    omega
  · exact h
def rUp (n : Int) : Int := if rOf n * rOf n < n then rOf n + 1 else rOf n
theorem rUp_spec {n : Int} (h0 : 0 ≤ n) (h1 : n < 4611686018427387904) : 0 ≤ rUp n ∧ n ≤ rUp n * rUp n ∧ (∀ x, 0 ≤ x → x < rUp n → x * x < n) := by
  obtain ⟨a, b, c⟩ := rOf_spec h0 h1
  unfold rUp
  generalize rOf n = s at *
  split
  · rename_i h
    refine ⟨by omega, by omega, fun x hx hs => ?_⟩
    have : x * x ≤ s * s := Int.mul_le_mul (by omega) (by omega) (by omega) (by omega)
    omega
  · rename_i h
    refine ⟨by omega, by omega, fun x hx hs => ?_⟩
    have : (x + 1) * (x + 1) ≤ s * s := Int.mul_le_mul (by omega) (by omega) (by omega) (by omega)
    have e : (x + 1) * (x + 1) = x * x + (x + x + 1) := by rw [Int.mul_add, Int.add_mul]; omega
    omega

theorem mul3 (r x y : Int) : r * x * y = x * y * r := by rw [Int.mul_assoc, Int.mul_comm]
theorem lo_root {r d : Int} (hr : 1 ≤ r) (h0 : 0 ≤ d) (hd : d ≤ 1000000001) : loF r d = rOf (d / r) := by
  obtain ⟨a1, a2, a3, a4, a5⟩ := loF_spec hr h0 hd
  have q0 : 0 ≤ d / r := Int.ediv_nonneg h0 (by omega)
  have q1 : d / r ≤ d := Int.ediv_le_self _ h0
  obtain ⟨b1, b2, b3⟩ := rOf_spec q0 (by omega)
  rw [mul3] at a4 a5
  have c4 : loF r d * loF r d ≤ d / r := (Int.le_ediv_iff_mul_le (by omega)).2 a4
  have c5 : d / r < (loF r d + 1) * (loF r d + 1) := (Int.ediv_lt_iff_lt_mul (by omega)).2 a5
  have := sq_lt b1 c4 b3
  have := sq_lt a1 b2 c5
  omega

theorem hi_root {r d : Int} (hr : 1 ≤ r) (h0 : 0 ≤ d) (hd : d ≤ 1000000001) : hiF r d = rUp (-(-d / r)) := by
  obtain ⟨s1, s2⟩ := hiF_spec hr hd
  have hm := hiF_mem r d
  generalize hc : -(-d / r) = c
  have e1 : d ≤ c * r := by
    have := Int.ediv_mul_le (-d) (show r ≠ 0 by omega)
    have : c * r = -(-d / r * r) := by rw [← hc, Int.neg_mul]
    omega
  have e2 : ∀ z, d ≤ z * r → c ≤ z := fun z hz => by
    have : -z ≤ -d / r := (Int.le_ediv_iff_mul_le (by omega)).2 (by rw [Int.neg_mul]; omega)
    omega
  have c0 : 0 ≤ c := by
    rcases Int.lt_or_le c 0 with h | h
    · have : c * r < 0 := Int.mul_neg_of_neg_of_pos h (by omega)
      omega
    · exact h
  have c1 : c ≤ d := e2 d (by
    have := Int.mul_le_mul_of_nonneg_left (show 1 ≤ r by omega) h0
    omega)
  obtain ⟨b1, b2, b3⟩ := rUp_spec c0 (by omega)
  have f1 : c ≤ hiF r d * hiF r d := e2 _ (by rw [mul3] at s1; exact s1)
  have f2 : ∀ x, 0 ≤ x → x < hiF r d → x * x < c := fun x hx hlt => by
    have := s2 x hx hlt
    rw [mul3] at this
    rcases Int.lt_or_le (x * x) c with h | h
    · exact h
    · have := Int.mul_le_mul_of_nonneg_right h (show 0 ≤ r by omega)
      omega
  rcases Int.lt_trichotomy (hiF r d) (rUp c) with h | h | h
  · have := b3 _ hm.1 h; omega
  · exact h
  · have := f2 _ b1 h; omega

theorem floor_eq {n b : Int} (hb : 0 < b) : (if n.tmod b < 0 then n.tdiv b - 1 else n.tdiv b) = n / b := by
  have e := Int.mul_tdiv_add_tmod n b
  have u := Int.tmod_lt_of_pos n hb
  have l := Int.lt_tmod_of_pos n hb
  split
  · rename_i h
    exact ((Int.ediv_emod_unique (r := n.tmod b + b) hb).2 ⟨by rw [Int.mul_sub]; omega, by omega, by omega⟩).1.symm
  · rename_i h
    exact ((Int.ediv_emod_unique (r := n.tmod b) hb).2 ⟨by omega, by omega, by omega⟩).1.symm
end Go.Tr

/- Contracts of chapter 2: roots, and the reference of flows. Conditions: none. -/
namespace Go.Tr
open Go Go.Proofs
set_option maxRecDepth 20000
set_option maxHeartbeats 8000000

theorem tdiv_small {n b : Int} (hb : 1 ≤ b) (h0 : -4000000000000000000 ≤ n) (h1 : n ≤ 4000000000000000000) : -4000000000000000000 ≤ n.tdiv b ∧ n.tdiv b ≤ 4000000000000000000 := by
  have e := floor_eq (n := n) (b := b) (by omega)
  have l1 : n / b ≤ 4000000000000000000 := by
    rcases Int.lt_or_le n 0 with h | h
    · have := Int.ediv_neg_of_neg_of_pos h (show 0 < b by omega); omega
    · have := Int.ediv_le_self b h; omega
  have l2 : -4000000000000000000 ≤ n / b := (Int.le_ediv_iff_mul_le (by omega)).2 (by
    omega)
  split at e
  · rename_i h
    have u := Int.mul_tdiv_add_tmod n b
    have : n.tdiv b ≤ 0 := by
      rcases Int.lt_or_le 0 (n.tdiv b) with h' | h'
      · have h2 : 0 ≤ n := by
          rcases Int.lt_or_le n 0 with h3 | h3
          · have h4 : n.tdiv b ≤ 0 := by
              have := Int.neg_tdiv n b
              have h5 : 0 ≤ (-n).tdiv b := Int.tdiv_nonneg (by omega) (by omega)
              omega
            omega
          · exact h3
        have := Int.tmod_nonneg b h2
        omega
      · exact h'
    omega
  · omega

theorem S113 (n b : Int) (hb : 1 ≤ b) (h0 : -4000000000000000000 ≤ n) (h1 : n ≤ 4000000000000000000) : SP 113 [i64 n, i64 b] (i64 (n / b)) false := by
  have e := floor_eq (n := n) (b := b) (by omega)
  have s := tdiv_small hb h0 h1
  rw [← e]
  refine sound (d := 2) tok2 mixed2 Try.func113 (by kernel_rfl) (by kernel_rfl) ?_
  conv => whnf
  refine ⟨⟨(by omega), inK64 (by omega) (by omega)⟩, ?_⟩
  conv => whnf
  refine ⟨(by omega), ?_⟩
  conv => whnf
  refine ifB_dec (fun w1 => ?_) (fun w1 => ?_)
  · conv => whnf
    refine ⟨inK64 (by omega) (by omega), ?_⟩
    conv => whnf
    refine ⟨?_, nofun⟩
    show i64 _ = i64 _
    rw [if_pos (by assumption)]
  · conv => whnf
    refine ⟨?_, nofun⟩
    show i64 _ = i64 _
    rw [if_neg (by assumption)]

theorem ediv_small {n b : Int} (hb : 1 ≤ b) (h0 : -4000000000000000000 ≤ n) (h1 : n ≤ 4000000000000000000) : -4000000000000000001 ≤ n / b ∧ n / b ≤ 4000000000000000000 := by
  have s := tdiv_small hb h0 h1
  rw [← floor_eq (by omega)]
  split <;> omega

theorem S105 (n b : Int) (hb : 1 ≤ b) (h0 : -4000000000000000000 ≤ n) (h1 : n ≤ 4000000000000000000) : SP 105 [i64 n, i64 b] (i64 (-(-n / b))) false := by
  have s := ediv_small (n := -n) hb (by omega) (by omega)
  refine sound (d := 2) tok2 mixed2 Try.func105 (by kernel_rfl) (by kernel_rfl) ?_
  conv => whnf
  refine ⟨inK64 (by omega) (by omega), ?_⟩
  conv => whnf
  refine .inl ⟨_, _, byX rfl (Sound1.pl (S113 _ _ (by omega) (by omega) (by omega)) rfl), ?_⟩
  conv => whnf
  refine ⟨inK64 (by omega) (by omega), ?_⟩
  conv => whnf
  refine ⟨?_, nofun⟩
  (rfl)

theorem half_pow (k : Nat) : ((2 : Int) ^ (k + 1)).tdiv 2 = 2 ^ k := by
  rw [Int.pow_succ, Int.mul_tdiv_cancel _ (by decide)]
theorem S103 (n : Int) (_ : n < 4611686018427387904) : SP 103 [i64 n] (i64 (rOf n)) false := by
  refine sound (d := 2) tok2 mixed2 Try.func103 (by kernel_rfl) (by kernel_rfl) ?_
  conv => whnf
  refine ⟨[], [0, 3, 4], fun st mq => ∃ (k : Nat) (r : Int) (b : Int), (0 ≤ r) ∧ (r + 2 ^ k ≤ 2147483648) ∧ (b = (2 ^ k : Int).tdiv 2) ∧ (rootF k n r = rOf n) ∧ st = ⟨[(0, i64 n), (3, i64 r), (4, i64 b)], ⟨[], [], none, 0⟩, []⟩ ∧ mq = k,
    ⟨_, _, ⟨31, 0, 1073741824, by omega, by decide, by decide, rfl, rfl, rfl⟩, ⟨⟨rfl, rfl, rfl, rfl⟩, trivial, trivial⟩⟩, ?_⟩
  rintro s0 m0 ⟨k, r, b, h0, h1, h2, hf, rfl, hmeas⟩
  cases k with
  | zero =>
    have hb : b = 0 := h2
    subst hb
    conv => whnf
    conv => whnf
    refine ⟨?_, nofun⟩
    show i64 _ = i64 _
    rw [← hf]; rfl
  | succ k =>
    rw [half_pow] at h2
    have hp := two_pow_pos k
    rw [Int.pow_succ] at h1
    subst h2
    have e : ((2 : Int) ^ k).tdiv 2 = (2 ^ k : Int).tdiv 2 := rfl
    rw [rootF] at hf
    have t1 : 0 ≤ (r + 2 ^ k) * (r + 2 ^ k) := Int.mul_nonneg (by omega) (by omega)
    have t2 : (r + 2 ^ k) * (r + 2 ^ k) ≤ 2147483648 * 2147483648 := Int.mul_le_mul (by omega) (by omega) (by omega) (by omega)
    obtain ⟨B, hB⟩ : ∃ B, B = (2 : Int) ^ k := ⟨_, rfl⟩
    rw [← hB] at hf t1 t2 h1 hp ⊢
    have ht : B.tdiv 2 = B / 2 := Int.tdiv_eq_ediv_of_nonneg (by omega)
    conv => whnf
    conv => whnf
    refine ifB_dec (fun w1 => ?_) (fun w1 => ?_)
    · conv => whnf
      conv => whnf
      refine ⟨inK64 (by omega) (by omega), ?_⟩
      conv => whnf
      conv => whnf
      refine ⟨inK64 (by omega) (by omega), ?_⟩
      conv => whnf
      conv => whnf
      refine ⟨inK64 (by omega) (by omega), ?_⟩
      conv => whnf
      conv => whnf
      refine ifB_dec (fun w2 => ?_) (fun w2 => ?_)
      · conv => whnf
        conv => whnf
        refine ⟨inK64 (by omega) (by omega), ?_⟩
        conv => whnf
        conv => whnf
        refine ⟨⟨(by omega), inK64 (by omega) (by omega)⟩, ?_⟩
        conv => whnf
        conv => whnf
        refine ⟨_, _, ⟨⟨k, r + B, B.tdiv 2, by omega, by (rw [← hB]; omega), by rw [← hB], by (rw [if_pos w2] at hf; exact hf), rfl, rfl⟩, by omega⟩, ⟨⟨rfl, rfl, rfl, rfl⟩, trivial, trivial⟩⟩
      · conv => whnf
        conv => whnf
        refine ⟨⟨(by omega), inK64 (by omega) (by omega)⟩, ?_⟩
        conv => whnf
        conv => whnf
        refine ⟨_, _, ⟨⟨k, r, B.tdiv 2, by omega, by (rw [← hB]; omega), by rw [← hB], by (rw [if_neg w2] at hf; exact hf), rfl, rfl⟩, by omega⟩, ⟨⟨rfl, rfl, rfl, rfl⟩, trivial, trivial⟩⟩
    · (exfalso; omega)

theorem S104 (n : Int) (h0 : 0 ≤ n) (hn : n < 4611686018427387904) : SP 104 [i64 n] (i64 (rUp n)) false := by
  obtain ⟨a, b, c⟩ := rOf_spec h0 hn
  have d : 0 ≤ rOf n * rOf n := Int.mul_nonneg a a
  have e : rOf n ≤ 2147483647 := by
    have := sq_lt (a := rOf n) (b := 2147483647) (n := n) (by omega) b (by omega)
    omega
  generalize hR : rUp n = R
  unfold rUp at hR
  refine sound (d := 2) tok2 mixed2 Try.func104 (by kernel_rfl) (by kernel_rfl) ?_
  conv => whnf
  refine .inl ⟨_, _, byX rfl (Sound1.pl (S103 _ (by omega)) rfl), ?_⟩
  conv => whnf
  refine ⟨inK64 (by omega) (by omega), ?_⟩
  conv => whnf
  refine ifB_dec (fun w1 => ?_) (fun w1 => ?_)
  · conv => whnf
    refine ⟨inK64 (by omega) (by omega), ?_⟩
    conv => whnf
    refine ⟨?_, nofun⟩
    rw [if_pos (by assumption)] at hR
    show i64 _ = i64 _
    rw [hR]
  · conv => whnf
    refine ⟨?_, nofun⟩
    rw [if_neg (by assumption)] at hR
    show i64 _ = i64 _
    rw [hR]

theorem S45 (r d : Int) (hr : 1 ≤ r) (h0 : 0 ≤ d) (hd : d ≤ 1000000001) : SP 45 [i64 r, i64 d] (.agg [i64 (loF r d), i64 (hiF r d)]) false := by
  have e : d.tdiv r = d / r := Int.tdiv_eq_ediv_of_nonneg h0
  have q0 : 0 ≤ d / r := Int.ediv_nonneg h0 (by omega)
  have q1 : d / r ≤ d := Int.ediv_le_self _ h0
  have q2 := ediv_small (n := -d) hr (by omega) (by omega)
  have q3 : -d / r ≤ 0 := by
    have := (Int.ediv_lt_iff_lt_mul (a := -d) (b := 1) (c := r) (by omega)).2 (by omega)
    omega
  have q4 : -d ≤ -d / r := (Int.le_ediv_iff_mul_le (by omega)).2 (by
    have := Int.mul_le_mul_of_nonneg_left (show 1 ≤ r by omega) h0
    rw [Int.neg_mul]; omega)
  rw [lo_root hr h0 hd, hi_root hr h0 hd]
  refine sound (d := 2) tok2 mixed2 Try.func45 (by kernel_rfl) (by kernel_rfl) ?_
  conv => whnf
  refine ⟨⟨(by omega), inK64 (by omega) (by omega)⟩, ?_⟩
  conv => whnf
  refine .inl ⟨_, _, byX rfl (Sound1.pl (S103 _ (by omega)) rfl), ?_⟩
  conv => whnf
  refine .inl ⟨_, _, byX rfl (Sound1.pl (S105 _ _ (by omega) (by omega) (by omega)) rfl), ?_⟩
  conv => whnf
  refine .inl ⟨_, _, byX rfl (Sound1.pl (S104 _ (by omega) (by omega)) rfl), ?_⟩
  conv => whnf
  refine ⟨?_, nofun⟩
  rw [e]
  exact ave2 _ _

theorem S46 (l : List Int) (hl : l.length ≤ 1000) (hr : ∀ r ∈ l, 1 ≤ r ∧ r ≤ 1000) (d : Int) (h0 : 0 ≤ d) (hd : d ≤ 1000000001) : SP 46 [ints l, i64 d] (.agg [i64 (loS d l), i64 (hiS d l)]) false := by
  refine sound (d := 2) tok2 mixed2 Try.func46 (by kernel_rfl) (by kernel_rfl) ?_
  conv => whnf
  refine ⟨[], [0, 1, 4, 5, 6], fun st mq => ∃ (k : Nat) (a : Int) (b : Int), (k ≤ l.length) ∧ (a + loS d (l.drop k) = loS d l) ∧ (b + hiS d (l.drop k) = hiS d l) ∧ (-k ≤ a ∧ a ≤ 31623 * k ∧ 0 ≤ b ∧ b ≤ 31623 * k) ∧ st = ⟨[(0, ints l), (1, i64 d), (4, .optr 0 0 0 0), (5, .optr 1 0 0 0), (6, i64 k)], ⟨[⟨2, 1, fun _ => [i64 0, i64 0], 0, false, true, true⟩, ⟨2, 1, fun _ => [i64 a, i64 b], 0, false, true, true⟩], [], none, 0⟩, []⟩ ∧ mq = l.length - k,
    ⟨_, _, ⟨0, 0, 0, by omega, Int.zero_add _, Int.zero_add _, by omega, rfl, rfl⟩, ⟨⟨rfl, rfl, rfl, rfl⟩, ⟨⟨rfl, rfl, rfl, rfl, fun _ => rfl, fun _ _ => rfl⟩, ⟨⟨rfl, rfl, rfl, rfl, fun _ => rfl, fun _ _ => rfl⟩, trivial⟩⟩, trivial⟩⟩, ?_⟩
  rintro s0 m0 ⟨k, a, b, hk, ha, hb, hc, rfl, hmeas⟩
  have hx : k < l.length → 1 ≤ l.getD (k : Int).toNat 0 ∧ l.getD (k : Int).toNat 0 ≤ 1000 := fun h => hr _ (by simp [List.getD_eq_getElem?_getD, h])
  have hm1 := hiF_mem (l.getD (k : Int).toNat 0) d
  have hm2 := loF_mem (l.getD (k : Int).toNat 0) d
  conv => whnf
  conv => whnf
  refine ifB_dec (fun w1 => ?_) (fun w1 => ?_)
  · conv => whnf
    conv => whnf
    refine ⟨⟨(by omega), (by omega)⟩, ?_⟩
    conv => whnf
    conv => whnf
    refine .inl ⟨_, _, byX rfl (Sound1.pl (S45 _ _ (by omega) (by omega) (by omega)) rfl), ?_⟩
    conv => whnf
    conv => whnf
    refine ⟨inK64 (by omega) (by omega), ?_⟩
    conv => whnf
    conv => whnf
    refine ⟨inK64 (by omega) (by omega), ?_⟩
    conv => whnf
    conv => whnf
    refine ⟨inK64 (by omega) (by omega), ?_⟩
    have e := List.drop_eq_getElem_cons (l := l) (i := k) (by omega)
    have e2 : l.getD (k : Int).toNat 0 = l[k] := by simp [List.getD_eq_getElem?_getD, show k < l.length by omega]
    rw [e, loS, ← e2] at ha
    rw [e, hiS, ← e2] at hb
    conv => whnf
    conv => whnf
    refine ⟨_, _, ⟨⟨k + 1, _, _, by omega, by (rw [Int.add_assoc]; exact ha), by (rw [Int.add_assoc]; exact hb), by omega, rfl, rfl⟩, by omega⟩, ⟨⟨rfl, rfl, rfl, rfl⟩, ⟨⟨rfl, rfl, rfl, rfl, fun _ => rfl, fun _ _ => rfl⟩, ⟨⟨rfl, rfl, rfl, rfl, fun _ => rfl, fun _ _ => rfl⟩, trivial⟩⟩, trivial⟩⟩
  · conv => whnf
    conv => whnf
    refine ⟨?_, nofun⟩
    have e : k = l.length := by omega
    subst e
    simp only [List.drop_length, loS, hiS, Int.add_zero] at ha hb
    rw [← ha, ← hb]
    exact ave2 _ _

theorem ave_t2 (a b : Int) : AVE 5 (.tuple [i64 a, i64 b]) (.tuple [i64 a, i64 b]) := by
  refine ⟨rfl, fun i x y h1 h2 => ?_⟩
  match i, h1, h2 with
  | 0, h1, h2 => cases h1; cases h2; rfl
  | 1, h1, h2 => cases h1; cases h2; rfl
theorem ave_rngB (a b : Int) (e : Bool) : AVE 5 (.tuple [.agg [i64 a, i64 b], vb e]) (.tuple [.agg [i64 a, i64 b], vb e]) := by
  refine ⟨rfl, fun i x y h1 h2 => ?_⟩
  match i, h1, h2 with
  | 0, h1, h2 =>
    cases h1; cases h2
    refine ⟨rfl, fun i x y h1 h2 => ?_⟩
    match i, h1, h2 with
    | 0, h1, h2 => cases h1; cases h2; rfl
    | 1, h1, h2 => cases h1; cases h2; rfl
  | 1, h1, h2 => cases h1; cases h2; rfl

/-- The reference's two numbers. -/
def refLo (l : List Int) (fl : Int) : Int := leastF (fun d => decide (hiS d l ≥ fl)) 30 0 1000000000
def refHi (l : List Int) (fl : Int) : Int := leastF (fun d => decide (loS d l ≥ fl)) 30 0 1000000000
theorem half_eq {a b : Int} (h : 0 ≤ a) (h2 : a < b) : (a + b).tdiv 2 = a + (b - a) / 2 := by
  rw [Int.tdiv_eq_ediv_of_nonneg (by omega)]; omega
theorem leastF_done {p : Int → Bool} {n : Nat} {a b : Int} (h : ¬ a < b) : leastF p n a b = a := by
  cases n with
  | zero => rfl
  | succ n => rw [leastF, if_neg h]
theorem leastF_go {p : Int → Bool} {n : Nat} {a b : Int} (h : a < b) (hn : (b - a).toNat < 2 ^ n) : ∃ k, n = k + 1 ∧ leastF p n a b = (bif p (a + (b - a) / 2) then leastF p k a (a + (b - a) / 2) else leastF p k (a + (b - a) / 2 + 1) b) ∧ (b - a).toNat < 2 * 2 ^ k := by
  cases n with
  | zero => simp at hn; omega
  | succ k => exact ⟨k, rfl, by rw [leastF, if_pos h], by rw [Nat.pow_succ] at hn; omega⟩

theorem S47 (l : List Int) (hl : l.length ≤ 1000) (hr : ∀ r ∈ l, 1 ≤ r ∧ r ≤ 1000) (fl : Int) :
    SP 47 [ints l, i64 fl] (.tuple [.agg [i64 (if loS 1000000000 l < fl then 0 else refLo l fl), i64 (if loS 1000000000 l < fl then 0 else refHi l fl)], vb (decide (¬ loS 1000000000 l < fl))]) false := by
  have h46 := fun d h0 h1 => S46 l hl hr d h0 h1
  have hM := h46 1000000000 (by omega) (by omega)
  by_cases hc : loS 1000000000 l < fl
  · rw [if_pos hc, if_pos hc, decide_eq_false (by omega)]
    refine sound (d := 2) tok2 mixed2 Try.func47 (by kernel_rfl) (by kernel_rfl) ?_
    conv => whnf
    refine .inl ⟨_, _, byX rfl (Sound1.pl (hM) rfl), ?_⟩
    conv => whnf
    refine ifB_dec (fun w1 => ?_) (fun w1 => ?_)
    · conv => whnf
      refine ⟨?_, nofun⟩
      (exact ave_rngB _ _ _)
    · (exfalso; omega)
  · rw [if_neg hc, if_neg hc, decide_eq_true hc]
    generalize hA : refLo l fl = A
    generalize hB : refHi l fl = B
    unfold refLo at hA
    unfold refHi at hB
    refine sound (d := 2) tok2 mixed2 Try.func47 (by kernel_rfl) (by kernel_rfl) ?_
    conv => whnf
    refine .inl ⟨_, _, byX rfl (Sound1.pl (hM) rfl), ?_⟩
    conv => whnf
    refine ifB_dec (fun w1 => ?_) (fun w1 => ?_)
    · (exfalso; omega)
    · conv => whnf
      refine ⟨[], [0, 1, 4, 6, 7, 8], fun st mq => ∃ (n : Nat) (a : Int) (b : Int), (0 ≤ a ∧ b ≤ 1000000000) ∧ ((b - a).toNat < 2 ^ n) ∧ (leastF (fun d => decide (hiS d l ≥ fl)) n a b = A) ∧ st = ⟨[(0, ints l), (1, i64 fl), (4, .optr 0 0 0 0), (6, .optr 1 0 0 0), (7, i64 a), (8, i64 b)], ⟨[⟨2, 1, fun _ => [i64 0, i64 0], 0, false, true, true⟩, ⟨2, 1, fun _ => [i64 0, i64 0], 0, false, true, true⟩], [], none, 0⟩, []⟩ ∧ mq = n,
        ⟨_, _, ⟨30, 0, 1000000000, by omega, by decide, hA, rfl, rfl⟩, ⟨⟨rfl, rfl, rfl, rfl⟩, ⟨⟨rfl, rfl, rfl, rfl, fun _ => rfl, fun _ _ => rfl⟩, ⟨⟨rfl, rfl, rfl, rfl, fun _ => rfl, fun _ _ => rfl⟩, trivial⟩⟩, trivial⟩⟩, ?_⟩
      rintro s0 m0 ⟨n, a, b, h1, h2, h3, rfl, hmeas⟩
      by_cases hab : a < b
      · obtain ⟨k, rfl, e, h4⟩ := leastF_go (p := fun d => decide (hiS d l ≥ fl)) hab h2
        rw [e, ← half_eq h1.1 hab] at h3
        have e2 := half_eq h1.1 hab
        conv => whnf
        conv => whnf
        refine ifB_dec (fun w2 => ?_) (fun w2 => ?_)
        · conv => whnf
          conv => whnf
          refine ⟨inK64 (by omega) (by omega), ?_⟩
          conv => whnf
          conv => whnf
          refine ⟨⟨(by omega), inK64 (by omega) (by omega)⟩, ?_⟩
          conv => whnf
          conv => whnf
          refine .inl ⟨_, _, byX rfl (Sound1.pl (h46 _ (by omega) (by omega)) rfl), ?_⟩
          conv => whnf
          conv => whnf
          refine ifB_dec (fun w3 => ?_) (fun w3 => ?_)
          · rw [decide_eq_true (by assumption), cond_true] at h3
            conv => whnf
            conv => whnf
            refine ⟨_, _, ⟨⟨k, a, (a + b).tdiv 2, by omega, by omega, h3, rfl, rfl⟩, by omega⟩, ⟨⟨rfl, rfl, rfl, rfl⟩, ⟨⟨rfl, rfl, rfl, rfl, fun _ => rfl, fun _ _ => rfl⟩, ⟨⟨rfl, rfl, rfl, rfl, fun _ => rfl, fun _ _ => rfl⟩, trivial⟩⟩, trivial⟩⟩
          · conv => whnf
            conv => whnf
            refine ⟨inK64 (by omega) (by omega), ?_⟩
            rw [decide_eq_false (by assumption), cond_false] at h3
            conv => whnf
            conv => whnf
            refine ⟨_, _, ⟨⟨k, (a + b).tdiv 2 + 1, b, by omega, by omega, h3, rfl, rfl⟩, by omega⟩, ⟨⟨rfl, rfl, rfl, rfl⟩, ⟨⟨rfl, rfl, rfl, rfl, fun _ => rfl, fun _ _ => rfl⟩, ⟨⟨rfl, rfl, rfl, rfl, fun _ => rfl, fun _ _ => rfl⟩, trivial⟩⟩, trivial⟩⟩
        · (exfalso; omega)
      · rw [leastF_done hab] at h3
        subst h3
        conv => whnf
        conv => whnf
        refine ifB_dec (fun w2 => ?_) (fun w2 => ?_)
        · (exfalso; omega)
        · conv => whnf
          conv => whnf
          refine ⟨[], [0, 1, 4, 6, 7, 8], fun st mq => ∃ (n : Nat) (c : Int) (b : Int), (0 ≤ c ∧ b ≤ 1000000000) ∧ ((b - c).toNat < 2 ^ n) ∧ (leastF (fun d => decide (loS d l ≥ fl)) n c b = B) ∧ st = ⟨[(0, ints l), (1, i64 fl), (4, .optr 0 0 0 0), (6, .optr 1 0 0 0), (7, i64 c), (8, i64 b)], ⟨[⟨2, 1, fun _ => [i64 0, i64 0], 0, false, true, true⟩, ⟨2, 1, fun _ => [i64 a, i64 0], 0, false, true, true⟩], [], none, 0⟩, []⟩ ∧ mq = n,
            ⟨_, _, ⟨30, 0, 1000000000, by omega, by decide, hB, rfl, rfl⟩, ⟨⟨rfl, rfl, rfl, rfl⟩, ⟨⟨rfl, rfl, rfl, rfl, fun _ => rfl, fun _ _ => rfl⟩, ⟨⟨rfl, rfl, rfl, rfl, fun _ => rfl, fun _ _ => rfl⟩, trivial⟩⟩, trivial⟩⟩, ?_⟩
          rintro s0 m0 ⟨n, c, b, h1, h2, h3, rfl, hmeas⟩
          by_cases hab : c < b
          · obtain ⟨k, rfl, e, h4⟩ := leastF_go (p := fun d => decide (loS d l ≥ fl)) hab h2
            rw [e, ← half_eq h1.1 hab] at h3
            have e2 := half_eq h1.1 hab
            conv => whnf
            conv => whnf
            conv => whnf
            refine ifB_dec (fun w3 => ?_) (fun w3 => ?_)
            · conv => whnf
              conv => whnf
              conv => whnf
              refine ⟨inK64 (by omega) (by omega), ?_⟩
              conv => whnf
              conv => whnf
              conv => whnf
              refine ⟨⟨(by omega), inK64 (by omega) (by omega)⟩, ?_⟩
              conv => whnf
              conv => whnf
              conv => whnf
              refine .inl ⟨_, _, byX rfl (Sound1.pl (h46 _ (by omega) (by omega)) rfl), ?_⟩
              conv => whnf
              conv => whnf
              conv => whnf
              refine ifB_dec (fun w4 => ?_) (fun w4 => ?_)
              · rw [decide_eq_true (by assumption), cond_true] at h3
                conv => whnf
                conv => whnf
                conv => whnf
                refine ⟨_, _, ⟨⟨k, c, (c + b).tdiv 2, by omega, by omega, h3, rfl, rfl⟩, by omega⟩, ⟨⟨rfl, rfl, rfl, rfl⟩, ⟨⟨rfl, rfl, rfl, rfl, fun _ => rfl, fun _ _ => rfl⟩, ⟨⟨rfl, rfl, rfl, rfl, fun _ => rfl, fun _ _ => rfl⟩, trivial⟩⟩, trivial⟩⟩
              · conv => whnf
                conv => whnf
                conv => whnf
                refine ⟨inK64 (by omega) (by omega), ?_⟩
                rw [decide_eq_false (by assumption), cond_false] at h3
                conv => whnf
                conv => whnf
                conv => whnf
                refine ⟨_, _, ⟨⟨k, (c + b).tdiv 2 + 1, b, by omega, by omega, h3, rfl, rfl⟩, by omega⟩, ⟨⟨rfl, rfl, rfl, rfl⟩, ⟨⟨rfl, rfl, rfl, rfl, fun _ => rfl, fun _ _ => rfl⟩, ⟨⟨rfl, rfl, rfl, rfl, fun _ => rfl, fun _ _ => rfl⟩, trivial⟩⟩, trivial⟩⟩
            · (exfalso; omega)
          · rw [leastF_done hab] at h3
            subst h3
            conv => whnf
            conv => whnf
            conv => whnf
            refine ifB_dec (fun w3 => ?_) (fun w3 => ?_)
            · (exfalso; omega)
            · conv => whnf
              conv => whnf
              conv => whnf
              refine ⟨?_, nofun⟩
              exact ave_rngB _ _ _

theorem S43 (l : List Int) (hl : l.length ≤ 1000000000) : SP 43 [ints l] (.tuple [i64 (if rsE l = 0 then l.sum else 0), i64 (rsE l)]) false := by
  have h80 := S80 l hl
  refine sound (d := 2) tok2 mixed2 Try.func43 (by kernel_rfl) (by kernel_rfl) ?_
  conv => whnf
  refine .inl ⟨_, _, byX rfl (Sound1.pl (h80) rfl), ?_⟩
  conv => whnf
  refine ifB_bne (fun w1 => ?_) (fun w1 => ?_)
  · conv => whnf
    refine ⟨?_, nofun⟩
    rw [if_neg (by assumption)]
    exact ave_t2 _ _
  · have hk := rsE_ok w1
    rw [if_pos w1, w1]
    conv => whnf
    refine ⟨[], [5, 13, 14, 15], fun st mq => ∃ (k : Nat) (a : Int), (k ≤ l.length) ∧ (a + (l.drop k).sum = l.sum) ∧ (0 ≤ a ∧ a ≤ 1000 * k) ∧ st = ⟨[(5, i64 a), (13, ints l), (14, i64 l.length), (15, i64 k)], ⟨[], [], none, 0⟩, []⟩ ∧ mq = l.length - k,
      ⟨_, _, ⟨0, 0, by omega, Int.zero_add _, by omega, rfl, rfl⟩, ⟨⟨rfl, rfl, rfl, rfl⟩, trivial, trivial⟩⟩, ?_⟩
    rintro s0 m0 ⟨k, a, hk1, ha, hc, rfl, hmeas⟩
    have hx : k < l.length → 1 ≤ l.getD (k : Int).toNat 0 ∧ l.getD (k : Int).toNat 0 ≤ 1000 := fun h => hk.2.2 _ (by simp [List.getD_eq_getElem?_getD, h])
    conv => whnf
    conv => whnf
    refine ifB_dec (fun w2 => ?_) (fun w2 => ?_)
    · conv => whnf
      conv => whnf
      refine ⟨⟨(by omega), (by omega)⟩, ?_⟩
      conv => whnf
      conv => whnf
      refine ⟨inK64 (by omega) (by omega), ?_⟩
      conv => whnf
      conv => whnf
      refine ⟨inK64 (by omega) (by omega), ?_⟩
      have e := List.drop_eq_getElem_cons (l := l) (i := k) (by omega)
      have e2 : l.getD (k : Int).toNat 0 = l[k] := by simp [List.getD_eq_getElem?_getD, show k < l.length by omega]
      rw [e, List.sum_cons, ← e2] at ha
      conv => whnf
      conv => whnf
      refine ⟨_, _, ⟨⟨k + 1, _, by omega, by (rw [Int.add_assoc]; exact ha), by omega, rfl, rfl⟩, by omega⟩, ⟨⟨rfl, rfl, rfl, rfl⟩, trivial, trivial⟩⟩
    · conv => whnf
      conv => whnf
      refine ⟨?_, nofun⟩
      have e : k = l.length := by omega
      subst e
      simp only [List.drop_length, List.sum_nil, Int.add_zero] at ha
      rw [← ha]
      exact ave_t2 _ _
end Go.Tr

/- Contracts of chapter 2: the reference's gap, circulation and steady state. Conditions: none. -/
namespace Go.Tr
open Go Go.Proofs
set_option maxRecDepth 20000
set_option maxHeartbeats 8000000

theorem S112 (N : Net) (hok : N.Ok) (hF : (clF N).2 = 0) (hc : 0 ≤ (clF N).1) (q : Int) (hq : -200000 ≤ q ∧ q ≤ 200000) : SP 112 [netV N, i64 q] (i64 (gapF N (brF N) (clF N).1 q)) false := by
  have hS := stOk hok
  have hcl := hS.cl
  have hn := hS.n1
  have hcn := hS.c1
  have h97 := S97 N (by omega) (by omega) hok.ends
  unfold clR at h97
  rw [if_pos hF, hF] at h97
  have h114 := S114 N hok hF q hq
  have hl := state_len N (brF N) (clF N).1 q
  have he := hS.ends (N.cs.getD (clF N).1.toNat cn0) (mem_getD (by omega))
  have hr := hS.res (N.cs.getD (clF N).1.toNat cn0) (mem_getD (by omega))
  have hlw := lossW (f := q) hr (by omega)
  have b1 := (state_bd hS hq (N.cs.getD (clF N).1.toNat cn0).fr.toNat).2
  have b2 := (state_bd hS hq (N.cs.getD (clF N).1.toNat cn0).to.toNat).2
  have h22 := S22w (N.cs.getD (clF N).1.toNat cn0).res q hr (by omega)
  unfold stA at h114
  rw [ints_n hl.1, ints_n hl.2] at h114
  refine sound (d := 2) tok2 mixed2 Try.func112 (by kernel_rfl) (by kernel_rfl) ?_
  conv => whnf
  refine .inl ⟨_, _, byX rfl (Sound1.pl (h97) rfl), ?_⟩
  conv => whnf
  refine ⟨[], by kernel_rfl, ?_⟩
  conv => whnf
  refine ⟨⟨(by omega), (by omega)⟩, ?_⟩
  conv => whnf
  refine .inl ⟨_, _, byX rfl (h114), ?_⟩
  conv => whnf
  refine ⟨[], by kernel_rfl, ?_⟩
  conv => whnf
  refine .inl ⟨_, _, byX rfl (Sound1.pl (h22) rfl), ?_⟩
  conv => whnf
  refine ⟨⟨(by omega), (by omega)⟩, ?_⟩
  conv => whnf
  refine ⟨⟨(by omega), (by omega)⟩, ?_⟩
  conv => whnf
  refine ⟨inK64 (by omega) (by omega), ?_⟩
  conv => whnf
  refine ⟨inK64 (by omega) (by omega), ?_⟩
  conv => whnf
  refine ⟨?_, nofun⟩
  rfl
theorem S53 (N : Net) (hok : N.Ok) (hF : (clF N).2 = 0) : SP 53 [netV N] (rngE (if flatQ N (brF N) (clF N).1 then ((0, 0), 11) else (circF N (brF N) (clF N).1, 0))) false := by
  have hS := stOk hok
  have hn := hS.n1
  have hcn := hS.c1
  have h97 := S97 N (by omega) (by omega) hok.ends
  unfold clR at h97
  rw [if_pos hF, hF] at h97
  by_cases hc : (clF N).1 < 0
  · have e : flatQ N (brF N) (clF N).1 = false := by unfold flatQ; rw [if_neg (by omega)]
    have e2 : circF N (brF N) (clF N).1 = (0, 0) := by unfold circF; rw [if_pos hc]
    rw [e, e2]
    refine sound (d := 2) tok2 mixed2 Try.func53 (by kernel_rfl) (by kernel_rfl) ?_
    conv => whnf
    refine .inl ⟨_, _, byX rfl (Sound1.pl (h97) rfl), ?_⟩
    conv => whnf
    refine ifB_dec (fun w1 => ?_) (fun w1 => ?_)
    · conv => whnf
      refine ⟨?_, nofun⟩
      exact ave_rngE _ _ _ _ rfl
    · (exfalso; omega)
  · have hc0 : 0 ≤ (clF N).1 := by omega
    have h112 := fun q hq => S112 N hok hF hc0 q hq
    have hA := h112 (-200000) (by omega)
    have hB := h112 200000 (by omega)
    have hm := circHi_mem N (brF N) (clF N).1
    have hZ := h112 _ hm
    have h113 := fun n => S113 n 2 (by omega)
    unfold flatQ flatB
    rw [if_pos hc0]
    by_cases hfl : gapF N (brF N) (clF N).1 (-200000) = gapF N (brF N) (clF N).1 200000
    · rw [decide_eq_true hfl]
      refine sound (d := 2) tok2 mixed2 Try.func53 (by kernel_rfl) (by kernel_rfl) ?_
      conv => whnf
      refine .inl ⟨_, _, byX rfl (Sound1.pl (h97) rfl), ?_⟩
      conv => whnf
      refine ifB_dec (fun w1 => ?_) (fun w1 => ?_)
      · (exfalso; omega)
      · conv => whnf
        refine ⟨[], by kernel_rfl, ?_⟩
        conv => whnf
        refine .inl ⟨_, _, byX rfl (Sound1.pl (hA) rfl), ?_⟩
        conv => whnf
        refine .inl ⟨_, _, byX rfl (Sound1.pl (hB) rfl), ?_⟩
        conv => whnf
        refine ifB_beq (fun w2 => ?_) (fun w2 => ?_)
        · conv => whnf
          refine ⟨?_, nofun⟩
          exact ave_rngE _ _ _ _ rfl
        · (exfalso; omega)
    · rw [decide_eq_false hfl]
      unfold circF
      rw [if_neg hc]
      refine sound (d := 2) tok2 mixed2 Try.func53 (by kernel_rfl) (by kernel_rfl) ?_
      conv => whnf
      refine .inl ⟨_, _, byX rfl (Sound1.pl (h97) rfl), ?_⟩
      conv => whnf
      refine ifB_dec (fun w1 => ?_) (fun w1 => ?_)
      · (exfalso; omega)
      · conv => whnf
        refine ⟨[], by kernel_rfl, ?_⟩
        conv => whnf
        refine .inl ⟨_, _, byX rfl (Sound1.pl (hA) rfl), ?_⟩
        conv => whnf
        refine .inl ⟨_, _, byX rfl (Sound1.pl (hB) rfl), ?_⟩
        conv => whnf
        refine ifB_beq (fun w2 => ?_) (fun w2 => ?_)
        · (exfalso; omega)
        · conv => whnf
          refine ⟨[], [1, 2, 6, 7], fun st mq => ∃ (n : Nat) (a : Int) (e : Int), (-200000 ≤ a ∧ e ≤ 200000) ∧ ((e - a).toNat < 2 ^ n) ∧ (leastF (fun q => decide (gapF N (brF N) (clF N).1 q ≥ 0)) n a e = circHi N (brF N) (clF N).1) ∧ st = ⟨[(1, .optr 0 0 0 0), (2, .optr 1 0 0 0), (6, i64 a), (7, i64 e)], ⟨[⟨2, 1, fun _ => [listA 4 ndC nd0 N.ns, listA 6 cnC cn0 N.cs], 0, false, true, true⟩, ⟨2, 1, fun _ => [i64 0, i64 0], 0, false, true, true⟩], [], none, 0⟩, []⟩ ∧ mq = n,
            ⟨_, _, ⟨19, -200000, 200000, by omega, by decide, rfl, rfl, rfl⟩, ⟨⟨rfl, rfl, rfl, rfl⟩, ⟨⟨rfl, rfl, rfl, rfl, fun _ => rfl, fun _ _ => rfl⟩, ⟨⟨rfl, rfl, rfl, rfl, fun _ => rfl, fun _ _ => rfl⟩, trivial⟩⟩, trivial⟩⟩, ?_⟩
          rintro s0 m0 ⟨n, a, e, h1, h3, h4, rfl, hmeas⟩
          by_cases hlt : a < e
          · obtain ⟨k, rfl⟩ : ∃ k, n = k + 1 := by
              cases n with
              | zero => simp at h3; omega
              | succ k => exact ⟨k, rfl⟩
            have hs : (e - a).toNat < 2 ^ k * 2 := by rw [← Nat.pow_succ]; exact h3
            have hmid : a + (e - a) / 2 = (a + e) / 2 := by omega
            rw [leastF, if_pos hlt, hmid] at h4
            have hM := h112 ((a + e) / 2) (by omega)
            have h1A := h113 (a + e) (by omega) (by omega)
            conv => whnf
            conv => whnf
            refine ifB_dec (fun w3 => ?_) (fun w3 => ?_)
            · conv => whnf
              conv => whnf
              refine ⟨inK64 (by omega) (by omega), ?_⟩
              conv => whnf
              conv => whnf
              refine .inl ⟨_, _, byX rfl (Sound1.pl (h1A) rfl), ?_⟩
              conv => whnf
              conv => whnf
              refine .inl ⟨_, _, byX rfl (Sound1.pl (hM) rfl), ?_⟩
              conv => whnf
              conv => whnf
              refine ifB_dec (fun w4 => ?_) (fun w4 => ?_)
              · rw [decide_eq_true (show gapF N (brF N) (clF N).1 ((a + e) / 2) ≥ 0 by assumption), cond_true] at h4
                conv => whnf
                conv => whnf
                refine ⟨_, _, ⟨⟨k, a, (a + e) / 2, by omega, by omega, h4, rfl, rfl⟩, by omega⟩, ⟨⟨rfl, rfl, rfl, rfl⟩, ⟨⟨rfl, rfl, rfl, rfl, fun _ => rfl, fun _ _ => rfl⟩, ⟨⟨rfl, rfl, rfl, rfl, fun _ => rfl, fun _ _ => rfl⟩, trivial⟩⟩, trivial⟩⟩
              · conv => whnf
                conv => whnf
                refine ⟨inK64 (by omega) (by omega), ?_⟩
                rw [decide_eq_false (show ¬ gapF N (brF N) (clF N).1 ((a + e) / 2) ≥ 0 by assumption), cond_false] at h4
                conv => whnf
                conv => whnf
                refine ⟨_, _, ⟨⟨k, (a + e) / 2 + 1, e, by omega, by omega, h4, rfl, rfl⟩, by omega⟩, ⟨⟨rfl, rfl, rfl, rfl⟩, ⟨⟨rfl, rfl, rfl, rfl, fun _ => rfl, fun _ _ => rfl⟩, ⟨⟨rfl, rfl, rfl, rfl, fun _ => rfl, fun _ _ => rfl⟩, trivial⟩⟩, trivial⟩⟩
            · (exfalso; omega)
          · have h5 := leastF_done (p := fun q => decide (gapF N (brF N) (clF N).1 q ≥ 0)) (n := n) hlt
            rw [h5] at h4
            subst h4
            conv => whnf
            conv => whnf
            refine ifB_dec (fun w3 => ?_) (fun w3 => ?_)
            · (exfalso; omega)
            · conv => whnf
              conv => whnf
              refine .inl ⟨_, _, byX rfl (Sound1.pl (hZ) rfl), ?_⟩
              conv => whnf
              conv => whnf
              refine ifB_beq (fun w4 => ?_) (fun w4 => ?_)
              · conv => whnf
                conv => whnf
                refine ⟨?_, nofun⟩
                rw [if_pos (show gapF N (brF N) (clF N).1 (circHi N (brF N) (clF N).1) = 0 by assumption)]
                exact ave_rngE _ _ _ _ rfl
              · conv => whnf
                conv => whnf
                refine ⟨inK64 (by omega) (by omega), ?_⟩
                conv => whnf
                conv => whnf
                refine ⟨?_, nofun⟩
                rw [if_neg (show ¬ gapF N (brF N) (clF N).1 (circHi N (brF N) (clF N).1) = 0 by assumption)]
                exact ave_rngE _ _ _ _ rfl

/-- As S21 says it. -/
theorem S21c (q : Int) : SP 21 [i64 q] (i64 (crE q)) false := by
  have h := S21 q
  have e : (if -200000 ≤ q ∧ q ≤ 200000 then (0 : Int) else 2) = crE q := by unfold crE; simp only [decide_eq_true_eq]
  rw [e] at h; exact h
theorem crE_two (q : Int) : crE q = 0 ∨ crE q = 2 := by unfold crE; split <;> simp
theorem S52 (N : Net) (hok : N.Ok) (hF : formE N = 0) (x y : Int) : SP 52 [netV N, .agg [i64 x, i64 y]] (i64 (chkE N (x, y))) false := by
  have hS := stOk hok
  have hx := S21c x
  have hy := S21c y
  have h53 := S53 N hok (formE_ok hF).2
  have hp := fun h => proves_iff hS (net_ne hok hS.cl) h (x, y)
  unfold chkE chk0
  rw [firstOf4, if_pos hF]
  simp only
  rcases crE_two x with ex | ex
  · rw [ex] at hx ⊢
    rcases crE_two y with ey | ey
    · rw [ey] at hy ⊢
      simp only [if_true]
      by_cases hxy : x ≤ y
      · rw [decide_eq_true hxy]
        simp only [if_true]
        cases hq : flatQ N (brF N) (clF N).1 with
        | true =>
          rw [hq] at h53
          simp only [if_true] at h53 ⊢
          refine sound (d := 2) tok2 mixed2 Try.func52 (by kernel_rfl) (by kernel_rfl) ?_
          conv => whnf
          refine .inl ⟨_, _, byX rfl (Sound1.pl (hx) rfl), ?_⟩
          conv => whnf
          refine .inl ⟨_, _, byX rfl (Sound1.pl (hy) rfl), ?_⟩
          conv => whnf
          refine ifB_dec (fun w1 => ?_) (fun w1 => ?_)
          · (exfalso; omega)
          · conv => whnf
            refine .inl ⟨_, _, byX rfl (Sound1.pl (h53) rfl), ?_⟩
            conv => whnf
            refine ⟨?_, nofun⟩
            rfl
        | false =>
          rw [hq] at h53
          simp only [Bool.false_eq_true, if_false] at h53 ⊢
          have hp := hp (flatQ_of hq)
          generalize circF N (brF N) (clF N).1 = z at *
          obtain ⟨z1, z2⟩ := z
          change SP 53 [netV N] (.tuple [.agg [i64 z1, i64 z2], i64 0]) false at h53
          rw [Prod.mk.injEq] at hp
          refine sound (d := 2) tok2 mixed2 Try.func52 (by kernel_rfl) (by kernel_rfl) ?_
          conv => whnf
          refine .inl ⟨_, _, byX rfl (Sound1.pl (hx) rfl), ?_⟩
          conv => whnf
          refine .inl ⟨_, _, byX rfl (Sound1.pl (hy) rfl), ?_⟩
          conv => whnf
          refine ifB_dec (fun w1 => ?_) (fun w1 => ?_)
          · (exfalso; omega)
          · conv => whnf
            refine .inl ⟨_, _, byX rfl (Sound1.pl (h53) rfl), ?_⟩
            conv => whnf
            refine ifB_not ?_
            conv => whnf
            refine ifB_veq2 (fun w2 => ?_) (fun w2 => ?_)
            · conv => whnf
              refine ⟨?_, nofun⟩
              show i64 _ = i64 _
              rw [if_pos (hp.2 (by assumption))]
            · conv => whnf
              refine ⟨?_, nofun⟩
              show i64 _ = i64 _
              rw [if_neg (fun h => absurd (hp.1 h) (by assumption))]
      · rw [decide_eq_false hxy]
        refine sound (d := 2) tok2 mixed2 Try.func52 (by kernel_rfl) (by kernel_rfl) ?_
        conv => whnf
        refine .inl ⟨_, _, byX rfl (Sound1.pl (hx) rfl), ?_⟩
        conv => whnf
        refine .inl ⟨_, _, byX rfl (Sound1.pl (hy) rfl), ?_⟩
        conv => whnf
        refine ifB_dec (fun w1 => ?_) (fun w1 => ?_)
        · conv => whnf
          refine ⟨?_, nofun⟩
          rfl
        · (exfalso; omega)
    · rw [ey] at hy ⊢
      refine sound (d := 2) tok2 mixed2 Try.func52 (by kernel_rfl) (by kernel_rfl) ?_
      conv => whnf
      refine .inl ⟨_, _, byX rfl (Sound1.pl (hx) rfl), ?_⟩
      conv => whnf
      refine .inl ⟨_, _, byX rfl (Sound1.pl (hy) rfl), ?_⟩
      conv => whnf
      refine ⟨?_, nofun⟩
      rfl
  · rw [ex] at hx ⊢
    refine sound (d := 2) tok2 mixed2 Try.func52 (by kernel_rfl) (by kernel_rfl) ?_
    conv => whnf
    refine .inl ⟨_, _, byX rfl (Sound1.pl (hx) rfl), ?_⟩
    conv => whnf
    refine ⟨?_, nofun⟩
    rfl

theorem S54 (N : Net) (hok : N.Ok) (hF : (clF N).2 = 0) (x y : Int) (hx : -200000 ≤ x ∧ x ≤ 200000) (hy : -200000 ≤ y ∧ y ≤ 200000) :
    SP 54 [netV N, .agg [i64 x, i64 y]] (sdA (rngL (stateF N (brF N) (clF N).1 x).1 (stateF N (brF N) (clF N).1 y).1, rngL (stateF N (brF N) (clF N).1 x).2 (stateF N (brF N) (clF N).1 y).2)) false := by
  have hS := stOk hok
  have hn := hS.n1
  have hc := hS.c1
  have hA := S114 N hok hF x hx
  have hB := S114 N hok hF y hy
  have lA := state_len N (brF N) (clF N).1 x
  have lB := state_len N (brF N) (clF N).1 y
  have k1 := rngL_len lA.1 lB.1
  have k2 := rngL_len lA.2 lB.2
  have e1 := fun i => rngL_getD lA.1 lB.1 (i := i)
  have e2 := fun i => rngL_getD lA.2 lB.2 (i := i)
  generalize stateF N (brF N) (clF N).1 x = sA at *
  generalize stateF N (brF N) (clF N).1 y = sB at *
  unfold stA at hA hB
  rw [ints_n lA.1, ints_n lA.2] at hA
  rw [ints_n lB.1, ints_n lB.2] at hB
  refine sound (d := 2) tok2 mixed2 Try.func54 (by kernel_rfl) (by kernel_rfl) ?_
  conv => whnf
  refine ⟨[], by kernel_rfl, ?_⟩
  conv => whnf
  refine .inl ⟨_, _, byX rfl (hA), ?_⟩
  conv => whnf
  refine .inl ⟨_, _, byX rfl (hB), ?_⟩
  conv => whnf
  refine ⟨[.cell 5 0 2], [4, 5, 6, 7, 8], fun st mq => ∃ (k : Nat), (k ≤ N.cs.length) ∧ st = ⟨[(4, .optr 2 0 0 0), (5, .optr 3 0 0 0), (6, .optr 4 0 0 0), (7, .optr 5 0 0 0), (8, i64 k)], ⟨[⟨2, 1, fun _ => [listA 4 ndC nd0 N.ns, listA 6 cnC cn0 N.cs], 0, false, true, true⟩, ⟨2, 1, fun _ => [i64 x, i64 y], 0, false, true, true⟩, ⟨2, 1, fun _ => [.eslice, .eslice], 0, false, true, true⟩, ⟨2, 1, fun _ => [.rslice 1 N.cs.length fun i => [i64 (sA.1.getD i 0)], .rslice 1 N.ns.length fun i => [i64 (sA.2.getD i 0)]], 0, false, true, true⟩, ⟨2, 1, fun _ => [.rslice 1 N.cs.length fun i => [i64 (sB.1.getD i 0)], .rslice 1 N.ns.length fun i => [i64 (sB.2.getD i 0)]], 0, false, true, true⟩, ⟨2, 1, fun _ => [.oslice 6 0 0 k none, .eslice], 0, false, false, true⟩, ⟨2, k, fun i => brC ((rngL sA.1 sB.1).getD i (0, 0)), 0, false, true, false⟩], [], none, 0⟩, []⟩ ∧ mq = N.cs.length - k,
    ⟨_, _, ⟨0, by omega, rfl, rfl⟩, ⟨⟨rfl, rfl, rfl, rfl⟩, ⟨⟨rfl, rfl, rfl, rfl, fun _ => rfl, fun _ _ => rfl⟩, ⟨⟨rfl, rfl, rfl, rfl, fun _ => rfl, fun _ _ => rfl⟩, ⟨⟨rfl, rfl, rfl, rfl, fun _ => rfl, fun _ _ => rfl⟩, ⟨⟨rfl, rfl, rfl, rfl, fun _ => rfl, fun _ _ => rfl⟩, ⟨⟨rfl, rfl, rfl, rfl, fun _ => rfl, fun _ _ => rfl⟩, ⟨⟨rfl, rfl, rfl, rfl, nofun, fun _ _ => rfl⟩, ⟨⟨rfl, rfl, rfl, rfl, fun _ => rfl, fun i h => absurd h (Nat.not_lt_zero i)⟩, trivial⟩⟩⟩⟩⟩⟩⟩, trivial⟩⟩, ?_⟩
  rintro s0 m0 ⟨k, hk, rfl, hmeas⟩
  by_cases hkl : k < N.cs.length
  · conv => whnf
    conv => whnf
    refine ifB_dec (fun w1 => ?_) (fun w1 => ?_)
    · conv => whnf
      conv => whnf
      refine ⟨[], by kernel_rfl, ?_⟩
      conv => whnf
      conv => whnf
      refine ⟨⟨(by omega), (by omega)⟩, ?_⟩
      conv => whnf
      conv => whnf
      refine ⟨⟨(by omega), (by omega)⟩, ?_⟩
      conv => whnf
      conv => whnf
      refine ⟨⟨(by omega), (by omega)⟩, ?_⟩
      conv => whnf
      conv => whnf
      refine ⟨⟨(by omega), (by omega)⟩, ?_⟩
      conv => whnf
      conv => whnf
      refine ⟨(by show _ * (16 + 1) ≤ _; omega), ?_⟩
      conv => whnf
      conv => whnf
      refine ⟨inK64 (by omega) (by omega), ?_⟩
      conv => whnf
      conv => whnf
      refine ⟨_, _, ⟨⟨k + 1, by omega, rfl, rfl⟩, by omega⟩, ⟨⟨rfl, rfl, rfl, rfl⟩, ⟨⟨rfl, rfl, rfl, rfl, fun _ => rfl, fun _ _ => rfl⟩, ⟨⟨rfl, rfl, rfl, rfl, fun _ => rfl, fun _ _ => rfl⟩, ⟨⟨rfl, rfl, rfl, rfl, fun _ => rfl, fun _ _ => rfl⟩, ⟨⟨rfl, rfl, rfl, rfl, fun _ => rfl, fun _ _ => rfl⟩, ⟨⟨rfl, rfl, rfl, rfl, fun _ => rfl, fun _ _ => rfl⟩, ⟨⟨rfl, rfl, rfl, rfl, nofun, fun _ _ => rfl⟩, ⟨⟨rfl, rfl, rfl, rfl, fun _ => rfl, fun i h => ext_row (congrArg brC (e1 k hkl)) rfl h⟩, trivial⟩⟩⟩⟩⟩⟩⟩, trivial⟩⟩
    · (exfalso; omega)
  · have e : k = N.cs.length := by omega
    subst e
    conv => whnf
    conv => whnf
    refine ifB_dec (fun w1 => ?_) (fun w1 => ?_)
    · (exfalso; omega)
    · conv => whnf
      conv => whnf
      refine ⟨[.cell 5 1 2], [4, 5, 6, 7, 9], fun st mq => ∃ (k : Nat), (k ≤ N.ns.length) ∧ st = ⟨[(4, .optr 2 0 0 0), (5, .optr 3 0 0 0), (6, .optr 4 0 0 0), (7, .optr 5 0 0 0), (9, i64 k)], ⟨[⟨2, 1, fun _ => [listA 4 ndC nd0 N.ns, listA 6 cnC cn0 N.cs], 0, false, true, true⟩, ⟨2, 1, fun _ => [i64 x, i64 y], 0, false, true, true⟩, ⟨2, 1, fun _ => [.eslice, .eslice], 0, false, true, true⟩, ⟨2, 1, fun _ => [.rslice 1 N.cs.length fun i => [i64 (sA.1.getD i 0)], .rslice 1 N.ns.length fun i => [i64 (sA.2.getD i 0)]], 0, false, true, true⟩, ⟨2, 1, fun _ => [.rslice 1 N.cs.length fun i => [i64 (sB.1.getD i 0)], .rslice 1 N.ns.length fun i => [i64 (sB.2.getD i 0)]], 0, false, true, true⟩, ⟨2, 1, fun _ => [.oslice 6 0 0 N.cs.length none, .oslice 7 0 0 k none], 0, false, false, true⟩, ⟨2, N.cs.length, fun i => brC ((rngL sA.1 sB.1).getD i (0, 0)), 0, false, true, false⟩, ⟨2, k, fun i => brC ((rngL sA.2 sB.2).getD i (0, 0)), 0, false, true, false⟩], [], none, 0⟩, []⟩ ∧ mq = N.ns.length - k,
        ⟨_, _, ⟨0, by omega, rfl, rfl⟩, ⟨⟨rfl, rfl, rfl, rfl⟩, ⟨⟨rfl, rfl, rfl, rfl, fun _ => rfl, fun _ _ => rfl⟩, ⟨⟨rfl, rfl, rfl, rfl, fun _ => rfl, fun _ _ => rfl⟩, ⟨⟨rfl, rfl, rfl, rfl, fun _ => rfl, fun _ _ => rfl⟩, ⟨⟨rfl, rfl, rfl, rfl, fun _ => rfl, fun _ _ => rfl⟩, ⟨⟨rfl, rfl, rfl, rfl, fun _ => rfl, fun _ _ => rfl⟩, ⟨⟨rfl, rfl, rfl, rfl, nofun, fun _ _ => rfl⟩, ⟨⟨rfl, rfl, rfl, rfl, fun _ => rfl, fun _ _ => rfl⟩, ⟨⟨rfl, rfl, rfl, rfl, fun _ => rfl, fun i h => absurd h (Nat.not_lt_zero i)⟩, trivial⟩⟩⟩⟩⟩⟩⟩⟩, trivial⟩⟩, ?_⟩
      rintro s0 m0 ⟨k, hk, rfl, hmeas⟩
      by_cases hkl : k < N.ns.length
      · conv => whnf
        conv => whnf
        conv => whnf
        refine ifB_dec (fun w2 => ?_) (fun w2 => ?_)
        · conv => whnf
          conv => whnf
          conv => whnf
          refine ⟨[], by kernel_rfl, ?_⟩
          conv => whnf
          conv => whnf
          conv => whnf
          refine ⟨⟨(by omega), (by omega)⟩, ?_⟩
          conv => whnf
          conv => whnf
          conv => whnf
          refine ⟨⟨(by omega), (by omega)⟩, ?_⟩
          conv => whnf
          conv => whnf
          conv => whnf
          refine ⟨⟨(by omega), (by omega)⟩, ?_⟩
          conv => whnf
          conv => whnf
          conv => whnf
          refine ⟨⟨(by omega), (by omega)⟩, ?_⟩
          conv => whnf
          conv => whnf
          conv => whnf
          refine ⟨(by show _ * (16 + 1) ≤ _; omega), ?_⟩
          conv => whnf
          conv => whnf
          conv => whnf
          refine ⟨inK64 (by omega) (by omega), ?_⟩
          conv => whnf
          conv => whnf
          conv => whnf
          refine ⟨_, _, ⟨⟨k + 1, by omega, rfl, rfl⟩, by omega⟩, ⟨⟨rfl, rfl, rfl, rfl⟩, ⟨⟨rfl, rfl, rfl, rfl, fun _ => rfl, fun _ _ => rfl⟩, ⟨⟨rfl, rfl, rfl, rfl, fun _ => rfl, fun _ _ => rfl⟩, ⟨⟨rfl, rfl, rfl, rfl, fun _ => rfl, fun _ _ => rfl⟩, ⟨⟨rfl, rfl, rfl, rfl, fun _ => rfl, fun _ _ => rfl⟩, ⟨⟨rfl, rfl, rfl, rfl, fun _ => rfl, fun _ _ => rfl⟩, ⟨⟨rfl, rfl, rfl, rfl, nofun, fun _ _ => rfl⟩, ⟨⟨rfl, rfl, rfl, rfl, fun _ => rfl, fun _ _ => rfl⟩, ⟨⟨rfl, rfl, rfl, rfl, fun _ => rfl, fun i h => ext_row (congrArg brC (e2 k hkl)) rfl h⟩, trivial⟩⟩⟩⟩⟩⟩⟩⟩, trivial⟩⟩
        · (exfalso; omega)
      · have e : k = N.ns.length := by omega
        subst e
        conv => whnf
        conv => whnf
        conv => whnf
        refine ifB_dec (fun w2 => ?_) (fun w2 => ?_)
        · (exfalso; omega)
        · conv => whnf
          conv => whnf
          conv => whnf
          refine ⟨?_, nofun⟩
          exact ave_agg2 (k := 4) (ave_br k1.symm fun _ _ => rfl) (ave_br k2.symm fun _ _ => rfl)
theorem S111 (a b : List (Int × Int)) (ha : a.length ≤ 1000000000) (hb : b.length ≤ 1000000000) : SP 111 [brA a, brA b] (vb (decide (a = b))) false := by
  refine sound (d := 2) tok2 mixed2 Try.func111 (by kernel_rfl) (by kernel_rfl) ?_
  conv => whnf
  refine ifB_bne (fun w1 => ?_) (fun w1 => ?_)
  · conv => whnf
    refine ⟨?_, nofun⟩
    exact vbE (by rw [eq_comm, decide_eq_false]; intro e; subst e; exact w1 rfl)
  · have hab : a.length = b.length := by omega
    conv => whnf
    refine ⟨[], [0, 1, 5], fun st mq => ∃ (k : Nat), (k ≤ a.length) ∧ (∀ i, i < k → a.getD i (0, 0) = b.getD i (0, 0)) ∧ st = ⟨[(0, brA a), (1, brA b), (5, i64 k)], ⟨[], [], none, 0⟩, []⟩ ∧ mq = a.length - k,
      ⟨_, _, ⟨0, by omega, fun i h => absurd h (Nat.not_lt_zero i), rfl, rfl⟩, ⟨⟨rfl, rfl, rfl, rfl⟩, trivial, trivial⟩⟩, ?_⟩
    rintro s0 m0 ⟨k, hk, h1, rfl, hmeas⟩
    conv => whnf
    conv => whnf
    refine ifB_dec (fun w2 => ?_) (fun w2 => ?_)
    · conv => whnf
      conv => whnf
      refine ⟨[], by kernel_rfl, ?_⟩
      conv => whnf
      conv => whnf
      refine ⟨⟨(by omega), (by omega)⟩, ?_⟩
      conv => whnf
      conv => whnf
      refine ⟨⟨(by omega), (by omega)⟩, ?_⟩
      conv => whnf
      conv => whnf
      refine ifB_not ?_
      conv => whnf
      conv => whnf
      refine ifB_veq2 (fun w3 => ?_) (fun w3 => ?_)
      · conv => whnf
        conv => whnf
        refine ⟨inK64 (by omega) (by omega), ?_⟩
        have e : a.getD k (0, 0) = b.getD k (0, 0) := by
          have w : (a.getD k (0, 0)).1 = (b.getD k (0, 0)).1 ∧ (a.getD k (0, 0)).2 = (b.getD k (0, 0)).2 := by first | exact w2 | exact w3
          exact Prod.ext w.1 w.2
        conv => whnf
        conv => whnf
        refine ⟨_, _, ⟨⟨k + 1, by omega, fun i hi => (by rcases Nat.lt_or_ge i k with h | h; exact h1 i h; rw [show i = k by omega]; exact e), rfl, rfl⟩, by omega⟩, ⟨⟨rfl, rfl, rfl, rfl⟩, trivial, trivial⟩⟩
      · conv => whnf
        conv => whnf
        refine ⟨?_, nofun⟩
        have w : ¬ ((a.getD k (0, 0)).1 = (b.getD k (0, 0)).1 ∧ (a.getD k (0, 0)).2 = (b.getD k (0, 0)).2) := by first | exact w2 | exact w3
        exact vbE (by rw [eq_comm, decide_eq_false]; intro e; subst e; exact w ⟨rfl, rfl⟩)
    · conv => whnf
      conv => whnf
      refine ⟨?_, nofun⟩
      have e : k = a.length := by omega
      subst e
      refine vbE ?_
      rw [eq_comm, decide_eq_true]
      apply List.ext_getElem hab
      intro i h2 h3
      have := h1 i h2
      simpa [List.getD_eq_getElem?_getD, h2, h3] using this
end Go.Tr

/- The law WaterReaches returns true. Conditions: none. -/
import Derived.Test.YtkomdfgffgkphaaTr07
import Derived.Test.YtkomdfgffgkphaaTr09

namespace Go.Tr
open Go Go.Proofs
set_option maxRecDepth 20000
set_option maxHeartbeats 8000000

theorem S29ex (N : Net) (hN : N.In) (k : Int) : ∃ L E, SP 29 [netV N, i64 k] (.tuple [ints L, i64 E]) false ∧
    (netE N ≠ 0 ∧ E = netE N ∧ L = [] ∨ netE N = 0 ∧ ndE N k ≠ 0 ∧ E = ndE N k ∧ L = [] ∨ netE N = 0 ∧ ndE N k = 0 ∧ E = 0 ∧ L = whereF 0 (reachB N k)) := by
  refine ⟨_, _, S29 N hN k, ?_⟩
  rw [firstOf2]
  by_cases h1 : netE N = 0
  · rw [if_pos h1]
    by_cases h2 : ndE N k = 0
    · rw [if_pos h2, if_pos rfl]; exact .inr (.inr ⟨h1, h2, rfl, rfl⟩)
    · rw [if_neg h2, if_neg h2]; exact .inr (.inl ⟨h1, h2, rfl, rfl⟩)
  · rw [if_neg h1, if_neg h1]; exact .inl ⟨h1, rfl, rfl⟩
theorem S30ex (N : Net) (hN : N.In) : ∃ L, SP 30 [netV N] (.tuple [ints L, i64 (netE N)]) false ∧ (netE N ≠ 0 ∧ L = [] ∨ netE N = 0 ∧ L = whereF 0 (wetB N)) := by
  refine ⟨_, S30 N hN, ?_⟩
  by_cases h1 : netE N = 0
  · rw [if_pos h1]; exact .inr ⟨h1, rfl⟩
  · rw [if_neg h1]; exact .inl ⟨h1, rfl⟩
theorem S31ex (N : Net) (hN : N.In) (k : Int) : ∃ L E, SP 31 [netV N, i64 k] (.tuple [ints L, i64 E]) false ∧
    (netE N ≠ 0 ∧ E = netE N ∧ L = [] ∨ netE N = 0 ∧ ¬ (0 ≤ k ∧ k ≤ (N.cs.length : Int) - 1) ∧ E = 6 ∧ L = [] ∨
      netE N = 0 ∧ (0 ≤ k ∧ k ≤ (N.cs.length : Int) - 1) ∧ (N.cs.getD k.toNat cn0).valve = false ∧ E = 12 ∧ L = [] ∨
      netE N = 0 ∧ (0 ≤ k ∧ k ≤ (N.cs.length : Int) - 1) ∧ (N.cs.getD k.toNat cn0).valve = true ∧ E = 0 ∧ L = whereF 0 (fillB N k.toNat)) := by
  refine ⟨_, _, S31 N hN k, ?_⟩
  unfold fillE
  rw [firstOf2]
  by_cases h1 : netE N = 0
  · rw [if_pos h1]
    unfold conN
    by_cases h2 : 0 ≤ k ∧ k ≤ (N.cs.length : Int) - 1
    · have e : (if decide (0 ≤ k ∧ k ≤ (N.cs.length : Int) - 1) = true then (0 : Int) else 6) = 0 := if_pos (decide_eq_true h2)
      rw [e]
      cases hv : (N.cs.getD k.toNat cn0).valve with
      | true => exact .inr (.inr (.inr ⟨h1, h2, rfl, rfl, rfl⟩))
      | false => exact .inr (.inr (.inl ⟨h1, h2, rfl, rfl, rfl⟩))
    · have e : (if decide (0 ≤ k ∧ k ≤ (N.cs.length : Int) - 1) = true then (0 : Int) else 6) = 6 := if_neg (by simpa using h2)
      rw [e]
      exact .inr (.inl ⟨h1, h2, rfl, rfl⟩)
  · rw [if_neg h1, if_neg h1, if_neg h1]; exact .inl ⟨h1, rfl, rfl⟩

set_option maxHeartbeats 0 in
theorem S5 (N : Net) (hN : N.In) (k c : Int) : SP 5 [netV N, i64 k, i64 c] (vb true) false := by
  have hn := hN.nl
  cases hf : fewB N with
  | false =>
    have h15 := S15 N hN
    rw [hf] at h15
    refine sound (d := 2) tok2 mixed2 Try.func5 (by kernel_rfl) (by kernel_rfl) ?_
    conv => whnf
    refine .inl ⟨_, _, byX rfl (Sound1.pl (S14) rfl), ?_⟩
    conv => whnf
    refine .inl ⟨_, _, byX rfl (Sound1.pl (h15) rfl), ?_⟩
    conv => whnf
    refine ⟨?_, nofun⟩
    (rfl)
  | true =>
    obtain ⟨b1, b2⟩ := few_bounds hf
    obtain ⟨L1, E1, h29, q1⟩ := S29ex N hN k
    obtain ⟨L2, h30, q2⟩ := S30ex N hN
    obtain ⟨L3, E3, h31, q3⟩ := S31ex N hN c
    have h15 := S15 N hN
    rw [hf] at h15
    have h17 := S17 N (by omega) (by omega)
    have h32 := S32 N hN
    have h33 := S33 N hn k
    by_cases hE : netE N = 0
    · have hok := net_ok hE
      replace q2 : L2 = whereF 0 (wetB N) := by
        rcases q2 with ⟨e, _⟩ | ⟨_, e⟩
        · exact absurd hE e
        · exact e
      subst q2
      have l2 := whereF_len (wetB N) 0
      rw [wetB_len] at l2
      have h36 := S36 N (by omega) (by omega) hok.ends
      have h34b := S34 (whereF 0 (wetB N)) (whereF 0 (wetB N)) (by omega) (by omega)
      rcases q1 with ⟨e, _⟩ | ⟨_, e1, e2, rfl⟩ | ⟨_, e1, e2, rfl⟩
      · exact absurd hE e
      · rcases q3 with ⟨e, _⟩ | ⟨_, f1, f2, rfl⟩ | ⟨_, f1, f2, f3, rfl⟩ | ⟨_, f1, f2, f3, rfl⟩
        · exact absurd hE e
        · refine sound (d := 2) tok2 mixed2 Try.func5 (by kernel_rfl) (by kernel_rfl) ?_
          conv => whnf
          refine .inl ⟨_, _, byX rfl (Sound1.pl (S14) rfl), ?_⟩
          conv => whnf
          refine .inl ⟨_, _, byX rfl (Sound1.pl (h15) rfl), ?_⟩
          conv => whnf
          refine .inl ⟨_, _, byX rfl (h17), ?_⟩
          conv => whnf
          refine .inl ⟨_, _, byX rfl (h29), ?_⟩
          conv => whnf
          refine .inl ⟨_, _, byX rfl (h17), ?_⟩
          conv => whnf
          refine .inl ⟨_, _, byX rfl (h30), ?_⟩
          conv => whnf
          refine .inl ⟨_, _, byX rfl (h17), ?_⟩
          conv => whnf
          refine .inl ⟨_, _, byX rfl (h31), ?_⟩
          conv => whnf
          refine .inl ⟨_, _, byX rfl (Sound1.pl (h32) rfl), ?_⟩
          conv => whnf
          refine ifB_bne (fun w1 => ?_) (fun w1 => ?_)
          · (exfalso; omega)
          · conv => whnf
            refine .inl ⟨_, _, byX rfl (Sound1.pl (h33) rfl), ?_⟩
            conv => whnf
            refine ifB_bne (fun w2 => ?_) (fun w2 => ?_)
            · conv => whnf
              refine ifB_bne (fun w3 => ?_) (fun w3 => ?_)
              · (exfalso; omega)
              · conv => whnf
                refine ifB_beq (fun w4 => ?_) (fun w4 => ?_)
                · (exfalso; omega)
                · conv => whnf
                  refine ifB_bne (fun w5 => ?_) (fun w5 => ?_)
                  · (exfalso; omega)
                  · conv => whnf
                    refine .inl ⟨_, _, byX rfl (h36), ?_⟩
                    conv => whnf
                    refine .inl ⟨_, _, byX rfl (Sound1.pl (h34b) rfl), ?_⟩
                    conv => whnf
                    refine ifB_not ?_
                    conv => whnf
                    refine ifB_dec (fun w6 => ?_) (fun w6 => ?_)
                    · conv => whnf
                      refine ⟨inK64 (by omega) (by omega), ?_⟩
                      conv => whnf
                      refine .inl ⟨_, _, byX rfl (Sound1.pl (S20 _ _ _) rfl), ?_⟩
                      conv => whnf
                      refine ifB_not ?_
                      conv => whnf
                      refine ifB_dec (fun w7 => ?_) (fun w7 => ?_)
                      · (exfalso; omega)
                      · conv => whnf
                        refine ifB_beq (fun w8 => ?_) (fun w8 => ?_)
                        · conv => whnf
                          refine ⟨?_, nofun⟩
                          (rfl)
                        · (exfalso; omega)
                    · exact absurd rfl w6
            · (exfalso; omega)
        · refine sound (d := 2) tok2 mixed2 Try.func5 (by kernel_rfl) (by kernel_rfl) ?_
          conv => whnf
          refine .inl ⟨_, _, byX rfl (Sound1.pl (S14) rfl), ?_⟩
          conv => whnf
          refine .inl ⟨_, _, byX rfl (Sound1.pl (h15) rfl), ?_⟩
          conv => whnf
          refine .inl ⟨_, _, byX rfl (h17), ?_⟩
          conv => whnf
          refine .inl ⟨_, _, byX rfl (h29), ?_⟩
          conv => whnf
          refine .inl ⟨_, _, byX rfl (h17), ?_⟩
          conv => whnf
          refine .inl ⟨_, _, byX rfl (h30), ?_⟩
          conv => whnf
          refine .inl ⟨_, _, byX rfl (h17), ?_⟩
          conv => whnf
          refine .inl ⟨_, _, byX rfl (h31), ?_⟩
          conv => whnf
          refine .inl ⟨_, _, byX rfl (Sound1.pl (h32) rfl), ?_⟩
          conv => whnf
          refine ifB_bne (fun w1 => ?_) (fun w1 => ?_)
          · (exfalso; omega)
          · conv => whnf
            refine .inl ⟨_, _, byX rfl (Sound1.pl (h33) rfl), ?_⟩
            conv => whnf
            refine ifB_bne (fun w2 => ?_) (fun w2 => ?_)
            · conv => whnf
              refine ifB_bne (fun w3 => ?_) (fun w3 => ?_)
              · (exfalso; omega)
              · conv => whnf
                refine ifB_beq (fun w4 => ?_) (fun w4 => ?_)
                · (exfalso; omega)
                · conv => whnf
                  refine ifB_bne (fun w5 => ?_) (fun w5 => ?_)
                  · (exfalso; omega)
                  · conv => whnf
                    refine .inl ⟨_, _, byX rfl (h36), ?_⟩
                    conv => whnf
                    refine .inl ⟨_, _, byX rfl (Sound1.pl (h34b) rfl), ?_⟩
                    conv => whnf
                    refine ifB_not ?_
                    conv => whnf
                    refine ifB_dec (fun w6 => ?_) (fun w6 => ?_)
                    · conv => whnf
                      refine ⟨inK64 (by omega) (by omega), ?_⟩
                      conv => whnf
                      refine .inl ⟨_, _, byX rfl (Sound1.pl (S20 _ _ _) rfl), ?_⟩
                      conv => whnf
                      refine ifB_not ?_
                      conv => whnf
                      refine ifB_dec (fun w7 => ?_) (fun w7 => ?_)
                      · conv => whnf
                        refine ⟨⟨(by omega), (by omega)⟩, ?_⟩
                        conv => whnf
                        refine ifB_not ?_
                        conv => whnf
                        refine ifB_intro (fun w8 => ?_) (fun w8 => ?_)
                        · exact absurd (f2.symm.trans w8) nofun
                        · conv => whnf
                          refine ifB_beq (fun w9 => ?_) (fun w9 => ?_)
                          · conv => whnf
                            refine ⟨?_, nofun⟩
                            (rfl)
                          · (exfalso; omega)
                      · (exfalso; omega)
                    · exact absurd rfl w6
            · (exfalso; omega)
        · have l3 := whereF_len (fillB N c.toNat) 0
          rw [fillB_len] at l3
          have h37 := S37 N c.toNat (by omega) (by omega) (by omega) hok.ends
          rw [show ((c.toNat : Nat) : Int) = c by omega] at h37
          have h34c := S34 (whereF 0 (fillB N c.toNat)) (whereF 0 (fillB N c.toNat)) (by omega) (by omega)
          refine sound (d := 2) tok2 mixed2 Try.func5 (by kernel_rfl) (by kernel_rfl) ?_
          conv => whnf
          refine .inl ⟨_, _, byX rfl (Sound1.pl (S14) rfl), ?_⟩
          conv => whnf
          refine .inl ⟨_, _, byX rfl (Sound1.pl (h15) rfl), ?_⟩
          conv => whnf
          refine .inl ⟨_, _, byX rfl (h17), ?_⟩
          conv => whnf
          refine .inl ⟨_, _, byX rfl (h29), ?_⟩
          conv => whnf
          refine .inl ⟨_, _, byX rfl (h17), ?_⟩
          conv => whnf
          refine .inl ⟨_, _, byX rfl (h30), ?_⟩
          conv => whnf
          refine .inl ⟨_, _, byX rfl (h17), ?_⟩
          conv => whnf
          refine .inl ⟨_, _, byX rfl (h31), ?_⟩
          conv => whnf
          refine .inl ⟨_, _, byX rfl (Sound1.pl (h32) rfl), ?_⟩
          conv => whnf
          refine ifB_bne (fun w1 => ?_) (fun w1 => ?_)
          · (exfalso; omega)
          · conv => whnf
            refine .inl ⟨_, _, byX rfl (Sound1.pl (h33) rfl), ?_⟩
            conv => whnf
            refine ifB_bne (fun w2 => ?_) (fun w2 => ?_)
            · conv => whnf
              refine ifB_bne (fun w3 => ?_) (fun w3 => ?_)
              · (exfalso; omega)
              · conv => whnf
                refine ifB_beq (fun w4 => ?_) (fun w4 => ?_)
                · (exfalso; omega)
                · conv => whnf
                  refine ifB_bne (fun w5 => ?_) (fun w5 => ?_)
                  · (exfalso; omega)
                  · conv => whnf
                    refine .inl ⟨_, _, byX rfl (h36), ?_⟩
                    conv => whnf
                    refine .inl ⟨_, _, byX rfl (Sound1.pl (h34b) rfl), ?_⟩
                    conv => whnf
                    refine ifB_not ?_
                    conv => whnf
                    refine ifB_dec (fun w6 => ?_) (fun w6 => ?_)
                    · conv => whnf
                      refine ⟨inK64 (by omega) (by omega), ?_⟩
                      conv => whnf
                      refine .inl ⟨_, _, byX rfl (Sound1.pl (S20 _ _ _) rfl), ?_⟩
                      conv => whnf
                      refine ifB_not ?_
                      conv => whnf
                      refine ifB_dec (fun w7 => ?_) (fun w7 => ?_)
                      · conv => whnf
                        refine ⟨⟨(by omega), (by omega)⟩, ?_⟩
                        conv => whnf
                        refine ifB_not ?_
                        conv => whnf
                        refine ifB_intro (fun w8 => ?_) (fun w8 => ?_)
                        · conv => whnf
                          refine ifB_beq (fun w9 => ?_) (fun w9 => ?_)
                          · conv => whnf
                            refine .inl ⟨_, _, byX rfl (h37), ?_⟩
                            conv => whnf
                            refine .inl ⟨_, _, byX rfl (Sound1.pl (h34c) rfl), ?_⟩
                            conv => whnf
                            refine ⟨?_, nofun⟩
                            show vb (decide (_ = _)) = vb true
                            rw [decide_eq_true rfl]
                          · (exfalso; omega)
                        · exact absurd (f2.symm.trans w8) nofun
                      · (exfalso; omega)
                    · exact absurd rfl w6
            · (exfalso; omega)
      · have hk : 0 ≤ k ∧ k ≤ (N.ns.length : Int) - 1 := by
          unfold ndE at e1
          split at e1
          · assumption
          · cases e1
        have l1 := whereF_len (reachB N k) 0
        rw [reachB_len] at l1
        have h35 := S35 N k hk.1 (by omega) (by omega) (by omega) hok.ends
        have h34a := S34 (whereF 0 (reachB N k)) (whereF 0 (reachB N k)) (by omega) (by omega)
        rcases q3 with ⟨e, _⟩ | ⟨_, f1, f2, rfl⟩ | ⟨_, f1, f2, f3, rfl⟩ | ⟨_, f1, f2, f3, rfl⟩
        · exact absurd hE e
        · refine sound (d := 2) tok2 mixed2 Try.func5 (by kernel_rfl) (by kernel_rfl) ?_
          conv => whnf
          refine .inl ⟨_, _, byX rfl (Sound1.pl (S14) rfl), ?_⟩
          conv => whnf
          refine .inl ⟨_, _, byX rfl (Sound1.pl (h15) rfl), ?_⟩
          conv => whnf
          refine .inl ⟨_, _, byX rfl (h17), ?_⟩
          conv => whnf
          refine .inl ⟨_, _, byX rfl (h29), ?_⟩
          conv => whnf
          refine .inl ⟨_, _, byX rfl (h17), ?_⟩
          conv => whnf
          refine .inl ⟨_, _, byX rfl (h30), ?_⟩
          conv => whnf
          refine .inl ⟨_, _, byX rfl (h17), ?_⟩
          conv => whnf
          refine .inl ⟨_, _, byX rfl (h31), ?_⟩
          conv => whnf
          refine .inl ⟨_, _, byX rfl (Sound1.pl (h32) rfl), ?_⟩
          conv => whnf
          refine ifB_bne (fun w1 => ?_) (fun w1 => ?_)
          · (exfalso; omega)
          · conv => whnf
            refine .inl ⟨_, _, byX rfl (Sound1.pl (h33) rfl), ?_⟩
            conv => whnf
            refine ifB_bne (fun w2 => ?_) (fun w2 => ?_)
            · (exfalso; omega)
            · conv => whnf
              refine ifB_beq (fun w3 => ?_) (fun w3 => ?_)
              · conv => whnf
                refine ifB_bne (fun w4 => ?_) (fun w4 => ?_)
                · (exfalso; omega)
                · conv => whnf
                  refine .inl ⟨_, _, byX rfl (h35), ?_⟩
                  conv => whnf
                  refine .inl ⟨_, _, byX rfl (Sound1.pl (h34a) rfl), ?_⟩
                  conv => whnf
                  refine ifB_not ?_
                  conv => whnf
                  refine ifB_dec (fun w5 => ?_) (fun w5 => ?_)
                  · conv => whnf
                    refine ifB_bne (fun w6 => ?_) (fun w6 => ?_)
                    · (exfalso; omega)
                    · conv => whnf
                      refine .inl ⟨_, _, byX rfl (h36), ?_⟩
                      conv => whnf
                      refine .inl ⟨_, _, byX rfl (Sound1.pl (h34b) rfl), ?_⟩
                      conv => whnf
                      refine ifB_not ?_
                      conv => whnf
                      refine ifB_dec (fun w7 => ?_) (fun w7 => ?_)
                      · conv => whnf
                        refine ⟨inK64 (by omega) (by omega), ?_⟩
                        conv => whnf
                        refine .inl ⟨_, _, byX rfl (Sound1.pl (S20 _ _ _) rfl), ?_⟩
                        conv => whnf
                        refine ifB_not ?_
                        conv => whnf
                        refine ifB_dec (fun w8 => ?_) (fun w8 => ?_)
                        · (exfalso; omega)
                        · conv => whnf
                          refine ifB_beq (fun w9 => ?_) (fun w9 => ?_)
                          · conv => whnf
                            refine ⟨?_, nofun⟩
                            (rfl)
                          · (exfalso; omega)
                      · exact absurd rfl w7
                  · exact absurd rfl w5
              · (exfalso; omega)
        · refine sound (d := 2) tok2 mixed2 Try.func5 (by kernel_rfl) (by kernel_rfl) ?_
          conv => whnf
          refine .inl ⟨_, _, byX rfl (Sound1.pl (S14) rfl), ?_⟩
          conv => whnf
          refine .inl ⟨_, _, byX rfl (Sound1.pl (h15) rfl), ?_⟩
          conv => whnf
          refine .inl ⟨_, _, byX rfl (h17), ?_⟩
          conv => whnf
          refine .inl ⟨_, _, byX rfl (h29), ?_⟩
          conv => whnf
          refine .inl ⟨_, _, byX rfl (h17), ?_⟩
          conv => whnf
          refine .inl ⟨_, _, byX rfl (h30), ?_⟩
          conv => whnf
          refine .inl ⟨_, _, byX rfl (h17), ?_⟩
          conv => whnf
          refine .inl ⟨_, _, byX rfl (h31), ?_⟩
          conv => whnf
          refine .inl ⟨_, _, byX rfl (Sound1.pl (h32) rfl), ?_⟩
          conv => whnf
          refine ifB_bne (fun w1 => ?_) (fun w1 => ?_)
          · (exfalso; omega)
          · conv => whnf
            refine .inl ⟨_, _, byX rfl (Sound1.pl (h33) rfl), ?_⟩
            conv => whnf
            refine ifB_bne (fun w2 => ?_) (fun w2 => ?_)
            · (exfalso; omega)
            · conv => whnf
              refine ifB_beq (fun w3 => ?_) (fun w3 => ?_)
              · conv => whnf
                refine ifB_bne (fun w4 => ?_) (fun w4 => ?_)
                · (exfalso; omega)
                · conv => whnf
                  refine .inl ⟨_, _, byX rfl (h35), ?_⟩
                  conv => whnf
                  refine .inl ⟨_, _, byX rfl (Sound1.pl (h34a) rfl), ?_⟩
                  conv => whnf
                  refine ifB_not ?_
                  conv => whnf
                  refine ifB_dec (fun w5 => ?_) (fun w5 => ?_)
                  · conv => whnf
                    refine ifB_bne (fun w6 => ?_) (fun w6 => ?_)
                    · (exfalso; omega)
                    · conv => whnf
                      refine .inl ⟨_, _, byX rfl (h36), ?_⟩
                      conv => whnf
                      refine .inl ⟨_, _, byX rfl (Sound1.pl (h34b) rfl), ?_⟩
                      conv => whnf
                      refine ifB_not ?_
                      conv => whnf
                      refine ifB_dec (fun w7 => ?_) (fun w7 => ?_)
                      · conv => whnf
                        refine ⟨inK64 (by omega) (by omega), ?_⟩
                        conv => whnf
                        refine .inl ⟨_, _, byX rfl (Sound1.pl (S20 _ _ _) rfl), ?_⟩
                        conv => whnf
                        refine ifB_not ?_
                        conv => whnf
                        refine ifB_dec (fun w8 => ?_) (fun w8 => ?_)
                        · conv => whnf
                          refine ⟨⟨(by omega), (by omega)⟩, ?_⟩
                          conv => whnf
                          refine ifB_not ?_
                          conv => whnf
                          refine ifB_intro (fun w9 => ?_) (fun w9 => ?_)
                          · exact absurd (f2.symm.trans w9) nofun
                          · conv => whnf
                            refine ifB_beq (fun w10 => ?_) (fun w10 => ?_)
                            · conv => whnf
                              refine ⟨?_, nofun⟩
                              (rfl)
                            · (exfalso; omega)
                        · (exfalso; omega)
                      · exact absurd rfl w7
                  · exact absurd rfl w5
              · (exfalso; omega)
        · have l3 := whereF_len (fillB N c.toNat) 0
          rw [fillB_len] at l3
          have h37 := S37 N c.toNat (by omega) (by omega) (by omega) hok.ends
          rw [show ((c.toNat : Nat) : Int) = c by omega] at h37
          have h34c := S34 (whereF 0 (fillB N c.toNat)) (whereF 0 (fillB N c.toNat)) (by omega) (by omega)
          refine sound (d := 2) tok2 mixed2 Try.func5 (by kernel_rfl) (by kernel_rfl) ?_
          conv => whnf
          refine .inl ⟨_, _, byX rfl (Sound1.pl (S14) rfl), ?_⟩
          conv => whnf
          refine .inl ⟨_, _, byX rfl (Sound1.pl (h15) rfl), ?_⟩
          conv => whnf
          refine .inl ⟨_, _, byX rfl (h17), ?_⟩
          conv => whnf
          refine .inl ⟨_, _, byX rfl (h29), ?_⟩
          conv => whnf
          refine .inl ⟨_, _, byX rfl (h17), ?_⟩
          conv => whnf
          refine .inl ⟨_, _, byX rfl (h30), ?_⟩
          conv => whnf
          refine .inl ⟨_, _, byX rfl (h17), ?_⟩
          conv => whnf
          refine .inl ⟨_, _, byX rfl (h31), ?_⟩
          conv => whnf
          refine .inl ⟨_, _, byX rfl (Sound1.pl (h32) rfl), ?_⟩
          conv => whnf
          refine ifB_bne (fun w1 => ?_) (fun w1 => ?_)
          · (exfalso; omega)
          · conv => whnf
            refine .inl ⟨_, _, byX rfl (Sound1.pl (h33) rfl), ?_⟩
            conv => whnf
            refine ifB_bne (fun w2 => ?_) (fun w2 => ?_)
            · (exfalso; omega)
            · conv => whnf
              refine ifB_beq (fun w3 => ?_) (fun w3 => ?_)
              · conv => whnf
                refine ifB_bne (fun w4 => ?_) (fun w4 => ?_)
                · (exfalso; omega)
                · conv => whnf
                  refine .inl ⟨_, _, byX rfl (h35), ?_⟩
                  conv => whnf
                  refine .inl ⟨_, _, byX rfl (Sound1.pl (h34a) rfl), ?_⟩
                  conv => whnf
                  refine ifB_not ?_
                  conv => whnf
                  refine ifB_dec (fun w5 => ?_) (fun w5 => ?_)
                  · conv => whnf
                    refine ifB_bne (fun w6 => ?_) (fun w6 => ?_)
                    · (exfalso; omega)
                    · conv => whnf
                      refine .inl ⟨_, _, byX rfl (h36), ?_⟩
                      conv => whnf
                      refine .inl ⟨_, _, byX rfl (Sound1.pl (h34b) rfl), ?_⟩
                      conv => whnf
                      refine ifB_not ?_
                      conv => whnf
                      refine ifB_dec (fun w7 => ?_) (fun w7 => ?_)
                      · conv => whnf
                        refine ⟨inK64 (by omega) (by omega), ?_⟩
                        conv => whnf
                        refine .inl ⟨_, _, byX rfl (Sound1.pl (S20 _ _ _) rfl), ?_⟩
                        conv => whnf
                        refine ifB_not ?_
                        conv => whnf
                        refine ifB_dec (fun w8 => ?_) (fun w8 => ?_)
                        · conv => whnf
                          refine ⟨⟨(by omega), (by omega)⟩, ?_⟩
                          conv => whnf
                          refine ifB_not ?_
                          conv => whnf
                          refine ifB_intro (fun w9 => ?_) (fun w9 => ?_)
                          · conv => whnf
                            refine ifB_beq (fun w10 => ?_) (fun w10 => ?_)
                            · conv => whnf
                              refine .inl ⟨_, _, byX rfl (h37), ?_⟩
                              conv => whnf
                              refine .inl ⟨_, _, byX rfl (Sound1.pl (h34c) rfl), ?_⟩
                              conv => whnf
                              refine ⟨?_, nofun⟩
                              show vb (decide (_ = _)) = vb true
                              rw [decide_eq_true rfl]
                            · (exfalso; omega)
                          · exact absurd (f2.symm.trans w9) nofun
                        · (exfalso; omega)
                      · exact absurd rfl w7
                  · exact absurd rfl w5
              · (exfalso; omega)
    · replace q1 : E1 = netE N ∧ L1 = [] := by
        rcases q1 with ⟨_, e⟩ | ⟨e, _⟩ | ⟨e, _⟩
        · exact e
        · exact absurd e hE
        · exact absurd e hE
      replace q2 : L2 = [] := by
        rcases q2 with ⟨_, e⟩ | ⟨e, _⟩
        · exact e
        · exact absurd e hE
      replace q3 : E3 = netE N ∧ L3 = [] := by
        rcases q3 with ⟨_, e⟩ | ⟨e, _⟩ | ⟨e, _⟩ | ⟨e, _⟩
        · exact e
        · exact absurd e hE
        · exact absurd e hE
        · exact absurd e hE
      obtain ⟨e1, rfl⟩ := q1
      subst q2
      obtain ⟨e3, rfl⟩ := q3
      refine sound (d := 2) tok2 mixed2 Try.func5 (by kernel_rfl) (by kernel_rfl) ?_
      conv => whnf
      refine .inl ⟨_, _, byX rfl (Sound1.pl (S14) rfl), ?_⟩
      conv => whnf
      refine .inl ⟨_, _, byX rfl (Sound1.pl (h15) rfl), ?_⟩
      conv => whnf
      refine .inl ⟨_, _, byX rfl (h17), ?_⟩
      conv => whnf
      refine .inl ⟨_, _, byX rfl (h29), ?_⟩
      conv => whnf
      refine .inl ⟨_, _, byX rfl (h17), ?_⟩
      conv => whnf
      refine .inl ⟨_, _, byX rfl (h30), ?_⟩
      conv => whnf
      refine .inl ⟨_, _, byX rfl (h17), ?_⟩
      conv => whnf
      refine .inl ⟨_, _, byX rfl (h31), ?_⟩
      conv => whnf
      refine .inl ⟨_, _, byX rfl (Sound1.pl (h32) rfl), ?_⟩
      conv => whnf
      refine ifB_bne (fun w1 => ?_) (fun w1 => ?_)
      · conv => whnf
        refine ifB_beq (fun w2 => ?_) (fun w2 => ?_)
        · conv => whnf
          refine ifB_beq (fun w3 => ?_) (fun w3 => ?_)
          · conv => whnf
            refine ifB_beq (fun w4 => ?_) (fun w4 => ?_)
            · conv => whnf
              refine ⟨?_, ?_⟩
              · exact ⟨by decide, by decide⟩
              · conv => whnf
                refine ⟨?_, ?_⟩
                · exact ⟨by decide, by decide⟩
                · conv => whnf
                  refine ⟨?_, nofun⟩
                  (rfl)
            · (exfalso; omega)
          · (exfalso; omega)
        · (exfalso; omega)
      · (exfalso; omega)
end Go.Tr

/- The law WaterTwoSigns returns true. Conditions: none. -/
namespace Go.Tr
open Go Go.Proofs
set_option maxRecDepth 20000
set_option maxHeartbeats 8000000

/-- Flows at the two ends of a circulation. -/
theorem steady_flow {N : Net} (hok : N.Ok) (hF : (clF N).2 = 0) (hq : flatQ N (brF N) (clF N).1 = false) (i : Nat) (hi : i < N.cs.length) :
    -1000000 ≤ ((steadyF N (brF N) (clF N).1).1.getD i (0, 0)).1 ∧ ((steadyF N (brF N) (clF N).1).1.getD i (0, 0)).1 ≤ 1000000 ∧ ((steadyF N (brF N) (clF N).1).1.getD i (0, 0)).1 ≤ ((steadyF N (brF N) (clF N).1).1.getD i (0, 0)).2 ∧ ((steadyF N (brF N) (clF N).1).1.getD i (0, 0)).2 ≤ ((steadyF N (brF N) (clF N).1).1.getD i (0, 0)).1 + 1 := by
  have hS := stOk hok
  have hne := net_ne hok hS.cl
  obtain ⟨b1, b2, b3, b4⟩ := circ_bd hS hne hq
  have lA := state_len N (brF N) (clF N).1 (circF N (brF N) (clF N).1).1
  have lB := state_len N (brF N) (clF N).1 (circF N (brF N) (clF N).1).2
  have kA := (kept_ok hok hF b1).bd i
  have kB := (kept_ok hok hF b2).bd i
  have hd : -1 ≤ (stateF N (brF N) (clF N).1 (circF N (brF N) (clF N).1).2).1.getD i 0 - (stateF N (brF N) (clF N).1 (circF N (brF N) (clF N).1).1).1.getD i 0 ∧ (stateF N (brF N) (clF N).1 (circF N (brF N) (clF N).1).2).1.getD i 0 - (stateF N (brF N) (clF N).1 (circF N (brF N) (clF N).1).1).1.getD i 0 ≤ 1 := by
    by_cases hc : (clF N).1 < 0
    · have e : circF N (brF N) (clF N).1 = (0, 0) := by unfold circF; rw [if_pos hc]
      rw [e]; simp only; omega
    · generalize circF N (brF N) (clF N).1 = x at *
      have hs := st0_diff (N := N) (q := x.1) (q' := x.2) hS.ends (by omega) hS.cl (hne (by omega))
      have := flow_diff (D := x.2 - x.1) (by omega) (brF N) (lakesB N) (st0 N (clF N).1 x.1) (st0 N (clF N).1 x.2) (lakesB_len N) (st0_len1 N _ _) (st0_len1 N _ _) (by rw [st0_len0, st0_len0]) hS.tr hs (fun j => by
        unfold st0
        rw [if_neg hc, if_neg hc]
        show _ ≤ ((List.replicate N.cs.length (0 : Int)).set _ _).getD j 0 - ((List.replicate N.cs.length (0 : Int)).set _ _).getD j 0 ∧ ((List.replicate N.cs.length (0 : Int)).set _ _).getD j 0 - ((List.replicate N.cs.length (0 : Int)).set _ _).getD j 0 ≤ _
        rw [getD_setI, getD_setI]
        split <;> omega) i
      unfold stateF
      simp only
      omega
  unfold steadyF
  simp only
  rw [rngL_getD lA.1 lB.1 hi]
  simp only
  refine ⟨?_, ?_, ?_, ?_⟩ <;> (split <;> (try split) <;> omega)
/-- The gap at both ends. -/
theorem steady_gap {N : Net} (hok : N.Ok) (hc : 0 ≤ (clF N).1) (hq : flatQ N (brF N) (clF N).1 = false) :
    (gapF N (brF N) (clF N).1 (circF N (brF N) (clF N).1).1 = 0 ∧ (circF N (brF N) (clF N).1).1 = (circF N (brF N) (clF N).1).2) ∨ (gapF N (brF N) (clF N).1 (circF N (brF N) (clF N).1).1 < 0 ∧ 0 < gapF N (brF N) (clF N).1 (circF N (brF N) (clF N).1).2) := by
  have hS := stOk hok
  have h := circ_spec hS hc (net_ne hok hS.cl hc) (flatQ_of hq hc)
  unfold circF
  rw [if_neg (by omega)]
  split
  · rename_i e
    exact .inl ⟨e, rfl⟩
  · exact .inr ⟨h.2.2.2, by simp only; omega⟩
theorem chk_iff {N : Net} (h : flowE N = 0) (x : Int × Int) : chkE N x = 0 ↔ x = circF N (brF N) (clF N).1 := by
  have hk := flowE_ok h
  have hn := formE_ok hk.1
  have hok := net_ok hn.1
  have hS := stOk hok
  have hne := net_ne hok hS.cl
  have hp := proves_iff hS hne (flatQ_of hk.2) x
  obtain ⟨b1, b2, b3, b4⟩ := circ_bd hS hne hk.2
  unfold chkE
  constructor
  · intro hx
    split at hx
    · rw [hk.2] at hx
      simp only [Bool.false_eq_true, if_false] at hx
      split at hx
      · exact hp.1 (by assumption)
      · cases hx
    · contradiction
  · intro e
    have hp := hp.2 e
    have c1 : crE x.1 = 0 := by unfold crE; rw [e, decide_eq_true b1]; rfl
    have c2 : crE x.2 = 0 := by unfold crE; rw [e, decide_eq_true b2]; rfl
    have h0 : chk0 N x = 0 := by
      unfold chk0
      rw [firstOf4, if_pos hk.1, if_pos c1, if_pos c2, decide_eq_true (by rw [e]; exact b3)]
      rfl
    rw [if_pos h0, hk.2, hp]; rfl

set_option maxHeartbeats 0 in
theorem S10 (N : Net) (hN : N.In) (x y : Int) : SP 10 [netV N, .agg [i64 x, i64 y]] (vb true) false := by
  have h15 := S15 N hN
  cases hf : fewB N with
  | false =>
    rw [hf] at h15
    refine sound (d := 2) tok2 mixed2 Try.func10 (by kernel_rfl) (by kernel_rfl) ?_
    conv => whnf
    refine .inl ⟨_, _, byX rfl (Sound1.pl (S14) rfl), ?_⟩
    conv => whnf
    refine .inl ⟨_, _, byX rfl (Sound1.pl (h15) rfl), ?_⟩
    conv => whnf
    refine ⟨?_, nofun⟩
    (rfl)
  | true =>
    rw [hf] at h15
    obtain ⟨b1, b2⟩ := few_bounds hf
    have h38 := S38 N hN
    by_cases hF : formE N = 0
    · rw [hF] at h38
      have h17 := S17 N (by omega) (by omega)
      have hn := formE_ok hF
      have hok := net_ok hn.1
      have hS := stOk hok
      have hne := net_ne hok hS.cl
      have h48 := S48 N hN
      by_cases hE : flowE N = 0
      · rw [if_pos hE, hE] at h48
        have hq := (flowE_ok hE).2
        obtain ⟨q1, q2, q3, q4⟩ := circ_bd hS hne hq
        have hci := chk_iff hE
        have h49a := S49 N hN (circF N (brF N) (clF N).1).1 (circF N (brF N) (clF N).1).2
        rw [show chkE N ((circF N (brF N) (clF N).1).1, (circF N (brF N) (clF N).1).2) = 0 from (hci _).2 rfl] at h49a
        have h49b := S49 N hN x y
        have hcx := hci (x, y)
        have h50 := S50 N hN
        rw [if_pos hE, hE] at h50
        have hsf := steady_flow hok hn.2 hq
        have h39 := S39 N hN
        have h42a := S42 N hN (circF N (brF N) (clF N).1).1
        have h42b := S42 N hN (circF N (brF N) (clF N).1).2
        have hgp := fun h0 : 0 ≤ (clF N).1 => steady_gap hok h0 hq
        have hcd : (clF N).1 < 0 → circF N (brF N) (clF N).1 = (0, 0) := fun h => by unfold circF; rw [if_pos h]
        have hl : (steadyF N (brF N) (clF N).1).1.length = N.cs.length ∧ (steadyF N (brF N) (clF N).1).2.length = N.ns.length :=
          ⟨rngL_len (state_len N _ _ _).1 (state_len N _ _ _).1, rngL_len (state_len N _ _ _).2 (state_len N _ _ _).2⟩
        generalize chkE N (x, y) = E at h49b hcx
        generalize circF N (brF N) (clF N).1 = z at *
        generalize steadyF N (brF N) (clF N).1 = sd at *
        obtain ⟨z1, z2⟩ := z
        simp only at *
        change SP 48 [netV N] (.tuple [.agg [i64 z1, i64 z2], i64 0]) false at h48
        have hb : (E == 0) = vEqL [Value.int IntKind.i64 x, Value.int IntKind.i64 y] [Value.int IntKind.i64 z1, Value.int IntKind.i64 z2] := by
          rw [Bool.eq_iff_iff]
          simp only [vEqL, Bool.and_true, Bool.and_eq_true, beq_iff_eq]
          rw [hcx, Prod.mk.injEq]
        rw [Prod.mk.injEq] at hcd
        refine sound (d := 2) tok2 mixed2 Try.func10 (by kernel_rfl) (by kernel_rfl) ?_
        conv => whnf
        refine .inl ⟨_, _, byX rfl (Sound1.pl (S14) rfl), ?_⟩
        conv => whnf
        refine .inl ⟨_, _, byX rfl (Sound1.pl (h15) rfl), ?_⟩
        conv => whnf
        refine .inl ⟨_, _, byX rfl (Sound1.pl (h38) rfl), ?_⟩
        conv => whnf
        refine .inl ⟨_, _, byX rfl (h17), ?_⟩
        conv => whnf
        refine .inl ⟨_, _, byX rfl (Sound1.pl (h48) rfl), ?_⟩
        conv => whnf
        refine ⟨[], by kernel_rfl, ?_⟩
        conv => whnf
        refine .inl ⟨_, _, byX rfl (Sound1.pl (S20 _ _ _) rfl), ?_⟩
        conv => whnf
        refine ifB_not ?_
        conv => whnf
        refine ifB_dec (fun w1 => ?_) (fun w1 => ?_)
        · conv => whnf
          refine ⟨inK64 (by omega) (by omega), ?_⟩
          conv => whnf
          refine .inl ⟨_, _, byX rfl (Sound1.pl (S20 _ _ _) rfl), ?_⟩
          conv => whnf
          refine ifB_not ?_
          conv => whnf
          refine ifB_dec (fun w2 => ?_) (fun w2 => ?_)
          · conv => whnf
            refine .inl ⟨_, _, byX rfl (h17), ?_⟩
            conv => whnf
            refine .inl ⟨_, _, byX rfl (Sound1.pl (h49a) rfl), ?_⟩
            conv => whnf
            refine ⟨[], by kernel_rfl, ?_⟩
            conv => whnf
            refine .inl ⟨_, _, byX rfl (h17), ?_⟩
            conv => whnf
            refine .inl ⟨_, _, byX rfl (Sound1.pl (h49b) rfl), ?_⟩
            conv => whnf
            refine ifB_not ?_
            conv => whnf
            refine ifB_beqB (fun w3 => ?_) (fun w3 => ?_)
            · conv => whnf
              refine .inl ⟨_, _, byX rfl (h17), ?_⟩
              conv => whnf
              refine .inl ⟨_, _, byX rfl (h50), ?_⟩
              conv => whnf
              refine ifB_bne (fun w4 => ?_) (fun w4 => ?_)
              · (exfalso; omega)
              · conv => whnf
                refine ifB_bne (fun w5 => ?_) (fun w5 => ?_)
                · (exfalso; omega)
                · · conv => whnf
                    refine ⟨[], [2, 5, 8, 10], fun st mq => ∃ (k : Nat), (k ≤ sd.1.length) ∧ st = ⟨[(2, .optr 0 0 0 0), (5, .optr 2 0 0 0), (8, .optr 3 0 0 0), (10, i64 k)], ⟨[⟨2, 1, fun _ => [.rslice 4 N.ns.length fun i => ndC (N.ns.getD i nd0), .rslice 6 N.cs.length fun i => cnC (N.cs.getD i cn0)], 0, false, true, true⟩, ⟨2, 1, fun _ => [i64 x, i64 y], 0, false, true, true⟩, ⟨2, 1, fun _ => [i64 z1, i64 z2], 0, false, true, true⟩, ⟨2, 1, fun _ => [.rslice 2 sd.1.length fun i => brC (sd.1.getD i (0, 0)), .rslice 2 sd.2.length fun i => brC (sd.2.getD i (0, 0))], 0, false, true, true⟩], [], none, 0⟩, []⟩ ∧ mq = sd.1.length - k,
                      ⟨_, _, ⟨0, by omega, rfl, rfl⟩, ⟨⟨rfl, rfl, rfl, rfl⟩, ⟨⟨rfl, rfl, rfl, rfl, fun _ => rfl, fun _ _ => rfl⟩, ⟨⟨rfl, rfl, rfl, rfl, fun _ => rfl, fun _ _ => rfl⟩, ⟨⟨rfl, rfl, rfl, rfl, fun _ => rfl, fun _ _ => rfl⟩, ⟨⟨rfl, rfl, rfl, rfl, fun _ => rfl, fun _ _ => rfl⟩, trivial⟩⟩⟩⟩, trivial⟩⟩, ?_⟩
                    rintro s0 m0 ⟨k, hk, rfl, hmeas⟩
                    by_cases hkl : k < sd.1.length
                    · have hx := hsf (k : Int).toNat (by omega)
                      conv => whnf
                      conv => whnf
                      refine ifB_dec (fun w6 => ?_) (fun w6 => ?_)
                      · conv => whnf
                        conv => whnf
                        refine ⟨[], by kernel_rfl, ?_⟩
                        conv => whnf
                        conv => whnf
                        refine ⟨⟨(by omega), (by omega)⟩, ?_⟩
                        conv => whnf
                        conv => whnf
                        refine .inl ⟨_, _, byX rfl (Sound1.pl (S20 _ _ _) rfl), ?_⟩
                        conv => whnf
                        conv => whnf
                        refine ifB_not ?_
                        conv => whnf
                        conv => whnf
                        refine ifB_dec (fun w7 => ?_) (fun w7 => ?_)
                        · conv => whnf
                          conv => whnf
                          refine ⟨⟨(by omega), (by omega)⟩, ?_⟩
                          conv => whnf
                          conv => whnf
                          refine ⟨⟨(by omega), (by omega)⟩, ?_⟩
                          conv => whnf
                          conv => whnf
                          refine ⟨⟨(by omega), (by omega)⟩, ?_⟩
                          conv => whnf
                          conv => whnf
                          refine ⟨inK64 (by omega) (by omega), ?_⟩
                          conv => whnf
                          conv => whnf
                          refine .inl ⟨_, _, byX rfl (Sound1.pl (S20 _ _ _) rfl), ?_⟩
                          conv => whnf
                          conv => whnf
                          refine ifB_not ?_
                          conv => whnf
                          conv => whnf
                          refine ifB_dec (fun w8 => ?_) (fun w8 => ?_)
                          · conv => whnf
                            conv => whnf
                            refine ⟨inK64 (by omega) (by omega), ?_⟩
                            conv => whnf
                            conv => whnf
                            refine ⟨_, _, ⟨⟨k + 1, by omega, rfl, rfl⟩, by omega⟩, ⟨⟨rfl, rfl, rfl, rfl⟩, ⟨⟨rfl, rfl, rfl, rfl, fun _ => rfl, fun _ _ => rfl⟩, ⟨⟨rfl, rfl, rfl, rfl, fun _ => rfl, fun _ _ => rfl⟩, ⟨⟨rfl, rfl, rfl, rfl, fun _ => rfl, fun _ _ => rfl⟩, ⟨⟨rfl, rfl, rfl, rfl, fun _ => rfl, fun _ _ => rfl⟩, trivial⟩⟩⟩⟩, trivial⟩⟩
                          · (exfalso; omega)
                        · (exfalso; omega)
                      · (exfalso; omega)
                    · by_cases hc : 0 ≤ (clF N).1
                      · have hE9 : closE N = 0 := by unfold closE; rw [if_pos hF, if_pos hc]
                        rw [if_pos hE9, hE9] at h39
                        have cr : ∀ q : Int, -200000 ≤ q ∧ q ≤ 200000 → gapErr N q = 0 := fun q h => by
                          unfold gapErr crE; rw [if_pos hE9, decide_eq_true h]; rfl
                        rw [if_pos (cr _ q1), cr _ q1] at h42a
                        rw [if_pos (cr _ q2), cr _ q2] at h42b
                        have hg : (gapF N (brF N) (clF N).1 z1 = 0 ∧ gapF N (brF N) (clF N).1 z2 = 0 ∧ z1 = z2) ∨ (gapF N (brF N) (clF N).1 z1 < 0 ∧ 0 < gapF N (brF N) (clF N).1 z2) := by
                          rcases hgp hc with ⟨g1, g2⟩ | g
                          · exact .inl ⟨g1, by rw [← g2]; exact g1, g2⟩
                          · exact .inr g
                        conv => whnf
                        conv => whnf
                        refine ifB_dec (fun w6 => ?_) (fun w6 => ?_)
                        · (exfalso; omega)
                        · conv => whnf
                          conv => whnf
                          refine .inl ⟨_, _, byX rfl (h17), ?_⟩
                          conv => whnf
                          conv => whnf
                          refine .inl ⟨_, _, byX rfl (Sound1.pl (h39) rfl), ?_⟩
                          conv => whnf
                          conv => whnf
                          refine ⟨[], by kernel_rfl, ?_⟩
                          conv => whnf
                          conv => whnf
                          refine .inl ⟨_, _, byX rfl (h17), ?_⟩
                          conv => whnf
                          conv => whnf
                          refine .inl ⟨_, _, byX rfl (Sound1.pl (h42a) rfl), ?_⟩
                          conv => whnf
                          conv => whnf
                          refine ⟨[], by kernel_rfl, ?_⟩
                          conv => whnf
                          conv => whnf
                          refine .inl ⟨_, _, byX rfl (h17), ?_⟩
                          conv => whnf
                          conv => whnf
                          refine .inl ⟨_, _, byX rfl (Sound1.pl (h42b) rfl), ?_⟩
                          conv => whnf
                          conv => whnf
                          refine ifB_dec (fun w7 => ?_) (fun w7 => ?_)
                          · conv => whnf
                            conv => whnf
                            refine ifB_dec (fun w8 => ?_) (fun w8 => ?_)
                            · conv => whnf
                              conv => whnf
                              refine ifB_beq (fun w9 => ?_) (fun w9 => ?_)
                              · conv => whnf
                                conv => whnf
                                refine ⟨?_, nofun⟩
                                (rfl)
                              · conv => whnf
                                conv => whnf
                                refine ifB_dec (fun w10 => ?_) (fun w10 => ?_)
                                · conv => whnf
                                  conv => whnf
                                  refine ⟨?_, nofun⟩
                                  (exact vbE (decide_eq_true (by omega)))
                                · (exfalso; omega)
                            · (exfalso; omega)
                          · (exfalso; omega)
                      · have hE9 : closE N = 12 := by unfold closE; rw [if_pos hF, if_neg hc]
                        rw [if_neg (by rw [hE9]; decide), hE9] at h39
                        have hz := hcd (by omega)
                        rw [hz.1, hz.2] at *
                        conv => whnf
                        conv => whnf
                        refine ifB_dec (fun w6 => ?_) (fun w6 => ?_)
                        · (exfalso; omega)
                        · conv => whnf
                          conv => whnf
                          refine .inl ⟨_, _, byX rfl (h17), ?_⟩
                          conv => whnf
                          conv => whnf
                          refine .inl ⟨_, _, byX rfl (Sound1.pl (h39) rfl), ?_⟩
                          conv => whnf
                          conv => whnf
                          refine ⟨?_, nofun⟩
                          (rfl)
            · conv => whnf
              refine ⟨?_, nofun⟩
              (exact absurd hb (by assumption))
          · (exfalso; omega)
        · (exfalso; omega)
      · rw [if_neg hE] at h48
        have e : flowE N = 11 := by
          unfold flowE at hE ⊢
          rw [if_pos hF] at hE ⊢
          split
          · rfl
          · rename_i h; rw [if_neg h] at hE; exact absurd rfl hE
        rw [e] at h48
        refine sound (d := 2) tok2 mixed2 Try.func10 (by kernel_rfl) (by kernel_rfl) ?_
        conv => whnf
        refine .inl ⟨_, _, byX rfl (Sound1.pl (S14) rfl), ?_⟩
        conv => whnf
        refine .inl ⟨_, _, byX rfl (Sound1.pl (h15) rfl), ?_⟩
        conv => whnf
        refine .inl ⟨_, _, byX rfl (Sound1.pl (h38) rfl), ?_⟩
        conv => whnf
        refine .inl ⟨_, _, byX rfl (h17), ?_⟩
        conv => whnf
        refine .inl ⟨_, _, byX rfl (Sound1.pl (h48) rfl), ?_⟩
        conv => whnf
        refine ⟨?_, nofun⟩
        (rfl)
    · refine sound (d := 2) tok2 mixed2 Try.func10 (by kernel_rfl) (by kernel_rfl) ?_
      conv => whnf
      refine .inl ⟨_, _, byX rfl (Sound1.pl (S14) rfl), ?_⟩
      conv => whnf
      refine .inl ⟨_, _, byX rfl (Sound1.pl (h15) rfl), ?_⟩
      conv => whnf
      refine .inl ⟨_, _, byX rfl (Sound1.pl (h38) rfl), ?_⟩
      conv => whnf
      refine ifB_bne (fun w1 => ?_) (fun w1 => ?_)
      · conv => whnf
        refine ⟨?_, nofun⟩
        (rfl)
      · (exfalso; omega)
end Go.Tr

/- Plain: where more is drawn no head rises (a principle of the maximum). Conditions: none. -/
namespace Go.Tr
open Go Go.Proofs
set_option maxRecDepth 20000
set_option maxHeartbeats 8000000

def bi (b : Bool) : Int := if b then 1 else 0
def sumTo : Nat → (Nat → Int) → Int
  | 0, _ => 0
  | n + 1, g => sumTo n g + g n
theorem sumTo_add (n : Nat) (g h : Nat → Int) : sumTo n (fun i => g i + h i) = sumTo n g + sumTo n h := by
  induction n with
  | zero => rfl
  | succ n ih => simp only [sumTo, ih]; omega
theorem sumTo_sub (n : Nat) (g h : Nat → Int) : sumTo n (fun i => g i - h i) = sumTo n g - sumTo n h := by
  induction n with
  | zero => rfl
  | succ n ih => simp only [sumTo, ih]; omega
theorem sumTo_congr {n : Nat} {g h : Nat → Int} (e : ∀ i, i < n → g i = h i) : sumTo n g = sumTo n h := by
  induction n with
  | zero => rfl
  | succ n ih => rw [sumTo, sumTo, ih fun i hi => e i (by omega), e n (by omega)]
theorem sumTo_zero (n : Nat) : sumTo n (fun _ => 0) = 0 := by
  induction n with
  | zero => rfl
  | succ n ih => simp only [sumTo, ih]; rfl
theorem sumTo_nonneg {n : Nat} {g : Nat → Int} (h : ∀ i, i < n → 0 ≤ g i) : 0 ≤ sumTo n g := by
  induction n with
  | zero => exact Int.le_refl _
  | succ n ih => have := ih fun i hi => h i (by omega); have := h n (by omega); simp only [sumTo]; omega
theorem sumTo_nonpos {n : Nat} {g : Nat → Int} (h : ∀ i, i < n → g i ≤ 0) : sumTo n g ≤ 0 := by
  induction n with
  | zero => exact Int.le_refl _
  | succ n ih => have := ih fun i hi => h i (by omega); have := h n (by omega); simp only [sumTo]; omega
theorem sumTo_neg {n : Nat} {g : Nat → Int} (h : ∀ i, i < n → g i ≤ 0) {j : Nat} (hj : j < n) (hg : g j < 0) : sumTo n g < 0 := by
  induction n with
  | zero => omega
  | succ n ih =>
    simp only [sumTo]
    have h1 := sumTo_nonpos (n := n) (g := g) fun i hi => h i (by omega)
    have h2 := h n (by omega)
    by_cases e : j = n
    · subst e; omega
    · have := ih (fun i hi => h i (by omega)) (by omega); omega
/-- One place is picked out. -/
theorem sumTo_pick (S : Nat → Bool) (f : Int) : ∀ (n v : Nat), v < n → sumTo n (fun u => bi (S u) * (f * (if v = u then 1 else 0))) = f * bi (S v)
  | 0, v, h => by omega
  | n + 1, v, h => by
    rw [sumTo]
    by_cases e : v = n
    · subst e
      rw [if_pos rfl, sumTo_congr (h := fun _ => 0) (fun i hi => by rw [if_neg (by omega), Int.mul_zero, Int.mul_zero]), sumTo_zero, Int.mul_one, Int.zero_add, Int.mul_comm]
    · rw [sumTo_pick S f n v (by omega), if_neg e, Int.mul_zero, Int.mul_zero, Int.add_zero]

/-- What flows over the border of a set. -/
def overS (S : Nat → Bool) (cs : List Cn) (f : List Int) : Int := sumTo cs.length fun i => f.getD i 0 * (bi (S (cs.getD i cn0).to.toNat) - bi (S (cs.getD i cn0).fr.toNat))
theorem sumTo_shift (n : Nat) (g : Nat → Int) : sumTo (n + 1) g = g 0 + sumTo n fun i => g (i + 1) := by
  induction n with
  | zero => simp only [sumTo]; omega
  | succ n ih => rw [sumTo, ih]; simp only [sumTo]; omega
theorem inflow_sum : ∀ (cs : List Cn) (f : List Int) (u : Nat), f.length = cs.length → inflow cs f u = sumTo cs.length fun i => f.getD i 0 * ((if (cs.getD i cn0).to.toNat = u then 1 else 0) - (if (cs.getD i cn0).fr.toNat = u then 1 else 0))
  | [], f, u, h => by cases f <;> rfl
  | c :: r, [], u, h => by simp at h
  | c :: r, x :: fs, u, h => by
    rw [inflow, inflow_sum r fs u (by simpa using h), List.length_cons, sumTo_shift]
    rfl
theorem over_sum {n : Nat} {S : Nat → Bool} {cs : List Cn} {f : List Int} (hl : f.length = cs.length) (hr : inR n cs) : sumTo n (fun u => bi (S u) * inflow cs f u) = overS S cs f := by
  have e : ∀ m, m ≤ cs.length → sumTo n (fun u => bi (S u) * sumTo m fun i => f.getD i 0 * ((if (cs.getD i cn0).to.toNat = u then 1 else 0) - (if (cs.getD i cn0).fr.toNat = u then 1 else 0))) = sumTo m fun i => f.getD i 0 * (bi (S (cs.getD i cn0).to.toNat) - bi (S (cs.getD i cn0).fr.toNat)) := by
    intro m
    induction m with
    | zero =>
      intro _
      simp only [sumTo, Int.mul_zero]
      exact sumTo_zero n
    | succ m ih =>
      intro hm
      have hq := hr (cs.getD m cn0) (mem_getD (by omega))
      simp only [sumTo, Int.mul_add]
      rw [sumTo_add, ih (by omega)]
      congr 1
      rw [Int.mul_sub, ← sumTo_pick S (f.getD m 0) n (cs.getD m cn0).to.toNat (by omega), ← sumTo_pick S (f.getD m 0) n (cs.getD m cn0).fr.toNat (by omega), ← sumTo_sub]
      refine sumTo_congr fun i _ => ?_
      rw [Int.mul_sub, Int.mul_sub]
  have := e cs.length (Nat.le_refl _)
  unfold overS
  rw [← this]
  exact sumTo_congr fun i _ => by rw [inflow_sum cs f i hl]

section
variable {n : Nat} {cs : List Cn}
/-- A set without lakes that no branch enters is empty. -/
theorem no_cross {S : Nat → Bool} : ∀ (l : List (Int × Int)) (m : List Bool), TreeOk n cs m l → (∀ u, m.getD u false = true → S u = false) → (∀ b ∈ l, S b.2.toNat = S (otherN (cs.getD b.1.toNat cn0) b.2).toNat) → ∀ u, (afterF m l).getD u false = true → S u = false
  | [], m, _, h, _, u, hu => h u hu
  | b :: r, m, ht, h, hb, u, hu => by
    refine no_cross r (m.set b.2.toNat true) ht.2 (fun u hu => ?_) (fun x hx => hb x (by simp [hx])) u hu
    rw [getD_set] at hu
    split at hu
    · rename_i e
      rw [e.1, hb b (by simp)]
      exact h _ ht.1.old
    · exact h u hu
theorem tree_ends : ∀ (l : List (Int × Int)) (m : List Bool), TreeOk n cs m l → ∀ b ∈ l, (cs.getD b.1.toNat cn0).to = b.2 ∨ (cs.getD b.1.toNat cn0).fr = b.2
  | [], m, _, b, hb => by simp at hb
  | x :: r, m, ht, b, hb => by
    rcases List.mem_cons.1 hb with rfl | hb
    · exact ht.1.isEnd
    · exact tree_ends r _ ht.2 b hb
end

/-- Nothing is higher, if the closing conduit is in the way of nothing. -/
theorem maxp {N N' : Net} {q q' : Int} {s s' : List Int × List Int} (hok : N.Ok) (hF : (clF N).2 = 0) (K : Kept N q s) (K' : Kept N' q' s') (hcs : N'.cs = N.cs) (hcl : clF N' = clF N) (hns : N'.ns.length = N.ns.length)
    (hnd : ∀ u, u < N.ns.length → (N'.ns.getD u nd0).lake = (N.ns.getD u nd0).lake ∧ (N'.ns.getD u nd0).head = (N.ns.getD u nd0).head ∧ (N.ns.getD u nd0).draw ≤ (N'.ns.getD u nd0).draw)
    (hbad : (clF N).1 < 0 ∨ (q' - q) * (bi (decide (s.2.getD (N.cs.getD (clF N).1.toNat cn0).to.toNat 0 < s'.2.getD (N.cs.getD (clF N).1.toNat cn0).to.toNat 0)) - bi (decide (s.2.getD (N.cs.getD (clF N).1.toNat cn0).fr.toNat 0 < s'.2.getD (N.cs.getD (clF N).1.toNat cn0).fr.toNat 0))) ≤ 0) :
    ∀ i, i < N.ns.length → s'.2.getD i 0 ≤ s.2.getD i 0 := by
  have hS := stOk hok
  obtain ⟨hf1, hf2, hf3⟩ := form_ok hok hF
  have k1 := K.l1
  have k1' := K'.l1
  rw [hcs] at k1'
  have kl' := K'.loss
  have ks' := K'.shut
  have kc' := K'.cl
  have kd' := K'.draw
  have kk' := K'.lake
  rw [hcs] at kl' ks' kc' kd'
  rw [hcl] at kl' kc'
  rw [hns] at kd' kk'
  obtain ⟨S, hSd⟩ : ∃ S : Nat → Bool, S = fun u => decide (s.2.getD u 0 < s'.2.getD u 0) := ⟨_, rfl⟩
  have hSt : ∀ u, S u = true → s.2.getD u 0 < s'.2.getD u 0 := fun u h => by rw [hSd] at h; exact of_decide_eq_true h
  have hSf : ∀ u, S u = false → s'.2.getD u 0 ≤ s.2.getD u 0 := fun u h => by rw [hSd] at h; have := of_decide_eq_false h; omega
  have hlake : ∀ u, u < N.ns.length → (N.ns.getD u nd0).lake = true → S u = false := fun u hu hl => by
    have a := K.lake u hu hl
    have b := kk' u hu (by rw [(hnd u hu).1]; exact hl)
    rw [(hnd u hu).2.1] at b
    cases h : S u with
    | false => rfl
    | true => have := hSt u h; omega
  -- each conduit's part
  have strict : ∀ i, i < N.cs.length → (N.cs.getD i cn0).opn = true → (i : Int) ≠ (clF N).1 → S (N.cs.getD i cn0).to.toNat ≠ S (N.cs.getD i cn0).fr.toNat →
      (s'.1.getD i 0 - s.1.getD i 0) * (bi (S (N.cs.getD i cn0).to.toNat) - bi (S (N.cs.getD i cn0).fr.toNat)) < 0 := fun i hi ho hc hx => by
    have a := K.loss i hi ho hc
    have b := kl' i hi ho hc
    have hres := (hS.res _ (mem_getD hi)).1
    cases h1 : S (N.cs.getD i cn0).to.toNat with
    | true =>
      cases h2 : S (N.cs.getD i cn0).fr.toNat with
      | true => rw [h1, h2] at hx; exact absurd rfl hx
      | false =>
        have c1 := hSt _ h1
        have c2 := hSf _ h2
        have : s'.1.getD i 0 < s.1.getD i 0 := by
          rcases Int.lt_or_le (s'.1.getD i 0) (s.1.getD i 0) with h | h
          · exact h
          · have := loss_mono hres h; omega
        show _ * (1 - 0) < 0
        omega
    | false =>
      cases h2 : S (N.cs.getD i cn0).fr.toNat with
      | false => rw [h1, h2] at hx; exact absurd rfl hx
      | true =>
        have c1 := hSf _ h1
        have c2 := hSt _ h2
        have : s.1.getD i 0 < s'.1.getD i 0 := by
          rcases Int.lt_or_le (s.1.getD i 0) (s'.1.getD i 0) with h | h
          · exact h
          · have := loss_mono hres h; omega
        show _ * (0 - 1) < 0
        omega
  have part : ∀ i, i < N.cs.length → (s'.1.getD i 0 - s.1.getD i 0) * (bi (S (N.cs.getD i cn0).to.toNat) - bi (S (N.cs.getD i cn0).fr.toNat)) ≤ 0 := fun i hi => by
    cases ho : (N.cs.getD i cn0).opn with
    | false => rw [K.shut i hi ho, ks' i hi ho, Int.sub_self, Int.zero_mul]; exact Int.le_refl _
    | true =>
      by_cases hc : (i : Int) = (clF N).1
      · rw [K.cl i hi hc, kc' i hi hc]
        rcases hbad with h | h
        · omega
        · rw [← hc, Int.toNat_natCast] at h
          rw [hSd]
          exact h
      · by_cases hx : S (N.cs.getD i cn0).to.toNat = S (N.cs.getD i cn0).fr.toNat
        · rw [hx, Int.sub_self, Int.mul_zero]; exact Int.le_refl _
        · have := strict i hi ho hc hx; omega
  -- all that is drawn within
  have tot : overS S N.cs s'.1 - overS S N.cs s.1 = sumTo N.cs.length fun i => (s'.1.getD i 0 - s.1.getD i 0) * (bi (S (N.cs.getD i cn0).to.toNat) - bi (S (N.cs.getD i cn0).fr.toNat)) := by
    unfold overS
    rw [← sumTo_sub]
    exact sumTo_congr fun i _ => by rw [Int.sub_mul]
  have drawn : 0 ≤ overS S N.cs s'.1 - overS S N.cs s.1 := by
    rw [← over_sum k1' hok.ends, ← over_sum k1 hok.ends, ← sumTo_sub]
    refine sumTo_nonneg fun u hu => ?_
    rw [← Int.mul_sub]
    cases h : S u with
    | false => show 0 ≤ 0 * _; rw [Int.zero_mul]; exact Int.le_refl _
    | true =>
      show 0 ≤ 1 * _
      have hl : (N.ns.getD u nd0).lake = false := by
        cases hl : (N.ns.getD u nd0).lake with
        | false => rfl
        | true => rw [hlake u hu hl] at h; cases h
      have a := K.draw u hu hl
      have b := kd' u hu (by rw [(hnd u hu).1]; exact hl)
      have c := (hnd u hu).2.2
      omega
  intro i hi
  rcases Int.lt_or_le (s.2.getD i 0) (s'.2.getD i 0) with hlt | hle
  · exfalso
    have hSi : S i = true := by rw [hSd]; exact decide_eq_true hlt
    by_cases hall : ∀ b ∈ brF N, S b.2.toNat = S (otherN (N.cs.getD b.1.toNat cn0) b.2).toNat
    · have := no_cross (brF N) _ hS.tr (fun u hu => by
        by_cases hun : u < N.ns.length
        · rw [lakesB_getD N u hun] at hu; exact hlake u hun hu
        · rw [List.getD_eq_getElem?_getD, List.getElem?_eq_none (by rw [lakesB_len]; omega)] at hu; cases hu) hall i (hf1 i hi)
      rw [hSi] at this
      cases this
    · have hx : ∃ b, b ∈ brF N ∧ S b.2.toNat ≠ S (otherN (N.cs.getD b.1.toNat cn0) b.2).toNat := Classical.byContradiction fun hn => hall fun b hb => Classical.byContradiction fun h => hn ⟨b, hb, h⟩
      obtain ⟨b, hb, hne⟩ := hx
      have hrg := tree_range _ _ hS.tr b hb
      have hen := tree_ends _ _ hS.tr b hb
      have hcl2 : ((b.1.toNat : Nat) : Int) ≠ (clF N).1 := fun e => by
        rcases Int.lt_or_le (clF N).1 0 with h | h
        · omega
        · exact (hf3 h).2 b hb (by omega)
      have hneg := strict b.1.toNat (by omega) hrg.2.2.2.2 hcl2 (by
        rcases other_or hen with ⟨e1, e2, _⟩ | ⟨_, e1, e2, _⟩
        · rw [e1, ← e2]; exact hne
        · rw [e1, ← e2]; exact fun h => hne h.symm)
      have := sumTo_neg part (by omega) hneg
      omega
  · exact hle
end Go.Tr

/- Plain: who climbs through a branch, and the reference's flows. Conditions: none. -/
namespace Go.Tr
open Go Go.Proofs
set_option maxRecDepth 20000
set_option maxHeartbeats 8000000

/-- The place of a number, or -1. -/
def atF (x : Int) : Nat → List Int → Int
  | _, [] => -1
  | k, y :: r => if y = x then (k : Int) else atF x (k + 1) r
theorem atF_spec (x : Int) : ∀ (l : List Int) (k : Nat), (atF x k l = -1 ∧ ∀ i, i < l.length → l.getD i 0 ≠ x) ∨ ∃ i, i < l.length ∧ atF x k l = (k + i : Nat) ∧ l.getD i 0 = x
  | [], k => .inl ⟨rfl, fun i h => absurd h (Nat.not_lt_zero i)⟩
  | y :: r, k => by
    rw [atF]
    by_cases e : y = x
    · rw [if_pos e]; exact .inr ⟨0, by simp, rfl, e⟩
    · rw [if_neg e]
      rcases atF_spec x r (k + 1) with ⟨h1, h2⟩ | ⟨i, h1, h2, h3⟩
      · refine .inl ⟨h1, fun i hi => ?_⟩
        cases i with
        | zero => exact e
        | succ i => exact h2 i (by simpa using hi)
      · exact .inr ⟨i + 1, by simpa using h1, by rw [h2, show k + 1 + i = k + (i + 1) by omega], h3⟩

section
variable {n : Nat} {cs : List Cn}
theorem afterF_or : ∀ (l : List (Int × Int)) (m : List Bool) (u : Nat), (afterF m l).getD u false = true → m.getD u false = true ∨ ∃ b ∈ l, b.2.toNat = u
  | [], m, u, h => .inl h
  | b :: r, m, u, h => by
    rcases afterF_or r (m.set b.2.toNat true) u h with h1 | ⟨x, h1, h2⟩
    · rw [getD_set] at h1
      split at h1
      · rename_i e; exact .inr ⟨b, by simp, e.1.symm⟩
      · exact .inl h1
    · exact .inr ⟨x, by simp [h1], h2⟩
theorem afterF_mem : ∀ (l : List (Int × Int)) (m : List Bool), m.length = n → TreeOk n cs m l → ∀ b ∈ l, (afterF m l).getD b.2.toNat false = true
  | [], m, _, _, b, hb => by simp at hb
  | x :: r, m, hm, ht, b, hb => by
    have v0 := ht.1.v0; have v1 := ht.1.v1
    rcases List.mem_cons.1 hb with rfl | hb
    · refine afterF_mono r _ _ ?_
      rw [getD_set, if_pos]; exact ⟨rfl, by omega⟩
    · exact afterF_mem r _ (by simpa using hm) ht.2 b hb
theorem getD_memR {l : List (Int × Int)} {i : Nat} (h : i < l.length) : l.getD i (0, 0) ∈ l := by simp [List.getD_eq_getElem?_getD, h]
theorem take_mem {l : List (Int × Int)} {i j : Nat} (h : i < j) (hi : i < l.length) : l.getD i (0, 0) ∈ l.take j := by
  rw [List.getD_eq_getElem?_getD, List.getElem?_eq_getElem hi, Option.getD_some]
  rw [List.mem_take_iff_getElem]
  exact ⟨i, by omega, rfl⟩
theorem tree_take : ∀ (l : List (Int × Int)) (m : List Bool) (i : Nat), TreeOk n cs m l → TreeOk n cs m (l.take i)
  | [], m, i, _ => by simp [TreeOk]
  | b :: r, m, 0, _ => trivial
  | b :: r, m, i + 1, h => ⟨h.1, tree_take r _ i h.2⟩
/-- A node that came in is marked from then on. -/
theorem mark_later {m : List Bool} {b : List (Int × Int)} (hm : m.length = n) (ht : TreeOk n cs m b) {i j : Nat} (h : i < j) (hi : i < b.length) : (afterF m (b.take j)).getD (b.getD i (0, 0)).2.toNat false = true :=
  afterF_mem _ _ hm (tree_take b m j ht) _ (take_mem h hi)
theorem node_ne {m : List Bool} {b : List (Int × Int)} (hm : m.length = n) (ht : TreeOk n cs m b) {i j : Nat} (h : i < j) (hj : j < b.length) : (b.getD i (0, 0)).2 ≠ (b.getD j (0, 0)).2 := fun e => by
  have h1 := (tree_at b m j ht hj).1.new
  have h2 := mark_later hm ht h (by omega)
  rw [e, h1] at h2
  cases h2
theorem map_snd_getD (b : List (Int × Int)) (i : Nat) : (b.map (·.2)).getD i 0 = (b.getD i (0, 0)).2 := by
  simp only [List.getD_eq_getElem?_getD, List.getElem?_map]
  cases b[i]? <;> rfl
theorem map_fst_getD (b : List (Int × Int)) (i : Nat) : (b.map (·.1)).getD i 0 = (b.getD i (0, 0)).1 := by
  simp only [List.getD_eq_getElem?_getD, List.getElem?_map]
  cases b[i]? <;> rfl
theorem mem_dropR {b : List (Int × Int)} {i j : Nat} (h : j < i) (hi : i < b.length) : b.getD i (0, 0) ∈ b.drop (j + 1) := by
  rw [List.getD_eq_getElem?_getD, List.getElem?_eq_getElem hi, Option.getD_some, List.mem_drop_iff_getElem]
  refine ⟨i - (j + 1), by omega, ?_⟩
  congr 1; omega
/-- One step of a climb. -/
theorem through_step {m : List Bool} {b : List (Int × Int)} (hm : m.length = n) (ht : TreeOk n cs m b) {j s : Nat} (hj : j < s) (hs : s < b.length) :
    (-1 ≤ atF (otherN (cs.getD (b.getD s (0, 0)).1.toNat cn0) (b.getD s (0, 0)).2) 0 (b.map (·.2)) ∧ atF (otherN (cs.getD (b.getD s (0, 0)).1.toNat cn0) (b.getD s (0, 0)).2) 0 (b.map (·.2)) < s) ∧
    ((j < atF (otherN (cs.getD (b.getD s (0, 0)).1.toNat cn0) (b.getD s (0, 0)).2) 0 (b.map (·.2)) ∧ rootOf cs (b.drop (j + 1)) (b.getD (atF (otherN (cs.getD (b.getD s (0, 0)).1.toNat cn0) (b.getD s (0, 0)).2) 0 (b.map (·.2))).toNat (0, 0)).2 = rootOf cs (b.drop (j + 1)) (b.getD s (0, 0)).2) ∨
      (atF (otherN (cs.getD (b.getD s (0, 0)).1.toNat cn0) (b.getD s (0, 0)).2) 0 (b.map (·.2)) ≤ j ∧ (rootOf cs (b.drop (j + 1)) (b.getD s (0, 0)).2 = (b.getD j (0, 0)).2 ↔ atF (otherN (cs.getD (b.getD s (0, 0)).1.toNat cn0) (b.getD s (0, 0)).2) 0 (b.map (·.2)) = j))) := by
  have hB := (tree_at b m s ht hs).1
  have hBj := (tree_at b m j ht (by omega)).1
  have htj := (tree_at b m j ht (by omega)).2
  have o0 := hB.o0
  have ho := hB.old
  have hup := root_up (b.drop (j + 1)) _ (by rw [afterF_len]; exact hm) htj _ (mem_dropR hj hs)
  generalize otherN (cs.getD (b.getD s (0, 0)).1.toNat cn0) (b.getD s (0, 0)).2 = o at *
  rw [hup]
  have jv0 := hBj.v0
  rcases atF_spec o (b.map (·.2)) 0 with ⟨h1, h2⟩ | ⟨i, h1, h2, h3⟩
  · rw [h1]
    refine ⟨⟨by omega, by omega⟩, .inr ⟨by omega, ?_⟩⟩
    have hne : ∀ i, i < b.length → (b.getD i (0, 0)).2 ≠ o := fun i hi => by
      have := h2 i (by simpa using hi)
      rwa [map_snd_getD] at this
    have hmk : m.getD o.toNat false = true := by
      rcases afterF_or _ _ _ ho with h | ⟨x, hx, he⟩
      · exact h
      · obtain ⟨i, hi, hxi⟩ := List.mem_take_iff_getElem.1 hx
        have hlt : i < b.length := by omega
        have e : b.getD i (0, 0) = x := by rw [List.getD_eq_getElem?_getD, List.getElem?_eq_getElem hlt, Option.getD_some]; exact hxi
        have r := (tree_range b m ht _ (getD_memR hlt)).2.2.1
        rw [← e] at he
        exact absurd (by omega) (hne i hlt)
    rw [root_fix _ _ o htj (afterF_mono _ _ _ hmk)]
    exact ⟨fun e => absurd e.symm (hne j (by omega)), fun e => by omega⟩
  · rw [h2]
    rw [map_snd_getD] at h3
    have hi : i < b.length := by simpa using h1
    have his : i < s := by
      rcases Nat.lt_or_ge i s with h | h
      · exact h
      · have hn := (tree_at b m i ht hi).1.new
        rw [h3] at hn
        have hk : (afterF m (b.take i)).getD o.toNat false = true := by
          have e : b.take i = b.take s ++ (b.take i).drop s := by
            have := List.take_append_drop s (b.take i)
            rw [List.take_take, Nat.min_eq_left h] at this
            exact this.symm
          rw [e]
          unfold afterF
          rw [List.foldl_append]
          exact afterF_mono _ _ _ ho
        rw [hk] at hn; cases hn
    rw [Nat.zero_add]
    refine ⟨⟨by omega, by omega⟩, ?_⟩
    rcases Nat.lt_trichotomy j i with h | h | h
    · refine .inl ⟨by omega, ?_⟩
      rw [Int.toNat_natCast, h3]
    · subst h
      refine .inr ⟨by omega, fun _ => rfl, fun _ => ?_⟩
      rw [← h3]
      exact root_fix _ _ _ htj (mark_later hm ht (by omega) (by omega))
    · refine .inr ⟨by omega, fun e => ?_, fun e => by omega⟩
      have hf := root_fix _ _ (b.getD i (0, 0)).2 htj (mark_later hm ht (by omega) (by omega))
      rw [← h3, hf] at e
      exact absurd e (node_ne hm ht h (by omega))

/-- Does a branch's node hang on an earlier branch? -/
def thB (cs : List Cn) (b : List (Int × Int)) (k j : Nat) : Bool := decide (k = j ∨ rootOf cs (b.drop (j + 1)) (b.getD k (0, 0)).2 = (b.getD j (0, 0)).2)

theorem back_keep {s : List Int × List Int} (hr : inR n cs) : ∀ (b : List (Int × Int)) (m : List Bool) (i : Nat), m.length = n → TreeOk n cs m b → i < b.length → (backL cs b s).1.getD (b.getD i (0, 0)).1.toNat 0 = (backL cs (b.drop i) s).1.getD (b.getD i (0, 0)).1.toNat 0
  | [], m, i, _, _, h => by simp at h
  | x :: r, m, 0, _, _, _ => rfl
  | x :: r, m, i + 1, hm, ht, h => by
    have hi : i < r.length := by simpa using h
    have hd := tree_dist hm hr ht _ (getD_memR hi)
    have h0 := (tree_range r _ ht.2 _ (getD_memR hi)).1
    have ih := back_keep (s := s) hr r _ i (by simpa using hm) ht.2 hi
    rw [List.getD_cons_succ, List.drop_succ_cons, ← ih]
    show ((backL cs r s).1.set _ _).getD _ 0 = _
    rw [getD_setI, if_neg]
    rintro ⟨e, _⟩
    have := ht.1.i0
    omega
/-- What a branch carries, as the reference says it. -/
theorem flow_sum {m : List Bool} {b : List (Int × Int)} {s : List Int × List Int} (hm : m.length = n) (hs1 : s.1.length = cs.length) (hs : s.2.length = n) (hr : inR n cs) (ht : TreeOk n cs m b) {i : Nat} (hi : i < b.length) :
    (backL cs b s).1.getD (b.getD i (0, 0)).1.toNat 0 = signN (cs.getD (b.getD i (0, 0)).1.toNat cn0) (b.getD i (0, 0)).2 * (s.2.getD (b.getD i (0, 0)).2.toNat 0 + sumRt (rootOf cs (b.drop (i + 1))) (b.getD i (0, 0)).2 s.2 (b.drop (i + 1))) := by
  obtain ⟨hB, ht2⟩ := tree_at b m i ht hi
  have e : b.drop i = b.getD i (0, 0) :: b.drop (i + 1) := by
    rw [List.drop_eq_getElem_cons hi, List.getD_eq_getElem?_getD, List.getElem?_eq_getElem hi, Option.getD_some]
  have hT : TreeOk n cs (afterF m (b.take i)) (b.getD i (0, 0) :: b.drop (i + 1)) := ⟨hB, by rw [afterF_snoc hi] at ht2; exact ht2⟩
  rw [back_keep hr b m i hm ht hi, e, back_flow_at hs1 hT]
  have v0 := hB.v0
  rw [back_root (b.drop (i + 1)) _ s (by rw [afterF_len]; exact hm) hs ht2 _ v0 (mark_later hm ht (by omega) hi)]

/-- The flows that are put down, one by one. -/
def setL (F : List Int) (l : List (Int × Int)) (f : List Int) : List Int := l.foldl (fun f x => f.set x.1.toNat (F.getD x.1.toNat 0)) f
theorem setL_all {F : List Int} : ∀ (l : List (Int × Int)) (f : List Int), f.length = F.length → (∀ x ∈ l, x.1.toNat < F.length) → (∀ i, i < F.length → (∀ x ∈ l, x.1.toNat ≠ i) → f.getD i 0 = F.getD i 0) → setL F l f = F
  | [], f, hl, _, h => ext_invI hl rfl fun i hi => h i hi fun x hx => by simp at hx
  | x :: r, f, hl, hb, h => by
    show setL F r (f.set _ _) = F
    refine setL_all r _ (by simpa using hl) (fun y hy => hb y (by simp [hy])) fun i hi hn => ?_
    rw [getD_setI]
    have := hb x (by simp)
    split
    · rename_i e; rw [e.1]
    · rename_i e
      refine h i hi fun y hy => ?_
      rcases List.mem_cons.1 hy with rfl | hy
      · intro e2; exact e ⟨e2.symm, by omega⟩
      · exact hn y hy
theorem setL_back {m : List Bool} {b : List (Int × Int)} {s : List Int × List Int} (hs1 : s.1.length = cs.length) (ht : TreeOk n cs m b) : setL (backL cs b s).1 b s.1 = (backL cs b s).1 := by
  have hl := (backL_len cs b s).1
  have hrg := tree_range b m ht
  refine setL_all b s.1 hl.symm (fun x hx => by have := hrg x hx; omega) fun i hi hn => ?_
  rw [back_other b s i (fun x hx => (hrg x hx).1) (fun x hx e => hn x hx (by omega))]
theorem setL_drop {F f : List Int} {b : List (Int × Int)} {i : Nat} (h : i < b.length) : setL F (b.drop i) f = setL F (b.drop (i + 1)) (f.set (b.getD i (0, 0)).1.toNat (F.getD (b.getD i (0, 0)).1.toNat 0)) := by
  have e : b.getD i (0, 0) = b[i] := by simp [List.getD_eq_getElem?_getD, h]
  rw [List.drop_eq_getElem_cons h, e]; rfl
theorem sumRt_drop {g : Int → Int} {w : Int} {D : List Int} {b : List (Int × Int)} {k : Nat} (h : k < b.length) : sumRt g w D (b.drop k) = (if g (b.getD k (0, 0)).2 = w then D.getD (b.getD k (0, 0)).2.toNat 0 else 0) + sumRt g w D (b.drop (k + 1)) := by
  have e : b.getD k (0, 0) = b[k] := by simp [List.getD_eq_getElem?_getD, h]
  rw [List.drop_eq_getElem_cons h, sumRt, e]
end
end Go.Tr

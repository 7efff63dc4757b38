/- Contracts of chapter 5: the reference's check of a table. Conditions: none. -/
import Derived.Test.YtgbdlkajmmjahaaTr09
import Derived.Test.YtgbdlkajmmjahaaTr07
import Derived.ProofKit
set_option linter.unusedSectionVars false
set_option linter.unnecessarySimpa false
set_option linter.unusedVariables false
set_option linter.unusedSimpArgs false

-- seat Ytgbdlkajmmjahaa
namespace Go.Tr
open Go Go.Proofs
set_option maxRecDepth 20000
set_option maxHeartbeats 8000000

theorem triK_ok {t : List MRow} (hR : RwOk t) {i : Nat} (hi : i + 1 < t.length) {j : Nat} (hj : j < 2 * (npT t - 1)) :
    PtOk ((triK t i (npT t - 1)).getD j tri0).1.1 ∧ PtOk ((triK t i (npT t - 1)).getD j tri0).2.1.1 ∧ PtOk ((triK t i (npT t - 1)).getD j tri0).2.2.1 := by
  obtain ⟨k, e | e⟩ : ∃ k, j = 2 * k ∨ j = 2 * k + 1 := ⟨j / 2, by omega⟩
  · subst e
    rw [(triK_get t i (npT t - 1) k (by omega)).1]
    exact ⟨hR.pts i k (by omega) (by omega), hR.pts i (k + 1) (by omega) (by omega), hR.pts (i + 1) k (by omega) (by omega)⟩
  · subst e
    rw [(triK_get t i (npT t - 1) k (by omega)).2]
    exact ⟨hR.pts i (k + 1) (by omega) (by omega), hR.pts (i + 1) (k + 1) (by omega) (by omega), hR.pts (i + 1) k (by omega) (by omega)⟩
set_option maxHeartbeats 8000000 in
theorem S10 (t : List MRow) (ht : Fit t) : SP 10 [tblA t] (.tuple [i64 (chkM t).1, i64 (chkM t).2]) false := by
  have h1 := ht.1
  unfold chkM
  by_cases g1 : t.length < 2
  · rw [if_pos g1]
    refine sound (d := 2) tok2 mixed2 Try.func10 (by kernel_rfl) (by kernel_rfl) ?_
    conv => whnf
    refine ifB_dec (fun w1 => ?_) (fun w1 => ?_)
    · conv => whnf
      refine ⟨?_, nofun⟩
      (first | contradiction | omega | exact ave_tup2 rfl rfl)
    · (exfalso; omega)
  · rw [if_neg g1]
    by_cases g2 : t.length > 6
    · rw [if_pos g2]
      refine sound (d := 2) tok2 mixed2 Try.func10 (by kernel_rfl) (by kernel_rfl) ?_
      conv => whnf
      refine ifB_dec (fun w1 => ?_) (fun w1 => ?_)
      · (exfalso; omega)
      · conv => whnf
        refine ifB_dec (fun w2 => ?_) (fun w2 => ?_)
        · conv => whnf
          refine ⟨?_, nofun⟩
          (first | contradiction | omega | exact ave_tup2 rfl rfl)
        · (exfalso; omega)
    · rw [if_neg g2]
      refine sound (d := 2) tok2 mixed2 Try.func10 (by kernel_rfl) (by kernel_rfl) ?_
      conv => whnf
      refine ifB_dec (fun w1 => ?_) (fun w1 => ?_)
      · (exfalso; omega)
      · conv => whnf
        refine ifB_dec (fun w2 => ?_) (fun w2 => ?_)
        · (exfalso; omega)
        · conv => whnf
          refine ⟨[], [1, 4], fun st mq => ∃ (i : Nat), (i ≤ t.length) ∧ (fstE (rowX t) (t.length - i) i = fstE (rowX t) t.length 0) ∧ (∀ j, j < i → rowX t j = 0) ∧ st = ⟨[(1, .optr 0 0 0 0), (4, i64 i)], ⟨[⟨1, 1, fun _ => [rowsA t], 0, false, true, true⟩], [], none, 0⟩, []⟩ ∧ mq = t.length - i,
            ⟨_, _, ⟨0, by omega, rfl, fun j h => absurd h (Nat.not_lt_zero j), rfl, rfl⟩, ⟨⟨.inl rfl, rfl, rfl, rfl⟩, ⟨⟨rfl, rfl, rfl, rfl, fun _ => rfl, fun _ _ => .inl rfl⟩, trivial⟩, trivial⟩⟩, ?_⟩
          rintro s0 m0 ⟨i, hi, he, hz, rfl, hmeas⟩
          by_cases hlt : i < t.length
          · have h158 := S27 t ht i hlt
            rw [fstE_step _ hlt] at he
            by_cases hA : rowA t i = 0
            · have ho := (rowA_ok hA).1
              have hX : rowX t i = rowO t i := if_neg (not_not_intro hA)
              rw [hA] at h158
              rw [hX] at he
              by_cases hi0 : i = 0
              · subst hi0
                have hO : rowO t 0 = 0 := if_pos rfl
                rw [hO, if_neg (by decide)] at he
                conv => whnf
                conv => whnf
                refine ifB_dec (fun w3 => ?_) (fun w3 => ?_)
                · conv => whnf
                  conv => whnf
                  refine .inl ⟨_, _, byX rfl (Sound1.pl (h158) rfl), ?_⟩
                  conv => whnf
                  conv => whnf
                  refine ⟨[], by kernel_rfl, ?_⟩
                  conv => whnf
                  conv => whnf
                  refine ⟨[], by kernel_rfl, ?_⟩
                  conv => whnf
                  conv => whnf
                  refine ⟨inK64 (by omega) (by omega), ?_⟩
                  conv => whnf
                  conv => whnf
                  refine ⟨_, _, ⟨⟨1, by omega, he, (fun j hj => by rw [show j = 0 by omega, hX, hO]), rfl, rfl⟩, by omega⟩, ⟨⟨.inl rfl, rfl, rfl, rfl⟩, ⟨⟨rfl, rfl, rfl, rfl, fun _ => rfl, fun _ _ => .inl rfl⟩, trivial⟩, trivial⟩⟩
                · (exfalso; omega)
              · have hpv : 0 ≤ (t.getD (i - 1) r0).o ∧ (t.getD (i - 1) r0).o ≤ 100 := by
                  have h2 := hz (i - 1) (by omega)
                  unfold rowX at h2
                  by_cases e2 : rowA t (i - 1) = 0
                  · exact (rowA_ok e2).1
                  · rw [if_pos e2] at h2; exact absurd h2 e2
                have ei : ((i : Int) - 1).toNat = i - 1 := by omega
                have hmx : IntKind.max .i64 = 9223372036854775807 := by decide
                have hmn : IntKind.min .i64 = -9223372036854775808 := by decide
                have hpv' : 0 ≤ (t.getD ((i : Int) - 1).toNat r0).o ∧ (t.getD ((i : Int) - 1).toNat r0).o ≤ 100 := by rw [ei]; exact hpv
                have ho' : 0 ≤ (t.getD (i : Int).toNat r0).o ∧ (t.getD (i : Int).toNat r0).o ≤ 100 := ho
                have hd : inK .i64 ((t.getD (i : Int).toNat r0).o - (t.getD ((i : Int) - 1).toNat r0).o) := ⟨by omega, by omega⟩
                have hi1 : inK .i64 ((i : Int) - 1) := ⟨by omega, by omega⟩
                have hip : (i : Int) > 0 := by omega
                by_cases c1 : (t.getD i r0).o ≤ (t.getD (i - 1) r0).o
                · have hO : rowO t i = 9 := by unfold rowO; rw [if_neg hi0, if_pos c1]
                  rw [hO, if_pos (by decide)] at he
                  rw [← he, if_pos (show (9 : Int) ≠ 0 by decide)]
                  have c1' : (t.getD (i : Int).toNat r0).o ≤ (t.getD ((i : Int) - 1).toNat r0).o := by rw [ei]; exact c1
                  conv => whnf
                  conv => whnf
                  refine ifB_dec (fun w3 => ?_) (fun w3 => ?_)
                  · conv => whnf
                    conv => whnf
                    refine .inl ⟨_, _, byX rfl (Sound1.pl (h158) rfl), ?_⟩
                    conv => whnf
                    conv => whnf
                    refine ⟨[], by kernel_rfl, ?_⟩
                    conv => whnf
                    conv => whnf
                    refine ifB_dec (fun w4 => ?_) (fun w4 => ?_)
                    · conv => whnf
                      conv => whnf
                      refine ⟨⟨(by omega), (by omega)⟩, ?_⟩
                      conv => whnf
                      conv => whnf
                      refine ⟨inK64 (by omega) (by omega), ?_⟩
                      conv => whnf
                      conv => whnf
                      refine ⟨⟨(by omega), (by omega)⟩, ?_⟩
                      conv => whnf
                      conv => whnf
                      refine ifB_dec (fun w5 => ?_) (fun w5 => ?_)
                      · conv => whnf
                        conv => whnf
                        refine ⟨?_, nofun⟩
                        (first | contradiction | exact hi1 | exact hd | omega | exact ave_tup2 rfl rfl)
                      · (exfalso; omega)
                    · (exfalso; omega)
                  · (exfalso; omega)
                · have c1' : ¬ (t.getD (i : Int).toNat r0).o ≤ (t.getD ((i : Int) - 1).toNat r0).o := by rw [ei]; exact c1
                  by_cases c2 : (t.getD i r0).o - (t.getD (i - 1) r0).o > 20
                  · have hO : rowO t i = 22 := by unfold rowO; rw [if_neg hi0, if_neg c1, if_pos c2]
                    rw [hO, if_pos (by decide)] at he
                    rw [← he, if_pos (show (22 : Int) ≠ 0 by decide)]
                    have c2' : (t.getD (i : Int).toNat r0).o - (t.getD ((i : Int) - 1).toNat r0).o > 20 := by rw [ei]; exact c2
                    conv => whnf
                    conv => whnf
                    refine ifB_dec (fun w3 => ?_) (fun w3 => ?_)
                    · conv => whnf
                      conv => whnf
                      refine .inl ⟨_, _, byX rfl (Sound1.pl (h158) rfl), ?_⟩
                      conv => whnf
                      conv => whnf
                      refine ⟨[], by kernel_rfl, ?_⟩
                      conv => whnf
                      conv => whnf
                      refine ifB_dec (fun w4 => ?_) (fun w4 => ?_)
                      · conv => whnf
                        conv => whnf
                        refine ⟨⟨(by omega), (by omega)⟩, ?_⟩
                        conv => whnf
                        conv => whnf
                        refine ⟨inK64 (by omega) (by omega), ?_⟩
                        conv => whnf
                        conv => whnf
                        refine ⟨⟨(by omega), (by omega)⟩, ?_⟩
                        conv => whnf
                        conv => whnf
                        refine ifB_dec (fun w5 => ?_) (fun w5 => ?_)
                        · (exfalso; omega)
                        · conv => whnf
                          conv => whnf
                          refine ⟨[], by kernel_rfl, ?_⟩
                          conv => whnf
                          conv => whnf
                          refine ifB_dec (fun w6 => ?_) (fun w6 => ?_)
                          · conv => whnf
                            conv => whnf
                            refine ⟨⟨(by omega), (by omega)⟩, ?_⟩
                            conv => whnf
                            conv => whnf
                            refine ⟨inK64 (by omega) (by omega), ?_⟩
                            conv => whnf
                            conv => whnf
                            refine ⟨⟨(by omega), (by omega)⟩, ?_⟩
                            conv => whnf
                            conv => whnf
                            refine ⟨inK64 (by omega) (by omega), ?_⟩
                            conv => whnf
                            conv => whnf
                            refine ifB_dec (fun w7 => ?_) (fun w7 => ?_)
                            · conv => whnf
                              conv => whnf
                              refine ⟨?_, nofun⟩
                              (first | contradiction | exact hi1 | exact hd | omega | exact ave_tup2 rfl rfl)
                            · (exfalso; omega)
                          · (exfalso; omega)
                      · (exfalso; omega)
                    · (exfalso; omega)
                  · have hO : rowO t i = 0 := by unfold rowO; rw [if_neg hi0, if_neg c1, if_neg c2]
                    rw [hO, if_neg (by decide)] at he
                    have c2' : ¬ (t.getD (i : Int).toNat r0).o - (t.getD ((i : Int) - 1).toNat r0).o > 20 := by rw [ei]; exact c2
                    conv => whnf
                    conv => whnf
                    refine ifB_dec (fun w3 => ?_) (fun w3 => ?_)
                    · conv => whnf
                      conv => whnf
                      refine .inl ⟨_, _, byX rfl (Sound1.pl (h158) rfl), ?_⟩
                      conv => whnf
                      conv => whnf
                      refine ⟨[], by kernel_rfl, ?_⟩
                      conv => whnf
                      conv => whnf
                      refine ifB_dec (fun w4 => ?_) (fun w4 => ?_)
                      · conv => whnf
                        conv => whnf
                        refine ⟨⟨(by omega), (by omega)⟩, ?_⟩
                        conv => whnf
                        conv => whnf
                        refine ⟨inK64 (by omega) (by omega), ?_⟩
                        conv => whnf
                        conv => whnf
                        refine ⟨⟨(by omega), (by omega)⟩, ?_⟩
                        conv => whnf
                        conv => whnf
                        refine ifB_dec (fun w5 => ?_) (fun w5 => ?_)
                        · (exfalso; omega)
                        · conv => whnf
                          conv => whnf
                          refine ⟨[], by kernel_rfl, ?_⟩
                          conv => whnf
                          conv => whnf
                          refine ifB_dec (fun w6 => ?_) (fun w6 => ?_)
                          · conv => whnf
                            conv => whnf
                            refine ⟨⟨(by omega), (by omega)⟩, ?_⟩
                            conv => whnf
                            conv => whnf
                            refine ⟨inK64 (by omega) (by omega), ?_⟩
                            conv => whnf
                            conv => whnf
                            refine ⟨⟨(by omega), (by omega)⟩, ?_⟩
                            conv => whnf
                            conv => whnf
                            refine ⟨inK64 (by omega) (by omega), ?_⟩
                            conv => whnf
                            conv => whnf
                            refine ifB_dec (fun w7 => ?_) (fun w7 => ?_)
                            · (exfalso; omega)
                            · conv => whnf
                              conv => whnf
                              refine ⟨inK64 (by omega) (by omega), ?_⟩
                              conv => whnf
                              conv => whnf
                              refine ⟨_, _, ⟨⟨i + 1, by omega, he, (fun j hj => by by_cases e : j = i; (rw [e, hX, hO]); exact hz j (by omega)), rfl, rfl⟩, by omega⟩, ⟨⟨.inl rfl, rfl, rfl, rfl⟩, ⟨⟨rfl, rfl, rfl, rfl, fun _ => rfl, fun _ _ => .inl rfl⟩, trivial⟩, trivial⟩⟩
                          · (exfalso; omega)
                      · (exfalso; omega)
                    · (exfalso; omega)
            · have hX : rowX t i = rowA t i := if_pos hA
              rw [hX, if_pos hA] at he
              rw [← he, if_pos hA]
              conv => whnf
              conv => whnf
              refine ifB_dec (fun w3 => ?_) (fun w3 => ?_)
              · conv => whnf
                conv => whnf
                refine .inl ⟨_, _, byX rfl (Sound1.pl (h158) rfl), ?_⟩
                conv => whnf
                conv => whnf
                refine ifB_bne (fun w4 => ?_) (fun w4 => ?_)
                · conv => whnf
                  conv => whnf
                  refine ⟨?_, nofun⟩
                  (first | contradiction | exact ave_tup2 rfl rfl)
                · (exfalso; omega)
              · (exfalso; omega)
          · rw [fstE_end _ hlt] at he
            have hE : (fstE (rowX t) t.length 0).2 = 0 := by rw [← he]
            have hR := RwOk.of ⟨by omega, by omega⟩ hE
            rw [if_neg (not_not_intro hE)]
            conv => whnf
            conv => whnf
            refine ifB_dec (fun w3 => ?_) (fun w3 => ?_)
            · (exfalso; omega)
            · conv => whnf
              conv => whnf
              refine ⟨[], [1, 6], fun st mq => ∃ (i : Nat), (i + 1 ≤ t.length) ∧ (fstE (stripE t) (t.length - 1 - i) i = fstE (stripE t) (t.length - 1) 0) ∧ st = ⟨[(1, .optr 0 0 0 0), (6, i64 i)], ⟨[⟨1, 1, fun _ => [rowsA t], 0, false, true, true⟩], [], none, 0⟩, []⟩ ∧ mq = t.length - i,
                ⟨_, _, ⟨0, by omega, rfl, rfl, rfl⟩, ⟨⟨.inl rfl, rfl, rfl, rfl⟩, ⟨⟨rfl, rfl, rfl, rfl, fun _ => rfl, fun _ _ => .inl rfl⟩, trivial⟩, trivial⟩⟩, ?_⟩
              rintro s0 m0 ⟨i, hi, hs, rfl, hmeas⟩
              by_cases hlt2 : i + 1 < t.length
              · have hl1 : (t.getD i r0).ps.length = npT t := hR.len i (by omega)
                have hnp := hR.np
                have h159 := S28 t hR i hlt2
                have hlen := triK_len t i (npT t - 1)
                have hok := fun j hj => triK_ok hR hlt2 (j := j) hj
                have hst := trE_strip t i (npT t - 1) 0 (Nat.zero_le _)
                rw [Nat.mul_zero, Nat.sub_zero, Nat.sub_zero] at hst
                have hse : stripE t i = (fstE (quadE t i) (npT t - 1) 0).2 := by unfold stripE; rw [hl1]
                rw [← hst] at hse
                generalize triK t i (npT t - 1) = L at h159 hlen hok hse
                rw [fstE_step _ (show i < t.length - 1 by omega)] at hs
                conv => whnf
                conv => whnf
                conv => whnf
                refine ⟨inK64 (by omega) (by omega), ?_⟩
                conv => whnf
                conv => whnf
                conv => whnf
                refine ifB_dec (fun w4 => ?_) (fun w4 => ?_)
                · conv => whnf
                  conv => whnf
                  conv => whnf
                  refine .inl ⟨_, _, byX rfl (h159), ?_⟩
                  conv => whnf
                  conv => whnf
                  conv => whnf
                  refine ⟨[], [1, 6, 7, 8], fun st mq => ∃ (j : Nat), (j ≤ L.length) ∧ (fstE (trE L) (L.length - j) j = fstE (trE L) L.length 0) ∧ st = ⟨[(1, .optr 0 0 0 0), (6, i64 i), (7, tris L), (8, i64 j)], ⟨[⟨1, 1, fun _ => [rowsA t], 0, false, true, true⟩], [], none, 0⟩, []⟩ ∧ mq = L.length - j,
                    ⟨_, _, ⟨0, by omega, rfl, rfl, rfl⟩, ⟨⟨.inl rfl, rfl, rfl, rfl⟩, ⟨⟨rfl, rfl, rfl, rfl, fun _ => rfl, fun _ _ => .inl rfl⟩, trivial⟩, trivial⟩⟩, ?_⟩
                  rintro s0 m0 ⟨j, hj, hq, rfl, hmeas⟩
                  rw [← hlen] at hse
                  by_cases hlt3 : j < L.length
                  · obtain ⟨o1, o2, o3⟩ := hok j (by omega)
                    have h117 := S29 _ _ _ o1 o2 o3
                    rw [fstE_step _ hlt3] at hq
                    by_cases g : turnI (L.getD j tri0).1.1 (L.getD j tri0).2.1.1 (L.getD j tri0).2.2.1 ≤ 0
                    · have e1 : trE L j = 13 := if_pos g
                      rw [e1, if_pos (by decide)] at hq
                      have e2 : stripE t i = 13 := by rw [hse, ← hq]
                      rw [e2, if_pos (by decide)] at hs
                      rw [← hs]
                      conv => whnf
                      conv => whnf
                      conv => whnf
                      conv => whnf
                      refine ifB_dec (fun w5 => ?_) (fun w5 => ?_)
                      · conv => whnf
                        conv => whnf
                        conv => whnf
                        conv => whnf
                        refine ⟨[], by kernel_rfl, ?_⟩
                        conv => whnf
                        conv => whnf
                        conv => whnf
                        conv => whnf
                        refine ⟨⟨(by omega), (by omega)⟩, ?_⟩
                        conv => whnf
                        conv => whnf
                        conv => whnf
                        conv => whnf
                        refine ⟨⟨(by omega), (by omega)⟩, ?_⟩
                        conv => whnf
                        conv => whnf
                        conv => whnf
                        conv => whnf
                        refine ⟨⟨(by omega), (by omega)⟩, ?_⟩
                        conv => whnf
                        conv => whnf
                        conv => whnf
                        conv => whnf
                        refine ⟨⟨(by omega), (by omega)⟩, ?_⟩
                        conv => whnf
                        conv => whnf
                        conv => whnf
                        conv => whnf
                        refine ⟨⟨(by omega), (by omega)⟩, ?_⟩
                        conv => whnf
                        conv => whnf
                        conv => whnf
                        conv => whnf
                        refine ⟨⟨(by omega), (by omega)⟩, ?_⟩
                        conv => whnf
                        conv => whnf
                        conv => whnf
                        conv => whnf
                        refine .inl ⟨_, _, byX rfl (Sound1.pl (h117) rfl), ?_⟩
                        conv => whnf
                        conv => whnf
                        conv => whnf
                        conv => whnf
                        refine ifB_dec (fun w6 => ?_) (fun w6 => ?_)
                        · conv => whnf
                          conv => whnf
                          conv => whnf
                          conv => whnf
                          refine ⟨?_, nofun⟩
                          (first | contradiction | omega | exact ave_tup2 rfl rfl)
                        · (exfalso; omega)
                      · (exfalso; omega)
                    · have e1 : trE L j = 0 := if_neg g
                      rw [e1, if_neg (by decide)] at hq
                      conv => whnf
                      conv => whnf
                      conv => whnf
                      conv => whnf
                      refine ifB_dec (fun w5 => ?_) (fun w5 => ?_)
                      · conv => whnf
                        conv => whnf
                        conv => whnf
                        conv => whnf
                        refine ⟨[], by kernel_rfl, ?_⟩
                        conv => whnf
                        conv => whnf
                        conv => whnf
                        conv => whnf
                        refine ⟨⟨(by omega), (by omega)⟩, ?_⟩
                        conv => whnf
                        conv => whnf
                        conv => whnf
                        conv => whnf
                        refine ⟨⟨(by omega), (by omega)⟩, ?_⟩
                        conv => whnf
                        conv => whnf
                        conv => whnf
                        conv => whnf
                        refine ⟨⟨(by omega), (by omega)⟩, ?_⟩
                        conv => whnf
                        conv => whnf
                        conv => whnf
                        conv => whnf
                        refine ⟨⟨(by omega), (by omega)⟩, ?_⟩
                        conv => whnf
                        conv => whnf
                        conv => whnf
                        conv => whnf
                        refine ⟨⟨(by omega), (by omega)⟩, ?_⟩
                        conv => whnf
                        conv => whnf
                        conv => whnf
                        conv => whnf
                        refine ⟨⟨(by omega), (by omega)⟩, ?_⟩
                        conv => whnf
                        conv => whnf
                        conv => whnf
                        conv => whnf
                        refine .inl ⟨_, _, byX rfl (Sound1.pl (h117) rfl), ?_⟩
                        conv => whnf
                        conv => whnf
                        conv => whnf
                        conv => whnf
                        refine ifB_dec (fun w6 => ?_) (fun w6 => ?_)
                        · (exfalso; omega)
                        · conv => whnf
                          conv => whnf
                          conv => whnf
                          conv => whnf
                          refine ⟨inK64 (by omega) (by omega), ?_⟩
                          conv => whnf
                          conv => whnf
                          conv => whnf
                          conv => whnf
                          refine ⟨_, _, ⟨⟨j + 1, by omega, hq, rfl, rfl⟩, by omega⟩, ⟨⟨.inl rfl, rfl, rfl, rfl⟩, ⟨⟨rfl, rfl, rfl, rfl, fun _ => rfl, fun _ _ => .inl rfl⟩, trivial⟩, trivial⟩⟩
                      · (exfalso; omega)
                  · rw [fstE_end _ hlt3] at hq
                    have e2 : stripE t i = 0 := by rw [hse, ← hq]
                    rw [e2, if_neg (by decide)] at hs
                    conv => whnf
                    conv => whnf
                    conv => whnf
                    conv => whnf
                    refine ifB_dec (fun w5 => ?_) (fun w5 => ?_)
                    · (exfalso; omega)
                    · conv => whnf
                      conv => whnf
                      conv => whnf
                      conv => whnf
                      refine ⟨inK64 (by omega) (by omega), ?_⟩
                      conv => whnf
                      conv => whnf
                      conv => whnf
                      conv => whnf
                      refine ⟨_, _, ⟨⟨i + 1, by omega, hs, rfl, rfl⟩, by omega⟩, ⟨⟨.inl rfl, rfl, rfl, rfl⟩, ⟨⟨rfl, rfl, rfl, rfl, fun _ => rfl, fun _ _ => .inl rfl⟩, trivial⟩, trivial⟩⟩
                · (exfalso; omega)
              · rw [fstE_end _ (show ¬ i < t.length - 1 by omega)] at hs
                rw [← hs]
                conv => whnf
                conv => whnf
                conv => whnf
                refine ⟨inK64 (by omega) (by omega), ?_⟩
                conv => whnf
                conv => whnf
                conv => whnf
                refine ifB_dec (fun w4 => ?_) (fun w4 => ?_)
                · (exfalso; omega)
                · conv => whnf
                  conv => whnf
                  conv => whnf
                  refine ⟨?_, nofun⟩
                  (first | contradiction | omega | exact ave_tup2 rfl rfl)
end Go.Tr

/- Contracts of chapter 5: areas of tables. Conditions: none. -/
-- seat Ytgbdlkajmmjahaa
namespace Go.Tr
open Go Go.Proofs
set_option maxRecDepth 20000
set_option maxHeartbeats 8000000

theorem RwOk.ofT {t : List MRow} (h : TblOk t) : RwOk t := ⟨h.n, h.np, h.len, h.pts⟩
theorem tri_b {t : List MRow} (hR : RwOk t) {i k : Nat} (hi : i + 1 < t.length) (hk : k + 1 < npT t) : (-8000000 ≤ tri1 t i k ∧ tri1 t i k ≤ 8000000) ∧ -8000000 ≤ tri2 t i k ∧ tri2 t i k ≤ 8000000 :=
  ⟨turn_b (hR.pts i k (by omega) (by omega)) (hR.pts i (k + 1) (by omega) hk) (hR.pts (i + 1) k hi (by omega)), turn_b (hR.pts i (k + 1) (by omega) hk) (hR.pts (i + 1) (k + 1) hi hk) (hR.pts (i + 1) k hi (by omega))⟩
theorem areaP_b {t : List MRow} (hR : RwOk t) {i : Nat} (hi : i + 1 < t.length) {k : Nat} (hk : k ≤ npT t - 1) : -(k * 16000000) ≤ sumN (fun k => tri1 t i k + tri2 t i k) k ∧ sumN (fun k => tri1 t i k + tri2 t i k) k ≤ k * 16000000 :=
  sumN_abs fun j hj => by have := tri_b hR hi (k := j) (by omega); omega
theorem areaS_b {t : List MRow} (hR : RwOk t) {i : Nat} (hi : i + 1 < t.length) : -80000000 ≤ areaS t i ∧ areaS t i ≤ 80000000 := by
  have := areaP_b hR hi (Nat.le_refl (npT t - 1))
  have h1 := hR.len i (by omega)
  have h2 := hR.np
  unfold areaS
  rw [h1]
  omega
theorem areaT_b {t : List MRow} (hR : RwOk t) {i : Nat} (hi : i ≤ t.length - 1) : -(i * 80000000) ≤ sumN (areaS t) i ∧ sumN (areaS t) i ≤ i * 80000000 :=
  sumN_abs fun j hj => areaS_b hR (by omega)
set_option maxHeartbeats 8000000 in
theorem S8 (t : List MRow) (ht : Fit t) : SP 8 [tblA t] (.tuple [i64 (if (chkM t).2 = 0 then areaT t else 0), i64 (chkM t).2]) false := by
  have h97 := S25 t ht
  by_cases hc : (chkM t).2 = 0
  · have hT := TblOk.of hc
    have hR := RwOk.ofT hT
    have hn := hR.n
    have hnp := hR.np
    have hmx : IntKind.max .i64 = 9223372036854775807 := by decide
    have hmn : IntKind.min .i64 = -9223372036854775808 := by decide
    rw [hc] at h97
    rw [if_pos hc, hc]
    refine sound (d := 2) tok2 mixed2 Try.func8 (by kernel_rfl) (by kernel_rfl) ?_
    conv => whnf
    refine .inl ⟨_, _, byX rfl (Sound1.pl (h97) rfl), ?_⟩
    conv => whnf
    refine .inr (.inl ⟨[], ?_⟩)
    conv => whnf
    refine ⟨(by first | rfl | assumption), ?_⟩
    refine ⟨_, keep_ok [1, 5, 14] _, ?_⟩
    conv => whnf
    refine ⟨inK64 (by omega) (by omega), ?_⟩
    conv => whnf
    refine ⟨[], [0, 1, 14, 15], fun st mq => ∃ (i : Nat), (i ≤ t.length - 1) ∧ st = ⟨[(0, .yld 0), (1, .optr 2 0 0 0), (14, i64 ((t.length : Int) - 1)), (15, i64 i)], ⟨[⟨1, 1, fun _ => [rowsA t], 0, false, true, true⟩, ⟨1, 1, fun _ => [i64 (sumN (areaS t) i)], 0, false, true, true⟩, ⟨1, 1, fun _ => [rowsA t], 0, false, true, true⟩], [], none, 1⟩, [(1, .optr 0 0 0 0), (5, .optr 1 0 0 0), (14, .func (.func 42) 0 [.optr 2 0 0 0])]⟩ ∧ mq = t.length - 1 - i,
      ⟨_, _, ⟨0, by omega, rfl, rfl⟩, ⟨⟨.inl rfl, rfl, rfl, rfl⟩, ⟨⟨rfl, rfl, rfl, rfl, fun _ => rfl, fun _ _ => .inl rfl⟩, ⟨⟨rfl, rfl, rfl, rfl, fun _ => rfl, fun _ _ => .inl rfl⟩, ⟨⟨rfl, rfl, rfl, rfl, fun _ => rfl, fun _ _ => .inl rfl⟩, trivial⟩⟩⟩, trivial⟩⟩, ?_⟩
    rintro s0 m0 ⟨i, hi, rfl, hmeas⟩
    by_cases hlt2 : i < t.length - 1
    · have hl1 : (t.getD i r0).ps.length = npT t := hR.len i (by omega)
      have hl2 : (t.getD (i + 1) r0).ps.length = npT t := hR.len (i + 1) (by omega)
      have q1 : inK .i64 (((t.getD i r0).ps.length : Int) - 1) := ⟨by omega, by omega⟩
      conv => whnf
      conv => whnf
      refine ifB_dec (fun w1 => ?_) (fun w1 => ?_)
      · conv => whnf
        conv => whnf
        refine ⟨[(6, 13), (10, 13)], by kernel_rfl, ?_⟩
        conv => whnf
        conv => whnf
        refine ⟨⟨(by omega), (by omega)⟩, ?_⟩
        conv => whnf
        conv => whnf
        refine ⟨inK64 (by omega) (by omega), ?_⟩
        conv => whnf
        conv => whnf
        refine ⟨⟨(by omega), (by omega)⟩, ?_⟩
        conv => whnf
        conv => whnf
        refine ⟨by assumption, ?_⟩
        conv => whnf
        conv => whnf
        refine ⟨[], [0, 1, 3, 4, 5, 14, 15, 32, 33], fun st mq => ∃ (k : Nat), (k ≤ npT t - 1) ∧ st = ⟨[(0, .yld 0), (1, .optr 2 0 0 0), (3, i64 i), (4, .optr 3 0 0 0), (5, .optr 4 0 0 0), (14, i64 ((t.length : Int) - 1)), (15, i64 i), (32, i64 (((t.getD i r0).ps.length : Int) - 1)), (33, i64 k)], ⟨[⟨1, 1, fun _ => [rowsA t], 0, false, true, true⟩, ⟨1, 1, fun _ => [i64 (sumN (areaS t) i + sumN (fun k => tri1 t i k + tri2 t i k) k)], 0, false, true, true⟩, ⟨1, 1, fun _ => [rowsA t], 0, false, true, true⟩, ⟨2, 1, fun _ => [i64 (t.getD i r0).o, ptsA (t.getD i r0).ps], 0, false, true, true⟩, ⟨2, 1, fun _ => [i64 (t.getD (i + 1) r0).o, ptsA (t.getD (i + 1) r0).ps], 0, false, true, true⟩], [], none, 1⟩, [(1, .optr 0 0 0 0), (5, .optr 1 0 0 0), (14, .func (.func 42) 0 [.optr 2 0 0 0])]⟩ ∧ mq = npT t - 1 - k,
          ⟨_, _, ⟨0, by omega, rfl, rfl⟩, ⟨⟨.inl rfl, rfl, rfl, rfl⟩, ⟨⟨rfl, rfl, rfl, rfl, fun _ => rfl, fun _ _ => .inl rfl⟩, ⟨⟨rfl, rfl, rfl, rfl, fun _ => rfl, fun _ _ => .inl ((by show [i64 (sumN (areaS t) i + 0)] = [i64 (sumN (areaS t) i)]; rw [Int.add_zero]))⟩, ⟨⟨rfl, rfl, rfl, rfl, fun _ => rfl, fun _ _ => .inl rfl⟩, ⟨⟨rfl, rfl, rfl, rfl, fun _ => rfl, fun _ _ => .inl rfl⟩, ⟨⟨rfl, rfl, rfl, rfl, fun _ => rfl, fun _ _ => .inl rfl⟩, trivial⟩⟩⟩⟩⟩, trivial⟩⟩, ?_⟩
        rintro s0 m0 ⟨k, hk, rfl, hmeas⟩
        have hS := areaT_b hR (i := i) (by omega)
        have hP := areaP_b hR (i := i) (by omega) (k := k) hk
        have q2 : (i : Int) * 80000000 ≤ 6 * 80000000 := by omega
        by_cases hlt3 : k < npT t - 1
        · have hb := tri_b hR (i := i) (k := k) (by omega) (by omega)
          have p1 := hR.pts i k (by omega) (by omega)
          have p2 := hR.pts i (k + 1) (by omega) (by omega)
          have p3 := hR.pts (i + 1) k (by omega) (by omega)
          have p4 := hR.pts (i + 1) (k + 1) (by omega) (by omega)
          have ha := S23 ((ptT t i k, (t.getD i r0).o), (ptT t i (k + 1), (t.getD i r0).o), (ptT t (i + 1) k, (t.getD (i + 1) r0).o)) p1 p2 p3
          have hc2 := S23 ((ptT t i (k + 1), (t.getD i r0).o), (ptT t (i + 1) (k + 1), (t.getD (i + 1) r0).o), (ptT t (i + 1) k, (t.getD (i + 1) r0).o)) p2 p4 p3
          change SP 23 _ (i64 (tri1 t i k)) false at ha
          change SP 23 _ (i64 (tri2 t i k)) false at hc2
          have hk6 : (k : Int) * 16000000 ≤ 6 * 16000000 := by omega
          have v1 : inK .i64 (sumN (areaS t) i + sumN (fun k => tri1 t i k + tri2 t i k) k + tri1 t i k) := ⟨by omega, by omega⟩
          have v2 : inK .i64 (sumN (areaS t) i + sumN (fun k => tri1 t i k + tri2 t i k) k + tri1 t i k + tri2 t i k) := ⟨by omega, by omega⟩
          conv => whnf
          conv => whnf
          conv => whnf
          refine ifB_dec (fun w2 => ?_) (fun w2 => ?_)
          · conv => whnf
            conv => whnf
            conv => whnf
            refine ⟨[(9, 19), (13, 19), (15, 19)], by kernel_rfl, ?_⟩
            conv => whnf
            conv => whnf
            conv => whnf
            refine ⟨⟨(by omega), (by omega)⟩, ?_⟩
            conv => whnf
            conv => whnf
            conv => whnf
            refine ⟨inK64 (by omega) (by omega), ?_⟩
            conv => whnf
            conv => whnf
            conv => whnf
            refine ⟨⟨(by omega), (by omega)⟩, ?_⟩
            conv => whnf
            conv => whnf
            conv => whnf
            refine ⟨[(9, 19), (13, 19), (15, 19)], by kernel_rfl, ?_⟩
            conv => whnf
            conv => whnf
            conv => whnf
            refine ⟨⟨(by omega), (by omega)⟩, ?_⟩
            conv => whnf
            conv => whnf
            conv => whnf
            refine ⟨inK64 (by omega) (by omega), ?_⟩
            conv => whnf
            conv => whnf
            conv => whnf
            refine ⟨⟨(by omega), (by omega)⟩, ?_⟩
            conv => whnf
            conv => whnf
            conv => whnf
            refine ⟨(by first | rfl | assumption), ?_⟩
            conv => whnf
            conv => whnf
            conv => whnf
            refine ⟨[], by kernel_rfl, ?_⟩
            conv => whnf
            conv => whnf
            conv => whnf
            refine .inl ⟨_, _, byX rfl (Sound1.pl (ha) rfl), ?_⟩
            conv => whnf
            conv => whnf
            conv => whnf
            refine ⟨inK64 (by omega) (by omega), ?_⟩
            conv => whnf
            conv => whnf
            conv => whnf
            refine ⟨(by first | rfl | assumption), ?_⟩
            conv => whnf
            conv => whnf
            conv => whnf
            refine ⟨[], by kernel_rfl, ?_⟩
            conv => whnf
            conv => whnf
            conv => whnf
            refine .inl ⟨_, _, byX rfl (Sound1.pl (hc2) rfl), ?_⟩
            conv => whnf
            conv => whnf
            conv => whnf
            refine ⟨inK64 (by omega) (by omega), ?_⟩
            conv => whnf
            conv => whnf
            conv => whnf
            refine ⟨inK64 (by omega) (by omega), ?_⟩
            conv => whnf
            conv => whnf
            conv => whnf
            refine ⟨_, _, ⟨⟨k + 1, by omega, rfl, rfl⟩, by omega⟩, ⟨⟨.inl rfl, rfl, rfl, rfl⟩, ⟨⟨rfl, rfl, rfl, rfl, fun _ => rfl, fun _ _ => .inl rfl⟩, ⟨⟨rfl, rfl, rfl, rfl, fun _ => rfl, fun _ _ => .inl (congrArg (fun z => [i64 z]) (show sumN (areaS t) i + (sumN (fun k => tri1 t i k + tri2 t i k) k + (tri1 t i k + tri2 t i k)) = sumN (areaS t) i + sumN (fun k => tri1 t i k + tri2 t i k) k + tri1 t i k + tri2 t i k by omega))⟩, ⟨⟨rfl, rfl, rfl, rfl, fun _ => rfl, fun _ _ => .inl rfl⟩, ⟨⟨rfl, rfl, rfl, rfl, fun _ => rfl, fun _ _ => .inl rfl⟩, ⟨⟨rfl, rfl, rfl, rfl, fun _ => rfl, fun _ _ => .inl rfl⟩, trivial⟩⟩⟩⟩⟩, trivial⟩⟩
          · (exfalso; omega)
        · have ek : k = npT t - 1 := by omega
          have eS : areaS t i = sumN (fun k => tri1 t i k + tri2 t i k) k := by unfold areaS; rw [hl1, ek]
          conv => whnf
          conv => whnf
          conv => whnf
          refine ifB_dec (fun w2 => ?_) (fun w2 => ?_)
          · (exfalso; omega)
          · conv => whnf
            conv => whnf
            conv => whnf
            refine ⟨inK64 (by omega) (by omega), ?_⟩
            conv => whnf
            conv => whnf
            conv => whnf
            refine ⟨_, _, ⟨⟨i + 1, by omega, rfl, rfl⟩, by omega⟩, ⟨⟨.inl rfl, rfl, rfl, rfl⟩, ⟨⟨rfl, rfl, rfl, rfl, fun _ => rfl, fun _ _ => .inl rfl⟩, ⟨⟨rfl, rfl, rfl, rfl, fun _ => rfl, fun _ _ => .inl (congrArg (fun z => [i64 z]) (show sumN (areaS t) i + areaS t i = sumN (areaS t) i + sumN (fun k => tri1 t i k + tri2 t i k) k by rw [eS]))⟩, ⟨⟨rfl, rfl, rfl, rfl, fun _ => rfl, fun _ _ => .inl rfl⟩, trivial⟩⟩⟩, trivial⟩⟩
      · (exfalso; omega)
    · have ei : i = t.length - 1 := by omega
      have eT : areaT t = sumN (areaS t) i := by unfold areaT; rw [ei]
      rw [eT]
      conv => whnf
      conv => whnf
      refine ifB_dec (fun w1 => ?_) (fun w1 => ?_)
      · (exfalso; omega)
      · conv => whnf
        conv => whnf
        refine ⟨?_, nofun⟩
        (first | contradiction | omega | exact ave_tup2 rfl rfl)
  · rw [if_neg hc]
    refine sound (d := 2) tok2 mixed2 Try.func8 (by kernel_rfl) (by kernel_rfl) ?_
    conv => whnf
    refine .inl ⟨_, _, byX rfl (Sound1.pl (h97) rfl), ?_⟩
    conv => whnf
    refine ifB_bne (fun w1 => ?_) (fun w1 => ?_)
    · conv => whnf
      refine ⟨?_, nofun⟩
      (first | contradiction | exact ave_tup2 rfl rfl)
    · (exfalso; omega)
end Go.Tr

/- Contracts of chapter 5: the reference's area of a table. Conditions: none. -/
-- seat Ytgbdlkajmmjahaa
namespace Go.Tr
open Go Go.Proofs
set_option maxRecDepth 20000
set_option maxHeartbeats 8000000

def triT (t : List MRow) : Nat → List Tri
  | 0 => []
  | i + 1 => triT t i ++ triK t i (npT t - 1)
theorem triT_len (t : List MRow) : ∀ i, (triT t i).length = i * (2 * (npT t - 1))
  | 0 => by simp [triT]
  | i + 1 => by
    unfold triT
    rw [List.length_append, triT_len t i, triK_len]
    generalize 2 * (npT t - 1) = X
    rw [Nat.add_mul, Nat.one_mul]
def turnT (x : Tri) : Int := turnI x.1.1 x.2.1.1 x.2.2.1
def arL : List Tri → Int
  | [] => 0
  | x :: r => turnT x + arL r
theorem arL_app : ∀ (a b : List Tri), arL (a ++ b) = arL a + arL b
  | [], b => by simp [arL]
  | x :: a, b => by
    show turnT x + arL (a ++ b) = turnT x + arL a + arL b
    rw [arL_app a b]; omega
theorem arL_K (t : List MRow) (i : Nat) : ∀ n, arL (triK t i n) = sumN (fun k => tri1 t i k + tri2 t i k) n
  | 0 => rfl
  | n + 1 => by
    unfold triK
    rw [arL_app, arL_app, arL_K t i n]
    show sumN (fun k => tri1 t i k + tri2 t i k) n + (tri1 t i n + 0) + (tri2 t i n + 0) = sumN (fun k => tri1 t i k + tri2 t i k) n + (tri1 t i n + tri2 t i n)
    omega
theorem arL_T {t : List MRow} (hR : RwOk t) : ∀ i, i ≤ t.length - 1 → arL (triT t i) = sumN (areaS t) i
  | 0, _ => rfl
  | i + 1, h => by
    unfold triT
    rw [arL_app, arL_T hR i (by omega), arL_K]
    have hl := hR.len i (by omega)
    show _ = sumN (areaS t) i + areaS t i
    unfold areaS
    rw [hl]
theorem arL_take (L : List Tri) (j : Nat) (h : j < L.length) : arL (L.take (j + 1)) = arL (L.take j) + turnT (L.getD j tri0) := by
  have e : L.take (j + 1) = L.take j ++ [L.getD j tri0] := by
    rw [List.getD_eq_getElem?_getD, List.getElem?_eq_getElem h]; simp
  rw [e, arL_app]
  show _ + (turnT _ + 0) = _
  omega
theorem app_trs (L M : List Tri) (n m j : Nat) (hn : L.length = n) (hm : M.length = m) (hj : j < n + m) : rtC ((L ++ M).getD j tri0) = if j < n then rtC (L.getD (0 + j) tri0) else rtC (M.getD (j - n) tri0) := by
  subst hn hm
  rw [Nat.zero_add]
  by_cases h : j < L.length
  · rw [if_pos h]; simp [List.getD_eq_getElem?_getD, List.getElem?_append_left h]
  · rw [if_neg h]; simp [List.getD_eq_getElem?_getD, List.getElem?_append_right (show L.length ≤ j by omega)]
theorem S30 (t : List MRow) (hR : RwOk t) : SP 30 [tblA t] (tris (triT t (t.length - 1))) false := by
  have hn := hR.n
  have hnp := hR.np
  have hb : Try.prog.types[82].bytes = 96 := by kernel_rfl
  refine sound (d := 2) tok2 mixed2 Try.func30 (by kernel_rfl) (by kernel_rfl) ?_
  conv => whnf
  refine ⟨[.slot 3 12], [1, 3, 4], fun st mq => ∃ (i : Nat) (L : List Tri) (m : Nat), (i + 1 ≤ t.length) ∧ (L = triT t i) ∧ (L.length = m) ∧ (m ≤ 6 * 10) ∧ st = ⟨[(1, .optr 0 0 0 0), (3, .oslice 1 0 0 m none), (4, i64 i)], ⟨[⟨1, 1, fun _ => [rowsA t], 0, false, true, true⟩, ⟨12, m, fun j => rtC (L.getD j tri0), 0, false, true, false⟩], [], none, 0⟩, []⟩ ∧ mq = t.length - i,
    ⟨_, _, ⟨0, [], 0, by omega, rfl, rfl, by omega, rfl, rfl⟩, ⟨⟨.inl rfl, rfl, rfl, rfl⟩, ⟨⟨rfl, rfl, rfl, rfl, fun _ => rfl, fun _ _ => .inl rfl⟩, ⟨⟨rfl, rfl, rfl, rfl, fun _ => rfl, fun i h => .inl (absurd h (Nat.not_lt_zero i))⟩, trivial⟩⟩, trivial⟩⟩, ?_⟩
  rintro s0 m0 ⟨i, L, m, hi, hL, hm, hm6, rfl, hmeas⟩
  by_cases hlt : i + 1 < t.length
  · have h159 := S28 t hR i hlt
    have hkl := triK_len t i (npT t - 1)
    have hneed : (m + (triK t i (npT t - 1)).length) * (Try.prog.types[82].bytes + 1) ≤ 1000000000000 := by rw [hb]; omega
    have hl2 : (L ++ triK t i (npT t - 1)).length = m + (triK t i (npT t - 1)).length := by rw [List.length_append, hm]
    have hl3 := triT_len t (i + 1)
    have hl4 : (i + 1) * (2 * (npT t - 1)) ≤ 5 * 10 := Nat.mul_le_mul (by omega) (by omega)
    conv => whnf
    conv => whnf
    refine ⟨inK64 (by omega) (by omega), ?_⟩
    conv => whnf
    conv => whnf
    refine ifB_dec (fun w1 => ?_) (fun w1 => ?_)
    · conv => whnf
      conv => whnf
      refine .inl ⟨_, _, byX rfl (h159), ?_⟩
      conv => whnf
      conv => whnf
      refine .inl ?_
      conv => whnf
      conv => whnf
      refine ⟨(by show _ * (96 + 1) ≤ _; omega), ?_⟩
      conv => whnf
      conv => whnf
      refine ⟨inK64 (by omega) (by omega), ?_⟩
      conv => whnf
      conv => whnf
      refine ⟨_, _, ⟨⟨i + 1, L ++ triK t i (npT t - 1), m + (triK t i (npT t - 1)).length, by omega, (by rw [hL]; rfl), hl2, (by rw [← hl2, hL, show triT t i ++ triK t i (npT t - 1) = triT t (i + 1) from rfl]; omega), rfl, rfl⟩, by omega⟩, ⟨⟨.inl rfl, rfl, rfl, rfl⟩, ⟨⟨rfl, rfl, rfl, rfl, fun _ => rfl, fun _ _ => .inl rfl⟩, ⟨⟨rfl, rfl, rfl, rfl, fun _ => rfl, fun j hj => .inl (app_trs L _ m _ j hm rfl hj)⟩, trivial⟩⟩, trivial⟩⟩
    · (exfalso; omega)
  · have e : i = t.length - 1 := by omega
    rw [← e, ← hL]
    conv => whnf
    conv => whnf
    refine ⟨inK64 (by omega) (by omega), ?_⟩
    conv => whnf
    conv => whnf
    refine ifB_dec (fun w1 => ?_) (fun w1 => ?_)
    · (exfalso; omega)
    · conv => whnf
      conv => whnf
      refine ⟨?_, nofun⟩
      exact ⟨rfl, hm.symm, fun _ _ => rfl⟩
def TriOk (x : Tri) : Prop := PtOk x.1.1 ∧ PtOk x.2.1.1 ∧ PtOk x.2.2.1
theorem triK_all {t : List MRow} (hR : RwOk t) {i : Nat} (hi : i + 1 < t.length) : ∀ n, n ≤ npT t - 1 → ∀ x ∈ triK t i n, TriOk x
  | 0, _, x, h => by cases h
  | n + 1, hn, x, h => by
    unfold triK at h
    have hp := hR.np
    rcases List.mem_append.1 h with h | h
    · rcases List.mem_append.1 h with h | h
      · exact triK_all hR hi n (by omega) x h
      · rw [List.mem_singleton.1 h]
        exact ⟨hR.pts i n (by omega) (by omega), hR.pts i (n + 1) (by omega) (by omega), hR.pts (i + 1) n (by omega) (by omega)⟩
    · rw [List.mem_singleton.1 h]
      exact ⟨hR.pts i (n + 1) (by omega) (by omega), hR.pts (i + 1) (n + 1) (by omega) (by omega), hR.pts (i + 1) n (by omega) (by omega)⟩
theorem triT_all {t : List MRow} (hR : RwOk t) : ∀ i, i ≤ t.length - 1 → ∀ x ∈ triT t i, TriOk x
  | 0, _, x, h => by cases h
  | i + 1, hi, x, h => by
    unfold triT at h
    rcases List.mem_append.1 h with h | h
    · exact triT_all hR i (by omega) x h
    · exact triK_all hR (by omega) _ (Nat.le_refl _) x h
theorem turnT_b {x : Tri} (h : TriOk x) : -8000000 ≤ turnT x ∧ turnT x ≤ 8000000 := turn_b h.1 h.2.1 h.2.2
theorem arL_b {L : List Tri} (h : ∀ x ∈ L, TriOk x) : -(L.length * 8000000) ≤ arL L ∧ arL L ≤ L.length * 8000000 := by
  induction L with
  | nil => simp [arL]
  | cons x L ih =>
    have h1 := turnT_b (h x (by simp))
    have h2 := ih fun y hy => h y (by simp [hy])
    show -(((L.length + 1 : Nat) : Int) * 8000000) ≤ turnT x + arL L ∧ turnT x + arL L ≤ ((L.length + 1 : Nat) : Int) * 8000000
    omega
theorem S11 (t : List MRow) (hR : RwOk t) : SP 11 [tblA t] (i64 (areaT t)) false := by
  have h108 := S30 t hR
  have hn := hR.n
  have hnp := hR.np
  have hall := triT_all hR (t.length - 1) (Nat.le_refl _)
  have hlen := triT_len t (t.length - 1)
  have hl4 : (t.length - 1) * (2 * (npT t - 1)) ≤ 5 * 10 := Nat.mul_le_mul (by omega) (by omega)
  have hT : areaT t = arL (triT t (t.length - 1)) := by rw [arL_T hR _ (Nat.le_refl _)]; rfl
  rw [hT]
  generalize triT t (t.length - 1) = L at h108 hall hlen ⊢
  have hmx : IntKind.max .i64 = 9223372036854775807 := by decide
  have hmn : IntKind.min .i64 = -9223372036854775808 := by decide
  refine sound (d := 2) tok2 mixed2 Try.func11 (by kernel_rfl) (by kernel_rfl) ?_
  conv => whnf
  refine .inl ⟨_, _, byX rfl (h108), ?_⟩
  conv => whnf
  refine ⟨[], [3, 4, 5], fun st mq => ∃ (j : Nat) (s : Int), (j ≤ L.length) ∧ (s = arL (L.take j)) ∧ st = ⟨[(3, i64 s), (4, tris L), (5, i64 j)], ⟨[⟨1, 1, fun _ => [rowsA t], 0, false, true, true⟩], [], none, 0⟩, []⟩ ∧ mq = L.length - j,
    ⟨_, _, ⟨0, 0, by omega, rfl, rfl, rfl⟩, ⟨⟨.inl rfl, rfl, rfl, rfl⟩, ⟨⟨rfl, rfl, rfl, rfl, fun _ => rfl, fun _ _ => .inl rfl⟩, trivial⟩, trivial⟩⟩, ?_⟩
  rintro s0 m0 ⟨j, s, hj, hs, rfl, hmeas⟩
  by_cases hlt : j < L.length
  · have hm : L.getD j tri0 ∈ L := by rw [List.getD_eq_getElem?_getD, List.getElem?_eq_getElem hlt]; exact List.getElem_mem hlt
    have hk := hall _ hm
    have h117 := S29 _ _ _ hk.1 hk.2.1 hk.2.2
    change SP 29 _ (i64 (turnT (L.getD j tri0))) false at h117
    have ht := arL_take L j hlt
    have b1 := arL_b (L := L.take (j + 1)) fun x hx => hall x (List.mem_of_mem_take hx)
    have b2 : (L.take (j + 1)).length ≤ 50 := by rw [List.length_take]; omega
    have v : inK .i64 (s + turnT (L.getD j tri0)) := by rw [hs, ← ht]; exact ⟨by omega, by omega⟩
    conv => whnf
    conv => whnf
    refine ifB_dec (fun w1 => ?_) (fun w1 => ?_)
    · conv => whnf
      conv => whnf
      refine ⟨[], by kernel_rfl, ?_⟩
      conv => whnf
      conv => whnf
      refine ⟨⟨(by omega), (by omega)⟩, ?_⟩
      conv => whnf
      conv => whnf
      refine ⟨⟨(by omega), (by omega)⟩, ?_⟩
      conv => whnf
      conv => whnf
      refine ⟨⟨(by omega), (by omega)⟩, ?_⟩
      conv => whnf
      conv => whnf
      refine ⟨⟨(by omega), (by omega)⟩, ?_⟩
      conv => whnf
      conv => whnf
      refine ⟨⟨(by omega), (by omega)⟩, ?_⟩
      conv => whnf
      conv => whnf
      refine ⟨⟨(by omega), (by omega)⟩, ?_⟩
      conv => whnf
      conv => whnf
      refine .inl ⟨_, _, byX rfl (Sound1.pl (h117) rfl), ?_⟩
      conv => whnf
      conv => whnf
      refine ⟨inK64 (by omega) (by omega), ?_⟩
      conv => whnf
      conv => whnf
      refine ⟨inK64 (by omega) (by omega), ?_⟩
      conv => whnf
      conv => whnf
      refine ⟨_, _, ⟨⟨j + 1, s + turnT (L.getD j tri0), by omega, (by rw [hs, ht]), rfl, rfl⟩, by omega⟩, ⟨⟨.inl rfl, rfl, rfl, rfl⟩, ⟨⟨rfl, rfl, rfl, rfl, fun _ => rfl, fun _ _ => .inl rfl⟩, trivial⟩, trivial⟩⟩
    · (exfalso; omega)
  · have e : j = L.length := by omega
    subst e
    rw [List.take_length] at hs
    rw [← hs]
    conv => whnf
    conv => whnf
    refine ifB_dec (fun w1 => ?_) (fun w1 => ?_)
    · (exfalso; omega)
    · conv => whnf
      conv => whnf
      refine ⟨?_, nofun⟩
      (first | contradiction | omega | rfl)
end Go.Tr

/- Contracts of chapter 5: the bounds of a table. Conditions: none. -/
-- seat Ytgbdlkajmmjahaa
namespace Go.Tr
open Go Go.Proofs
set_option maxRecDepth 20000
set_option maxHeartbeats 8000000

abbrev bnC (b : B3) : List AV := [i64 b.1.1, i64 b.1.2, i64 b.2.1.1, i64 b.2.1.2, i64 b.2.2.1, i64 b.2.2.2]
abbrev bnA (b : B3) : AV := .agg (bnC b)
theorem ave_bn {k : Nat} {b : B3} {e : Int} : AVE (k + 3) (.tuple [bnA b, i64 e]) (.tuple [bnA b, i64 e]) := ave_ok2 (by simp [AV.atom]) trivial
theorem S26 (p : P3) : SP 26 [.agg (ptC p)] (.agg (ptC p)) false := by
  refine sound (d := 2) tok2 mixed2 Try.func26 (by kernel_rfl) (by kernel_rfl) ?_
  conv => whnf
  refine ⟨?_, nofun⟩
  exact ave_aggR (l := ptC p) (by simp [AV.atom])
/-- Bounds of which j parts are new. -/
def bnJ (b : B3) (p : P3) (j : Nat) : B3 := (if 0 < j then bnd1 b.1 p.1 else b.1, if 1 < j then bnd1 b.2.1 p.2.1 else b.2.1, if 2 < j then bnd1 b.2.2 p.2.2 else b.2.2)
def bn0 (p : P3) (j : Nat) : B3 := (if 0 < j then (p.1, p.1) else (0, 0), if 1 < j then (p.2.1, p.2.1) else (0, 0), if 2 < j then (p.2.2, p.2.2) else (0, 0))
theorem bnL_take (b : B3) (l : List P3) (k : Nat) (h : k < l.length) : bndL b (l.take (k + 1)) = bndP (bndL b (l.take k)) (l.getD k p0) := by
  have e : l.take (k + 1) = l.take k ++ [l.getD k p0] := by
    rw [List.getD_eq_getElem?_getD, List.getElem?_eq_getElem h]; simp
  rw [e]
  simp [bndL]
def bnT (t : List MRow) (i : Nat) : B3 := (t.take i).foldl (fun b r => bndL b r.ps) (bnd0 (ptT t 0 0))
theorem bnT_succ (t : List MRow) (i : Nat) (h : i < t.length) : bnT t (i + 1) = bndL (bnT t i) (t.getD i r0).ps := by
  have e : t.take (i + 1) = t.take i ++ [t.getD i r0] := by
    rw [List.getD_eq_getElem?_getD, List.getElem?_eq_getElem h]; simp
  unfold bnT
  rw [e]
  simp
theorem mn_if (a n : Int) : min a n = if n < a then n else a := by rw [Int.min_def]; split <;> split <;> omega
theorem mx_if (a n : Int) : max a n = if n > a then n else a := by rw [Int.max_def]; split <;> split <;> omega
set_option maxHeartbeats 8000000 in
theorem S9 (t : List MRow) (ht : Fit t) : SP 9 [tblA t] (.tuple [bnA (if (chkM t).2 = 0 then bndT t else ((0, 0), (0, 0), 0, 0)), i64 (chkM t).2]) false := by
  have h97 := S25 t ht
  by_cases hc : (chkM t).2 = 0
  · have hT := TblOk.of hc
    have hn := hT.n
    have hnp := hT.np
    have hl0 : (t.getD 0 r0).ps.length = npT t := hT.len 0 (by omega)
    have hp0 := S26 (ptT t 0 0)
    have hix : 0 ≤ (0 : Int) ∧ (0 : Int) < (((t.getD (Int.toNat 0) r0).ps.length : Nat) : Int) := by
      show 0 ≤ (0 : Int) ∧ (0 : Int) < (((t.getD 0 r0).ps.length : Nat) : Int)
      omega
    rw [hc] at h97
    rw [if_pos hc, hc]
    refine sound (d := 2) tok2 mixed2 Try.func9 (by kernel_rfl) (by kernel_rfl) ?_
    conv => whnf
    refine .inl ⟨_, _, byX rfl (Sound1.pl (h97) rfl), ?_⟩
    conv => whnf
    refine ⟨⟨(by omega), (by omega)⟩, ?_⟩
    conv => whnf
    refine ⟨⟨(by omega), (by omega)⟩, ?_⟩
    conv => whnf
    refine .inl ⟨_, _, byX rfl (Sound1.pl (hp0) rfl), ?_⟩
    conv => whnf
    refine ⟨[], [1, 2, 5, 27, 28], fun st mq => ∃ (j : Nat), (j ≤ 3) ∧ st = ⟨[(1, .optr 0 0 0 0), (2, .optr 1 0 0 0), (5, .optr 2 0 0 0), (27, .agg (ptC (ptT t 0 0))), (28, i64 j)], ⟨[⟨1, 1, fun _ => [rowsA t], 0, false, true, true⟩, ⟨6, 1, fun _ => bnC ((0, 0), (0, 0), 0, 0), 0, false, true, true⟩, ⟨6, 1, fun _ => bnC (bn0 (ptT t 0 0) j), 0, false, true, true⟩], [], none, 0⟩, []⟩ ∧ mq = 3 - j,
      ⟨_, _, ⟨0, by omega, rfl, rfl⟩, ⟨⟨.inl rfl, rfl, rfl, rfl⟩, ⟨⟨rfl, rfl, rfl, rfl, fun _ => rfl, fun _ _ => .inl rfl⟩, ⟨⟨rfl, rfl, rfl, rfl, fun _ => rfl, fun _ _ => .inl rfl⟩, ⟨⟨rfl, rfl, rfl, rfl, fun _ => rfl, fun _ _ => .inl rfl⟩, trivial⟩⟩⟩, trivial⟩⟩, ?_⟩
    rintro s0 m0 ⟨j, hj, rfl, hmeas⟩
    have hj4 : j = 0 ∨ j = 1 ∨ j = 2 ∨ j = 3 := by omega
    rcases hj4 with rfl | rfl | rfl | rfl
    · conv => whnf
      conv => whnf
      refine ⟨⟨(by omega), (by omega)⟩, ?_⟩
      conv => whnf
      conv => whnf
      refine ⟨⟨(by omega), (by omega)⟩, ?_⟩
      conv => whnf
      conv => whnf
      refine ⟨inK64 (by omega) (by omega), ?_⟩
      conv => whnf
      conv => whnf
      refine ⟨_, _, ⟨⟨1, by omega, rfl, rfl⟩, by omega⟩, ⟨⟨.inl rfl, rfl, rfl, rfl⟩, ⟨⟨rfl, rfl, rfl, rfl, fun _ => rfl, fun _ _ => .inl rfl⟩, ⟨⟨rfl, rfl, rfl, rfl, fun _ => rfl, fun _ _ => .inl rfl⟩, ⟨⟨rfl, rfl, rfl, rfl, fun _ => rfl, fun _ _ => .inl rfl⟩, trivial⟩⟩⟩, trivial⟩⟩
    · conv => whnf
      conv => whnf
      refine ⟨⟨(by omega), (by omega)⟩, ?_⟩
      conv => whnf
      conv => whnf
      refine ⟨⟨(by omega), (by omega)⟩, ?_⟩
      conv => whnf
      conv => whnf
      refine ⟨inK64 (by omega) (by omega), ?_⟩
      conv => whnf
      conv => whnf
      refine ⟨_, _, ⟨⟨2, by omega, rfl, rfl⟩, by omega⟩, ⟨⟨.inl rfl, rfl, rfl, rfl⟩, ⟨⟨rfl, rfl, rfl, rfl, fun _ => rfl, fun _ _ => .inl rfl⟩, ⟨⟨rfl, rfl, rfl, rfl, fun _ => rfl, fun _ _ => .inl rfl⟩, ⟨⟨rfl, rfl, rfl, rfl, fun _ => rfl, fun _ _ => .inl rfl⟩, trivial⟩⟩⟩, trivial⟩⟩
    · conv => whnf
      conv => whnf
      refine ⟨⟨(by omega), (by omega)⟩, ?_⟩
      conv => whnf
      conv => whnf
      refine ⟨⟨(by omega), (by omega)⟩, ?_⟩
      conv => whnf
      conv => whnf
      refine ⟨inK64 (by omega) (by omega), ?_⟩
      conv => whnf
      conv => whnf
      refine ⟨_, _, ⟨⟨3, by omega, rfl, rfl⟩, by omega⟩, ⟨⟨.inl rfl, rfl, rfl, rfl⟩, ⟨⟨rfl, rfl, rfl, rfl, fun _ => rfl, fun _ _ => .inl rfl⟩, ⟨⟨rfl, rfl, rfl, rfl, fun _ => rfl, fun _ _ => .inl rfl⟩, ⟨⟨rfl, rfl, rfl, rfl, fun _ => rfl, fun _ _ => .inl rfl⟩, trivial⟩⟩⟩, trivial⟩⟩
    · conv => whnf
      conv => whnf
      refine ⟨[], [2, 5, 39, 40, 41], fun st mq => ∃ (i : Nat) (b : B3) (F0 : Nat → List AV), (i ≤ t.length) ∧ (b = bnT t i) ∧ st = ⟨[(2, .optr 1 0 0 0), (5, .optr 2 0 0 0), (39, rowsA t), (40, i64 t.length), (41, i64 i)], ⟨[⟨1, 1, F0, 0, false, true, false⟩, ⟨6, 1, fun _ => bnC ((0, 0), (0, 0), 0, 0), 0, false, true, true⟩, ⟨6, 1, fun _ => bnC b, 0, false, true, true⟩], [], none, 0⟩, []⟩ ∧ mq = t.length - i,
        ⟨_, _, ⟨0, bnd0 (ptT t 0 0), _, by omega, rfl, rfl, rfl⟩, ⟨⟨.inl rfl, rfl, rfl, rfl⟩, ⟨⟨rfl, rfl, rfl, rfl, fun _ => rfl, fun _ _ => .inl rfl⟩, ⟨⟨rfl, rfl, rfl, rfl, fun _ => rfl, fun _ _ => .inl rfl⟩, ⟨⟨rfl, rfl, rfl, rfl, fun _ => rfl, fun _ _ => .inl rfl⟩, trivial⟩⟩⟩, trivial⟩⟩, ?_⟩
      rintro s0 m0 ⟨i, b, F0, hi, hb, rfl, hmeas⟩
      by_cases hlt : i < t.length
      · have hl := ht.2 i
        conv => whnf
        conv => whnf
        conv => whnf
        refine ifB_dec (fun w1 => ?_) (fun w1 => ?_)
        · conv => whnf
          conv => whnf
          conv => whnf
          refine ⟨⟨(by omega), (by omega)⟩, ?_⟩
          conv => whnf
          conv => whnf
          conv => whnf
          refine ⟨[], [2, 5, 39, 40, 41, 46, 47, 48], fun st mq => ∃ (k : Nat) (b : B3) (F0 : Nat → List AV) (F3 : Nat → List AV), (k ≤ (t.getD i r0).ps.length) ∧ (b = bndL (bnT t i) ((t.getD i r0).ps.take k)) ∧ st = ⟨[(2, .optr 1 0 0 0), (5, .optr 2 0 0 0), (39, rowsA t), (40, i64 t.length), (41, i64 i), (46, ptsA (t.getD i r0).ps), (47, i64 (t.getD i r0).ps.length), (48, i64 k)], ⟨[⟨1, 1, F0, 0, false, true, false⟩, ⟨6, 1, fun _ => bnC ((0, 0), (0, 0), 0, 0), 0, false, true, true⟩, ⟨6, 1, fun _ => bnC b, 0, false, true, true⟩, ⟨2, 1, F3, 0, false, true, false⟩], [], none, 0⟩, []⟩ ∧ mq = (t.getD i r0).ps.length - k,
            ⟨_, _, ⟨0, b, _, _, by omega, hb, rfl, rfl⟩, ⟨⟨.inl rfl, rfl, rfl, rfl⟩, ⟨⟨rfl, rfl, rfl, rfl, fun _ => rfl, fun _ _ => .inl rfl⟩, ⟨⟨rfl, rfl, rfl, rfl, fun _ => rfl, fun _ _ => .inl rfl⟩, ⟨⟨rfl, rfl, rfl, rfl, fun _ => rfl, fun _ _ => .inl rfl⟩, ⟨⟨rfl, rfl, rfl, rfl, fun _ => rfl, fun _ _ => .inl rfl⟩, trivial⟩⟩⟩⟩, trivial⟩⟩, ?_⟩
          rintro s0 m0 ⟨k, b, F0, F3, hk, hb2, rfl, hmeas⟩
          by_cases hlt2 : k < (t.getD i r0).ps.length
          · have h101 := S26 ((t.getD i r0).ps.getD k p0)
            conv => whnf
            conv => whnf
            conv => whnf
            conv => whnf
            refine ifB_dec (fun w2 => ?_) (fun w2 => ?_)
            · conv => whnf
              conv => whnf
              conv => whnf
              conv => whnf
              refine ⟨⟨(by omega), (by omega)⟩, ?_⟩
              conv => whnf
              conv => whnf
              conv => whnf
              conv => whnf
              refine .inl ⟨_, _, byX rfl (Sound1.pl (h101) rfl), ?_⟩
              conv => whnf
              conv => whnf
              conv => whnf
              conv => whnf
              refine ⟨[], [2, 5, 39, 40, 41, 46, 47, 48, 53, 54], fun st mq => ∃ (j : Nat) (F0 : Nat → List AV) (F3 : Nat → List AV) (F4 : Nat → List AV), (j ≤ 3) ∧ st = ⟨[(2, .optr 1 0 0 0), (5, .optr 2 0 0 0), (39, rowsA t), (40, i64 t.length), (41, i64 i), (46, ptsA (t.getD i r0).ps), (47, i64 (t.getD i r0).ps.length), (48, i64 k), (53, .agg (ptC ((t.getD i r0).ps.getD k p0))), (54, i64 j)], ⟨[⟨1, 1, F0, 0, false, true, false⟩, ⟨6, 1, fun _ => bnC ((0, 0), (0, 0), 0, 0), 0, false, true, true⟩, ⟨6, 1, fun _ => bnC (bnJ b ((t.getD i r0).ps.getD k p0) j), 0, false, true, true⟩, ⟨2, 1, F3, 0, false, true, false⟩, ⟨3, 1, F4, 0, false, true, false⟩], [], none, 0⟩, []⟩ ∧ mq = 3 - j,
                ⟨_, _, ⟨0, _, _, _, by omega, rfl, rfl⟩, ⟨⟨.inl rfl, rfl, rfl, rfl⟩, ⟨⟨rfl, rfl, rfl, rfl, fun _ => rfl, fun _ _ => .inl rfl⟩, ⟨⟨rfl, rfl, rfl, rfl, fun _ => rfl, fun _ _ => .inl rfl⟩, ⟨⟨rfl, rfl, rfl, rfl, fun _ => rfl, fun _ _ => .inl rfl⟩, ⟨⟨rfl, rfl, rfl, rfl, fun _ => rfl, fun _ _ => .inl rfl⟩, ⟨⟨rfl, rfl, rfl, rfl, fun _ => rfl, fun _ _ => .inl rfl⟩, trivial⟩⟩⟩⟩⟩, trivial⟩⟩, ?_⟩
              rintro s0 m0 ⟨j, F0, F3, F4, hj, rfl, hmeas⟩
              have hj4 : j = 0 ∨ j = 1 ∨ j = 2 ∨ j = 3 := by omega
              generalize hpe : (t.getD i r0).ps.getD k p0 = p at *
              rcases hj4 with rfl | rfl | rfl | rfl
              · conv => whnf
                conv => whnf
                conv => whnf
                conv => whnf
                conv => whnf
                refine ⟨⟨(by omega), (by omega)⟩, ?_⟩
                conv => whnf
                conv => whnf
                conv => whnf
                conv => whnf
                conv => whnf
                refine ⟨[], by kernel_rfl, ?_⟩
                conv => whnf
                conv => whnf
                conv => whnf
                conv => whnf
                conv => whnf
                refine ⟨⟨(by omega), (by omega)⟩, ?_⟩
                conv => whnf
                conv => whnf
                conv => whnf
                conv => whnf
                conv => whnf
                refine ⟨⟨(by omega), (by omega)⟩, ?_⟩
                conv => whnf
                conv => whnf
                conv => whnf
                conv => whnf
                conv => whnf
                refine ⟨⟨(by omega), (by omega)⟩, ?_⟩
                conv => whnf
                conv => whnf
                conv => whnf
                conv => whnf
                conv => whnf
                refine ⟨inK64 (by omega) (by omega), ?_⟩
                conv => whnf
                conv => whnf
                conv => whnf
                conv => whnf
                conv => whnf
                refine ⟨_, _, ⟨⟨1, _, _, _, by omega, rfl, rfl⟩, by omega⟩, ⟨⟨.inl rfl, rfl, rfl, rfl⟩, ⟨⟨rfl, rfl, rfl, rfl, fun _ => rfl, fun _ _ => .inl rfl⟩, ⟨⟨rfl, rfl, rfl, rfl, fun _ => rfl, fun _ _ => .inl rfl⟩, ⟨⟨rfl, rfl, rfl, rfl, fun _ => rfl, fun _ _ => .inl ((by show [i64 (min b.1.1 p.1), i64 (max b.1.2 p.1), i64 b.2.1.1, i64 b.2.1.2, i64 b.2.2.1, i64 b.2.2.2] = _; rw [mn_if, mx_if]; rfl))⟩, ⟨⟨rfl, rfl, rfl, rfl, fun _ => rfl, fun _ _ => .inl rfl⟩, ⟨⟨rfl, rfl, rfl, rfl, fun _ => rfl, fun _ _ => .inl rfl⟩, trivial⟩⟩⟩⟩⟩, trivial⟩⟩
              · conv => whnf
                conv => whnf
                conv => whnf
                conv => whnf
                conv => whnf
                refine ⟨⟨(by omega), (by omega)⟩, ?_⟩
                conv => whnf
                conv => whnf
                conv => whnf
                conv => whnf
                conv => whnf
                refine ⟨[], by kernel_rfl, ?_⟩
                conv => whnf
                conv => whnf
                conv => whnf
                conv => whnf
                conv => whnf
                refine ⟨⟨(by omega), (by omega)⟩, ?_⟩
                conv => whnf
                conv => whnf
                conv => whnf
                conv => whnf
                conv => whnf
                refine ⟨⟨(by omega), (by omega)⟩, ?_⟩
                conv => whnf
                conv => whnf
                conv => whnf
                conv => whnf
                conv => whnf
                refine ⟨⟨(by omega), (by omega)⟩, ?_⟩
                conv => whnf
                conv => whnf
                conv => whnf
                conv => whnf
                conv => whnf
                refine ⟨inK64 (by omega) (by omega), ?_⟩
                conv => whnf
                conv => whnf
                conv => whnf
                conv => whnf
                conv => whnf
                refine ⟨_, _, ⟨⟨2, _, _, _, by omega, rfl, rfl⟩, by omega⟩, ⟨⟨.inl rfl, rfl, rfl, rfl⟩, ⟨⟨rfl, rfl, rfl, rfl, fun _ => rfl, fun _ _ => .inl rfl⟩, ⟨⟨rfl, rfl, rfl, rfl, fun _ => rfl, fun _ _ => .inl rfl⟩, ⟨⟨rfl, rfl, rfl, rfl, fun _ => rfl, fun _ _ => .inl ((by show [i64 (min b.1.1 p.1), i64 (max b.1.2 p.1), i64 (min b.2.1.1 p.2.1), i64 (max b.2.1.2 p.2.1), i64 b.2.2.1, i64 b.2.2.2] = _; rw [mn_if b.2.1.1, mx_if b.2.1.2]; rfl))⟩, ⟨⟨rfl, rfl, rfl, rfl, fun _ => rfl, fun _ _ => .inl rfl⟩, ⟨⟨rfl, rfl, rfl, rfl, fun _ => rfl, fun _ _ => .inl rfl⟩, trivial⟩⟩⟩⟩⟩, trivial⟩⟩
              · conv => whnf
                conv => whnf
                conv => whnf
                conv => whnf
                conv => whnf
                refine ⟨⟨(by omega), (by omega)⟩, ?_⟩
                conv => whnf
                conv => whnf
                conv => whnf
                conv => whnf
                conv => whnf
                refine ⟨[], by kernel_rfl, ?_⟩
                conv => whnf
                conv => whnf
                conv => whnf
                conv => whnf
                conv => whnf
                refine ⟨⟨(by omega), (by omega)⟩, ?_⟩
                conv => whnf
                conv => whnf
                conv => whnf
                conv => whnf
                conv => whnf
                refine ⟨⟨(by omega), (by omega)⟩, ?_⟩
                conv => whnf
                conv => whnf
                conv => whnf
                conv => whnf
                conv => whnf
                refine ⟨⟨(by omega), (by omega)⟩, ?_⟩
                conv => whnf
                conv => whnf
                conv => whnf
                conv => whnf
                conv => whnf
                refine ⟨inK64 (by omega) (by omega), ?_⟩
                conv => whnf
                conv => whnf
                conv => whnf
                conv => whnf
                conv => whnf
                refine ⟨_, _, ⟨⟨3, _, _, _, by omega, rfl, rfl⟩, by omega⟩, ⟨⟨.inl rfl, rfl, rfl, rfl⟩, ⟨⟨rfl, rfl, rfl, rfl, fun _ => rfl, fun _ _ => .inl rfl⟩, ⟨⟨rfl, rfl, rfl, rfl, fun _ => rfl, fun _ _ => .inl rfl⟩, ⟨⟨rfl, rfl, rfl, rfl, fun _ => rfl, fun _ _ => .inl ((by show [i64 (min b.1.1 p.1), i64 (max b.1.2 p.1), i64 (min b.2.1.1 p.2.1), i64 (max b.2.1.2 p.2.1), i64 (min b.2.2.1 p.2.2), i64 (max b.2.2.2 p.2.2)] = _; rw [mn_if b.2.2.1, mx_if b.2.2.2]; rfl))⟩, ⟨⟨rfl, rfl, rfl, rfl, fun _ => rfl, fun _ _ => .inl rfl⟩, ⟨⟨rfl, rfl, rfl, rfl, fun _ => rfl, fun _ _ => .inl rfl⟩, trivial⟩⟩⟩⟩⟩, trivial⟩⟩
              · conv => whnf
                conv => whnf
                conv => whnf
                conv => whnf
                conv => whnf
                refine ⟨inK64 (by omega) (by omega), ?_⟩
                conv => whnf
                conv => whnf
                conv => whnf
                conv => whnf
                conv => whnf
                refine ⟨_, _, ⟨⟨k + 1, bndP b p, _, _, by omega, (by rw [bnL_take _ _ k hlt2, ← hb2, hpe]), rfl, rfl⟩, by omega⟩, ⟨⟨.inl rfl, rfl, rfl, rfl⟩, ⟨⟨rfl, rfl, rfl, rfl, fun _ => rfl, fun _ _ => .inl rfl⟩, ⟨⟨rfl, rfl, rfl, rfl, fun _ => rfl, fun _ _ => .inl rfl⟩, ⟨⟨rfl, rfl, rfl, rfl, fun _ => rfl, fun _ _ => .inl rfl⟩, ⟨⟨rfl, rfl, rfl, rfl, fun _ => rfl, fun _ _ => .inl rfl⟩, trivial⟩⟩⟩⟩, trivial⟩⟩
            · (exfalso; omega)
          · have hk2 : k = (t.getD i r0).ps.length := by omega
            subst hk2
            conv => whnf
            conv => whnf
            conv => whnf
            conv => whnf
            refine ifB_dec (fun w2 => ?_) (fun w2 => ?_)
            · (exfalso; omega)
            · conv => whnf
              conv => whnf
              conv => whnf
              conv => whnf
              refine ⟨inK64 (by omega) (by omega), ?_⟩
              conv => whnf
              conv => whnf
              conv => whnf
              conv => whnf
              refine ⟨_, _, ⟨⟨i + 1, b, _, by omega, (by rw [bnT_succ t i hlt, hb2, List.take_length]), rfl, rfl⟩, by omega⟩, ⟨⟨.inl rfl, rfl, rfl, rfl⟩, ⟨⟨rfl, rfl, rfl, rfl, fun _ => rfl, fun _ _ => .inl rfl⟩, ⟨⟨rfl, rfl, rfl, rfl, fun _ => rfl, fun _ _ => .inl rfl⟩, ⟨⟨rfl, rfl, rfl, rfl, fun _ => rfl, fun _ _ => .inl rfl⟩, trivial⟩⟩⟩, trivial⟩⟩
        · (exfalso; omega)
      · have hi2 : i = t.length := by omega
        subst hi2
        have hbt : b = bndT t := by rw [hb]; unfold bnT; rw [List.take_length]; rfl
        rw [← hbt]
        conv => whnf
        conv => whnf
        conv => whnf
        refine ifB_dec (fun w1 => ?_) (fun w1 => ?_)
        · (exfalso; omega)
        · conv => whnf
          conv => whnf
          conv => whnf
          refine ⟨?_, nofun⟩
          (first | contradiction | exact ave_bn | omega)
  · rw [if_neg hc]
    refine sound (d := 2) tok2 mixed2 Try.func9 (by kernel_rfl) (by kernel_rfl) ?_
    conv => whnf
    refine .inl ⟨_, _, byX rfl (Sound1.pl (h97) rfl), ?_⟩
    conv => whnf
    refine ifB_bne (fun w1 => ?_) (fun w1 => ?_)
    · conv => whnf
      refine ⟨?_, nofun⟩
      (first | contradiction | exact ave_bn (b := ((0, 0), (0, 0), 0, 0)))
    · (exfalso; omega)
end Go.Tr

/- Contracts of chapter 5 (seat of MachineTables): the reference's bounds. Conditions: none. -/
-- seat Ytgbdlkajmmjahaa
namespace Go.Tr
open Go Go.Proofs
set_option maxRecDepth 20000
set_option maxHeartbeats 8000000

set_option maxHeartbeats 8000000 in
theorem S12 (t : List MRow) (hT : TblOk t) (ht : Fit t) : SP 12 [tblA t] (bnA (bndT t)) false := by
  have hn := hT.n
  have hnp := hT.np
  have hl0 : (t.getD 0 r0).ps.length = npT t := hT.len 0 (by omega)
  have hix : 0 ≤ (0 : Int) ∧ (0 : Int) < (((t.getD (Int.toNat 0) r0).ps.length : Nat) : Int) := by
    show 0 ≤ (0 : Int) ∧ (0 : Int) < (((t.getD 0 r0).ps.length : Nat) : Int)
    omega
  refine sound (d := 2) tok2 mixed2 Try.func12 (by kernel_rfl) (by kernel_rfl) ?_
  conv => whnf
  refine ⟨⟨(by omega), (by omega)⟩, ?_⟩
  conv => whnf
  refine ⟨⟨(by omega), (by omega)⟩, ?_⟩
  conv => whnf
  refine ⟨[], [1, 2, 3, 4, 5], fun st mq => ∃ (i : Nat) (q : P3) (b : B3), (i ≤ t.length) ∧ (b = bnT t i) ∧ st = ⟨[(1, .optr 0 0 0 0), (2, .optr 1 0 0 0), (3, .optr 2 0 0 0), (4, .optr 3 0 0 0), (5, i64 i)], ⟨[⟨1, 1, fun _ => [rowsA t], 0, false, true, true⟩, ⟨6, 1, fun _ => bnC ((0, 0), (0, 0), 0, 0), 0, false, true, true⟩, ⟨3, 1, fun _ => ptC q, 0, false, true, true⟩, ⟨6, 1, fun _ => bnC b, 0, false, true, true⟩], [], none, 0⟩, []⟩ ∧ mq = t.length - i,
    ⟨_, _, ⟨0, ptT t 0 0, bnd0 (ptT t 0 0), by omega, rfl, rfl, rfl⟩, ⟨⟨.inl rfl, rfl, rfl, rfl⟩, ⟨⟨rfl, rfl, rfl, rfl, fun _ => rfl, fun _ _ => .inl rfl⟩, ⟨⟨rfl, rfl, rfl, rfl, fun _ => rfl, fun _ _ => .inl rfl⟩, ⟨⟨rfl, rfl, rfl, rfl, fun _ => rfl, fun _ _ => .inl rfl⟩, ⟨⟨rfl, rfl, rfl, rfl, fun _ => rfl, fun _ _ => .inl rfl⟩, trivial⟩⟩⟩⟩, trivial⟩⟩, ?_⟩
  rintro s0 m0 ⟨i, q, b, hi, hb, rfl, hmeas⟩
  by_cases hlt : i < t.length
  · have hl := ht.2 i
    conv => whnf
    conv => whnf
    refine ifB_dec (fun w1 => ?_) (fun w1 => ?_)
    · conv => whnf
      conv => whnf
      refine ⟨[], [1, 2, 3, 4, 5, 6], fun st mq => ∃ (k : Nat) (q : P3) (b : B3), (k ≤ (t.getD i r0).ps.length) ∧ (b = bndL (bnT t i) ((t.getD i r0).ps.take k)) ∧ st = ⟨[(1, .optr 0 0 0 0), (2, .optr 1 0 0 0), (3, .optr 2 0 0 0), (4, .optr 3 0 0 0), (5, i64 i), (6, i64 k)], ⟨[⟨1, 1, fun _ => [rowsA t], 0, false, true, true⟩, ⟨6, 1, fun _ => bnC ((0, 0), (0, 0), 0, 0), 0, false, true, true⟩, ⟨3, 1, fun _ => ptC q, 0, false, true, true⟩, ⟨6, 1, fun _ => bnC b, 0, false, true, true⟩], [], none, 0⟩, []⟩ ∧ mq = (t.getD i r0).ps.length - k,
        ⟨_, _, ⟨0, q, b, by omega, hb, rfl, rfl⟩, ⟨⟨.inl rfl, rfl, rfl, rfl⟩, ⟨⟨rfl, rfl, rfl, rfl, fun _ => rfl, fun _ _ => .inl rfl⟩, ⟨⟨rfl, rfl, rfl, rfl, fun _ => rfl, fun _ _ => .inl rfl⟩, ⟨⟨rfl, rfl, rfl, rfl, fun _ => rfl, fun _ _ => .inl rfl⟩, ⟨⟨rfl, rfl, rfl, rfl, fun _ => rfl, fun _ _ => .inl rfl⟩, trivial⟩⟩⟩⟩, trivial⟩⟩, ?_⟩
      rintro s0 m0 ⟨k, q, b, hk, hb2, rfl, hmeas⟩
      by_cases hlt2 : k < (t.getD i r0).ps.length
      · have hlt3 : (k : Int) < (((t.getD (i : Int).toNat r0).ps.length : Nat) : Int) := by
          show (k : Int) < (((t.getD i r0).ps.length : Nat) : Int)
          omega
        have hix2 : 0 ≤ (k : Int) ∧ (k : Int) < (((t.getD (i : Int).toNat r0).ps.length : Nat) : Int) := ⟨by omega, hlt3⟩
        conv => whnf
        conv => whnf
        conv => whnf
        refine ⟨⟨(by omega), (by omega)⟩, ?_⟩
        conv => whnf
        conv => whnf
        conv => whnf
        refine ifB_dec (fun w2 => ?_) (fun w2 => ?_)
        · conv => whnf
          conv => whnf
          conv => whnf
          refine ⟨⟨(by omega), (by omega)⟩, ?_⟩
          conv => whnf
          conv => whnf
          conv => whnf
          refine ⟨⟨(by omega), (by omega)⟩, ?_⟩
          conv => whnf
          conv => whnf
          conv => whnf
          refine ⟨[], [1, 2, 3, 4, 5, 6, 7, 8], fun st mq => ∃ (j : Nat), (j ≤ 3) ∧ st = ⟨[(1, .optr 0 0 0 0), (2, .optr 1 0 0 0), (3, .optr 2 0 0 0), (4, .optr 3 0 0 0), (5, i64 i), (6, i64 k), (7, .optr 4 0 0 0), (8, i64 j)], ⟨[⟨1, 1, fun _ => [rowsA t], 0, false, true, true⟩, ⟨6, 1, fun _ => bnC ((0, 0), (0, 0), 0, 0), 0, false, true, true⟩, ⟨3, 1, fun _ => ptC ((t.getD i r0).ps.getD k p0), 0, false, true, true⟩, ⟨6, 1, fun _ => bnC (bnJ b ((t.getD i r0).ps.getD k p0) j), 0, false, true, true⟩, ⟨3, 1, fun _ => ptC ((t.getD i r0).ps.getD k p0), 0, false, true, true⟩], [], none, 0⟩, []⟩ ∧ mq = 3 - j,
            ⟨_, _, ⟨0, by omega, rfl, rfl⟩, ⟨⟨.inl rfl, rfl, rfl, rfl⟩, ⟨⟨rfl, rfl, rfl, rfl, fun _ => rfl, fun _ _ => .inl rfl⟩, ⟨⟨rfl, rfl, rfl, rfl, fun _ => rfl, fun _ _ => .inl rfl⟩, ⟨⟨rfl, rfl, rfl, rfl, fun _ => rfl, fun _ _ => .inl rfl⟩, ⟨⟨rfl, rfl, rfl, rfl, fun _ => rfl, fun _ _ => .inl rfl⟩, ⟨⟨rfl, rfl, rfl, rfl, fun _ => rfl, fun _ _ => .inl rfl⟩, trivial⟩⟩⟩⟩⟩, trivial⟩⟩, ?_⟩
          rintro s0 m0 ⟨j, hj, rfl, hmeas⟩
          have hj4 : j = 0 ∨ j = 1 ∨ j = 2 ∨ j = 3 := by omega
          generalize hpe : (t.getD i r0).ps.getD k p0 = p at *
          rcases hj4 with rfl | rfl | rfl | rfl
          · conv => whnf
            conv => whnf
            conv => whnf
            conv => whnf
            refine ⟨[], by kernel_rfl, ?_⟩
            conv => whnf
            conv => whnf
            conv => whnf
            conv => whnf
            refine ⟨⟨(by omega), (by omega)⟩, ?_⟩
            conv => whnf
            conv => whnf
            conv => whnf
            conv => whnf
            refine ⟨⟨(by omega), (by omega)⟩, ?_⟩
            conv => whnf
            conv => whnf
            conv => whnf
            conv => whnf
            refine ⟨⟨(by omega), (by omega)⟩, ?_⟩
            conv => whnf
            conv => whnf
            conv => whnf
            conv => whnf
            refine ⟨⟨(by omega), (by omega)⟩, ?_⟩
            conv => whnf
            conv => whnf
            conv => whnf
            conv => whnf
            refine ⟨⟨(by omega), (by omega)⟩, ?_⟩
            conv => whnf
            conv => whnf
            conv => whnf
            conv => whnf
            refine ⟨inK64 (by omega) (by omega), ?_⟩
            conv => whnf
            conv => whnf
            conv => whnf
            conv => whnf
            refine ⟨_, _, ⟨⟨1, by omega, rfl, rfl⟩, by omega⟩, ⟨⟨.inl rfl, rfl, rfl, rfl⟩, ⟨⟨rfl, rfl, rfl, rfl, fun _ => rfl, fun _ _ => .inl rfl⟩, ⟨⟨rfl, rfl, rfl, rfl, fun _ => rfl, fun _ _ => .inl rfl⟩, ⟨⟨rfl, rfl, rfl, rfl, fun _ => rfl, fun _ _ => .inl rfl⟩, ⟨⟨rfl, rfl, rfl, rfl, fun _ => rfl, fun _ _ => .inl ((by show [i64 (min b.1.1 p.1), i64 (max b.1.2 p.1), i64 b.2.1.1, i64 b.2.1.2, i64 b.2.2.1, i64 b.2.2.2] = _; rw [mn_if, mx_if]; rfl))⟩, ⟨⟨rfl, rfl, rfl, rfl, fun _ => rfl, fun _ _ => .inl rfl⟩, trivial⟩⟩⟩⟩⟩, trivial⟩⟩
          · conv => whnf
            conv => whnf
            conv => whnf
            conv => whnf
            refine ⟨[], by kernel_rfl, ?_⟩
            conv => whnf
            conv => whnf
            conv => whnf
            conv => whnf
            refine ⟨⟨(by omega), (by omega)⟩, ?_⟩
            conv => whnf
            conv => whnf
            conv => whnf
            conv => whnf
            refine ⟨⟨(by omega), (by omega)⟩, ?_⟩
            conv => whnf
            conv => whnf
            conv => whnf
            conv => whnf
            refine ⟨⟨(by omega), (by omega)⟩, ?_⟩
            conv => whnf
            conv => whnf
            conv => whnf
            conv => whnf
            refine ⟨⟨(by omega), (by omega)⟩, ?_⟩
            conv => whnf
            conv => whnf
            conv => whnf
            conv => whnf
            refine ⟨⟨(by omega), (by omega)⟩, ?_⟩
            conv => whnf
            conv => whnf
            conv => whnf
            conv => whnf
            refine ⟨inK64 (by omega) (by omega), ?_⟩
            conv => whnf
            conv => whnf
            conv => whnf
            conv => whnf
            refine ⟨_, _, ⟨⟨2, by omega, rfl, rfl⟩, by omega⟩, ⟨⟨.inl rfl, rfl, rfl, rfl⟩, ⟨⟨rfl, rfl, rfl, rfl, fun _ => rfl, fun _ _ => .inl rfl⟩, ⟨⟨rfl, rfl, rfl, rfl, fun _ => rfl, fun _ _ => .inl rfl⟩, ⟨⟨rfl, rfl, rfl, rfl, fun _ => rfl, fun _ _ => .inl rfl⟩, ⟨⟨rfl, rfl, rfl, rfl, fun _ => rfl, fun _ _ => .inl ((by show [i64 (min b.1.1 p.1), i64 (max b.1.2 p.1), i64 (min b.2.1.1 p.2.1), i64 (max b.2.1.2 p.2.1), i64 b.2.2.1, i64 b.2.2.2] = _; rw [mn_if b.2.1.1, mx_if b.2.1.2]; rfl))⟩, ⟨⟨rfl, rfl, rfl, rfl, fun _ => rfl, fun _ _ => .inl rfl⟩, trivial⟩⟩⟩⟩⟩, trivial⟩⟩
          · conv => whnf
            conv => whnf
            conv => whnf
            conv => whnf
            refine ⟨[], by kernel_rfl, ?_⟩
            conv => whnf
            conv => whnf
            conv => whnf
            conv => whnf
            refine ⟨⟨(by omega), (by omega)⟩, ?_⟩
            conv => whnf
            conv => whnf
            conv => whnf
            conv => whnf
            refine ⟨⟨(by omega), (by omega)⟩, ?_⟩
            conv => whnf
            conv => whnf
            conv => whnf
            conv => whnf
            refine ⟨⟨(by omega), (by omega)⟩, ?_⟩
            conv => whnf
            conv => whnf
            conv => whnf
            conv => whnf
            refine ⟨⟨(by omega), (by omega)⟩, ?_⟩
            conv => whnf
            conv => whnf
            conv => whnf
            conv => whnf
            refine ⟨⟨(by omega), (by omega)⟩, ?_⟩
            conv => whnf
            conv => whnf
            conv => whnf
            conv => whnf
            refine ⟨inK64 (by omega) (by omega), ?_⟩
            conv => whnf
            conv => whnf
            conv => whnf
            conv => whnf
            refine ⟨_, _, ⟨⟨3, by omega, rfl, rfl⟩, by omega⟩, ⟨⟨.inl rfl, rfl, rfl, rfl⟩, ⟨⟨rfl, rfl, rfl, rfl, fun _ => rfl, fun _ _ => .inl rfl⟩, ⟨⟨rfl, rfl, rfl, rfl, fun _ => rfl, fun _ _ => .inl rfl⟩, ⟨⟨rfl, rfl, rfl, rfl, fun _ => rfl, fun _ _ => .inl rfl⟩, ⟨⟨rfl, rfl, rfl, rfl, fun _ => rfl, fun _ _ => .inl ((by show [i64 (min b.1.1 p.1), i64 (max b.1.2 p.1), i64 (min b.2.1.1 p.2.1), i64 (max b.2.1.2 p.2.1), i64 (min b.2.2.1 p.2.2), i64 (max b.2.2.2 p.2.2)] = _; rw [mn_if b.2.2.1, mx_if b.2.2.2]; rfl))⟩, ⟨⟨rfl, rfl, rfl, rfl, fun _ => rfl, fun _ _ => .inl rfl⟩, trivial⟩⟩⟩⟩⟩, trivial⟩⟩
          · conv => whnf
            conv => whnf
            conv => whnf
            conv => whnf
            refine ⟨inK64 (by omega) (by omega), ?_⟩
            conv => whnf
            conv => whnf
            conv => whnf
            conv => whnf
            refine ⟨_, _, ⟨⟨k + 1, p, bndP b p, by omega, (by rw [bnL_take _ _ k hlt2, ← hb2, hpe]), rfl, rfl⟩, by omega⟩, ⟨⟨.inl rfl, rfl, rfl, rfl⟩, ⟨⟨rfl, rfl, rfl, rfl, fun _ => rfl, fun _ _ => .inl rfl⟩, ⟨⟨rfl, rfl, rfl, rfl, fun _ => rfl, fun _ _ => .inl rfl⟩, ⟨⟨rfl, rfl, rfl, rfl, fun _ => rfl, fun _ _ => .inl rfl⟩, ⟨⟨rfl, rfl, rfl, rfl, fun _ => rfl, fun _ _ => .inl rfl⟩, trivial⟩⟩⟩⟩, trivial⟩⟩
        · (exfalso; omega)
      · have hk2 : k = (t.getD i r0).ps.length := by omega
        have hlt3 : ¬ (k : Int) < (((t.getD (i : Int).toNat r0).ps.length : Nat) : Int) := by
          show ¬ (k : Int) < (((t.getD i r0).ps.length : Nat) : Int)
          omega
        conv => whnf
        conv => whnf
        conv => whnf
        refine ⟨⟨(by omega), (by omega)⟩, ?_⟩
        conv => whnf
        conv => whnf
        conv => whnf
        refine ifB_dec (fun w2 => ?_) (fun w2 => ?_)
        · (exfalso; omega)
        · conv => whnf
          conv => whnf
          conv => whnf
          refine ⟨inK64 (by omega) (by omega), ?_⟩
          conv => whnf
          conv => whnf
          conv => whnf
          refine ⟨_, _, ⟨⟨i + 1, q, b, by omega, (by rw [bnT_succ t i hlt, hb2, hk2, List.take_length]), rfl, rfl⟩, by omega⟩, ⟨⟨.inl rfl, rfl, rfl, rfl⟩, ⟨⟨rfl, rfl, rfl, rfl, fun _ => rfl, fun _ _ => .inl rfl⟩, ⟨⟨rfl, rfl, rfl, rfl, fun _ => rfl, fun _ _ => .inl rfl⟩, ⟨⟨rfl, rfl, rfl, rfl, fun _ => rfl, fun _ _ => .inl rfl⟩, ⟨⟨rfl, rfl, rfl, rfl, fun _ => rfl, fun _ _ => .inl rfl⟩, trivial⟩⟩⟩⟩, trivial⟩⟩
    · (exfalso; omega)
  · have hi2 : i = t.length := by omega
    subst hi2
    have hbt : b = bndT t := by rw [hb]; unfold bnT; rw [List.take_length]; rfl
    rw [← hbt]
    conv => whnf
    conv => whnf
    refine ifB_dec (fun w1 => ?_) (fun w1 => ?_)
    · (exfalso; omega)
    · conv => whnf
      conv => whnf
      refine ⟨?_, nofun⟩
      exact ave_aggR (l := bnC b) (by simp [AV.atom])
end Go.Tr

/- The opening of a law: what an argument reads as, as abstract values, with its shape. Conditions: types of numbers, truth values, strings, slices, structs and arrays. -/
namespace Go.Tr
open Go Go.RowKit

def V2 (P : Program) (w : World) (q : Nat → Prop) : List AV → List Value → Prop
  | [], [] => True
  | x :: xs, v :: vs => (VT P w q x v ∧ v.oneCell' = true) ∧ V2 P w q xs vs
  | _, _ => False

def All2 {α β : Type} (p : α → β → Prop) : List α → List β → Prop
  | [], [] => True
  | x :: xs, y :: ys => p x y ∧ All2 p xs ys
  | _, _ => False

/-- The shape of what a type's cells read as. -/
def TyC (P : Program) : Nat → TypeId → List AV → Prop
  | 0, _, _ => True
  | m + 1, t, xs => match P.underlying t with
    | some .bool => ∃ b, xs = [.val (.bool b)]
    | some (.int k) => ∃ n, xs = [.val (.int k n)] ∧ inK k n
    | some .string => ∃ s : ByteArray, xs = [.val (.string s)] ∧ s.size ≤ 9223372036854775807
    | some (.slice e) => ∃ len f, xs = [.rslice (P.cellsOf e) len f] ∧ len ≤ 9223372036854775807 ∧ ∀ i, i < len → TyC P m e (f i)
    | some (.struct fs) => ∃ ps : List (List AV), xs = ps.flatten ∧ All2 (fun f p => TyC P m f.type p) fs.toList ps
    | some (.array n e) => ∃ ps : List (List AV), xs = ps.flatten ∧ ps.length = n ∧ ∀ p ∈ ps, TyC P m e p
    | _ => False

def layF (P : Program) (g : TypeId → Bool) : List Field → Nat → Nat → Bool
  | [], off, tot => Nat.beq off tot
  | f :: r, off, tot => Nat.beq f.offset off && g f.type && layF P g r (off + P.cellsOf f.type) tot

/-- Types that are covered, laid out part behind part. -/
def lay (P : Program) : Nat → TypeId → Bool
  | 0, _ => false
  | m + 1, t => match P.underlying t with
    | some .bool | some (.int _) | some .string => true
    | some (.slice e) => Nat.blt 0 (P.cellsOf e) && lay P m e
    | some (.struct fs) => layF P (lay P m) fs.toList 0 (P.cellsOf t)
    | some (.array n e) => Nat.beq (P.cellsOf t) (n * P.cellsOf e) && lay P m e
    | _ => false

section
variable {H : Type} {enc : TypeId × Value → H} {P : Program} {w : World} {spare : Nat → Bool} {held : Bool} {q : Nat → Prop}

theorem V2_len : ∀ {xs : List AV} {vs : List Value}, V2 P w q xs vs → xs.length = vs.length
  | [], [], _ => rfl
  | x :: xs, v :: vs, h => by simp [V2_len h.2]
  | [], _ :: _, h => h.elim
  | _ :: _, [], h => h.elim

theorem V2_append : ∀ {xs : List AV} {vs : List Value} {ys : List AV} {us : List Value}, V2 P w q xs vs → V2 P w q ys us → V2 P w q (xs ++ ys) (vs ++ us)
  | [], [], _, _, _, h => h
  | _ :: _, _ :: _, _, _, h, h' => ⟨h.1, V2_append h.2 h'⟩
  | [], _ :: _, _, _, h, _ => h.elim
  | _ :: _, [], _, _, h, _ => h.elim

theorem V2_get : ∀ {xs : List AV} {vs : List Value}, V2 P w q xs vs → ∀ (i : Nat) x, xs[i]? = some x → VT P w q x (vs.getD i undef) ∧ (vs.getD i undef).oneCell' = true
  | [], [], _, i, x, hx => by simp at hx
  | y :: ys, v :: vs, h, 0, x, hx => by
    simp at hx
    subst hx
    simpa using h.1
  | y :: ys, v :: vs, h, i + 1, x, hx => by
    have := V2_get h.2 i x (by simpa using hx)
    simpa using this
  | [], _ :: _, h, _, _, _ => h.elim
  | _ :: _, [], h, _, _, _ => h.elim

theorem mapM_cons_some {α β : Type} {f : α → Option β} {a : α} {l : List α} {r : List β} (h : (a :: l).mapM f = some r) : ∃ b bs, f a = some b ∧ l.mapM f = some bs ∧ r = b :: bs := by
  rw [List.mapM_cons] at h
  cases ha : f a with
  | none => simp [ha] at h
  | some b =>
    cases hl : l.mapM f with
    | none => simp [ha, hl] at h
    | some bs => simp [ha, hl] at h; exact ⟨b, bs, rfl, rfl, h.symm⟩

theorem mapM_get {α β : Type} {f : α → Option β} : ∀ {l : List α} {r : List β}, l.mapM f = some r → r.length = l.length ∧ ∀ (i : Nat) x, l[i]? = some x → ∃ y, f x = some y ∧ r[i]? = some y
  | [], r, h => by simp at h; subst h; exact ⟨rfl, fun i x hx => by simp at hx⟩
  | a :: l, r, h => by
    obtain ⟨b, bs, h1, h2, rfl⟩ := mapM_cons_some h
    obtain ⟨g1, g2⟩ := mapM_get h2
    refine ⟨by simp [g1], fun i x hx => ?_⟩
    cases i with
    | zero => simp at hx; subst hx; exact ⟨b, h1, rfl⟩
    | succ i => simpa using g2 i x (by simpa using hx)

theorem cells_some {a : Addr} {n : Nat} {cs : List Value} (h : w.cells? 0 a n = some cs) : cs.length = n ∧ ∀ j, j < n → w.cell? (a.add j) = some (cs.getD j undef) := by
  unfold World.cells? at h
  rw [if_pos (Nat.zero_le _)] at h
  obtain ⟨h1, h2⟩ := mapM_get h
  refine ⟨by simpa using h1, fun j hj => ?_⟩
  obtain ⟨y, h3, h4⟩ := h2 j j (by simp [hj])
  rw [h3, List.getD_eq_getElem?_getD, h4]
  rfl

theorem cell_spot {a : Addr} {v : Value} (h : w.cell? a = some v) : a.spot = none ∧ a.block < w.heap.size := by
  unfold World.cell? at h
  split at h
  · rename_i c t fr hb
    refine ⟨?_, ?_⟩
    · cases hs : a.spot with
      | none => rfl
      | some s => simp [hs] at h
    · exact (Array.getElem?_eq_some_iff.1 hb).1
  · cases h

theorem addr_add2 (blk off u j : Nat) : ((⟨blk, off, none⟩ : Addr).add u).add j = ⟨blk, off + (u + j), none⟩ := by
  unfold Addr.add
  by_cases h1 : u = 0
  · subst h1
    by_cases h2 : j = 0
    · subst h2; rfl
    · simp [h2]
  · by_cases h2 : j = 0
    · subst h2; simp [h1]
    · simp [h1, h2, Nat.add_assoc]

theorem fields_av {g : TypeId → List Value → Option (DataW H × List MemPlace)} {T : TypeId → List AV → Prop} {ly : TypeId → Bool}
    (ih : ∀ t, ly t = true → ∀ cs x, g t cs = some x → ∃ xs, V2 P w q xs cs ∧ T t xs) (cs : List Value) : ∀ (fs : List Field) (off : Nat) (r : List (DataW H × List MemPlace)), layF P ly fs off cs.length = true →
    (fs.mapM fun f => g f.type ((cs.drop f.offset).take (P.cellsOf f.type))) = some r → ∃ ps : List (List AV), V2 P w q ps.flatten (cs.drop off) ∧ All2 (fun f p => T f.type p) fs ps
  | [], off, r, hl, h => by
    have := Nat.eq_of_beq_eq_true hl
    subst this
    exact ⟨[], by simp [V2], trivial⟩
  | f :: fs, off, r, hl, h => by
    simp only [layF, Bool.and_eq_true] at hl
    obtain ⟨⟨h1, h2⟩, h3⟩ := hl
    have e := Nat.eq_of_beq_eq_true h1
    obtain ⟨b, bs, g1, g2, rfl⟩ := mapM_cons_some h
    obtain ⟨p, p1, p2⟩ := ih _ h2 _ _ g1
    obtain ⟨ps, r1, r2⟩ := fields_av ih cs fs _ _ h3 g2
    refine ⟨p :: ps, ?_, p2, r2⟩
    rw [List.flatten_cons]
    have : cs.drop off = (cs.drop f.offset).take (P.cellsOf f.type) ++ cs.drop (off + P.cellsOf f.type) := by
      rw [e, ← List.drop_drop]
      exact (List.take_append_drop _ _).symm
    rw [this]
    exact V2_append p1 r1

theorem items_av {g : List Value → Option (DataW H × List MemPlace)} {T : List AV → Prop} (ih : ∀ cs x, g cs = some x → ∃ xs, V2 P w q xs cs ∧ T xs) (cs : List Value) (s n : Nat) (hn : cs.length = n * s)
    (h : ∀ i, i < n → ∃ x, g ((cs.drop (i * s)).take s) = some x) : ∀ (k i : Nat), i + k = n → ∃ ps : List (List AV), V2 P w q ps.flatten (cs.drop (i * s)) ∧ ps.length = k ∧ ∀ p ∈ ps, T p
  | 0, i, hi => by
    have : i = n := by omega
    subst this
    refine ⟨[], ?_, rfl, nofun⟩
    rw [List.drop_eq_nil_of_le (by omega)]
    exact trivial
  | k + 1, i, hi => by
    obtain ⟨x, hx⟩ := h i (by omega)
    obtain ⟨p, p1, p2⟩ := ih _ _ hx
    obtain ⟨ps, r1, r2, r3⟩ := items_av ih cs s n hn h k (i + 1) (by omega)
    refine ⟨p :: ps, ?_, by simp [r2], fun y hy => ?_⟩
    · rw [List.flatten_cons]
      have : cs.drop (i * s) = (cs.drop (i * s)).take s ++ cs.drop ((i + 1) * s) := by
        rw [Nat.succ_mul, ← List.drop_drop]
        exact (List.take_append_drop _ _).symm
      rw [this]
      exact V2_append p1 r1
    · rcases List.mem_cons.1 hy with rfl | hy
      · exact p2
      · exact r3 y hy

theorem trod_av (hq : ∀ b, b < w.heap.size → q b) : ∀ (m : Nat) (t : TypeId), lay P m t = true → ∀ (fuel : Nat) (cs : List Value) (x : DataW H × List MemPlace), DataW.trod enc P w 0 spare held fuel t cs = some x → ∃ xs, V2 P w q xs cs ∧ TyC P m t xs
  | 0, t, hl, _, _, _, _ => by simp [lay] at hl
  | m + 1, t, hl, 0, cs, x, h => by simp [DataW.trod] at h
  | m + 1, t, hl, fuel + 1, cs, x, h => by
    unfold lay at hl
    unfold TyC
    unfold DataW.trod at h
    cases hu : P.underlying t with
    | none => simp [hu] at hl
    | some d =>
      simp only [hu] at hl h ⊢
      cases d with
      | bool =>
        split at h <;> first | (cases h; done) | (rename_i e; cases e; done) | skip
        cases h
        exact ⟨[.val (.bool _)], ⟨⟨.val _, rfl⟩, trivial⟩, _, rfl⟩
      | int k =>
        split at h <;> first | (cases h; done) | (rename_i e; cases e; done) | skip
        rename_i e
        cases e
        split at h
        · rename_i hk
          obtain ⟨rfl, hw⟩ := hk
          simp only [Lit.wf, Bool.and_eq_true, decide_eq_true_eq] at hw
          exact ⟨[.val (.int _ _)], ⟨⟨.val _, rfl⟩, trivial⟩, _, rfl, hw⟩
        · cases h
      | string =>
        split at h <;> first | (cases h; done) | (rename_i e; cases e; done) | skip
        split at h
        · rename_i hs
          exact ⟨[.val (.string _)], ⟨⟨.val _, rfl⟩, trivial⟩, _, rfl, hs⟩
        · cases h
      | slice e =>
        simp only [Bool.and_eq_true] at hl
        split at h <;> first | (cases h; done) | (rename_i e; cases e; done) | skip
        · exact ⟨[.rslice (P.cellsOf e) 0 fun _ => []], ⟨⟨.rslice0 _ _ _ _, rfl⟩, trivial⟩, _, _, rfl, by omega, fun i hi => absurd hi (Nat.not_lt_zero i)⟩
        · rename_i e0 a len cap e1
          cases e1
          split at h
          case isFalse => cases h
          rename_i hb
          have hes : 0 < P.cellsOf e := Nat.le_of_ble_eq_true hl.1
          cases hM : (List.range len).mapM fun i => (w.cells? 0 (a.add (i * P.cellsOf e)) (P.cellsOf e)).bind (DataW.trod enc P w 0 spare held fuel e) with
          | none => rw [hM] at h; cases h
          | some elems =>
            obtain ⟨_, g2⟩ := mapM_get hM
            have hx : ∀ i, ∃ xs : List AV, i < len → ∃ cs, (cs.length = P.cellsOf e ∧ ∀ j, j < P.cellsOf e → w.cell? ((a.add (i * P.cellsOf e)).add j) = some (cs.getD j undef)) ∧ V2 P w q xs cs ∧ TyC P m e xs := fun i => by
              by_cases hi : i < len
              · obtain ⟨y, y1, _⟩ := g2 i i (by simp [hi])
                cases hc : w.cells? 0 (a.add (i * P.cellsOf e)) (P.cellsOf e) with
                | none => rw [hc] at y1; cases y1
                | some cs1 =>
                  rw [hc] at y1
                  obtain ⟨xs, x1, x2⟩ := trod_av hq m e hl.2 _ _ _ y1
                  exact ⟨xs, fun _ => ⟨cs1, cells_some hc, x1, x2⟩⟩
              · exact ⟨[], fun h => absurd h hi⟩
            have hf := fun i => (Classical.choose_spec (hx i))
            generalize hF : (fun i => Classical.choose (hx i)) = F
            have hf : ∀ i, i < len → ∃ cs, (cs.length = P.cellsOf e ∧ ∀ j, j < P.cellsOf e → w.cell? ((a.add (i * P.cellsOf e)).add j) = some (cs.getD j undef)) ∧ V2 P w q (F i) cs ∧ TyC P m e (F i) := fun i hi => by
              have := Classical.choose_spec (hx i) hi
              rw [← hF]
              exact this
            refine ⟨[.rslice (P.cellsOf e) len F], ⟨⟨?_, rfl⟩, trivial⟩, len, F, rfl, ?_, fun i hi => ?_⟩
            · rcases Nat.eq_zero_or_pos len with rfl | hp
              · exact .rslice0 _ _ _ _
              · obtain ⟨cs0, c1, _, _⟩ := hf 0 hp
                have hc0 := c1.2 0 hes
                have e0 : ((a.add (0 * P.cellsOf e)).add 0) = a := by simp [Addr.add]
                rw [e0] at hc0
                obtain ⟨s1, s2⟩ := cell_spot hc0
                obtain ⟨blk, off, spot⟩ := a
                simp only at s1 s2
                subst s1
                have hG : ∀ i, ∃ cs : List Value, i < len → (cs.length = P.cellsOf e ∧ ∀ j, j < P.cellsOf e → w.cell? (((⟨blk, off, none⟩ : Addr).add (i * P.cellsOf e)).add j) = some (cs.getD j undef)) ∧ V2 P w q (F i) cs := fun i => by
                  by_cases hi : i < len
                  · obtain ⟨cs, c1, c2, _⟩ := hf i hi
                    exact ⟨cs, fun _ => ⟨c1, c2⟩⟩
                  · exact ⟨[], fun h => absurd h hi⟩
                refine .rslice _ _ _ blk off cap (fun i j => (Classical.choose (hG i)).getD j undef) hb.2.1 (hq _ s2) (fun i hi => ?_) (fun i j hi hj => ?_) (fun i j x hi hx => ?_)
                · obtain ⟨c1, c2⟩ := Classical.choose_spec (hG i) hi
                  rw [V2_len c2, c1.1]
                · obtain ⟨c1, c2⟩ := Classical.choose_spec (hG i) hi
                  have hc := c1.2 j hj
                  have ea : ((⟨blk, off, none⟩ : Addr).add (i * P.cellsOf e)).add j = ⟨blk, off + (i * P.cellsOf e + j), none⟩ := by
                    exact addr_add2 blk off _ j
                  rw [ea] at hc
                  refine ⟨hc, ?_⟩
                  have hlt : j < (F i).length := by rw [V2_len c2, c1.1]; exact hj
                  exact (V2_get c2 j _ (List.getElem?_eq_getElem hlt)).2
                · obtain ⟨c1, c2⟩ := Classical.choose_spec (hG i) hi
                  exact (V2_get c2 j x hx).1
            · have := hb.2.2
              unfold maxLen at this
              omega
            · obtain ⟨_, _, _, h3⟩ := hf i hi
              exact h3
      | struct fs =>
        replace h : (if cs.length = P.cellsOf t then (fs.toList.mapM fun f => DataW.trod enc P w 0 spare held fuel f.type ((cs.drop f.offset).take (P.cellsOf f.type))).map fun xs => (.agg (xs.map (·.1)), xs.flatMap (·.2)) else none) = some x := h
        split at h
        case isFalse => cases h
        rename_i hc
        cases hM : fs.toList.mapM fun f => DataW.trod enc P w 0 spare held fuel f.type ((cs.drop f.offset).take (P.cellsOf f.type)) with
        | none => rw [hM] at h; cases h
        | some r =>
          obtain ⟨ps, p1, p2⟩ := fields_av (T := TyC P m) (ly := lay P m) (fun t ht cs x hx => trod_av hq m t ht fuel cs x hx) cs fs.toList 0 r (by rw [hc]; exact hl) hM
          exact ⟨ps.flatten, by simpa using p1, ps, rfl, p2⟩
      | array n e =>
        simp only [Bool.and_eq_true] at hl
        replace h : (if cs.length = P.cellsOf t then ((List.range n).mapM fun i => DataW.trod enc P w 0 spare held fuel e ((cs.drop (i * P.cellsOf e)).take (P.cellsOf e))).map fun xs => (.agg (xs.map (·.1)), xs.flatMap (·.2)) else none) = some x := h
        split at h
        case isFalse => cases h
        rename_i hc
        cases hM : (List.range n).mapM fun i => DataW.trod enc P w 0 spare held fuel e ((cs.drop (i * P.cellsOf e)).take (P.cellsOf e)) with
        | none => rw [hM] at h; cases h
        | some r =>
          obtain ⟨_, g2⟩ := mapM_get hM
          obtain ⟨ps, p1, p2, p3⟩ := items_av (T := TyC P m e) (fun cs x hx => trod_av hq m e hl.2 fuel cs x hx) cs (P.cellsOf e) n (by rw [hc]; exact Nat.eq_of_beq_eq_true hl.1)
            (fun i hi => by obtain ⟨y, y1, _⟩ := g2 i i (by simp [hi]); exact ⟨y, y1⟩) n 0 (by omega)
          exact ⟨ps.flatten, by simpa using p1, ps, rfl, p2, p3⟩
      | _ => simp at hl

/-- The shape of an argument. -/
def TyA (P : Program) (m : Nat) (t : TypeId) (x : AV) : Prop :=
  match P.underlying t with
  | some (.struct _) | some (.array _ _) => ∃ xs, x = .agg xs ∧ TyC P m t xs
  | _ => TyC P m t [x]

/-- An argument of a law, as an abstract value. -/
theorem open_av {r : Reach} {b0 : Nat} {t : TypeId} {v : Value} {d : DataW H} {ps : List MemPlace} {m : Nat} (hl : lay P m t = true) (hq : ∀ b, b < w.heap.size → q b)
    (hv : Value.okWide P w r b0 t v) (hd : DataW.Trod enc P w 0 spare held t v d ps) : ∃ x, VT P w q x v ∧ TyA P m t x := by
  obtain ⟨fuel, hf⟩ := hd
  obtain ⟨xs, h1, h2⟩ := trod_av hq m t hl fuel _ _ hf
  have agg : ∀ cs, v = .agg cs → VT P w q (.agg xs) v := by
    rintro cs rfl
    have hlen := V2_len h1
    refine .agg xs cs (by rw [hlen]; simp [Value.cells]) (fun u hu => ?_) (fun i x hx => ?_)
    · obtain ⟨i, hi, rfl⟩ := List.getElem_of_mem hu
      have hx : i < xs.length := by rw [hlen]; simpa [Value.cells] using hi
      have := (V2_get h1 i _ (List.getElem?_eq_getElem hx)).2
      have hi' : i < cs.size := by simpa using hi
      simpa [Value.cells, List.getD_eq_getElem?_getD, hi'] using this
    · have := (V2_get h1 i x hx).1
      simpa [Value.cells, List.getD_eq_getElem?_getD, Array.getD_eq_getD_getElem?] using this
  have one : ∀ u, v.cells.toList = [u] → v = u → ∃ x, VT P w q x v ∧ TyC P m t [x] := by
    rintro u e rfl
    rw [e] at h1
    match xs, h1, h2 with
    | [x], h1, h2 => exact ⟨x, h1.1.1, h2⟩
  unfold TyA
  unfold Value.okWide at hv
  split
  · rename_i fs hu
    simp only [hu] at hv
    obtain ⟨cs, e, _, _⟩ := hv
    exact ⟨_, agg cs e, xs, rfl, h2⟩
  · rename_i n e hu
    simp only [hu] at hv
    obtain ⟨cs, e, _, _⟩ := hv
    exact ⟨_, agg cs e, xs, rfl, h2⟩
  · rename_i n1 n2
    have hc : Cell.okWide P w r b0 t v := by
      split at hv
      · rename_i hu; exact absurd hu (n1 _)
      · rename_i hu; exact absurd hu (n2 _ _)
      · exact hv
    cases v with
    | agg cs =>
      simp only [Cell.okWide] at hc
      split at hc <;> first | (rename_i e _; cases e; done) | (rename_i e; cases e; done) | (simp [Cell.ok] at hc)
    | tuple cs =>
      simp only [Cell.okWide] at hc
      split at hc <;> first | (rename_i e _; cases e; done) | (rename_i e; cases e; done) | (simp [Cell.ok] at hc)
    | _ => exact one _ rfl rfl
end
end Go.Tr

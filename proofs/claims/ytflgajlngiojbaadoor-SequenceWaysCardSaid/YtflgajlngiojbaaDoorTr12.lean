/- The reference's fastest way. Conditions: none. -/
import Derived.Test.YtflgajlngiojbaaDoorTr11
import Derived.Test.YtflgajlngiojbaaDoorTr06
import Derived.ProofKit
set_option linter.unusedSectionVars false
set_option linter.unnecessarySimpa false
set_option linter.unusedVariables false
set_option linter.unusedSimpArgs false

namespace Go.Tr
open Go Go.Proofs
set_option maxRecDepth 20000
set_option maxHeartbeats 8000000
set_option maxHeartbeats 8000000

def fasT (o : Option Way) : AV := match o with | none => .tuple [ints [], i64 0, vb false] | some w => .tuple [ints w.1, i64 w.2, vb true]
theorem S22 (p : Pln) (hg : Good p) (s0 : S2) (hs0 : OkS p s0) (hw0 : (stp p s0).wait = 0) (to : Int) (h0 : openE p s0 noF = 0) : SP 22 [planA p, stA s0, i64 to] (fasT (bestW p s0 to 11)) false := by
  by_cases hto : s0.1 = to
  · rw [show bestW p s0 to 11 = some ([], 0) from best_zero hg hs0 hw0 hto 10]
    refine sound (d := 2) tok2 mixed2 Tryd.func22 (by kernel_rfl) (by kernel_rfl) ?_
    conv => whnf
    refine ifB_beq (fun w1 => ?_) (fun w1 => ?_)
    · conv => whnf
      refine ⟨?_, nofun⟩
      exact ave_tup3 rfl rfl rfl
    · (exfalso; omega)
  · refine sound (d := 2) tok2 mixed2 Tryd.func22 (by kernel_rfl) (by kernel_rfl) ?_
    conv => whnf
    refine ifB_beq (fun w1 => ?_) (fun w1 => ?_)
    · (exfalso; omega)
    · conv => whnf
      refine ⟨[.freeze 9, .fzb 3], [2, 3, 9, 10, 11, 12], fun st mq => ∃ (k : Nat) (N : List Ent) (B : Option Way) (x : Int) (y : Int) (G2 : Nat → List AV) (F1 : Nat → List AV), (k ≤ 10) ∧ (NOk p s0 to k N) ∧ (LOk p k N) ∧ ((N.map (·.1)).Nodup) ∧ (B = bestW p s0 to (k + 1)) ∧ st = ⟨[(2, i64 to), (3, .optr 0 0 0 0), (9, .rslice 4 N.length (fun i => rowE (N.getD i ent0))), (10, .optr 3 0 0 0), (11, vb B.isSome), (12, i64 k)], ⟨[⟨3, 1, fun _ => planC p, 0, false, true, true⟩, ⟨2, 1, F1, 0, false, true, false⟩, ⟨4, 1, G2, 0, true, true, false⟩, ⟨4, 1, fun _ => [ints (optA B).1, i64 x, i64 y, i64 (optA B).2], 0, false, true, true⟩], [], none, 0⟩, []⟩ ∧ mq = 10 - k,
        ⟨_, _, ⟨0, [(s0, ([], 0))], none, 0, 0, _, _, by omega, NOk.start hto, (fun e he => by rw [List.mem_singleton.1 he]; exact ⟨hs0, hw0, rfl, Int.le_refl 0, Int.le_refl 0⟩), (by simp), (best_one hto).symm, rfl, rfl⟩, ⟨⟨.inr ⟨rfl, .inl rfl, ⟨rfl, .inl rfl, ⟨rfl, .inr (⟨rfl, rfl, fun i hi => by cases Nat.lt_one_iff.1 hi; exact .inr (row_zero4 s0.1 s0.2)⟩), ⟨rfl, .inl rfl, ⟨rfl, .inl rfl, ⟨rfl, .inl rfl, trivial⟩⟩⟩⟩⟩⟩, rfl, rfl, rfl⟩, ⟨⟨rfl, rfl, rfl, rfl, fun _ => rfl, fun _ _ => .inl rfl⟩, ⟨⟨rfl, rfl, rfl, rfl, fun _ => rfl, fun _ _ => .inl rfl⟩, ⟨⟨rfl, rfl, rfl, rfl, fun _ => rfl, fun _ _ => .inl rfl⟩, ⟨⟨rfl, rfl, rfl, rfl, fun _ => rfl, fun _ _ => .inr (row_zero4 0 0)⟩, trivial⟩⟩⟩⟩, trivial⟩⟩, ?_⟩
      rintro s0 m0 ⟨k, N, B, x, y, G2, F1, hk, hN, hL, hn, hB, rfl, hmeas⟩
      have hbl : ∀ b, B = some b → b.1.length < k + 1 := fun b hb => by
        obtain ⟨_, _, _, h⟩ := best_leads hg hs0 hw0 (hB.symm.trans hb)
        exact h
      have hNl : N.length ≤ 320 := by
        have := states_le hg _ hn (fun x hx => by obtain ⟨e, he, h⟩ := List.mem_map.1 hx; rw [← h]; exact (hL e he).1)
        have hA := allN_le hg
        rw [List.length_map] at this; omega
      conv => whnf
      conv => whnf
      refine ifB_dec (fun w2 => ?_) (fun w2 => ?_)
      · conv => whnf
        conv => whnf
        refine ⟨[.slot 13 4, .fzb 3], [2, 3, 9, 10, 11, 12, 13, 14], fun st mq => ∃ (i : Nat) (D : List Ent) (M : List Ent) (m : Nat) (C : Option Way) (x2 : Int) (y2 : Int) (F1 : Nat → List AV), (i ≤ N.length) ∧ (D = ext p (N.take i)) ∧ (Rnd to B D M C) ∧ (M.length = m) ∧ st = ⟨[(2, i64 to), (3, .optr 0 0 0 0), (9, .rslice 4 N.length (fun i => rowE (N.getD i ent0))), (10, .optr 3 0 0 0), (11, vb C.isSome), (12, i64 k), (13, .oslice 4 0 0 m none), (14, i64 i)], ⟨[⟨3, 1, fun _ => planC p, 0, false, true, true⟩, ⟨2, 1, F1, 0, false, true, false⟩, ⟨4, 1, G2, 0, true, true, false⟩, ⟨4, 1, fun _ => [ints (optA C).1, i64 x2, i64 y2, i64 (optA C).2], 0, false, true, true⟩, ⟨4, m, fun i => rowE (M.getD i ent0), 0, false, true, false⟩], [], none, 0⟩, []⟩ ∧ mq = N.length - i,
          ⟨_, _, ⟨0, [], [], 0, B, x, y, _, by omega, rfl, Rnd.start, rfl, rfl, rfl⟩, ⟨⟨.inl rfl, rfl, rfl, rfl⟩, ⟨⟨rfl, rfl, rfl, rfl, fun _ => rfl, fun _ _ => .inl rfl⟩, ⟨⟨rfl, rfl, rfl, rfl, fun _ => rfl, fun _ _ => .inl rfl⟩, ⟨⟨rfl, rfl, rfl, rfl, fun _ => rfl, fun _ _ => .inl rfl⟩, ⟨⟨rfl, rfl, rfl, rfl, fun _ => rfl, fun _ _ => .inl rfl⟩, ⟨⟨rfl, rfl, rfl, rfl, fun _ => rfl, fun i h => .inl (absurd h (Nat.not_lt_zero i))⟩, trivial⟩⟩⟩⟩⟩, trivial⟩⟩, ?_⟩
        rintro s0 m0 ⟨i, D, M, m, C, x2, y2, F1, hi, hD, hR, hm, rfl, hmeas⟩
        by_cases hlt : i < N.length
        · have hmem : N.getD i ent0 ∈ N := by simp [List.getD_eq_getElem?_getD, hlt]
          have hok := hL _ hmem
          have hat := hok.1.at
          have htk : N.take (i + 1) = N.take i ++ [N.getD i ent0] := by rw [List.take_add_one]; simp [List.getD_eq_getElem?_getD, hlt]
          conv => whnf
          conv => whnf
          conv => whnf
          refine ifB_dec (fun w3 => ?_) (fun w3 => ?_)
          · conv => whnf
            conv => whnf
            conv => whnf
            refine ⟨[], by kernel_rfl, ?_⟩
            conv => whnf
            conv => whnf
            conv => whnf
            refine ⟨⟨(by omega), (by omega)⟩, ?_⟩
            conv => whnf
            conv => whnf
            conv => whnf
            refine ⟨by assumption, ?_⟩
            conv => whnf
            conv => whnf
            conv => whnf
            refine ⟨[.fzb 3], [2, 3, 9, 10, 11, 12, 13, 14, 15, 16], fun st mq => ∃ (j : Nat) (D2 : List Ent) (M2 : List Ent) (m2 : Nat) (C2 : Option Way) (x3 : Int) (y3 : Int) (F1 : Nat → List AV), (j ≤ (stp p (N.getD i ent0).1).exits.length) ∧ (D2 = D ++ ((stp p (N.getD i ent0).1).exits.take j).filterMap (stepWay p (N.getD i ent0))) ∧ (Rnd to B D2 M2 C2) ∧ (M2.length = m2) ∧ st = ⟨[(2, i64 to), (3, .optr 0 0 0 0), (9, .rslice 4 N.length (fun i => rowE (N.getD i ent0))), (10, .optr 3 0 0 0), (11, vb C2.isSome), (12, i64 k), (13, .oslice 4 0 0 m2 none), (14, i64 i), (15, ints (stp p (N.getD i ent0).1).exits), (16, i64 j)], ⟨[⟨3, 1, fun _ => planC p, 0, false, true, true⟩, ⟨2, 1, F1, 0, false, true, false⟩, ⟨4, 1, G2, 0, true, true, false⟩, ⟨4, 1, fun _ => [ints (optA C2).1, i64 x3, i64 y3, i64 (optA C2).2], 0, false, true, true⟩, ⟨4, m2, fun i => rowE (M2.getD i ent0), 0, false, true, false⟩], [], none, 0⟩, []⟩ ∧ mq = (stp p (N.getD i ent0).1).exits.length - j,
              ⟨_, _, ⟨0, D, M, m, C, x2, y2, _, by omega, by simp, hR, hm, rfl, rfl⟩, ⟨⟨.inl rfl, rfl, rfl, rfl⟩, ⟨⟨rfl, rfl, rfl, rfl, fun _ => rfl, fun _ _ => .inl rfl⟩, ⟨⟨rfl, rfl, rfl, rfl, fun _ => rfl, fun _ _ => .inl rfl⟩, ⟨⟨rfl, rfl, rfl, rfl, fun _ => rfl, fun _ _ => .inl rfl⟩, ⟨⟨rfl, rfl, rfl, rfl, fun _ => rfl, fun _ _ => .inl rfl⟩, ⟨⟨rfl, rfl, rfl, rfl, fun _ => rfl, fun _ _ => .inl rfl⟩, trivial⟩⟩⟩⟩⟩, trivial⟩⟩, ?_⟩
            rintro s0 m0 ⟨j, D2, M2, m2, C2, x3, y3, F1, hj, hD2, hR2, hm2, rfl, hmeas⟩
            have hwt : (stp p (N.getD i ent0).1).wait = 0 := hok.2.1
            by_cases hjt : j < (stp p (N.getD i ent0).1).exits.length
            · have hxl : (stp p (N.getD i ent0).1).exits.length ≤ 12 := hg.few.exits _ hok.1.k
              have hcm := getD_mem hjt 0
              have hc := exit_ok hg hok.1 hwt (hasI_mem.2 hcm)
              have htk2 := take_snoc hjt 0
              have hDk : LOk p (k + 1) D2 := fun x hx => ext_ok hg hL x (cand_mem hlt hD hD2 x hx)
              have hMl := rnd_len hg hR2 hDk
              have hDl : ∀ d ∈ D2, d.2.1.length = k + 1 := fun d hd => (hDk d hd).2.2.1
              have hCl : ∀ c, C2 = some c → c.1.length ≤ k + 1 := fun c h => hR2.len hbl hDl h
              have h52 := fun {f : Nat → List AV} => @S52_1 p hg (N.getD i ent0).1 ((stp p (N.getD i ent0).1).exits.getD j 0) (open_of h0 hok.1) hok.1 hwt (hasI_mem.2 hcm) f
              unfold oneR at h52
              cases hC : commandF p noF (N.getD i ent0).1 ((stp p (N.getD i ent0).1).exits.getD j 0) with
              | none =>
                rw [hC] at h52
                have hsw : stepWay p (N.getD i ent0) ((stp p (N.getD i ent0).1).exits.getD j 0) = none := by unfold stepWay; rw [hC]
                conv => whnf
                conv => whnf
                conv => whnf
                conv => whnf
                refine ifB_dec (fun w4 => ?_) (fun w4 => ?_)
                · conv => whnf
                  conv => whnf
                  conv => whnf
                  conv => whnf
                  refine ⟨[], by kernel_rfl, ?_⟩
                  conv => whnf
                  conv => whnf
                  conv => whnf
                  conv => whnf
                  refine ⟨⟨(by omega), (by omega)⟩, ?_⟩
                  conv => whnf
                  conv => whnf
                  conv => whnf
                  conv => whnf
                  refine .inl ⟨_, _, byX rfl (Sound1.pl (S20) rfl), ?_⟩
                  conv => whnf
                  conv => whnf
                  conv => whnf
                  conv => whnf
                  refine ⟨⟨(by omega), (by omega)⟩, ?_⟩
                  conv => whnf
                  conv => whnf
                  conv => whnf
                  conv => whnf
                  refine .inl ⟨_, _, byX rfl (h52 rfl), ?_⟩
                  conv => whnf
                  conv => whnf
                  conv => whnf
                  conv => whnf
                  refine ⟨inK64 (by omega) (by omega), ?_⟩
                  conv => whnf
                  conv => whnf
                  conv => whnf
                  conv => whnf
                  refine ⟨_, _, ⟨⟨j + 1, D2, M2, m2, C2, x3, y3, _, by omega, (by rw [htk2, List.filterMap_append, hD2]; simp only [List.filterMap_cons, List.filterMap_nil, hsw, List.append_nil]), hR2, hm2, rfl, rfl⟩, by omega⟩, ⟨⟨.inl rfl, rfl, rfl, rfl⟩, ⟨⟨rfl, rfl, rfl, rfl, fun _ => rfl, fun _ _ => .inl rfl⟩, ⟨⟨rfl, rfl, rfl, rfl, fun _ => rfl, fun _ _ => .inl rfl⟩, ⟨⟨rfl, rfl, rfl, rfl, fun _ => rfl, fun _ _ => .inl rfl⟩, ⟨⟨rfl, rfl, rfl, rfl, fun _ => rfl, fun _ _ => .inl rfl⟩, ⟨⟨rfl, rfl, rfl, rfl, fun _ => rfl, fun _ _ => .inl rfl⟩, trivial⟩⟩⟩⟩⟩, trivial⟩⟩
                · (exfalso; omega)
              | some r =>
                rw [hC] at h52
                have h52 : ∀ {f : Nat → List AV}, f 0 = [i64 ((stp p (N.getD i ent0).1).exits.getD j 0)] → SP 52 [planA p, stA (N.getD i ent0).1, .agg [i64 (-1), vb false, .rslice 1 1 f]] (.tuple [sts r.1, i64 r.2, i64 0]) false := fun {f} h => h52 h
                have hck := command_ok hg hok.1 (.inr hc) hC
                have hl0 : 0 < r.1.length := List.length_pos_iff.2 hck.ne
                have ht1 := hck.t1
                have ht2 := hck.t2
                have hlen := hck.len
                have hX : r.1.getD ((r.1.length : Int) - 1).toNat (0, 0) = lastOf r.1 := by
                  rw [show ((r.1.length : Int) - 1).toNat = r.1.length - 1 by omega]; exact lastOf_get hck.ne
                have hsw : stepWay p (N.getD i ent0) ((stp p (N.getD i ent0).1).exits.getD j 0) = some (newE (N.getD i ent0) ((stp p (N.getD i ent0).1).exits.getD j 0) r) := by unfold stepWay; rw [hC]; show _ = some (_, _); rw [hX]
                have hD3 : D2 ++ [newE (N.getD i ent0) ((stp p (N.getD i ent0).1).exits.getD j 0) r] = D ++ ((stp p (N.getD i ent0).1).exits.take (j + 1)).filterMap (stepWay p (N.getD i ent0)) := by
                  rw [htk2, List.filterMap_append, hD2, List.append_assoc]; simp only [List.filterMap_cons, List.filterMap_nil, hsw]
                have hel := hok.2.2.1
                have het := hok.2.2.2
                have het2 : 0 ≤ (N.getD (i : Int).toNat ent0).2.2 ∧ (N.getD (i : Int).toNat ent0).2.2 ≤ 4000000 * (k : Int) := het
                have hnl : (newE (N.getD i ent0) ((stp p (N.getD i ent0).1).exits.getD j 0) r).2.1.length = k + 1 := by show ((N.getD i ent0).2.1 ++ [_]).length = _; rw [List.length_append, hel]; rfl
                have hRat := fun h => hR2.at (x := newE (N.getD i ent0) ((stp p (N.getD i ent0).1).exits.getD j 0) r) h hbl hDl hnl
                have hRoff := fun h => hR2.off (x := newE (N.getD i ent0) ((stp p (N.getD i ent0).1).exits.getD j 0) r) h
                have h36 := S36 (N.getD i ent0).2.1 (by omega)
                have hCm : (optA C2).1.length ≤ 1000000 := by
                  cases C2 with
                  | none => exact Nat.zero_le _
                  | some c => have := hCl c rfl; show c.1.length ≤ _; omega
                have hwl : ((N.getD i ent0).2.1 ++ [(stp p (N.getD i ent0).1).exits.getD j 0]).length ≤ 1000000 := by rw [List.length_append, hel]; show k + 1 ≤ _; omega
                have h74 := fun {n : Nat} {f : Nat → List AV} => @S74n n f ((N.getD i ent0).2.1 ++ [(stp p (N.getD i ent0).1).exits.getD j 0]) (optA C2).1 hwl hCm
                conv => whnf
                conv => whnf
                conv => whnf
                conv => whnf
                refine ifB_dec (fun w4 => ?_) (fun w4 => ?_)
                · conv => whnf
                  conv => whnf
                  conv => whnf
                  conv => whnf
                  refine ⟨[], by kernel_rfl, ?_⟩
                  conv => whnf
                  conv => whnf
                  conv => whnf
                  conv => whnf
                  refine ⟨⟨(by omega), (by omega)⟩, ?_⟩
                  conv => whnf
                  conv => whnf
                  conv => whnf
                  conv => whnf
                  refine .inl ⟨_, _, byX rfl (Sound1.pl (S20) rfl), ?_⟩
                  conv => whnf
                  conv => whnf
                  conv => whnf
                  conv => whnf
                  refine ⟨⟨(by omega), (by omega)⟩, ?_⟩
                  conv => whnf
                  conv => whnf
                  conv => whnf
                  conv => whnf
                  refine .inl ⟨_, _, byX rfl (h52 rfl), ?_⟩
                  conv => whnf
                  conv => whnf
                  conv => whnf
                  conv => whnf
                  refine ⟨[(0, 1000000), (1, 1000000), (2, 1000000), (3, 1000000), (4, 1000000), (5, 1000000), (6, 1000000), (7, 1000000), (8, 1000000), (9, 1000000), (10, 1000000), (12, 1000000), (13, 1000000), (14, 1000000), (15, 1000000), (16, 1000000), (17, 1000000), (18, 1000000), (19, 1000000), (20, 1000000), (21, 1000000), (22, 1000000), (23, 1000000), (24, 1000000), (26, 1000000), (11, 1000000), (25, 1000000), (27, 1000000), (13, 25), (15, 25), (16, 25), (19, 25), (20, 25), (21, 25), (24, 25)], by kernel_rfl, ?_⟩
                  conv => whnf
                  conv => whnf
                  conv => whnf
                  conv => whnf
                  refine ⟨⟨(by omega), (by omega)⟩, ?_⟩
                  conv => whnf
                  conv => whnf
                  conv => whnf
                  conv => whnf
                  refine .inl ⟨_, _, byX rfl (h36), ?_⟩
                  conv => whnf
                  conv => whnf
                  conv => whnf
                  conv => whnf
                  refine ⟨⟨(by omega), (by omega)⟩, ?_⟩
                  conv => whnf
                  conv => whnf
                  conv => whnf
                  conv => whnf
                  refine ⟨inK64 (by omega) (by omega), ?_⟩
                  conv => whnf
                  conv => whnf
                  conv => whnf
                  conv => whnf
                  refine ⟨⟨(by omega), (by omega)⟩, ?_⟩
                  conv => whnf
                  conv => whnf
                  conv => whnf
                  conv => whnf
                  refine ⟨⟨(by omega), (by omega)⟩, ?_⟩
                  conv => whnf
                  conv => whnf
                  conv => whnf
                  conv => whnf
                  refine ⟨inK64 (by omega) (by omega), ?_⟩
                  conv => whnf
                  conv => whnf
                  conv => whnf
                  conv => whnf
                  refine .inl ?_
                  conv => whnf
                  conv => whnf
                  conv => whnf
                  conv => whnf
                  refine ⟨(by show _ * (8 + 1) ≤ _; omega), ?_⟩
                  conv => whnf
                  conv => whnf
                  conv => whnf
                  conv => whnf
                  refine ifB_beq (fun w5 => ?_) (fun w5 => ?_)
                  · conv => whnf
                    conv => whnf
                    conv => whnf
                    conv => whnf
                    refine ifB_not ?_
                    conv => whnf
                    conv => whnf
                    conv => whnf
                    conv => whnf
                    refine ifB_intro (fun w6 => ?_) (fun w6 => ?_)
                    · conv => whnf
                      conv => whnf
                      conv => whnf
                      conv => whnf
                      refine ifB_dec (fun w7 => ?_) (fun w7 => ?_)
                      · conv => whnf
                        conv => whnf
                        conv => whnf
                        conv => whnf
                        refine ⟨inK64 (by omega) (by omega), ?_⟩
                        have hR3 := hRat w5
                        rw [updB_yes (.inr (.inl w7))] at hR3
                        conv => whnf
                        conv => whnf
                        conv => whnf
                        conv => whnf
                        refine ⟨_, _, ⟨⟨j + 1, D2 ++ [(newE (N.getD i ent0) ((stp p (N.getD i ent0).1).exits.getD j 0) r)], M2, m2, some (newE (N.getD i ent0) ((stp p (N.getD i ent0).1).exits.getD j 0) r).2, (newE (N.getD i ent0) ((stp p (N.getD i ent0).1).exits.getD j 0) r).1.1, (newE (N.getD i ent0) ((stp p (N.getD i ent0).1).exits.getD j 0) r).1.2, _, by omega, hD3, hR3, hm2, rfl, rfl⟩, by omega⟩, ⟨⟨.inl rfl, rfl, rfl, rfl⟩, ⟨⟨rfl, rfl, rfl, rfl, fun _ => rfl, fun _ _ => .inl rfl⟩, ⟨⟨rfl, rfl, rfl, rfl, fun _ => rfl, fun _ _ => .inl rfl⟩, ⟨⟨rfl, rfl, rfl, rfl, fun _ => rfl, fun _ _ => .inl rfl⟩, ⟨⟨rfl, rfl, rfl, rfl, fun _ => rfl, fun _ _ => .inr (row4 (by rw [List.length_append]; rfl) (fun i hi => app_row _ _ i hi))⟩, ⟨⟨rfl, rfl, rfl, rfl, fun _ => rfl, fun _ _ => .inl rfl⟩, trivial⟩⟩⟩⟩⟩, trivial⟩⟩
                      · conv => whnf
                        conv => whnf
                        conv => whnf
                        conv => whnf
                        refine ifB_beq (fun w8 => ?_) (fun w8 => ?_)
                        · conv => whnf
                          conv => whnf
                          conv => whnf
                          conv => whnf
                          refine ifB_beq (fun w9 => ?_) (fun w9 => ?_)
                          · conv => whnf
                            conv => whnf
                            conv => whnf
                            conv => whnf
                            refine .inl ⟨_, _, byX rfl (Sound1.pl (h74 ?_ ?_) rfl), ?_⟩
                            · rw [List.length_append]; rfl
                            · exact fun i hi => app_row _ _ i hi
                            · conv => whnf
                              conv => whnf
                              conv => whnf
                              conv => whnf
                              refine ifB_dec (fun w10 => ?_) (fun w10 => ?_)
                              · conv => whnf
                                conv => whnf
                                conv => whnf
                                conv => whnf
                                refine ⟨inK64 (by omega) (by omega), ?_⟩
                                have hR3 := hRat w5
                                rw [updB_yes (.inr (.inr ⟨w8, by rw [hnl]; rw [hel] at w9; omega, w10⟩))] at hR3
                                conv => whnf
                                conv => whnf
                                conv => whnf
                                conv => whnf
                                refine ⟨_, _, ⟨⟨j + 1, D2 ++ [(newE (N.getD i ent0) ((stp p (N.getD i ent0).1).exits.getD j 0) r)], M2, m2, some (newE (N.getD i ent0) ((stp p (N.getD i ent0).1).exits.getD j 0) r).2, (newE (N.getD i ent0) ((stp p (N.getD i ent0).1).exits.getD j 0) r).1.1, (newE (N.getD i ent0) ((stp p (N.getD i ent0).1).exits.getD j 0) r).1.2, _, by omega, hD3, hR3, hm2, rfl, rfl⟩, by omega⟩, ⟨⟨.inl rfl, rfl, rfl, rfl⟩, ⟨⟨rfl, rfl, rfl, rfl, fun _ => rfl, fun _ _ => .inl rfl⟩, ⟨⟨rfl, rfl, rfl, rfl, fun _ => rfl, fun _ _ => .inl rfl⟩, ⟨⟨rfl, rfl, rfl, rfl, fun _ => rfl, fun _ _ => .inl rfl⟩, ⟨⟨rfl, rfl, rfl, rfl, fun _ => rfl, fun _ _ => .inr (row4 (by rw [List.length_append]; rfl) (fun i hi => app_row _ _ i hi))⟩, ⟨⟨rfl, rfl, rfl, rfl, fun _ => rfl, fun _ _ => .inl rfl⟩, trivial⟩⟩⟩⟩⟩, trivial⟩⟩
                              · conv => whnf
                                conv => whnf
                                conv => whnf
                                conv => whnf
                                refine ⟨inK64 (by omega) (by omega), ?_⟩
                                have hR3 := hRat w5
                                rw [updB_no w6 (fun h => h.elim w7 fun h => w10 h.2.2)] at hR3
                                conv => whnf
                                conv => whnf
                                conv => whnf
                                conv => whnf
                                refine ⟨_, _, ⟨⟨j + 1, D2 ++ [(newE (N.getD i ent0) ((stp p (N.getD i ent0).1).exits.getD j 0) r)], M2, m2, C2, x3, y3, _, by omega, hD3, hR3, hm2, rfl, rfl⟩, by omega⟩, ⟨⟨.inl rfl, rfl, rfl, rfl⟩, ⟨⟨rfl, rfl, rfl, rfl, fun _ => rfl, fun _ _ => .inl rfl⟩, ⟨⟨rfl, rfl, rfl, rfl, fun _ => rfl, fun _ _ => .inl rfl⟩, ⟨⟨rfl, rfl, rfl, rfl, fun _ => rfl, fun _ _ => .inl rfl⟩, ⟨⟨rfl, rfl, rfl, rfl, fun _ => rfl, fun _ _ => .inl rfl⟩, ⟨⟨rfl, rfl, rfl, rfl, fun _ => rfl, fun _ _ => .inl rfl⟩, trivial⟩⟩⟩⟩⟩, trivial⟩⟩
                          · conv => whnf
                            conv => whnf
                            conv => whnf
                            conv => whnf
                            refine ⟨inK64 (by omega) (by omega), ?_⟩
                            have hR3 := hRat w5
                            rw [updB_no w6 (fun h => h.elim w7 fun h => w9 (by have := h.2.1; rw [hnl] at this; rw [hel]; omega))] at hR3
                            conv => whnf
                            conv => whnf
                            conv => whnf
                            conv => whnf
                            refine ⟨_, _, ⟨⟨j + 1, D2 ++ [(newE (N.getD i ent0) ((stp p (N.getD i ent0).1).exits.getD j 0) r)], M2, m2, C2, x3, y3, _, by omega, hD3, hR3, hm2, rfl, rfl⟩, by omega⟩, ⟨⟨.inl rfl, rfl, rfl, rfl⟩, ⟨⟨rfl, rfl, rfl, rfl, fun _ => rfl, fun _ _ => .inl rfl⟩, ⟨⟨rfl, rfl, rfl, rfl, fun _ => rfl, fun _ _ => .inl rfl⟩, ⟨⟨rfl, rfl, rfl, rfl, fun _ => rfl, fun _ _ => .inl rfl⟩, ⟨⟨rfl, rfl, rfl, rfl, fun _ => rfl, fun _ _ => .inl rfl⟩, ⟨⟨rfl, rfl, rfl, rfl, fun _ => rfl, fun _ _ => .inl rfl⟩, trivial⟩⟩⟩⟩⟩, trivial⟩⟩
                        · conv => whnf
                          conv => whnf
                          conv => whnf
                          conv => whnf
                          refine ⟨inK64 (by omega) (by omega), ?_⟩
                          have hR3 := hRat w5
                          rw [updB_no w6 (fun h => h.elim w7 fun h => w8 h.1)] at hR3
                          conv => whnf
                          conv => whnf
                          conv => whnf
                          conv => whnf
                          refine ⟨_, _, ⟨⟨j + 1, D2 ++ [(newE (N.getD i ent0) ((stp p (N.getD i ent0).1).exits.getD j 0) r)], M2, m2, C2, x3, y3, _, by omega, hD3, hR3, hm2, rfl, rfl⟩, by omega⟩, ⟨⟨.inl rfl, rfl, rfl, rfl⟩, ⟨⟨rfl, rfl, rfl, rfl, fun _ => rfl, fun _ _ => .inl rfl⟩, ⟨⟨rfl, rfl, rfl, rfl, fun _ => rfl, fun _ _ => .inl rfl⟩, ⟨⟨rfl, rfl, rfl, rfl, fun _ => rfl, fun _ _ => .inl rfl⟩, ⟨⟨rfl, rfl, rfl, rfl, fun _ => rfl, fun _ _ => .inl rfl⟩, ⟨⟨rfl, rfl, rfl, rfl, fun _ => rfl, fun _ _ => .inl rfl⟩, trivial⟩⟩⟩⟩⟩, trivial⟩⟩
                    · conv => whnf
                      conv => whnf
                      conv => whnf
                      conv => whnf
                      refine ⟨inK64 (by omega) (by omega), ?_⟩
                      have hR3 := hRat w5
                      rw [updB_yes (.inl (Option.isNone_iff_eq_none.1 (by cases C2 with | none => rfl | some c => exact absurd w6 (by simp))))] at hR3
                      conv => whnf
                      conv => whnf
                      conv => whnf
                      conv => whnf
                      refine ⟨_, _, ⟨⟨j + 1, D2 ++ [(newE (N.getD i ent0) ((stp p (N.getD i ent0).1).exits.getD j 0) r)], M2, m2, some (newE (N.getD i ent0) ((stp p (N.getD i ent0).1).exits.getD j 0) r).2, (newE (N.getD i ent0) ((stp p (N.getD i ent0).1).exits.getD j 0) r).1.1, (newE (N.getD i ent0) ((stp p (N.getD i ent0).1).exits.getD j 0) r).1.2, _, by omega, hD3, hR3, hm2, rfl, rfl⟩, by omega⟩, ⟨⟨.inl rfl, rfl, rfl, rfl⟩, ⟨⟨rfl, rfl, rfl, rfl, fun _ => rfl, fun _ _ => .inl rfl⟩, ⟨⟨rfl, rfl, rfl, rfl, fun _ => rfl, fun _ _ => .inl rfl⟩, ⟨⟨rfl, rfl, rfl, rfl, fun _ => rfl, fun _ _ => .inl rfl⟩, ⟨⟨rfl, rfl, rfl, rfl, fun _ => rfl, fun _ _ => .inr (row4 (by rw [List.length_append]; rfl) (fun i hi => app_row _ _ i hi))⟩, ⟨⟨rfl, rfl, rfl, rfl, fun _ => rfl, fun _ _ => .inl rfl⟩, trivial⟩⟩⟩⟩⟩, trivial⟩⟩
                  · conv => whnf
                    conv => whnf
                    conv => whnf
                    conv => whnf
                    refine .inr ⟨[140], ?_⟩
                    conv => whnf
                    conv => whnf
                    conv => whnf
                    conv => whnf
                    refine ⟨[.forget [13, 17, 18, 19, 20, 49, 50, 51, 52, 53, 54, 55, 56, 57, 58, 59, 60, 61, 62, 63, 64, 65, 66, 67, 68, 69, 70, 71, 72, 73, 74, 75, 76, 77, 78, 79, 80, 81, 82, 83, 84, 85, 86, 87, 88, 89, 90, 91, 92, 93, 94, 95, 96, 97, 98, 99, 100, 101, 102, 103, 104, 105, 139, 140]], [0, 3, 5], fun st mq => ∃ (q : Nat) (G5 : Nat → List AV) (G6 : Nat → List AV) (G7 : Nat → List AV) (G8 : Nat → List AV) (F1 : Nat → List AV), (q ≤ m2) ∧ (∀ t, t < q → ¬ (M2.getD t ent0).1 = (newE (N.getD i ent0) ((stp p (N.getD i ent0).1).exits.getD j 0) r).1) ∧ st = ⟨[(0, .oslice 4 0 0 m2 none), (3, .optr 9 0 0 0), (5, i64 q)], ⟨[⟨3, 1, fun _ => planC p, 0, false, true, true⟩, ⟨2, 1, F1, 0, false, true, false⟩, ⟨4, 1, G2, 0, true, true, false⟩, ⟨4, 1, fun _ => [ints (optA C2).1, i64 x3, i64 y3, i64 (optA C2).2], 0, false, true, true⟩, ⟨4, m2, fun i => rowE (M2.getD i ent0), 0, false, true, false⟩, ⟨1, 1, G5, 0, true, true, false⟩, ⟨1, (N.getD i ent0).2.1.length + 1, G6, 0, true, true, false⟩, ⟨1, 1, G7, 0, false, true, false⟩, ⟨4, 1, G8, 0, false, false, true⟩, ⟨4, 1, fun _ => rowE (newE (N.getD i ent0) ((stp p (N.getD i ent0).1).exits.getD j 0) r), 0, false, true, true⟩], [], none, 0⟩, [(2, i64 to), (3, .optr 0 0 0 0), (9, .rslice 4 N.length (fun i => rowE (N.getD i ent0))), (10, .optr 3 0 0 0), (11, vb C2.isSome), (12, i64 k), (14, i64 i), (15, ints (stp p (N.getD i ent0).1).exits), (16, i64 j)]⟩ ∧ mq = m2 - q,
                      ⟨_, _, ⟨0, _, _, _, _, _, by omega, fun t h => absurd h (Nat.not_lt_zero t), rfl, rfl⟩, ⟨⟨.inl rfl, rfl, rfl, rfl⟩, ⟨⟨rfl, rfl, rfl, rfl, fun _ => rfl, fun _ _ => .inl rfl⟩, ⟨⟨rfl, rfl, rfl, rfl, fun _ => rfl, fun _ _ => .inl rfl⟩, ⟨⟨rfl, rfl, rfl, rfl, fun _ => rfl, fun _ _ => .inl rfl⟩, ⟨⟨rfl, rfl, rfl, rfl, fun _ => rfl, fun _ _ => .inl rfl⟩, ⟨⟨rfl, rfl, rfl, rfl, fun _ => rfl, fun _ _ => .inl rfl⟩, ⟨⟨rfl, rfl, rfl, rfl, fun _ => rfl, fun _ _ => .inl rfl⟩, ⟨⟨rfl, rfl, rfl, rfl, fun _ => rfl, fun _ _ => .inl rfl⟩, ⟨⟨rfl, rfl, rfl, rfl, fun _ => rfl, fun _ _ => .inl rfl⟩, ⟨⟨rfl, rfl, rfl, rfl, nofun, fun _ _ => .inl rfl⟩, ⟨⟨rfl, rfl, rfl, rfl, fun _ => rfl, fun _ _ => .inr (row4 (by rw [List.length_append]; rfl) (fun i hi => app_row _ _ i hi))⟩, trivial⟩⟩⟩⟩⟩⟩⟩⟩⟩⟩, trivial⟩⟩, ?_⟩
                    rintro s0 m0 ⟨q, G5, G6, G7, G8, F1, hq, hqn, rfl, hmeas⟩
                    have hR3 := hRoff w5
                    have h74b := S74 (newE (N.getD i ent0) ((stp p (N.getD i ent0).1).exits.getD j 0) r).2.1 (M2.getD q ent0).2.1
                    have hq0 : 0 + (q : Int).toNat = q := by omega
                    have hE : (M2.getD (0 + (q : Int).toNat) ent0).1.1 = (newE (N.getD i ent0) ((stp p (N.getD i ent0).1).exits.getD j 0) r).1.1 ∧ (M2.getD (0 + (q : Int).toNat) ent0).1.2 = (newE (N.getD i ent0) ((stp p (N.getD i ent0).1).exits.getD j 0) r).1.2 → (M2.getD q ent0).1 = (newE (N.getD i ent0) ((stp p (N.getD i ent0).1).exits.getD j 0) r).1 := fun h => by rw [hq0] at h; exact Prod.ext h.1 h.2
                    have hkA := fun (h : q < m2) h2 => keepL_at (N := M2) (x := (newE (N.getD i ent0) ((stp p (N.getD i ent0).1).exits.getD j 0) r)) (k := q) (by omega) hqn h2
                    have hql : ∀ h : q < m2, (M2.getD (0 + (q : Int).toNat) ent0).2.1.length = k + 1 := fun h => by rw [hq0]; exact (hDk _ (hR2.mem (getD_mem (by omega) _))).2.2.1
                    have hW : (((newE (N.getD i ent0) ((stp p (N.getD i ent0).1).exits.getD j 0) r).2.2 < (M2.getD (0 + (q : Int).toNat) ent0).2.2 ∨ ((newE (N.getD i ent0) ((stp p (N.getD i ent0).1).exits.getD j 0) r).2.2 = (M2.getD (0 + (q : Int).toNat) ent0).2.2 ∧ cmpL (newE (N.getD i ent0) ((stp p (N.getD i ent0).1).exits.getD j 0) r).2.1 (M2.getD (0 + (q : Int).toNat) ent0).2.1 < 0)) ↔ wlt (newE (N.getD i ent0) ((stp p (N.getD i ent0).1).exits.getD j 0) r).2 (M2.getD q ent0).2 = true) := by rw [hq0]; exact wlt_iff.symm
                    conv => whnf
                    conv => whnf
                    conv => whnf
                    conv => whnf
                    conv => whnf
                    refine ifB_dec (fun w6 => ?_) (fun w6 => ?_)
                    · conv => whnf
                      conv => whnf
                      conv => whnf
                      conv => whnf
                      conv => whnf
                      refine ⟨[], by kernel_rfl, ?_⟩
                      conv => whnf
                      conv => whnf
                      conv => whnf
                      conv => whnf
                      conv => whnf
                      refine ⟨⟨(by omega), (by omega)⟩, ?_⟩
                      conv => whnf
                      conv => whnf
                      conv => whnf
                      conv => whnf
                      conv => whnf
                      refine ifB_not ?_
                      conv => whnf
                      conv => whnf
                      conv => whnf
                      conv => whnf
                      conv => whnf
                      refine ifB_veq2 (fun w7 => ?_) (fun w7 => ?_)
                      · conv => whnf
                        conv => whnf
                        conv => whnf
                        conv => whnf
                        conv => whnf
                        refine ⟨[], by kernel_rfl, ?_⟩
                        conv => whnf
                        conv => whnf
                        conv => whnf
                        conv => whnf
                        conv => whnf
                        refine ⟨⟨(by omega), (by omega)⟩, ?_⟩
                        conv => whnf
                        conv => whnf
                        conv => whnf
                        conv => whnf
                        conv => whnf
                        refine ifB_dec (fun w8 => ?_) (fun w8 => ?_)
                        · conv => whnf
                          conv => whnf
                          conv => whnf
                          conv => whnf
                          conv => whnf
                          refine ⟨⟨(by omega), (by omega)⟩, ?_⟩
                          refine ⟨_, fun i _ => entrow (by omega), ?_⟩
                          conv => whnf
                          conv => whnf
                          conv => whnf
                          conv => whnf
                          conv => whnf
                          refine ⟨inK64 (by omega) (by omega), ?_⟩
                          rw [hkA (by omega) (hE w7), if_pos (hW.1 (.inl w8))] at hR3
                          conv => whnf
                          conv => whnf
                          conv => whnf
                          conv => whnf
                          conv => whnf
                          refine ⟨_, _, ⟨⟨j + 1, D2 ++ [(newE (N.getD i ent0) ((stp p (N.getD i ent0).1).exits.getD j 0) r)], M2.set q (newE (N.getD i ent0) ((stp p (N.getD i ent0).1).exits.getD j 0) r), m2, C2, x3, y3, _, by omega, hD3, hR3, (by rw [List.length_set]; exact hm2), rfl, rfl⟩, by omega⟩, ⟨⟨.inl rfl, rfl, rfl, rfl⟩, ⟨⟨rfl, rfl, rfl, rfl, fun _ => rfl, fun _ _ => .inl rfl⟩, ⟨⟨rfl, rfl, rfl, rfl, fun _ => rfl, fun _ _ => .inl rfl⟩, ⟨⟨rfl, rfl, rfl, rfl, fun _ => rfl, fun _ _ => .inl rfl⟩, ⟨⟨rfl, rfl, rfl, rfl, fun _ => rfl, fun _ _ => .inl rfl⟩, ⟨⟨rfl, rfl, rfl, rfl, fun _ => rfl, fun i _ => .inl (setrow (by omega) i)⟩, trivial⟩⟩⟩⟩⟩, trivial⟩⟩
                        · conv => whnf
                          conv => whnf
                          conv => whnf
                          conv => whnf
                          conv => whnf
                          refine ⟨⟨(by omega), (by omega)⟩, ?_⟩
                          conv => whnf
                          conv => whnf
                          conv => whnf
                          conv => whnf
                          conv => whnf
                          refine ifB_beq (fun w9 => ?_) (fun w9 => ?_)
                          · conv => whnf
                            conv => whnf
                            conv => whnf
                            conv => whnf
                            conv => whnf
                            refine ⟨⟨(by omega), (by omega)⟩, ?_⟩
                            conv => whnf
                            conv => whnf
                            conv => whnf
                            conv => whnf
                            conv => whnf
                            refine .inl ⟨_, _, byX rfl (Sound1.pl (S74 _ _ (by omega) (by omega)) rfl), ?_⟩
                            conv => whnf
                            conv => whnf
                            conv => whnf
                            conv => whnf
                            conv => whnf
                            refine ifB_dec (fun w10 => ?_) (fun w10 => ?_)
                            · conv => whnf
                              conv => whnf
                              conv => whnf
                              conv => whnf
                              conv => whnf
                              refine ⟨⟨(by omega), (by omega)⟩, ?_⟩
                              refine ⟨_, fun i _ => entrow (by omega), ?_⟩
                              conv => whnf
                              conv => whnf
                              conv => whnf
                              conv => whnf
                              conv => whnf
                              refine ⟨inK64 (by omega) (by omega), ?_⟩
                              rw [hkA (by omega) (hE w7), if_pos (hW.1 (.inr ⟨w9, w10⟩))] at hR3
                              conv => whnf
                              conv => whnf
                              conv => whnf
                              conv => whnf
                              conv => whnf
                              refine ⟨_, _, ⟨⟨j + 1, D2 ++ [(newE (N.getD i ent0) ((stp p (N.getD i ent0).1).exits.getD j 0) r)], M2.set q (newE (N.getD i ent0) ((stp p (N.getD i ent0).1).exits.getD j 0) r), m2, C2, x3, y3, _, by omega, hD3, hR3, (by rw [List.length_set]; exact hm2), rfl, rfl⟩, by omega⟩, ⟨⟨.inl rfl, rfl, rfl, rfl⟩, ⟨⟨rfl, rfl, rfl, rfl, fun _ => rfl, fun _ _ => .inl rfl⟩, ⟨⟨rfl, rfl, rfl, rfl, fun _ => rfl, fun _ _ => .inl rfl⟩, ⟨⟨rfl, rfl, rfl, rfl, fun _ => rfl, fun _ _ => .inl rfl⟩, ⟨⟨rfl, rfl, rfl, rfl, fun _ => rfl, fun _ _ => .inl rfl⟩, ⟨⟨rfl, rfl, rfl, rfl, fun _ => rfl, fun i _ => .inl (setrow (by omega) i)⟩, trivial⟩⟩⟩⟩⟩, trivial⟩⟩
                            · conv => whnf
                              conv => whnf
                              conv => whnf
                              conv => whnf
                              conv => whnf
                              refine ⟨inK64 (by omega) (by omega), ?_⟩
                              rw [hkA (by omega) (hE w7), if_neg (fun h => (hW.2 h).elim w8 fun h => w10 h.2)] at hR3
                              conv => whnf
                              conv => whnf
                              conv => whnf
                              conv => whnf
                              conv => whnf
                              refine ⟨_, _, ⟨⟨j + 1, D2 ++ [(newE (N.getD i ent0) ((stp p (N.getD i ent0).1).exits.getD j 0) r)], M2, m2, C2, x3, y3, _, by omega, hD3, hR3, hm2, rfl, rfl⟩, by omega⟩, ⟨⟨.inl rfl, rfl, rfl, rfl⟩, ⟨⟨rfl, rfl, rfl, rfl, fun _ => rfl, fun _ _ => .inl rfl⟩, ⟨⟨rfl, rfl, rfl, rfl, fun _ => rfl, fun _ _ => .inl rfl⟩, ⟨⟨rfl, rfl, rfl, rfl, fun _ => rfl, fun _ _ => .inl rfl⟩, ⟨⟨rfl, rfl, rfl, rfl, fun _ => rfl, fun _ _ => .inl rfl⟩, ⟨⟨rfl, rfl, rfl, rfl, fun _ => rfl, fun _ _ => .inl rfl⟩, trivial⟩⟩⟩⟩⟩, trivial⟩⟩
                          · conv => whnf
                            conv => whnf
                            conv => whnf
                            conv => whnf
                            conv => whnf
                            refine ⟨inK64 (by omega) (by omega), ?_⟩
                            rw [hkA (by omega) (hE w7), if_neg (fun h => (hW.2 h).elim w8 fun h => w9 h.1)] at hR3
                            conv => whnf
                            conv => whnf
                            conv => whnf
                            conv => whnf
                            conv => whnf
                            refine ⟨_, _, ⟨⟨j + 1, D2 ++ [(newE (N.getD i ent0) ((stp p (N.getD i ent0).1).exits.getD j 0) r)], M2, m2, C2, x3, y3, _, by omega, hD3, hR3, hm2, rfl, rfl⟩, by omega⟩, ⟨⟨.inl rfl, rfl, rfl, rfl⟩, ⟨⟨rfl, rfl, rfl, rfl, fun _ => rfl, fun _ _ => .inl rfl⟩, ⟨⟨rfl, rfl, rfl, rfl, fun _ => rfl, fun _ _ => .inl rfl⟩, ⟨⟨rfl, rfl, rfl, rfl, fun _ => rfl, fun _ _ => .inl rfl⟩, ⟨⟨rfl, rfl, rfl, rfl, fun _ => rfl, fun _ _ => .inl rfl⟩, ⟨⟨rfl, rfl, rfl, rfl, fun _ => rfl, fun _ _ => .inl rfl⟩, trivial⟩⟩⟩⟩⟩, trivial⟩⟩
                      · conv => whnf
                        conv => whnf
                        conv => whnf
                        conv => whnf
                        conv => whnf
                        refine ⟨inK64 (by omega) (by omega), ?_⟩
                        rw [hq0] at w7
                        conv => whnf
                        conv => whnf
                        conv => whnf
                        conv => whnf
                        conv => whnf
                        refine ⟨_, _, ⟨⟨q + 1, _, _, _, _, _, by omega, (fun t ht => (Nat.lt_succ_iff_lt_or_eq.1 ht).elim (hqn t) fun e => by rw [e]; exact fun h => w7 ⟨congrArg (·.1) h, congrArg (·.2) h⟩), rfl, rfl⟩, by omega⟩, ⟨⟨.inl rfl, rfl, rfl, rfl⟩, ⟨⟨rfl, rfl, rfl, rfl, fun _ => rfl, fun _ _ => .inl rfl⟩, ⟨⟨rfl, rfl, rfl, rfl, fun _ => rfl, fun _ _ => .inl rfl⟩, ⟨⟨rfl, rfl, rfl, rfl, fun _ => rfl, fun _ _ => .inl rfl⟩, ⟨⟨rfl, rfl, rfl, rfl, fun _ => rfl, fun _ _ => .inl rfl⟩, ⟨⟨rfl, rfl, rfl, rfl, fun _ => rfl, fun _ _ => .inl rfl⟩, ⟨⟨rfl, rfl, rfl, rfl, fun _ => rfl, fun _ _ => .inl rfl⟩, ⟨⟨rfl, rfl, rfl, rfl, fun _ => rfl, fun _ _ => .inl rfl⟩, ⟨⟨rfl, rfl, rfl, rfl, fun _ => rfl, fun _ _ => .inl rfl⟩, ⟨⟨rfl, rfl, rfl, rfl, nofun, fun _ _ => .inl rfl⟩, ⟨⟨rfl, rfl, rfl, rfl, fun _ => rfl, fun _ _ => .inl rfl⟩, trivial⟩⟩⟩⟩⟩⟩⟩⟩⟩⟩, trivial⟩⟩
                    · conv => whnf
                      conv => whnf
                      conv => whnf
                      conv => whnf
                      conv => whnf
                      refine .inl ?_
                      conv => whnf
                      conv => whnf
                      conv => whnf
                      conv => whnf
                      conv => whnf
                      refine ⟨(by show _ * (48 + 1) ≤ _; omega), ?_⟩
                      conv => whnf
                      conv => whnf
                      conv => whnf
                      conv => whnf
                      conv => whnf
                      refine ⟨inK64 (by omega) (by omega), ?_⟩
                      obtain rfl : q = m2 := by omega
                      rw [keepL_none (fun t ht => hqn t (by omega))] at hR3
                      conv => whnf
                      conv => whnf
                      conv => whnf
                      conv => whnf
                      conv => whnf
                      refine ⟨_, _, ⟨⟨j + 1, D2 ++ [(newE (N.getD i ent0) ((stp p (N.getD i ent0).1).exits.getD j 0) r)], M2 ++ [(newE (N.getD i ent0) ((stp p (N.getD i ent0).1).exits.getD j 0) r)], q + 1, C2, x3, y3, _, by omega, hD3, hR3, (by rw [List.length_append, hm2]; rfl), rfl, rfl⟩, by omega⟩, ⟨⟨.inl rfl, rfl, rfl, rfl⟩, ⟨⟨rfl, rfl, rfl, rfl, fun _ => rfl, fun _ _ => .inl rfl⟩, ⟨⟨rfl, rfl, rfl, rfl, fun _ => rfl, fun _ _ => .inl rfl⟩, ⟨⟨rfl, rfl, rfl, rfl, fun _ => rfl, fun _ _ => .inl rfl⟩, ⟨⟨rfl, rfl, rfl, rfl, fun _ => rfl, fun _ _ => .inl rfl⟩, ⟨⟨rfl, rfl, rfl, rfl, fun _ => rfl, fun i hi => .inl (approw hm2 i hi)⟩, trivial⟩⟩⟩⟩⟩, trivial⟩⟩
                · (exfalso; omega)
            · have hj2 : D2 = ext p (N.take (i + 1)) := by
                rw [hD2, List.take_of_length_le (by omega), hD, htk, ext_snoc]; rfl
              conv => whnf
              conv => whnf
              conv => whnf
              conv => whnf
              refine ifB_dec (fun w4 => ?_) (fun w4 => ?_)
              · (exfalso; omega)
              · conv => whnf
                conv => whnf
                conv => whnf
                conv => whnf
                refine ⟨inK64 (by omega) (by omega), ?_⟩
                conv => whnf
                conv => whnf
                conv => whnf
                conv => whnf
                refine ⟨_, _, ⟨⟨i + 1, D2, M2, m2, C2, x3, y3, _, by omega, hj2, hR2, hm2, rfl, rfl⟩, by omega⟩, ⟨⟨.inl rfl, rfl, rfl, rfl⟩, ⟨⟨rfl, rfl, rfl, rfl, fun _ => rfl, fun _ _ => .inl rfl⟩, ⟨⟨rfl, rfl, rfl, rfl, fun _ => rfl, fun _ _ => .inl rfl⟩, ⟨⟨rfl, rfl, rfl, rfl, fun _ => rfl, fun _ _ => .inl rfl⟩, ⟨⟨rfl, rfl, rfl, rfl, fun _ => rfl, fun _ _ => .inl rfl⟩, ⟨⟨rfl, rfl, rfl, rfl, fun _ => rfl, fun _ _ => .inl rfl⟩, trivial⟩⟩⟩⟩⟩, trivial⟩⟩
          · (exfalso; omega)
        · have hD4 : D = ext p N := by rw [hD, List.take_of_length_le (by omega)]
          rw [hD4] at hR
          have hLn := ext_ok hg hL
          have hN2 := hN.next hR.kept
          have hB2 : C = bestW p s0 to (k + 1 + 1) := by rw [hR.best, hB]; exact hN.best hg hs0 hw0
          subst hm
          conv => whnf
          conv => whnf
          conv => whnf
          refine ifB_dec (fun w3 => ?_) (fun w3 => ?_)
          · (exfalso; omega)
          · conv => whnf
            conv => whnf
            conv => whnf
            refine ⟨inK64 (by omega) (by omega), ?_⟩
            conv => whnf
            conv => whnf
            conv => whnf
            refine ⟨_, _, ⟨⟨k + 1, M, C, x2, y2, _, _, by omega, hN2, (fun e he => hLn e (hR.mem he)), hR.kept.nodup, hB2, rfl, rfl⟩, by omega⟩, ⟨⟨.inl rfl, rfl, rfl, rfl⟩, ⟨⟨rfl, rfl, rfl, rfl, fun _ => rfl, fun _ _ => .inl rfl⟩, ⟨⟨rfl, rfl, rfl, rfl, fun _ => rfl, fun _ _ => .inl rfl⟩, ⟨⟨rfl, rfl, rfl, rfl, fun _ => rfl, fun _ _ => .inl rfl⟩, ⟨⟨rfl, rfl, rfl, rfl, fun _ => rfl, fun _ _ => .inl rfl⟩, trivial⟩⟩⟩⟩, trivial⟩⟩
      · conv => whnf
        conv => whnf
        refine ⟨[], by kernel_rfl, ?_⟩
        conv => whnf
        conv => whnf
        refine ⟨?_, nofun⟩
        have hk10 : k = 10 := by omega
        subst hk10
        rw [← hB]
        cases B with
        | none => exact ave_tup3 ⟨rfl, rfl, fun _ _ => rfl⟩ rfl rfl
        | some v => exact ave_tup3 ⟨rfl, rfl, fun _ _ => rfl⟩ rfl rfl
end Go.Tr

/- The law SequenceWays returns true. Conditions: none. -/
namespace Go.Tr
open Go Go.Proofs
set_option maxRecDepth 20000
set_option maxHeartbeats 8000000
set_option maxHeartbeats 8000000

theorem S3a (p : Pln) (hl : p.sig.length ≤ 9223372036854775807 ∧ p.steps.length ≤ 9223372036854775807) (s : S2) (to : Int) (hf : fewB p = true) (h0 : ¬ openE p s noF = 0) : SP 3 [planA p, stA s, i64 to] (vb true) false := by
  have h14 := S14 p hl
  have h16 := S16 p hl
  have h20 := S20
  rw [hf] at h14
  have hp := FewP.of hf
  have h15 := S15 p hp
  have h18 := S18 p hp
  have h19 := S19 p hp s noF
  have h17 := S17 p hp s to
  unfold fastR at h17
  have hE : fastE p s to = openE p s noF := by unfold fastE; rw [if_pos h0]
  rw [hE, if_pos h0] at h17
  clear hE
  generalize openE p s noF = e at h17 h19 h0
  refine sound (d := 2) tok2 mixed2 Tryd.func3 (by kernel_rfl) (by kernel_rfl) ?_
  conv => whnf
  refine .inl ⟨_, _, byX rfl (Sound1.pl (S13) rfl), ?_⟩
  conv => whnf
  refine .inl ⟨_, _, byX rfl (Sound1.pl (h14) rfl), ?_⟩
  conv => whnf
  refine .inl ⟨_, _, byX rfl (Sound1.pl (h15) rfl), ?_⟩
  conv => whnf
  refine ifB_beq (fun w1 => ?_) (fun w1 => ?_)
  · conv => whnf
    refine .inl ⟨_, _, byX rfl (Sound1.pl (h16) rfl), ?_⟩
    conv => whnf
    refine ifB_not ?_
    conv => whnf
    refine ifB_intro (fun w2 => ?_) (fun w2 => ?_)
    · conv => whnf
      refine ⟨[], by kernel_rfl, ?_⟩
      conv => whnf
      refine .inl ⟨_, _, byX rfl (h18), ?_⟩
      conv => whnf
      refine .inl ⟨_, _, byX rfl (h17), ?_⟩
      conv => whnf
      refine ⟨[], by kernel_rfl, ?_⟩
      conv => whnf
      refine .inl ⟨_, _, byX rfl (Sound1.pl (h20) rfl), ?_⟩
      conv => whnf
      refine .inl ⟨_, _, byX rfl (Sound1.pl (h19) rfl), ?_⟩
      conv => whnf
      refine ifB_beq (fun w3 => ?_) (fun w3 => ?_)
      · (exfalso; omega)
      · conv => whnf
        refine ifB_beq (fun w4 => ?_) (fun w4 => ?_)
        · (exfalso; omega)
        · conv => whnf
          refine ifB_bne (fun w5 => ?_) (fun w5 => ?_)
          · conv => whnf
            refine ifB_beq (fun w6 => ?_) (fun w6 => ?_)
            · conv => whnf
              refine ⟨?_, nofun⟩
              (rfl)
            · (exfalso; omega)
          · (exfalso; omega)
    · conv => whnf
      refine ⟨?_, nofun⟩
      (rfl)
  · conv => whnf
    refine ⟨[], by kernel_rfl, ?_⟩
    conv => whnf
    refine .inl ⟨_, _, byX rfl (h18), ?_⟩
    conv => whnf
    refine .inl ⟨_, _, byX rfl (h17), ?_⟩
    conv => whnf
    refine ⟨[], by kernel_rfl, ?_⟩
    conv => whnf
    refine .inl ⟨_, _, byX rfl (Sound1.pl (h20) rfl), ?_⟩
    conv => whnf
    refine .inl ⟨_, _, byX rfl (Sound1.pl (h19) rfl), ?_⟩
    conv => whnf
    refine ifB_beq (fun w2 => ?_) (fun w2 => ?_)
    · (exfalso; omega)
    · conv => whnf
      refine ifB_beq (fun w3 => ?_) (fun w3 => ?_)
      · (exfalso; omega)
      · conv => whnf
        refine ifB_bne (fun w4 => ?_) (fun w4 => ?_)
        · conv => whnf
          refine ifB_beq (fun w5 => ?_) (fun w5 => ?_)
          · conv => whnf
            refine ⟨?_, nofun⟩
            (rfl)
          · (exfalso; omega)
        · (exfalso; omega)
theorem S3b (p : Pln) (hl : p.sig.length ≤ 9223372036854775807 ∧ p.steps.length ≤ 9223372036854775807) (s : S2) (to : Int) (hf : fewB p = true) (h0 : openE p s noF = 0) (hx : ¬ idxE p.steps.length to = 0) : SP 3 [planA p, stA s, i64 to] (vb true) false := by
  have h14 := S14 p hl
  have h16 := S16 p hl
  have h20 := S20
  rw [hf] at h14
  have hp := FewP.of hf
  have h15 := S15 p hp
  have h18 := S18 p hp
  have h19 := S19 p hp s noF
  have h17 := S17 p hp s to
  unfold fastR at h17
  obtain ⟨hg, hs, hff⟩ := open_ok hp h0
  rw [h0] at h19
  have hm := hg.m
  have h21 := S21 p (by omega) to
  have hE : fastE p s to = idxE p.steps.length to := by unfold fastE; rw [if_neg (not_not_intro h0), if_pos hx]
  rw [hE, if_pos hx] at h17
  clear hE
  generalize idxE p.steps.length to = e at h17 h21 hx
  refine sound (d := 2) tok2 mixed2 Tryd.func3 (by kernel_rfl) (by kernel_rfl) ?_
  conv => whnf
  refine .inl ⟨_, _, byX rfl (Sound1.pl (S13) rfl), ?_⟩
  conv => whnf
  refine .inl ⟨_, _, byX rfl (Sound1.pl (h14) rfl), ?_⟩
  conv => whnf
  refine .inl ⟨_, _, byX rfl (Sound1.pl (h15) rfl), ?_⟩
  conv => whnf
  refine ifB_beq (fun w1 => ?_) (fun w1 => ?_)
  · conv => whnf
    refine .inl ⟨_, _, byX rfl (Sound1.pl (h16) rfl), ?_⟩
    conv => whnf
    refine ifB_not ?_
    conv => whnf
    refine ifB_intro (fun w2 => ?_) (fun w2 => ?_)
    · conv => whnf
      refine ⟨[], by kernel_rfl, ?_⟩
      conv => whnf
      refine .inl ⟨_, _, byX rfl (h18), ?_⟩
      conv => whnf
      refine .inl ⟨_, _, byX rfl (h17), ?_⟩
      conv => whnf
      refine ⟨[], by kernel_rfl, ?_⟩
      conv => whnf
      refine .inl ⟨_, _, byX rfl (Sound1.pl (h20) rfl), ?_⟩
      conv => whnf
      refine .inl ⟨_, _, byX rfl (Sound1.pl (h19) rfl), ?_⟩
      conv => whnf
      refine .inl ⟨_, _, byX rfl (Sound1.pl (h21) rfl), ?_⟩
      conv => whnf
      refine ifB_beq (fun w3 => ?_) (fun w3 => ?_)
      · (exfalso; omega)
      · conv => whnf
        refine ifB_bne (fun w4 => ?_) (fun w4 => ?_)
        · conv => whnf
          refine ifB_beq (fun w5 => ?_) (fun w5 => ?_)
          · conv => whnf
            refine ⟨?_, nofun⟩
            (rfl)
          · (exfalso; omega)
        · (exfalso; omega)
    · conv => whnf
      refine ⟨?_, nofun⟩
      (rfl)
  · conv => whnf
    refine ⟨[], by kernel_rfl, ?_⟩
    conv => whnf
    refine .inl ⟨_, _, byX rfl (h18), ?_⟩
    conv => whnf
    refine .inl ⟨_, _, byX rfl (h17), ?_⟩
    conv => whnf
    refine ⟨[], by kernel_rfl, ?_⟩
    conv => whnf
    refine .inl ⟨_, _, byX rfl (Sound1.pl (h20) rfl), ?_⟩
    conv => whnf
    refine .inl ⟨_, _, byX rfl (Sound1.pl (h19) rfl), ?_⟩
    conv => whnf
    refine .inl ⟨_, _, byX rfl (Sound1.pl (h21) rfl), ?_⟩
    conv => whnf
    refine ifB_beq (fun w2 => ?_) (fun w2 => ?_)
    · (exfalso; omega)
    · conv => whnf
      refine ifB_bne (fun w3 => ?_) (fun w3 => ?_)
      · conv => whnf
        refine ifB_beq (fun w4 => ?_) (fun w4 => ?_)
        · conv => whnf
          refine ⟨?_, nofun⟩
          (rfl)
        · (exfalso; omega)
      · (exfalso; omega)
theorem S3c (p : Pln) (hl : p.sig.length ≤ 9223372036854775807 ∧ p.steps.length ≤ 9223372036854775807) (s : S2) (to : Int) (hf : fewB p = true) (h0 : openE p s noF = 0) (hx : idxE p.steps.length to = 0) (hw : ¬ ((stp p s).wait = 0 ∧ (p.steps.getD to.toNat stp0).wait = 0)) : SP 3 [planA p, stA s, i64 to] (vb true) false := by
  have h14 := S14 p hl
  have h16 := S16 p hl
  have h20 := S20
  rw [hf] at h14
  have hp := FewP.of hf
  have h15 := S15 p hp
  have h18 := S18 p hp
  have h19 := S19 p hp s noF
  have h17 := S17 p hp s to
  unfold fastR at h17
  obtain ⟨hg, hs, hff⟩ := open_ok hp h0
  rw [h0] at h19
  have hm := hg.m
  have h21 := S21 p (by omega) to
  rw [hx] at h21
  have hat := hs.at
  have hto := inX_iff.1 (idxE0 hx)
  have hE : fastE p s to = 20 := by
    unfold fastE
    rw [if_neg (not_not_intro h0), if_neg (not_not_intro hx), if_neg hw]
  rw [hE, if_pos (by decide)] at h17
  clear hE
  by_cases hw1 : (p.steps.getD s.1.toNat stp0).wait = 0
  · have hw2 : ¬ (p.steps.getD to.toNat stp0).wait = 0 := fun h => hw ⟨hw1, h⟩
    refine sound (d := 2) tok2 mixed2 Tryd.func3 (by kernel_rfl) (by kernel_rfl) ?_
    conv => whnf
    refine .inl ⟨_, _, byX rfl (Sound1.pl (S13) rfl), ?_⟩
    conv => whnf
    refine .inl ⟨_, _, byX rfl (Sound1.pl (h14) rfl), ?_⟩
    conv => whnf
    refine .inl ⟨_, _, byX rfl (Sound1.pl (h15) rfl), ?_⟩
    conv => whnf
    refine ifB_beq (fun w1 => ?_) (fun w1 => ?_)
    · conv => whnf
      refine .inl ⟨_, _, byX rfl (Sound1.pl (h16) rfl), ?_⟩
      conv => whnf
      refine ifB_not ?_
      conv => whnf
      refine ifB_intro (fun w2 => ?_) (fun w2 => ?_)
      · conv => whnf
        refine ⟨[], by kernel_rfl, ?_⟩
        conv => whnf
        refine .inl ⟨_, _, byX rfl (h18), ?_⟩
        conv => whnf
        refine .inl ⟨_, _, byX rfl (h17), ?_⟩
        conv => whnf
        refine ⟨[], by kernel_rfl, ?_⟩
        conv => whnf
        refine .inl ⟨_, _, byX rfl (Sound1.pl (h20) rfl), ?_⟩
        conv => whnf
        refine .inl ⟨_, _, byX rfl (Sound1.pl (h19) rfl), ?_⟩
        conv => whnf
        refine .inl ⟨_, _, byX rfl (Sound1.pl (h21) rfl), ?_⟩
        conv => whnf
        refine ⟨⟨(by omega), (by omega)⟩, ?_⟩
        conv => whnf
        refine ifB_bne (fun w3 => ?_) (fun w3 => ?_)
        · (exfalso; omega)
        · conv => whnf
          refine ⟨⟨(by omega), (by omega)⟩, ?_⟩
          conv => whnf
          refine ifB_bne (fun w4 => ?_) (fun w4 => ?_)
          · conv => whnf
            refine ⟨?_, nofun⟩
            (rfl)
          · (exfalso; omega)
      · conv => whnf
        refine ⟨?_, nofun⟩
        (rfl)
    · conv => whnf
      refine ⟨[], by kernel_rfl, ?_⟩
      conv => whnf
      refine .inl ⟨_, _, byX rfl (h18), ?_⟩
      conv => whnf
      refine .inl ⟨_, _, byX rfl (h17), ?_⟩
      conv => whnf
      refine ⟨[], by kernel_rfl, ?_⟩
      conv => whnf
      refine .inl ⟨_, _, byX rfl (Sound1.pl (h20) rfl), ?_⟩
      conv => whnf
      refine .inl ⟨_, _, byX rfl (Sound1.pl (h19) rfl), ?_⟩
      conv => whnf
      refine .inl ⟨_, _, byX rfl (Sound1.pl (h21) rfl), ?_⟩
      conv => whnf
      refine ⟨⟨(by omega), (by omega)⟩, ?_⟩
      conv => whnf
      refine ifB_bne (fun w2 => ?_) (fun w2 => ?_)
      · (exfalso; omega)
      · conv => whnf
        refine ⟨⟨(by omega), (by omega)⟩, ?_⟩
        conv => whnf
        refine ifB_bne (fun w3 => ?_) (fun w3 => ?_)
        · conv => whnf
          refine ⟨?_, nofun⟩
          (rfl)
        · (exfalso; omega)
  · refine sound (d := 2) tok2 mixed2 Tryd.func3 (by kernel_rfl) (by kernel_rfl) ?_
    conv => whnf
    refine .inl ⟨_, _, byX rfl (Sound1.pl (S13) rfl), ?_⟩
    conv => whnf
    refine .inl ⟨_, _, byX rfl (Sound1.pl (h14) rfl), ?_⟩
    conv => whnf
    refine .inl ⟨_, _, byX rfl (Sound1.pl (h15) rfl), ?_⟩
    conv => whnf
    refine ifB_beq (fun w1 => ?_) (fun w1 => ?_)
    · conv => whnf
      refine .inl ⟨_, _, byX rfl (Sound1.pl (h16) rfl), ?_⟩
      conv => whnf
      refine ifB_not ?_
      conv => whnf
      refine ifB_intro (fun w2 => ?_) (fun w2 => ?_)
      · conv => whnf
        refine ⟨[], by kernel_rfl, ?_⟩
        conv => whnf
        refine .inl ⟨_, _, byX rfl (h18), ?_⟩
        conv => whnf
        refine .inl ⟨_, _, byX rfl (h17), ?_⟩
        conv => whnf
        refine ⟨[], by kernel_rfl, ?_⟩
        conv => whnf
        refine .inl ⟨_, _, byX rfl (Sound1.pl (h20) rfl), ?_⟩
        conv => whnf
        refine .inl ⟨_, _, byX rfl (Sound1.pl (h19) rfl), ?_⟩
        conv => whnf
        refine .inl ⟨_, _, byX rfl (Sound1.pl (h21) rfl), ?_⟩
        conv => whnf
        refine ⟨⟨(by omega), (by omega)⟩, ?_⟩
        conv => whnf
        refine ifB_bne (fun w3 => ?_) (fun w3 => ?_)
        · conv => whnf
          refine ⟨?_, nofun⟩
          (rfl)
        · (exfalso; omega)
      · conv => whnf
        refine ⟨?_, nofun⟩
        (rfl)
    · conv => whnf
      refine ⟨[], by kernel_rfl, ?_⟩
      conv => whnf
      refine .inl ⟨_, _, byX rfl (h18), ?_⟩
      conv => whnf
      refine .inl ⟨_, _, byX rfl (h17), ?_⟩
      conv => whnf
      refine ⟨[], by kernel_rfl, ?_⟩
      conv => whnf
      refine .inl ⟨_, _, byX rfl (Sound1.pl (h20) rfl), ?_⟩
      conv => whnf
      refine .inl ⟨_, _, byX rfl (Sound1.pl (h19) rfl), ?_⟩
      conv => whnf
      refine .inl ⟨_, _, byX rfl (Sound1.pl (h21) rfl), ?_⟩
      conv => whnf
      refine ⟨⟨(by omega), (by omega)⟩, ?_⟩
      conv => whnf
      refine ifB_bne (fun w2 => ?_) (fun w2 => ?_)
      · conv => whnf
        refine ⟨?_, nofun⟩
        (rfl)
      · (exfalso; omega)
theorem S3d (p : Pln) (hl : p.sig.length ≤ 9223372036854775807 ∧ p.steps.length ≤ 9223372036854775807) (s : S2) (to : Int) (hf : fewB p = true) (h0 : openE p s noF = 0) (hx : idxE p.steps.length to = 0) (hw : (stp p s).wait = 0 ∧ (p.steps.getD to.toNat stp0).wait = 0) : SP 3 [planA p, stA s, i64 to] (vb true) false := by
  have h14 := S14 p hl
  have h16 := S16 p hl
  have h20 := S20
  rw [hf] at h14
  have hp := FewP.of hf
  have h15 := S15 p hp
  have h18 := S18 p hp
  have h19 := S19 p hp s noF
  have h17 := S17 p hp s to
  unfold fastR at h17
  obtain ⟨hg, hs, hff⟩ := open_ok hp h0
  rw [h0] at h19
  have hm := hg.m
  have h21 := S21 p (by omega) to
  rw [hx] at h21
  have hat := hs.at
  have hto := inX_iff.1 (idxE0 hx)
  have hE : fastE p s to = 0 := by
    unfold fastE
    rw [if_neg (not_not_intro h0), if_neg (not_not_intro hx), if_pos hw]
  have hw1 : (p.steps.getD s.1.toNat stp0).wait = 0 := hw.1
  have hw2 := hw.2
  rw [hE, if_neg (not_not_intro rfl)] at h17
  clear hE
  have h22 := S22 p hg s hs hw.1 to h0
  unfold fasT at h22
  cases hb : bestW p s to 11 with
  | none =>
    rw [hb] at h17 h22
    refine sound (d := 2) tok2 mixed2 Tryd.func3 (by kernel_rfl) (by kernel_rfl) ?_
    conv => whnf
    refine .inl ⟨_, _, byX rfl (Sound1.pl (S13) rfl), ?_⟩
    conv => whnf
    refine .inl ⟨_, _, byX rfl (Sound1.pl (h14) rfl), ?_⟩
    conv => whnf
    refine .inl ⟨_, _, byX rfl (Sound1.pl (h15) rfl), ?_⟩
    conv => whnf
    refine ifB_beq (fun w1 => ?_) (fun w1 => ?_)
    · conv => whnf
      refine .inl ⟨_, _, byX rfl (Sound1.pl (h16) rfl), ?_⟩
      conv => whnf
      refine ifB_not ?_
      conv => whnf
      refine ifB_intro (fun w2 => ?_) (fun w2 => ?_)
      · conv => whnf
        refine ⟨[], by kernel_rfl, ?_⟩
        conv => whnf
        refine .inl ⟨_, _, byX rfl (h18), ?_⟩
        conv => whnf
        refine .inl ⟨_, _, byX rfl (h17), ?_⟩
        conv => whnf
        refine ⟨[], by kernel_rfl, ?_⟩
        conv => whnf
        refine .inl ⟨_, _, byX rfl (Sound1.pl (h20) rfl), ?_⟩
        conv => whnf
        refine .inl ⟨_, _, byX rfl (Sound1.pl (h19) rfl), ?_⟩
        conv => whnf
        refine .inl ⟨_, _, byX rfl (Sound1.pl (h21) rfl), ?_⟩
        conv => whnf
        refine ⟨⟨(by omega), (by omega)⟩, ?_⟩
        conv => whnf
        refine ifB_bne (fun w3 => ?_) (fun w3 => ?_)
        · (exfalso; omega)
        · conv => whnf
          refine ⟨⟨(by omega), (by omega)⟩, ?_⟩
          conv => whnf
          refine ifB_bne (fun w4 => ?_) (fun w4 => ?_)
          · (exfalso; omega)
          · conv => whnf
            refine .inl ⟨_, _, byX rfl (h22), ?_⟩
            conv => whnf
            refine ⟨?_, nofun⟩
            (rfl)
      · conv => whnf
        refine ⟨?_, nofun⟩
        (rfl)
    · conv => whnf
      refine ⟨[], by kernel_rfl, ?_⟩
      conv => whnf
      refine .inl ⟨_, _, byX rfl (h18), ?_⟩
      conv => whnf
      refine .inl ⟨_, _, byX rfl (h17), ?_⟩
      conv => whnf
      refine ⟨[], by kernel_rfl, ?_⟩
      conv => whnf
      refine .inl ⟨_, _, byX rfl (Sound1.pl (h20) rfl), ?_⟩
      conv => whnf
      refine .inl ⟨_, _, byX rfl (Sound1.pl (h19) rfl), ?_⟩
      conv => whnf
      refine .inl ⟨_, _, byX rfl (Sound1.pl (h21) rfl), ?_⟩
      conv => whnf
      refine ⟨⟨(by omega), (by omega)⟩, ?_⟩
      conv => whnf
      refine ifB_bne (fun w2 => ?_) (fun w2 => ?_)
      · (exfalso; omega)
      · conv => whnf
        refine ⟨⟨(by omega), (by omega)⟩, ?_⟩
        conv => whnf
        refine ifB_bne (fun w3 => ?_) (fun w3 => ?_)
        · (exfalso; omega)
        · conv => whnf
          refine .inl ⟨_, _, byX rfl (h22), ?_⟩
          conv => whnf
          refine ⟨?_, nofun⟩
          (rfl)
  | some w =>
    rw [hb] at h17 h22
    obtain ⟨s', _, _, hwl⟩ := best_leads hg hs hw.1 hb
    have h23 := S23 w.1 w.1 (by omega) (by omega)
    rw [decide_eq_true rfl] at h23
    refine sound (d := 2) tok2 mixed2 Tryd.func3 (by kernel_rfl) (by kernel_rfl) ?_
    conv => whnf
    refine .inl ⟨_, _, byX rfl (Sound1.pl (S13) rfl), ?_⟩
    conv => whnf
    refine .inl ⟨_, _, byX rfl (Sound1.pl (h14) rfl), ?_⟩
    conv => whnf
    refine .inl ⟨_, _, byX rfl (Sound1.pl (h15) rfl), ?_⟩
    conv => whnf
    refine ifB_beq (fun w1 => ?_) (fun w1 => ?_)
    · conv => whnf
      refine .inl ⟨_, _, byX rfl (Sound1.pl (h16) rfl), ?_⟩
      conv => whnf
      refine ifB_not ?_
      conv => whnf
      refine ifB_intro (fun w2 => ?_) (fun w2 => ?_)
      · conv => whnf
        refine ⟨[], by kernel_rfl, ?_⟩
        conv => whnf
        refine .inl ⟨_, _, byX rfl (h18), ?_⟩
        conv => whnf
        refine .inl ⟨_, _, byX rfl (h17), ?_⟩
        conv => whnf
        refine ⟨[], by kernel_rfl, ?_⟩
        conv => whnf
        refine .inl ⟨_, _, byX rfl (Sound1.pl (h20) rfl), ?_⟩
        conv => whnf
        refine .inl ⟨_, _, byX rfl (Sound1.pl (h19) rfl), ?_⟩
        conv => whnf
        refine .inl ⟨_, _, byX rfl (Sound1.pl (h21) rfl), ?_⟩
        conv => whnf
        refine ⟨⟨(by omega), (by omega)⟩, ?_⟩
        conv => whnf
        refine ifB_bne (fun w3 => ?_) (fun w3 => ?_)
        · (exfalso; omega)
        · conv => whnf
          refine ⟨⟨(by omega), (by omega)⟩, ?_⟩
          conv => whnf
          refine ifB_bne (fun w4 => ?_) (fun w4 => ?_)
          · (exfalso; omega)
          · conv => whnf
            refine .inl ⟨_, _, byX rfl (h22), ?_⟩
            conv => whnf
            refine ifB_beq (fun w5 => ?_) (fun w5 => ?_)
            · conv => whnf
              refine .inl ⟨_, _, byX rfl (Sound1.pl (h23) rfl), ?_⟩
              conv => whnf
              refine ⟨?_, nofun⟩
              (rfl)
            · (exfalso; omega)
      · conv => whnf
        refine ⟨?_, nofun⟩
        (rfl)
    · conv => whnf
      refine ⟨[], by kernel_rfl, ?_⟩
      conv => whnf
      refine .inl ⟨_, _, byX rfl (h18), ?_⟩
      conv => whnf
      refine .inl ⟨_, _, byX rfl (h17), ?_⟩
      conv => whnf
      refine ⟨[], by kernel_rfl, ?_⟩
      conv => whnf
      refine .inl ⟨_, _, byX rfl (Sound1.pl (h20) rfl), ?_⟩
      conv => whnf
      refine .inl ⟨_, _, byX rfl (Sound1.pl (h19) rfl), ?_⟩
      conv => whnf
      refine .inl ⟨_, _, byX rfl (Sound1.pl (h21) rfl), ?_⟩
      conv => whnf
      refine ⟨⟨(by omega), (by omega)⟩, ?_⟩
      conv => whnf
      refine ifB_bne (fun w2 => ?_) (fun w2 => ?_)
      · (exfalso; omega)
      · conv => whnf
        refine ⟨⟨(by omega), (by omega)⟩, ?_⟩
        conv => whnf
        refine ifB_bne (fun w3 => ?_) (fun w3 => ?_)
        · (exfalso; omega)
        · conv => whnf
          refine .inl ⟨_, _, byX rfl (h22), ?_⟩
          conv => whnf
          refine ifB_beq (fun w4 => ?_) (fun w4 => ?_)
          · conv => whnf
            refine .inl ⟨_, _, byX rfl (Sound1.pl (h23) rfl), ?_⟩
            conv => whnf
            refine ⟨?_, nofun⟩
            (rfl)
          · (exfalso; omega)
theorem S3 (p : Pln) (hl : p.sig.length ≤ 9223372036854775807 ∧ p.steps.length ≤ 9223372036854775807) (s : S2) (to : Int) : SP 3 [planA p, stA s, i64 to] (vb true) false := by
  cases hf : fewB p with
  | false =>
    have h14 := S14 p hl
    rw [hf] at h14
    refine sound (d := 2) tok2 mixed2 Tryd.func3 (by kernel_rfl) (by kernel_rfl) ?_
    conv => whnf
    refine .inl ⟨_, _, byX rfl (Sound1.pl (S13) rfl), ?_⟩
    conv => whnf
    refine .inl ⟨_, _, byX rfl (Sound1.pl (h14) rfl), ?_⟩
    conv => whnf
    refine ⟨?_, nofun⟩
    (rfl)
  | true =>
    by_cases h0 : openE p s noF = 0
    · by_cases hx : idxE p.steps.length to = 0
      · by_cases hw : (stp p s).wait = 0 ∧ (p.steps.getD to.toNat stp0).wait = 0
        · exact S3d p hl s to hf h0 hx hw
        · exact S3c p hl s to hf h0 hx hw
      · exact S3b p hl s to hf h0 hx
    · exact S3a p hl s to hf h0
end Go.Tr

/- The opening of a law: what an argument reads as, as abstract values, with its shape. Conditions: types of numbers, truth values, strings, slices, structs and arrays. -/
namespace Go.Tr
open Go Go.RowKit

def V2 (P : Program) (w : World) (q : Nat → Prop) : List AV → List Value → Prop
  | [], [] => True
  | x :: xs, v :: vs => (VT P w q x v ∧ v.oneCell' = true) ∧ V2 P w q xs vs
  | _, _ => False

def All2 {α β : Type} (p : α → β → Prop) : List α → List β → Prop
  | [], [] => True
  | x :: xs, y :: ys => p x y ∧ All2 p xs ys
  | _, _ => False

/-- The shape of what a type's cells read as. -/
def TyC (P : Program) : Nat → TypeId → List AV → Prop
  | 0, _, _ => True
  | m + 1, t, xs => match P.underlying t with
    | some .bool => ∃ b, xs = [.val (.bool b)]
    | some (.int k) => ∃ n, xs = [.val (.int k n)] ∧ inK k n
    | some .string => ∃ s : ByteArray, xs = [.val (.string s)] ∧ s.size ≤ 9223372036854775807
    | some (.slice e) => ∃ len f, xs = [.rslice (P.cellsOf e) len f] ∧ len ≤ 9223372036854775807 ∧ ∀ i, i < len → TyC P m e (f i)
    | some (.struct fs) => ∃ ps : List (List AV), xs = ps.flatten ∧ All2 (fun f p => TyC P m f.type p) fs.toList ps
    | some (.array n e) => ∃ ps : List (List AV), xs = ps.flatten ∧ ps.length = n ∧ ∀ p ∈ ps, TyC P m e p
    | _ => False

def layF (P : Program) (g : TypeId → Bool) : List Field → Nat → Nat → Bool
  | [], off, tot => Nat.beq off tot
  | f :: r, off, tot => Nat.beq f.offset off && g f.type && layF P g r (off + P.cellsOf f.type) tot

/-- Types that are covered, laid out part behind part. -/
def lay (P : Program) : Nat → TypeId → Bool
  | 0, _ => false
  | m + 1, t => match P.underlying t with
    | some .bool | some (.int _) | some .string => true
    | some (.slice e) => Nat.blt 0 (P.cellsOf e) && lay P m e
    | some (.struct fs) => layF P (lay P m) fs.toList 0 (P.cellsOf t)
    | some (.array n e) => Nat.beq (P.cellsOf t) (n * P.cellsOf e) && lay P m e
    | _ => false

section
variable {H : Type} {enc : TypeId × Value → H} {P : Program} {w : World} {spare : Nat → Bool} {held : Bool} {q : Nat → Prop}

theorem V2_len : ∀ {xs : List AV} {vs : List Value}, V2 P w q xs vs → xs.length = vs.length
  | [], [], _ => rfl
  | x :: xs, v :: vs, h => by simp [V2_len h.2]
  | [], _ :: _, h => h.elim
  | _ :: _, [], h => h.elim

theorem V2_append : ∀ {xs : List AV} {vs : List Value} {ys : List AV} {us : List Value}, V2 P w q xs vs → V2 P w q ys us → V2 P w q (xs ++ ys) (vs ++ us)
  | [], [], _, _, _, h => h
  | _ :: _, _ :: _, _, _, h, h' => ⟨h.1, V2_append h.2 h'⟩
  | [], _ :: _, _, _, h, _ => h.elim
  | _ :: _, [], _, _, h, _ => h.elim

theorem V2_get : ∀ {xs : List AV} {vs : List Value}, V2 P w q xs vs → ∀ (i : Nat) x, xs[i]? = some x → VT P w q x (vs.getD i undef) ∧ (vs.getD i undef).oneCell' = true
  | [], [], _, i, x, hx => by simp at hx
  | y :: ys, v :: vs, h, 0, x, hx => by
    simp at hx
    subst hx
    simpa using h.1
  | y :: ys, v :: vs, h, i + 1, x, hx => by
    have := V2_get h.2 i x (by simpa using hx)
    simpa using this
  | [], _ :: _, h, _, _, _ => h.elim
  | _ :: _, [], h, _, _, _ => h.elim

theorem mapM_cons_some {α β : Type} {f : α → Option β} {a : α} {l : List α} {r : List β} (h : (a :: l).mapM f = some r) : ∃ b bs, f a = some b ∧ l.mapM f = some bs ∧ r = b :: bs := by
  rw [List.mapM_cons] at h
  cases ha : f a with
  | none => simp [ha] at h
  | some b =>
    cases hl : l.mapM f with
    | none => simp [ha, hl] at h
    | some bs => simp [ha, hl] at h; exact ⟨b, bs, rfl, rfl, h.symm⟩

theorem mapM_get {α β : Type} {f : α → Option β} : ∀ {l : List α} {r : List β}, l.mapM f = some r → r.length = l.length ∧ ∀ (i : Nat) x, l[i]? = some x → ∃ y, f x = some y ∧ r[i]? = some y
  | [], r, h => by simp at h; subst h; exact ⟨rfl, fun i x hx => by simp at hx⟩
  | a :: l, r, h => by
    obtain ⟨b, bs, h1, h2, rfl⟩ := mapM_cons_some h
    obtain ⟨g1, g2⟩ := mapM_get h2
    refine ⟨by simp [g1], fun i x hx => ?_⟩
    cases i with
    | zero => simp at hx; subst hx; exact ⟨b, h1, rfl⟩
    | succ i => simpa using g2 i x (by simpa using hx)

theorem cells_some {a : Addr} {n : Nat} {cs : List Value} (h : w.cells? 0 a n = some cs) : cs.length = n ∧ ∀ j, j < n → w.cell? (a.add j) = some (cs.getD j undef) := by
  unfold World.cells? at h
  rw [if_pos (Nat.zero_le _)] at h
  obtain ⟨h1, h2⟩ := mapM_get h
  refine ⟨by simpa using h1, fun j hj => ?_⟩
  obtain ⟨y, h3, h4⟩ := h2 j j (by simp [hj])
  rw [h3, List.getD_eq_getElem?_getD, h4]
  rfl

theorem cell_spot {a : Addr} {v : Value} (h : w.cell? a = some v) : a.spot = none ∧ a.block < w.heap.size := by
  unfold World.cell? at h
  split at h
  · rename_i c t fr hb
    refine ⟨?_, ?_⟩
    · cases hs : a.spot with
      | none => rfl
      | some s => simp [hs] at h
    · exact (Array.getElem?_eq_some_iff.1 hb).1
  · cases h

theorem addr_add2 (blk off u j : Nat) : ((⟨blk, off, none⟩ : Addr).add u).add j = ⟨blk, off + (u + j), none⟩ := by
  unfold Addr.add
  by_cases h1 : u = 0
  · subst h1
    by_cases h2 : j = 0
    · subst h2; rfl
    · simp [h2]
  · by_cases h2 : j = 0
    · subst h2; simp [h1]
    · simp [h1, h2, Nat.add_assoc]

theorem fields_av {g : TypeId → List Value → Option (DataW H × List MemPlace)} {T : TypeId → List AV → Prop} {ly : TypeId → Bool}
    (ih : ∀ t, ly t = true → ∀ cs x, g t cs = some x → ∃ xs, V2 P w q xs cs ∧ T t xs) (cs : List Value) : ∀ (fs : List Field) (off : Nat) (r : List (DataW H × List MemPlace)), layF P ly fs off cs.length = true →
    (fs.mapM fun f => g f.type ((cs.drop f.offset).take (P.cellsOf f.type))) = some r → ∃ ps : List (List AV), V2 P w q ps.flatten (cs.drop off) ∧ All2 (fun f p => T f.type p) fs ps
  | [], off, r, hl, h => by
    have := Nat.eq_of_beq_eq_true hl
    subst this
    exact ⟨[], by simp [V2], trivial⟩
  | f :: fs, off, r, hl, h => by
    simp only [layF, Bool.and_eq_true] at hl
    obtain ⟨⟨h1, h2⟩, h3⟩ := hl
    have e := Nat.eq_of_beq_eq_true h1
    obtain ⟨b, bs, g1, g2, rfl⟩ := mapM_cons_some h
    obtain ⟨p, p1, p2⟩ := ih _ h2 _ _ g1
    obtain ⟨ps, r1, r2⟩ := fields_av ih cs fs _ _ h3 g2
    refine ⟨p :: ps, ?_, p2, r2⟩
    rw [List.flatten_cons]
    have : cs.drop off = (cs.drop f.offset).take (P.cellsOf f.type) ++ cs.drop (off + P.cellsOf f.type) := by
      rw [e, ← List.drop_drop]
      exact (List.take_append_drop _ _).symm
    rw [this]
    exact V2_append p1 r1

theorem items_av {g : List Value → Option (DataW H × List MemPlace)} {T : List AV → Prop} (ih : ∀ cs x, g cs = some x → ∃ xs, V2 P w q xs cs ∧ T xs) (cs : List Value) (s n : Nat) (hn : cs.length = n * s)
    (h : ∀ i, i < n → ∃ x, g ((cs.drop (i * s)).take s) = some x) : ∀ (k i : Nat), i + k = n → ∃ ps : List (List AV), V2 P w q ps.flatten (cs.drop (i * s)) ∧ ps.length = k ∧ ∀ p ∈ ps, T p
  | 0, i, hi => by
    have : i = n := by omega
    subst this
    refine ⟨[], ?_, rfl, nofun⟩
    rw [List.drop_eq_nil_of_le (by omega)]
    exact trivial
  | k + 1, i, hi => by
    obtain ⟨x, hx⟩ := h i (by omega)
    obtain ⟨p, p1, p2⟩ := ih _ _ hx
    obtain ⟨ps, r1, r2, r3⟩ := items_av ih cs s n hn h k (i + 1) (by omega)
    refine ⟨p :: ps, ?_, by simp [r2], fun y hy => ?_⟩
    · rw [List.flatten_cons]
      have : cs.drop (i * s) = (cs.drop (i * s)).take s ++ cs.drop ((i + 1) * s) := by
        rw [Nat.succ_mul, ← List.drop_drop]
        exact (List.take_append_drop _ _).symm
      rw [this]
      exact V2_append p1 r1
    · rcases List.mem_cons.1 hy with rfl | hy
      · exact p2
      · exact r3 y hy

theorem trod_av (hq : ∀ b, b < w.heap.size → q b) : ∀ (m : Nat) (t : TypeId), lay P m t = true → ∀ (fuel : Nat) (cs : List Value) (x : DataW H × List MemPlace), DataW.trod enc P w 0 spare held fuel t cs = some x → ∃ xs, V2 P w q xs cs ∧ TyC P m t xs
  | 0, t, hl, _, _, _, _ => by simp [lay] at hl
  | m + 1, t, hl, 0, cs, x, h => by simp [DataW.trod] at h
  | m + 1, t, hl, fuel + 1, cs, x, h => by
    unfold lay at hl
    unfold TyC
    unfold DataW.trod at h
    cases hu : P.underlying t with
    | none => simp [hu] at hl
    | some d =>
      simp only [hu] at hl h ⊢
      cases d with
      | bool =>
        split at h <;> first | (cases h; done) | (rename_i e; cases e; done) | skip
        cases h
        exact ⟨[.val (.bool _)], ⟨⟨.val _, rfl⟩, trivial⟩, _, rfl⟩
      | int k =>
        split at h <;> first | (cases h; done) | (rename_i e; cases e; done) | skip
        rename_i e
        cases e
        split at h
        · rename_i hk
          obtain ⟨rfl, hw⟩ := hk
          simp only [Lit.wf, Bool.and_eq_true, decide_eq_true_eq] at hw
          exact ⟨[.val (.int _ _)], ⟨⟨.val _, rfl⟩, trivial⟩, _, rfl, hw⟩
        · cases h
      | string =>
        split at h <;> first | (cases h; done) | (rename_i e; cases e; done) | skip
        split at h
        · rename_i hs
          exact ⟨[.val (.string _)], ⟨⟨.val _, rfl⟩, trivial⟩, _, rfl, hs⟩
        · cases h
      | slice e =>
        simp only [Bool.and_eq_true] at hl
        split at h <;> first | (cases h; done) | (rename_i e; cases e; done) | skip
        · exact ⟨[.rslice (P.cellsOf e) 0 fun _ => []], ⟨⟨.rslice0 _ _ _ _, rfl⟩, trivial⟩, _, _, rfl, by omega, fun i hi => absurd hi (Nat.not_lt_zero i)⟩
        · rename_i e0 a len cap e1
          cases e1
          split at h
          case isFalse => cases h
          rename_i hb
          have hes : 0 < P.cellsOf e := Nat.le_of_ble_eq_true hl.1
          cases hM : (List.range len).mapM fun i => (w.cells? 0 (a.add (i * P.cellsOf e)) (P.cellsOf e)).bind (DataW.trod enc P w 0 spare held fuel e) with
          | none => rw [hM] at h; cases h
          | some elems =>
            obtain ⟨_, g2⟩ := mapM_get hM
            have hx : ∀ i, ∃ xs : List AV, i < len → ∃ cs, (cs.length = P.cellsOf e ∧ ∀ j, j < P.cellsOf e → w.cell? ((a.add (i * P.cellsOf e)).add j) = some (cs.getD j undef)) ∧ V2 P w q xs cs ∧ TyC P m e xs := fun i => by
              by_cases hi : i < len
              · obtain ⟨y, y1, _⟩ := g2 i i (by simp [hi])
                cases hc : w.cells? 0 (a.add (i * P.cellsOf e)) (P.cellsOf e) with
                | none => rw [hc] at y1; cases y1
                | some cs1 =>
                  rw [hc] at y1
                  obtain ⟨xs, x1, x2⟩ := trod_av hq m e hl.2 _ _ _ y1
                  exact ⟨xs, fun _ => ⟨cs1, cells_some hc, x1, x2⟩⟩
              · exact ⟨[], fun h => absurd h hi⟩
            have hf := fun i => (Classical.choose_spec (hx i))
            generalize hF : (fun i => Classical.choose (hx i)) = F
            have hf : ∀ i, i < len → ∃ cs, (cs.length = P.cellsOf e ∧ ∀ j, j < P.cellsOf e → w.cell? ((a.add (i * P.cellsOf e)).add j) = some (cs.getD j undef)) ∧ V2 P w q (F i) cs ∧ TyC P m e (F i) := fun i hi => by
              have := Classical.choose_spec (hx i) hi
              rw [← hF]
              exact this
            refine ⟨[.rslice (P.cellsOf e) len F], ⟨⟨?_, rfl⟩, trivial⟩, len, F, rfl, ?_, fun i hi => ?_⟩
            · rcases Nat.eq_zero_or_pos len with rfl | hp
              · exact .rslice0 _ _ _ _
              · obtain ⟨cs0, c1, _, _⟩ := hf 0 hp
                have hc0 := c1.2 0 hes
                have e0 : ((a.add (0 * P.cellsOf e)).add 0) = a := by simp [Addr.add]
                rw [e0] at hc0
                obtain ⟨s1, s2⟩ := cell_spot hc0
                obtain ⟨blk, off, spot⟩ := a
                simp only at s1 s2
                subst s1
                have hG : ∀ i, ∃ cs : List Value, i < len → (cs.length = P.cellsOf e ∧ ∀ j, j < P.cellsOf e → w.cell? (((⟨blk, off, none⟩ : Addr).add (i * P.cellsOf e)).add j) = some (cs.getD j undef)) ∧ V2 P w q (F i) cs := fun i => by
                  by_cases hi : i < len
                  · obtain ⟨cs, c1, c2, _⟩ := hf i hi
                    exact ⟨cs, fun _ => ⟨c1, c2⟩⟩
                  · exact ⟨[], fun h => absurd h hi⟩
                refine .rslice _ _ _ blk off cap (fun i j => (Classical.choose (hG i)).getD j undef) hb.2.1 (hq _ s2) (fun i hi => ?_) (fun i j hi hj => ?_) (fun i j x hi hx => ?_)
                · obtain ⟨c1, c2⟩ := Classical.choose_spec (hG i) hi
                  rw [V2_len c2, c1.1]
                · obtain ⟨c1, c2⟩ := Classical.choose_spec (hG i) hi
                  have hc := c1.2 j hj
                  have ea : ((⟨blk, off, none⟩ : Addr).add (i * P.cellsOf e)).add j = ⟨blk, off + (i * P.cellsOf e + j), none⟩ := by
                    exact addr_add2 blk off _ j
                  rw [ea] at hc
                  refine ⟨hc, ?_⟩
                  have hlt : j < (F i).length := by rw [V2_len c2, c1.1]; exact hj
                  exact (V2_get c2 j _ (List.getElem?_eq_getElem hlt)).2
                · obtain ⟨c1, c2⟩ := Classical.choose_spec (hG i) hi
                  exact (V2_get c2 j x hx).1
            · have := hb.2.2
              unfold maxLen at this
              omega
            · obtain ⟨_, _, _, h3⟩ := hf i hi
              exact h3
      | struct fs =>
        replace h : (if cs.length = P.cellsOf t then (fs.toList.mapM fun f => DataW.trod enc P w 0 spare held fuel f.type ((cs.drop f.offset).take (P.cellsOf f.type))).map fun xs => (.agg (xs.map (·.1)), xs.flatMap (·.2)) else none) = some x := h
        split at h
        case isFalse => cases h
        rename_i hc
        cases hM : fs.toList.mapM fun f => DataW.trod enc P w 0 spare held fuel f.type ((cs.drop f.offset).take (P.cellsOf f.type)) with
        | none => rw [hM] at h; cases h
        | some r =>
          obtain ⟨ps, p1, p2⟩ := fields_av (T := TyC P m) (ly := lay P m) (fun t ht cs x hx => trod_av hq m t ht fuel cs x hx) cs fs.toList 0 r (by rw [hc]; exact hl) hM
          exact ⟨ps.flatten, by simpa using p1, ps, rfl, p2⟩
      | array n e =>
        simp only [Bool.and_eq_true] at hl
        replace h : (if cs.length = P.cellsOf t then ((List.range n).mapM fun i => DataW.trod enc P w 0 spare held fuel e ((cs.drop (i * P.cellsOf e)).take (P.cellsOf e))).map fun xs => (.agg (xs.map (·.1)), xs.flatMap (·.2)) else none) = some x := h
        split at h
        case isFalse => cases h
        rename_i hc
        cases hM : (List.range n).mapM fun i => DataW.trod enc P w 0 spare held fuel e ((cs.drop (i * P.cellsOf e)).take (P.cellsOf e)) with
        | none => rw [hM] at h; cases h
        | some r =>
          obtain ⟨_, g2⟩ := mapM_get hM
          obtain ⟨ps, p1, p2, p3⟩ := items_av (T := TyC P m e) (fun cs x hx => trod_av hq m e hl.2 fuel cs x hx) cs (P.cellsOf e) n (by rw [hc]; exact Nat.eq_of_beq_eq_true hl.1)
            (fun i hi => by obtain ⟨y, y1, _⟩ := g2 i i (by simp [hi]); exact ⟨y, y1⟩) n 0 (by omega)
          exact ⟨ps.flatten, by simpa using p1, ps, rfl, p2, p3⟩
      | _ => simp at hl

/-- The shape of an argument. -/
def TyA (P : Program) (m : Nat) (t : TypeId) (x : AV) : Prop :=
  match P.underlying t with
  | some (.struct _) | some (.array _ _) => ∃ xs, x = .agg xs ∧ TyC P m t xs
  | _ => TyC P m t [x]

/-- An argument of a law, as an abstract value. -/
theorem open_av {r : Reach} {b0 : Nat} {t : TypeId} {v : Value} {d : DataW H} {ps : List MemPlace} {m : Nat} (hl : lay P m t = true) (hq : ∀ b, b < w.heap.size → q b)
    (hv : Value.okWide P w r b0 t v) (hd : DataW.Trod enc P w 0 spare held t v d ps) : ∃ x, VT P w q x v ∧ TyA P m t x := by
  obtain ⟨fuel, hf⟩ := hd
  obtain ⟨xs, h1, h2⟩ := trod_av hq m t hl fuel _ _ hf
  have agg : ∀ cs, v = .agg cs → VT P w q (.agg xs) v := by
    rintro cs rfl
    have hlen := V2_len h1
    refine .agg xs cs (by rw [hlen]; simp [Value.cells]) (fun u hu => ?_) (fun i x hx => ?_)
    · obtain ⟨i, hi, rfl⟩ := List.getElem_of_mem hu
      have hx : i < xs.length := by rw [hlen]; simpa [Value.cells] using hi
      have := (V2_get h1 i _ (List.getElem?_eq_getElem hx)).2
      have hi' : i < cs.size := by simpa using hi
      simpa [Value.cells, List.getD_eq_getElem?_getD, hi'] using this
    · have := (V2_get h1 i x hx).1
      simpa [Value.cells, List.getD_eq_getElem?_getD, Array.getD_eq_getD_getElem?] using this
  have one : ∀ u, v.cells.toList = [u] → v = u → ∃ x, VT P w q x v ∧ TyC P m t [x] := by
    rintro u e rfl
    rw [e] at h1
    match xs, h1, h2 with
    | [x], h1, h2 => exact ⟨x, h1.1.1, h2⟩
  unfold TyA
  unfold Value.okWide at hv
  split
  · rename_i fs hu
    simp only [hu] at hv
    obtain ⟨cs, e, _, _⟩ := hv
    exact ⟨_, agg cs e, xs, rfl, h2⟩
  · rename_i n e hu
    simp only [hu] at hv
    obtain ⟨cs, e, _, _⟩ := hv
    exact ⟨_, agg cs e, xs, rfl, h2⟩
  · rename_i n1 n2
    have hc : Cell.okWide P w r b0 t v := by
      split at hv
      · rename_i hu; exact absurd hu (n1 _)
      · rename_i hu; exact absurd hu (n2 _ _)
      · exact hv
    cases v with
    | agg cs =>
      simp only [Cell.okWide] at hc
      split at hc <;> first | (rename_i e _; cases e; done) | (rename_i e; cases e; done) | (simp [Cell.ok] at hc)
    | tuple cs =>
      simp only [Cell.okWide] at hc
      split at hc <;> first | (rename_i e _; cases e; done) | (rename_i e; cases e; done) | (simp [Cell.ok] at hc)
    | _ => exact one _ rfl rfl
end
end Go.Tr

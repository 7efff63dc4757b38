/- The law WaterKept returns true. Conditions: none. -/
import Derived.Test.YtkomdfgffgkphaaTr09
import Derived.Test.YtkomdfgffgkphaaTr08
import Derived.Test.YtkomdfgffgkphaaRows
import Derived.Test.YtkomdfgffgkphaaTr05
import Derived.ProofKit

namespace Go.Tr
open Go Go.Proofs
set_option maxRecDepth 20000
set_option maxHeartbeats 8000000

theorem S41w (f : Int) (hf : -1000000 ≤ f) (hf2 : f ≤ 1000000) : SP 41 [i64 f] (i64 (sizeF f)) false := by
  refine sound (d := 2) tok2 mixed2 Try.func41 (by kernel_rfl) (by kernel_rfl) ?_
  refine ⟨inK64 (by omega) (by omega), ?_⟩
  refine ⟨?_, nofun⟩
  rfl
theorem S21ex (q : Int) : ∃ E, SP 21 [i64 q] (i64 E) false ∧ (-200000 ≤ q ∧ q ≤ 200000 ∧ E = 0 ∧ crE q = 0 ∨ E = 2) := by
  refine ⟨_, S21 q, ?_⟩
  by_cases h : -200000 ≤ q ∧ q ≤ 200000
  · rw [if_pos h]; exact .inl ⟨h.1, h.2, rfl, by unfold crE; rw [decide_eq_true h]; rfl⟩
  · rw [if_neg h]; exact .inr rfl
theorem inflow_drop {cs : List Cn} {f : List Int} {k : Nat} (h : k < cs.length) (hl : f.length = cs.length) (u : Nat) : inflow (cs.drop k) (f.drop k) u = f.getD k 0 * ((if (cs.getD k cn0).to.toNat = u then 1 else 0) - (if (cs.getD k cn0).fr.toNat = u then 1 else 0)) + inflow (cs.drop (k + 1)) (f.drop (k + 1)) u := by
  have e : cs.getD k cn0 = cs[k] := by simp [List.getD_eq_getElem?_getD, h]
  have e2 : f.getD k 0 = f[k]'(by omega) := by simp [List.getD_eq_getElem?_getD, show k < f.length by omega]
  rw [List.drop_eq_getElem_cons h, List.drop_eq_getElem_cons (show k < f.length by omega), inflow, e, e2]
theorem left_step {y : List Int} {a b : Nat} (f : Int) (ha : a < y.length) (hb : b < y.length) (hne : a ≠ b) (u : Nat) :
    ((y.set a (y.getD a 0 - f)).set b (y.getD b 0 + f)).getD u 0 = y.getD u 0 + f * ((if b = u then 1 else 0) - (if a = u then 1 else 0)) := by
  rw [getD_setI]
  by_cases h1 : u = b
  · rw [if_pos ⟨h1, by simpa using hb⟩, if_pos h1.symm, if_neg (by omega), h1]; omega
  · rw [if_neg (fun h => h1 h.1), if_neg (fun h => h1 h.symm), getD_setI]
    by_cases h2 : u = a
    · rw [if_pos ⟨h2, ha⟩, if_pos h2.symm, h2]; omega
    · rw [if_neg (fun h => h2 h.1), if_neg (fun h => h2 h.symm)]; omega
structure LeftOk (N : Net) (f : List Int) (k : Nat) (y : List Int) : Prop where
  l : y.length = N.ns.length
  bd : ∀ u, -((k : Int) * 2000000) ≤ y.getD u 0 ∧ y.getD u 0 ≤ (k : Int) * 2000000
  sum : ∀ u, y.getD u 0 + inflow (N.cs.drop k) (f.drop k) u = inflow N.cs f u
theorem left_init (N : Net) (f : List Int) : LeftOk N f 0 (List.replicate N.ns.length 0) where
  l := by simp
  bd := fun u => by
    have e : (List.replicate N.ns.length (0 : Int)).getD u 0 = 0 := by
      simp only [List.getD_eq_getElem?_getD, List.getElem?_replicate]; split <;> rfl
    omega
  sum := fun u => by
    have e : (List.replicate N.ns.length (0 : Int)).getD u 0 = 0 := by
      simp only [List.getD_eq_getElem?_getD, List.getElem?_replicate]; split <;> rfl
    rw [e, List.drop_zero, List.drop_zero]; omega
theorem left_next {N : Net} {f : List Int} {k : Nat} {y : List Int} (hok : N.Ok) (hf : f.length = N.cs.length) (hbd : ∀ i, -1000000 ≤ f.getD i 0 ∧ f.getD i 0 ≤ 1000000) (h : LeftOk N f k y) (hk : k < N.cs.length) :
    LeftOk N f (k + 1) ((y.set (N.cs.getD (k : Int).toNat cn0).fr.toNat (y.getD (0 + (N.cs.getD (k : Int).toNat cn0).fr.toNat) 0 - f.getD (k : Int).toNat 0)).set (N.cs.getD (k : Int).toNat cn0).to.toNat (y.getD (0 + (N.cs.getD (k : Int).toNat cn0).to.toNat) 0 + f.getD (k : Int).toNat 0)) := by
  rw [Int.toNat_natCast, Nat.zero_add, Nat.zero_add]
  have hl := h.l
  have he := hok.ends (N.cs.getD k cn0) (mem_getD hk)
  have hne := (hok.con (N.cs.getD k cn0) (mem_getD hk)).1
  have hs := left_step (y := y) (f.getD k 0) (a := (N.cs.getD k cn0).fr.toNat) (b := (N.cs.getD k cn0).to.toNat) (by omega) (by omega) (by omega)
  refine ⟨by simpa using hl, fun u => ?_, fun u => ?_⟩
  · have a := h.bd u
    have b := hbd k
    rw [hs u]
    split <;> split <;> omega
  · have a := h.sum u
    rw [inflow_drop hk hf] at a
    rw [hs u]; omega
theorem left_end {N : Net} {f : List Int} {y : List Int} (h : LeftOk N f N.cs.length y) (u : Nat) : y.getD u 0 = inflow N.cs f u := by
  have := h.sum u
  rw [List.drop_length] at this
  have e : inflow [] (f.drop N.cs.length) u = 0 := by cases f.drop N.cs.length <;> rfl
  omega
set_option maxHeartbeats 0 in
theorem S6 (N : Net) (hN : N.In) (q0 q1 : Int) : SP 6 [netV N, .agg [i64 q0, i64 q1]] (vb true) false := by
  have h15 := S15 N hN
  cases hf : fewB N with
  | false =>
    rw [hf] at h15
    refine sound (d := 2) tok2 mixed2 Try.func6 (by kernel_rfl) (by kernel_rfl) ?_
    conv => whnf
    refine .inl ⟨_, _, byX rfl (Sound1.pl (S14) rfl), ?_⟩
    conv => whnf
    refine .inl ⟨_, _, byX rfl (Sound1.pl (h15) rfl), ?_⟩
    conv => whnf
    refine ⟨?_, nofun⟩
    (rfl)
  | true =>
    rw [hf] at h15
    obtain ⟨b1, b2⟩ := few_bounds hf
    have h38 := S38 N hN
    obtain ⟨E0, h21a, e0⟩ := S21ex q0
    obtain ⟨E1, h21b, e1⟩ := S21ex q1
    by_cases hF : formE N = 0
    · rcases e0 with ⟨a1, a2, rfl, a4⟩ | rfl
      · rcases e1 with ⟨c1, c2, rfl, c4⟩ | rfl
        · by_cases hq : q0 > q1
          · refine sound (d := 2) tok2 mixed2 Try.func6 (by kernel_rfl) (by kernel_rfl) ?_
            conv => whnf
            refine .inl ⟨_, _, byX rfl (Sound1.pl (S14) rfl), ?_⟩
            conv => whnf
            refine .inl ⟨_, _, byX rfl (Sound1.pl (h15) rfl), ?_⟩
            conv => whnf
            refine .inl ⟨_, _, byX rfl (Sound1.pl (h38) rfl), ?_⟩
            conv => whnf
            refine ifB_bne (fun w1 => ?_) (fun w1 => ?_)
            · (exfalso; omega)
            · conv => whnf
              refine ⟨⟨(by omega), (by omega)⟩, ?_⟩
              conv => whnf
              refine .inl ⟨_, _, byX rfl (Sound1.pl (h21a) rfl), ?_⟩
              conv => whnf
              refine ⟨⟨(by omega), (by omega)⟩, ?_⟩
              conv => whnf
              refine .inl ⟨_, _, byX rfl (Sound1.pl (h21b) rfl), ?_⟩
              conv => whnf
              refine ⟨⟨(by omega), (by omega)⟩, ?_⟩
              conv => whnf
              refine ⟨⟨(by omega), (by omega)⟩, ?_⟩
              conv => whnf
              refine ifB_dec (fun w2 => ?_) (fun w2 => ?_)
              · conv => whnf
                refine ⟨?_, nofun⟩
                (rfl)
              · (exfalso; omega)
          · have h17 := S17 N (by omega) (by omega)
            have hfo := formE_ok hF
            have hok := net_ok hfo.1
            have hS := stOk hok
            have h39 := S39 N hN
            have hnb := hok.n1
            have hcb := hok.c1
            have hcl := hS.cl
            by_cases hc : 0 ≤ (clF N).1
            · have hE : closE N = 0 := by unfold closE; rw [if_pos hF, if_pos hc]
              rw [if_pos hE, hE] at h39
              have hst : stateE N q0 = 0 := by unfold stateE; rw [if_pos hF, if_pos a4, if_pos (.inr hc)]
              have h40 := S40 N hN q0
              rw [if_pos hst, hst] at h40
              have hK := kept_ok hok hfo.2 (q := q0) ⟨a1, a2⟩
              have h42a := S42 N hN q0
              have h42b := S42 N hN q1
              have g0 : gapErr N q0 = 0 := by unfold gapErr; rw [if_pos hE, a4]
              have g1 : gapErr N q1 = 0 := by unfold gapErr; rw [if_pos hE, c4]
              rw [if_pos g0, g0] at h42a
              rw [if_pos g1, g1] at h42b
              have hec := hok.ends (N.cs.getD (clF N).1.toNat cn0) (mem_getD (by omega))
              have hcc := hok.con (N.cs.getD (clF N).1.toNat cn0) (mem_getD (by omega))
              have hmono := gap_mono hS hc hcc.1 (show q0 ≤ q1 by omega)
              have hgap : gapF N (brF N) (clF N).1 q0 = lossF (N.cs.getD (clF N).1.toNat cn0).res q0 - ((stateF N (brF N) (clF N).1 q0).2.getD (N.cs.getD (clF N).1.toNat cn0).fr.toNat 0 - (stateF N (brF N) (clF N).1 q0).2.getD (N.cs.getD (clF N).1.toNat cn0).to.toNat 0) := rfl
              generalize stateF N (brF N) (clF N).1 q0 = s at h40 hK hgap
              have hl1 := hK.l1
              have hl2 := hK.l2
              unfold stA at h40
              rw [ints_n hl1, ints_n hl2] at h40
              clear hst g0 g1 hE h38
              have h38 := S38 N hN
              rw [hF] at h38
              refine sound (d := 2) tok2 mixed2 Try.func6 (by kernel_rfl) (by kernel_rfl) ?_
              conv => whnf
              refine .inl ⟨_, _, byX rfl (Sound1.pl (S14) rfl), ?_⟩
              conv => whnf
              refine .inl ⟨_, _, byX rfl (Sound1.pl (h15) rfl), ?_⟩
              conv => whnf
              refine .inl ⟨_, _, byX rfl (Sound1.pl (h38) rfl), ?_⟩
              conv => whnf
              refine ⟨⟨(by omega), (by omega)⟩, ?_⟩
              conv => whnf
              refine .inl ⟨_, _, byX rfl (Sound1.pl (h21a) rfl), ?_⟩
              conv => whnf
              refine ⟨⟨(by omega), (by omega)⟩, ?_⟩
              conv => whnf
              refine .inl ⟨_, _, byX rfl (Sound1.pl (h21b) rfl), ?_⟩
              conv => whnf
              refine ⟨⟨(by omega), (by omega)⟩, ?_⟩
              conv => whnf
              refine ⟨⟨(by omega), (by omega)⟩, ?_⟩
              conv => whnf
              refine ifB_dec (fun w1 => ?_) (fun w1 => ?_)
              · (exfalso; omega)
              · conv => whnf
                refine .inl ⟨_, _, byX rfl (h17), ?_⟩
                conv => whnf
                refine .inl ⟨_, _, byX rfl (Sound1.pl (h39) rfl), ?_⟩
                conv => whnf
                refine ⟨⟨(by omega), (by omega)⟩, ?_⟩
                conv => whnf
                refine .inl ⟨_, _, byX rfl (h17), ?_⟩
                conv => whnf
                refine .inl ⟨_, _, byX rfl (h40), ?_⟩
                conv => whnf
                refine ifB_bne (fun w2 => ?_) (fun w2 => ?_)
                · (exfalso; omega)
                · conv => whnf
                  refine ifB_bne (fun w3 => ?_) (fun w3 => ?_)
                  · (exfalso; omega)
                  · conv => whnf
                    refine ⟨⟨(by omega), ⟨(by omega), ⟨(by omega), (by show _ * ((8 : Nat) : Int) ≤ _; omega)⟩⟩⟩, ?_⟩
                    conv => whnf
                    refine ⟨[], [2, 3, 5, 7, 8, 10, 11], fun st mq => ∃ (k : Nat) (y : List Int), (k ≤ N.cs.length) ∧ (LeftOk N s.1 k y) ∧ st = ⟨[(2, .optr 0 0 0 0), (3, .optr 1 0 0 0), (5, i64 (clF N).1), (7, i64 q0), (8, .optr 2 0 0 0), (10, .oslice 3 0 0 N.ns.length (some N.ns.length)), (11, i64 k)], ⟨[⟨2, 1, fun _ => [listA 4 ndC nd0 N.ns, listA 6 cnC cn0 N.cs], 0, false, true, true⟩, ⟨2, 1, fun _ => [i64 q0, i64 q1], 0, false, true, true⟩, ⟨2, 1, fun _ => [.rslice 1 N.cs.length fun i => [i64 (s.1.getD i 0)], .rslice 1 N.ns.length fun i => [i64 (s.2.getD i 0)]], 0, false, true, true⟩, ⟨1, N.ns.length, fun i => [i64 (y.getD i 0)], 0, false, true, false⟩], [], none, 0⟩, []⟩ ∧ mq = N.cs.length - k,
                      ⟨_, _, ⟨0, List.replicate N.ns.length 0, by omega, left_init N s.1, rfl, rfl⟩, ⟨⟨rfl, rfl, rfl, rfl⟩, ⟨⟨rfl, rfl, rfl, rfl, fun _ => rfl, fun _ _ => rfl⟩, ⟨⟨rfl, rfl, rfl, rfl, fun _ => rfl, fun _ _ => rfl⟩, ⟨⟨rfl, rfl, rfl, rfl, fun _ => rfl, fun _ _ => rfl⟩, ⟨⟨rfl, rfl, rfl, rfl, fun _ => rfl, fun i _ => rep_rowI _ i⟩, trivial⟩⟩⟩⟩, trivial⟩⟩, ?_⟩
                    rintro s0 m0 ⟨k, y, hk, hy, rfl, hmeas⟩
                    by_cases hkl : k < N.cs.length
                    · have bd := hK.bd (k : Int).toNat
                      have he := hok.ends (N.cs.getD (k : Int).toNat cn0) (mem_getD hkl)
                      obtain ⟨hne, r1, r2, -⟩ := hok.con (N.cs.getD (k : Int).toNat cn0) (mem_getD hkl)
                      have d1 := hK.hd (N.cs.getD (k : Int).toNat cn0).fr.toNat
                      have d2 := hK.hd (N.cs.getD (k : Int).toNat cn0).to.toNat
                      have y1 := hy.bd (0 + (N.cs.getD (k : Int).toNat cn0).fr.toNat)
                      have y2 := hy.bd (0 + (N.cs.getD (k : Int).toNat cn0).to.toNat)
                      have hyl := hy.l
                      have nx := left_next hok hl1 hK.bd hy hkl
                      obtain ⟨lw1, lw2⟩ := lossW (f := s.1.getD (k : Int).toNat 0) ⟨r1, r2⟩ (by omega)
                      have h41 := S41w (s.1.getD (k : Int).toNat 0) bd.1 bd.2
                      cases ho : (N.cs.getD (k : Int).toNat cn0).opn with
                      | false =>
                        have sh := hK.shut (k : Int).toNat hkl ho
                        have cc := hK.cl (k : Int).toNat hkl
                        by_cases hkc : (k : Int) = (clF N).1
                        · have cc := cc (by omega)
                          conv => whnf
                          conv => whnf
                          refine ifB_dec (fun w4 => ?_) (fun w4 => ?_)
                          · conv => whnf
                            conv => whnf
                            refine ⟨[(6, 11), (9, 11)], by kernel_rfl, ?_⟩
                            conv => whnf
                            conv => whnf
                            refine ⟨⟨(by omega), (by omega)⟩, ?_⟩
                            conv => whnf
                            conv => whnf
                            refine ⟨⟨(by omega), (by omega)⟩, ?_⟩
                            conv => whnf
                            conv => whnf
                            refine .inl ⟨_, _, byX rfl (Sound1.pl (S20 _ _ _) rfl), ?_⟩
                            conv => whnf
                            conv => whnf
                            refine ifB_not ?_
                            conv => whnf
                            conv => whnf
                            refine ifB_dec (fun w5 => ?_) (fun w5 => ?_)
                            · conv => whnf
                              conv => whnf
                              refine ifB_not ?_
                              conv => whnf
                              conv => whnf
                              refine ifB_intro (fun w6 => ?_) (fun w6 => ?_)
                              · exact absurd (ho.symm.trans w6) nofun
                              · conv => whnf
                                conv => whnf
                                refine ifB_bne (fun w7 => ?_) (fun w7 => ?_)
                                · (exfalso; omega)
                                · conv => whnf
                                  conv => whnf
                                  refine ifB_beq (fun w8 => ?_) (fun w8 => ?_)
                                  · conv => whnf
                                    conv => whnf
                                    refine ifB_bne (fun w9 => ?_) (fun w9 => ?_)
                                    · (exfalso; omega)
                                    · conv => whnf
                                      conv => whnf
                                      refine ⟨[(5, 21)], by kernel_rfl, ?_⟩
                                      conv => whnf
                                      conv => whnf
                                      refine ⟨⟨(by omega), (by omega)⟩, ?_⟩
                                      conv => whnf
                                      conv => whnf
                                      refine ⟨inK64 (by omega) (by omega), ?_⟩
                                      conv => whnf
                                      conv => whnf
                                      refine ⟨⟨(by omega), (by omega)⟩, ?_⟩
                                      conv => whnf
                                      conv => whnf
                                      refine ⟨inK64 (by omega) (by omega), ?_⟩
                                      conv => whnf
                                      conv => whnf
                                      refine ⟨⟨(by omega), (by omega)⟩, ?_⟩
                                      refine ⟨_, fun i _ => rowI _ _ i _ (by first | omega | (simp only [List.length_set]; omega) | (simp only [List.length_replicate]; omega) | (simp only [List.length_set, List.length_replicate]; omega)), ?_⟩
                                      conv => whnf
                                      conv => whnf
                                      refine ⟨⟨(by omega), (by omega)⟩, ?_⟩
                                      refine ⟨_, fun i _ => rowI _ _ i _ (by first | omega | (simp only [List.length_set]; omega) | (simp only [List.length_replicate]; omega) | (simp only [List.length_set, List.length_replicate]; omega)), ?_⟩
                                      conv => whnf
                                      conv => whnf
                                      refine ⟨⟨(by omega), (by omega)⟩, ?_⟩
                                      conv => whnf
                                      conv => whnf
                                      refine .inl ⟨_, _, byX rfl (Sound1.pl (S20 _ _ _) rfl), ?_⟩
                                      conv => whnf
                                      conv => whnf
                                      refine ifB_not ?_
                                      conv => whnf
                                      conv => whnf
                                      refine ifB_dec (fun w10 => ?_) (fun w10 => ?_)
                                      · conv => whnf
                                        conv => whnf
                                        refine ⟨⟨(by omega), (by omega)⟩, ?_⟩
                                        conv => whnf
                                        conv => whnf
                                        refine .inl ⟨_, _, byX rfl (Sound1.pl (S20 _ _ _) rfl), ?_⟩
                                        conv => whnf
                                        conv => whnf
                                        refine ifB_not ?_
                                        conv => whnf
                                        conv => whnf
                                        refine ifB_dec (fun w11 => ?_) (fun w11 => ?_)
                                        · conv => whnf
                                          conv => whnf
                                          refine ⟨[], by kernel_rfl, ?_⟩
                                          conv => whnf
                                          conv => whnf
                                          refine ⟨⟨(by omega), (by omega)⟩, ?_⟩
                                          conv => whnf
                                          conv => whnf
                                          refine ⟨⟨(by omega), (by omega)⟩, ?_⟩
                                          conv => whnf
                                          conv => whnf
                                          refine ⟨inK64 (by omega) (by omega), ?_⟩
                                          conv => whnf
                                          conv => whnf
                                          refine ⟨[], by kernel_rfl, ?_⟩
                                          conv => whnf
                                          conv => whnf
                                          refine ifB_intro (fun w12 => ?_) (fun w12 => ?_)
                                          · exact absurd (ho.symm.trans w12) nofun
                                          · conv => whnf
                                            conv => whnf
                                            refine ⟨inK64 (by omega) (by omega), ?_⟩
                                            conv => whnf
                                            conv => whnf
                                            refine ⟨_, _, ⟨⟨k + 1, _, by omega, nx, rfl, rfl⟩, by omega⟩, ⟨⟨rfl, rfl, rfl, rfl⟩, ⟨⟨rfl, rfl, rfl, rfl, fun _ => rfl, fun _ _ => rfl⟩, ⟨⟨rfl, rfl, rfl, rfl, fun _ => rfl, fun _ _ => rfl⟩, ⟨⟨rfl, rfl, rfl, rfl, fun _ => rfl, fun _ _ => rfl⟩, ⟨⟨rfl, rfl, rfl, rfl, fun _ => rfl, fun _ _ => rfl⟩, trivial⟩⟩⟩⟩, trivial⟩⟩
                                        · (exfalso; omega)
                                      · (exfalso; omega)
                                  · (exfalso; omega)
                            · (exfalso; omega)
                          · (exfalso; omega)
                        · conv => whnf
                          conv => whnf
                          refine ifB_dec (fun w4 => ?_) (fun w4 => ?_)
                          · conv => whnf
                            conv => whnf
                            refine ⟨[(6, 11), (9, 11)], by kernel_rfl, ?_⟩
                            conv => whnf
                            conv => whnf
                            refine ⟨⟨(by omega), (by omega)⟩, ?_⟩
                            conv => whnf
                            conv => whnf
                            refine ⟨⟨(by omega), (by omega)⟩, ?_⟩
                            conv => whnf
                            conv => whnf
                            refine .inl ⟨_, _, byX rfl (Sound1.pl (S20 _ _ _) rfl), ?_⟩
                            conv => whnf
                            conv => whnf
                            refine ifB_not ?_
                            conv => whnf
                            conv => whnf
                            refine ifB_dec (fun w5 => ?_) (fun w5 => ?_)
                            · conv => whnf
                              conv => whnf
                              refine ifB_not ?_
                              conv => whnf
                              conv => whnf
                              refine ifB_intro (fun w6 => ?_) (fun w6 => ?_)
                              · exact absurd (ho.symm.trans w6) nofun
                              · conv => whnf
                                conv => whnf
                                refine ifB_bne (fun w7 => ?_) (fun w7 => ?_)
                                · (exfalso; omega)
                                · conv => whnf
                                  conv => whnf
                                  refine ifB_beq (fun w8 => ?_) (fun w8 => ?_)
                                  · (exfalso; omega)
                                  · conv => whnf
                                    conv => whnf
                                    refine ⟨[(5, 21)], by kernel_rfl, ?_⟩
                                    conv => whnf
                                    conv => whnf
                                    refine ⟨⟨(by omega), (by omega)⟩, ?_⟩
                                    conv => whnf
                                    conv => whnf
                                    refine ⟨inK64 (by omega) (by omega), ?_⟩
                                    conv => whnf
                                    conv => whnf
                                    refine ⟨⟨(by omega), (by omega)⟩, ?_⟩
                                    conv => whnf
                                    conv => whnf
                                    refine ⟨inK64 (by omega) (by omega), ?_⟩
                                    conv => whnf
                                    conv => whnf
                                    refine ⟨⟨(by omega), (by omega)⟩, ?_⟩
                                    refine ⟨_, fun i _ => rowI _ _ i _ (by first | omega | (simp only [List.length_set]; omega) | (simp only [List.length_replicate]; omega) | (simp only [List.length_set, List.length_replicate]; omega)), ?_⟩
                                    conv => whnf
                                    conv => whnf
                                    refine ⟨⟨(by omega), (by omega)⟩, ?_⟩
                                    refine ⟨_, fun i _ => rowI _ _ i _ (by first | omega | (simp only [List.length_set]; omega) | (simp only [List.length_replicate]; omega) | (simp only [List.length_set, List.length_replicate]; omega)), ?_⟩
                                    conv => whnf
                                    conv => whnf
                                    refine ⟨⟨(by omega), (by omega)⟩, ?_⟩
                                    conv => whnf
                                    conv => whnf
                                    refine .inl ⟨_, _, byX rfl (Sound1.pl (S20 _ _ _) rfl), ?_⟩
                                    conv => whnf
                                    conv => whnf
                                    refine ifB_not ?_
                                    conv => whnf
                                    conv => whnf
                                    refine ifB_dec (fun w9 => ?_) (fun w9 => ?_)
                                    · conv => whnf
                                      conv => whnf
                                      refine ⟨⟨(by omega), (by omega)⟩, ?_⟩
                                      conv => whnf
                                      conv => whnf
                                      refine .inl ⟨_, _, byX rfl (Sound1.pl (S20 _ _ _) rfl), ?_⟩
                                      conv => whnf
                                      conv => whnf
                                      refine ifB_not ?_
                                      conv => whnf
                                      conv => whnf
                                      refine ifB_dec (fun w10 => ?_) (fun w10 => ?_)
                                      · conv => whnf
                                        conv => whnf
                                        refine ⟨[], by kernel_rfl, ?_⟩
                                        conv => whnf
                                        conv => whnf
                                        refine ⟨⟨(by omega), (by omega)⟩, ?_⟩
                                        conv => whnf
                                        conv => whnf
                                        refine ⟨⟨(by omega), (by omega)⟩, ?_⟩
                                        conv => whnf
                                        conv => whnf
                                        refine ⟨inK64 (by omega) (by omega), ?_⟩
                                        conv => whnf
                                        conv => whnf
                                        refine ⟨[], by kernel_rfl, ?_⟩
                                        conv => whnf
                                        conv => whnf
                                        refine ifB_intro (fun w11 => ?_) (fun w11 => ?_)
                                        · exact absurd (ho.symm.trans w11) nofun
                                        · conv => whnf
                                          conv => whnf
                                          refine ⟨inK64 (by omega) (by omega), ?_⟩
                                          conv => whnf
                                          conv => whnf
                                          refine ⟨_, _, ⟨⟨k + 1, _, by omega, nx, rfl, rfl⟩, by omega⟩, ⟨⟨rfl, rfl, rfl, rfl⟩, ⟨⟨rfl, rfl, rfl, rfl, fun _ => rfl, fun _ _ => rfl⟩, ⟨⟨rfl, rfl, rfl, rfl, fun _ => rfl, fun _ _ => rfl⟩, ⟨⟨rfl, rfl, rfl, rfl, fun _ => rfl, fun _ _ => rfl⟩, ⟨⟨rfl, rfl, rfl, rfl, fun _ => rfl, fun _ _ => rfl⟩, trivial⟩⟩⟩⟩, trivial⟩⟩
                                      · (exfalso; omega)
                                    · (exfalso; omega)
                            · (exfalso; omega)
                          · (exfalso; omega)
                      | true =>
                        by_cases hkc : (k : Int) = (clF N).1
                        · have cc := hK.cl (k : Int).toNat hkl (by rw [Int.toNat_natCast]; omega)
                          conv => whnf
                          conv => whnf
                          refine ifB_dec (fun w4 => ?_) (fun w4 => ?_)
                          · conv => whnf
                            conv => whnf
                            refine ⟨[(6, 11), (9, 11)], by kernel_rfl, ?_⟩
                            conv => whnf
                            conv => whnf
                            refine ⟨⟨(by omega), (by omega)⟩, ?_⟩
                            conv => whnf
                            conv => whnf
                            refine ⟨⟨(by omega), (by omega)⟩, ?_⟩
                            conv => whnf
                            conv => whnf
                            refine .inl ⟨_, _, byX rfl (Sound1.pl (S20 _ _ _) rfl), ?_⟩
                            conv => whnf
                            conv => whnf
                            refine ifB_not ?_
                            conv => whnf
                            conv => whnf
                            refine ifB_dec (fun w5 => ?_) (fun w5 => ?_)
                            · conv => whnf
                              conv => whnf
                              refine ifB_not ?_
                              conv => whnf
                              conv => whnf
                              refine ifB_intro (fun w6 => ?_) (fun w6 => ?_)
                              · conv => whnf
                                conv => whnf
                                refine ifB_beq (fun w7 => ?_) (fun w7 => ?_)
                                · conv => whnf
                                  conv => whnf
                                  refine ifB_bne (fun w8 => ?_) (fun w8 => ?_)
                                  · (exfalso; omega)
                                  · conv => whnf
                                    conv => whnf
                                    refine ⟨[(5, 21)], by kernel_rfl, ?_⟩
                                    conv => whnf
                                    conv => whnf
                                    refine ⟨⟨(by omega), (by omega)⟩, ?_⟩
                                    conv => whnf
                                    conv => whnf
                                    refine ⟨inK64 (by omega) (by omega), ?_⟩
                                    conv => whnf
                                    conv => whnf
                                    refine ⟨⟨(by omega), (by omega)⟩, ?_⟩
                                    conv => whnf
                                    conv => whnf
                                    refine ⟨inK64 (by omega) (by omega), ?_⟩
                                    conv => whnf
                                    conv => whnf
                                    refine ⟨⟨(by omega), (by omega)⟩, ?_⟩
                                    refine ⟨_, fun i _ => rowI _ _ i _ (by first | omega | (simp only [List.length_set]; omega) | (simp only [List.length_replicate]; omega) | (simp only [List.length_set, List.length_replicate]; omega)), ?_⟩
                                    conv => whnf
                                    conv => whnf
                                    refine ⟨⟨(by omega), (by omega)⟩, ?_⟩
                                    refine ⟨_, fun i _ => rowI _ _ i _ (by first | omega | (simp only [List.length_set]; omega) | (simp only [List.length_replicate]; omega) | (simp only [List.length_set, List.length_replicate]; omega)), ?_⟩
                                    conv => whnf
                                    conv => whnf
                                    refine ⟨⟨(by omega), (by omega)⟩, ?_⟩
                                    conv => whnf
                                    conv => whnf
                                    refine .inl ⟨_, _, byX rfl (Sound1.pl (S20 _ _ _) rfl), ?_⟩
                                    conv => whnf
                                    conv => whnf
                                    refine ifB_not ?_
                                    conv => whnf
                                    conv => whnf
                                    refine ifB_dec (fun w9 => ?_) (fun w9 => ?_)
                                    · conv => whnf
                                      conv => whnf
                                      refine ⟨⟨(by omega), (by omega)⟩, ?_⟩
                                      conv => whnf
                                      conv => whnf
                                      refine .inl ⟨_, _, byX rfl (Sound1.pl (S20 _ _ _) rfl), ?_⟩
                                      conv => whnf
                                      conv => whnf
                                      refine ifB_not ?_
                                      conv => whnf
                                      conv => whnf
                                      refine ifB_dec (fun w10 => ?_) (fun w10 => ?_)
                                      · conv => whnf
                                        conv => whnf
                                        refine ⟨[], by kernel_rfl, ?_⟩
                                        conv => whnf
                                        conv => whnf
                                        refine ⟨⟨(by omega), (by omega)⟩, ?_⟩
                                        conv => whnf
                                        conv => whnf
                                        refine ⟨⟨(by omega), (by omega)⟩, ?_⟩
                                        conv => whnf
                                        conv => whnf
                                        refine ⟨inK64 (by omega) (by omega), ?_⟩
                                        conv => whnf
                                        conv => whnf
                                        refine ⟨[], by kernel_rfl, ?_⟩
                                        conv => whnf
                                        conv => whnf
                                        refine ifB_intro (fun w11 => ?_) (fun w11 => ?_)
                                        · conv => whnf
                                          conv => whnf
                                          refine ifB_bne (fun w12 => ?_) (fun w12 => ?_)
                                          · (exfalso; omega)
                                          · conv => whnf
                                            conv => whnf
                                            refine ⟨inK64 (by omega) (by omega), ?_⟩
                                            conv => whnf
                                            conv => whnf
                                            refine ⟨_, _, ⟨⟨k + 1, _, by omega, nx, rfl, rfl⟩, by omega⟩, ⟨⟨rfl, rfl, rfl, rfl⟩, ⟨⟨rfl, rfl, rfl, rfl, fun _ => rfl, fun _ _ => rfl⟩, ⟨⟨rfl, rfl, rfl, rfl, fun _ => rfl, fun _ _ => rfl⟩, ⟨⟨rfl, rfl, rfl, rfl, fun _ => rfl, fun _ _ => rfl⟩, ⟨⟨rfl, rfl, rfl, rfl, fun _ => rfl, fun _ _ => rfl⟩, trivial⟩⟩⟩⟩, trivial⟩⟩
                                        · exact absurd (ho.symm.trans w11) nofun
                                      · (exfalso; omega)
                                    · (exfalso; omega)
                                · (exfalso; omega)
                              · exact absurd (ho.symm.trans w6) nofun
                            · (exfalso; omega)
                          · (exfalso; omega)
                        · have ls := hK.loss (k : Int).toNat hkl ho (by rw [Int.toNat_natCast]; omega)
                          unfold lossF at ls lw2
                          conv => whnf
                          conv => whnf
                          refine ifB_dec (fun w4 => ?_) (fun w4 => ?_)
                          · conv => whnf
                            conv => whnf
                            refine ⟨[(6, 11), (9, 11)], by kernel_rfl, ?_⟩
                            conv => whnf
                            conv => whnf
                            refine ⟨⟨(by omega), (by omega)⟩, ?_⟩
                            conv => whnf
                            conv => whnf
                            refine ⟨⟨(by omega), (by omega)⟩, ?_⟩
                            conv => whnf
                            conv => whnf
                            refine .inl ⟨_, _, byX rfl (Sound1.pl (S20 _ _ _) rfl), ?_⟩
                            conv => whnf
                            conv => whnf
                            refine ifB_not ?_
                            conv => whnf
                            conv => whnf
                            refine ifB_dec (fun w5 => ?_) (fun w5 => ?_)
                            · conv => whnf
                              conv => whnf
                              refine ifB_not ?_
                              conv => whnf
                              conv => whnf
                              refine ifB_intro (fun w6 => ?_) (fun w6 => ?_)
                              · conv => whnf
                                conv => whnf
                                refine ifB_beq (fun w7 => ?_) (fun w7 => ?_)
                                · (exfalso; omega)
                                · conv => whnf
                                  conv => whnf
                                  refine ⟨[(5, 21)], by kernel_rfl, ?_⟩
                                  conv => whnf
                                  conv => whnf
                                  refine ⟨⟨(by omega), (by omega)⟩, ?_⟩
                                  conv => whnf
                                  conv => whnf
                                  refine ⟨inK64 (by omega) (by omega), ?_⟩
                                  conv => whnf
                                  conv => whnf
                                  refine ⟨⟨(by omega), (by omega)⟩, ?_⟩
                                  conv => whnf
                                  conv => whnf
                                  refine ⟨inK64 (by omega) (by omega), ?_⟩
                                  conv => whnf
                                  conv => whnf
                                  refine ⟨⟨(by omega), (by omega)⟩, ?_⟩
                                  refine ⟨_, fun i _ => rowI _ _ i _ (by first | omega | (simp only [List.length_set]; omega) | (simp only [List.length_replicate]; omega) | (simp only [List.length_set, List.length_replicate]; omega)), ?_⟩
                                  conv => whnf
                                  conv => whnf
                                  refine ⟨⟨(by omega), (by omega)⟩, ?_⟩
                                  refine ⟨_, fun i _ => rowI _ _ i _ (by first | omega | (simp only [List.length_set]; omega) | (simp only [List.length_replicate]; omega) | (simp only [List.length_set, List.length_replicate]; omega)), ?_⟩
                                  conv => whnf
                                  conv => whnf
                                  refine ⟨⟨(by omega), (by omega)⟩, ?_⟩
                                  conv => whnf
                                  conv => whnf
                                  refine .inl ⟨_, _, byX rfl (Sound1.pl (S20 _ _ _) rfl), ?_⟩
                                  conv => whnf
                                  conv => whnf
                                  refine ifB_not ?_
                                  conv => whnf
                                  conv => whnf
                                  refine ifB_dec (fun w8 => ?_) (fun w8 => ?_)
                                  · conv => whnf
                                    conv => whnf
                                    refine ⟨⟨(by omega), (by omega)⟩, ?_⟩
                                    conv => whnf
                                    conv => whnf
                                    refine .inl ⟨_, _, byX rfl (Sound1.pl (S20 _ _ _) rfl), ?_⟩
                                    conv => whnf
                                    conv => whnf
                                    refine ifB_not ?_
                                    conv => whnf
                                    conv => whnf
                                    refine ifB_dec (fun w9 => ?_) (fun w9 => ?_)
                                    · conv => whnf
                                      conv => whnf
                                      refine ⟨[], by kernel_rfl, ?_⟩
                                      conv => whnf
                                      conv => whnf
                                      refine ⟨⟨(by omega), (by omega)⟩, ?_⟩
                                      conv => whnf
                                      conv => whnf
                                      refine ⟨⟨(by omega), (by omega)⟩, ?_⟩
                                      conv => whnf
                                      conv => whnf
                                      refine ⟨inK64 (by omega) (by omega), ?_⟩
                                      conv => whnf
                                      conv => whnf
                                      refine ⟨[], by kernel_rfl, ?_⟩
                                      conv => whnf
                                      conv => whnf
                                      refine ifB_intro (fun w10 => ?_) (fun w10 => ?_)
                                      · conv => whnf
                                        conv => whnf
                                        refine ifB_bne (fun w11 => ?_) (fun w11 => ?_)
                                        · conv => whnf
                                          conv => whnf
                                          refine ⟨inK64 (by omega) (by omega), ?_⟩
                                          conv => whnf
                                          conv => whnf
                                          refine .inl ⟨_, _, byX rfl (Sound1.pl (h41) rfl), ?_⟩
                                          conv => whnf
                                          conv => whnf
                                          refine ⟨inK64 (by omega) (by omega), ?_⟩
                                          conv => whnf
                                          conv => whnf
                                          refine ifB_bne (fun w12 => ?_) (fun w12 => ?_)
                                          · (exfalso; omega)
                                          · conv => whnf
                                            conv => whnf
                                            refine ⟨inK64 (by omega) (by omega), ?_⟩
                                            conv => whnf
                                            conv => whnf
                                            refine ⟨_, _, ⟨⟨k + 1, _, by omega, nx, rfl, rfl⟩, by omega⟩, ⟨⟨rfl, rfl, rfl, rfl⟩, ⟨⟨rfl, rfl, rfl, rfl, fun _ => rfl, fun _ _ => rfl⟩, ⟨⟨rfl, rfl, rfl, rfl, fun _ => rfl, fun _ _ => rfl⟩, ⟨⟨rfl, rfl, rfl, rfl, fun _ => rfl, fun _ _ => rfl⟩, ⟨⟨rfl, rfl, rfl, rfl, fun _ => rfl, fun _ _ => rfl⟩, trivial⟩⟩⟩⟩, trivial⟩⟩
                                        · (exfalso; omega)
                                      · exact absurd (ho.symm.trans w10) nofun
                                    · (exfalso; omega)
                                  · (exfalso; omega)
                              · exact absurd (ho.symm.trans w6) nofun
                            · (exfalso; omega)
                          · (exfalso; omega)
                    · have e : k = N.cs.length := by omega
                      subst e
                      have hyl := hy.l
                      have ye := left_end hy
                      clear hmeas hk
                      conv => whnf
                      conv => whnf
                      refine ifB_dec (fun w4 => ?_) (fun w4 => ?_)
                      · (exfalso; omega)
                      · conv => whnf
                        conv => whnf
                        refine ⟨[], [2, 3, 5, 7, 8, 10, 15], fun st mq => ∃ (u : Nat), (u ≤ N.ns.length) ∧ st = ⟨[(2, .optr 0 0 0 0), (3, .optr 1 0 0 0), (5, i64 (clF N).1), (7, i64 q0), (8, .optr 2 0 0 0), (10, .oslice 3 0 0 N.ns.length (some N.ns.length)), (15, i64 u)], ⟨[⟨2, 1, fun _ => [listA 4 ndC nd0 N.ns, listA 6 cnC cn0 N.cs], 0, false, true, true⟩, ⟨2, 1, fun _ => [i64 q0, i64 q1], 0, false, true, true⟩, ⟨2, 1, fun _ => [.rslice 1 N.cs.length fun i => [i64 (s.1.getD i 0)], .rslice 1 N.ns.length fun i => [i64 (s.2.getD i 0)]], 0, false, true, true⟩, ⟨1, N.ns.length, fun i => [i64 (y.getD i 0)], 0, false, true, false⟩], [], none, 0⟩, []⟩ ∧ mq = N.ns.length - u,
                          ⟨_, _, ⟨0, by omega, rfl, rfl⟩, ⟨⟨rfl, rfl, rfl, rfl⟩, ⟨⟨rfl, rfl, rfl, rfl, fun _ => rfl, fun _ _ => rfl⟩, ⟨⟨rfl, rfl, rfl, rfl, fun _ => rfl, fun _ _ => rfl⟩, ⟨⟨rfl, rfl, rfl, rfl, fun _ => rfl, fun _ _ => rfl⟩, ⟨⟨rfl, rfl, rfl, rfl, fun _ => rfl, fun _ _ => rfl⟩, trivial⟩⟩⟩⟩, trivial⟩⟩, ?_⟩
                        rintro s0 m0 ⟨u, hu, rfl, hmeas⟩
                        by_cases hun : u < N.ns.length
                        · have yu : y.getD (0 + (u : Int).toNat) 0 = inflow N.cs s.1 (u : Int).toNat := by rw [Nat.zero_add]; exact ye _
                          obtain ⟨v1, v2⟩ := node_bd (hok.node (N.ns.getD (u : Int).toNat nd0) (by simp [List.getD_eq_getElem?_getD, hun]))
                          cases hlk : (N.ns.getD (u : Int).toNat nd0).lake with
                          | false =>
                            have dr := hK.draw (u : Int).toNat hun hlk
                            conv => whnf
                            conv => whnf
                            conv => whnf
                            refine ifB_dec (fun w5 => ?_) (fun w5 => ?_)
                            · conv => whnf
                              conv => whnf
                              conv => whnf
                              refine ⟨⟨(by omega), (by omega)⟩, ?_⟩
                              conv => whnf
                              conv => whnf
                              conv => whnf
                              refine ⟨[], by kernel_rfl, ?_⟩
                              conv => whnf
                              conv => whnf
                              conv => whnf
                              refine ifB_not ?_
                              conv => whnf
                              conv => whnf
                              conv => whnf
                              refine ifB_intro (fun w6 => ?_) (fun w6 => ?_)
                              · exact absurd (hlk.symm.trans w6) nofun
                              · conv => whnf
                                conv => whnf
                                conv => whnf
                                refine ⟨⟨(by omega), (by omega)⟩, ?_⟩
                                conv => whnf
                                conv => whnf
                                conv => whnf
                                refine ifB_bne (fun w7 => ?_) (fun w7 => ?_)
                                · (exfalso; omega)
                                · conv => whnf
                                  conv => whnf
                                  conv => whnf
                                  refine ifB_intro (fun w8 => ?_) (fun w8 => ?_)
                                  · exact absurd (hlk.symm.trans w8) nofun
                                  · conv => whnf
                                    conv => whnf
                                    conv => whnf
                                    refine ⟨inK64 (by omega) (by omega), ?_⟩
                                    conv => whnf
                                    conv => whnf
                                    conv => whnf
                                    refine ⟨_, _, ⟨⟨u + 1, by omega, rfl, rfl⟩, by omega⟩, ⟨⟨rfl, rfl, rfl, rfl⟩, ⟨⟨rfl, rfl, rfl, rfl, fun _ => rfl, fun _ _ => rfl⟩, ⟨⟨rfl, rfl, rfl, rfl, fun _ => rfl, fun _ _ => rfl⟩, ⟨⟨rfl, rfl, rfl, rfl, fun _ => rfl, fun _ _ => rfl⟩, ⟨⟨rfl, rfl, rfl, rfl, fun _ => rfl, fun _ _ => rfl⟩, trivial⟩⟩⟩⟩, trivial⟩⟩
                            · (exfalso; omega)
                          | true =>
                            have dr := hK.lake (u : Int).toNat hun hlk
                            conv => whnf
                            conv => whnf
                            conv => whnf
                            refine ifB_dec (fun w5 => ?_) (fun w5 => ?_)
                            · conv => whnf
                              conv => whnf
                              conv => whnf
                              refine ⟨⟨(by omega), (by omega)⟩, ?_⟩
                              conv => whnf
                              conv => whnf
                              conv => whnf
                              refine ⟨[], by kernel_rfl, ?_⟩
                              conv => whnf
                              conv => whnf
                              conv => whnf
                              refine ifB_not ?_
                              conv => whnf
                              conv => whnf
                              conv => whnf
                              refine ifB_intro (fun w6 => ?_) (fun w6 => ?_)
                              · conv => whnf
                                conv => whnf
                                conv => whnf
                                refine ifB_intro (fun w7 => ?_) (fun w7 => ?_)
                                · conv => whnf
                                  conv => whnf
                                  conv => whnf
                                  refine ⟨⟨(by omega), (by omega)⟩, ?_⟩
                                  conv => whnf
                                  conv => whnf
                                  conv => whnf
                                  refine ⟨inK64 (by omega) (by omega), ?_⟩
                                  conv => whnf
                                  conv => whnf
                                  conv => whnf
                                  refine ifB_bne (fun w8 => ?_) (fun w8 => ?_)
                                  · (exfalso; omega)
                                  · conv => whnf
                                    conv => whnf
                                    conv => whnf
                                    refine ⟨inK64 (by omega) (by omega), ?_⟩
                                    conv => whnf
                                    conv => whnf
                                    conv => whnf
                                    refine ⟨_, _, ⟨⟨u + 1, by omega, rfl, rfl⟩, by omega⟩, ⟨⟨rfl, rfl, rfl, rfl⟩, ⟨⟨rfl, rfl, rfl, rfl, fun _ => rfl, fun _ _ => rfl⟩, ⟨⟨rfl, rfl, rfl, rfl, fun _ => rfl, fun _ _ => rfl⟩, ⟨⟨rfl, rfl, rfl, rfl, fun _ => rfl, fun _ _ => rfl⟩, ⟨⟨rfl, rfl, rfl, rfl, fun _ => rfl, fun _ _ => rfl⟩, trivial⟩⟩⟩⟩, trivial⟩⟩
                                · exact absurd (hlk.symm.trans w7) nofun
                              · exact absurd (hlk.symm.trans w6) nofun
                            · (exfalso; omega)
                        · have e : u = N.ns.length := by omega
                          subst e
                          clear hmeas hu
                          have d1 := hK.hd (N.cs.getD (clF N).1.toNat cn0).fr.toNat
                          have d2 := hK.hd (N.cs.getD (clF N).1.toNat cn0).to.toNat
                          obtain ⟨-, r1, r2, -⟩ := hcc
                          obtain ⟨lw1, lw2⟩ := lossW (f := q0) ⟨r1, r2⟩ (by omega)
                          unfold lossF at lw2 hgap
                          have h41 := S41w q0 (by omega) (by omega)
                          conv => whnf
                          conv => whnf
                          conv => whnf
                          refine ifB_dec (fun w5 => ?_) (fun w5 => ?_)
                          · (exfalso; omega)
                          · conv => whnf
                            conv => whnf
                            conv => whnf
                            refine ifB_dec (fun w6 => ?_) (fun w6 => ?_)
                            · (exfalso; omega)
                            · conv => whnf
                              conv => whnf
                              conv => whnf
                              refine .inl ⟨_, _, byX rfl (h17), ?_⟩
                              conv => whnf
                              conv => whnf
                              conv => whnf
                              refine .inl ⟨_, _, byX rfl (Sound1.pl (h42a) rfl), ?_⟩
                              conv => whnf
                              conv => whnf
                              conv => whnf
                              refine ⟨[], by kernel_rfl, ?_⟩
                              conv => whnf
                              conv => whnf
                              conv => whnf
                              refine .inl ⟨_, _, byX rfl (h17), ?_⟩
                              conv => whnf
                              conv => whnf
                              conv => whnf
                              refine ⟨⟨(by omega), (by omega)⟩, ?_⟩
                              conv => whnf
                              conv => whnf
                              conv => whnf
                              refine .inl ⟨_, _, byX rfl (Sound1.pl (h42b) rfl), ?_⟩
                              conv => whnf
                              conv => whnf
                              conv => whnf
                              refine ifB_dec (fun w7 => ?_) (fun w7 => ?_)
                              · (exfalso; omega)
                              · conv => whnf
                                conv => whnf
                                conv => whnf
                                refine ⟨inK64 (by omega) (by omega), ?_⟩
                                conv => whnf
                                conv => whnf
                                conv => whnf
                                refine .inl ⟨_, _, byX rfl (Sound1.pl (S20 _ _ _) rfl), ?_⟩
                                conv => whnf
                                conv => whnf
                                conv => whnf
                                refine ifB_not ?_
                                conv => whnf
                                conv => whnf
                                conv => whnf
                                refine ifB_dec (fun w8 => ?_) (fun w8 => ?_)
                                · conv => whnf
                                  conv => whnf
                                  conv => whnf
                                  refine ⟨⟨(by omega), (by omega)⟩, ?_⟩
                                  conv => whnf
                                  conv => whnf
                                  conv => whnf
                                  refine ⟨[], by kernel_rfl, ?_⟩
                                  conv => whnf
                                  conv => whnf
                                  conv => whnf
                                  refine ⟨inK64 (by omega) (by omega), ?_⟩
                                  conv => whnf
                                  conv => whnf
                                  conv => whnf
                                  refine .inl ⟨_, _, byX rfl (Sound1.pl (h41) rfl), ?_⟩
                                  conv => whnf
                                  conv => whnf
                                  conv => whnf
                                  refine ⟨inK64 (by omega) (by omega), ?_⟩
                                  conv => whnf
                                  conv => whnf
                                  conv => whnf
                                  refine ⟨⟨(by omega), (by omega)⟩, ?_⟩
                                  conv => whnf
                                  conv => whnf
                                  conv => whnf
                                  refine ⟨⟨(by omega), (by omega)⟩, ?_⟩
                                  conv => whnf
                                  conv => whnf
                                  conv => whnf
                                  refine ⟨inK64 (by omega) (by omega), ?_⟩
                                  conv => whnf
                                  conv => whnf
                                  conv => whnf
                                  refine ⟨inK64 (by omega) (by omega), ?_⟩
                                  conv => whnf
                                  conv => whnf
                                  conv => whnf
                                  refine ⟨?_, nofun⟩
                                  show vb (decide (_ = _)) = vb true
                                  rw [decide_eq_true hgap]
                                · (exfalso; omega)
            · have hE : closE N = 12 := by unfold closE; rw [if_pos hF, if_neg hc]
              rw [if_neg (by omega), hE] at h39
              have hm : (clF N).1 = -1 := by have := (clF_bd N hok.c0).1; omega
              have hst : stateE N 0 = 0 := by unfold stateE; rw [if_pos hF, if_pos (show crE 0 = 0 from rfl), if_pos (.inl rfl)]
              have h40 := S40 N hN 0
              rw [if_pos hst, hst] at h40
              have hK := kept_ok hok hfo.2 (q := 0) ⟨by omega, by omega⟩
              generalize stateF N (brF N) (clF N).1 0 = s at h40 hK
              have hl1 := hK.l1
              have hl2 := hK.l2
              unfold stA at h40
              rw [ints_n hl1, ints_n hl2] at h40
              clear hst hE h38
              have h38 := S38 N hN
              rw [hF] at h38
              refine sound (d := 2) tok2 mixed2 Try.func6 (by kernel_rfl) (by kernel_rfl) ?_
              conv => whnf
              refine .inl ⟨_, _, byX rfl (Sound1.pl (S14) rfl), ?_⟩
              conv => whnf
              refine .inl ⟨_, _, byX rfl (Sound1.pl (h15) rfl), ?_⟩
              conv => whnf
              refine .inl ⟨_, _, byX rfl (Sound1.pl (h38) rfl), ?_⟩
              conv => whnf
              refine ⟨⟨(by omega), (by omega)⟩, ?_⟩
              conv => whnf
              refine .inl ⟨_, _, byX rfl (Sound1.pl (h21a) rfl), ?_⟩
              conv => whnf
              refine ⟨⟨(by omega), (by omega)⟩, ?_⟩
              conv => whnf
              refine .inl ⟨_, _, byX rfl (Sound1.pl (h21b) rfl), ?_⟩
              conv => whnf
              refine ⟨⟨(by omega), (by omega)⟩, ?_⟩
              conv => whnf
              refine ⟨⟨(by omega), (by omega)⟩, ?_⟩
              conv => whnf
              refine ifB_dec (fun w1 => ?_) (fun w1 => ?_)
              · (exfalso; omega)
              · conv => whnf
                refine .inl ⟨_, _, byX rfl (h17), ?_⟩
                conv => whnf
                refine .inl ⟨_, _, byX rfl (Sound1.pl (h39) rfl), ?_⟩
                conv => whnf
                refine ⟨⟨(by omega), (by omega)⟩, ?_⟩
                conv => whnf
                refine .inl ⟨_, _, byX rfl (h17), ?_⟩
                conv => whnf
                refine .inl ⟨_, _, byX rfl (h40), ?_⟩
                conv => whnf
                refine ifB_bne (fun w2 => ?_) (fun w2 => ?_)
                · (exfalso; omega)
                · conv => whnf
                  refine ifB_bne (fun w3 => ?_) (fun w3 => ?_)
                  · (exfalso; omega)
                  · conv => whnf
                    refine ⟨⟨(by omega), ⟨(by omega), ⟨(by omega), (by show _ * ((8 : Nat) : Int) ≤ _; omega)⟩⟩⟩, ?_⟩
                    conv => whnf
                    refine ⟨[], [2, 3, 5, 7, 8, 10, 11], fun st mq => ∃ (k : Nat) (y : List Int), (k ≤ N.cs.length) ∧ (LeftOk N s.1 k y) ∧ st = ⟨[(2, .optr 0 0 0 0), (3, .optr 1 0 0 0), (5, i64 (-1)), (7, i64 0), (8, .optr 2 0 0 0), (10, .oslice 3 0 0 N.ns.length (some N.ns.length)), (11, i64 k)], ⟨[⟨2, 1, fun _ => [listA 4 ndC nd0 N.ns, listA 6 cnC cn0 N.cs], 0, false, true, true⟩, ⟨2, 1, fun _ => [i64 q0, i64 q1], 0, false, true, true⟩, ⟨2, 1, fun _ => [.rslice 1 N.cs.length fun i => [i64 (s.1.getD i 0)], .rslice 1 N.ns.length fun i => [i64 (s.2.getD i 0)]], 0, false, true, true⟩, ⟨1, N.ns.length, fun i => [i64 (y.getD i 0)], 0, false, true, false⟩], [], none, 0⟩, []⟩ ∧ mq = N.cs.length - k,
                      ⟨_, _, ⟨0, List.replicate N.ns.length 0, by omega, left_init N s.1, rfl, rfl⟩, ⟨⟨rfl, rfl, rfl, rfl⟩, ⟨⟨rfl, rfl, rfl, rfl, fun _ => rfl, fun _ _ => rfl⟩, ⟨⟨rfl, rfl, rfl, rfl, fun _ => rfl, fun _ _ => rfl⟩, ⟨⟨rfl, rfl, rfl, rfl, fun _ => rfl, fun _ _ => rfl⟩, ⟨⟨rfl, rfl, rfl, rfl, fun _ => rfl, fun i _ => rep_rowI _ i⟩, trivial⟩⟩⟩⟩, trivial⟩⟩, ?_⟩
                    rintro s0 m0 ⟨k, y, hk, hy, rfl, hmeas⟩
                    by_cases hkl : k < N.cs.length
                    · have bd := hK.bd (k : Int).toNat
                      have he := hok.ends (N.cs.getD (k : Int).toNat cn0) (mem_getD hkl)
                      obtain ⟨hne, r1, r2, -⟩ := hok.con (N.cs.getD (k : Int).toNat cn0) (mem_getD hkl)
                      have d1 := hK.hd (N.cs.getD (k : Int).toNat cn0).fr.toNat
                      have d2 := hK.hd (N.cs.getD (k : Int).toNat cn0).to.toNat
                      have y1 := hy.bd (0 + (N.cs.getD (k : Int).toNat cn0).fr.toNat)
                      have y2 := hy.bd (0 + (N.cs.getD (k : Int).toNat cn0).to.toNat)
                      have hyl := hy.l
                      have nx := left_next hok hl1 hK.bd hy hkl
                      obtain ⟨lw1, lw2⟩ := lossW (f := s.1.getD (k : Int).toNat 0) ⟨r1, r2⟩ (by omega)
                      have h41 := S41w (s.1.getD (k : Int).toNat 0) bd.1 bd.2
                      cases ho : (N.cs.getD (k : Int).toNat cn0).opn with
                      | false =>
                        have sh := hK.shut (k : Int).toNat hkl ho
                        have cc := hK.cl (k : Int).toNat hkl
                        by_cases hkc : (k : Int) = (-1)
                        · have cc := cc (by omega)
                          conv => whnf
                          conv => whnf
                          refine ifB_dec (fun w4 => ?_) (fun w4 => ?_)
                          · (exfalso; omega)
                          · (exfalso; omega)
                        · conv => whnf
                          conv => whnf
                          refine ifB_dec (fun w4 => ?_) (fun w4 => ?_)
                          · conv => whnf
                            conv => whnf
                            refine ⟨[(6, 11), (9, 11)], by kernel_rfl, ?_⟩
                            conv => whnf
                            conv => whnf
                            refine ⟨⟨(by omega), (by omega)⟩, ?_⟩
                            conv => whnf
                            conv => whnf
                            refine ⟨⟨(by omega), (by omega)⟩, ?_⟩
                            conv => whnf
                            conv => whnf
                            refine .inl ⟨_, _, byX rfl (Sound1.pl (S20 _ _ _) rfl), ?_⟩
                            conv => whnf
                            conv => whnf
                            refine ifB_not ?_
                            conv => whnf
                            conv => whnf
                            refine ifB_dec (fun w5 => ?_) (fun w5 => ?_)
                            · conv => whnf
                              conv => whnf
                              refine ifB_not ?_
                              conv => whnf
                              conv => whnf
                              refine ifB_intro (fun w6 => ?_) (fun w6 => ?_)
                              · exact absurd (ho.symm.trans w6) nofun
                              · conv => whnf
                                conv => whnf
                                refine ifB_bne (fun w7 => ?_) (fun w7 => ?_)
                                · (exfalso; omega)
                                · conv => whnf
                                  conv => whnf
                                  refine ⟨[(5, 21)], by kernel_rfl, ?_⟩
                                  conv => whnf
                                  conv => whnf
                                  refine ⟨⟨(by omega), (by omega)⟩, ?_⟩
                                  conv => whnf
                                  conv => whnf
                                  refine ⟨inK64 (by omega) (by omega), ?_⟩
                                  conv => whnf
                                  conv => whnf
                                  refine ⟨⟨(by omega), (by omega)⟩, ?_⟩
                                  conv => whnf
                                  conv => whnf
                                  refine ⟨inK64 (by omega) (by omega), ?_⟩
                                  conv => whnf
                                  conv => whnf
                                  refine ⟨⟨(by omega), (by omega)⟩, ?_⟩
                                  refine ⟨_, fun i _ => rowI _ _ i _ (by first | omega | (simp only [List.length_set]; omega) | (simp only [List.length_replicate]; omega) | (simp only [List.length_set, List.length_replicate]; omega)), ?_⟩
                                  conv => whnf
                                  conv => whnf
                                  refine ⟨⟨(by omega), (by omega)⟩, ?_⟩
                                  refine ⟨_, fun i _ => rowI _ _ i _ (by first | omega | (simp only [List.length_set]; omega) | (simp only [List.length_replicate]; omega) | (simp only [List.length_set, List.length_replicate]; omega)), ?_⟩
                                  conv => whnf
                                  conv => whnf
                                  refine ⟨⟨(by omega), (by omega)⟩, ?_⟩
                                  conv => whnf
                                  conv => whnf
                                  refine .inl ⟨_, _, byX rfl (Sound1.pl (S20 _ _ _) rfl), ?_⟩
                                  conv => whnf
                                  conv => whnf
                                  refine ifB_not ?_
                                  conv => whnf
                                  conv => whnf
                                  refine ifB_dec (fun w8 => ?_) (fun w8 => ?_)
                                  · conv => whnf
                                    conv => whnf
                                    refine ⟨⟨(by omega), (by omega)⟩, ?_⟩
                                    conv => whnf
                                    conv => whnf
                                    refine .inl ⟨_, _, byX rfl (Sound1.pl (S20 _ _ _) rfl), ?_⟩
                                    conv => whnf
                                    conv => whnf
                                    refine ifB_not ?_
                                    conv => whnf
                                    conv => whnf
                                    refine ifB_dec (fun w9 => ?_) (fun w9 => ?_)
                                    · conv => whnf
                                      conv => whnf
                                      refine ⟨[], by kernel_rfl, ?_⟩
                                      conv => whnf
                                      conv => whnf
                                      refine ⟨⟨(by omega), (by omega)⟩, ?_⟩
                                      conv => whnf
                                      conv => whnf
                                      refine ⟨⟨(by omega), (by omega)⟩, ?_⟩
                                      conv => whnf
                                      conv => whnf
                                      refine ⟨inK64 (by omega) (by omega), ?_⟩
                                      conv => whnf
                                      conv => whnf
                                      refine ⟨[], by kernel_rfl, ?_⟩
                                      conv => whnf
                                      conv => whnf
                                      refine ifB_intro (fun w10 => ?_) (fun w10 => ?_)
                                      · exact absurd (ho.symm.trans w10) nofun
                                      · conv => whnf
                                        conv => whnf
                                        refine ⟨inK64 (by omega) (by omega), ?_⟩
                                        conv => whnf
                                        conv => whnf
                                        refine ⟨_, _, ⟨⟨k + 1, _, by omega, nx, rfl, rfl⟩, by omega⟩, ⟨⟨rfl, rfl, rfl, rfl⟩, ⟨⟨rfl, rfl, rfl, rfl, fun _ => rfl, fun _ _ => rfl⟩, ⟨⟨rfl, rfl, rfl, rfl, fun _ => rfl, fun _ _ => rfl⟩, ⟨⟨rfl, rfl, rfl, rfl, fun _ => rfl, fun _ _ => rfl⟩, ⟨⟨rfl, rfl, rfl, rfl, fun _ => rfl, fun _ _ => rfl⟩, trivial⟩⟩⟩⟩, trivial⟩⟩
                                    · (exfalso; omega)
                                  · (exfalso; omega)
                            · (exfalso; omega)
                          · (exfalso; omega)
                      | true =>
                        by_cases hkc : (k : Int) = (-1)
                        · have cc := hK.cl (k : Int).toNat hkl (by rw [Int.toNat_natCast]; omega)
                          conv => whnf
                          conv => whnf
                          refine ifB_dec (fun w4 => ?_) (fun w4 => ?_)
                          · (exfalso; omega)
                          · (exfalso; omega)
                        · have ls := hK.loss (k : Int).toNat hkl ho (by rw [Int.toNat_natCast]; omega)
                          unfold lossF at ls lw2
                          conv => whnf
                          conv => whnf
                          refine ifB_dec (fun w4 => ?_) (fun w4 => ?_)
                          · conv => whnf
                            conv => whnf
                            refine ⟨[(6, 11), (9, 11)], by kernel_rfl, ?_⟩
                            conv => whnf
                            conv => whnf
                            refine ⟨⟨(by omega), (by omega)⟩, ?_⟩
                            conv => whnf
                            conv => whnf
                            refine ⟨⟨(by omega), (by omega)⟩, ?_⟩
                            conv => whnf
                            conv => whnf
                            refine .inl ⟨_, _, byX rfl (Sound1.pl (S20 _ _ _) rfl), ?_⟩
                            conv => whnf
                            conv => whnf
                            refine ifB_not ?_
                            conv => whnf
                            conv => whnf
                            refine ifB_dec (fun w5 => ?_) (fun w5 => ?_)
                            · conv => whnf
                              conv => whnf
                              refine ifB_not ?_
                              conv => whnf
                              conv => whnf
                              refine ifB_intro (fun w6 => ?_) (fun w6 => ?_)
                              · conv => whnf
                                conv => whnf
                                refine ⟨[(5, 21)], by kernel_rfl, ?_⟩
                                conv => whnf
                                conv => whnf
                                refine ⟨⟨(by omega), (by omega)⟩, ?_⟩
                                conv => whnf
                                conv => whnf
                                refine ⟨inK64 (by omega) (by omega), ?_⟩
                                conv => whnf
                                conv => whnf
                                refine ⟨⟨(by omega), (by omega)⟩, ?_⟩
                                conv => whnf
                                conv => whnf
                                refine ⟨inK64 (by omega) (by omega), ?_⟩
                                conv => whnf
                                conv => whnf
                                refine ⟨⟨(by omega), (by omega)⟩, ?_⟩
                                refine ⟨_, fun i _ => rowI _ _ i _ (by first | omega | (simp only [List.length_set]; omega) | (simp only [List.length_replicate]; omega) | (simp only [List.length_set, List.length_replicate]; omega)), ?_⟩
                                conv => whnf
                                conv => whnf
                                refine ⟨⟨(by omega), (by omega)⟩, ?_⟩
                                refine ⟨_, fun i _ => rowI _ _ i _ (by first | omega | (simp only [List.length_set]; omega) | (simp only [List.length_replicate]; omega) | (simp only [List.length_set, List.length_replicate]; omega)), ?_⟩
                                conv => whnf
                                conv => whnf
                                refine ⟨⟨(by omega), (by omega)⟩, ?_⟩
                                conv => whnf
                                conv => whnf
                                refine .inl ⟨_, _, byX rfl (Sound1.pl (S20 _ _ _) rfl), ?_⟩
                                conv => whnf
                                conv => whnf
                                refine ifB_not ?_
                                conv => whnf
                                conv => whnf
                                refine ifB_dec (fun w7 => ?_) (fun w7 => ?_)
                                · conv => whnf
                                  conv => whnf
                                  refine ⟨⟨(by omega), (by omega)⟩, ?_⟩
                                  conv => whnf
                                  conv => whnf
                                  refine .inl ⟨_, _, byX rfl (Sound1.pl (S20 _ _ _) rfl), ?_⟩
                                  conv => whnf
                                  conv => whnf
                                  refine ifB_not ?_
                                  conv => whnf
                                  conv => whnf
                                  refine ifB_dec (fun w8 => ?_) (fun w8 => ?_)
                                  · conv => whnf
                                    conv => whnf
                                    refine ⟨[], by kernel_rfl, ?_⟩
                                    conv => whnf
                                    conv => whnf
                                    refine ⟨⟨(by omega), (by omega)⟩, ?_⟩
                                    conv => whnf
                                    conv => whnf
                                    refine ⟨⟨(by omega), (by omega)⟩, ?_⟩
                                    conv => whnf
                                    conv => whnf
                                    refine ⟨inK64 (by omega) (by omega), ?_⟩
                                    conv => whnf
                                    conv => whnf
                                    refine ⟨[], by kernel_rfl, ?_⟩
                                    conv => whnf
                                    conv => whnf
                                    refine ifB_intro (fun w9 => ?_) (fun w9 => ?_)
                                    · conv => whnf
                                      conv => whnf
                                      refine ⟨inK64 (by omega) (by omega), ?_⟩
                                      conv => whnf
                                      conv => whnf
                                      refine .inl ⟨_, _, byX rfl (Sound1.pl (h41) rfl), ?_⟩
                                      conv => whnf
                                      conv => whnf
                                      refine ⟨inK64 (by omega) (by omega), ?_⟩
                                      conv => whnf
                                      conv => whnf
                                      refine ifB_bne (fun w10 => ?_) (fun w10 => ?_)
                                      · (exfalso; omega)
                                      · conv => whnf
                                        conv => whnf
                                        refine ⟨inK64 (by omega) (by omega), ?_⟩
                                        conv => whnf
                                        conv => whnf
                                        refine ⟨_, _, ⟨⟨k + 1, _, by omega, nx, rfl, rfl⟩, by omega⟩, ⟨⟨rfl, rfl, rfl, rfl⟩, ⟨⟨rfl, rfl, rfl, rfl, fun _ => rfl, fun _ _ => rfl⟩, ⟨⟨rfl, rfl, rfl, rfl, fun _ => rfl, fun _ _ => rfl⟩, ⟨⟨rfl, rfl, rfl, rfl, fun _ => rfl, fun _ _ => rfl⟩, ⟨⟨rfl, rfl, rfl, rfl, fun _ => rfl, fun _ _ => rfl⟩, trivial⟩⟩⟩⟩, trivial⟩⟩
                                    · exact absurd (ho.symm.trans w9) nofun
                                  · (exfalso; omega)
                                · (exfalso; omega)
                              · exact absurd (ho.symm.trans w6) nofun
                            · (exfalso; omega)
                          · (exfalso; omega)
                    · have e : k = N.cs.length := by omega
                      subst e
                      have hyl := hy.l
                      have ye := left_end hy
                      clear hmeas hk
                      conv => whnf
                      conv => whnf
                      refine ifB_dec (fun w4 => ?_) (fun w4 => ?_)
                      · (exfalso; omega)
                      · conv => whnf
                        conv => whnf
                        refine ⟨[], [2, 3, 5, 7, 8, 10, 15], fun st mq => ∃ (u : Nat), (u ≤ N.ns.length) ∧ st = ⟨[(2, .optr 0 0 0 0), (3, .optr 1 0 0 0), (5, i64 (-1)), (7, i64 0), (8, .optr 2 0 0 0), (10, .oslice 3 0 0 N.ns.length (some N.ns.length)), (15, i64 u)], ⟨[⟨2, 1, fun _ => [listA 4 ndC nd0 N.ns, listA 6 cnC cn0 N.cs], 0, false, true, true⟩, ⟨2, 1, fun _ => [i64 q0, i64 q1], 0, false, true, true⟩, ⟨2, 1, fun _ => [.rslice 1 N.cs.length fun i => [i64 (s.1.getD i 0)], .rslice 1 N.ns.length fun i => [i64 (s.2.getD i 0)]], 0, false, true, true⟩, ⟨1, N.ns.length, fun i => [i64 (y.getD i 0)], 0, false, true, false⟩], [], none, 0⟩, []⟩ ∧ mq = N.ns.length - u,
                          ⟨_, _, ⟨0, by omega, rfl, rfl⟩, ⟨⟨rfl, rfl, rfl, rfl⟩, ⟨⟨rfl, rfl, rfl, rfl, fun _ => rfl, fun _ _ => rfl⟩, ⟨⟨rfl, rfl, rfl, rfl, fun _ => rfl, fun _ _ => rfl⟩, ⟨⟨rfl, rfl, rfl, rfl, fun _ => rfl, fun _ _ => rfl⟩, ⟨⟨rfl, rfl, rfl, rfl, fun _ => rfl, fun _ _ => rfl⟩, trivial⟩⟩⟩⟩, trivial⟩⟩, ?_⟩
                        rintro s0 m0 ⟨u, hu, rfl, hmeas⟩
                        by_cases hun : u < N.ns.length
                        · have yu : y.getD (0 + (u : Int).toNat) 0 = inflow N.cs s.1 (u : Int).toNat := by rw [Nat.zero_add]; exact ye _
                          obtain ⟨v1, v2⟩ := node_bd (hok.node (N.ns.getD (u : Int).toNat nd0) (by simp [List.getD_eq_getElem?_getD, hun]))
                          cases hlk : (N.ns.getD (u : Int).toNat nd0).lake with
                          | false =>
                            have dr := hK.draw (u : Int).toNat hun hlk
                            conv => whnf
                            conv => whnf
                            conv => whnf
                            refine ifB_dec (fun w5 => ?_) (fun w5 => ?_)
                            · conv => whnf
                              conv => whnf
                              conv => whnf
                              refine ⟨⟨(by omega), (by omega)⟩, ?_⟩
                              conv => whnf
                              conv => whnf
                              conv => whnf
                              refine ⟨[], by kernel_rfl, ?_⟩
                              conv => whnf
                              conv => whnf
                              conv => whnf
                              refine ifB_not ?_
                              conv => whnf
                              conv => whnf
                              conv => whnf
                              refine ifB_intro (fun w6 => ?_) (fun w6 => ?_)
                              · exact absurd (hlk.symm.trans w6) nofun
                              · conv => whnf
                                conv => whnf
                                conv => whnf
                                refine ⟨⟨(by omega), (by omega)⟩, ?_⟩
                                conv => whnf
                                conv => whnf
                                conv => whnf
                                refine ifB_bne (fun w7 => ?_) (fun w7 => ?_)
                                · (exfalso; omega)
                                · conv => whnf
                                  conv => whnf
                                  conv => whnf
                                  refine ifB_intro (fun w8 => ?_) (fun w8 => ?_)
                                  · exact absurd (hlk.symm.trans w8) nofun
                                  · conv => whnf
                                    conv => whnf
                                    conv => whnf
                                    refine ⟨inK64 (by omega) (by omega), ?_⟩
                                    conv => whnf
                                    conv => whnf
                                    conv => whnf
                                    refine ⟨_, _, ⟨⟨u + 1, by omega, rfl, rfl⟩, by omega⟩, ⟨⟨rfl, rfl, rfl, rfl⟩, ⟨⟨rfl, rfl, rfl, rfl, fun _ => rfl, fun _ _ => rfl⟩, ⟨⟨rfl, rfl, rfl, rfl, fun _ => rfl, fun _ _ => rfl⟩, ⟨⟨rfl, rfl, rfl, rfl, fun _ => rfl, fun _ _ => rfl⟩, ⟨⟨rfl, rfl, rfl, rfl, fun _ => rfl, fun _ _ => rfl⟩, trivial⟩⟩⟩⟩, trivial⟩⟩
                            · (exfalso; omega)
                          | true =>
                            have dr := hK.lake (u : Int).toNat hun hlk
                            conv => whnf
                            conv => whnf
                            conv => whnf
                            refine ifB_dec (fun w5 => ?_) (fun w5 => ?_)
                            · conv => whnf
                              conv => whnf
                              conv => whnf
                              refine ⟨⟨(by omega), (by omega)⟩, ?_⟩
                              conv => whnf
                              conv => whnf
                              conv => whnf
                              refine ⟨[], by kernel_rfl, ?_⟩
                              conv => whnf
                              conv => whnf
                              conv => whnf
                              refine ifB_not ?_
                              conv => whnf
                              conv => whnf
                              conv => whnf
                              refine ifB_intro (fun w6 => ?_) (fun w6 => ?_)
                              · conv => whnf
                                conv => whnf
                                conv => whnf
                                refine ifB_intro (fun w7 => ?_) (fun w7 => ?_)
                                · conv => whnf
                                  conv => whnf
                                  conv => whnf
                                  refine ⟨⟨(by omega), (by omega)⟩, ?_⟩
                                  conv => whnf
                                  conv => whnf
                                  conv => whnf
                                  refine ⟨inK64 (by omega) (by omega), ?_⟩
                                  conv => whnf
                                  conv => whnf
                                  conv => whnf
                                  refine ifB_bne (fun w8 => ?_) (fun w8 => ?_)
                                  · (exfalso; omega)
                                  · conv => whnf
                                    conv => whnf
                                    conv => whnf
                                    refine ⟨inK64 (by omega) (by omega), ?_⟩
                                    conv => whnf
                                    conv => whnf
                                    conv => whnf
                                    refine ⟨_, _, ⟨⟨u + 1, by omega, rfl, rfl⟩, by omega⟩, ⟨⟨rfl, rfl, rfl, rfl⟩, ⟨⟨rfl, rfl, rfl, rfl, fun _ => rfl, fun _ _ => rfl⟩, ⟨⟨rfl, rfl, rfl, rfl, fun _ => rfl, fun _ _ => rfl⟩, ⟨⟨rfl, rfl, rfl, rfl, fun _ => rfl, fun _ _ => rfl⟩, ⟨⟨rfl, rfl, rfl, rfl, fun _ => rfl, fun _ _ => rfl⟩, trivial⟩⟩⟩⟩, trivial⟩⟩
                                · exact absurd (hlk.symm.trans w7) nofun
                              · exact absurd (hlk.symm.trans w6) nofun
                            · (exfalso; omega)
                        · have e : u = N.ns.length := by omega
                          subst e
                          clear hmeas hu
                          conv => whnf
                          conv => whnf
                          conv => whnf
                          refine ifB_dec (fun w5 => ?_) (fun w5 => ?_)
                          · (exfalso; omega)
                          · conv => whnf
                            conv => whnf
                            conv => whnf
                            refine ⟨?_, nofun⟩
                            (rfl)
        · refine sound (d := 2) tok2 mixed2 Try.func6 (by kernel_rfl) (by kernel_rfl) ?_
          conv => whnf
          refine .inl ⟨_, _, byX rfl (Sound1.pl (S14) rfl), ?_⟩
          conv => whnf
          refine .inl ⟨_, _, byX rfl (Sound1.pl (h15) rfl), ?_⟩
          conv => whnf
          refine .inl ⟨_, _, byX rfl (Sound1.pl (h38) rfl), ?_⟩
          conv => whnf
          refine ifB_bne (fun w1 => ?_) (fun w1 => ?_)
          · (exfalso; omega)
          · conv => whnf
            refine ⟨⟨(by omega), (by omega)⟩, ?_⟩
            conv => whnf
            refine .inl ⟨_, _, byX rfl (Sound1.pl (h21a) rfl), ?_⟩
            conv => whnf
            refine ⟨⟨(by omega), (by omega)⟩, ?_⟩
            conv => whnf
            refine .inl ⟨_, _, byX rfl (Sound1.pl (h21b) rfl), ?_⟩
            conv => whnf
            refine ⟨?_, nofun⟩
            (rfl)
      · refine sound (d := 2) tok2 mixed2 Try.func6 (by kernel_rfl) (by kernel_rfl) ?_
        conv => whnf
        refine .inl ⟨_, _, byX rfl (Sound1.pl (S14) rfl), ?_⟩
        conv => whnf
        refine .inl ⟨_, _, byX rfl (Sound1.pl (h15) rfl), ?_⟩
        conv => whnf
        refine .inl ⟨_, _, byX rfl (Sound1.pl (h38) rfl), ?_⟩
        conv => whnf
        refine ifB_bne (fun w1 => ?_) (fun w1 => ?_)
        · (exfalso; omega)
        · conv => whnf
          refine ⟨⟨(by omega), (by omega)⟩, ?_⟩
          conv => whnf
          refine .inl ⟨_, _, byX rfl (Sound1.pl (h21a) rfl), ?_⟩
          conv => whnf
          refine ⟨?_, nofun⟩
          (rfl)
    · refine sound (d := 2) tok2 mixed2 Try.func6 (by kernel_rfl) (by kernel_rfl) ?_
      conv => whnf
      refine .inl ⟨_, _, byX rfl (Sound1.pl (S14) rfl), ?_⟩
      conv => whnf
      refine .inl ⟨_, _, byX rfl (Sound1.pl (h15) rfl), ?_⟩
      conv => whnf
      refine .inl ⟨_, _, byX rfl (Sound1.pl (h38) rfl), ?_⟩
      conv => whnf
      refine ifB_bne (fun w1 => ?_) (fun w1 => ?_)
      · conv => whnf
        refine ⟨?_, nofun⟩
        (rfl)
      · (exfalso; omega)
end Go.Tr

/- The end of a law's proof: what every law shares; further openings of arguments. Conditions: none. -/
namespace Go.Tr
open Go Go.Proofs Go.RowKit Go.WideShapes Go.ChangeShapes
section
variable {H : Type} {enc : TypeId × Value → H} {P : Program}
theorem post_of_below {f : Func} {s : ChangeSpec} {apart fresh handsOn again : Bool} {W W' : World} {args : Array Value} {v : Value} {ds gs : List (DataW H)} {before pa pv : List MemPlace}
    (hW : DataW.Whole enc P f.params.toList s.vars apart W args.toList ds gs before)
    (hres : ∀ (b : Nat) (sp : Nat → Bool) (hd : Bool), DataW.TrodAll enc P W' b sp hd f.resultTypes.toList (v.resultList f.resultTypes.size) (s.fn H (ds ++ gs)).results [])
    (hargs : ∀ sp : Nat → Bool, (∀ p ∈ before, sp p.block = true) → DataW.TrodAll enc P W' 0 sp true f.params.toList args.toList (s.fn H (ds ++ gs)).args pa)
    (hvars : ∀ sp : Nat → Bool, (∀ p ∈ before, sp p.block = true) → DataW.TrodVars enc P W' sp s.vars (s.fn H (ds ++ gs)).vars pv)
    (hps : before = pa ++ pv) (hb : Below W.heap.size W W')
    (hok : ∀ (j : Nat) (t : TypeId) (r : Value), f.resultTypes[j]? = some t → (v.resultList f.resultTypes.size)[j]? = some r → Value.okWide P W' .any 0 t r) :
    s.post enc P f apart fresh handsOn again W args v W' := by
  have hlt : ∀ p ∈ before, p.block < W.heap.size := fun p hp => hW.lt p hp
  have hold : ∀ p ∈ before, (fun b => decide (b < W.heap.size)) p.block = true := fun p hp => by simpa using hlt p hp
  refine ⟨ds, gs, before, [], pa, pv, hW, hres _ _ _, hargs _ hold, hvars _ hold, World.keptBut_mono (fun p hp => ⟨hp, ?_⟩) (hb.frame (· ∈ before)), fun _ => ?_⟩
  · rw [hps, List.mem_append] at hp
    exact Or.inr hp
  · obtain ⟨_, _, _, _, _, hz, hn⟩ := hW
    refine ⟨hok, _, _, ([] ++ pa) ++ pv, ⟨[] ++ pa, pv, trodAll_append (hargs _ (fun _ _ => rfl)) (hres _ _ _), hvars _ (fun _ _ => rfl), rfl, ?_, ?_⟩, ?_⟩
    · intro b off hp
      have hin : MemPlace.cell b off ∈ before := by rw [hps]; simpa using hp
      rw [hb.frozen (hlt _ hin)]
      exact hz b off hin
    · intro ha
      have := hn ha
      rw [hps] at this
      simpa using this
    · intro p hp _
      rw [hps]
      simpa using hp
end

set_option maxRecDepth 20000
theorem cells3 : Try.prog.cellsOf 3 = 1 := by kernel_rfl
theorem ints_open {x : AV} (h : TyA Try.prog 4 39 x) : ∃ l : List Int, AVE 5 x (ints l) ∧ l.length ≤ 9223372036854775807 ∧ ∀ a ∈ l, inK .i64 a := by
  simp only [TyA, Try.underlying39] at h
  unfold TyC at h
  simp only [Try.underlying39] at h
  obtain ⟨len, f, e, hl, hf⟩ := h
  cases e
  obtain ⟨l, n1, n2, n3⟩ := list_open (g := fun n : Int => [i64 n]) (p := fun n => inK .i64 n) 0 (fun i hi => int_open Try.underlying3 (hf i hi))
  rw [cells3]
  exact ⟨l, n3 4, by rw [n1]; exact hl, n2⟩
theorem arr2_open {x : AV} (h : TyA Try.prog 4 40 x) : ∃ a b : Int, AVE 5 x (.agg [i64 a, i64 b]) ∧ inK .i64 a ∧ inK .i64 b := by
  simp only [TyA, Try.underlying40] at h
  obtain ⟨xs, rfl, h⟩ := h
  unfold TyC at h
  simp only [Try.underlying40] at h
  obtain ⟨ps, rfl, hn, h⟩ := h
  match ps, hn with
  | [p, q], _ =>
    obtain ⟨a, rfl, ha⟩ := int_open Try.underlying3 (h p (by simp))
    obtain ⟨b, rfl, hb⟩ := int_open Try.underlying3 (h q (by simp))
    exact ⟨a, b, ave2 a b, ha, hb⟩
theorem pair_open {t : TypeId} {fs : Array Field} (hu : Try.prog.underlying t = some (.struct fs)) (hf : fs.toList.map (·.type) = [3, 3]) {x : AV} (h : TyA Try.prog 4 t x) : ∃ a b : Int, AVE 5 x (.agg [i64 a, i64 b]) ∧ inK .i64 a ∧ inK .i64 b := by
  simp only [TyA, hu] at h
  obtain ⟨xs, rfl, h⟩ := h
  unfold TyC at h
  simp only [hu] at h
  obtain ⟨ps, rfl, h⟩ := h
  generalize fs.toList = L at hf h
  match L with
  | [] => simp at hf
  | [_] => simp at hf
  | _ :: _ :: _ :: _ => simp at hf
  | [f, g] =>
    simp only [List.map_cons, List.map_nil, List.cons.injEq, and_true] at hf
    obtain ⟨p, q, rfl, h1, h2⟩ := all2_2 h
    rw [hf.1] at h1
    rw [hf.2] at h2
    obtain ⟨a, rfl, ha⟩ := int_open Try.underlying3 h1
    obtain ⟨b, rfl, hb⟩ := int_open Try.underlying3 h2
    exact ⟨a, b, ave2 a b, ha, hb⟩
theorem range_open {x : AV} (h : TyA Try.prog 4 43 x) : ∃ a b : Int, AVE 5 x (.agg [i64 a, i64 b]) ∧ inK .i64 a ∧ inK .i64 b := pair_open Try.underlying43 rfl h
theorem way_open {x : AV} (h : TyA Try.prog 4 87 x) : ∃ a b : Int, AVE 5 x (.agg [i64 a, i64 b]) ∧ inK .i64 a ∧ inK .i64 b := pair_open Try.underlying87 rfl h
end Go.Tr

namespace Go.Proofs.Ytkomdfgffgkphaa
open Go.ChangeShapes Go.WideShapes Go.ChangeAt Go.RowKit Go.Tr
theorem Try.own : ownKnob Try.prog.godebug = none := by kernel_rfl
theorem Try.laidOut : laidOutB Try.prog = true := by kernel_rfl
end Go.Proofs.Ytkomdfgffgkphaa

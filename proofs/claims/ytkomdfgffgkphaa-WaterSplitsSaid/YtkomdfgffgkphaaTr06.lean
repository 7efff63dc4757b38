/- The examples of chapter 2 are as they should be: awake gives true. Conditions: none. -/
import Derived.Test.YtkomdfgffgkphaaTr05
import Derived.Test.YtkomdfgffgkphaaTr04
import Derived.ProofKit
import Derived.Test.YtkomdfgffgkphaaRows

namespace Go.Tr
open Go Go.Proofs
def runs2 : List Run := [⟨69, [], netA⟩, ⟨70, [], dryA⟩, ⟨28, [tab 1 [[i64 100], [i64 400]], i64 30], .tuple [.agg [i64 36101, i64 40000], i64 0]⟩, ⟨42, [netA, i64 17], .tuple [i64 (-2200), i64 0]⟩,
  ⟨31, [dryA, i64 0], .tuple [tab 1 [[i64 0], [i64 1]], i64 0]⟩, ⟨55, [netA, .agg [i64 0, i64 2]], .tuple [tab 1 [[i64 1]], i64 0]⟩, ⟨48, [netA], .tuple [.agg [i64 17, i64 18], i64 0]⟩]
theorem runs2_ok : ∀ x ∈ runs2, x.ok Try.prog := by
  intro x hx
  simp only [runs2, List.mem_cons, List.not_mem_nil, or_false] at hx
  rcases hx with rfl | rfl | rfl | rfl | rfl | rfl | rfl
  · exact run_net
  · exact run_dry
  · exact run_drop
  · exact run_gap
  · exact run_fill
  · exact run_cut
  · exact run_circ
theorem S14 : SP 14 [] (vb true) false := run_ok mixed2 runs2_ok 1000 60 (y := vb true) (by kernel_rfl)
end Go.Tr

/- The law WaterMonotone returns true. Conditions: none. -/
namespace Go.Tr
open Go Go.Proofs
set_option maxRecDepth 20000

theorem S26f (n : Nat) (f : Nat → List AV) (l : List Int) (hl : l.length ≤ 10000000000) (hn : n = l.length) (h : ∀ i, i < l.length → f i = [i64 (l.getD i 0)]) : SP 26 [.rslice 1 n f] (ints l) true := by
  subst hn
  exact (S26 l hl).args rfl fun i y x hy hx => by
    match i, hy, hx with
    | 0, hy, hx => cases hy; cases hx; exact ⟨rfl, rfl, h⟩
theorem S26_1 (f : Nat → List AV) (n : Int) (h : f 0 = [i64 n]) : SP 26 [.rslice 1 1 f] (ints [n]) true :=
  S26f 1 f [n] (by simp) rfl fun i hi => match i, hi with | 0, _ => h

theorem S25ok {l : List Int} {d : Int} (h : rsE l = 0) (hd : 0 ≤ d ∧ d ≤ 1000000000) : SP 25 [ints l, i64 d] (.tuple [.agg [i64 (loS d l), i64 (hiS d l)], i64 0]) false := by
  have := S25 l (by have := rsE_ok h; omega) d
  have e : parF l d = ((loS d l, hiS d l), 0) := by
    unfold parF parE dE
    rw [if_pos hd, if_pos (by rw [if_pos h])]
  rw [e] at this
  exact this
theorem S27ok {r d : Int} (h : 1 ≤ r ∧ r ≤ 1000) (hd : 0 ≤ d ∧ d ≤ 1000000000) : SP 27 [i64 r, i64 d] (.tuple [.agg [i64 (loF r d), i64 (hiF r d)], i64 0]) false := by
  have := S27 r d
  have e : thrF r d = ((loF r d, hiF r d), 0) := by
    unfold thrF thrE dE rE
    rw [if_pos hd, if_pos h, if_pos (by rw [if_pos rfl])]
  rw [e] at this
  exact this
theorem thr_facts {r d : Int} (h : 1 ≤ r ∧ r ≤ 1000) (hd : 0 ≤ d ∧ d ≤ 1000000000) :
    0 ≤ loF r d ∧ loF r d ≤ hiF r d ∧ hiF r d ≤ 31623 ∧ 0 ≤ r * loF r d ∧ r * loF r d ≤ 31623000 ∧ 0 ≤ r * loF r d * loF r d ∧ r * loF r d * loF r d ≤ d ∧ 0 ≤ r * hiF r d ∧ r * hiF r d ≤ 31623000 ∧ d ≤ r * hiF r d * hiF r d ∧ r * hiF r d * hiF r d ≤ 31623000 * 31623 := by
  obtain ⟨a1, a2, a3, a4, a5⟩ := loF_spec h.1 hd.1 (by omega)
  obtain ⟨s1, s2⟩ := hiF_spec h.1 (d := d) (by omega)
  have hm := hiF_mem r d
  have b1 : 0 ≤ r * loF r d := Int.mul_nonneg (by omega) a1
  have b2 : r * loF r d ≤ 1000 * 31623 := Int.mul_le_mul h.2 (by omega) a1 (by omega)
  have c1 : 0 ≤ r * hiF r d := Int.mul_nonneg (by omega) hm.1
  have c2 : r * hiF r d ≤ 1000 * 31623 := Int.mul_le_mul h.2 hm.2 hm.1 (by omega)
  have b3 : 0 ≤ r * loF r d * loF r d := Int.mul_nonneg b1 a1
  have c3 : r * hiF r d * hiF r d ≤ 31623000 * 31623 := Int.mul_le_mul (by omega) hm.2 hm.1 (by omega)
  exact ⟨a1, a2, hm.2, b1, b2, b3, a4, c1, c2, s1, c3⟩
theorem rsE_take {l : List Int} (h : rsE l = 0) : rsE [l.getD 0 0] = 0 := by
  obtain ⟨h1, h2, h3⟩ := rsE_ok h
  have e : rsE [l.getD 0 0] = rE (l.getD 0 0) := by rw [rE_ok]; unfold rsE; simp
  rw [e]
  match l, h1 with
  | r :: l, _ => exact if_pos (h3 r (by simp))

theorem S28ex {l : List Int} {fl : Int} (h : rsE l = 0) (hf : 0 ≤ fl ∧ fl ≤ 10000) : ∃ A B E, SP 28 [ints l, i64 fl] (.tuple [.agg [i64 A, i64 B], i64 E]) false ∧
    (E = 12 ∧ A = 0 ∧ B = 0 ∨ E = 0 ∧ 0 ≤ A ∧ A ≤ B ∧ B ≤ 1000000000 ∧ fl ≤ hiS A l ∧ fl ≤ loS B l) := by
  have q := rsE_ok h
  have := S28 l (by omega) fl
  have e : dropE l fl = 0 := by unfold dropE fE; rw [if_pos h, if_pos hf]
  unfold dropF at this
  rw [if_pos e] at this
  by_cases hd : dropHi l fl > 1000000000
  · rw [if_pos hd] at this
    exact ⟨0, 0, 12, this, .inl ⟨rfl, rfl, rfl⟩⟩
  · rw [if_neg hd] at this
    have m1 := dropLo_mem l fl
    have m2 := dropHi_mem l fl
    have s := drop_spec q.2.2 (fl := fl) (by omega)
    exact ⟨dropLo l fl, dropHi l fl, 0, this, .inr ⟨rfl, m1.1, m2.1, by omega, s.1, s.2⟩⟩

theorem S4 (l : List Int) (hl : l.length ≤ 9223372036854775807) (d0 d1 fl : Int) : SP 4 [ints l, .agg [i64 d0, i64 d1], i64 fl] (vb true) false := by
  by_cases hp : rsE l = 0 ∧ dE d0 = 0 ∧ dE d1 = 0 ∧ d0 ≤ d1 ∧ 0 ≤ fl ∧ fl ≤ 10000
  · obtain ⟨p1, p2, p3, p4, p5, p6⟩ := hp
    obtain ⟨q1, q2, q3⟩ := rsE_ok p1
    have r2 := dE_ok p2
    have r3 := dE_ok p3
    have c0 := S25ok p1 r2
    have c1 := S25ok p1 r3
    have c2 := S25ok (rsE_take p1) r2
    have s0 := sums q3 r2.1 (by omega)
    have s1 := sums q3 r3.1 (by omega)
    have s2 := sums_mono q3 r2.1 p4 (by omega)
    have s3 := sums_one q3 r2.1 (by omega) q1
    refine sound (d := 2) tok2 mixed2 Try.func4 (by kernel_rfl) (by kernel_rfl) ?_
    refine .inl ⟨_, _, byX rfl (Sound1.pl (S14) rfl), ?_⟩
    refine .inl ⟨_, _, byX rfl (Sound1.pl (S23 _ (by omega)) rfl), ?_⟩
    refine ifB_bne (fun w1 => ?_) (fun w1 => ?_)
    · (exfalso; omega)
    · refine ⟨⟨(by omega), (by omega)⟩, ?_⟩
      refine .inl ⟨_, _, byX rfl (Sound1.pl (S24 _) rfl), ?_⟩
      refine ifB_bne (fun w2 => ?_) (fun w2 => ?_)
      · (exfalso; omega)
      · refine ⟨⟨(by omega), (by omega)⟩, ?_⟩
        refine .inl ⟨_, _, byX rfl (Sound1.pl (S24 _) rfl), ?_⟩
        refine ifB_bne (fun w3 => ?_) (fun w3 => ?_)
        · (exfalso; omega)
        · refine ⟨⟨(by omega), (by omega)⟩, ?_⟩
          refine ⟨⟨(by omega), (by omega)⟩, ?_⟩
          refine ifB_dec (fun w4 => ?_) (fun w4 => ?_)
          · (exfalso; omega)
          · refine .inl ⟨_, _, byX rfl (Sound1.pl (S20 _ _ _) rfl), ?_⟩
            refine ifB_not ?_
            refine ifB_dec (fun w5 => ?_) (fun w5 => ?_)
            · refine ⟨[], by kernel_rfl, ?_⟩
              refine .inl ⟨_, _, byX rfl (S26 _ (by omega)), ?_⟩
              refine ⟨⟨(by omega), (by omega)⟩, ?_⟩
              refine .inl ⟨_, _, byX rfl (Sound1.pl (c0) rfl), ?_⟩
              refine ⟨[], by kernel_rfl, ?_⟩
              refine .inl ⟨_, _, byX rfl (S26 _ (by omega)), ?_⟩
              refine ⟨⟨(by omega), (by omega)⟩, ?_⟩
              refine .inl ⟨_, _, byX rfl (Sound1.pl (c1) rfl), ?_⟩
              refine ⟨[], by kernel_rfl, ?_⟩
              refine ⟨⟨(by omega), ⟨(by omega), (by omega)⟩⟩, ?_⟩
              refine .inl ⟨_, _, byX rfl (S26_1 _ _ rfl), ?_⟩
              refine ⟨⟨(by omega), (by omega)⟩, ?_⟩
              refine .inl ⟨_, _, byX rfl (Sound1.pl (c2) rfl), ?_⟩
              refine .inl ⟨_, _, byX rfl (Sound1.pl (S20 _ _ _) rfl), ?_⟩
              refine ifB_not ?_
              refine ifB_dec (fun w6 => ?_) (fun w6 => ?_)
              · refine ifB_dec (fun w7 => ?_) (fun w7 => ?_)
                · (exfalso; omega)
                · refine ifB_dec (fun w8 => ?_) (fun w8 => ?_)
                  · (exfalso; omega)
                  · refine ifB_dec (fun w9 => ?_) (fun w9 => ?_)
                    · (exfalso; omega)
                    · refine ifB_dec (fun w10 => ?_) (fun w10 => ?_)
                      · (exfalso; omega)
                      · refine ⟨inK64 (by omega) (by omega), ?_⟩
                        refine .inl ⟨_, _, byX rfl (Sound1.pl (S20 _ _ _) rfl), ?_⟩
                        refine ifB_not ?_
                        refine ifB_dec (fun w11 => ?_) (fun w11 => ?_)
                        · refine ⟨[], [0, 2, 4, 13], fun st m => ∃ (k : Nat) (F1 : Nat → List AV) (F2 : Nat → List AV) (F3 : Nat → List AV) (F4 : Nat → List AV) (F5 : Nat → List AV) (F6 : Nat → List AV), (k ≤ l.length) ∧ st = ⟨[(0, ints l), (2, i64 fl), (4, .optr 0 0 0 0), (13, i64 k)], ⟨[⟨2, 1, fun _ => [i64 d0, i64 d1], 0, false, true⟩, ⟨1, l.length, F1, 0, false, true⟩, ⟨2, 1, F2, 0, false, true⟩, ⟨1, l.length, F3, 0, false, true⟩, ⟨2, 1, F4, 0, false, true⟩, ⟨1, 1, F5, 0, false, true⟩, ⟨2, 1, F6, 0, false, true⟩], [], none, 0⟩, []⟩ ∧ m = l.length - k,
                            ⟨_, _, ⟨0, _, _, _, _, _, _, by omega, rfl, rfl⟩, ⟨⟨rfl, rfl, rfl, rfl⟩, ⟨⟨rfl, rfl, rfl, rfl, fun _ => rfl, fun _ _ => rfl⟩, ⟨⟨rfl, rfl, rfl, rfl, fun _ => rfl, fun _ _ => rfl⟩, ⟨⟨rfl, rfl, rfl, rfl, fun _ => rfl, fun _ _ => rfl⟩, ⟨⟨rfl, rfl, rfl, rfl, fun _ => rfl, fun _ _ => rfl⟩, ⟨⟨rfl, rfl, rfl, rfl, fun _ => rfl, fun _ _ => rfl⟩, ⟨⟨rfl, rfl, rfl, rfl, fun _ => rfl, fun _ _ => rfl⟩, ⟨⟨rfl, rfl, rfl, rfl, fun _ => rfl, fun _ _ => rfl⟩, trivial⟩⟩⟩⟩⟩⟩⟩, trivial⟩⟩, ?_⟩
                          rintro s0 m0 ⟨k, F1, F2, F3, F4, F5, F6, hk, rfl, hmeas⟩
                          have hx : k < l.length → 1 ≤ l.getD (k : Int).toNat 0 ∧ l.getD (k : Int).toNat 0 ≤ 1000 := fun h => q3 _ (by simp [List.getD_eq_getElem?_getD, h])
                          have hy := fun h => thr_facts (hx h) r2
                          obtain ⟨A, B, E, h28, hE⟩ := S28ex p1 ⟨p5, p6⟩
                          have c3 : E = 0 → SP 25 [ints l, i64 A] (.tuple [.agg [i64 (loS A l), i64 (hiS A l)], i64 0]) false := fun h => S25ok p1 (by omega)
                          have c4 : E = 0 → SP 25 [ints l, i64 B] (.tuple [.agg [i64 (loS B l), i64 (hiS B l)], i64 0]) false := fun h => S25ok p1 (by omega)
                          refine ifB_dec (fun w12 => ?_) (fun w12 => ?_)
                          · refine ⟨[], by kernel_rfl, ?_⟩
                            refine ⟨⟨(by omega), (by omega)⟩, ?_⟩
                            refine ⟨⟨(by omega), (by omega)⟩, ?_⟩
                            refine .inl ⟨_, _, byX rfl (Sound1.pl (S27ok (by omega) (by omega)) rfl), ?_⟩
                            refine ⟨[], by kernel_rfl, ?_⟩
                            refine .inl ⟨_, _, byX rfl (Sound1.pl (S20 _ _ _) rfl), ?_⟩
                            refine ifB_not ?_
                            refine ifB_dec (fun w13 => ?_) (fun w13 => ?_)
                            · refine ifB_dec (fun w14 => ?_) (fun w14 => ?_)
                              · (exfalso; omega)
                              · refine ⟨⟨(by omega), (by omega)⟩, ?_⟩
                                refine ⟨inK64 (by omega) (by omega), ?_⟩
                                refine ⟨inK64 (by omega) (by omega), ?_⟩
                                refine ⟨⟨(by omega), (by omega)⟩, ?_⟩
                                refine ifB_dec (fun w15 => ?_) (fun w15 => ?_)
                                · (exfalso; omega)
                                · refine ⟨⟨(by omega), (by omega)⟩, ?_⟩
                                  refine ⟨inK64 (by omega) (by omega), ?_⟩
                                  refine ⟨inK64 (by omega) (by omega), ?_⟩
                                  refine ⟨⟨(by omega), (by omega)⟩, ?_⟩
                                  refine ifB_dec (fun w16 => ?_) (fun w16 => ?_)
                                  · (exfalso; omega)
                                  · refine ⟨inK64 (by omega) (by omega), ?_⟩
                                    refine ⟨_, _, ⟨⟨k + 1, _, _, _, _, _, _, by omega, rfl, rfl⟩, by omega⟩, ⟨⟨rfl, rfl, rfl, rfl⟩, ⟨⟨rfl, rfl, rfl, rfl, fun _ => rfl, fun _ _ => rfl⟩, ⟨⟨rfl, rfl, rfl, rfl, fun _ => rfl, fun _ _ => rfl⟩, ⟨⟨rfl, rfl, rfl, rfl, fun _ => rfl, fun _ _ => rfl⟩, ⟨⟨rfl, rfl, rfl, rfl, fun _ => rfl, fun _ _ => rfl⟩, ⟨⟨rfl, rfl, rfl, rfl, fun _ => rfl, fun _ _ => rfl⟩, ⟨⟨rfl, rfl, rfl, rfl, fun _ => rfl, fun _ _ => rfl⟩, ⟨⟨rfl, rfl, rfl, rfl, fun _ => rfl, fun _ _ => rfl⟩, trivial⟩⟩⟩⟩⟩⟩⟩, trivial⟩⟩
                            · (exfalso; omega)
                          · refine .inl ⟨_, _, byX rfl (S26 _ (by omega)), ?_⟩
                            refine .inl ⟨_, _, byX rfl (Sound1.pl (h28) rfl), ?_⟩
                            refine ifB_bne (fun w13 => ?_) (fun w13 => ?_)
                            · refine ⟨?_, nofun⟩
                              show vb (E == 12) = vb true
                              rw [show E = 12 by omega]; rfl
                            · refine .inl ⟨_, _, byX rfl (Sound1.pl (S20 _ _ _) rfl), ?_⟩
                              refine ifB_not ?_
                              refine ifB_dec (fun w14 => ?_) (fun w14 => ?_)
                              · refine ifB_dec (fun w15 => ?_) (fun w15 => ?_)
                                · (exfalso; omega)
                                · refine ⟨[], by kernel_rfl, ?_⟩
                                  refine .inl ⟨_, _, byX rfl (S26 _ (by omega)), ?_⟩
                                  refine .inl ⟨_, _, byX rfl (Sound1.pl (c3 (by omega)) rfl), ?_⟩
                                  refine ⟨[], by kernel_rfl, ?_⟩
                                  refine .inl ⟨_, _, byX rfl (S26 _ (by omega)), ?_⟩
                                  refine .inl ⟨_, _, byX rfl (Sound1.pl (c4 (by omega)) rfl), ?_⟩
                                  refine ifB_dec (fun w16 => ?_) (fun w16 => ?_)
                                  · refine ⟨?_, nofun⟩
                                    show vb (decide (loS B l ≥ fl)) = vb true
                                    rw [decide_eq_true (by omega)]
                                  · (exfalso; omega)
                              · (exfalso; omega)
                        · (exfalso; omega)
              · (exfalso; omega)
            · (exfalso; omega)
  · refine sound (d := 2) tok2 mixed2 Try.func4 (by kernel_rfl) (by kernel_rfl) ?_
    refine .inl ⟨_, _, byX rfl (Sound1.pl (S14) rfl), ?_⟩
    refine .inl ⟨_, _, byX rfl (Sound1.pl (S23 _ (by omega)) rfl), ?_⟩
    refine ifB_bne (fun w1 => ?_) (fun w1 => ?_)
    · refine ⟨?_, nofun⟩
      (rfl)
    · refine ⟨⟨(by omega), (by omega)⟩, ?_⟩
      refine .inl ⟨_, _, byX rfl (Sound1.pl (S24 _) rfl), ?_⟩
      refine ifB_bne (fun w2 => ?_) (fun w2 => ?_)
      · refine ⟨?_, nofun⟩
        (rfl)
      · refine ⟨⟨(by omega), (by omega)⟩, ?_⟩
        refine .inl ⟨_, _, byX rfl (Sound1.pl (S24 _) rfl), ?_⟩
        refine ifB_bne (fun w3 => ?_) (fun w3 => ?_)
        · refine ⟨?_, nofun⟩
          (rfl)
        · refine ⟨⟨(by omega), (by omega)⟩, ?_⟩
          refine ⟨⟨(by omega), (by omega)⟩, ?_⟩
          refine ifB_dec (fun w4 => ?_) (fun w4 => ?_)
          · refine ⟨?_, nofun⟩
            (rfl)
          · refine .inl ⟨_, _, byX rfl (Sound1.pl (S20 _ _ _) rfl), ?_⟩
            refine ifB_not ?_
            refine ifB_dec (fun w5 => ?_) (fun w5 => ?_)
            · (exfalso; omega)
            · refine ⟨?_, nofun⟩
              (rfl)
end Go.Tr

/- The law WaterSplits returns true. Conditions: none. -/
namespace Go.Tr
open Go Go.Proofs
set_option maxRecDepth 20000

theorem S27ex (r d : Int) : ∃ A B E, SP 27 [i64 r, i64 d] (.tuple [.agg [i64 A, i64 B], i64 E]) false ∧
    (rE r ≠ 0 ∧ E = rE r ∧ A = 0 ∧ B = 0 ∨ rE r = 0 ∧ dE d ≠ 0 ∧ E = dE d ∧ A = 0 ∧ B = 0 ∨ rE r = 0 ∧ dE d = 0 ∧ E = 0 ∧ A = loF r d ∧ B = hiF r d) := by
  have h := S27 r d
  refine ⟨_, _, _, h, ?_⟩
  unfold thrF thrE
  by_cases h1 : rE r = 0
  · rw [if_pos h1]
    by_cases h2 : dE d = 0
    · rw [if_pos h2]; exact .inr (.inr ⟨h1, h2, rfl, rfl, rfl⟩)
    · rw [if_neg h2]; exact .inr (.inl ⟨h1, h2, rfl, rfl, rfl⟩)
  · rw [if_neg h1, if_neg h1]; exact .inl ⟨h1, rfl, rfl, rfl⟩
theorem S25ex (l : List Int) (hl : l.length ≤ 1000000000) (d : Int) : ∃ A B E, SP 25 [ints l, i64 d] (.tuple [.agg [i64 A, i64 B], i64 E]) false ∧
    (rsE l ≠ 0 ∧ E = rsE l ∧ A = 0 ∧ B = 0 ∨ rsE l = 0 ∧ dE d ≠ 0 ∧ E = dE d ∧ A = 0 ∧ B = 0 ∨ rsE l = 0 ∧ dE d = 0 ∧ E = 0 ∧ A = loS d l ∧ B = hiS d l) := by
  have h := S25 l hl d
  refine ⟨_, _, _, h, ?_⟩
  unfold parF parE
  by_cases h1 : rsE l = 0
  · rw [if_pos h1]
    by_cases h2 : dE d = 0
    · rw [if_pos h2]; exact .inr (.inr ⟨h1, h2, rfl, rfl, rfl⟩)
    · rw [if_neg h2]; exact .inr (.inl ⟨h1, h2, rfl, rfl, rfl⟩)
  · rw [if_neg h1, if_neg h1]; exact .inl ⟨h1, rfl, rfl, rfl⟩
theorem fE_cases (fl : Int) : fE fl = 0 ∧ 0 ≤ fl ∧ fl ≤ 10000 ∨ fE fl = 2 ∧ ¬ (0 ≤ fl ∧ fl ≤ 10000) := by
  unfold fE; split
  · exact .inl ⟨rfl, by assumption⟩
  · exact .inr ⟨rfl, by assumption⟩

theorem ref_drop {l : List Int} (hr : ∀ r ∈ l, 1 ≤ r ∧ r ≤ 1000) {fl : Int} :
    (loS 1000000000 l < fl → dropHi l fl > 1000000000) ∧ (¬ loS 1000000000 l < fl → dropHi l fl ≤ 1000000000 ∧ refLo l fl = dropLo l fl ∧ refHi l fl = dropHi l fl) := by
  have m1 := dropLo_mem l fl
  have m2 := dropHi_mem l fl
  have k1 : refLo l fl ≥ 0 ∧ refLo l fl ≤ 1000000000 := leastF_mem _ 30 0 1000000000 (by omega)
  have k2 : refHi l fl ≥ 0 ∧ refHi l fl ≤ 1000000000 := leastF_mem _ 30 0 1000000000 (by omega)
  have mH : ∀ x y : Int, 0 ≤ x → x ≤ y → y < 1000000001 → decide (hiS x l ≥ fl) = true → decide (hiS y l ≥ fl) = true := fun x y h1 h2 h3 h => by
    have := sums_mono hr h1 h2 (by omega)
    simp only [decide_eq_true_eq] at h ⊢
    omega
  have mL : ∀ x y : Int, 0 ≤ x → x ≤ y → y < 1000000001 → decide (loS x l ≥ fl) = true → decide (loS y l ≥ fl) = true := fun x y h1 h2 h3 h => by
    have := sums_mono hr h1 h2 (by omega)
    simp only [decide_eq_true_eq] at h ⊢
    omega
  have a := leastF_least (fun d => decide (hiS d l ≥ fl)) 0 1000000001 mH 30 0 1000000001 (by omega) (by omega) (by omega) (by decide)
  have b := leastF_least (fun d => decide (loS d l ≥ fl)) 0 1000000001 mL 30 (dropLo l fl) 1000000001 (by omega) (by omega) (by omega) (by
    have : (2 : Nat) ^ 30 = 1073741824 := by decide
    omega)
  have c := leastF_least (fun d => decide (hiS d l ≥ fl)) 0 1000000001 mH 30 0 1000000000 (by omega) (by omega) (by omega) (by decide)
  have e := leastF_least (fun d => decide (loS d l ≥ fl)) 0 1000000001 mL 30 0 1000000000 (by omega) (by omega) (by omega) (by decide)
  change (∀ x, 0 ≤ x → x < dropLo l fl → _) ∧ (dropLo l fl < _ → _) at a
  change (∀ x, dropLo l fl ≤ x → x < dropHi l fl → _) ∧ (dropHi l fl < _ → decide (loS (dropHi l fl) l ≥ fl) = true) at b
  change (∀ x, 0 ≤ x → x < refLo l fl → _) ∧ (refLo l fl < _ → decide (hiS (refLo l fl) l ≥ fl) = true) at c
  change (∀ x, 0 ≤ x → x < refHi l fl → _) ∧ (refHi l fl < _ → decide (loS (refHi l fl) l ≥ fl) = true) at e
  simp only [decide_eq_true_eq, decide_eq_false_iff_not] at a b c e
  constructor
  · intro h
    rcases Int.lt_or_le 1000000000 (dropHi l fl) with h1 | h1
    · exact h1
    · have := b.2 (by omega)
      have := sums_mono hr (d := dropHi l fl) (d' := 1000000000) (by omega) h1 (by omega)
      omega
  · intro h
    have s := sums hr (d := 1000000000) (by omega) (by omega)
    have d1 : dropLo l fl ≤ 1000000000 := by
      rcases Int.lt_or_le 1000000000 (dropLo l fl) with h1 | h1
      · have := a.1 1000000000 (by omega) h1; omega
      · exact h1
    have d2 : dropHi l fl ≤ 1000000000 := by
      rcases Int.lt_or_le 1000000000 (dropHi l fl) with h1 | h1
      · have := b.1 1000000000 d1 h1; omega
      · exact h1
    have a2 := a.2 (by omega)
    have b2 := b.2 (by omega)
    have c2 : hiS (refLo l fl) l ≥ fl := by
      rcases Int.lt_or_le (refLo l fl) 1000000000 with h1 | h1
      · exact c.2 h1
      · rw [show refLo l fl = 1000000000 by omega]; omega
    have e2 : loS (refHi l fl) l ≥ fl := by
      rcases Int.lt_or_le (refHi l fl) 1000000000 with h1 | h1
      · exact e.2 h1
      · rw [show refHi l fl = 1000000000 by omega]; omega
    refine ⟨d2, ?_, ?_⟩
    · rcases Int.lt_trichotomy (refLo l fl) (dropLo l fl) with h1 | h1 | h1
      · exact absurd c2 (a.1 _ k1.1 h1)
      · exact h1
      · exact absurd a2 (c.1 _ m1.1 h1)
    · rcases Int.lt_trichotomy (refHi l fl) (dropHi l fl) with h1 | h1 | h1
      · rcases Int.lt_or_le (refHi l fl) (dropLo l fl) with h3 | h3
        · have := a.1 _ k2.1 h3
          have := sums hr (d := refHi l fl) k2.1 (by omega)
          omega
        · exact absurd e2 (b.1 _ h3 h1)
      · exact h1
      · exact absurd b2 (e.1 _ (by omega) h1)

theorem S28all (l : List Int) (hl : l.length ≤ 1000000000) (fl : Int) : ∃ A B E, SP 28 [ints l, i64 fl] (.tuple [.agg [i64 A, i64 B], i64 E]) false ∧
    (rsE l ≠ 0 ∧ E = rsE l ∧ A = 0 ∧ B = 0 ∨ rsE l = 0 ∧ ¬ (0 ≤ fl ∧ fl ≤ 10000) ∧ E = 2 ∧ A = 0 ∧ B = 0 ∨ rsE l = 0 ∧ 0 ≤ fl ∧ fl ≤ 10000 ∧ loS 1000000000 l < fl ∧ E = 12 ∧ A = 0 ∧ B = 0 ∨
      rsE l = 0 ∧ 0 ≤ fl ∧ fl ≤ 10000 ∧ ¬ loS 1000000000 l < fl ∧ E = 0 ∧ A = refLo l fl ∧ B = refHi l fl) := by
  have h := S28 l hl fl
  refine ⟨_, _, _, h, ?_⟩
  unfold dropF dropE
  by_cases h1 : rsE l = 0
  · rw [if_pos h1]
    have q := rsE_ok h1
    obtain ⟨r1, r2⟩ := ref_drop q.2.2 (fl := fl)
    rcases fE_cases fl with ⟨h2, h3⟩ | ⟨h2, h3⟩
    · rw [if_pos h2]
      by_cases h4 : loS 1000000000 l < fl
      · rw [if_pos (r1 h4)]; exact .inr (.inr (.inl ⟨h1, h3.1, h3.2, h4, rfl, rfl, rfl⟩))
      · obtain ⟨r3, r4, r5⟩ := r2 h4
        rw [if_neg (by omega)]; exact .inr (.inr (.inr ⟨h1, h3.1, h3.2, h4, rfl, r4.symm, r5.symm⟩))
    · rw [if_neg (by omega)]; exact .inr (.inl ⟨h1, h3, h2, rfl, rfl⟩)
  · rw [if_neg h1, if_neg h1]; exact .inl ⟨h1, rfl, rfl, rfl⟩

/-- A fact laid aside. -/
def Hold (p : Prop) : Prop := p
theorem rE_ok' {n : Int} (h : rE n = 0) : 1 ≤ n ∧ n ≤ 1000 := by
  unfold rE at h; split at h
  · assumption
  · cases h

set_option maxHeartbeats 0 in
theorem S7 (l : List Int) (hl : l.length ≤ 9223372036854775807) (d fl : Int) : SP 7 [ints l, i64 d, i64 fl] (vb true) false := by
  by_cases hs : 10 < l.length
  · refine sound (d := 2) tok2 mixed2 Try.func7 (by kernel_rfl) (by kernel_rfl) ?_
    refine .inl ⟨_, _, byX rfl (Sound1.pl (S14) rfl), ?_⟩
    refine ifB_dec (fun w1 => ?_) (fun w1 => ?_)
    · refine ⟨?_, nofun⟩
      (rfl)
    · (exfalso; omega)
  · have hl9 : l.length ≤ 1000000000 := by omega
    obtain ⟨A, B, E, h25, hE⟩ := S25ex l hl9 d
    obtain ⟨A2, B2, E2, h28, hE2⟩ := S28all l hl9 fl
    have h43 := S43 l hl9
    have hq : rsE l = 0 → ∀ r ∈ l, 1 ≤ r ∧ r ≤ 1000 := fun h => (rsE_ok h).2.2
    have h46 := fun (h : rsE l = 0) (h2 : dE d = 0) => S46 l (by omega) (hq h) d (dE_ok h2).1 (by have := dE_ok h2; omega)
    have h47 := fun (h : rsE l = 0) => S47 l (by omega) (hq h) fl
    refine sound (d := 2) tok2 mixed2 Try.func7 (by kernel_rfl) (by kernel_rfl) ?_
    refine .inl ⟨_, _, byX rfl (Sound1.pl (S14) rfl), ?_⟩
    refine ifB_dec (fun w1 => ?_) (fun w1 => ?_)
    · (exfalso; omega)
    · refine .inl ⟨_, _, byX rfl (S26 _ (by omega)), ?_⟩
      refine .inl ⟨_, _, byX rfl (Sound1.pl (h43) rfl), ?_⟩
      refine .inl ⟨_, _, byX rfl (S26 _ (by omega)), ?_⟩
      refine .inl ⟨_, _, byX rfl (Sound1.pl (h25) rfl), ?_⟩
      refine .inl ⟨_, _, byX rfl (S26 _ (by omega)), ?_⟩
      refine .inl ⟨_, _, byX rfl (Sound1.pl (h28) rfl), ?_⟩
      refine ⟨[], [0, 1, 2, 7, 8, 9, 10, 11, 12, 13], fun st m => ∃ (k : Nat) (F0 : Nat → List AV) (F1 : Nat → List AV) (F3 : Nat → List AV), (k ≤ l.length) ∧ st = ⟨[(0, ints l), (1, i64 d), (2, i64 fl), (7, i64 (if rsE l = 0 then l.sum else 0)), (8, i64 (rsE l)), (9, .optr 2 0 0 0), (10, i64 E), (11, .optr 4 0 0 0), (12, i64 E2), (13, i64 k)], ⟨[⟨1, l.length, F0, 0, false, true⟩, ⟨1, l.length, F1, 0, false, true⟩, ⟨2, 1, fun _ => [i64 A, i64 B], 0, false, true⟩, ⟨1, l.length, F3, 0, false, true⟩, ⟨2, 1, fun _ => [i64 A2, i64 B2], 0, false, true⟩], [], none, 0⟩, []⟩ ∧ m = l.length - k,
        ⟨_, _, ⟨0, _, _, _, by omega, rfl, rfl⟩, ⟨⟨rfl, rfl, rfl, rfl⟩, ⟨⟨rfl, rfl, rfl, rfl, fun _ => rfl, fun _ _ => rfl⟩, ⟨⟨rfl, rfl, rfl, rfl, fun _ => rfl, fun _ _ => rfl⟩, ⟨⟨rfl, rfl, rfl, rfl, fun _ => rfl, fun _ _ => rfl⟩, ⟨⟨rfl, rfl, rfl, rfl, fun _ => rfl, fun _ _ => rfl⟩, ⟨⟨rfl, rfl, rfl, rfl, fun _ => rfl, fun _ _ => rfl⟩, trivial⟩⟩⟩⟩⟩, trivial⟩⟩, ?_⟩
      rintro s0 m0 ⟨k, F0, F1, F3, hk, rfl, hmeas⟩
      by_cases hkl : k < l.length
      · obtain ⟨A3, B3, E3, h27, hE3⟩ := S27ex (l.getD (k : Int).toNat 0) d
        have hy := fun h => rE_ok' (n := l.getD (k : Int).toNat 0) h
        have hz := fun h => dE_ok (d := d) h
        clear hE hE2
        rcases hE3 with ⟨e1, e2, e3, e4⟩ | ⟨e0, e1, e2, e3, e4⟩ | ⟨e0, e1, e2, e3, e4⟩
        · clear hy hz
          refine ifB_dec (fun w2 => ?_) (fun w2 => ?_)
          · refine ⟨⟨(by omega), (by omega)⟩, ?_⟩
            refine .inl ⟨_, _, byX rfl (Sound1.pl (h27) rfl), ?_⟩
            refine ⟨⟨(by omega), (by omega)⟩, ?_⟩
            refine .inl ⟨_, _, byX rfl (Sound1.pl (S44 _) rfl), ?_⟩
            refine ifB_beq (fun w3 => ?_) (fun w3 => ?_)
            · (exfalso; omega)
            · refine ⟨[], by kernel_rfl, ?_⟩
              refine ifB_bne (fun w4 => ?_) (fun w4 => ?_)
              · refine ifB_bne (fun w5 => ?_) (fun w5 => ?_)
                · (exfalso; omega)
                · refine ifB_not ?_
                  refine ifB_veq2 (fun w6 => ?_) (fun w6 => ?_)
                  · refine ifB_beq (fun w7 => ?_) (fun w7 => ?_)
                    · (exfalso; omega)
                    · refine ⟨inK64 (by omega) (by omega), ?_⟩
                      refine ⟨_, _, ⟨⟨k + 1, _, _, _, by omega, rfl, rfl⟩, by omega⟩, ⟨⟨rfl, rfl, rfl, rfl⟩, ⟨⟨rfl, rfl, rfl, rfl, fun _ => rfl, fun _ _ => rfl⟩, ⟨⟨rfl, rfl, rfl, rfl, fun _ => rfl, fun _ _ => rfl⟩, ⟨⟨rfl, rfl, rfl, rfl, fun _ => rfl, fun _ _ => rfl⟩, ⟨⟨rfl, rfl, rfl, rfl, fun _ => rfl, fun _ _ => rfl⟩, ⟨⟨rfl, rfl, rfl, rfl, fun _ => rfl, fun _ _ => rfl⟩, trivial⟩⟩⟩⟩⟩, trivial⟩⟩
                  · (exfalso; omega)
              · (exfalso; omega)
          · (exfalso; omega)
        · clear hy hz
          refine ifB_dec (fun w2 => ?_) (fun w2 => ?_)
          · refine ⟨⟨(by omega), (by omega)⟩, ?_⟩
            refine .inl ⟨_, _, byX rfl (Sound1.pl (h27) rfl), ?_⟩
            refine ⟨⟨(by omega), (by omega)⟩, ?_⟩
            refine .inl ⟨_, _, byX rfl (Sound1.pl (S44 _) rfl), ?_⟩
            refine ifB_beq (fun w3 => ?_) (fun w3 => ?_)
            · refine .inl ⟨_, _, byX rfl (Sound1.pl (S24 _) rfl), ?_⟩
              refine ⟨[], by kernel_rfl, ?_⟩
              refine ifB_bne (fun w4 => ?_) (fun w4 => ?_)
              · refine ifB_bne (fun w5 => ?_) (fun w5 => ?_)
                · (exfalso; omega)
                · refine ifB_not ?_
                  refine ifB_veq2 (fun w6 => ?_) (fun w6 => ?_)
                  · refine ifB_beq (fun w7 => ?_) (fun w7 => ?_)
                    · (exfalso; omega)
                    · refine ⟨inK64 (by omega) (by omega), ?_⟩
                      refine ⟨_, _, ⟨⟨k + 1, _, _, _, by omega, rfl, rfl⟩, by omega⟩, ⟨⟨rfl, rfl, rfl, rfl⟩, ⟨⟨rfl, rfl, rfl, rfl, fun _ => rfl, fun _ _ => rfl⟩, ⟨⟨rfl, rfl, rfl, rfl, fun _ => rfl, fun _ _ => rfl⟩, ⟨⟨rfl, rfl, rfl, rfl, fun _ => rfl, fun _ _ => rfl⟩, ⟨⟨rfl, rfl, rfl, rfl, fun _ => rfl, fun _ _ => rfl⟩, ⟨⟨rfl, rfl, rfl, rfl, fun _ => rfl, fun _ _ => rfl⟩, trivial⟩⟩⟩⟩⟩, trivial⟩⟩
                  · (exfalso; omega)
              · (exfalso; omega)
            · (exfalso; omega)
          · (exfalso; omega)
        · replace hy := hy e0
          replace hz := hz e1
          refine ifB_dec (fun w2 => ?_) (fun w2 => ?_)
          · refine ⟨⟨(by omega), (by omega)⟩, ?_⟩
            refine .inl ⟨_, _, byX rfl (Sound1.pl (h27) rfl), ?_⟩
            refine ⟨⟨(by omega), (by omega)⟩, ?_⟩
            refine .inl ⟨_, _, byX rfl (Sound1.pl (S44 _) rfl), ?_⟩
            refine ifB_beq (fun w3 => ?_) (fun w3 => ?_)
            · refine .inl ⟨_, _, byX rfl (Sound1.pl (S24 _) rfl), ?_⟩
              refine ⟨[], by kernel_rfl, ?_⟩
              refine ifB_bne (fun w4 => ?_) (fun w4 => ?_)
              · (exfalso; omega)
              · refine ifB_beq (fun w5 => ?_) (fun w5 => ?_)
                · refine ifB_bne (fun w6 => ?_) (fun w6 => ?_)
                  · (exfalso; omega)
                  · refine ⟨⟨(by omega), (by omega)⟩, ?_⟩
                    refine .inl ⟨_, _, byX rfl (Sound1.pl (S45 _ _ (by omega) (by omega) (by omega)) rfl), ?_⟩
                    refine ifB_not ?_
                    refine ifB_veq2 (fun w7 => ?_) (fun w7 => ?_)
                    · refine ⟨inK64 (by omega) (by omega), ?_⟩
                      refine ⟨_, _, ⟨⟨k + 1, _, _, _, by omega, rfl, rfl⟩, by omega⟩, ⟨⟨rfl, rfl, rfl, rfl⟩, ⟨⟨rfl, rfl, rfl, rfl, fun _ => rfl, fun _ _ => rfl⟩, ⟨⟨rfl, rfl, rfl, rfl, fun _ => rfl, fun _ _ => rfl⟩, ⟨⟨rfl, rfl, rfl, rfl, fun _ => rfl, fun _ _ => rfl⟩, ⟨⟨rfl, rfl, rfl, rfl, fun _ => rfl, fun _ _ => rfl⟩, ⟨⟨rfl, rfl, rfl, rfl, fun _ => rfl, fun _ _ => rfl⟩, trivial⟩⟩⟩⟩⟩, trivial⟩⟩
                    · (exfalso; omega)
                · (exfalso; omega)
            · (exfalso; omega)
          · (exfalso; omega)
      · by_cases h0 : rsE l = 0
        · have hold : Hold (_ ∧ _) := ⟨hE, hE2⟩
          clear hE hE2
          refine ifB_dec (fun w2 => ?_) (fun w2 => ?_)
          · (exfalso; omega)
          · refine .inl ⟨_, _, byX rfl (Sound1.pl (S23 _ (by omega)) rfl), ?_⟩
            refine ifB_bne (fun w3 => ?_) (fun w3 => ?_)
            · (exfalso; omega)
            · have hb := hq h0
              have h8 := (rsE_ok h0).2.1
              refine ⟨[], [0, 1, 2, 7, 8, 9, 10, 11, 12, 18, 19], fun st m => ∃ (k : Nat) (a : Int) (F0 : Nat → List AV) (F1 : Nat → List AV) (F3 : Nat → List AV), (k ≤ l.length) ∧ (a + (l.drop k).sum = l.sum) ∧ (0 ≤ a ∧ a ≤ 1000 * k) ∧ st = ⟨[(0, ints l), (1, i64 d), (2, i64 fl), (7, i64 (if rsE l = 0 then l.sum else 0)), (8, i64 (rsE l)), (9, .optr 2 0 0 0), (10, i64 E), (11, .optr 4 0 0 0), (12, i64 E2), (18, i64 a), (19, i64 k)], ⟨[⟨1, l.length, F0, 0, false, true⟩, ⟨1, l.length, F1, 0, false, true⟩, ⟨2, 1, fun _ => [i64 A, i64 B], 0, false, true⟩, ⟨1, l.length, F3, 0, false, true⟩, ⟨2, 1, fun _ => [i64 A2, i64 B2], 0, false, true⟩], [], none, 0⟩, []⟩ ∧ m = l.length - k,
                ⟨_, _, ⟨0, 0, _, _, _, by omega, Int.zero_add _, by omega, rfl, rfl⟩, ⟨⟨rfl, rfl, rfl, rfl⟩, ⟨⟨rfl, rfl, rfl, rfl, fun _ => rfl, fun _ _ => rfl⟩, ⟨⟨rfl, rfl, rfl, rfl, fun _ => rfl, fun _ _ => rfl⟩, ⟨⟨rfl, rfl, rfl, rfl, fun _ => rfl, fun _ _ => rfl⟩, ⟨⟨rfl, rfl, rfl, rfl, fun _ => rfl, fun _ _ => rfl⟩, ⟨⟨rfl, rfl, rfl, rfl, fun _ => rfl, fun _ _ => rfl⟩, trivial⟩⟩⟩⟩⟩, trivial⟩⟩, ?_⟩
              rintro s0 m0 ⟨k, a, F0, F1, F3, hk1, ha, hc, rfl, hmeas⟩
              have hx : k < l.length → 1 ≤ l.getD (k : Int).toNat 0 ∧ l.getD (k : Int).toNat 0 ≤ 1000 := fun h => hb _ (by simp [List.getD_eq_getElem?_getD, h])
              by_cases hkl : k < l.length
              · replace hx := hx hkl
                refine ifB_dec (fun w4 => ?_) (fun w4 => ?_)
                · refine ⟨⟨(by omega), (by omega)⟩, ?_⟩
                  refine ⟨inK64 (by omega) (by omega), ?_⟩
                  refine ⟨inK64 (by omega) (by omega), ?_⟩
                  have e := List.drop_eq_getElem_cons (l := l) (i := k) (by omega)
                  have e2 : l.getD (k : Int).toNat 0 = l[k] := by simp [List.getD_eq_getElem?_getD, show k < l.length by omega]
                  rw [e, List.sum_cons, ← e2] at ha
                  refine ⟨_, _, ⟨⟨k + 1, _, _, _, _, by omega, by (rw [Int.add_assoc]; exact ha), by omega, rfl, rfl⟩, by omega⟩, ⟨⟨rfl, rfl, rfl, rfl⟩, ⟨⟨rfl, rfl, rfl, rfl, fun _ => rfl, fun _ _ => rfl⟩, ⟨⟨rfl, rfl, rfl, rfl, fun _ => rfl, fun _ _ => rfl⟩, ⟨⟨rfl, rfl, rfl, rfl, fun _ => rfl, fun _ _ => rfl⟩, ⟨⟨rfl, rfl, rfl, rfl, fun _ => rfl, fun _ _ => rfl⟩, ⟨⟨rfl, rfl, rfl, rfl, fun _ => rfl, fun _ _ => rfl⟩, trivial⟩⟩⟩⟩⟩, trivial⟩⟩
                · (exfalso; omega)
              · have e : k = l.length := by omega
                subst e
                simp only [List.drop_length, List.sum_nil, Int.add_zero] at ha
                subst ha
                clear hx
                have hs0 : (if rsE l = 0 then l.sum else 0) = l.sum := if_pos h0
                have hlt : loS 1000000000 l < fl → (if loS 1000000000 l < fl then 0 else refLo l fl) = 0 ∧ (if loS 1000000000 l < fl then 0 else refHi l fl) = 0 := fun h => ⟨if_pos h, if_pos h⟩
                have hnlt : ¬ loS 1000000000 l < fl → (if loS 1000000000 l < fl then 0 else refLo l fl) = refLo l fl ∧ (if loS 1000000000 l < fl then 0 else refHi l fl) = refHi l fl := fun h => ⟨if_neg h, if_neg h⟩
                obtain ⟨hE, hE2⟩ := hold
                rcases hE with ⟨e1, _⟩ | ⟨-, e1, e2, e3, e4⟩ | ⟨-, e1, e2, e3, e4⟩
                · exact absurd h0 e1
                · rcases hE2 with ⟨f1, _⟩ | ⟨-, f1, f2, f3, f4⟩ | ⟨-, f0, f1, f2, f3, f4, f5⟩ | ⟨-, f0, f1, f2, f3, f4, f5⟩
                  · exact absurd h0 f1
                  · clear hlt hnlt
                    refine ifB_dec (fun w4 => ?_) (fun w4 => ?_)
                    · (exfalso; omega)
                    · refine ifB_bne (fun w5 => ?_) (fun w5 => ?_)
                      · (exfalso; omega)
                      · refine ifB_bne (fun w6 => ?_) (fun w6 => ?_)
                        · (exfalso; omega)
                        · refine .inl ⟨_, _, byX rfl (Sound1.pl (S24 _) rfl), ?_⟩
                          refine ⟨[], by kernel_rfl, ?_⟩
                          refine ifB_bne (fun w7 => ?_) (fun w7 => ?_)
                          · refine ifB_bne (fun w8 => ?_) (fun w8 => ?_)
                            · (exfalso; omega)
                            · refine ifB_not ?_
                              refine ifB_veq2 (fun w9 => ?_) (fun w9 => ?_)
                              · refine ifB_beq (fun w10 => ?_) (fun w10 => ?_)
                                · (exfalso; omega)
                                · refine .inl ⟨_, _, byX rfl (Sound1.pl (S20 _ _ _) rfl), ?_⟩
                                  refine ifB_not ?_
                                  refine ifB_dec (fun w11 => ?_) (fun w11 => ?_)
                                  · (exfalso; omega)
                                  · refine ifB_beq (fun w12 => ?_) (fun w12 => ?_)
                                    · refine ⟨?_, nofun⟩
                                      show vb (vEqL [.int .i64 A2, .int .i64 B2] [.int .i64 0, .int .i64 0]) = vb true
                                      rw [f3, f4]; rfl
                                    · (exfalso; omega)
                              · (exfalso; omega)
                          · (exfalso; omega)
                  · replace hlt := hlt f2
                    clear hnlt
                    refine ifB_dec (fun w4 => ?_) (fun w4 => ?_)
                    · (exfalso; omega)
                    · refine ifB_bne (fun w5 => ?_) (fun w5 => ?_)
                      · (exfalso; omega)
                      · refine ifB_bne (fun w6 => ?_) (fun w6 => ?_)
                        · (exfalso; omega)
                        · refine .inl ⟨_, _, byX rfl (Sound1.pl (S24 _) rfl), ?_⟩
                          refine ⟨[], by kernel_rfl, ?_⟩
                          refine ifB_bne (fun w7 => ?_) (fun w7 => ?_)
                          · refine ifB_bne (fun w8 => ?_) (fun w8 => ?_)
                            · (exfalso; omega)
                            · refine ifB_not ?_
                              refine ifB_veq2 (fun w9 => ?_) (fun w9 => ?_)
                              · refine ifB_beq (fun w10 => ?_) (fun w10 => ?_)
                                · (exfalso; omega)
                                · refine .inl ⟨_, _, byX rfl (Sound1.pl (S20 _ _ _) rfl), ?_⟩
                                  refine ifB_not ?_
                                  refine ifB_dec (fun w11 => ?_) (fun w11 => ?_)
                                  · refine .inl ⟨_, _, byX rfl (Sound1.pl (h47 (by omega)) rfl), ?_⟩
                                    refine ifB_dec (fun w12 => ?_) (fun w12 => ?_)
                                    · (exfalso; omega)
                                    · refine ifB_not ?_
                                      refine ifB_dec (fun w13 => ?_) (fun w13 => ?_)
                                      · (exfalso; omega)
                                      · refine ifB_beq (fun w14 => ?_) (fun w14 => ?_)
                                        · refine ⟨?_, nofun⟩
                                          show vb (vEqL [.int .i64 A2, .int .i64 B2] [.int .i64 0, .int .i64 0]) = vb true
                                          rw [f4, f5]; rfl
                                        · (exfalso; omega)
                                  · (exfalso; omega)
                              · (exfalso; omega)
                          · (exfalso; omega)
                  · replace hnlt := hnlt f2
                    clear hlt
                    refine ifB_dec (fun w4 => ?_) (fun w4 => ?_)
                    · (exfalso; omega)
                    · refine ifB_bne (fun w5 => ?_) (fun w5 => ?_)
                      · (exfalso; omega)
                      · refine ifB_bne (fun w6 => ?_) (fun w6 => ?_)
                        · (exfalso; omega)
                        · refine .inl ⟨_, _, byX rfl (Sound1.pl (S24 _) rfl), ?_⟩
                          refine ⟨[], by kernel_rfl, ?_⟩
                          refine ifB_bne (fun w7 => ?_) (fun w7 => ?_)
                          · refine ifB_bne (fun w8 => ?_) (fun w8 => ?_)
                            · (exfalso; omega)
                            · refine ifB_not ?_
                              refine ifB_veq2 (fun w9 => ?_) (fun w9 => ?_)
                              · refine ifB_beq (fun w10 => ?_) (fun w10 => ?_)
                                · (exfalso; omega)
                                · refine .inl ⟨_, _, byX rfl (Sound1.pl (S20 _ _ _) rfl), ?_⟩
                                  refine ifB_not ?_
                                  refine ifB_dec (fun w11 => ?_) (fun w11 => ?_)
                                  · refine .inl ⟨_, _, byX rfl (Sound1.pl (h47 (by omega)) rfl), ?_⟩
                                    refine ifB_dec (fun w12 => ?_) (fun w12 => ?_)
                                    · refine ifB_beq (fun w13 => ?_) (fun w13 => ?_)
                                      · refine ifB_veq2 (fun w14 => ?_) (fun w14 => ?_)
                                        · refine ⟨?_, nofun⟩
                                          rfl
                                        · (exfalso; omega)
                                      · (exfalso; omega)
                                    · (exfalso; omega)
                                  · (exfalso; omega)
                              · (exfalso; omega)
                          · (exfalso; omega)
                · rcases hE2 with ⟨f1, _⟩ | ⟨-, f1, f2, f3, f4⟩ | ⟨-, f0, f1, f2, f3, f4, f5⟩ | ⟨-, f0, f1, f2, f3, f4, f5⟩
                  · exact absurd h0 f1
                  · clear hlt hnlt
                    refine ifB_dec (fun w4 => ?_) (fun w4 => ?_)
                    · (exfalso; omega)
                    · refine ifB_bne (fun w5 => ?_) (fun w5 => ?_)
                      · (exfalso; omega)
                      · refine ifB_bne (fun w6 => ?_) (fun w6 => ?_)
                        · (exfalso; omega)
                        · refine .inl ⟨_, _, byX rfl (Sound1.pl (S24 _) rfl), ?_⟩
                          refine ⟨[], by kernel_rfl, ?_⟩
                          refine ifB_bne (fun w7 => ?_) (fun w7 => ?_)
                          · (exfalso; omega)
                          · refine ifB_beq (fun w8 => ?_) (fun w8 => ?_)
                            · refine ifB_bne (fun w9 => ?_) (fun w9 => ?_)
                              · (exfalso; omega)
                              · refine .inl ⟨_, _, byX rfl (Sound1.pl (h46 (by omega) (by omega)) rfl), ?_⟩
                                refine ifB_not ?_
                                refine ifB_veq2 (fun w10 => ?_) (fun w10 => ?_)
                                · refine .inl ⟨_, _, byX rfl (Sound1.pl (S20 _ _ _) rfl), ?_⟩
                                  refine ifB_not ?_
                                  refine ifB_dec (fun w11 => ?_) (fun w11 => ?_)
                                  · (exfalso; omega)
                                  · refine ifB_beq (fun w12 => ?_) (fun w12 => ?_)
                                    · refine ⟨?_, nofun⟩
                                      show vb (vEqL [.int .i64 A2, .int .i64 B2] [.int .i64 0, .int .i64 0]) = vb true
                                      rw [f3, f4]; rfl
                                    · (exfalso; omega)
                                · (exfalso; omega)
                            · (exfalso; omega)
                  · replace hlt := hlt f2
                    clear hnlt
                    refine ifB_dec (fun w4 => ?_) (fun w4 => ?_)
                    · (exfalso; omega)
                    · refine ifB_bne (fun w5 => ?_) (fun w5 => ?_)
                      · (exfalso; omega)
                      · refine ifB_bne (fun w6 => ?_) (fun w6 => ?_)
                        · (exfalso; omega)
                        · refine .inl ⟨_, _, byX rfl (Sound1.pl (S24 _) rfl), ?_⟩
                          refine ⟨[], by kernel_rfl, ?_⟩
                          refine ifB_bne (fun w7 => ?_) (fun w7 => ?_)
                          · (exfalso; omega)
                          · refine ifB_beq (fun w8 => ?_) (fun w8 => ?_)
                            · refine ifB_bne (fun w9 => ?_) (fun w9 => ?_)
                              · (exfalso; omega)
                              · refine .inl ⟨_, _, byX rfl (Sound1.pl (h46 (by omega) (by omega)) rfl), ?_⟩
                                refine ifB_not ?_
                                refine ifB_veq2 (fun w10 => ?_) (fun w10 => ?_)
                                · refine .inl ⟨_, _, byX rfl (Sound1.pl (S20 _ _ _) rfl), ?_⟩
                                  refine ifB_not ?_
                                  refine ifB_dec (fun w11 => ?_) (fun w11 => ?_)
                                  · refine .inl ⟨_, _, byX rfl (Sound1.pl (h47 (by omega)) rfl), ?_⟩
                                    refine ifB_dec (fun w12 => ?_) (fun w12 => ?_)
                                    · (exfalso; omega)
                                    · refine ifB_not ?_
                                      refine ifB_dec (fun w13 => ?_) (fun w13 => ?_)
                                      · (exfalso; omega)
                                      · refine ifB_beq (fun w14 => ?_) (fun w14 => ?_)
                                        · refine ⟨?_, nofun⟩
                                          show vb (vEqL [.int .i64 A2, .int .i64 B2] [.int .i64 0, .int .i64 0]) = vb true
                                          rw [f4, f5]; rfl
                                        · (exfalso; omega)
                                  · (exfalso; omega)
                                · (exfalso; omega)
                            · (exfalso; omega)
                  · replace hnlt := hnlt f2
                    clear hlt
                    refine ifB_dec (fun w4 => ?_) (fun w4 => ?_)
                    · (exfalso; omega)
                    · refine ifB_bne (fun w5 => ?_) (fun w5 => ?_)
                      · (exfalso; omega)
                      · refine ifB_bne (fun w6 => ?_) (fun w6 => ?_)
                        · (exfalso; omega)
                        · refine .inl ⟨_, _, byX rfl (Sound1.pl (S24 _) rfl), ?_⟩
                          refine ⟨[], by kernel_rfl, ?_⟩
                          refine ifB_bne (fun w7 => ?_) (fun w7 => ?_)
                          · (exfalso; omega)
                          · refine ifB_beq (fun w8 => ?_) (fun w8 => ?_)
                            · refine ifB_bne (fun w9 => ?_) (fun w9 => ?_)
                              · (exfalso; omega)
                              · refine .inl ⟨_, _, byX rfl (Sound1.pl (h46 (by omega) (by omega)) rfl), ?_⟩
                                refine ifB_not ?_
                                refine ifB_veq2 (fun w10 => ?_) (fun w10 => ?_)
                                · refine .inl ⟨_, _, byX rfl (Sound1.pl (S20 _ _ _) rfl), ?_⟩
                                  refine ifB_not ?_
                                  refine ifB_dec (fun w11 => ?_) (fun w11 => ?_)
                                  · refine .inl ⟨_, _, byX rfl (Sound1.pl (h47 (by omega)) rfl), ?_⟩
                                    refine ifB_dec (fun w12 => ?_) (fun w12 => ?_)
                                    · refine ifB_beq (fun w13 => ?_) (fun w13 => ?_)
                                      · refine ifB_veq2 (fun w14 => ?_) (fun w14 => ?_)
                                        · refine ⟨?_, nofun⟩
                                          rfl
                                        · (exfalso; omega)
                                      · (exfalso; omega)
                                    · (exfalso; omega)
                                  · (exfalso; omega)
                                · (exfalso; omega)
                            · (exfalso; omega)
        · replace hE : E = rsE l ∧ A = 0 ∧ B = 0 := by
            rcases hE with ⟨e1, e⟩ | ⟨e1, e⟩ | ⟨e1, e⟩
            · exact e
            · exact absurd e1 h0
            · exact absurd e1 h0
          replace hE2 : E2 = rsE l ∧ A2 = 0 ∧ B2 = 0 := by
            rcases hE2 with ⟨e1, e⟩ | ⟨e1, e⟩ | ⟨e1, e⟩ | ⟨e1, e⟩
            · exact e
            · exact absurd e1 h0
            · exact absurd e1 h0
            · exact absurd e1 h0
          have hs0 : (if rsE l = 0 then l.sum else 0) = 0 := if_neg h0
          refine ifB_dec (fun w2 => ?_) (fun w2 => ?_)
          · (exfalso; omega)
          · refine .inl ⟨_, _, byX rfl (Sound1.pl (S23 _ (by omega)) rfl), ?_⟩
            refine ifB_bne (fun w3 => ?_) (fun w3 => ?_)
            · refine ifB_beq (fun w4 => ?_) (fun w4 => ?_)
              · refine ifB_beq (fun w5 => ?_) (fun w5 => ?_)
                · refine ifB_beq (fun w6 => ?_) (fun w6 => ?_)
                  · refine ifB_beq (fun w7 => ?_) (fun w7 => ?_)
                    · refine ifB_veq2 (fun w8 => ?_) (fun w8 => ?_)
                      · refine ⟨?_, nofun⟩
                        show vb (vEqL [.int .i64 A2, .int .i64 B2] [.int .i64 0, .int .i64 0]) = vb true
                        rw [hE2.2.1, hE2.2.2]; rfl
                      · (exfalso; omega)
                    · (exfalso; omega)
                  · (exfalso; omega)
                · (exfalso; omega)
              · (exfalso; omega)
            · (exfalso; omega)
end Go.Tr

/- The opening of a law: what an argument reads as, as abstract values, with its shape. Conditions: types of numbers, truth values, strings, slices, structs and arrays. -/
namespace Go.Tr
open Go Go.RowKit

def V2 (P : Program) (w : World) (q : Nat → Prop) : List AV → List Value → Prop
  | [], [] => True
  | x :: xs, v :: vs => (VT P w q x v ∧ v.oneCell' = true) ∧ V2 P w q xs vs
  | _, _ => False

def All2 {α β : Type} (p : α → β → Prop) : List α → List β → Prop
  | [], [] => True
  | x :: xs, y :: ys => p x y ∧ All2 p xs ys
  | _, _ => False

/-- The shape of what a type's cells read as. -/
def TyC (P : Program) : Nat → TypeId → List AV → Prop
  | 0, _, _ => True
  | m + 1, t, xs => match P.underlying t with
    | some .bool => ∃ b, xs = [.val (.bool b)]
    | some (.int k) => ∃ n, xs = [.val (.int k n)] ∧ inK k n
    | some .string => ∃ s : ByteArray, xs = [.val (.string s)] ∧ s.size ≤ 9223372036854775807
    | some (.slice e) => ∃ len f, xs = [.rslice (P.cellsOf e) len f] ∧ len ≤ 9223372036854775807 ∧ ∀ i, i < len → TyC P m e (f i)
    | some (.struct fs) => ∃ ps : List (List AV), xs = ps.flatten ∧ All2 (fun f p => TyC P m f.type p) fs.toList ps
    | some (.array n e) => ∃ ps : List (List AV), xs = ps.flatten ∧ ps.length = n ∧ ∀ p ∈ ps, TyC P m e p
    | _ => False

def layF (P : Program) (g : TypeId → Bool) : List Field → Nat → Nat → Bool
  | [], off, tot => Nat.beq off tot
  | f :: r, off, tot => Nat.beq f.offset off && g f.type && layF P g r (off + P.cellsOf f.type) tot

/-- Types that are covered, laid out part behind part. -/
def lay (P : Program) : Nat → TypeId → Bool
  | 0, _ => false
  | m + 1, t => match P.underlying t with
    | some .bool | some (.int _) | some .string => true
    | some (.slice e) => Nat.blt 0 (P.cellsOf e) && lay P m e
    | some (.struct fs) => layF P (lay P m) fs.toList 0 (P.cellsOf t)
    | some (.array n e) => Nat.beq (P.cellsOf t) (n * P.cellsOf e) && lay P m e
    | _ => false

section
variable {H : Type} {enc : TypeId × Value → H} {P : Program} {w : World} {spare : Nat → Bool} {held : Bool} {q : Nat → Prop}

theorem V2_len : ∀ {xs : List AV} {vs : List Value}, V2 P w q xs vs → xs.length = vs.length
  | [], [], _ => rfl
  | x :: xs, v :: vs, h => by simp [V2_len h.2]
  | [], _ :: _, h => h.elim
  | _ :: _, [], h => h.elim

theorem V2_append : ∀ {xs : List AV} {vs : List Value} {ys : List AV} {us : List Value}, V2 P w q xs vs → V2 P w q ys us → V2 P w q (xs ++ ys) (vs ++ us)
  | [], [], _, _, _, h => h
  | _ :: _, _ :: _, _, _, h, h' => ⟨h.1, V2_append h.2 h'⟩
  | [], _ :: _, _, _, h, _ => h.elim
  | _ :: _, [], _, _, h, _ => h.elim

theorem V2_get : ∀ {xs : List AV} {vs : List Value}, V2 P w q xs vs → ∀ (i : Nat) x, xs[i]? = some x → VT P w q x (vs.getD i undef) ∧ (vs.getD i undef).oneCell' = true
  | [], [], _, i, x, hx => by simp at hx
  | y :: ys, v :: vs, h, 0, x, hx => by
    simp at hx
    subst hx
    simpa using h.1
  | y :: ys, v :: vs, h, i + 1, x, hx => by
    have := V2_get h.2 i x (by simpa using hx)
    simpa using this
  | [], _ :: _, h, _, _, _ => h.elim
  | _ :: _, [], h, _, _, _ => h.elim

theorem mapM_cons_some {α β : Type} {f : α → Option β} {a : α} {l : List α} {r : List β} (h : (a :: l).mapM f = some r) : ∃ b bs, f a = some b ∧ l.mapM f = some bs ∧ r = b :: bs := by
  rw [List.mapM_cons] at h
  cases ha : f a with
  | none => simp [ha] at h
  | some b =>
    cases hl : l.mapM f with
    | none => simp [ha, hl] at h
    | some bs => simp [ha, hl] at h; exact ⟨b, bs, rfl, rfl, h.symm⟩

theorem mapM_get {α β : Type} {f : α → Option β} : ∀ {l : List α} {r : List β}, l.mapM f = some r → r.length = l.length ∧ ∀ (i : Nat) x, l[i]? = some x → ∃ y, f x = some y ∧ r[i]? = some y
  | [], r, h => by simp at h; subst h; exact ⟨rfl, fun i x hx => by simp at hx⟩
  | a :: l, r, h => by
    obtain ⟨b, bs, h1, h2, rfl⟩ := mapM_cons_some h
    obtain ⟨g1, g2⟩ := mapM_get h2
    refine ⟨by simp [g1], fun i x hx => ?_⟩
    cases i with
    | zero => simp at hx; subst hx; exact ⟨b, h1, rfl⟩
    | succ i => simpa using g2 i x (by simpa using hx)

theorem cells_some {a : Addr} {n : Nat} {cs : List Value} (h : w.cells? 0 a n = some cs) : cs.length = n ∧ ∀ j, j < n → w.cell? (a.add j) = some (cs.getD j undef) := by
  unfold World.cells? at h
  rw [if_pos (Nat.zero_le _)] at h
  obtain ⟨h1, h2⟩ := mapM_get h
  refine ⟨by simpa using h1, fun j hj => ?_⟩
  obtain ⟨y, h3, h4⟩ := h2 j j (by simp [hj])
  rw [h3, List.getD_eq_getElem?_getD, h4]
  rfl

theorem cell_spot {a : Addr} {v : Value} (h : w.cell? a = some v) : a.spot = none ∧ a.block < w.heap.size := by
  unfold World.cell? at h
  split at h
  · rename_i c t fr hb
    refine ⟨?_, ?_⟩
    · cases hs : a.spot with
      | none => rfl
      | some s => simp [hs] at h
    · exact (Array.getElem?_eq_some_iff.1 hb).1
  · cases h

theorem addr_add2 (blk off u j : Nat) : ((⟨blk, off, none⟩ : Addr).add u).add j = ⟨blk, off + (u + j), none⟩ := by
  unfold Addr.add
  by_cases h1 : u = 0
  · subst h1
    by_cases h2 : j = 0
    · subst h2; rfl
    · simp [h2]
  · by_cases h2 : j = 0
    · subst h2; simp [h1]
    · simp [h1, h2, Nat.add_assoc]

theorem fields_av {g : TypeId → List Value → Option (DataW H × List MemPlace)} {T : TypeId → List AV → Prop} {ly : TypeId → Bool}
    (ih : ∀ t, ly t = true → ∀ cs x, g t cs = some x → ∃ xs, V2 P w q xs cs ∧ T t xs) (cs : List Value) : ∀ (fs : List Field) (off : Nat) (r : List (DataW H × List MemPlace)), layF P ly fs off cs.length = true →
    (fs.mapM fun f => g f.type ((cs.drop f.offset).take (P.cellsOf f.type))) = some r → ∃ ps : List (List AV), V2 P w q ps.flatten (cs.drop off) ∧ All2 (fun f p => T f.type p) fs ps
  | [], off, r, hl, h => by
    have := Nat.eq_of_beq_eq_true hl
    subst this
    exact ⟨[], by simp [V2], trivial⟩
  | f :: fs, off, r, hl, h => by
    simp only [layF, Bool.and_eq_true] at hl
    obtain ⟨⟨h1, h2⟩, h3⟩ := hl
    have e := Nat.eq_of_beq_eq_true h1
    obtain ⟨b, bs, g1, g2, rfl⟩ := mapM_cons_some h
    obtain ⟨p, p1, p2⟩ := ih _ h2 _ _ g1
    obtain ⟨ps, r1, r2⟩ := fields_av ih cs fs _ _ h3 g2
    refine ⟨p :: ps, ?_, p2, r2⟩
    rw [List.flatten_cons]
    have : cs.drop off = (cs.drop f.offset).take (P.cellsOf f.type) ++ cs.drop (off + P.cellsOf f.type) := by
      rw [e, ← List.drop_drop]
      exact (List.take_append_drop _ _).symm
    rw [this]
    exact V2_append p1 r1

theorem items_av {g : List Value → Option (DataW H × List MemPlace)} {T : List AV → Prop} (ih : ∀ cs x, g cs = some x → ∃ xs, V2 P w q xs cs ∧ T xs) (cs : List Value) (s n : Nat) (hn : cs.length = n * s)
    (h : ∀ i, i < n → ∃ x, g ((cs.drop (i * s)).take s) = some x) : ∀ (k i : Nat), i + k = n → ∃ ps : List (List AV), V2 P w q ps.flatten (cs.drop (i * s)) ∧ ps.length = k ∧ ∀ p ∈ ps, T p
  | 0, i, hi => by
    have : i = n := by omega
    subst this
    refine ⟨[], ?_, rfl, nofun⟩
    rw [List.drop_eq_nil_of_le (by omega)]
    exact trivial
  | k + 1, i, hi => by
    obtain ⟨x, hx⟩ := h i (by omega)
    obtain ⟨p, p1, p2⟩ := ih _ _ hx
    obtain ⟨ps, r1, r2, r3⟩ := items_av ih cs s n hn h k (i + 1) (by omega)
    refine ⟨p :: ps, ?_, by simp [r2], fun y hy => ?_⟩
    · rw [List.flatten_cons]
      have : cs.drop (i * s) = (cs.drop (i * s)).take s ++ cs.drop ((i + 1) * s) := by
        rw [Nat.succ_mul, ← List.drop_drop]
        exact (List.take_append_drop _ _).symm
      rw [this]
      exact V2_append p1 r1
    · rcases List.mem_cons.1 hy with rfl | hy
      · exact p2
      · exact r3 y hy

theorem trod_av (hq : ∀ b, b < w.heap.size → q b) : ∀ (m : Nat) (t : TypeId), lay P m t = true → ∀ (fuel : Nat) (cs : List Value) (x : DataW H × List MemPlace), DataW.trod enc P w 0 spare held fuel t cs = some x → ∃ xs, V2 P w q xs cs ∧ TyC P m t xs
  | 0, t, hl, _, _, _, _ => by simp [lay] at hl
  | m + 1, t, hl, 0, cs, x, h => by simp [DataW.trod] at h
  | m + 1, t, hl, fuel + 1, cs, x, h => by
    unfold lay at hl
    unfold TyC
    unfold DataW.trod at h
    cases hu : P.underlying t with
    | none => simp [hu] at hl
    | some d =>
      simp only [hu] at hl h ⊢
      cases d with
      | bool =>
        split at h <;> first | (cases h; done) | (rename_i e; cases e; done) | skip
        cases h
        exact ⟨[.val (.bool _)], ⟨⟨.val _, rfl⟩, trivial⟩, _, rfl⟩
      | int k =>
        split at h <;> first | (cases h; done) | (rename_i e; cases e; done) | skip
        rename_i e
        cases e
        split at h
        · rename_i hk
          obtain ⟨rfl, hw⟩ := hk
          simp only [Lit.wf, Bool.and_eq_true, decide_eq_true_eq] at hw
          exact ⟨[.val (.int _ _)], ⟨⟨.val _, rfl⟩, trivial⟩, _, rfl, hw⟩
        · cases h
      | string =>
        split at h <;> first | (cases h; done) | (rename_i e; cases e; done) | skip
        split at h
        · rename_i hs
          exact ⟨[.val (.string _)], ⟨⟨.val _, rfl⟩, trivial⟩, _, rfl, hs⟩
        · cases h
      | slice e =>
        simp only [Bool.and_eq_true] at hl
        split at h <;> first | (cases h; done) | (rename_i e; cases e; done) | skip
        · exact ⟨[.rslice (P.cellsOf e) 0 fun _ => []], ⟨⟨.rslice0 _ _ _ _, rfl⟩, trivial⟩, _, _, rfl, by omega, fun i hi => absurd hi (Nat.not_lt_zero i)⟩
        · rename_i e0 a len cap e1
          cases e1
          split at h
          case isFalse => cases h
          rename_i hb
          have hes : 0 < P.cellsOf e := Nat.le_of_ble_eq_true hl.1
          cases hM : (List.range len).mapM fun i => (w.cells? 0 (a.add (i * P.cellsOf e)) (P.cellsOf e)).bind (DataW.trod enc P w 0 spare held fuel e) with
          | none => rw [hM] at h; cases h
          | some elems =>
            obtain ⟨_, g2⟩ := mapM_get hM
            have hx : ∀ i, ∃ xs : List AV, i < len → ∃ cs, (cs.length = P.cellsOf e ∧ ∀ j, j < P.cellsOf e → w.cell? ((a.add (i * P.cellsOf e)).add j) = some (cs.getD j undef)) ∧ V2 P w q xs cs ∧ TyC P m e xs := fun i => by
              by_cases hi : i < len
              · obtain ⟨y, y1, _⟩ := g2 i i (by simp [hi])
                cases hc : w.cells? 0 (a.add (i * P.cellsOf e)) (P.cellsOf e) with
                | none => rw [hc] at y1; cases y1
                | some cs1 =>
                  rw [hc] at y1
                  obtain ⟨xs, x1, x2⟩ := trod_av hq m e hl.2 _ _ _ y1
                  exact ⟨xs, fun _ => ⟨cs1, cells_some hc, x1, x2⟩⟩
              · exact ⟨[], fun h => absurd h hi⟩
            have hf := fun i => (Classical.choose_spec (hx i))
            generalize hF : (fun i => Classical.choose (hx i)) = F
            have hf : ∀ i, i < len → ∃ cs, (cs.length = P.cellsOf e ∧ ∀ j, j < P.cellsOf e → w.cell? ((a.add (i * P.cellsOf e)).add j) = some (cs.getD j undef)) ∧ V2 P w q (F i) cs ∧ TyC P m e (F i) := fun i hi => by
              have := Classical.choose_spec (hx i) hi
              rw [← hF]
              exact this
            refine ⟨[.rslice (P.cellsOf e) len F], ⟨⟨?_, rfl⟩, trivial⟩, len, F, rfl, ?_, fun i hi => ?_⟩
            · rcases Nat.eq_zero_or_pos len with rfl | hp
              · exact .rslice0 _ _ _ _
              · obtain ⟨cs0, c1, _, _⟩ := hf 0 hp
                have hc0 := c1.2 0 hes
                have e0 : ((a.add (0 * P.cellsOf e)).add 0) = a := by simp [Addr.add]
                rw [e0] at hc0
                obtain ⟨s1, s2⟩ := cell_spot hc0
                obtain ⟨blk, off, spot⟩ := a
                simp only at s1 s2
                subst s1
                have hG : ∀ i, ∃ cs : List Value, i < len → (cs.length = P.cellsOf e ∧ ∀ j, j < P.cellsOf e → w.cell? (((⟨blk, off, none⟩ : Addr).add (i * P.cellsOf e)).add j) = some (cs.getD j undef)) ∧ V2 P w q (F i) cs := fun i => by
                  by_cases hi : i < len
                  · obtain ⟨cs, c1, c2, _⟩ := hf i hi
                    exact ⟨cs, fun _ => ⟨c1, c2⟩⟩
                  · exact ⟨[], fun h => absurd h hi⟩
                refine .rslice _ _ _ blk off cap (fun i j => (Classical.choose (hG i)).getD j undef) hb.2.1 (hq _ s2) (fun i hi => ?_) (fun i j hi hj => ?_) (fun i j x hi hx => ?_)
                · obtain ⟨c1, c2⟩ := Classical.choose_spec (hG i) hi
                  rw [V2_len c2, c1.1]
                · obtain ⟨c1, c2⟩ := Classical.choose_spec (hG i) hi
                  have hc := c1.2 j hj
                  have ea : ((⟨blk, off, none⟩ : Addr).add (i * P.cellsOf e)).add j = ⟨blk, off + (i * P.cellsOf e + j), none⟩ := by
                    exact addr_add2 blk off _ j
                  rw [ea] at hc
                  refine ⟨hc, ?_⟩
                  have hlt : j < (F i).length := by rw [V2_len c2, c1.1]; exact hj
                  exact (V2_get c2 j _ (List.getElem?_eq_getElem hlt)).2
                · obtain ⟨c1, c2⟩ := Classical.choose_spec (hG i) hi
                  exact (V2_get c2 j x hx).1
            · have := hb.2.2
              unfold maxLen at this
              omega
            · obtain ⟨_, _, _, h3⟩ := hf i hi
              exact h3
      | struct fs =>
        replace h : (if cs.length = P.cellsOf t then (fs.toList.mapM fun f => DataW.trod enc P w 0 spare held fuel f.type ((cs.drop f.offset).take (P.cellsOf f.type))).map fun xs => (.agg (xs.map (·.1)), xs.flatMap (·.2)) else none) = some x := h
        split at h
        case isFalse => cases h
        rename_i hc
        cases hM : fs.toList.mapM fun f => DataW.trod enc P w 0 spare held fuel f.type ((cs.drop f.offset).take (P.cellsOf f.type)) with
        | none => rw [hM] at h; cases h
        | some r =>
          obtain ⟨ps, p1, p2⟩ := fields_av (T := TyC P m) (ly := lay P m) (fun t ht cs x hx => trod_av hq m t ht fuel cs x hx) cs fs.toList 0 r (by rw [hc]; exact hl) hM
          exact ⟨ps.flatten, by simpa using p1, ps, rfl, p2⟩
      | array n e =>
        simp only [Bool.and_eq_true] at hl
        replace h : (if cs.length = P.cellsOf t then ((List.range n).mapM fun i => DataW.trod enc P w 0 spare held fuel e ((cs.drop (i * P.cellsOf e)).take (P.cellsOf e))).map fun xs => (.agg (xs.map (·.1)), xs.flatMap (·.2)) else none) = some x := h
        split at h
        case isFalse => cases h
        rename_i hc
        cases hM : (List.range n).mapM fun i => DataW.trod enc P w 0 spare held fuel e ((cs.drop (i * P.cellsOf e)).take (P.cellsOf e)) with
        | none => rw [hM] at h; cases h
        | some r =>
          obtain ⟨_, g2⟩ := mapM_get hM
          obtain ⟨ps, p1, p2, p3⟩ := items_av (T := TyC P m e) (fun cs x hx => trod_av hq m e hl.2 fuel cs x hx) cs (P.cellsOf e) n (by rw [hc]; exact Nat.eq_of_beq_eq_true hl.1)
            (fun i hi => by obtain ⟨y, y1, _⟩ := g2 i i (by simp [hi]); exact ⟨y, y1⟩) n 0 (by omega)
          exact ⟨ps.flatten, by simpa using p1, ps, rfl, p2, p3⟩
      | _ => simp at hl

/-- The shape of an argument. -/
def TyA (P : Program) (m : Nat) (t : TypeId) (x : AV) : Prop :=
  match P.underlying t with
  | some (.struct _) | some (.array _ _) => ∃ xs, x = .agg xs ∧ TyC P m t xs
  | _ => TyC P m t [x]

/-- An argument of a law, as an abstract value. -/
theorem open_av {r : Reach} {b0 : Nat} {t : TypeId} {v : Value} {d : DataW H} {ps : List MemPlace} {m : Nat} (hl : lay P m t = true) (hq : ∀ b, b < w.heap.size → q b)
    (hv : Value.okWide P w r b0 t v) (hd : DataW.Trod enc P w 0 spare held t v d ps) : ∃ x, VT P w q x v ∧ TyA P m t x := by
  obtain ⟨fuel, hf⟩ := hd
  obtain ⟨xs, h1, h2⟩ := trod_av hq m t hl fuel _ _ hf
  have agg : ∀ cs, v = .agg cs → VT P w q (.agg xs) v := by
    rintro cs rfl
    have hlen := V2_len h1
    refine .agg xs cs (by rw [hlen]; simp [Value.cells]) (fun u hu => ?_) (fun i x hx => ?_)
    · obtain ⟨i, hi, rfl⟩ := List.getElem_of_mem hu
      have hx : i < xs.length := by rw [hlen]; simpa [Value.cells] using hi
      have := (V2_get h1 i _ (List.getElem?_eq_getElem hx)).2
      have hi' : i < cs.size := by simpa using hi
      simpa [Value.cells, List.getD_eq_getElem?_getD, hi'] using this
    · have := (V2_get h1 i x hx).1
      simpa [Value.cells, List.getD_eq_getElem?_getD, Array.getD_eq_getD_getElem?] using this
  have one : ∀ u, v.cells.toList = [u] → v = u → ∃ x, VT P w q x v ∧ TyC P m t [x] := by
    rintro u e rfl
    rw [e] at h1
    match xs, h1, h2 with
    | [x], h1, h2 => exact ⟨x, h1.1.1, h2⟩
  unfold TyA
  unfold Value.okWide at hv
  split
  · rename_i fs hu
    simp only [hu] at hv
    obtain ⟨cs, e, _, _⟩ := hv
    exact ⟨_, agg cs e, xs, rfl, h2⟩
  · rename_i n e hu
    simp only [hu] at hv
    obtain ⟨cs, e, _, _⟩ := hv
    exact ⟨_, agg cs e, xs, rfl, h2⟩
  · rename_i n1 n2
    have hc : Cell.okWide P w r b0 t v := by
      split at hv
      · rename_i hu; exact absurd hu (n1 _)
      · rename_i hu; exact absurd hu (n2 _ _)
      · exact hv
    cases v with
    | agg cs =>
      simp only [Cell.okWide] at hc
      split at hc <;> first | (rename_i e _; cases e; done) | (rename_i e; cases e; done) | (simp [Cell.ok] at hc)
    | tuple cs =>
      simp only [Cell.okWide] at hc
      split at hc <;> first | (rename_i e _; cases e; done) | (rename_i e; cases e; done) | (simp [Cell.ok] at hc)
    | _ => exact one _ rfl rfl
end
end Go.Tr

/- Nets of chapter 2 as plain data, their abstract values, and the opening of a net. Conditions: none. -/
namespace Go.Tr
open Go Go.Proofs Go.RowKit

structure Nd where
  name : ByteArray
  lake : Bool
  head : Int
  draw : Int
structure Cn where
  name : ByteArray
  fr : Int
  to : Int
  res : Int
  valve : Bool
  opn : Bool
structure Net where
  ns : List Nd
  cs : List Cn

set_option maxRecDepth 20000
abbrev sv (s : ByteArray) : AV := .val (.string s)
def ndC (n : Nd) : List AV := [sv n.name, vb n.lake, i64 n.head, i64 n.draw]
def cnC (c : Cn) : List AV := [sv c.name, i64 c.fr, i64 c.to, i64 c.res, vb c.valve, vb c.opn]
def nd0 : Nd := ⟨ByteArray.empty, false, 0, 0⟩
def cn0 : Cn := ⟨ByteArray.empty, 0, 0, 0, false, false⟩
def listA {α : Type} (es : Nat) (g : α → List AV) (d : α) (l : List α) : AV := .rslice es l.length fun i => g (l.getD i d)
def netV (N : Net) : AV := .agg [listA 4 ndC nd0 N.ns, listA 6 cnC cn0 N.cs]

structure Nd.In (n : Nd) : Prop where
  name : n.name.size ≤ 9223372036854775807
  head : inK .i64 n.head
  draw : inK .i64 n.draw
structure Cn.In (c : Cn) : Prop where
  name : c.name.size ≤ 9223372036854775807
  fr : inK .i64 c.fr
  to : inK .i64 c.to
  res : inK .i64 c.res
structure Net.In (N : Net) : Prop where
  nl : N.ns.length ≤ 9223372036854775807
  cl : N.cs.length ≤ 9223372036854775807
  ns : ∀ n ∈ N.ns, n.In
  cs : ∀ c ∈ N.cs, c.In

/-- A slice whose rows are typed, as a list. -/
theorem list_open {α : Type} {es len : Nat} {f : Nat → List AV} {g : α → List AV} {p : α → Prop} (d : α) (h : ∀ i, i < len → ∃ a, f i = g a ∧ p a) :
    ∃ l : List α, l.length = len ∧ (∀ a ∈ l, p a) ∧ ∀ k, AVE (k + 1) (.rslice es len f) (listA es g d l) := by
  have hx : ∀ i, ∃ a, i < len → f i = g a ∧ p a := fun i => by
    by_cases hi : i < len
    · obtain ⟨a, ha⟩ := h i hi
      exact ⟨a, fun _ => ha⟩
    · exact ⟨d, fun h => absurd h hi⟩
  refine ⟨(List.range len).map fun i => Classical.choose (hx i), by simp, fun a ha => ?_, fun k => ⟨rfl, by simp, fun i hi => ?_⟩⟩
  · obtain ⟨i, hi, rfl⟩ := List.mem_map.1 ha
    exact (Classical.choose_spec (hx i) (List.mem_range.1 hi)).2
  · have := (Classical.choose_spec (hx i) hi).1
    simpa [List.getD_eq_getElem?_getD, hi] using this

theorem all2_get {α β : Type} {p : α → β → Prop} : ∀ {l : List α} {m : List β}, All2 p l m → m.length = l.length ∧ ∀ (i : Nat) x, l[i]? = some x → ∃ y, m[i]? = some y ∧ p x y
  | [], [], _ => ⟨rfl, fun i x hx => by simp at hx⟩
  | x :: l, y :: m, h => by
    obtain ⟨g1, g2⟩ := all2_get h.2
    refine ⟨by simp [g1], fun i a ha => ?_⟩
    cases i with
    | zero => simp at ha; subst ha; exact ⟨y, rfl, h.1⟩
    | succ i => simpa using g2 i a (by simpa using ha)
  | [], _ :: _, h => h.elim
  | _ :: _, [], h => h.elim

theorem int_open {m : Nat} {t : TypeId} {xs : List AV} {P : Program} (hu : P.underlying t = some (.int .i64)) (h : TyC P (m + 1) t xs) : ∃ n, xs = [i64 n] ∧ inK .i64 n := by
  simp only [TyC, hu] at h
  exact h
theorem bool_open {m : Nat} {t : TypeId} {xs : List AV} {P : Program} (hu : P.underlying t = some .bool) (h : TyC P (m + 1) t xs) : ∃ b, xs = [vb b] := by
  simp only [TyC, hu] at h
  exact h
theorem str_open {m : Nat} {t : TypeId} {xs : List AV} {P : Program} (hu : P.underlying t = some .string) (h : TyC P (m + 1) t xs) : ∃ s : ByteArray, xs = [sv s] ∧ s.size ≤ 9223372036854775807 := by
  simp only [TyC, hu] at h
  exact h

theorem all2_2 {α β : Type} {p : α → β → Prop} {a b : α} {m : List β} (h : All2 p [a, b] m) : ∃ x y, m = [x, y] ∧ p a x ∧ p b y := by
  match m, h with
  | [x, y], h => exact ⟨x, y, rfl, h.1, h.2.1⟩
theorem all2_4 {α β : Type} {p : α → β → Prop} {a b c d : α} {m : List β} (h : All2 p [a, b, c, d] m) : ∃ x y z u, m = [x, y, z, u] ∧ p a x ∧ p b y ∧ p c z ∧ p d u := by
  match m, h with
  | [x, y, z, u], h => exact ⟨x, y, z, u, rfl, h.1, h.2.1, h.2.2.1, h.2.2.2.1⟩
theorem all2_6 {α β : Type} {p : α → β → Prop} {a b c d e f : α} {m : List β} (h : All2 p [a, b, c, d, e, f] m) : ∃ x y z u v w, m = [x, y, z, u, v, w] ∧ p a x ∧ p b y ∧ p c z ∧ p d u ∧ p e v ∧ p f w := by
  match m, h with
  | [x, y, z, u, v, w], h => exact ⟨x, y, z, u, v, w, rfl, h.1, h.2.1, h.2.2.1, h.2.2.2.1, h.2.2.2.2.1, h.2.2.2.2.2.1⟩

theorem nd_open {xs : List AV} (h : TyC Try.prog 2 64 xs) : ∃ n : Nd, xs = ndC n ∧ n.In := by
  unfold TyC at h
  simp only [Try.underlying64] at h
  obtain ⟨ps, rfl, h⟩ := h
  obtain ⟨x, y, z, u, rfl, h1, h2, h3, h4⟩ := all2_4 h
  obtain ⟨s, rfl, hs⟩ := str_open Try.underlying9 h1
  obtain ⟨b, rfl⟩ := bool_open Try.underlying4 h2
  obtain ⟨i, rfl, hi⟩ := int_open Try.underlying3 h3
  obtain ⟨j, rfl, hj⟩ := int_open Try.underlying3 h4
  exact ⟨⟨s, b, i, j⟩, rfl, ⟨hs, hi, hj⟩⟩

theorem cn_open {xs : List AV} (h : TyC Try.prog 2 58 xs) : ∃ c : Cn, xs = cnC c ∧ c.In := by
  unfold TyC at h
  simp only [Try.underlying58] at h
  obtain ⟨ps, rfl, h⟩ := h
  obtain ⟨x, y, z, u, v, w, rfl, h1, h2, h3, h4, h5, h6⟩ := all2_6 h
  obtain ⟨s, rfl, hs⟩ := str_open Try.underlying9 h1
  obtain ⟨i, rfl, hi⟩ := int_open Try.underlying3 h2
  obtain ⟨j, rfl, hj⟩ := int_open Try.underlying3 h3
  obtain ⟨k, rfl, hk⟩ := int_open Try.underlying3 h4
  obtain ⟨b, rfl⟩ := bool_open Try.underlying4 h5
  obtain ⟨c, rfl⟩ := bool_open Try.underlying4 h6
  exact ⟨⟨s, i, j, k, b, c⟩, rfl, ⟨hs, hi, hj, hk⟩⟩

theorem cells64 : Try.prog.cellsOf 64 = 4 := by kernel_rfl
theorem cells58 : Try.prog.cellsOf 58 = 6 := by kernel_rfl

theorem net_open {x : AV} (h : TyA Try.prog 4 25 x) : ∃ N : Net, AVE 5 x (netV N) ∧ N.In := by
  simp only [TyA, Try.underlying25] at h
  obtain ⟨xs, rfl, h⟩ := h
  unfold TyC at h
  simp only [Try.underlying25] at h
  obtain ⟨ps, rfl, h⟩ := h
  obtain ⟨x, y, rfl, h1, h2⟩ := all2_2 h
  unfold TyC at h1
  simp only [Try.underlying22] at h1
  obtain ⟨len, f, rfl, hl, hf⟩ := h1
  unfold TyC at h2
  simp only [Try.underlying23] at h2
  obtain ⟨len', f', rfl, hl', hf'⟩ := h2
  obtain ⟨ns, n1, n2, n3⟩ := list_open (g := ndC) (p := Nd.In) nd0 (fun i hi => nd_open (hf i hi))
  obtain ⟨cs, c1, c2, c3⟩ := list_open (g := cnC) (p := Cn.In) cn0 (fun i hi => cn_open (hf' i hi))
  refine ⟨⟨ns, cs⟩, ⟨rfl, fun i a b ha hb => ?_⟩, ⟨by rw [n1]; exact hl, by rw [c1]; exact hl', n2, c2⟩⟩
  match i, ha, hb with
  | 0, ha, hb => cases ha; cases hb; rw [cells64]; exact n3 3
  | 1, ha, hb => cases ha; cases hb; rw [cells58]; exact c3 3
end Go.Tr

/- The end of a law's proof: what every law shares; further openings of arguments. Conditions: none. -/
namespace Go.Tr
open Go Go.Proofs Go.RowKit Go.WideShapes Go.ChangeShapes
section
variable {H : Type} {enc : TypeId × Value → H} {P : Program}
theorem post_of_below {f : Func} {s : ChangeSpec} {apart fresh handsOn again : Bool} {W W' : World} {args : Array Value} {v : Value} {ds gs : List (DataW H)} {before pa pv : List MemPlace}
    (hW : DataW.Whole enc P f.params.toList s.vars apart W args.toList ds gs before)
    (hres : ∀ (b : Nat) (sp : Nat → Bool) (hd : Bool), DataW.TrodAll enc P W' b sp hd f.resultTypes.toList (v.resultList f.resultTypes.size) (s.fn H (ds ++ gs)).results [])
    (hargs : ∀ sp : Nat → Bool, (∀ p ∈ before, sp p.block = true) → DataW.TrodAll enc P W' 0 sp true f.params.toList args.toList (s.fn H (ds ++ gs)).args pa)
    (hvars : ∀ sp : Nat → Bool, (∀ p ∈ before, sp p.block = true) → DataW.TrodVars enc P W' sp s.vars (s.fn H (ds ++ gs)).vars pv)
    (hps : before = pa ++ pv) (hb : Below W.heap.size W W')
    (hok : ∀ (j : Nat) (t : TypeId) (r : Value), f.resultTypes[j]? = some t → (v.resultList f.resultTypes.size)[j]? = some r → Value.okWide P W' .any 0 t r) :
    s.post enc P f apart fresh handsOn again W args v W' := by
  have hlt : ∀ p ∈ before, p.block < W.heap.size := fun p hp => hW.lt p hp
  have hold : ∀ p ∈ before, (fun b => decide (b < W.heap.size)) p.block = true := fun p hp => by simpa using hlt p hp
  refine ⟨ds, gs, before, [], pa, pv, hW, hres _ _ _, hargs _ hold, hvars _ hold, World.keptBut_mono (fun p hp => ⟨hp, ?_⟩) (hb.frame (· ∈ before)), fun _ => ?_⟩
  · rw [hps, List.mem_append] at hp
    exact Or.inr hp
  · obtain ⟨_, _, _, _, _, hz, hn⟩ := hW
    refine ⟨hok, _, _, ([] ++ pa) ++ pv, ⟨[] ++ pa, pv, trodAll_append (hargs _ (fun _ _ => rfl)) (hres _ _ _), hvars _ (fun _ _ => rfl), rfl, ?_, ?_⟩, ?_⟩
    · intro b off hp
      have hin : MemPlace.cell b off ∈ before := by rw [hps]; simpa using hp
      rw [hb.frozen (hlt _ hin)]
      exact hz b off hin
    · intro ha
      have := hn ha
      rw [hps] at this
      simpa using this
    · intro p hp _
      rw [hps]
      simpa using hp
end

set_option maxRecDepth 20000
theorem cells3 : Try.prog.cellsOf 3 = 1 := by kernel_rfl
theorem ints_open {x : AV} (h : TyA Try.prog 4 39 x) : ∃ l : List Int, AVE 5 x (ints l) ∧ l.length ≤ 9223372036854775807 ∧ ∀ a ∈ l, inK .i64 a := by
  simp only [TyA, Try.underlying39] at h
  unfold TyC at h
  simp only [Try.underlying39] at h
  obtain ⟨len, f, e, hl, hf⟩ := h
  cases e
  obtain ⟨l, n1, n2, n3⟩ := list_open (g := fun n : Int => [i64 n]) (p := fun n => inK .i64 n) 0 (fun i hi => int_open Try.underlying3 (hf i hi))
  rw [cells3]
  exact ⟨l, n3 4, by rw [n1]; exact hl, n2⟩
theorem arr2_open {x : AV} (h : TyA Try.prog 4 40 x) : ∃ a b : Int, AVE 5 x (.agg [i64 a, i64 b]) ∧ inK .i64 a ∧ inK .i64 b := by
  simp only [TyA, Try.underlying40] at h
  obtain ⟨xs, rfl, h⟩ := h
  unfold TyC at h
  simp only [Try.underlying40] at h
  obtain ⟨ps, rfl, hn, h⟩ := h
  match ps, hn with
  | [p, q], _ =>
    obtain ⟨a, rfl, ha⟩ := int_open Try.underlying3 (h p (by simp))
    obtain ⟨b, rfl, hb⟩ := int_open Try.underlying3 (h q (by simp))
    exact ⟨a, b, ave2 a b, ha, hb⟩
theorem pair_open {t : TypeId} {fs : Array Field} (hu : Try.prog.underlying t = some (.struct fs)) (hf : fs.toList.map (·.type) = [3, 3]) {x : AV} (h : TyA Try.prog 4 t x) : ∃ a b : Int, AVE 5 x (.agg [i64 a, i64 b]) ∧ inK .i64 a ∧ inK .i64 b := by
  simp only [TyA, hu] at h
  obtain ⟨xs, rfl, h⟩ := h
  unfold TyC at h
  simp only [hu] at h
  obtain ⟨ps, rfl, h⟩ := h
  generalize fs.toList = L at hf h
  match L with
  | [] => simp at hf
  | [_] => simp at hf
  | _ :: _ :: _ :: _ => simp at hf
  | [f, g] =>
    simp only [List.map_cons, List.map_nil, List.cons.injEq, and_true] at hf
    obtain ⟨p, q, rfl, h1, h2⟩ := all2_2 h
    rw [hf.1] at h1
    rw [hf.2] at h2
    obtain ⟨a, rfl, ha⟩ := int_open Try.underlying3 h1
    obtain ⟨b, rfl, hb⟩ := int_open Try.underlying3 h2
    exact ⟨a, b, ave2 a b, ha, hb⟩
theorem range_open {x : AV} (h : TyA Try.prog 4 43 x) : ∃ a b : Int, AVE 5 x (.agg [i64 a, i64 b]) ∧ inK .i64 a ∧ inK .i64 b := pair_open Try.underlying43 rfl h
theorem way_open {x : AV} (h : TyA Try.prog 4 87 x) : ∃ a b : Int, AVE 5 x (.agg [i64 a, i64 b]) ∧ inK .i64 a ∧ inK .i64 b := pair_open Try.underlying87 rfl h
end Go.Tr

namespace Go.Proofs.Ytkomdfgffgkphaa
open Go.ChangeShapes Go.WideShapes Go.ChangeAt Go.RowKit Go.Tr
theorem Try.own : ownKnob Try.prog.godebug = none := by kernel_rfl
theorem Try.laidOut : laidOutB Try.prog = true := by kernel_rfl
end Go.Proofs.Ytkomdfgffgkphaa

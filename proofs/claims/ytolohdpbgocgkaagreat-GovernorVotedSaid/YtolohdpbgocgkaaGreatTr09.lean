/- Contracts: whole parts of quotients. Conditions: none. Printed by gen166.py. -/
import Derived.Test.YtolohdpbgocgkaaGreatTr08
import Derived.Test.YtolohdpbgocgkaaGreatTr07
set_option linter.unusedSectionVars false
set_option linter.unnecessarySimpa false
set_option linter.unusedVariables false
set_option linter.unusedSimpArgs false

namespace Go.Tr
open Go Go.Proofs
set_option maxRecDepth 20000
set_option maxHeartbeats 8000000

theorem SPn {F : Nat} {G : List Int} {r : AV} {n : Nat} (h : SP F [ints G] r false) (hn : n = G.length) (f : Nat → List AV) (hf : ∀ i, i < n → f i = [i64 (G.getD i 0)]) : SP F [.rslice 1 n f] r false := by
  refine h.argsD rfl fun i y x hy hx => ?_
  match i, hy, hx with
  | 0, hy, hx => cases hy; cases hx; exact .inr ⟨1, AVF_rows hn hf 0⟩
theorem ints_n6 {P : List Int} {n : Nat} (h : P.length = n) : ints P = .rslice 1 n fun i => [i64 (P.getD i 0)] := by
  subst h; rfl
theorem wA_nat (Y : Nat) (hY : 0 < Y) : wA (Y : Nat) = .agg [i64 1, ints (digs Y)] := wA_eq (by unfold sgI; rw [if_neg (by omega), if_neg (by omega)]) (by omega)
theorem Wd_nat {n : Nat} (h : (digs n).length ≤ 100) : Wd (n : Nat) := by
  unfold Wd; rwa [Int.natAbs_natCast]
theorem Wd_small {z : Int} (h : z.natAbs < 1000000000 ^ 3) : Wd z := Nat.le_trans (digs_len 3 _ h) (by decide)
theorem S162u (Y : Nat) (hY : 0 < Y) (hly : (digs Y).length ≤ 100) : SP 162 [i64 1, ints (digs Y)] (wA (Y : Nat)) false := by
  have h := S162 1 (digs Y) (by omega) (digs_dg _) Y (valN_digs _)
  rw [if_neg (by omega)] at h
  rwa [wA_nat Y hY]
theorem S146n (Y : Nat) (m : Int) (hY : (digs Y).length ≤ 100) (hm0 : 0 ≤ m) (hm : m ≤ 999999999) : SP 146 [wA (Y : Nat), wA m] (.agg [i64 (sgI (Y * m)), ints (digs (Y * m.toNat))]) false := by
  have h := S146 Y m (Wd_nat hY) (Wd_small (by have : (1000000000 : Nat) ^ 3 = 1000000000000000000000000000 := by decide
                                               omega))
  have e : ((Y : Int) * m).natAbs = Y * m.toNat := by rw [Int.natAbs_mul, Int.natAbs_natCast, show m.natAbs = m.toNat by omega]
  rwa [show wA ((Y : Int) * m) = .agg [i64 (sgI (Y * m)), ints (digs (Y * m.toNat))] from wA_eq rfl e] at h
theorem digs_mul9 (Y m : Nat) (hY : (digs Y).length ≤ 100) (hm : m ≤ 999999999) : (digs (Y * m)).length ≤ 101 := by
  refine digs_len _ _ ?_
  have h1 := digs_lt Y
  have h2 : (1000000000 : Nat) ^ (digs Y).length ≤ 1000000000 ^ 100 := Nat.pow_le_pow_right (by decide) hY
  rw [Nat.pow_succ]
  exact Nat.mul_lt_mul_of_lt_of_le (Nat.lt_of_lt_of_le h1 h2) (by omega) (by decide)
theorem drop_setI (Q : List Int) (i : Nat) (q : Int) (hi : i < Q.length) : (Q.set i q).drop i = q :: Q.drop (i + 1) := by
  rw [drop_cons (by rw [List.length_set]; exact hi), getD_setI, if_pos ⟨rfl, hi⟩, List.drop_set_of_lt (by omega)]
theorem floor_step {vA vQ a q R R' Y : Int} (hV : vA = vQ * Y + R) (hR : R' = a + 1000000000 * R) (r : Int) (hr : R' = Y * q + r) : a + 1000000000 * vA = (q + 1000000000 * vQ) * Y + r := by
  subst hV
  have : a = Y * q + r - 1000000000 * R := by omega
  subst this
  grind
theorem S166c (s t : Int) (A : List Int) (Y : Nat) (hA : Dg A) (hla : A.length ≤ 100) (hY : 0 < Y) (hly : (digs Y).length ≤ 100) (hs : s = 1 ∨ s = -1)
    (z : Int) (hz : if s = 1 then z = ((valN A).toNat / Y : Nat) else z = -(((valN A).toNat / Y : Nat) : Int) - (if (valN A).toNat % Y = 0 then 0 else 1)) :
    SP 166 [.agg [i64 s, ints A], .agg [i64 t, ints (digs Y)]] (wA z) false := by
  have hb8 : Tryz.prog.types[3].bytes = 8 := by kernel_rfl
  have hs0 : s ≠ 0 := by omega
  have h162 := S162u Y hY hly
  refine sound (d := 2) tok2 mixed2 Tryz.func166 (by kernel_rfl) (by kernel_rfl) ?_
  conv => whnf
  refine ifB_beq (fun w1 => ?_) (fun w1 => ?_)
  · (exfalso; omega)
  · conv => whnf
    refine ⟨⟨(by omega), ⟨(by omega), ⟨(by omega), (by show _ * ((8 : Nat) : Int) ≤ _; omega)⟩⟩⟩, ?_⟩
    conv => whnf
    refine ⟨inK64 (by omega) (by omega), ?_⟩
    conv => whnf
    refine ⟨[.freeze 6], [2, 3, 4, 5, 6, 7], fun st mq => ∃ (k : Nat) (R : Nat) (Q : List Int) (c : Int), (k ≤ A.length) ∧ (c = (k : Int) - 1) ∧ (Q.length = A.length) ∧ (Dg Q) ∧ (R < Y) ∧ (valN (A.drop k) = valN (Q.drop k) * Y + R) ∧ st = ⟨[(2, .optr 0 0 0 0), (3, .optr 1 0 0 0), (4, .optr 2 0 0 0), (5, .oslice 3 0 0 (A.length : Int).toNat (some (A.length : Int).toNat)), (6, ints (digs R)), (7, i64 c)], ⟨[⟨2, 1, fun _ => [i64 s, ints A], 0, false, true, true⟩, ⟨2, 1, fun _ => [i64 t, ints (digs Y)], 0, false, true, true⟩, ⟨2, 1, fun _ => [i64 0, .eslice], 0, false, true, true⟩, ⟨1, (A.length : Int).toNat, fun j => [i64 (Q.getD j 0)], 0, false, true, false⟩, ⟨1, 0, fun _ => [], 0, true, true, false⟩], [], none, 0⟩, []⟩ ∧ mq = k,
      ⟨_, _, ⟨A.length, 0, List.replicate (A.length : Int).toNat 0, _, Nat.le_refl _, rfl, by simp, (fun d hd => by rw [List.eq_of_mem_replicate hd]; decide), by omega, (by rw [List.drop_length, List.drop_eq_nil_of_le (by simp)]; show (0 : Int) = 0 * (Y : Int) + (0 : Nat); omega), rfl, rfl⟩, ⟨⟨.inr ⟨rfl, .inl rfl, ⟨rfl, .inl rfl, ⟨rfl, .inl rfl, ⟨rfl, .inl rfl, ⟨rfl, .inr (⟨rfl, (by rw [digs0]; rfl), fun k hk => absurd hk (Nat.not_lt_zero k)⟩), ⟨rfl, .inl rfl, trivial⟩⟩⟩⟩⟩⟩, rfl, rfl, rfl⟩, ⟨⟨rfl, rfl, rfl, rfl, fun _ => rfl, fun _ _ => .inl rfl⟩, ⟨⟨rfl, rfl, rfl, rfl, fun _ => rfl, fun _ _ => .inl rfl⟩, ⟨⟨rfl, rfl, rfl, rfl, fun _ => rfl, fun _ _ => .inl rfl⟩, ⟨⟨rfl, rfl, rfl, rfl, fun _ => rfl, fun i hi => .inl ((rep_row0 (A.length : Int).toNat i).trans rfl)⟩, ⟨⟨rfl, rfl, rfl, rfl, fun _ => rfl, fun i h => .inl (absurd h (Nat.not_lt_zero i))⟩, trivial⟩⟩⟩⟩⟩, trivial⟩⟩, ?_⟩
    rintro s0 m0 ⟨k, R, Q, c, hk, hc, hl, hd, hR, hV, rfl, hmeas⟩
    by_cases hk0 : k = 0
    · subst hk0
      subst hc
      have hqn := valN_nn hd
      have hV : valN A = valN Q * Y + R := hV
      have hQY : 0 ≤ valN Q * Y := Int.mul_nonneg hqn (by omega)
      have hX : (valN A).toNat = (valN Q).toNat * Y + R := by
        have e : (((valN Q).toNat * Y : Nat) : Int) = valN Q * Y := by rw [Int.natCast_mul, Int.toNat_of_nonneg hqn]
        omega
      have hdiv : (valN A).toNat / Y = (valN Q).toNat := by rw [hX, Nat.mul_comm, Nat.mul_add_div hY, Nat.div_eq_of_lt hR]; rfl
      have hmod : (valN A).toNat % Y = R := by rw [hX, Nat.mul_comm, Nat.mul_add_mod, Nat.mod_eq_of_lt hR]
      rw [hdiv, hmod] at hz
      have hnl : (digs (valN Q).toNat).length ≤ 100 := by
        rw [← trim_digs hd]
        obtain ⟨n, g1, g2, g3⟩ := trim_exists Q
        rw [trim_take Q n g1 g2 g3, List.length_take]
        omega
      have hlt : Q.length = (A.length : Int).toNat := hl
      have h162e := fun s => S162 s Q (by omega) hd (valN Q).toNat (by omega)
      rw [ints_n6 hlt] at h162e
      rcases hs with hs | hs
      · subst hs
        rw [if_pos rfl] at hz
        have h162f := h162e 1
        rw [show AV.agg [i64 (if (valN Q).toNat = 0 then 0 else 1), ints (digs (valN Q).toNat)] = wA z from (wA_eq (by unfold sgI; (repeat' split) <;> omega) (by omega)).symm] at h162f
        conv => whnf
        conv => whnf
        refine .inl ⟨_, _, byX rfl (h162f), ?_⟩
        conv => whnf
        conv => whnf
        refine ⟨?_, nofun⟩
        exact ave_agg2 rfl ⟨rfl, rfl, fun _ _ => rfl⟩
      · subst hs
        rw [if_neg (by decide)] at hz
        have h162f := h162e (-1)
        rw [show AV.agg [i64 (if (valN Q).toNat = 0 then 0 else -1), ints (digs (valN Q).toNat)] = wA (-((valN Q).toNat : Int)) from (wA_eq (by unfold sgI; (repeat' split) <;> omega) (by omega)).symm] at h162f
        have h142o := S142 1 (by decide)
        have h170 := S170 (-((valN Q).toNat : Int)) 1 (Wd.neg (Wd_nat hnl)) (Wd_small (by decide))
        by_cases hR0 : R = 0
        · have hdz : (digs R).length = 0 := by rw [hR0, digs0]; rfl
          rw [if_pos hR0, Int.sub_zero] at hz
          subst hz
          conv => whnf
          conv => whnf
          refine .inl ⟨_, _, byX rfl (h162f), ?_⟩
          conv => whnf
          conv => whnf
          refine ifB_dec (fun w2 => ?_) (fun w2 => ?_)
          · (exfalso; omega)
          · conv => whnf
            conv => whnf
            refine ⟨?_, nofun⟩
            exact ave_agg2 rfl ⟨rfl, rfl, fun _ _ => rfl⟩
        · have hdz : (digs R).length ≠ 0 := fun h => hR0 (digs_nil (List.length_eq_zero_iff.1 h))
          rw [if_neg hR0] at hz
          subst hz
          conv => whnf
          conv => whnf
          refine .inl ⟨_, _, byX rfl (h162f), ?_⟩
          conv => whnf
          conv => whnf
          refine ifB_dec (fun w2 => ?_) (fun w2 => ?_)
          · conv => whnf
            conv => whnf
            refine ⟨[], by kernel_rfl, ?_⟩
            conv => whnf
            conv => whnf
            refine .inl ⟨_, _, byX rfl (h142o), ?_⟩
            conv => whnf
            conv => whnf
            refine .inl ⟨_, _, byX rfl (h170), ?_⟩
            conv => whnf
            conv => whnf
            refine ⟨?_, nofun⟩
            exact ave_agg2 rfl ⟨rfl, rfl, fun _ _ => rfl⟩
          · (exfalso; omega)
    · obtain ⟨i, rfl⟩ : ∃ i, k = i + 1 := ⟨k - 1, by omega⟩
      subst hc
      have ha := dg_at hA (((i + 1 : Nat) : Int) - 1).toNat
      have ei : (((i + 1 : Nat) : Int) - 1).toNat = i := by omega
      obtain ⟨R', hR'⟩ : ∃ R' : Nat, (R' : Int) = A.getD (((i + 1 : Nat) : Int) - 1).toNat 0 + 1000000000 * R := ⟨(A.getD (((i + 1 : Nat) : Int) - 1).toNat 0 + 1000000000 * R).toNat, by omega⟩
      have hdl : (digs R).length ≤ 100 := Nat.le_trans (digs_mono Y R (by omega)) hly
      have hcd : Dg (A.getD (((i + 1 : Nat) : Int) - 1).toNat 0 :: digs R) := fun d hd => by
        rcases List.mem_cons.1 hd with e | hd
        · rw [e]; exact ha
        · exact digs_dg R d hd
      have h186 := S186 (A.getD (((i + 1 : Nat) : Int) - 1).toNat 0 :: digs R) (by simp; omega)
      rw [trim_digs hcd, show valN (A.getD (((i + 1 : Nat) : Int) - 1).toNat 0 :: digs R) = R' by rw [hR']; show _ + 1000000000 * valN (digs R) = _; rw [valN_digs], Int.toNat_natCast] at h186
      obtain ⟨q, r, hq9, hqm, hml, hqle⟩ : ∃ q r : Nat, q < 1000000000 ∧ Y * q + r = R' ∧ r < Y ∧ ∀ x, x ≤ q ↔ x * Y ≤ R' := ⟨R' / Y, R' % Y, Nat.div_lt_of_lt_mul (by omega), Nat.div_add_mod R' Y, Nat.mod_lt R' hY, fun x => Nat.le_div_iff_mul_le hY⟩
      have hrl : (digs R').length ≤ 101 := by
        by_cases h0 : R' = 0
        · rw [h0, digs0]; exact Nat.zero_le _
        · have h1 := congrArg List.length (digs_pos h0)
          rw [List.length_cons, show R' / 1000000000 = R by omega] at h1
          omega
      by_cases hR0 : R = 0
      · subst hR0
        have hdz : (digs 0).length = 0 := by rw [digs0]; rfl
        have h186g := fun f (hf : ∀ j, j < 1 → f j = [i64 ((A.getD (((i + 1 : Nat) : Int) - 1).toNat 0 :: digs 0).getD j 0)]) => SPn h186 (by rw [digs0]; rfl) f hf
        refine ifB_dec (fun w2 => ?_) (fun w2 => ?_)
        · refine ⟨⟨(by omega), (by omega)⟩, ?_⟩
          refine .inr ?_
          refine ⟨(by omega), ?_⟩
          refine .inl ⟨_, _, byX rfl (h186g _ ?_), ?_⟩
          · (first | exact hdz | exact fun j hj => by rcases j with _ | j; rfl; omega)
          · refine ⟨[], [2, 3, 4, 5, 6, 7, 8, 9], fun st mq => ∃ (lo : Int) (hi : Int), (0 ≤ lo) ∧ (lo ≤ (q : Int)) ∧ ((q : Int) ≤ hi) ∧ (hi ≤ 999999999) ∧ st = ⟨[(2, .optr 0 0 0 0), (3, .optr 1 0 0 0), (4, .optr 2 0 0 0), (5, .oslice 3 0 0 (A.length : Int).toNat (some (A.length : Int).toNat)), (6, ints (digs R')), (7, i64 (((i + 1 : Nat) : Int) - 1)), (8, i64 lo), (9, i64 hi)], ⟨[⟨2, 1, fun _ => [i64 s, ints A], 0, false, true, true⟩, ⟨2, 1, fun _ => [i64 t, ints (digs Y)], 0, false, true, true⟩, ⟨2, 1, fun _ => [i64 0, .eslice], 0, false, true, true⟩, ⟨1, (A.length : Int).toNat, fun j => [i64 (Q.getD j 0)], 0, false, true, false⟩, ⟨1, 0, fun _ => [], 0, true, true, false⟩, ⟨1, 1, fun _ => [i64 (A.getD (((i + 1 : Nat) : Int) - 1).toNat 0)], 0, true, true, true⟩], [], none, 0⟩, []⟩ ∧ mq = (hi - lo).toNat,
              ⟨_, _, ⟨0, 999999999, by omega, by omega, by omega, by omega, rfl, rfl⟩, ⟨⟨.inl rfl, rfl, rfl, rfl⟩, ⟨⟨rfl, rfl, rfl, rfl, fun _ => rfl, fun _ _ => .inl rfl⟩, ⟨⟨rfl, rfl, rfl, rfl, fun _ => rfl, fun _ _ => .inl rfl⟩, ⟨⟨rfl, rfl, rfl, rfl, fun _ => rfl, fun _ _ => .inl rfl⟩, ⟨⟨rfl, rfl, rfl, rfl, fun _ => rfl, fun _ _ => .inl rfl⟩, ⟨⟨rfl, rfl, rfl, rfl, fun _ => rfl, fun _ _ => .inl rfl⟩, ⟨⟨rfl, rfl, rfl, rfl, fun _ => rfl, fun j hj => .inl ((by have h1 : j < 1 := hj; rw [show j = 0 by omega]; rfl))⟩, trivial⟩⟩⟩⟩⟩⟩, trivial⟩⟩, ?_⟩
            rintro s0 m0 ⟨lo, hi, h0, h1, h2, h3, rfl, hmeas⟩
            by_cases hlt : lo < hi
            · have em : 0 ≤ (lo + hi + 1).tdiv 2 ∧ (lo + hi + 1).tdiv 2 ≤ 999999999 ∧ lo < (lo + hi + 1).tdiv 2 ∧ (lo + hi + 1).tdiv 2 ≤ hi := by
                rw [Int.tdiv_eq_ediv_of_nonneg (by omega)]; omega
              have h142 := S142 ((lo + hi + 1).tdiv 2) (by omega)
              have h146 := S146n Y ((lo + hi + 1).tdiv 2) hly em.1 em.2.1
              have hdm := digs_mul9 Y ((lo + hi + 1).tdiv 2).toNat hly (by omega)
              have h168 := S168 (Y * ((lo + hi + 1).tdiv 2).toNat) R' (by omega) (by omega)
              have hle : (lo + hi + 1).tdiv 2 ≤ (q : Int) ↔ Y * ((lo + hi + 1).tdiv 2).toNat ≤ R' := by
                have := hqle ((lo + hi + 1).tdiv 2).toNat
                rw [Nat.mul_comm]
                omega
              by_cases hq : (lo + hi + 1).tdiv 2 ≤ (q : Int)
              · have hc : cmpN (Y * ((lo + hi + 1).tdiv 2).toNat) R' ≤ 0 := by have := hle.1 hq; unfold cmpN; (repeat' split) <;> omega
                conv => whnf
                refine ifB_dec (fun w3 => ?_) (fun w3 => ?_)
                · conv => whnf
                  refine ⟨inK64 (by omega) (by omega), ?_⟩
                  conv => whnf
                  refine ⟨inK64 (by omega) (by omega), ?_⟩
                  conv => whnf
                  refine ⟨⟨(by omega), inK64 (by omega) (by omega)⟩, ?_⟩
                  conv => whnf
                  refine .inl ⟨_, _, byX rfl (h162), ?_⟩
                  conv => whnf
                  refine .inl ⟨_, _, byX rfl (h142), ?_⟩
                  conv => whnf
                  refine .inl ⟨_, _, byX rfl (h146), ?_⟩
                  conv => whnf
                  refine .inl ⟨_, _, byX rfl (Sound1.pl (h168) rfl), ?_⟩
                  conv => whnf
                  refine ifB_dec (fun w4 => ?_) (fun w4 => ?_)
                  · conv => whnf
                    refine ⟨_, _, ⟨⟨(lo + hi + 1).tdiv 2, hi, by omega, by omega, by omega, by omega, rfl, rfl⟩, by omega⟩, ⟨⟨.inl rfl, rfl, rfl, rfl⟩, ⟨⟨rfl, rfl, rfl, rfl, fun _ => rfl, fun _ _ => .inl rfl⟩, ⟨⟨rfl, rfl, rfl, rfl, fun _ => rfl, fun _ _ => .inl rfl⟩, ⟨⟨rfl, rfl, rfl, rfl, fun _ => rfl, fun _ _ => .inl rfl⟩, ⟨⟨rfl, rfl, rfl, rfl, fun _ => rfl, fun _ _ => .inl rfl⟩, ⟨⟨rfl, rfl, rfl, rfl, fun _ => rfl, fun _ _ => .inl rfl⟩, ⟨⟨rfl, rfl, rfl, rfl, fun _ => rfl, fun _ _ => .inl rfl⟩, trivial⟩⟩⟩⟩⟩⟩, trivial⟩⟩
                  · (exfalso; omega)
                · (exfalso; omega)
              · have hc : ¬ cmpN (Y * ((lo + hi + 1).tdiv 2).toNat) R' ≤ 0 := by have : ¬ _ := fun h => hq (hle.2 h); unfold cmpN; (repeat' split) <;> omega
                conv => whnf
                refine ifB_dec (fun w3 => ?_) (fun w3 => ?_)
                · conv => whnf
                  refine ⟨inK64 (by omega) (by omega), ?_⟩
                  conv => whnf
                  refine ⟨inK64 (by omega) (by omega), ?_⟩
                  conv => whnf
                  refine ⟨⟨(by omega), inK64 (by omega) (by omega)⟩, ?_⟩
                  conv => whnf
                  refine .inl ⟨_, _, byX rfl (h162), ?_⟩
                  conv => whnf
                  refine .inl ⟨_, _, byX rfl (h142), ?_⟩
                  conv => whnf
                  refine .inl ⟨_, _, byX rfl (h146), ?_⟩
                  conv => whnf
                  refine .inl ⟨_, _, byX rfl (Sound1.pl (h168) rfl), ?_⟩
                  conv => whnf
                  refine ifB_dec (fun w4 => ?_) (fun w4 => ?_)
                  · (exfalso; omega)
                  · conv => whnf
                    refine ⟨inK64 (by omega) (by omega), ?_⟩
                    conv => whnf
                    refine ⟨_, _, ⟨⟨lo, (lo + hi + 1).tdiv 2 - 1, by omega, by omega, by omega, by omega, rfl, rfl⟩, by omega⟩, ⟨⟨.inl rfl, rfl, rfl, rfl⟩, ⟨⟨rfl, rfl, rfl, rfl, fun _ => rfl, fun _ _ => .inl rfl⟩, ⟨⟨rfl, rfl, rfl, rfl, fun _ => rfl, fun _ _ => .inl rfl⟩, ⟨⟨rfl, rfl, rfl, rfl, fun _ => rfl, fun _ _ => .inl rfl⟩, ⟨⟨rfl, rfl, rfl, rfl, fun _ => rfl, fun _ _ => .inl rfl⟩, ⟨⟨rfl, rfl, rfl, rfl, fun _ => rfl, fun _ _ => .inl rfl⟩, ⟨⟨rfl, rfl, rfl, rfl, fun _ => rfl, fun _ _ => .inl rfl⟩, trivial⟩⟩⟩⟩⟩⟩, trivial⟩⟩
                · (exfalso; omega)
            · obtain rfl : lo = (q : Int) := by omega
              have h142 := S142 (q : Int) (by omega)
              have h146 := S146n Y (q : Int) hly (by omega) (by omega)
              rw [Int.toNat_natCast] at h146
              have h169 := S169 R' (Y * q) (by omega) (by omega)
              rw [show R' - Y * q = r by omega] at h169
              have hdr : Q.drop (i + 1) = Q.drop (i + 1) := rfl
              have hset := drop_setI Q i (q : Int) (by omega)
              have hVn : valN (A.drop i) = valN ((Q.set i (q : Int)).drop i) * Y + (r : Nat) := by
                rw [hset, drop_cons (show i < A.length by omega)]
                have hR2 := hR'
                rw [ei] at hR2
                exact floor_step hV hR2 _ (by rw [← Int.natCast_mul]; omega)
              conv => whnf
              refine ifB_dec (fun w3 => ?_) (fun w3 => ?_)
              · (exfalso; omega)
              · conv => whnf
                refine ⟨⟨(by omega), (by omega)⟩, ?_⟩
                refine ⟨_, fun i _ => rowI _ _ i _ (by first | omega | (simp only [List.length_set]; omega) | (simp only [List.length_replicate]; omega) | (simp only [List.length_set, List.length_replicate]; omega)), ?_⟩
                conv => whnf
                refine .inl ⟨_, _, byX rfl (h162), ?_⟩
                conv => whnf
                refine .inl ⟨_, _, byX rfl (h142), ?_⟩
                conv => whnf
                refine .inl ⟨_, _, byX rfl (h146), ?_⟩
                conv => whnf
                refine .inl ⟨_, _, byX rfl (h169), ?_⟩
                conv => whnf
                refine ⟨inK64 (by omega) (by omega), ?_⟩
                conv => whnf
                refine ⟨_, _, ⟨⟨i, r, Q.set (((i + 1 : Nat) : Int) - 1).toNat (q : Int), ((i + 1 : Nat) : Int) - 1 - 1, by omega, by omega, (by rw [List.length_set]; exact hl), (dg_set hd (by omega) _), hml, (by rw [ei]; exact hVn), rfl, rfl⟩, by omega⟩, ⟨⟨.inl rfl, rfl, rfl, rfl⟩, ⟨⟨rfl, rfl, rfl, rfl, fun _ => rfl, fun _ _ => .inl rfl⟩, ⟨⟨rfl, rfl, rfl, rfl, fun _ => rfl, fun _ _ => .inl rfl⟩, ⟨⟨rfl, rfl, rfl, rfl, fun _ => rfl, fun _ _ => .inl rfl⟩, ⟨⟨rfl, rfl, rfl, rfl, fun _ => rfl, fun _ _ => .inl rfl⟩, ⟨⟨rfl, rfl, rfl, rfl, fun _ => rfl, fun _ _ => .inl rfl⟩, trivial⟩⟩⟩⟩⟩, trivial⟩⟩
        · (exfalso; omega)
      · have hdz : (digs R).length ≠ 0 := fun h => hR0 (digs_nil (List.length_eq_zero_iff.1 h))
        have h186g := fun f (hf : ∀ j, j < 1 + (digs R).length → f j = [i64 ((A.getD (((i + 1 : Nat) : Int) - 1).toNat 0 :: digs R).getD j 0)]) => SPn h186 (by simp; omega) f hf
        conv => whnf
        conv => whnf
        refine ifB_dec (fun w2 => ?_) (fun w2 => ?_)
        · conv => whnf
          conv => whnf
          refine ⟨⟨(by omega), (by omega)⟩, ?_⟩
          conv => whnf
          conv => whnf
          refine .inl ?_
          conv => whnf
          conv => whnf
          refine ⟨⟨(by omega), (by show _ * (8 + 1) ≤ _; omega)⟩, ?_⟩
          conv => whnf
          conv => whnf
          refine .inl ⟨_, _, byX rfl (h186g _ ?_), ?_⟩
          · (exact fun j hj => by rcases j with _ | j <;> rfl)
          · conv => whnf
            conv => whnf
            refine ⟨[], [2, 3, 4, 5, 6, 7, 8, 9], fun st mq => ∃ (lo : Int) (hi : Int), (0 ≤ lo) ∧ (lo ≤ (q : Int)) ∧ ((q : Int) ≤ hi) ∧ (hi ≤ 999999999) ∧ st = ⟨[(2, .optr 0 0 0 0), (3, .optr 1 0 0 0), (4, .optr 2 0 0 0), (5, .oslice 3 0 0 (A.length : Int).toNat (some (A.length : Int).toNat)), (6, ints (digs R')), (7, i64 (((i + 1 : Nat) : Int) - 1)), (8, i64 lo), (9, i64 hi)], ⟨[⟨2, 1, fun _ => [i64 s, ints A], 0, false, true, true⟩, ⟨2, 1, fun _ => [i64 t, ints (digs Y)], 0, false, true, true⟩, ⟨2, 1, fun _ => [i64 0, .eslice], 0, false, true, true⟩, ⟨1, (A.length : Int).toNat, fun j => [i64 (Q.getD j 0)], 0, false, true, false⟩, ⟨1, 0, fun _ => [], 0, true, true, false⟩, ⟨1, 1, fun _ => [i64 (A.getD (((i + 1 : Nat) : Int) - 1).toNat 0)], 0, false, true, true⟩, ⟨1, 1 + (digs R).length, fun j => [i64 ((A.getD (((i + 1 : Nat) : Int) - 1).toNat 0 :: digs R).getD j 0)], 0, true, true, false⟩], [], none, 0⟩, []⟩ ∧ mq = (hi - lo).toNat,
              ⟨_, _, ⟨0, 999999999, by omega, by omega, by omega, by omega, rfl, rfl⟩, ⟨⟨.inl rfl, rfl, rfl, rfl⟩, ⟨⟨rfl, rfl, rfl, rfl, fun _ => rfl, fun _ _ => .inl rfl⟩, ⟨⟨rfl, rfl, rfl, rfl, fun _ => rfl, fun _ _ => .inl rfl⟩, ⟨⟨rfl, rfl, rfl, rfl, fun _ => rfl, fun _ _ => .inl rfl⟩, ⟨⟨rfl, rfl, rfl, rfl, fun _ => rfl, fun _ _ => .inl rfl⟩, ⟨⟨rfl, rfl, rfl, rfl, fun _ => rfl, fun _ _ => .inl rfl⟩, ⟨⟨rfl, rfl, rfl, rfl, fun _ => rfl, fun j hj => .inl ((by have h1 : j < 1 := hj; rw [show j = 0 by omega]; rfl))⟩, ⟨⟨rfl, rfl, rfl, rfl, fun _ => rfl, fun j hj => .inl ((by rcases j with _ | j <;> rfl))⟩, trivial⟩⟩⟩⟩⟩⟩⟩, trivial⟩⟩, ?_⟩
            rintro s0 m0 ⟨lo, hi, h0, h1, h2, h3, rfl, hmeas⟩
            by_cases hlt : lo < hi
            · have em : 0 ≤ (lo + hi + 1).tdiv 2 ∧ (lo + hi + 1).tdiv 2 ≤ 999999999 ∧ lo < (lo + hi + 1).tdiv 2 ∧ (lo + hi + 1).tdiv 2 ≤ hi := by
                rw [Int.tdiv_eq_ediv_of_nonneg (by omega)]; omega
              have h142 := S142 ((lo + hi + 1).tdiv 2) (by omega)
              have h146 := S146n Y ((lo + hi + 1).tdiv 2) hly em.1 em.2.1
              have hdm := digs_mul9 Y ((lo + hi + 1).tdiv 2).toNat hly (by omega)
              have h168 := S168 (Y * ((lo + hi + 1).tdiv 2).toNat) R' (by omega) (by omega)
              have hle : (lo + hi + 1).tdiv 2 ≤ (q : Int) ↔ Y * ((lo + hi + 1).tdiv 2).toNat ≤ R' := by
                have := hqle ((lo + hi + 1).tdiv 2).toNat
                rw [Nat.mul_comm]
                omega
              by_cases hq : (lo + hi + 1).tdiv 2 ≤ (q : Int)
              · have hc : cmpN (Y * ((lo + hi + 1).tdiv 2).toNat) R' ≤ 0 := by have := hle.1 hq; unfold cmpN; (repeat' split) <;> omega
                conv => whnf
                conv => whnf
                conv => whnf
                refine ifB_dec (fun w3 => ?_) (fun w3 => ?_)
                · conv => whnf
                  conv => whnf
                  conv => whnf
                  refine ⟨inK64 (by omega) (by omega), ?_⟩
                  conv => whnf
                  conv => whnf
                  conv => whnf
                  refine ⟨inK64 (by omega) (by omega), ?_⟩
                  conv => whnf
                  conv => whnf
                  conv => whnf
                  refine ⟨⟨(by omega), inK64 (by omega) (by omega)⟩, ?_⟩
                  conv => whnf
                  conv => whnf
                  conv => whnf
                  refine .inl ⟨_, _, byX rfl (h162), ?_⟩
                  conv => whnf
                  conv => whnf
                  conv => whnf
                  refine .inl ⟨_, _, byX rfl (h142), ?_⟩
                  conv => whnf
                  conv => whnf
                  conv => whnf
                  refine .inl ⟨_, _, byX rfl (h146), ?_⟩
                  conv => whnf
                  conv => whnf
                  conv => whnf
                  refine .inl ⟨_, _, byX rfl (Sound1.pl (h168) rfl), ?_⟩
                  conv => whnf
                  conv => whnf
                  conv => whnf
                  refine ifB_dec (fun w4 => ?_) (fun w4 => ?_)
                  · conv => whnf
                    conv => whnf
                    conv => whnf
                    refine ⟨_, _, ⟨⟨(lo + hi + 1).tdiv 2, hi, by omega, by omega, by omega, by omega, rfl, rfl⟩, by omega⟩, ⟨⟨.inl rfl, rfl, rfl, rfl⟩, ⟨⟨rfl, rfl, rfl, rfl, fun _ => rfl, fun _ _ => .inl rfl⟩, ⟨⟨rfl, rfl, rfl, rfl, fun _ => rfl, fun _ _ => .inl rfl⟩, ⟨⟨rfl, rfl, rfl, rfl, fun _ => rfl, fun _ _ => .inl rfl⟩, ⟨⟨rfl, rfl, rfl, rfl, fun _ => rfl, fun _ _ => .inl rfl⟩, ⟨⟨rfl, rfl, rfl, rfl, fun _ => rfl, fun _ _ => .inl rfl⟩, ⟨⟨rfl, rfl, rfl, rfl, fun _ => rfl, fun _ _ => .inl rfl⟩, ⟨⟨rfl, rfl, rfl, rfl, fun _ => rfl, fun _ _ => .inl rfl⟩, trivial⟩⟩⟩⟩⟩⟩⟩, trivial⟩⟩
                  · (exfalso; omega)
                · (exfalso; omega)
              · have hc : ¬ cmpN (Y * ((lo + hi + 1).tdiv 2).toNat) R' ≤ 0 := by have : ¬ _ := fun h => hq (hle.2 h); unfold cmpN; (repeat' split) <;> omega
                conv => whnf
                conv => whnf
                conv => whnf
                refine ifB_dec (fun w3 => ?_) (fun w3 => ?_)
                · conv => whnf
                  conv => whnf
                  conv => whnf
                  refine ⟨inK64 (by omega) (by omega), ?_⟩
                  conv => whnf
                  conv => whnf
                  conv => whnf
                  refine ⟨inK64 (by omega) (by omega), ?_⟩
                  conv => whnf
                  conv => whnf
                  conv => whnf
                  refine ⟨⟨(by omega), inK64 (by omega) (by omega)⟩, ?_⟩
                  conv => whnf
                  conv => whnf
                  conv => whnf
                  refine .inl ⟨_, _, byX rfl (h162), ?_⟩
                  conv => whnf
                  conv => whnf
                  conv => whnf
                  refine .inl ⟨_, _, byX rfl (h142), ?_⟩
                  conv => whnf
                  conv => whnf
                  conv => whnf
                  refine .inl ⟨_, _, byX rfl (h146), ?_⟩
                  conv => whnf
                  conv => whnf
                  conv => whnf
                  refine .inl ⟨_, _, byX rfl (Sound1.pl (h168) rfl), ?_⟩
                  conv => whnf
                  conv => whnf
                  conv => whnf
                  refine ifB_dec (fun w4 => ?_) (fun w4 => ?_)
                  · (exfalso; omega)
                  · conv => whnf
                    conv => whnf
                    conv => whnf
                    refine ⟨inK64 (by omega) (by omega), ?_⟩
                    conv => whnf
                    conv => whnf
                    conv => whnf
                    refine ⟨_, _, ⟨⟨lo, (lo + hi + 1).tdiv 2 - 1, by omega, by omega, by omega, by omega, rfl, rfl⟩, by omega⟩, ⟨⟨.inl rfl, rfl, rfl, rfl⟩, ⟨⟨rfl, rfl, rfl, rfl, fun _ => rfl, fun _ _ => .inl rfl⟩, ⟨⟨rfl, rfl, rfl, rfl, fun _ => rfl, fun _ _ => .inl rfl⟩, ⟨⟨rfl, rfl, rfl, rfl, fun _ => rfl, fun _ _ => .inl rfl⟩, ⟨⟨rfl, rfl, rfl, rfl, fun _ => rfl, fun _ _ => .inl rfl⟩, ⟨⟨rfl, rfl, rfl, rfl, fun _ => rfl, fun _ _ => .inl rfl⟩, ⟨⟨rfl, rfl, rfl, rfl, fun _ => rfl, fun _ _ => .inl rfl⟩, ⟨⟨rfl, rfl, rfl, rfl, fun _ => rfl, fun _ _ => .inl rfl⟩, trivial⟩⟩⟩⟩⟩⟩⟩, trivial⟩⟩
                · (exfalso; omega)
            · obtain rfl : lo = (q : Int) := by omega
              have h142 := S142 (q : Int) (by omega)
              have h146 := S146n Y (q : Int) hly (by omega) (by omega)
              rw [Int.toNat_natCast] at h146
              have h169 := S169 R' (Y * q) (by omega) (by omega)
              rw [show R' - Y * q = r by omega] at h169
              have hdr : Q.drop (i + 1) = Q.drop (i + 1) := rfl
              have hset := drop_setI Q i (q : Int) (by omega)
              have hVn : valN (A.drop i) = valN ((Q.set i (q : Int)).drop i) * Y + (r : Nat) := by
                rw [hset, drop_cons (show i < A.length by omega)]
                have hR2 := hR'
                rw [ei] at hR2
                exact floor_step hV hR2 _ (by rw [← Int.natCast_mul]; omega)
              conv => whnf
              conv => whnf
              conv => whnf
              refine ifB_dec (fun w3 => ?_) (fun w3 => ?_)
              · (exfalso; omega)
              · conv => whnf
                conv => whnf
                conv => whnf
                refine ⟨⟨(by omega), (by omega)⟩, ?_⟩
                refine ⟨_, fun i _ => rowI _ _ i _ (by first | omega | (simp only [List.length_set]; omega) | (simp only [List.length_replicate]; omega) | (simp only [List.length_set, List.length_replicate]; omega)), ?_⟩
                conv => whnf
                conv => whnf
                conv => whnf
                refine .inl ⟨_, _, byX rfl (h162), ?_⟩
                conv => whnf
                conv => whnf
                conv => whnf
                refine .inl ⟨_, _, byX rfl (h142), ?_⟩
                conv => whnf
                conv => whnf
                conv => whnf
                refine .inl ⟨_, _, byX rfl (h146), ?_⟩
                conv => whnf
                conv => whnf
                conv => whnf
                refine .inl ⟨_, _, byX rfl (h169), ?_⟩
                conv => whnf
                conv => whnf
                conv => whnf
                refine ⟨inK64 (by omega) (by omega), ?_⟩
                conv => whnf
                conv => whnf
                conv => whnf
                refine ⟨_, _, ⟨⟨i, r, Q.set (((i + 1 : Nat) : Int) - 1).toNat (q : Int), ((i + 1 : Nat) : Int) - 1 - 1, by omega, by omega, (by rw [List.length_set]; exact hl), (dg_set hd (by omega) _), hml, (by rw [ei]; exact hVn), rfl, rfl⟩, by omega⟩, ⟨⟨.inl rfl, rfl, rfl, rfl⟩, ⟨⟨rfl, rfl, rfl, rfl, fun _ => rfl, fun _ _ => .inl rfl⟩, ⟨⟨rfl, rfl, rfl, rfl, fun _ => rfl, fun _ _ => .inl rfl⟩, ⟨⟨rfl, rfl, rfl, rfl, fun _ => rfl, fun _ _ => .inl rfl⟩, ⟨⟨rfl, rfl, rfl, rfl, fun _ => rfl, fun _ _ => .inl rfl⟩, ⟨⟨rfl, rfl, rfl, rfl, fun _ => rfl, fun _ _ => .inl rfl⟩, trivial⟩⟩⟩⟩⟩, trivial⟩⟩
        · (exfalso; omega)
theorem S166 (x y : Int) (hx : Wd x) (hy : Wd y) (hp : 0 < y) : SP 166 [wA x, wA y] (wA (x / y)) false := by
  unfold Wd at hx hy
  have hab : ((y.natAbs : Nat) : Int) = y := by omega
  have hvx := valN_digs x.natAbs
  have hxn : (valN (digs x.natAbs)).toNat = x.natAbs := by omega
  by_cases h0 : x = 0
  · have ez : wA (x / y) = .agg [i64 0, ints []] := by rw [h0, Int.zero_ediv, wA_eq (z := 0) (s := 0) (n := 0) rfl rfl, digs0]
    have es : sgI x = 0 := by rw [h0]; rfl
    rw [ez]
    refine sound (d := 2) tok2 mixed2 Tryz.func166 (by kernel_rfl) (by kernel_rfl) ?_
    conv => whnf
    refine ifB_beq (fun w1 => ?_) (fun w1 => ?_)
    · conv => whnf
      refine ⟨?_, nofun⟩
      exact ave_agg2 rfl rfl
    · (exfalso; omega)
  · refine S166c (sgI x) (sgI y) (digs x.natAbs) y.natAbs (digs_dg _) hx (by omega) hy (by have := sg_cases x; omega) (x / y) ?_
    rw [hxn]
    by_cases hs : 0 < x
    · have e : sgI x = 1 := by have := sg_cases x; omega
      rw [if_pos e, Int.natCast_ediv, hab, show ((x.natAbs : Nat) : Int) = x by omega]
    · have e : ¬ sgI x = 1 := by have := sg_cases x; omega
      rw [if_neg e]
      have hd := Nat.div_add_mod x.natAbs y.natAbs
      have hm := Nat.mod_lt x.natAbs (show 0 < y.natAbs by omega)
      generalize x.natAbs / y.natAbs = q at hd ⊢
      generalize hr : x.natAbs % y.natAbs = r at hd hm ⊢
      have hx2 : x = -(y * q + r) := by
        have h1 : ((y.natAbs * q + r : Nat) : Int) = x.natAbs := by rw [hd]
        rw [Int.natCast_add, Int.natCast_mul, hab] at h1
        omega
      by_cases hr0 : r = 0
      · rw [if_pos hr0]
        rw [hx2, hr0, show -(y * (q : Int) + (0 : Nat)) = y * (-(q : Int)) by grind, Int.mul_ediv_cancel_left _ (by omega)]
        omega
      · rw [if_neg hr0]
        rw [hx2, show -(y * (q : Int) + (r : Int)) = (y - r) + y * (-(q : Int) - 1) by grind, Int.add_mul_ediv_left _ _ (by omega), Int.ediv_eq_zero_of_lt (by omega) (by omega)]
        omega
end Go.Tr

/- Contracts: fractions of whole numbers of any size. Conditions: none. -/
namespace Go.Tr
open Go Go.Proofs
set_option maxRecDepth 20000
set_option maxHeartbeats 8000000

theorem Wd.le {a b : Int} (h : Wd b) (hl : a.natAbs ≤ b.natAbs) : Wd a := Nat.le_trans (digs_mono _ _ hl) h
theorem gcd_step {a b : Int} (ha : 0 ≤ a) (hb : 0 < b) : Int.gcd b (a - a / b * b) = Int.gcd a b := by
  have e : a - a / b * b = a % b := by rw [Int.emod_def, Int.mul_comm]
  rw [e]
  show Nat.gcd b.natAbs (a % b).natAbs = Nat.gcd a.natAbs b.natAbs
  rw [Int.natAbs_emod_of_nonneg ha, Nat.gcd_comm, ← Nat.gcd_rec, Nat.gcd_comm]
theorem S165 (x y : Int) (hx : Wd x) (hy : Wd y) : SP 165 [wA x, wA y] (wA (Int.gcd x y : Nat)) false := by
  have h187x := S187 x
  have h187y := S187 y
  refine sound (d := 2) tok2 mixed2 Tryz.func165 (by kernel_rfl) (by kernel_rfl) ?_
  conv => whnf
  refine ⟨[], by kernel_rfl, ?_⟩
  conv => whnf
  refine .inl ⟨_, _, byX rfl (h187x), ?_⟩
  conv => whnf
  refine .inl ⟨_, _, byX rfl (h187y), ?_⟩
  conv => whnf
  refine ⟨[], [2, 3, 4], fun st mq => ∃ (a : Int) (b : Int), (0 ≤ a) ∧ (0 ≤ b) ∧ (Wd a) ∧ (Wd b) ∧ (Int.gcd a b = Int.gcd x y) ∧ st = ⟨[(2, .optr 0 0 0 0), (3, .optr 1 0 0 0), (4, .optr 2 0 0 0)], ⟨[⟨2, 1, fun _ => [i64 (sgI a), ints (digs a.natAbs)], 0, false, true, true⟩, ⟨2, 1, fun _ => [i64 (sgI b), ints (digs b.natAbs)], 0, false, true, true⟩, ⟨2, 1, fun _ => [i64 0, .eslice], 0, false, true, true⟩], [], none, 0⟩, []⟩ ∧ mq = b.natAbs,
    ⟨_, _, ⟨(x.natAbs : Nat), (y.natAbs : Nat), by omega, by omega, (hx.le (by omega)), (hy.le (by omega)), rfl, rfl, rfl⟩, ⟨⟨.inl rfl, rfl, rfl, rfl⟩, ⟨⟨rfl, rfl, rfl, rfl, fun _ => rfl, fun _ _ => .inl rfl⟩, ⟨⟨rfl, rfl, rfl, rfl, fun _ => rfl, fun _ _ => .inl rfl⟩, ⟨⟨rfl, rfl, rfl, rfl, fun _ => rfl, fun _ _ => .inl rfl⟩, trivial⟩⟩⟩, trivial⟩⟩, ?_⟩
  rintro s0 m0 ⟨a, b, ha, hb, hwa, hwb, hg, rfl, hmeas⟩
  have h163 := S163 b
  have hsb := sg_cases b
  by_cases h0 : b = 0
  · have e : a = (Int.gcd x y : Nat) := by rw [← hg, h0, Int.gcd_zero_right]; omega
    have es : sgI b = 0 := by omega
    rw [← e]
    conv => whnf
    conv => whnf
    refine .inl ⟨_, _, byX rfl (Sound1.pl (h163) rfl), ?_⟩
    conv => whnf
    conv => whnf
    refine ifB_bne (fun w1 => ?_) (fun w1 => ?_)
    · (exfalso; omega)
    · conv => whnf
      conv => whnf
      refine ⟨?_, nofun⟩
      exact ave_agg2 rfl ⟨rfl, rfl, fun _ _ => rfl⟩
  · have es : sgI b ≠ 0 := by omega
    have hq0 : 0 ≤ a / b := Int.ediv_nonneg ha hb
    have hqa : a / b ≤ a := Int.ediv_le_self _ ha
    have hem := Int.emod_def a b
    have hmn := Int.emod_nonneg a (show b ≠ 0 by omega)
    have hml := Int.emod_lt_of_pos a (show 0 < b by omega)
    have hcm : b * (a / b) = a / b * b := Int.mul_comm _ _
    have h166 := S166 a b hwa hwb (by omega)
    have h146 := S146 (a / b) b (hwa.le (by omega)) hwb
    have hqb : 0 ≤ a / b * b := Int.mul_nonneg hq0 hb
    have h170 := S170 a (a / b * b) hwa (hwa.le (by omega))
    conv => whnf
    conv => whnf
    refine .inl ⟨_, _, byX rfl (Sound1.pl (h163) rfl), ?_⟩
    conv => whnf
    conv => whnf
    refine ifB_bne (fun w1 => ?_) (fun w1 => ?_)
    · conv => whnf
      conv => whnf
      refine ⟨[], by kernel_rfl, ?_⟩
      conv => whnf
      conv => whnf
      refine .inl ⟨_, _, byX rfl (h166), ?_⟩
      conv => whnf
      conv => whnf
      refine .inl ⟨_, _, byX rfl (h146), ?_⟩
      conv => whnf
      conv => whnf
      refine .inl ⟨_, _, byX rfl (h170), ?_⟩
      conv => whnf
      conv => whnf
      refine ⟨[(1, 2)], by kernel_rfl, ?_⟩
      conv => whnf
      conv => whnf
      refine ⟨_, _, ⟨⟨b, a - a / b * b, by omega, by omega, hwb, (hwb.le (by omega)), (by rw [← hg]; exact gcd_step ha (by omega)), rfl, rfl⟩, by omega⟩, ⟨⟨.inl rfl, rfl, rfl, rfl⟩, ⟨⟨rfl, rfl, rfl, rfl, fun _ => rfl, fun _ _ => .inl rfl⟩, ⟨⟨rfl, rfl, rfl, rfl, fun _ => rfl, fun _ _ => .inl rfl⟩, ⟨⟨rfl, rfl, rfl, rfl, fun _ => rfl, fun _ _ => .inl rfl⟩, trivial⟩⟩⟩, trivial⟩⟩
    · (exfalso; omega)
/-- A fraction in lowest terms. -/
abbrev rA2 (a b : Int) : AV := .agg [i64 (sgI a), ints (digs a.natAbs), i64 (sgI b), ints (digs b.natAbs)]
abbrev rA (q : Rat) : AV := rA2 q.num (q.den : Nat)
theorem ave_rA {k : Nat} {a b : Int} : AVE (k + 2) (rA2 a b) (rA2 a b) := ave_agg4 rfl ⟨rfl, rfl, fun _ _ => rfl⟩ rfl ⟨rfl, rfl, fun _ _ => rfl⟩
theorem div_num {n d : Int} (hd : 0 < d) : (Rat.divInt n d).num = n / (Int.gcd n d : Nat) := by
  rw [Rat.num_divInt, Int.sign_eq_one_of_pos hd, Int.one_mul, Int.gcd_comm]
theorem div_den {n d : Int} (hd : 0 < d) : ((Rat.divInt n d).den : Int) = d / (Int.gcd n d : Nat) := by
  rw [Rat.den_divInt, if_neg (by omega), Int.gcd_comm, Int.natCast_ediv]
  congr 1
  omega
theorem S144p (n d : Int) (hn : Wd n) (hd : Wd d) (hp : 0 < d) : SP 144 [wA n, wA d] (rA (Rat.divInt n d)) false := by
  have h163 := S163 d
  have h165 := S165 n d hn hd
  have h142 := S142 1 (by decide)
  have hg0 : 0 < Int.gcd n d := Int.gcd_pos_of_ne_zero_right _ (by omega)
  have hgd : Int.gcd n d ≤ d.natAbs := Nat.le_of_dvd (by omega) (Nat.gcd_dvd_right _ _)
  have hgw : Wd (Int.gcd n d : Nat) := hd.le (by omega)
  have h148 := S148 (Int.gcd n d : Nat) 1 hgw (Wd_small (by decide))
  have hs : ¬ sgI d < 0 := by have := sg_cases d; omega
  have hsc := sg_cases ((Int.gcd n d : Nat) - 1)
  show SP 144 [wA n, wA d] (rA2 (Rat.divInt n d).num ((Rat.divInt n d).den : Nat)) false
  rw [div_num hp, div_den hp]
  by_cases hg1 : Int.gcd n d = 1
  · have hc : sgI ((Int.gcd n d : Nat) - 1) = 0 := by omega
    rw [hg1, show ((1 : Nat) : Int) = 1 from rfl, Int.ediv_one, Int.ediv_one]
    rw [hg1] at h165 h148 hc
    refine sound (d := 2) tok2 mixed2 Tryz.func144 (by kernel_rfl) (by kernel_rfl) ?_
    conv => whnf
    refine .inl ⟨_, _, byX rfl (Sound1.pl (h163) rfl), ?_⟩
    conv => whnf
    refine ifB_dec (fun w1 => ?_) (fun w1 => ?_)
    · (exfalso; omega)
    · conv => whnf
      refine .inl ⟨_, _, byX rfl (h165), ?_⟩
      conv => whnf
      refine ⟨[], by kernel_rfl, ?_⟩
      conv => whnf
      refine .inl ⟨_, _, byX rfl (h142), ?_⟩
      conv => whnf
      refine .inl ⟨_, _, byX rfl (Sound1.pl (h148) rfl), ?_⟩
      conv => whnf
      refine ⟨?_, nofun⟩
      exact ave_rA
  · have hc : ¬ sgI ((Int.gcd n d : Nat) - 1) = 0 := by omega
    have h166n := S166 n (Int.gcd n d : Nat) hn hgw (by omega)
    have h166d := S166 d (Int.gcd n d : Nat) hd hgw (by omega)
    refine sound (d := 2) tok2 mixed2 Tryz.func144 (by kernel_rfl) (by kernel_rfl) ?_
    conv => whnf
    refine .inl ⟨_, _, byX rfl (Sound1.pl (h163) rfl), ?_⟩
    conv => whnf
    refine ifB_dec (fun w1 => ?_) (fun w1 => ?_)
    · (exfalso; omega)
    · conv => whnf
      refine .inl ⟨_, _, byX rfl (h165), ?_⟩
      conv => whnf
      refine ⟨[], by kernel_rfl, ?_⟩
      conv => whnf
      refine .inl ⟨_, _, byX rfl (h142), ?_⟩
      conv => whnf
      refine .inl ⟨_, _, byX rfl (Sound1.pl (h148) rfl), ?_⟩
      conv => whnf
      refine ifB_beq (fun w2 => ?_) (fun w2 => ?_)
      · (exfalso; omega)
      · conv => whnf
        refine ⟨[], by kernel_rfl, ?_⟩
        conv => whnf
        refine .inl ⟨_, _, byX rfl (h166n), ?_⟩
        conv => whnf
        refine .inl ⟨_, _, byX rfl (h166d), ?_⟩
        conv => whnf
        refine ⟨?_, nofun⟩
        exact ave_rA
theorem S144 (n d : Int) (hn : Wd n) (hd : Wd d) (h0 : d ≠ 0) : SP 144 [wA n, wA d] (rA (Rat.divInt n d)) false := by
  by_cases hp : 0 < d
  · exact S144p n d hn hd hp
  · have h163 := S163 d
    have h164n := S164 n
    have h164d := S164 d
    have hn' := hn.neg
    have hd' := hd.neg
    have hp' : 0 < -d := by omega
    have h165 := S165 (-n) (-d) hn' hd'
    have h142 := S142 1 (by decide)
    have hg0 : 0 < Int.gcd (-n) (-d) := Int.gcd_pos_of_ne_zero_right _ (by omega)
    have hgd : Int.gcd (-n) (-d) ≤ (-d).natAbs := Nat.le_of_dvd (by omega) (Nat.gcd_dvd_right _ _)
    have hgw : Wd (Int.gcd (-n) (-d) : Nat) := hd'.le (by omega)
    have h148 := S148 (Int.gcd (-n) (-d) : Nat) 1 hgw (Wd_small (by decide))
    have hs : sgI d < 0 := by have := sg_cases d; omega
    have hsc := sg_cases ((Int.gcd (-n) (-d) : Nat) - 1)
    rw [← Rat.neg_divInt_neg n d]
    show SP 144 [wA n, wA d] (rA2 (Rat.divInt (-n) (-d)).num ((Rat.divInt (-n) (-d)).den : Nat)) false
    rw [div_num hp', div_den hp']
    by_cases hg1 : Int.gcd (-n) (-d) = 1
    · have hc : sgI ((Int.gcd (-n) (-d) : Nat) - 1) = 0 := by omega
      rw [hg1, show ((1 : Nat) : Int) = 1 from rfl, Int.ediv_one, Int.ediv_one]
      rw [hg1] at h165 h148 hc
      refine sound (d := 2) tok2 mixed2 Tryz.func144 (by kernel_rfl) (by kernel_rfl) ?_
      conv => whnf
      refine .inl ⟨_, _, byX rfl (Sound1.pl (h163) rfl), ?_⟩
      conv => whnf
      refine ifB_dec (fun w1 => ?_) (fun w1 => ?_)
      · conv => whnf
        refine ⟨[], by kernel_rfl, ?_⟩
        conv => whnf
        refine .inl ⟨_, _, byX rfl (h164n), ?_⟩
        conv => whnf
        refine .inl ⟨_, _, byX rfl (h164d), ?_⟩
        conv => whnf
        refine .inl ⟨_, _, byX rfl (h165), ?_⟩
        conv => whnf
        refine ⟨[], by kernel_rfl, ?_⟩
        conv => whnf
        refine .inl ⟨_, _, byX rfl (h142), ?_⟩
        conv => whnf
        refine .inl ⟨_, _, byX rfl (Sound1.pl (h148) rfl), ?_⟩
        conv => whnf
        refine ⟨?_, nofun⟩
        exact ave_rA
      · (exfalso; omega)
    · have hc : ¬ sgI ((Int.gcd (-n) (-d) : Nat) - 1) = 0 := by omega
      have h166n := S166 (-n) (Int.gcd (-n) (-d) : Nat) hn' hgw (by omega)
      have h166d := S166 (-d) (Int.gcd (-n) (-d) : Nat) hd' hgw (by omega)
      refine sound (d := 2) tok2 mixed2 Tryz.func144 (by kernel_rfl) (by kernel_rfl) ?_
      conv => whnf
      refine .inl ⟨_, _, byX rfl (Sound1.pl (h163) rfl), ?_⟩
      conv => whnf
      refine ifB_dec (fun w1 => ?_) (fun w1 => ?_)
      · conv => whnf
        refine ⟨[], by kernel_rfl, ?_⟩
        conv => whnf
        refine .inl ⟨_, _, byX rfl (h164n), ?_⟩
        conv => whnf
        refine .inl ⟨_, _, byX rfl (h164d), ?_⟩
        conv => whnf
        refine .inl ⟨_, _, byX rfl (h165), ?_⟩
        conv => whnf
        refine ⟨[], by kernel_rfl, ?_⟩
        conv => whnf
        refine .inl ⟨_, _, byX rfl (h142), ?_⟩
        conv => whnf
        refine .inl ⟨_, _, byX rfl (Sound1.pl (h148) rfl), ?_⟩
        conv => whnf
        refine ifB_beq (fun w2 => ?_) (fun w2 => ?_)
        · (exfalso; omega)
        · conv => whnf
          refine ⟨[], by kernel_rfl, ?_⟩
          conv => whnf
          refine .inl ⟨_, _, byX rfl (h166n), ?_⟩
          conv => whnf
          refine .inl ⟨_, _, byX rfl (h166d), ?_⟩
          conv => whnf
          refine ⟨?_, nofun⟩
          exact ave_rA
      · (exfalso; omega)
end Go.Tr

/- Plain laws: sizes of fractions. Conditions: none. -/
namespace Go.Tr
open Go Go.Proofs
set_option maxRecDepth 20000
set_option maxHeartbeats 8000000

/-- A fraction whose parts have at most k digits. -/
def Rk (k : Nat) (q : Rat) : Prop := (digs q.num.natAbs).length ≤ k ∧ (digs q.den).length ≤ k
theorem digs_mul (m n : Nat) : (digs (m * n)).length ≤ (digs m).length + (digs n).length :=
  digs_len _ _ (by rw [Nat.pow_add]; exact Nat.mul_lt_mul'' (digs_lt m) (digs_lt n))
theorem div_num_le {n d : Int} (hd : d ≠ 0) : (Rat.divInt n d).num.natAbs ≤ n.natAbs := by
  rw [Rat.num_divInt]
  refine Nat.le_trans (Int.natAbs_ediv_le_natAbs _ _) ?_
  rw [Int.natAbs_mul, Int.natAbs_sign_of_ne_zero hd, Nat.one_mul]
  exact Nat.le_refl _
theorem div_den_le {n d : Int} (hd : d ≠ 0) : (Rat.divInt n d).den ≤ d.natAbs := by
  rw [Rat.den_divInt, if_neg hd]
  exact Nat.div_le_self _ _
theorem Rk.mono {k l : Nat} {q : Rat} (h : Rk k q) (hl : k ≤ l) : Rk l q := ⟨Nat.le_trans h.1 hl, Nat.le_trans h.2 hl⟩
theorem Rk.of {k : Nat} {n d : Int} (hd : d ≠ 0) (h1 : (digs n.natAbs).length ≤ k) (h2 : (digs d.natAbs).length ≤ k) : Rk k (Rat.divInt n d) :=
  ⟨Nat.le_trans (digs_mono _ _ (div_num_le hd)) h1, Nat.le_trans (digs_mono _ _ (div_den_le hd)) h2⟩
theorem Rk.wd {k : Nat} {q : Rat} (h : Rk k q) (hk : k ≤ 100) : Wd q.num ∧ Wd (q.den : Nat) := by
  refine ⟨Nat.le_trans h.1 hk, ?_⟩
  show (digs ((q.den : Int)).natAbs).length ≤ 100
  rw [Int.natAbs_natCast]
  exact Nat.le_trans h.2 hk
/-- A number whose digits are at most k. -/
def Zk (k : Nat) (z : Int) : Prop := (digs z.natAbs).length ≤ k
theorem Zk.mul {k l : Nat} {a b : Int} (ha : Zk k a) (hb : Zk l b) : Zk (k + l) (a * b) := by
  unfold Zk at *
  rw [Int.natAbs_mul]
  have := digs_mul a.natAbs b.natAbs
  omega
theorem Zk.add {k : Nat} {a b : Int} (ha : Zk k a) (hb : Zk k b) : Zk (k + 1) (a + b) := by
  unfold Zk at *
  have h1 := digs_add_len a.natAbs b.natAbs
  have h2 := digs_mono _ _ (Int.natAbs_add_le a b)
  omega
theorem Zk.wd {k : Nat} {a : Int} (h : Zk k a) (hk : k ≤ 100) : Wd a := Nat.le_trans h hk
theorem Zk.small {z : Int} {k : Nat} (h : z.natAbs < 1000000000 ^ k) : Zk k z := digs_len k _ h
theorem Rk.num {k : Nat} {q : Rat} (h : Rk k q) : Zk k q.num := h.1
theorem Rk.den {k : Nat} {q : Rat} (h : Rk k q) : Zk k (q.den : Nat) := by
  unfold Zk
  rw [Int.natAbs_natCast]
  exact h.2
theorem Rk.divI {k : Nat} {n d : Int} (hd : d ≠ 0) (h1 : Zk k n) (h2 : Zk k d) : Rk k (Rat.divInt n d) := Rk.of hd h1 h2
theorem rat_add (p q : Rat) : p + q = Rat.divInt (p.num * (q.den : Nat) + q.num * (p.den : Nat)) ((p.den : Nat) * (q.den : Nat)) := by
  rw [Rat.add_def', ← Rat.divInt_ofNat]
  push_cast
  rfl
theorem rat_mul (p q : Rat) : p * q = Rat.divInt (p.num * q.num) ((p.den : Nat) * (q.den : Nat)) := by
  rw [Rat.mul_def', ← Rat.divInt_ofNat]
  push_cast
  rfl
theorem den_pos (q : Rat) : 0 < (q.den : Int) := by have := q.den_pos; omega
theorem Rk.add {k l : Nat} {p q : Rat} (hp : Rk k p) (hq : Rk l q) : Rk (k + l + 1) (p + q) := by
  rw [rat_add]
  have hd : ((p.den : Nat) * (q.den : Nat) : Int) ≠ 0 := Int.ne_of_gt (Int.mul_pos (den_pos p) (den_pos q))
  refine Rk.divI hd ?_ ?_
  · have h1 := hp.num.mul hq.den
    have h2 := hq.num.mul hp.den
    rw [Nat.add_comm l k] at h2
    exact h1.add h2
  · exact Nat.le_trans (hp.den.mul hq.den) (Nat.le_succ _)
theorem Rk.mul {k l : Nat} {p q : Rat} (hp : Rk k p) (hq : Rk l q) : Rk (k + l) (p * q) := by
  rw [rat_mul]
  exact Rk.divI (Int.ne_of_gt (Int.mul_pos (den_pos p) (den_pos q))) (hp.num.mul hq.num) (hp.den.mul hq.den)
theorem Rk.neg {k : Nat} {p : Rat} (hp : Rk k p) : Rk k (-p) := by
  refine ⟨?_, hp.2⟩
  rw [Rat.neg_num, Int.natAbs_neg]
  exact hp.1
theorem Rk.sub {k l : Nat} {p q : Rat} (hp : Rk k p) (hq : Rk l q) : Rk (k + l + 1) (p - q) := by
  rw [Rat.sub_eq_add_neg]
  exact hp.add hq.neg
theorem rk_int {z : Int} {k : Nat} (h : Zk (k + 1) z) : Rk (k + 1) (z : Rat) := by
  refine ⟨?_, ?_⟩
  · exact h
  · show (digs (1 : Nat)).length ≤ k + 1
    exact Nat.le_trans (digs_len 1 1 (by decide)) (by omega)
theorem cmp_zero (p q : Rat) : p.num * (q.den : Nat) - q.num * (p.den : Nat) = 0 ↔ p = q := by
  rw [Rat.eq_iff_mul_eq_mul]
  omega
end Go.Tr

/- The law GovernorRuns returns true. Conditions: none. -/
/- Contracts of chapter 6: rows divided by their greatest common divisor. Conditions: none. -/
namespace Go.Tr
open Go Go.Proofs
set_option maxRecDepth 20000
set_option maxHeartbeats 8000000

/-- The greatest common divisor of a row; the row divided by it. -/
def gcdR (l : List Int) : Nat := l.foldl (fun g x => Nat.gcd g x.natAbs) 0
def redL (l : List Int) : List Int := if gcdR l = 0 then l else l.map fun x => x.tdiv (gcdR l : Nat)
/-- All of a row are small. -/
def Sml (B : Nat) (l : List Int) : Prop := ∀ x ∈ l, x.natAbs ≤ B
theorem Sml.take {B : Nat} {l : List Int} (h : Sml B l) (k : Nat) : Sml B (l.take k) := fun x hx => h x (List.mem_of_mem_take hx)
theorem take_snocI {l : List Int} {i : Nat} (h : i < l.length) : l.take (i + 1) = l.take i ++ [l.getD i 0] := by
  rw [List.take_add_one, show l.getD i 0 = l[i] by simp [List.getD_eq_getElem?_getD, h]]
  simp [h]
theorem tdiv_sml (x : Int) (g : Nat) : (x.tdiv (g : Int)).natAbs ≤ x.natAbs := Int.natAbs_tdiv_le_natAbs x g
theorem redL_len (l : List Int) : (redL l).length = l.length := by
  unfold redL
  split <;> simp
theorem redL_sml {B : Nat} {l : List Int} (h : Sml B l) : Sml B (redL l) := by
  unfold redL
  split
  · exact h
  · intro x hx
    obtain ⟨y, hy, rfl⟩ := List.mem_map.1 hx
    exact Nat.le_trans (tdiv_sml y _) (h y hy)
end Go.Tr

/- Contracts of chapter 6: the next row of a table. Conditions: none. -/
namespace Go.Tr
open Go Go.Proofs
set_option maxRecDepth 20000
set_option maxHeartbeats 8000000

/-- How long a row is; its entries; the row. -/
abbrev rowN (m k : Nat) : Nat := (((m : Int) - 1 - k).tdiv 2 + 1).toNat
def rowAt (p : List Int) (R : List (List Int)) (j : Nat) : Int :=
  if R.length < 2 then entL p (2 * j + R.length) else (R.getD (R.length - 1) []).getD 0 0 * entL (R.getD (R.length - 2) []) (j + 1) - (R.getD (R.length - 2) []).getD 0 0 * entL (R.getD (R.length - 1) []) (j + 1)
def rawL (p : List Int) (R : List (List Int)) : List Int := (List.range (rowN p.length R.length)).map (rowAt p R)
def nextL (p : List Int) (R : List (List Int)) : List Int := redL (rawL p R)
/-- How great the entries of a row are at most. -/
def bnd : Nat → Nat
  | 0 => 1000
  | 1 => 1000
  | 2 => 2000000
  | 3 => 4000000000
  | _ => 16000000000000000
structure RowsOk (p : List Int) (R : List (List Int)) : Prop where
  p2 : 2 ≤ p.length ∧ p.length ≤ 5
  ps : Sml 1000 p
  lt : R.length < p.length
  ne : ∀ i, i < R.length → 1 ≤ (R.getD i []).length ∧ (R.getD i []).length ≤ 5
  sm : ∀ i, i < R.length → Sml (bnd i) (R.getD i [])
theorem ent_sml {B : Nat} {l : List Int} (h : Sml B l) (i : Nat) : (entL l i).natAbs ≤ B := by
  unfold entL
  by_cases hi : i < l.length
  · exact h _ (getD_memI hi)
  · simp [List.getD_eq_getElem?_getD, show l.length ≤ i by omega]
theorem mul_sml {a b : Int} {A B : Nat} (ha : a.natAbs ≤ A) (hb : b.natAbs ≤ B) : (a * b).natAbs ≤ A * B := by
  rw [Int.natAbs_mul]
  exact Nat.mul_le_mul ha hb
theorem rowAt_sml {p : List Int} {R : List (List Int)} (h : RowsOk p R) (j : Nat) : (rowAt p R j).natAbs ≤ bnd R.length := by
  unfold rowAt
  by_cases hk : R.length < 2
  · rw [if_pos hk]
    have := ent_sml h.ps (2 * j + R.length)
    match e : R.length, hk with
    | 0, _ => rw [e] at this; exact this
    | 1, _ => rw [e] at this; exact this
  · rw [if_neg hk]
    have hb := h.sm (R.length - 1) (by omega)
    have ha := h.sm (R.length - 2) (by omega)
    have e1 := mul_sml (ent_sml hb 0) (ent_sml ha (j + 1))
    have e2 := mul_sml (ent_sml ha 0) (ent_sml hb (j + 1))
    unfold entL at e1 e2 ⊢
    have h3 := h.lt
    have h4 := h.p2
    have h5 : R.length = 2 ∨ R.length = 3 ∨ R.length = 4 := by omega
    rcases h5 with h5 | h5 | h5 <;> rw [h5] at e1 e2 ⊢ <;> simp only [bnd, Nat.reduceSub] at e1 e2 ⊢ <;> omega
end Go.Tr

/- Contracts of chapter 6: the table of a polynomial; is it stable? Conditions: none. -/
namespace Go.Tr
open Go Go.Proofs
set_option maxRecDepth 20000
set_option maxHeartbeats 8000000

/-- Row after row, until one does not begin above 0. -/
def tabG (p : List Int) : Nat → List (List Int) → List (List Int)
  | 0, R => R
  | n + 1, R => if (nextL p R).getD 0 0 ≤ 0 then R ++ [nextL p R] else tabG p n (R ++ [nextL p R])
def tabL (p : List Int) : List (List Int) := tabG p p.length []
structure PolyOk (p : List Int) : Prop where
  p2 : 2 ≤ p.length ∧ p.length ≤ 5
  ps : Sml 1000 p
  p0 : 0 < p.getD 0 0
theorem coef_all : ∀ (l : List Int) (k : Nat), (eachI (fun _ x => coefE x) l k).2 = 0 → Sml 1000 l
  | [], _, _, x, hx => by cases hx
  | y :: l, k, h, x, hx => by
    unfold eachI at h
    by_cases hy : coefE y = 0
    · rw [if_pos hy] at h
      rcases List.mem_cons.1 hx with e | hx
      · rw [e]
        unfold coefE at hy
        split at hy
        · omega
        · omega
      · exact coef_all l (k + 1) h x hx
    · rw [if_neg hy] at h; exact absurd h hy
theorem PolyOk.of {p : List Int} (h : polyE p = 0) : PolyOk p := by
  unfold polyE at h
  by_cases h1 : shapeE p.length = 0
  · rw [if_neg (not_not_intro h1)] at h
    by_cases h2 : coefsE p = 0
    · rw [if_neg (not_not_intro h2)] at h
      by_cases h3 : p.getD 0 0 > 0
      · exact ⟨shape_ok h1, coef_all p 0 h2, h3⟩
      · rw [if_neg h3] at h; omega
    · rw [if_pos h2] at h; exact absurd h h2
  · rw [if_pos h1] at h; exact absurd h h1
theorem rowN_in {m k : Nat} (hm : m ≤ 5) (hk : k < m) : 1 ≤ rowN m k ∧ rowN m k ≤ 5 := by
  have h1 : 0 ≤ ((m : Int) - 1 - k).tdiv 2 := Int.tdiv_nonneg (by omega) (by decide)
  have h2 := tdiv_le (a := (m : Int) - 1 - k) (b := 2) (by decide)
  unfold rowN
  omega
theorem nextL_len (p : List Int) (R : List (List Int)) : (nextL p R).length = rowN p.length R.length := by
  unfold nextL
  rw [redL_len]; simp [rawL]
theorem nextL_sml {p : List Int} {R : List (List Int)} (h : RowsOk p R) : Sml (bnd R.length) (nextL p R) := by
  unfold nextL
  refine redL_sml fun x hx => ?_
  obtain ⟨i, _, rfl⟩ := List.mem_map.1 hx
  exact rowAt_sml h i
theorem getD_snoc {α : Type} (l : List α) (x d : α) (i : Nat) (hi : i < l.length + 1) : (l ++ [x]).getD i d = if i < l.length then l.getD i d else x := by
  by_cases h : i < l.length
  · rw [if_pos h]; simp [List.getD_eq_getElem?_getD, h, List.getElem?_append_left h]
  · obtain rfl : i = l.length := by omega
    rw [if_neg h]; simp [List.getD_eq_getElem?_getD]
/-- What holds of the rows so far. -/
structure RowsIn (p : List Int) (R : List (List Int)) : Prop where
  p2 : 2 ≤ p.length ∧ p.length ≤ 5
  ps : Sml 1000 p
  le : R.length ≤ p.length
  ne : ∀ i, i < R.length → 1 ≤ (R.getD i []).length ∧ (R.getD i []).length ≤ 5
  sm : ∀ i, i < R.length → Sml (bnd i) (R.getD i [])
theorem RowsIn.ok {p : List Int} {R : List (List Int)} (h : RowsIn p R) (hl : R.length < p.length) : RowsOk p R := ⟨h.p2, h.ps, hl, h.ne, h.sm⟩
theorem RowsIn.next {p : List Int} {R : List (List Int)} (h : RowsIn p R) (hl : R.length < p.length) : RowsIn p (R ++ [nextL p R]) := by
  have hr := rowN_in h.p2.2 hl
  have hL := nextL_len p R
  refine ⟨h.p2, h.ps, by rw [List.length_append]; show R.length + 1 ≤ _; omega, fun i hi => ?_, fun i hi => ?_⟩
  · rw [List.length_append] at hi
    have hi : i < R.length + 1 := hi
    rw [getD_snoc _ _ _ _ hi]
    by_cases hlt : i < R.length
    · rw [if_pos hlt]; exact h.ne i hlt
    · rw [if_neg hlt, hL]; exact hr
  · rw [List.length_append] at hi
    have hi : i < R.length + 1 := hi
    rw [getD_snoc _ _ _ _ hi]
    by_cases hlt : i < R.length
    · rw [if_pos hlt]; exact h.sm i hlt
    · rw [if_neg hlt, show i = R.length by omega]; exact nextL_sml (h.ok hl)
end Go.Tr

/- Contracts of chapter 6: lists of lists; the reference's table. Conditions: none. -/
/- Contracts of chapter 6: the reference's table. Conditions: none. -/
namespace Go.Tr
open Go Go.Proofs
set_option maxRecDepth 20000
set_option maxHeartbeats 8000000

theorem Sml.mono {A B : Nat} {l : List Int} (h : Sml A l) (hab : A ≤ B) : Sml B l := fun x hx => Nat.le_trans (h x hx) hab
end Go.Tr

/- Contracts of chapter 6: is a table accepted? Conditions: none. -/
namespace Go.Tr
open Go Go.Proofs
set_option maxRecDepth 20000
set_option maxHeartbeats 8000000

/-- Is this the row that follows, and does it begin above 0? -/
def rowE (p : List Int) (T : List (List Int)) (k : Nat) (r : List Int) : Int := if r = nextL p (T.take k) ∧ r.getD 0 0 > 0 then 0 else 19
theorem tabG_pre {p : List Int} : ∀ (n : Nat) (R : List (List Int)), ∃ E, tabG p n R = R ++ E
  | 0, R => ⟨[], by simp [tabG]⟩
  | n + 1, R => by
    unfold tabG
    split
    · exact ⟨_, rfl⟩
    · obtain ⟨E, hE⟩ := tabG_pre n (R ++ [nextL p R])
      exact ⟨nextL p R :: E, by rw [hE]; simp⟩
/-- Rows that are the beginning of the table: the next one is next in it. -/
theorem tab_at {p : List Int} {R : List (List Int)} {n : Nat} (h : tabG p (n + 1) R = tabL p) : R.length < (tabL p).length ∧ (tabL p).getD R.length [] = nextL p R ∧ (0 < (nextL p R).getD 0 0 → tabG p n (R ++ [nextL p R]) = tabL p) := by
  have hx : ∃ E, tabL p = R ++ (nextL p R :: E) := by
    rw [← h]
    unfold tabG
    split
    · exact ⟨[], rfl⟩
    · obtain ⟨E, hE⟩ := tabG_pre (p := p) n (R ++ [nextL p R])
      exact ⟨E, by rw [hE]; simp⟩
  obtain ⟨E, hE⟩ := hx
  refine ⟨by rw [hE]; simp, by rw [hE]; simp [List.getD_eq_getElem?_getD], fun h0 => ?_⟩
  unfold tabG at h
  rwa [if_neg (by omega)] at h
theorem take_snocL {L : List (List Int)} {k : Nat} (h : k < L.length) : L.take (k + 1) = L.take k ++ [L.getD k []] := by
  rw [List.take_add_one, show L.getD k [] = L[k] by simp [List.getD_eq_getElem?_getD, h]]
  simp [h]
structure Begun (p : List Int) (T : List (List Int)) (k : Nat) : Prop where
  len : (T.take k).length = k
  tab : tabG p (p.length - k) (T.take k) = tabL p
  ok : RowsIn p (T.take k)
theorem Begun.zero {p : List Int} (hp : PolyOk p) (T : List (List Int)) : Begun p T 0 := by
  refine ⟨by simp, rfl, ?_⟩
  exact ⟨hp.p2, hp.ps, Nat.zero_le _, (fun i h => absurd h (by simp)), fun i h => absurd h (by simp)⟩
theorem rowE_zero {p : List Int} {T : List (List Int)} {k : Nat} {r : List Int} (h : rowE p T k r = 0) : r = nextL p (T.take k) ∧ 0 < r.getD 0 0 := by
  unfold rowE at h
  by_cases hx : r = nextL p (T.take k) ∧ r.getD 0 0 > 0
  · exact hx
  · rw [if_neg hx] at h; omega
theorem Begun.next {p : List Int} {T : List (List Int)} {k : Nat} (h : Begun p T k) (hk : k < p.length) (ht : T.length = p.length) (h0 : rowE p T k (T.getD k []) = 0) : Begun p T (k + 1) := by
  have hr := rowE_zero h0
  have hs := take_snocL (show k < T.length by omega)
  have hl := h.len
  have ht1 : tabG p (p.length - (k + 1) + 1) (T.take k) = tabL p := by rw [show p.length - (k + 1) + 1 = p.length - k by omega]; exact h.tab
  refine ⟨?_, ?_, ?_⟩
  · rw [hs, List.length_append, hl]; rfl
  · rw [hs, hr.1]
    exact (tab_at ht1).2.2 (by rw [← hr.1]; exact hr.2)
  · rw [hs, hr.1]
    exact h.ok.next (by omega)
end Go.Tr

/- The law GovernorTables returns true. Conditions: none. -/
/- Contracts of chapter 6: a polynomial shifted. Conditions: none. -/
/- Contracts of chapter 6: the reference's shift, and margins. Conditions: none. -/
/- Contracts of chapter 6: margins; the law GovernorMargins. Conditions: none. -/
namespace Go.Tr
open Go Go.Proofs
set_option maxRecDepth 20000
set_option maxHeartbeats 8000000

theorem PolyOk.len {p : List Int} (h : PolyOk p) : p.length ≤ 1000 := by have := h.p2; omega
end Go.Tr

/- The law GovernorMargins returns true. Conditions: none. -/
/- Plain laws: when a polynomial of degree 1 to 4 is stable. Conditions: none. -/
namespace Go.Tr
open Go Go.Proofs
set_option maxRecDepth 20000
set_option maxHeartbeats 8000000

theorem gpos {g x : Int} (hg : 0 < g) : 0 < g * x ↔ 0 < x := by
  constructor
  · intro h
    rcases Int.lt_or_le 0 x with h1 | h1
    · exact h1
    · have := Int.mul_le_mul_of_nonneg_left h1 (Int.le_of_lt hg)
      rw [Int.mul_zero] at this
      omega
  · exact fun h => Int.mul_pos hg h
end Go.Tr

/- Plain laws: a polynomial in a box whose corners are stable is stable. Conditions: none. -/
/- The evaluator of TrEv once more, for runs whose numbers may be variables: whole numbers are not made plain. Conditions: the program's rules take any order. -/
/-! ### Values made plain before they are used again -/
/-! ### The evaluator -/
/-! ### It tells the truth -/
/- Contracts of chapter 6: boxes, their errors and corners. Conditions: none. -/
namespace Go.Tr
open Go Go.Proofs
set_option maxRecDepth 20000
set_option maxHeartbeats 8000000

/-! ### Runs of the evaluator whose numbers are variables -/

/-! ### Boxes -/

abbrev Rg := Int × Int
def rgs (L : List Rg) : AV := .rslice 2 L.length fun i => [i64 (L.getD i (0, 0)).1, i64 (L.getD i (0, 0)).2]
end Go.Tr

/- Contracts of chapter 6: the shares of a load. Conditions: none. -/
namespace Go.Tr
open Go Go.Proofs
set_option maxRecDepth 20000
set_option maxHeartbeats 8000000

/-! ### Plain -/

def gcdI (a b : Int) : Int := (Nat.gcd a.natAbs b.natAbs : Nat)
def fracG (a b : Int) : Int × Int := (a.tdiv (gcdI a b), b.tdiv (gcdI a b))
def comL (l : List Int) : Int := l.foldl (fun c n => c.tdiv (gcdI c n) * n) 1
def prodI (l : List Int) : Int := l.foldl (fun c n => c * n) 1
def sumD (c : Int) (l : List Int) : Int := l.foldl (fun s n => s + c.tdiv n) 0
theorem comL_snoc (l : List Int) (x : Int) : comL (l ++ [x]) = (comL l).tdiv (gcdI (comL l) x) * x := by simp [comL]
theorem prodI_snoc (l : List Int) (x : Int) : prodI (l ++ [x]) = prodI l * x := by simp [prodI]
theorem sumD_snoc (c : Int) (l : List Int) (x : Int) : sumD c (l ++ [x]) = sumD c l + c.tdiv x := by simp [sumD]
theorem gcdI_scale {k : Int} (hk : 0 < k) (a b : Int) : gcdI (k * a) (k * b) = k * gcdI a b := by
  unfold gcdI
  rw [Int.natAbs_mul, Int.natAbs_mul, Nat.gcd_mul_left, Int.natCast_mul, show ((k.natAbs : Nat) : Int) = k by omega]
theorem gcdI_pos {a b : Int} (h : 0 < b) : 0 < gcdI a b ∧ gcdI a b ≤ b ∧ gcdI a b ∣ a ∧ gcdI a b ∣ b := by
  unfold gcdI
  have h1 : 0 < b.natAbs := by omega
  have h2 := Nat.gcd_pos_of_pos_right a.natAbs h1
  have h3 := Nat.gcd_le_right a.natAbs h1
  refine ⟨by omega, by omega, ?_, ?_⟩
  · exact Int.ofNat_dvd_left.2 (Nat.gcd_dvd_left _ _)
  · exact Int.ofNat_dvd_left.2 (Nat.gcd_dvd_right _ _)
/-- What holds of the common multiple so far. -/
structure ComOk (l : List Int) : Prop where
  pos : 0 < comL l
  le : comL l ≤ 20 ^ l.length
  pr : ∃ k, 0 < k ∧ prodI l = k * comL l
  dv : ∀ n ∈ l, n ∣ comL l
theorem comOk_nil : ComOk [] := ⟨by decide, by decide, ⟨1, by decide, by decide⟩, fun _ h => absurd h (by simp)⟩
theorem ComOk.snoc {l : List Int} (h : ComOk l) {x : Int} (hx : 1 ≤ x ∧ x ≤ 20) : ComOk (l ++ [x]) := by
  obtain ⟨p1, p2, ⟨k, hk, p3⟩, p4⟩ := h
  obtain ⟨g1, g2, ⟨c, g3⟩, ⟨d, g4⟩⟩ := gcdI_pos (a := comL l) (b := x) (by omega)
  generalize hg : gcdI (comL l) x = g at g1 g2 g3 g4
  have e1 : (comL l).tdiv g = c := by rw [g3]; exact Int.mul_tdiv_cancel_left _ (by omega)
  have hc : 0 < c := by
    rw [g3] at p1
    exact (gpos g1).1 p1
  have hcl : c ≤ comL l := by
    rw [g3]
    have := Int.mul_le_mul_of_nonneg_right (show (1 : Int) ≤ g by omega) (Int.le_of_lt hc)
    omega
  have e2 : comL (l ++ [x]) = c * x := by rw [comL_snoc, hg, e1]
  refine ⟨?_, ?_, ⟨k * g, Int.mul_pos hk g1, ?_⟩, fun n hn => ?_⟩
  · rw [e2]; exact Int.mul_pos hc (by omega)
  · rw [e2, List.length_append, List.length_singleton, Int.pow_succ]
    exact Int.le_trans (Int.mul_le_mul_of_nonneg_left hx.2 (Int.le_of_lt hc)) (Int.mul_le_mul_of_nonneg_right (Int.le_trans hcl p2) (by decide))
  · rw [e2, prodI_snoc, p3, g3]; grind
  · rw [e2]
    rcases List.mem_append.1 hn with hn | hn
    · obtain ⟨e, he⟩ := p4 n hn
      refine ⟨e * d, ?_⟩
      have : c * x = comL l * d := by rw [g3]; conv => lhs; rw [g4]; skip
                                      grind
      rw [this, he]; grind
    · rw [List.mem_singleton.1 hn]
      exact ⟨c, Int.mul_comm c x⟩
def DrOk (l : List Int) : Prop := ∀ x ∈ l, 1 ≤ x ∧ x ≤ 20
theorem com_ok : ∀ {l : List Int}, DrOk l → ComOk l := fun {l} => by
  induction h : l.length generalizing l with
  | zero =>
    intro _
    rw [List.length_eq_zero_iff.1 h]
    exact comOk_nil
  | succ n ih =>
    intro hd
    obtain ⟨x, r, e⟩ : ∃ x r, l = r ++ [x] := by
      have hne : l ≠ [] := by intro e; rw [e] at h; simp at h
      exact ⟨l.getLast hne, l.dropLast, (List.dropLast_concat_getLast hne).symm⟩
    subst e
    refine (ih (by simpa using h) fun y hy => hd y (by simp [hy])).snoc (hd x (by simp))
/-- The shares, and the reference's, are the same. -/
def shareL (c : Int) (load : Int) (l : List Int) : List (Int × Int) := l.map fun n => fracG (load * c.tdiv n) (sumD c l)
def smB (f : Int × Int) : Bool := decide (-1000000000 ≤ f.1 ∧ f.1 ≤ 1000000000) && decide (f.2 ≤ 1000000000)
theorem sum_b {c : Int} (hc : 0 < c) {l : List Int} (hd : DrOk l) : ∀ i, i ≤ l.length → 0 ≤ sumD c (l.take i) ∧ sumD c (l.take i) ≤ i * c
  | 0, _ => by simp [sumD]
  | i + 1, hi => by
    have ih := sum_b hc hd i (by omega)
    rw [take_snocI (show i < l.length by omega), sumD_snoc]
    have hx := hd _ (getD_memI (show i < l.length by omega))
    have h1 : 0 ≤ c.tdiv (l.getD i 0) := Int.tdiv_nonneg (by omega) (by omega)
    have h2 : c.tdiv (l.getD i 0) ≤ c := Int.tdiv_le_self _ (by omega)
    rw [show ((i + 1 : Nat) : Int) * c = i * c + c by push_cast; rw [Int.add_mul, Int.one_mul]]
    omega
end Go.Tr

/- Contracts of chapter 6: the shares of a load. Conditions: none. -/
namespace Go.Tr
open Go Go.Proofs
set_option maxRecDepth 20000
set_option maxHeartbeats 8000000

abbrev gaF (f : Int × Int) : AV := .agg [i64 f.1, i64 f.2]
theorem S136 (a b : Int) (ha : -9223372036854775807 ≤ a ∧ a ≤ 9223372036854775807) (hb : -9223372036854775807 ≤ b ∧ b ≤ 9223372036854775807) : SP 136 [i64 a, i64 b] (i64 (gcdI a b)) false := by
  unfold gcdI
  refine sound (d := 2) tok2 mixed2 Tryz.func136 (by kernel_rfl) (by kernel_rfl) ?_
  conv => whnf
  refine ⟨[], [0, 1], fun st mq => ∃ (x : Int) (y : Int), (-9223372036854775807 ≤ x ∧ x ≤ 9223372036854775807) ∧ (-9223372036854775807 ≤ y ∧ y ≤ 9223372036854775807) ∧ (Nat.gcd x.natAbs y.natAbs = Nat.gcd a.natAbs b.natAbs) ∧ st = ⟨[(0, i64 x), (1, i64 y)], ⟨[], [], none, 0⟩, []⟩ ∧ mq = y.natAbs,
    ⟨_, _, ⟨a, b, ha, hb, rfl, rfl, rfl⟩, ⟨⟨.inl rfl, rfl, rfl, rfl⟩, trivial, trivial⟩⟩, ?_⟩
  rintro s0 m0 ⟨x, y, hx, hy, hg, rfl, hmeas⟩
  by_cases h0 : y = 0
  · have h115 := S115 x hx
    subst h0
    conv => whnf
    conv => whnf
    refine .inl ⟨_, _, byX rfl (Sound1.pl (h115) rfl), ?_⟩
    conv => whnf
    conv => whnf
    refine ⟨?_, nofun⟩
    exact endi (by rw [← hg]; simp; unfold siz; split <;> omega)
  · have ht := tmod_lt (a := x) h0
    conv => whnf
    conv => whnf
    refine ifB_bne (fun w1 => ?_) (fun w1 => ?_)
    · conv => whnf
      conv => whnf
      refine ⟨[], by kernel_rfl, ?_⟩
      conv => whnf
      conv => whnf
      refine ⟨(by omega), ?_⟩
      conv => whnf
      conv => whnf
      refine ⟨_, _, ⟨⟨y, x.tmod y, hy, by omega, (by rw [← hg, Int.natAbs_tmod, Nat.gcd_comm x.natAbs, Nat.gcd_rec y.natAbs x.natAbs, Nat.gcd_comm]), rfl, rfl⟩, by omega⟩, ⟨⟨.inl rfl, rfl, rfl, rfl⟩, trivial, trivial⟩⟩
    · (exfalso; omega)
theorem S77 (f : Int × Int) (h : 1 ≤ f.2) : SP 77 [gaF f] (vb (smB f)) false := by
  have h1 := S68 f.1 (-1000000000) 1000000000
  have h2 := S68 f.2 1 1000000000
  unfold smB
  refine sound (d := 2) tok2 mixed2 Tryz.func77 (by kernel_rfl) (by kernel_rfl) ?_
  conv => whnf
  refine .inl ⟨_, _, byX rfl (Sound1.pl (h1) rfl), ?_⟩
  conv => whnf
  refine ifB_dec (fun w1 => ?_) (fun w1 => ?_)
  · conv => whnf
    refine .inl ⟨_, _, byX rfl (Sound1.pl (h2) rfl), ?_⟩
    conv => whnf
    refine ⟨?_, nofun⟩
    rw [decide_eq_true w1, Bool.true_and]
    exact endb (decide_eq_decide.2 ⟨fun h => h.2, fun h' => ⟨h, h'⟩⟩)
  · conv => whnf
    refine ⟨?_, nofun⟩
    rw [decide_eq_false w1, Bool.false_and]
    rfl
theorem S135 (k x : Int) : SP 135 [i64 k, i64 x] (i64 (if 1 ≤ x ∧ x ≤ 20 then 0 else 2)) false := by
  have h := S118 x 1 20
  have h93 := S93 (win x 1 20) 2
  refine sound (d := 2) tok2 mixed2 Tryz.func135 (by kernel_rfl) (by kernel_rfl) ?_
  conv => whnf
  refine .inl ⟨_, _, byX rfl (Sound1.pl (h) rfl), ?_⟩
  conv => whnf
  refine .inl ⟨_, _, byX rfl (Sound1.pl (h93) rfl), ?_⟩
  conv => whnf
  refine ⟨?_, nofun⟩
  exact endi (by unfold win; simp)
/-- The error of shares. -/
def drE (l : List Int) : Int := (eachI (fun _ x => if 1 ≤ x ∧ x ≤ 20 then 0 else 2) l 0).2
def shaE (l : List Int) (load : Int) : Int := if l.length = 0 then 10 else if l.length > 6 then 8 else if drE l ≠ 0 then drE l else if -100000 ≤ load ∧ load ≤ 100000 then 0 else 2
theorem S72 (l : List Int) (load : Int) (hl : l.length ≤ 9223372036854775807) : SP 72 [ints l, i64 load] (i64 (shaE l load)) false := by
  have h68 := fun x => S68 x 1 20
  have h68b := S68 load (-100000) 100000
  unfold shaE
  by_cases h0 : l.length = 0
  · rw [if_pos h0]
    refine sound (d := 2) tok2 mixed2 Tryz.func72 (by kernel_rfl) (by kernel_rfl) ?_
    conv => whnf
    refine ifB_beq (fun w1 => ?_) (fun w1 => ?_)
    · conv => whnf
      refine ⟨?_, nofun⟩
      rfl
    · (exfalso; omega)
  · rw [if_neg h0]
    by_cases h6 : l.length > 6
    · rw [if_pos h6]
      refine sound (d := 2) tok2 mixed2 Tryz.func72 (by kernel_rfl) (by kernel_rfl) ?_
      conv => whnf
      refine ifB_beq (fun w1 => ?_) (fun w1 => ?_)
      · (exfalso; omega)
      · conv => whnf
        refine ifB_dec (fun w2 => ?_) (fun w2 => ?_)
        · conv => whnf
          refine ⟨?_, nofun⟩
          rfl
        · (exfalso; omega)
    · rw [if_neg h6]
      refine sound (d := 2) tok2 mixed2 Tryz.func72 (by kernel_rfl) (by kernel_rfl) ?_
      conv => whnf
      refine ifB_beq (fun w1 => ?_) (fun w1 => ?_)
      · (exfalso; omega)
      · conv => whnf
        refine ifB_dec (fun w2 => ?_) (fun w2 => ?_)
        · (exfalso; omega)
        · conv => whnf
          refine ⟨[], [0, 1, 5], fun st mq => ∃ (k : Nat), (k ≤ l.length) ∧ ((eachI (fun _ x => if 1 ≤ x ∧ x ≤ 20 then 0 else 2) (l.drop k) k).2 = drE l) ∧ st = ⟨[(0, ints l), (1, i64 load), (5, i64 k)], ⟨[], [], none, 0⟩, []⟩ ∧ mq = l.length - k,
            ⟨_, _, ⟨0, by omega, rfl, rfl, rfl⟩, ⟨⟨.inl rfl, rfl, rfl, rfl⟩, trivial, trivial⟩⟩, ?_⟩
          rintro s0 m0 ⟨k, hk, he, rfl, hmeas⟩
          by_cases hlt : k < l.length
          · have hd := eachI_drop (fun _ x => if 1 ≤ x ∧ x ≤ 20 then 0 else 2) l k hlt
            have h68k := h68 (l.getD (k : Int).toNat 0)
            by_cases hx : 1 ≤ l.getD k 0 ∧ l.getD k 0 ≤ 20
            · rw [if_pos (if_pos hx)] at hd
              rw [hd] at he
              have hx' : 1 ≤ l.getD (k : Int).toNat 0 ∧ l.getD (k : Int).toNat 0 ≤ 20 := hx
              conv => whnf
              conv => whnf
              refine ifB_dec (fun w3 => ?_) (fun w3 => ?_)
              · conv => whnf
                conv => whnf
                refine ⟨⟨(by omega), (by omega)⟩, ?_⟩
                conv => whnf
                conv => whnf
                refine .inl ⟨_, _, byX rfl (Sound1.pl (h68k) rfl), ?_⟩
                conv => whnf
                conv => whnf
                refine ifB_not ?_
                conv => whnf
                conv => whnf
                refine ifB_dec (fun w4 => ?_) (fun w4 => ?_)
                · conv => whnf
                  conv => whnf
                  refine ⟨inK64 (by omega) (by omega), ?_⟩
                  conv => whnf
                  conv => whnf
                  refine ⟨_, _, ⟨⟨k + 1, by omega, he, rfl, rfl⟩, by omega⟩, ⟨⟨.inl rfl, rfl, rfl, rfl⟩, trivial, trivial⟩⟩
                · (exfalso; omega)
              · (exfalso; omega)
            · have e2 : (if 1 ≤ l.getD k 0 ∧ l.getD k 0 ≤ 20 then (0 : Int) else 2) = 2 := if_neg hx
              rw [e2, if_neg (by decide)] at hd
              rw [hd] at he
              have he : drE l = 2 := he.symm
              rw [he, if_pos (by decide)]
              have hx' : ¬ (1 ≤ l.getD (k : Int).toNat 0 ∧ l.getD (k : Int).toNat 0 ≤ 20) := hx
              conv => whnf
              conv => whnf
              refine ifB_dec (fun w3 => ?_) (fun w3 => ?_)
              · conv => whnf
                conv => whnf
                refine ⟨⟨(by omega), (by omega)⟩, ?_⟩
                conv => whnf
                conv => whnf
                refine .inl ⟨_, _, byX rfl (Sound1.pl (h68k) rfl), ?_⟩
                conv => whnf
                conv => whnf
                refine ifB_not ?_
                conv => whnf
                conv => whnf
                refine ifB_dec (fun w4 => ?_) (fun w4 => ?_)
                · (exfalso; omega)
                · conv => whnf
                  conv => whnf
                  refine ⟨?_, nofun⟩
                  (first | contradiction | rfl)
              · (exfalso; omega)
          · have e : k = l.length := by omega
            subst e
            rw [List.drop_length] at he
            have he : drE l = 0 := he.symm
            rw [he, if_neg (by decide)]
            conv => whnf
            conv => whnf
            refine ifB_dec (fun w3 => ?_) (fun w3 => ?_)
            · (exfalso; omega)
            · conv => whnf
              conv => whnf
              refine .inl ⟨_, _, byX rfl (Sound1.pl (h68b) rfl), ?_⟩
              conv => whnf
              conv => whnf
              refine ifB_not ?_
              conv => whnf
              conv => whnf
              refine ifB_dec (fun w4 => ?_) (fun w4 => ?_)
              · conv => whnf
                conv => whnf
                refine ⟨?_, nofun⟩
                rw [if_pos w4]; rfl
              · conv => whnf
                conv => whnf
                refine ⟨?_, nofun⟩
                rw [if_neg w4]; rfl
theorem drOk_of : ∀ (l : List Int) (k : Nat), (eachI (fun _ x => if 1 ≤ x ∧ x ≤ 20 then 0 else 2) l k).2 = 0 → DrOk l
  | [], _, _, x, hx => by cases hx
  | y :: l, k, h, x, hx => by
    unfold eachI at h
    by_cases hy : 1 ≤ y ∧ y ≤ 20
    · rw [if_pos (if_pos hy)] at h
      rcases List.mem_cons.1 hx with e | hx
      · rw [e]; exact hy
      · exact drOk_of l (k + 1) h x hx
    · have e2 : (if 1 ≤ y ∧ y ≤ 20 then (0 : Int) else 2) = 2 := if_neg hy
      rw [e2, if_neg (show ¬ (2 : Int) = 0 by decide)] at h
      exact absurd h (by show ¬ (2 : Int) = 0; decide)
structure ShOk (l : List Int) (load : Int) : Prop where
  n : 1 ≤ l.length ∧ l.length ≤ 6
  dr : DrOk l
  ld : -100000 ≤ load ∧ load ≤ 100000
theorem ShOk.of {l : List Int} {load : Int} (h : shaE l load = 0) : ShOk l load := by
  unfold shaE at h
  by_cases h0 : l.length = 0
  · rw [if_pos h0] at h; exact absurd h (by decide)
  · rw [if_neg h0] at h
    by_cases h6 : l.length > 6
    · rw [if_pos h6] at h; exact absurd h (by decide)
    · rw [if_neg h6] at h
      by_cases hd : drE l = 0
      · rw [if_neg (not_not_intro hd)] at h
        by_cases hl : -100000 ≤ load ∧ load ≤ 100000
        · exact ⟨by omega, drOk_of l 0 hd, hl⟩
        · rw [if_neg hl] at h; exact absurd h (by decide)
      · rw [if_pos hd] at h; exact absurd h hd
theorem share_snoc (c load S : Int) (l : List Int) (x : Int) : (l ++ [x]).map (fun n => fracG (load * c.tdiv n) S) = l.map (fun n => fracG (load * c.tdiv n) S) ++ [fracG (load * c.tdiv x) S] := by simp
theorem pw20 {i : Nat} (h : i ≤ 6) : (20 : Int) ^ i ≤ 64000000 := by
  have : i = 0 ∨ i = 1 ∨ i = 2 ∨ i = 3 ∨ i = 4 ∨ i = 5 ∨ i = 6 := by omega
  rcases this with rfl | rfl | rfl | rfl | rfl | rfl | rfl <;> decide
theorem mul6 {i : Nat} {c : Int} (h : i ≤ 6) (hc : 0 < c ∧ c ≤ 64000000) : (i : Int) * c ≤ 384000000 := by
  have h1 := Int.mul_le_mul_of_nonneg_right (show (i : Int) ≤ 6 by omega) (Int.le_of_lt hc.1)
  omega
theorem sum_pos {c : Int} (hc : 0 < c) {l : List Int} (hd : DrOk l) (hv : ∀ n ∈ l, n ∣ c) (hn : 1 ≤ l.length) : 0 < sumD c l := by
  obtain ⟨x, r, rfl⟩ : ∃ x r, l = r ++ [x] := by
    have hne : l ≠ [] := by intro e; rw [e] at hn; simp at hn
    exact ⟨l.getLast hne, l.dropLast, (List.dropLast_concat_getLast hne).symm⟩
  rw [sumD_snoc]
  have h1 := (sum_b hc (l := r ++ [x]) hd r.length (by simp)).1
  rw [List.take_left] at h1
  obtain ⟨e, he⟩ := hv x (by simp)
  have hx := hd x (by simp)
  have : 0 < e := by rw [he] at hc; exact (gpos (by omega)).1 hc
  rw [he, Int.mul_tdiv_cancel_left _ (by omega)]
  rw [he] at h1
  omega
/-- One share of the load. -/
theorem share_b {c load : Int} (hc : 0 < c ∧ c ≤ 64000000) (hl : -100000 ≤ load ∧ load ≤ 100000) {x : Int} (hx : 1 ≤ x ∧ x ≤ 20) : (0 ≤ c.tdiv x ∧ c.tdiv x ≤ 64000000) ∧ (load * c.tdiv x).natAbs ≤ 6400000000000 := by
  have h1 : 0 ≤ c.tdiv x := Int.tdiv_nonneg (by omega) (by omega)
  have h2 : c.tdiv x ≤ c := Int.tdiv_le_self _ (by omega)
  have h3 := mul_sml (show load.natAbs ≤ 100000 by omega) (show (c.tdiv x).natAbs ≤ 64000000 by omega)
  exact ⟨⟨h1, by omega⟩, h3⟩
theorem app_rg (O : List Rg) (v : Rg) (k i : Nat) (hO : O.length = k) (hi : i < k + 1) : [i64 ((O ++ [v]).getD i (0, 0)).1, i64 ((O ++ [v]).getD i (0, 0)).2] = if i < k then [i64 (O.getD (0 + i) (0, 0)).1, i64 (O.getD (0 + i) (0, 0)).2] else List.take 2 (List.drop ((i - k) * 2) [i64 v.1, i64 v.2]) := by
  subst hO
  rw [Nat.zero_add]
  by_cases h : i < O.length
  · rw [if_pos h]; simp [List.getD_eq_getElem?_getD, List.getElem?_append_left h]
  · rw [if_neg h, show i = O.length by omega]; simp [List.getD_eq_getElem?_getD]
theorem frac_den {a b : Int} (hb : 0 < b) : 1 ≤ (fracG a b).2 := by
  obtain ⟨g1, _, _, ⟨e, he⟩⟩ := gcdI_pos (a := a) hb
  show 1 ≤ b.tdiv (gcdI a b)
  generalize gcdI a b = g at g1 he
  rw [he, Int.mul_tdiv_cancel_left _ (by omega)]
  rw [he] at hb
  have := (gpos g1).1 hb
  omega
/-- All shares, or the error. -/
def shaF (l : List Int) (load : Int) : List Rg := shareL (comL l) load l
theorem S69 (l : List Int) (load : Int) (hl : l.length ≤ 1000000) : SP 69 [ints l, i64 load] (.tuple [rgs (if shaE l load = 0 ∧ (shaF l load).all smB = true then shaF l load else []), i64 (if shaE l load ≠ 0 then shaE l load else if (shaF l load).all smB = true then 0 else 8)]) false := by
  have h94 := S94 135 (fun _ x => if 1 ≤ x ∧ x ≤ 20 then 0 else 2) l (by omega) (fun k hk => S135 k _)
  have h114 := S114 load 100000 (by decide)
  have h93a := S93 (decide ((l.length : Int) > 0)) 10
  have h93b := S93 (decide ((l.length : Int) ≤ 6)) 8
  have h93c := S93 (win load (-100000) 100000) 2
  by_cases h06 : l.length = 0 ∨ l.length > 6
  · have hE : shaE l load = if l.length = 0 then 10 else 8 := by
      unfold shaE
      by_cases h0 : l.length = 0
      · rw [if_pos h0, if_pos h0]
      · rw [if_neg h0, if_neg h0, if_pos (by omega)]
    have hne : shaE l load ≠ 0 := by rw [hE]; split <;> decide
    rw [if_neg (fun h => hne h.1), if_pos hne, hE]
    have h90 : ∀ f : Nat → List AV, (f 0 = [i64 (if decide ((l.length : Int) > 0) = true then 0 else 10)] ∧ f 1 = [i64 (if decide ((l.length : Int) ≤ 6) = true then 0 else 8)]) → SP 90 [.rslice 1 2 f] (i64 (if l.length = 0 then 10 else 8)) false := fun f h => by
      have h := S90_2 _ _ h
      have e : firstOf [if decide ((l.length : Int) > 0) = true then 0 else 10, if decide ((l.length : Int) ≤ 6) = true then (0 : Int) else 8] = if l.length = 0 then 10 else 8 := by
        rw [first2]
        simp only [decide_eq_true_eq]
        (repeat' split) <;> omega
      rwa [e] at h
    have h90' : ∀ (b : Int) (f : Nat → List AV), (f 0 = [i64 (if l.length = 0 then 10 else 8)] ∧ f 1 = [i64 b]) → SP 90 [.rslice 1 2 f] (i64 (if l.length = 0 then 10 else 8)) false := fun b f h => by
      have h := S90_2 _ b h
      have e : firstOf [if l.length = 0 then (10 : Int) else 8, b] = if l.length = 0 then 10 else 8 := by
        rw [first2, if_pos (by split <;> decide)]
      rwa [e] at h
    have h8 : (if l.length = 0 then (10 : Int) else 8) ≠ 0 := by split <;> decide
    generalize (if l.length = 0 then (10 : Int) else 8) = E at h90 h90' h8 ⊢
    refine sound (d := 2) tok2 mixed2 Tryz.func69 (by kernel_rfl) (by kernel_rfl) ?_
    conv => whnf
    refine .inl ⟨_, _, byX rfl (Sound1.pl (h93a) rfl), ?_⟩
    conv => whnf
    refine .inl ⟨_, _, byX rfl (Sound1.pl (h93b) rfl), ?_⟩
    conv => whnf
    refine .inl ⟨_, _, byX rfl (Sound1.pl (h90 _ ⟨rfl, rfl⟩) rfl), ?_⟩
    conv => whnf
    refine ifB_beq (fun w1 => ?_) (fun w1 => ?_)
    · (exfalso; omega)
    · conv => whnf
      refine .inl ⟨_, _, byX rfl (Sound1.pl (h114) rfl), ?_⟩
      conv => whnf
      refine .inl ⟨_, _, byX rfl (Sound1.pl (h93c) rfl), ?_⟩
      conv => whnf
      refine .inl ⟨_, _, byX rfl (Sound1.pl (h90' _ _ ⟨rfl, rfl⟩) rfl), ?_⟩
      conv => whnf
      refine ifB_bne (fun w2 => ?_) (fun w2 => ?_)
      · conv => whnf
        refine ⟨?_, nofun⟩
        exact ave_tup2 rfl rfl
      · (exfalso; omega)
  · have hE : shaE l load = if drE l ≠ 0 then drE l else if -100000 ≤ load ∧ load ≤ 100000 then 0 else 2 := by
      unfold shaE
      rw [if_neg (by omega), if_neg (by omega)]
    have h93a' : SP 93 [vb (decide ((l.length : Int) > 0)), i64 10] (i64 0) false := by rwa [if_pos (by simp only [decide_eq_true_eq]; omega)] at h93a
    have h93b' : SP 93 [vb (decide ((l.length : Int) ≤ 6)), i64 8] (i64 0) false := by rwa [if_pos (by simp only [decide_eq_true_eq]; omega)] at h93b
    have h90 : ∀ f : Nat → List AV, (f 0 = [i64 0] ∧ f 1 = [i64 0]) → SP 90 [.rslice 1 2 f] (i64 0) false := fun f h => by
      have h := S90_2 0 0 h
      rwa [first2, if_neg (by simp)] at h
    have h90' : ∀ f : Nat → List AV, (f 0 = [i64 (drE l)] ∧ f 1 = [i64 (if win load (-100000) 100000 = true then 0 else 2)]) → SP 90 [.rslice 1 2 f] (i64 (shaE l load)) false := fun f h => by
      have h := S90_2 _ _ h
      have e : firstOf [drE l, if win load (-100000) 100000 = true then (0 : Int) else 2] = shaE l load := by
        rw [first2, hE]
        unfold win
        simp only [decide_eq_true_eq]
      rwa [e] at h
    change SP 94 _ (.tuple [i64 (eachI (fun _ x => if 1 ≤ x ∧ x ≤ 20 then 0 else 2) l 0).1, i64 (drE l)]) false at h94
    by_cases hz : shaE l load = 0
    · have hsh := ShOk.of hz
      have hn := hsh.n
      have hd := hsh.dr
      have hco := com_ok hd
      rw [hz] at h90'
      rw [if_neg (not_not_intro hz)]
      have hif : (if shaE l load = 0 ∧ (shaF l load).all smB = true then shaF l load else []) = if (shaF l load).all smB = true then shaF l load else [] := by
        by_cases ha : (shaF l load).all smB = true
        · rw [if_pos ⟨hz, ha⟩, if_pos ha]
        · rw [if_neg (fun h => ha h.2), if_neg ha]
      rw [hif]
      refine sound (d := 2) tok2 mixed2 Tryz.func69 (by kernel_rfl) (by kernel_rfl) ?_
      conv => whnf
      refine .inl ⟨_, _, byX rfl (Sound1.pl (h93a') rfl), ?_⟩
      conv => whnf
      refine .inl ⟨_, _, byX rfl (Sound1.pl (h93b') rfl), ?_⟩
      conv => whnf
      refine .inl ⟨_, _, byX rfl (Sound1.pl (h90 _ ⟨rfl, rfl⟩) rfl), ?_⟩
      conv => whnf
      refine .inl ⟨_, _, byX rfl (Sound1.pl (h94) rfl), ?_⟩
      conv => whnf
      refine .inl ⟨_, _, byX rfl (Sound1.pl (h114) rfl), ?_⟩
      conv => whnf
      refine .inl ⟨_, _, byX rfl (Sound1.pl (h93c) rfl), ?_⟩
      conv => whnf
      refine .inl ⟨_, _, byX rfl (Sound1.pl (h90' _ ⟨rfl, rfl⟩) rfl), ?_⟩
      conv => whnf
      refine ⟨[], [0, 1, 7, 45, 46, 47], fun st mq => ∃ (i : Nat) (c : Int) (F0 : Nat → List AV) (F1 : Nat → List AV), (i ≤ l.length) ∧ (c = comL (l.take i)) ∧ st = ⟨[(0, ints l), (1, i64 load), (7, i64 c), (45, ints l), (46, i64 l.length), (47, i64 i)], ⟨[⟨1, 2, F0, 0, false, true, false⟩, ⟨1, 2, F1, 0, false, true, false⟩], [], none, 0⟩, []⟩ ∧ mq = l.length - i,
        ⟨_, _, ⟨0, 1, _, _, by omega, rfl, rfl, rfl⟩, ⟨⟨.inl rfl, rfl, rfl, rfl⟩, ⟨⟨rfl, rfl, rfl, rfl, fun _ => rfl, fun _ _ => .inl rfl⟩, ⟨⟨rfl, rfl, rfl, rfl, fun _ => rfl, fun _ _ => .inl rfl⟩, trivial⟩⟩, trivial⟩⟩, ?_⟩
      rintro s0 m0 ⟨i, c, F0, F1, hi, hc, rfl, hmeas⟩
      have hdi : DrOk (l.take i) := fun x hx => hd x (List.mem_of_mem_take hx)
      have hci := com_ok hdi
      have hcp := hci.pos
      have hcl := hci.le
      rw [List.length_take, Nat.min_eq_left hi] at hcl
      rw [← hc] at hcp hcl
      have hp20 := pw20 (i := i) (by omega)
      by_cases hlt : i < l.length
      · have hx := hd _ (getD_memI hlt)
        have hx' : 1 ≤ l.getD (i : Int).toNat 0 ∧ l.getD (i : Int).toNat 0 ≤ 20 := hx
        have h136 := S136 c (l.getD (i : Int).toNat 0) (by omega) (by omega)
        have hg := gcdI_pos (a := c) (b := l.getD (i : Int).toNat 0) (by omega)
        have hq1 : 0 ≤ c.tdiv (gcdI c (l.getD (i : Int).toNat 0)) := Int.tdiv_nonneg (by omega) (by omega)
        have hq2 : c.tdiv (gcdI c (l.getD (i : Int).toNat 0)) ≤ c := Int.tdiv_le_self _ (by omega)
        have hq3 := mul_sml (show (c.tdiv (gcdI c (l.getD (i : Int).toNat 0))).natAbs ≤ 64000000 by omega) (show (l.getD (i : Int).toNat 0).natAbs ≤ 20 by omega)
        conv => whnf
        conv => whnf
        refine ifB_dec (fun w1 => ?_) (fun w1 => ?_)
        · conv => whnf
          conv => whnf
          refine ⟨⟨(by omega), (by omega)⟩, ?_⟩
          conv => whnf
          conv => whnf
          refine .inl ⟨_, _, byX rfl (Sound1.pl (h136) rfl), ?_⟩
          conv => whnf
          conv => whnf
          refine ⟨⟨(by omega), inK64 (by omega) (by omega)⟩, ?_⟩
          conv => whnf
          conv => whnf
          refine ⟨inK64 (by omega) (by omega), ?_⟩
          conv => whnf
          conv => whnf
          refine ⟨inK64 (by omega) (by omega), ?_⟩
          conv => whnf
          conv => whnf
          refine ⟨_, _, ⟨⟨i + 1, c.tdiv (gcdI c (l.getD i 0)) * l.getD i 0, _, _, by omega, (by rw [take_snocI hlt, comL_snoc, hc]), rfl, rfl⟩, by omega⟩, ⟨⟨.inl rfl, rfl, rfl, rfl⟩, ⟨⟨rfl, rfl, rfl, rfl, fun _ => rfl, fun _ _ => .inl rfl⟩, ⟨⟨rfl, rfl, rfl, rfl, fun _ => rfl, fun _ _ => .inl rfl⟩, trivial⟩⟩, trivial⟩⟩
        · (exfalso; omega)
      · have e : i = l.length := by omega
        subst e
        rw [List.take_length] at hc
        unfold shaF
        have hdv := hco.dv
        rw [← hc] at hdv ⊢
        have hSp := sum_pos hcp hd hdv hn.1
        conv => whnf
        conv => whnf
        refine ifB_dec (fun w1 => ?_) (fun w1 => ?_)
        · (exfalso; omega)
        · conv => whnf
          conv => whnf
          refine ⟨[], [0, 1, 7, 10, 59, 60, 61], fun st mq => ∃ (i : Nat) (t : Int) (F0 : Nat → List AV) (F1 : Nat → List AV), (i ≤ l.length) ∧ (t = sumD c (l.take i)) ∧ st = ⟨[(0, ints l), (1, i64 load), (7, i64 c), (10, i64 t), (59, ints l), (60, i64 l.length), (61, i64 i)], ⟨[⟨1, 2, F0, 0, false, true, false⟩, ⟨1, 2, F1, 0, false, true, false⟩], [], none, 0⟩, []⟩ ∧ mq = l.length - i,
            ⟨_, _, ⟨0, 0, _, _, by omega, rfl, rfl, rfl⟩, ⟨⟨.inl rfl, rfl, rfl, rfl⟩, ⟨⟨rfl, rfl, rfl, rfl, fun _ => rfl, fun _ _ => .inl rfl⟩, ⟨⟨rfl, rfl, rfl, rfl, fun _ => rfl, fun _ _ => .inl rfl⟩, trivial⟩⟩, trivial⟩⟩, ?_⟩
          rintro s0 m0 ⟨i, t, F0, F1, hi, hs, rfl, hmeas⟩
          have hsb := sum_b hcp hd i hi
          have hm6 := mul6 (i := i) (c := c) (by omega) (by omega)
          rw [← hs] at hsb
          by_cases hlt : i < l.length
          · have hx := hd _ (getD_memI hlt)
            have hx' : 1 ≤ l.getD (i : Int).toNat 0 ∧ l.getD (i : Int).toNat 0 ≤ 20 := hx
            have hb := (share_b (c := c) (load := 0) (by omega) (by omega) hx').1
            conv => whnf
            conv => whnf
            conv => whnf
            refine ifB_dec (fun w2 => ?_) (fun w2 => ?_)
            · conv => whnf
              conv => whnf
              conv => whnf
              refine ⟨⟨(by omega), (by omega)⟩, ?_⟩
              conv => whnf
              conv => whnf
              conv => whnf
              refine ⟨⟨(by omega), inK64 (by omega) (by omega)⟩, ?_⟩
              conv => whnf
              conv => whnf
              conv => whnf
              refine ⟨inK64 (by omega) (by omega), ?_⟩
              conv => whnf
              conv => whnf
              conv => whnf
              refine ⟨inK64 (by omega) (by omega), ?_⟩
              conv => whnf
              conv => whnf
              conv => whnf
              refine ⟨_, _, ⟨⟨i + 1, t + c.tdiv (l.getD i 0), _, _, by omega, (by rw [take_snocI hlt, sumD_snoc, hs]), rfl, rfl⟩, by omega⟩, ⟨⟨.inl rfl, rfl, rfl, rfl⟩, ⟨⟨rfl, rfl, rfl, rfl, fun _ => rfl, fun _ _ => .inl rfl⟩, ⟨⟨rfl, rfl, rfl, rfl, fun _ => rfl, fun _ _ => .inl rfl⟩, trivial⟩⟩, trivial⟩⟩
            · (exfalso; omega)
          · have e : i = l.length := by omega
            subst e
            rw [List.take_length] at hs
            subst hs
            unfold shareL
            generalize sumD c l = S at hSp hsb ⊢
            conv => whnf
            conv => whnf
            conv => whnf
            refine ifB_dec (fun w2 => ?_) (fun w2 => ?_)
            · (exfalso; omega)
            · conv => whnf
              conv => whnf
              conv => whnf
              refine ⟨[.slot 13 2], [0, 1, 7, 10, 13, 71, 72, 73], fun st mq => ∃ (i : Nat) (O : List Rg) (F0 : Nat → List AV) (F1 : Nat → List AV), (i ≤ l.length) ∧ (O = (l.take i).map fun n => fracG (load * c.tdiv n) S) ∧ (O.all smB = true) ∧ st = ⟨[(0, ints l), (1, i64 load), (7, i64 c), (10, i64 S), (13, .oslice 2 0 0 i none), (71, ints l), (72, i64 l.length), (73, i64 i)], ⟨[⟨1, 2, F0, 0, false, true, false⟩, ⟨1, 2, F1, 0, false, true, false⟩, ⟨2, i, fun j => [i64 (O.getD j (0, 0)).1, i64 (O.getD j (0, 0)).2], 0, false, true, false⟩], [], none, 0⟩, []⟩ ∧ mq = l.length - i,
                ⟨_, _, ⟨0, [], _, _, by omega, rfl, rfl, rfl, rfl⟩, ⟨⟨.inl rfl, rfl, rfl, rfl⟩, ⟨⟨rfl, rfl, rfl, rfl, fun _ => rfl, fun _ _ => .inl rfl⟩, ⟨⟨rfl, rfl, rfl, rfl, fun _ => rfl, fun _ _ => .inl rfl⟩, ⟨⟨rfl, rfl, rfl, rfl, fun _ => rfl, fun i h => .inl (absurd h (Nat.not_lt_zero i))⟩, trivial⟩⟩⟩, trivial⟩⟩, ?_⟩
              rintro s0 m0 ⟨i, O, F0, F1, hi, hO, hz, rfl, hmeas⟩
              by_cases hlt : i < l.length
              · have hx := hd _ (getD_memI hlt)
                have hx' : 1 ≤ l.getD (i : Int).toNat 0 ∧ l.getD (i : Int).toNat 0 ≤ 20 := hx
                have hb := share_b (c := c) (load := load) (by omega) hsh.ld hx'
                have h136 := S136 (load * c.tdiv (l.getD (i : Int).toNat 0)) S (by omega) (by omega)
                have hg := gcdI_pos (a := load * c.tdiv (l.getD (i : Int).toNat 0)) hSp
                have hden := frac_den (a := load * c.tdiv (l.getD (i : Int).toNat 0)) hSp
                have hOl : O.length = i := by rw [hO]; simp; omega
                have hdef : fracG (load * c.tdiv (l.getD (i : Int).toNat 0)) S = ((load * c.tdiv (l.getD (i : Int).toNat 0)).tdiv (gcdI (load * c.tdiv (l.getD (i : Int).toNat 0)) S), S.tdiv (gcdI (load * c.tdiv (l.getD (i : Int).toNat 0)) S)) := rfl
                have hn1 : ((load * c.tdiv (l.getD (i : Int).toNat 0)).tdiv (gcdI (load * c.tdiv (l.getD (i : Int).toNat 0)) S)).natAbs ≤ (load * c.tdiv (l.getD (i : Int).toNat 0)).natAbs := Int.natAbs_tdiv_le_natAbs _ _
                have hn2 : (S.tdiv (gcdI (load * c.tdiv (l.getD (i : Int).toNat 0)) S)).natAbs ≤ S.natAbs := Int.natAbs_tdiv_le_natAbs _ _
                generalize hG : gcdI (load * c.tdiv (l.getD (i : Int).toNat 0)) S = g at h136 hg hdef hn1 hn2
                have h114b := S114 ((load * c.tdiv (l.getD (i : Int).toNat 0)).tdiv g) 1000000000 (by decide)
                have hbad : smB ((load * c.tdiv (l.getD (i : Int).toNat 0)).tdiv g, S.tdiv g) = false → (l.map fun n => fracG (load * c.tdiv n) S).all smB = false := fun hf => by
                  rw [List.all_eq_false]
                  exact ⟨_, List.mem_map.2 ⟨_, getD_memI hlt, rfl⟩, by rw [show fracG (load * c.tdiv (l.getD i 0)) S = _ from hdef, hf]; simp⟩
                by_cases hA : -1000000000 ≤ (load * c.tdiv (l.getD (i : Int).toNat 0)).tdiv g ∧ (load * c.tdiv (l.getD (i : Int).toNat 0)).tdiv g ≤ 1000000000
                · by_cases hB : S.tdiv g ≤ 1000000000
                  · have hsm : smB ((load * c.tdiv (l.getD (i : Int).toNat 0)).tdiv g, S.tdiv g) = true := by
                      unfold smB
                      rw [decide_eq_true hA, decide_eq_true hB]; rfl
                    conv => whnf
                    conv => whnf
                    conv => whnf
                    conv => whnf
                    refine ifB_dec (fun w3 => ?_) (fun w3 => ?_)
                    · conv => whnf
                      conv => whnf
                      conv => whnf
                      conv => whnf
                      refine ⟨⟨(by omega), (by omega)⟩, ?_⟩
                      conv => whnf
                      conv => whnf
                      conv => whnf
                      conv => whnf
                      refine ⟨⟨(by omega), inK64 (by omega) (by omega)⟩, ?_⟩
                      conv => whnf
                      conv => whnf
                      conv => whnf
                      conv => whnf
                      refine ⟨inK64 (by omega) (by omega), ?_⟩
                      conv => whnf
                      conv => whnf
                      conv => whnf
                      conv => whnf
                      refine .inl ⟨_, _, byX rfl (Sound1.pl (h136) rfl), ?_⟩
                      conv => whnf
                      conv => whnf
                      conv => whnf
                      conv => whnf
                      refine ⟨[], by kernel_rfl, ?_⟩
                      conv => whnf
                      conv => whnf
                      conv => whnf
                      conv => whnf
                      refine ⟨⟨(by omega), inK64 (by omega) (by omega)⟩, ?_⟩
                      conv => whnf
                      conv => whnf
                      conv => whnf
                      conv => whnf
                      refine ⟨⟨(by omega), inK64 (by omega) (by omega)⟩, ?_⟩
                      conv => whnf
                      conv => whnf
                      conv => whnf
                      conv => whnf
                      refine .inl ⟨_, _, byX rfl (Sound1.pl (h114b) rfl), ?_⟩
                      conv => whnf
                      conv => whnf
                      conv => whnf
                      conv => whnf
                      refine ifB_not ?_
                      conv => whnf
                      conv => whnf
                      conv => whnf
                      conv => whnf
                      refine ifB_dec (fun w4 => ?_) (fun w4 => ?_)
                      · conv => whnf
                        conv => whnf
                        conv => whnf
                        conv => whnf
                        refine ifB_dec (fun w5 => ?_) (fun w5 => ?_)
                        · (exfalso; omega)
                        · conv => whnf
                          conv => whnf
                          conv => whnf
                          conv => whnf
                          refine .inl ?_
                          conv => whnf
                          conv => whnf
                          conv => whnf
                          conv => whnf
                          refine ⟨(by show _ * (16 + 1) ≤ _; omega), ?_⟩
                          conv => whnf
                          conv => whnf
                          conv => whnf
                          conv => whnf
                          refine ⟨inK64 (by omega) (by omega), ?_⟩
                          conv => whnf
                          conv => whnf
                          conv => whnf
                          conv => whnf
                          refine ⟨_, _, ⟨⟨i + 1, O ++ [((load * c.tdiv (l.getD (i : Int).toNat 0)).tdiv g, S.tdiv g)], _, _, by omega, (by rw [take_snocI hlt, share_snoc, hO, show fracG (load * c.tdiv (l.getD i 0)) S = _ from hdef]), (by rw [List.all_append, hz]; simpa using hsm), rfl, rfl⟩, by omega⟩, ⟨⟨.inl rfl, rfl, rfl, rfl⟩, ⟨⟨rfl, rfl, rfl, rfl, fun _ => rfl, fun _ _ => .inl rfl⟩, ⟨⟨rfl, rfl, rfl, rfl, fun _ => rfl, fun _ _ => .inl rfl⟩, ⟨⟨rfl, rfl, rfl, rfl, fun _ => rfl, fun j hj => .inl (app_rg O _ i j hOl hj)⟩, trivial⟩⟩⟩, trivial⟩⟩
                      · (exfalso; omega)
                    · (exfalso; omega)
                  · have hsm : smB ((load * c.tdiv (l.getD (i : Int).toNat 0)).tdiv g, S.tdiv g) = false := by
                      unfold smB
                      rw [decide_eq_false hB, Bool.and_false]
                    rw [hbad hsm]
                    conv => whnf
                    conv => whnf
                    conv => whnf
                    conv => whnf
                    refine ifB_dec (fun w3 => ?_) (fun w3 => ?_)
                    · (exfalso; omega)
                    · (exfalso; omega)
                · have hsm : smB ((load * c.tdiv (l.getD (i : Int).toNat 0)).tdiv g, S.tdiv g) = false := by
                    unfold smB
                    rw [decide_eq_false hA, Bool.false_and]
                  rw [hbad hsm]
                  conv => whnf
                  conv => whnf
                  conv => whnf
                  conv => whnf
                  refine ifB_dec (fun w3 => ?_) (fun w3 => ?_)
                  · conv => whnf
                    conv => whnf
                    conv => whnf
                    conv => whnf
                    refine ⟨⟨(by omega), (by omega)⟩, ?_⟩
                    conv => whnf
                    conv => whnf
                    conv => whnf
                    conv => whnf
                    refine ⟨⟨(by omega), inK64 (by omega) (by omega)⟩, ?_⟩
                    conv => whnf
                    conv => whnf
                    conv => whnf
                    conv => whnf
                    refine ⟨inK64 (by omega) (by omega), ?_⟩
                    conv => whnf
                    conv => whnf
                    conv => whnf
                    conv => whnf
                    refine .inl ⟨_, _, byX rfl (Sound1.pl (h136) rfl), ?_⟩
                    conv => whnf
                    conv => whnf
                    conv => whnf
                    conv => whnf
                    refine ⟨[], by kernel_rfl, ?_⟩
                    conv => whnf
                    conv => whnf
                    conv => whnf
                    conv => whnf
                    refine ⟨⟨(by omega), inK64 (by omega) (by omega)⟩, ?_⟩
                    conv => whnf
                    conv => whnf
                    conv => whnf
                    conv => whnf
                    refine ⟨⟨(by omega), inK64 (by omega) (by omega)⟩, ?_⟩
                    conv => whnf
                    conv => whnf
                    conv => whnf
                    conv => whnf
                    refine .inl ⟨_, _, byX rfl (Sound1.pl (h114b) rfl), ?_⟩
                    conv => whnf
                    conv => whnf
                    conv => whnf
                    conv => whnf
                    refine ifB_not ?_
                    conv => whnf
                    conv => whnf
                    conv => whnf
                    conv => whnf
                    refine ifB_dec (fun w4 => ?_) (fun w4 => ?_)
                    · (exfalso; omega)
                    · conv => whnf
                      conv => whnf
                      conv => whnf
                      conv => whnf
                      refine ⟨?_, nofun⟩
                      (first | contradiction | exact ave_tup2 rfl rfl)
                  · (exfalso; omega)
              · have e : i = l.length := by omega
                subst e
                rw [List.take_length] at hO
                rw [← hO, hz, if_pos rfl]
                have hOl : O.length = l.length := by rw [hO]; simp
                conv => whnf
                conv => whnf
                conv => whnf
                conv => whnf
                refine ifB_dec (fun w3 => ?_) (fun w3 => ?_)
                · (exfalso; omega)
                · conv => whnf
                  conv => whnf
                  conv => whnf
                  conv => whnf
                  refine ⟨?_, nofun⟩
                  exact ave_tup2 ⟨rfl, hOl.symm, fun i hi => rfl⟩ rfl
    · rw [if_neg (fun h => hz h.1), if_pos hz]
      refine sound (d := 2) tok2 mixed2 Tryz.func69 (by kernel_rfl) (by kernel_rfl) ?_
      conv => whnf
      refine .inl ⟨_, _, byX rfl (Sound1.pl (h93a') rfl), ?_⟩
      conv => whnf
      refine .inl ⟨_, _, byX rfl (Sound1.pl (h93b') rfl), ?_⟩
      conv => whnf
      refine .inl ⟨_, _, byX rfl (Sound1.pl (h90 _ ⟨rfl, rfl⟩) rfl), ?_⟩
      conv => whnf
      refine .inl ⟨_, _, byX rfl (Sound1.pl (h94) rfl), ?_⟩
      conv => whnf
      refine .inl ⟨_, _, byX rfl (Sound1.pl (h114) rfl), ?_⟩
      conv => whnf
      refine .inl ⟨_, _, byX rfl (Sound1.pl (h93c) rfl), ?_⟩
      conv => whnf
      refine .inl ⟨_, _, byX rfl (Sound1.pl (h90' _ ⟨rfl, rfl⟩) rfl), ?_⟩
      conv => whnf
      refine ifB_bne (fun w1 => ?_) (fun w1 => ?_)
      · conv => whnf
        refine ⟨?_, nofun⟩
        exact ave_tup2 rfl rfl
      · (exfalso; omega)
end Go.Tr

/- Plain laws: sorting by insertion, votes. Conditions: none. -/
namespace Go.Tr
open Go Go.Proofs
set_option maxRecDepth 20000
set_option maxHeartbeats 8000000

/-- In order, as far as a place. -/
def SortTo (a : List Int) (n : Nat) : Prop := ∀ p q, p < q → q < n → a.getD p 0 ≤ a.getD q 0
/-- In order but for one that sinks. -/
structure Sink (a : List Int) (j n : Nat) : Prop where
  lo : ∀ p q, p < q → q < j → a.getD p 0 ≤ a.getD q 0
  hi : ∀ p q, j ≤ p → p < q → q < n → a.getD p 0 ≤ a.getD q 0
  cr : ∀ p q, p < j → j < q → q < n → a.getD p 0 ≤ a.getD q 0
def swapL (a : List Int) (j : Nat) : List Int := (a.set j (a.getD (j - 1) 0)).set (j - 1) (a.getD j 0)
theorem swapL_perm {a : List Int} {j : Nat} (h : j < a.length) : (swapL a j).Perm a := by
  have h1 : j - 1 < a.length := by omega
  have e1 : a.getD (j - 1) 0 = a[j - 1] := by simp [List.getD_eq_getElem?_getD, h1]
  have e2 : a.getD j 0 = a[j] := by simp [List.getD_eq_getElem?_getD, h]
  unfold swapL
  rw [e1, e2]
  exact List.set_set_perm h h1
theorem swapL_get {a : List Int} {j : Nat} (h0 : 0 < j) (h : j < a.length) (i : Nat) : (swapL a j).getD i 0 = if i = j - 1 then a.getD j 0 else if i = j then a.getD (j - 1) 0 else a.getD i 0 := by
  unfold swapL
  rw [getD_setI, getD_setI]
  by_cases h1 : i = j - 1
  · rw [if_pos ⟨h1, by rw [List.length_set]; omega⟩, if_pos h1]
  · rw [if_neg (fun e => h1 e.1), if_neg h1]
    by_cases h2 : i = j
    · rw [if_pos ⟨h2, h⟩, if_pos h2]
    · rw [if_neg (fun e => h2 e.1), if_neg h2]
theorem sink_swap {a : List Int} {j n : Nat} (h0 : 0 < j) (h : j < a.length) (hs : Sink a j n) (hlt : a.getD j 0 < a.getD (j - 1) 0) : Sink (swapL a j) (j - 1) n := by
  have g := swapL_get h0 h
  refine ⟨fun p q h1 h2 => ?_, fun p q h1 h2 h3 => ?_, fun p q h1 h2 h3 => ?_⟩
  · rw [g, g, if_neg (by omega), if_neg (by omega), if_neg (by omega), if_neg (by omega)]
    exact hs.lo p q h1 (by omega)
  · rw [g, g]
    by_cases e1 : p = j - 1
    · rw [if_pos e1, if_neg (show ¬ q = j - 1 by omega)]
      by_cases e2 : q = j
      · rw [if_pos e2]; omega
      · rw [if_neg e2]
        exact hs.hi j q (Nat.le_refl _) (by omega) h3
    · rw [if_neg e1, if_neg (show ¬ q = j - 1 by omega)]
      by_cases e2 : p = j
      · rw [if_pos e2, if_neg (by omega)]
        exact hs.cr (j - 1) q (by omega) (by omega) h3
      · rw [if_neg e2, if_neg (by omega)]
        exact hs.hi p q (by omega) h2 h3
  · rw [g, g, if_neg (show ¬ p = j - 1 by omega), if_neg (show ¬ p = j by omega), if_neg (show ¬ q = j - 1 by omega)]
    by_cases e2 : q = j
    · rw [if_pos e2]; exact hs.lo p (j - 1) (by omega) (by omega)
    · rw [if_neg e2]; exact hs.cr p q (by omega) (by omega) h3
theorem sink_end {a : List Int} {j n : Nat} (hs : Sink a j n) (h : j = 0 ∨ a.getD (j - 1) 0 ≤ a.getD j 0) : SortTo a n := fun p q h1 h2 => by
  by_cases e1 : q < j
  · exact hs.lo p q h1 e1
  · by_cases e2 : j ≤ p
    · exact hs.hi p q e2 h1 h2
    · by_cases e3 : q = j
      · subst e3
        rcases h with h | h
        · omega
        · by_cases e4 : p = q - 1
          · rw [e4]; exact h
          · exact Int.le_trans (hs.lo p (q - 1) (by omega) (by omega)) h
      · exact hs.cr p q (by omega) (by omega) h2
theorem sink_start {a : List Int} {i : Nat} (h : SortTo a i) : Sink a i (i + 1) :=
  ⟨h, fun p q h1 h2 h3 => by omega, fun p q h1 h2 h3 => by omega⟩

theorem perm2 {x y u v : Int} (h : [x, y].Perm [u, v]) : (x = u ∧ y = v) ∨ (x = v ∧ y = u) := by
  have hx : x ∈ [u, v] := h.subset (by simp)
  rcases List.mem_cons.1 hx with e | hx
  · subst e
    have := (List.perm_cons x).1 h
    have := List.perm_singleton.1 this
    simp at this
    exact .inl ⟨rfl, this⟩
  · have e := List.mem_singleton.1 hx
    subst e
    have h2 := h.trans (List.Perm.swap x u [])
    have := (List.perm_cons x).1 h2
    have := List.perm_singleton.1 this
    simp at this
    exact .inr ⟨rfl, this⟩
/-- The one in the middle of three. -/
def midI (u v w : Int) : Int := max (min u v) (min (max u v) w)
theorem perm3 {x y z u v w : Int} (h : [x, y, z].Perm [u, v, w]) (h1 : x ≤ y) (h2 : y ≤ z) : y = midI u v w := by
  unfold midI
  have hx : x ∈ [u, v, w] := h.subset (by simp)
  rcases List.mem_cons.1 hx with e | hx
  · subst e
    have h3 := perm2 ((List.perm_cons x).1 h)
    omega
  · rcases List.mem_cons.1 hx with e | hx
    · subst e
      have h3 := perm2 ((List.perm_cons x).1 (h.trans (List.Perm.swap x u [w])))
      omega
    · have e := List.mem_singleton.1 hx
      subst e
      have h4 : [u, v, x].Perm [x, u, v] := by
        exact (List.perm_append_comm (l₁ := [u, v]) (l₂ := [x]))
      have h3 := perm2 ((List.perm_cons x).1 (h.trans h4))
      omega
abbrev Rd := Int × Bool
def rdE (r : Rd) : Int := if r.2 = true then (if r.1 = 0 then 0 else 3) else (if -1000000 ≤ r.1 ∧ r.1 ≤ 1000000 then 0 else 2)
def presL (R : List Rd) : List Int := R.filterMap fun r => if r.2 = true then none else some r.1
theorem presL_snoc (R : List Rd) (r : Rd) : presL (R ++ [r]) = if r.2 = true then presL R else presL R ++ [r.1] := by
  unfold presL
  rw [List.filterMap_append]
  by_cases h : r.2 = true
  · rw [if_pos h]; simp [h]
  · rw [if_neg h]; simp [h]
end Go.Tr

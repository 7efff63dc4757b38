/- Contracts: whole parts of quotients. Conditions: none. Printed by gen166.py. -/
import Derived.Test.YtgbdlkajmmjahaaGreatTr09
import Derived.WalkKit
set_option linter.unusedSectionVars false
set_option linter.unnecessarySimpa false
set_option linter.unusedVariables false
set_option linter.unusedSimpArgs false

namespace Go.Tr
open Go Go.Proofs
set_option maxRecDepth 20000
set_option maxHeartbeats 8000000

theorem SPn {F : Nat} {G : List Int} {r : AV} {n : Nat} (h : SP F [ints G] r false) (hn : n = G.length) (f : Nat → List AV) (hf : ∀ i, i < n → f i = [i64 (G.getD i 0)]) : SP F [.rslice 1 n f] r false := by
  refine h.argsD rfl fun i y x hy hx => ?_
  match i, hy, hx with
  | 0, hy, hx => cases hy; cases hx; exact .inr ⟨1, AVF_rows hn hf 0⟩
theorem ints_n6 {P : List Int} {n : Nat} (h : P.length = n) : ints P = .rslice 1 n fun i => [i64 (P.getD i 0)] := by
  subst h; rfl
theorem wA_nat (Y : Nat) (hY : 0 < Y) : wA (Y : Nat) = .agg [i64 1, ints (digs Y)] := wA_eq (by unfold sgI; rw [if_neg (by omega), if_neg (by omega)]) (by omega)
theorem Wd_nat {n : Nat} (h : (digs n).length ≤ 100) : Wd (n : Nat) := by
  unfold Wd; rwa [Int.natAbs_natCast]
theorem Wd_small {z : Int} (h : z.natAbs < 1000000000 ^ 3) : Wd z := Nat.le_trans (digs_len 3 _ h) (by decide)
theorem S174u (Y : Nat) (hY : 0 < Y) (hly : (digs Y).length ≤ 100) : SP 174 [i64 1, ints (digs Y)] (wA (Y : Nat)) false := by
  have h := S174 1 (digs Y) (by omega) (digs_dg _) Y (valN_digs _)
  rw [if_neg (by omega)] at h
  rwa [wA_nat Y hY]
theorem S147n (Y : Nat) (m : Int) (hY : (digs Y).length ≤ 100) (hm0 : 0 ≤ m) (hm : m ≤ 999999999) : SP 147 [wA (Y : Nat), wA m] (.agg [i64 (sgI (Y * m)), ints (digs (Y * m.toNat))]) false := by
  have h := S147 Y m (Wd_nat hY) (Wd_small (by have : (1000000000 : Nat) ^ 3 = 1000000000000000000000000000 := by decide
                                               omega))
  have e : ((Y : Int) * m).natAbs = Y * m.toNat := by rw [Int.natAbs_mul, Int.natAbs_natCast, show m.natAbs = m.toNat by omega]
  rwa [show wA ((Y : Int) * m) = .agg [i64 (sgI (Y * m)), ints (digs (Y * m.toNat))] from wA_eq rfl e] at h
theorem digs_mul9 (Y m : Nat) (hY : (digs Y).length ≤ 100) (hm : m ≤ 999999999) : (digs (Y * m)).length ≤ 101 := by
  refine digs_len _ _ ?_
  have h1 := digs_lt Y
  have h2 : (1000000000 : Nat) ^ (digs Y).length ≤ 1000000000 ^ 100 := Nat.pow_le_pow_right (by decide) hY
  rw [Nat.pow_succ]
  exact Nat.mul_lt_mul_of_lt_of_le (Nat.lt_of_lt_of_le h1 h2) (by omega) (by decide)
theorem drop_setI (Q : List Int) (i : Nat) (q : Int) (hi : i < Q.length) : (Q.set i q).drop i = q :: Q.drop (i + 1) := by
  rw [drop_cons (by rw [List.length_set]; exact hi), getD_setI, if_pos ⟨rfl, hi⟩, List.drop_set_of_lt (by omega)]
theorem floor_step {vA vQ a q R R' Y : Int} (hV : vA = vQ * Y + R) (hR : R' = a + 1000000000 * R) (r : Int) (hr : R' = Y * q + r) : a + 1000000000 * vA = (q + 1000000000 * vQ) * Y + r := by
  subst hV
  have : a = Y * q + r - 1000000000 * R := by omega
  subst this
  grind
theorem S173c (s t : Int) (A : List Int) (Y : Nat) (hA : Dg A) (hla : A.length ≤ 100) (hY : 0 < Y) (hly : (digs Y).length ≤ 100) (hs : s = 1 ∨ s = -1)
    (z : Int) (hz : if s = 1 then z = ((valN A).toNat / Y : Nat) else z = -(((valN A).toNat / Y : Nat) : Int) - (if (valN A).toNat % Y = 0 then 0 else 1)) :
    SP 173 [.agg [i64 s, ints A], .agg [i64 t, ints (digs Y)]] (wA z) false := by
  have hb8 : Tryz.prog.types[3].bytes = 8 := by kernel_rfl
  have hs0 : s ≠ 0 := by omega
  have h162 := S174u Y hY hly
  refine sound (d := 2) tok2 mixed2 Tryz.func173 (by kernel_rfl) (by kernel_rfl) ?_
  conv => whnf
  refine ifB_beq (fun w1 => ?_) (fun w1 => ?_)
  · (exfalso; omega)
  · conv => whnf
    refine ⟨⟨(by omega), ⟨(by omega), ⟨(by omega), (by show _ * ((8 : Nat) : Int) ≤ _; omega)⟩⟩⟩, ?_⟩
    conv => whnf
    refine ⟨inK64 (by omega) (by omega), ?_⟩
    conv => whnf
    refine ⟨[.freeze 6], [2, 3, 4, 5, 6, 7], fun st mq => ∃ (k : Nat) (R : Nat) (Q : List Int) (c : Int), (k ≤ A.length) ∧ (c = (k : Int) - 1) ∧ (Q.length = A.length) ∧ (Dg Q) ∧ (R < Y) ∧ (valN (A.drop k) = valN (Q.drop k) * Y + R) ∧ st = ⟨[(2, .optr 0 0 0 0), (3, .optr 1 0 0 0), (4, .optr 2 0 0 0), (5, .oslice 3 0 0 (A.length : Int).toNat (some (A.length : Int).toNat)), (6, ints (digs R)), (7, i64 c)], ⟨[⟨2, 1, fun _ => [i64 s, ints A], 0, false, true, true⟩, ⟨2, 1, fun _ => [i64 t, ints (digs Y)], 0, false, true, true⟩, ⟨2, 1, fun _ => [i64 0, .eslice], 0, false, true, true⟩, ⟨1, (A.length : Int).toNat, fun j => [i64 (Q.getD j 0)], 0, false, true, false⟩, ⟨1, 0, fun _ => [], 0, true, true, false⟩], [], none, 0⟩, []⟩ ∧ mq = k,
      ⟨_, _, ⟨A.length, 0, List.replicate (A.length : Int).toNat 0, _, Nat.le_refl _, rfl, by simp, (fun d hd => by rw [List.eq_of_mem_replicate hd]; decide), by omega, (by rw [List.drop_length, List.drop_eq_nil_of_le (by simp)]; show (0 : Int) = 0 * (Y : Int) + (0 : Nat); omega), rfl, rfl⟩, ⟨⟨.inr ⟨rfl, .inl rfl, ⟨rfl, .inl rfl, ⟨rfl, .inl rfl, ⟨rfl, .inl rfl, ⟨rfl, .inr (⟨rfl, (by rw [digs0]; rfl), fun k hk => absurd hk (Nat.not_lt_zero k)⟩), ⟨rfl, .inl rfl, trivial⟩⟩⟩⟩⟩⟩, rfl, rfl, rfl⟩, ⟨⟨rfl, rfl, rfl, rfl, fun _ => rfl, fun _ _ => .inl rfl⟩, ⟨⟨rfl, rfl, rfl, rfl, fun _ => rfl, fun _ _ => .inl rfl⟩, ⟨⟨rfl, rfl, rfl, rfl, fun _ => rfl, fun _ _ => .inl rfl⟩, ⟨⟨rfl, rfl, rfl, rfl, fun _ => rfl, fun i hi => .inl ((rep_row0 (A.length : Int).toNat i).trans rfl)⟩, ⟨⟨rfl, rfl, rfl, rfl, fun _ => rfl, fun i h => .inl (absurd h (Nat.not_lt_zero i))⟩, trivial⟩⟩⟩⟩⟩, trivial⟩⟩, ?_⟩
    rintro s0 m0 ⟨k, R, Q, c, hk, hc, hl, hd, hR, hV, rfl, hmeas⟩
    by_cases hk0 : k = 0
    · subst hk0
      subst hc
      have hqn := valN_nn hd
      have hV : valN A = valN Q * Y + R := hV
      have hQY : 0 ≤ valN Q * Y := Int.mul_nonneg hqn (by omega)
      have hX : (valN A).toNat = (valN Q).toNat * Y + R := by
        have e : (((valN Q).toNat * Y : Nat) : Int) = valN Q * Y := by rw [Int.natCast_mul, Int.toNat_of_nonneg hqn]
        omega
      have hdiv : (valN A).toNat / Y = (valN Q).toNat := by rw [hX, Nat.mul_comm, Nat.mul_add_div hY, Nat.div_eq_of_lt hR]; rfl
      have hmod : (valN A).toNat % Y = R := by rw [hX, Nat.mul_comm, Nat.mul_add_mod, Nat.mod_eq_of_lt hR]
      rw [hdiv, hmod] at hz
      have hnl : (digs (valN Q).toNat).length ≤ 100 := by
        rw [← trim_digs hd]
        obtain ⟨n, g1, g2, g3⟩ := trim_exists Q
        rw [trim_take Q n g1 g2 g3, List.length_take]
        omega
      have hlt : Q.length = (A.length : Int).toNat := hl
      have h162e := fun s => S174 s Q (by omega) hd (valN Q).toNat (by omega)
      rw [ints_n6 hlt] at h162e
      rcases hs with hs | hs
      · subst hs
        rw [if_pos rfl] at hz
        have h162f := h162e 1
        rw [show AV.agg [i64 (if (valN Q).toNat = 0 then 0 else 1), ints (digs (valN Q).toNat)] = wA z from (wA_eq (by unfold sgI; (repeat' split) <;> omega) (by omega)).symm] at h162f
        conv => whnf
        conv => whnf
        refine .inl ⟨_, _, byX rfl (h162f), ?_⟩
        conv => whnf
        conv => whnf
        refine ⟨?_, nofun⟩
        exact ave_agg2 rfl ⟨rfl, rfl, fun _ _ => rfl⟩
      · subst hs
        rw [if_neg (by decide)] at hz
        have h162f := h162e (-1)
        rw [show AV.agg [i64 (if (valN Q).toNat = 0 then 0 else -1), ints (digs (valN Q).toNat)] = wA (-((valN Q).toNat : Int)) from (wA_eq (by unfold sgI; (repeat' split) <;> omega) (by omega)).symm] at h162f
        have h142o := S148 1 (by decide)
        have h170 := S195 (-((valN Q).toNat : Int)) 1 (Wd.neg (Wd_nat hnl)) (Wd_small (by decide))
        by_cases hR0 : R = 0
        · have hdz : (digs R).length = 0 := by rw [hR0, digs0]; rfl
          rw [if_pos hR0, Int.sub_zero] at hz
          subst hz
          conv => whnf
          conv => whnf
          refine .inl ⟨_, _, byX rfl (h162f), ?_⟩
          conv => whnf
          conv => whnf
          refine ifB_dec (fun w2 => ?_) (fun w2 => ?_)
          · (exfalso; omega)
          · conv => whnf
            conv => whnf
            refine ⟨?_, nofun⟩
            exact ave_agg2 rfl ⟨rfl, rfl, fun _ _ => rfl⟩
        · have hdz : (digs R).length ≠ 0 := fun h => hR0 (digs_nil (List.length_eq_zero_iff.1 h))
          rw [if_neg hR0] at hz
          subst hz
          conv => whnf
          conv => whnf
          refine .inl ⟨_, _, byX rfl (h162f), ?_⟩
          conv => whnf
          conv => whnf
          refine ifB_dec (fun w2 => ?_) (fun w2 => ?_)
          · conv => whnf
            conv => whnf
            refine ⟨[], by kernel_rfl, ?_⟩
            conv => whnf
            conv => whnf
            refine .inl ⟨_, _, byX rfl (h142o), ?_⟩
            conv => whnf
            conv => whnf
            refine .inl ⟨_, _, byX rfl (h170), ?_⟩
            conv => whnf
            conv => whnf
            refine ⟨?_, nofun⟩
            exact ave_agg2 rfl ⟨rfl, rfl, fun _ _ => rfl⟩
          · (exfalso; omega)
    · obtain ⟨i, rfl⟩ : ∃ i, k = i + 1 := ⟨k - 1, by omega⟩
      subst hc
      have ha := dg_at hA (((i + 1 : Nat) : Int) - 1).toNat
      have ei : (((i + 1 : Nat) : Int) - 1).toNat = i := by omega
      obtain ⟨R', hR'⟩ : ∃ R' : Nat, (R' : Int) = A.getD (((i + 1 : Nat) : Int) - 1).toNat 0 + 1000000000 * R := ⟨(A.getD (((i + 1 : Nat) : Int) - 1).toNat 0 + 1000000000 * R).toNat, by omega⟩
      have hdl : (digs R).length ≤ 100 := Nat.le_trans (digs_mono Y R (by omega)) hly
      have hcd : Dg (A.getD (((i + 1 : Nat) : Int) - 1).toNat 0 :: digs R) := fun d hd => by
        rcases List.mem_cons.1 hd with e | hd
        · rw [e]; exact ha
        · exact digs_dg R d hd
      have h186 := S216 (A.getD (((i + 1 : Nat) : Int) - 1).toNat 0 :: digs R) (by simp; omega)
      rw [trim_digs hcd, show valN (A.getD (((i + 1 : Nat) : Int) - 1).toNat 0 :: digs R) = R' by rw [hR']; show _ + 1000000000 * valN (digs R) = _; rw [valN_digs], Int.toNat_natCast] at h186
      obtain ⟨q, r, hq9, hqm, hml, hqle⟩ : ∃ q r : Nat, q < 1000000000 ∧ Y * q + r = R' ∧ r < Y ∧ ∀ x, x ≤ q ↔ x * Y ≤ R' := ⟨R' / Y, R' % Y, Nat.div_lt_of_lt_mul (by omega), Nat.div_add_mod R' Y, Nat.mod_lt R' hY, fun x => Nat.le_div_iff_mul_le hY⟩
      have hrl : (digs R').length ≤ 101 := by
        by_cases h0 : R' = 0
        · rw [h0, digs0]; exact Nat.zero_le _
        · have h1 := congrArg List.length (digs_pos h0)
          rw [List.length_cons, show R' / 1000000000 = R by omega] at h1
          omega
      by_cases hR0 : R = 0
      · subst hR0
        have hdz : (digs 0).length = 0 := by rw [digs0]; rfl
        have h186g := fun f (hf : ∀ j, j < 1 → f j = [i64 ((A.getD (((i + 1 : Nat) : Int) - 1).toNat 0 :: digs 0).getD j 0)]) => SPn h186 (by rw [digs0]; rfl) f hf
        refine ifB_dec (fun w2 => ?_) (fun w2 => ?_)
        · refine ⟨⟨(by omega), (by omega)⟩, ?_⟩
          refine .inr ?_
          refine ⟨(by omega), ?_⟩
          refine .inl ⟨_, _, byX rfl (h186g _ ?_), ?_⟩
          · (first | exact hdz | exact fun j hj => by rcases j with _ | j; rfl; omega)
          · refine ⟨[], [2, 3, 4, 5, 6, 7, 8, 9], fun st mq => ∃ (lo : Int) (hi : Int), (0 ≤ lo) ∧ (lo ≤ (q : Int)) ∧ ((q : Int) ≤ hi) ∧ (hi ≤ 999999999) ∧ st = ⟨[(2, .optr 0 0 0 0), (3, .optr 1 0 0 0), (4, .optr 2 0 0 0), (5, .oslice 3 0 0 (A.length : Int).toNat (some (A.length : Int).toNat)), (6, ints (digs R')), (7, i64 (((i + 1 : Nat) : Int) - 1)), (8, i64 lo), (9, i64 hi)], ⟨[⟨2, 1, fun _ => [i64 s, ints A], 0, false, true, true⟩, ⟨2, 1, fun _ => [i64 t, ints (digs Y)], 0, false, true, true⟩, ⟨2, 1, fun _ => [i64 0, .eslice], 0, false, true, true⟩, ⟨1, (A.length : Int).toNat, fun j => [i64 (Q.getD j 0)], 0, false, true, false⟩, ⟨1, 0, fun _ => [], 0, true, true, false⟩, ⟨1, 1, fun _ => [i64 (A.getD (((i + 1 : Nat) : Int) - 1).toNat 0)], 0, true, true, true⟩], [], none, 0⟩, []⟩ ∧ mq = (hi - lo).toNat,
              ⟨_, _, ⟨0, 999999999, by omega, by omega, by omega, by omega, rfl, rfl⟩, ⟨⟨.inl rfl, rfl, rfl, rfl⟩, ⟨⟨rfl, rfl, rfl, rfl, fun _ => rfl, fun _ _ => .inl rfl⟩, ⟨⟨rfl, rfl, rfl, rfl, fun _ => rfl, fun _ _ => .inl rfl⟩, ⟨⟨rfl, rfl, rfl, rfl, fun _ => rfl, fun _ _ => .inl rfl⟩, ⟨⟨rfl, rfl, rfl, rfl, fun _ => rfl, fun _ _ => .inl rfl⟩, ⟨⟨rfl, rfl, rfl, rfl, fun _ => rfl, fun _ _ => .inl rfl⟩, ⟨⟨rfl, rfl, rfl, rfl, fun _ => rfl, fun j hj => .inl ((by have h1 : j < 1 := hj; rw [show j = 0 by omega]; rfl))⟩, trivial⟩⟩⟩⟩⟩⟩, trivial⟩⟩, ?_⟩
            rintro s0 m0 ⟨lo, hi, h0, h1, h2, h3, rfl, hmeas⟩
            by_cases hlt : lo < hi
            · have em : 0 ≤ (lo + hi + 1).tdiv 2 ∧ (lo + hi + 1).tdiv 2 ≤ 999999999 ∧ lo < (lo + hi + 1).tdiv 2 ∧ (lo + hi + 1).tdiv 2 ≤ hi := by
                rw [Int.tdiv_eq_ediv_of_nonneg (by omega)]; omega
              have h142 := S148 ((lo + hi + 1).tdiv 2) (by omega)
              have h146 := S147n Y ((lo + hi + 1).tdiv 2) hly em.1 em.2.1
              have hdm := digs_mul9 Y ((lo + hi + 1).tdiv 2).toNat hly (by omega)
              have h168 := S205 (Y * ((lo + hi + 1).tdiv 2).toNat) R' (by omega) (by omega)
              have hle : (lo + hi + 1).tdiv 2 ≤ (q : Int) ↔ Y * ((lo + hi + 1).tdiv 2).toNat ≤ R' := by
                have := hqle ((lo + hi + 1).tdiv 2).toNat
                rw [Nat.mul_comm]
                omega
              by_cases hq : (lo + hi + 1).tdiv 2 ≤ (q : Int)
              · have hc : cmpN (Y * ((lo + hi + 1).tdiv 2).toNat) R' ≤ 0 := by have := hle.1 hq; unfold cmpN; (repeat' split) <;> omega
                conv => whnf
                refine ifB_dec (fun w3 => ?_) (fun w3 => ?_)
                · conv => whnf
                  refine ⟨inK64 (by omega) (by omega), ?_⟩
                  conv => whnf
                  refine ⟨inK64 (by omega) (by omega), ?_⟩
                  conv => whnf
                  refine ⟨⟨(by omega), inK64 (by omega) (by omega)⟩, ?_⟩
                  conv => whnf
                  refine .inl ⟨_, _, byX rfl (h162), ?_⟩
                  conv => whnf
                  refine .inl ⟨_, _, byX rfl (h142), ?_⟩
                  conv => whnf
                  refine .inl ⟨_, _, byX rfl (h146), ?_⟩
                  conv => whnf
                  refine .inl ⟨_, _, byX rfl (Sound1.pl (h168) rfl), ?_⟩
                  conv => whnf
                  refine ifB_dec (fun w4 => ?_) (fun w4 => ?_)
                  · conv => whnf
                    refine ⟨_, _, ⟨⟨(lo + hi + 1).tdiv 2, hi, by omega, by omega, by omega, by omega, rfl, rfl⟩, by omega⟩, ⟨⟨.inl rfl, rfl, rfl, rfl⟩, ⟨⟨rfl, rfl, rfl, rfl, fun _ => rfl, fun _ _ => .inl rfl⟩, ⟨⟨rfl, rfl, rfl, rfl, fun _ => rfl, fun _ _ => .inl rfl⟩, ⟨⟨rfl, rfl, rfl, rfl, fun _ => rfl, fun _ _ => .inl rfl⟩, ⟨⟨rfl, rfl, rfl, rfl, fun _ => rfl, fun _ _ => .inl rfl⟩, ⟨⟨rfl, rfl, rfl, rfl, fun _ => rfl, fun _ _ => .inl rfl⟩, ⟨⟨rfl, rfl, rfl, rfl, fun _ => rfl, fun _ _ => .inl rfl⟩, trivial⟩⟩⟩⟩⟩⟩, trivial⟩⟩
                  · (exfalso; omega)
                · (exfalso; omega)
              · have hc : ¬ cmpN (Y * ((lo + hi + 1).tdiv 2).toNat) R' ≤ 0 := by have : ¬ _ := fun h => hq (hle.2 h); unfold cmpN; (repeat' split) <;> omega
                conv => whnf
                refine ifB_dec (fun w3 => ?_) (fun w3 => ?_)
                · conv => whnf
                  refine ⟨inK64 (by omega) (by omega), ?_⟩
                  conv => whnf
                  refine ⟨inK64 (by omega) (by omega), ?_⟩
                  conv => whnf
                  refine ⟨⟨(by omega), inK64 (by omega) (by omega)⟩, ?_⟩
                  conv => whnf
                  refine .inl ⟨_, _, byX rfl (h162), ?_⟩
                  conv => whnf
                  refine .inl ⟨_, _, byX rfl (h142), ?_⟩
                  conv => whnf
                  refine .inl ⟨_, _, byX rfl (h146), ?_⟩
                  conv => whnf
                  refine .inl ⟨_, _, byX rfl (Sound1.pl (h168) rfl), ?_⟩
                  conv => whnf
                  refine ifB_dec (fun w4 => ?_) (fun w4 => ?_)
                  · (exfalso; omega)
                  · conv => whnf
                    refine ⟨inK64 (by omega) (by omega), ?_⟩
                    conv => whnf
                    refine ⟨_, _, ⟨⟨lo, (lo + hi + 1).tdiv 2 - 1, by omega, by omega, by omega, by omega, rfl, rfl⟩, by omega⟩, ⟨⟨.inl rfl, rfl, rfl, rfl⟩, ⟨⟨rfl, rfl, rfl, rfl, fun _ => rfl, fun _ _ => .inl rfl⟩, ⟨⟨rfl, rfl, rfl, rfl, fun _ => rfl, fun _ _ => .inl rfl⟩, ⟨⟨rfl, rfl, rfl, rfl, fun _ => rfl, fun _ _ => .inl rfl⟩, ⟨⟨rfl, rfl, rfl, rfl, fun _ => rfl, fun _ _ => .inl rfl⟩, ⟨⟨rfl, rfl, rfl, rfl, fun _ => rfl, fun _ _ => .inl rfl⟩, ⟨⟨rfl, rfl, rfl, rfl, fun _ => rfl, fun _ _ => .inl rfl⟩, trivial⟩⟩⟩⟩⟩⟩, trivial⟩⟩
                · (exfalso; omega)
            · obtain rfl : lo = (q : Int) := by omega
              have h142 := S148 (q : Int) (by omega)
              have h146 := S147n Y (q : Int) hly (by omega) (by omega)
              rw [Int.toNat_natCast] at h146
              have h169 := S206 R' (Y * q) (by omega) (by omega)
              rw [show R' - Y * q = r by omega] at h169
              have hdr : Q.drop (i + 1) = Q.drop (i + 1) := rfl
              have hset := drop_setI Q i (q : Int) (by omega)
              have hVn : valN (A.drop i) = valN ((Q.set i (q : Int)).drop i) * Y + (r : Nat) := by
                rw [hset, drop_cons (show i < A.length by omega)]
                have hR2 := hR'
                rw [ei] at hR2
                exact floor_step hV hR2 _ (by rw [← Int.natCast_mul]; omega)
              conv => whnf
              refine ifB_dec (fun w3 => ?_) (fun w3 => ?_)
              · (exfalso; omega)
              · conv => whnf
                refine ⟨⟨(by omega), (by omega)⟩, ?_⟩
                refine ⟨_, fun i _ => rowI _ _ i _ (by first | omega | (simp only [List.length_set]; omega) | (simp only [List.length_replicate]; omega) | (simp only [List.length_set, List.length_replicate]; omega)), ?_⟩
                conv => whnf
                refine .inl ⟨_, _, byX rfl (h162), ?_⟩
                conv => whnf
                refine .inl ⟨_, _, byX rfl (h142), ?_⟩
                conv => whnf
                refine .inl ⟨_, _, byX rfl (h146), ?_⟩
                conv => whnf
                refine .inl ⟨_, _, byX rfl (h169), ?_⟩
                conv => whnf
                refine ⟨inK64 (by omega) (by omega), ?_⟩
                conv => whnf
                refine ⟨_, _, ⟨⟨i, r, Q.set (((i + 1 : Nat) : Int) - 1).toNat (q : Int), ((i + 1 : Nat) : Int) - 1 - 1, by omega, by omega, (by rw [List.length_set]; exact hl), (dg_set hd (by omega) _), hml, (by rw [ei]; exact hVn), rfl, rfl⟩, by omega⟩, ⟨⟨.inl rfl, rfl, rfl, rfl⟩, ⟨⟨rfl, rfl, rfl, rfl, fun _ => rfl, fun _ _ => .inl rfl⟩, ⟨⟨rfl, rfl, rfl, rfl, fun _ => rfl, fun _ _ => .inl rfl⟩, ⟨⟨rfl, rfl, rfl, rfl, fun _ => rfl, fun _ _ => .inl rfl⟩, ⟨⟨rfl, rfl, rfl, rfl, fun _ => rfl, fun _ _ => .inl rfl⟩, ⟨⟨rfl, rfl, rfl, rfl, fun _ => rfl, fun _ _ => .inl rfl⟩, trivial⟩⟩⟩⟩⟩, trivial⟩⟩
        · (exfalso; omega)
      · have hdz : (digs R).length ≠ 0 := fun h => hR0 (digs_nil (List.length_eq_zero_iff.1 h))
        have h186g := fun f (hf : ∀ j, j < 1 + (digs R).length → f j = [i64 ((A.getD (((i + 1 : Nat) : Int) - 1).toNat 0 :: digs R).getD j 0)]) => SPn h186 (by simp; omega) f hf
        conv => whnf
        conv => whnf
        refine ifB_dec (fun w2 => ?_) (fun w2 => ?_)
        · conv => whnf
          conv => whnf
          refine ⟨⟨(by omega), (by omega)⟩, ?_⟩
          conv => whnf
          conv => whnf
          refine .inl ?_
          conv => whnf
          conv => whnf
          refine ⟨⟨(by omega), (by show _ * (8 + 1) ≤ _; omega)⟩, ?_⟩
          conv => whnf
          conv => whnf
          refine .inl ⟨_, _, byX rfl (h186g _ ?_), ?_⟩
          · (exact fun j hj => by rcases j with _ | j <;> rfl)
          · conv => whnf
            conv => whnf
            refine ⟨[], [2, 3, 4, 5, 6, 7, 8, 9], fun st mq => ∃ (lo : Int) (hi : Int), (0 ≤ lo) ∧ (lo ≤ (q : Int)) ∧ ((q : Int) ≤ hi) ∧ (hi ≤ 999999999) ∧ st = ⟨[(2, .optr 0 0 0 0), (3, .optr 1 0 0 0), (4, .optr 2 0 0 0), (5, .oslice 3 0 0 (A.length : Int).toNat (some (A.length : Int).toNat)), (6, ints (digs R')), (7, i64 (((i + 1 : Nat) : Int) - 1)), (8, i64 lo), (9, i64 hi)], ⟨[⟨2, 1, fun _ => [i64 s, ints A], 0, false, true, true⟩, ⟨2, 1, fun _ => [i64 t, ints (digs Y)], 0, false, true, true⟩, ⟨2, 1, fun _ => [i64 0, .eslice], 0, false, true, true⟩, ⟨1, (A.length : Int).toNat, fun j => [i64 (Q.getD j 0)], 0, false, true, false⟩, ⟨1, 0, fun _ => [], 0, true, true, false⟩, ⟨1, 1, fun _ => [i64 (A.getD (((i + 1 : Nat) : Int) - 1).toNat 0)], 0, false, true, true⟩, ⟨1, 1 + (digs R).length, fun j => [i64 ((A.getD (((i + 1 : Nat) : Int) - 1).toNat 0 :: digs R).getD j 0)], 0, true, true, false⟩], [], none, 0⟩, []⟩ ∧ mq = (hi - lo).toNat,
              ⟨_, _, ⟨0, 999999999, by omega, by omega, by omega, by omega, rfl, rfl⟩, ⟨⟨.inl rfl, rfl, rfl, rfl⟩, ⟨⟨rfl, rfl, rfl, rfl, fun _ => rfl, fun _ _ => .inl rfl⟩, ⟨⟨rfl, rfl, rfl, rfl, fun _ => rfl, fun _ _ => .inl rfl⟩, ⟨⟨rfl, rfl, rfl, rfl, fun _ => rfl, fun _ _ => .inl rfl⟩, ⟨⟨rfl, rfl, rfl, rfl, fun _ => rfl, fun _ _ => .inl rfl⟩, ⟨⟨rfl, rfl, rfl, rfl, fun _ => rfl, fun _ _ => .inl rfl⟩, ⟨⟨rfl, rfl, rfl, rfl, fun _ => rfl, fun j hj => .inl ((by have h1 : j < 1 := hj; rw [show j = 0 by omega]; rfl))⟩, ⟨⟨rfl, rfl, rfl, rfl, fun _ => rfl, fun j hj => .inl ((by rcases j with _ | j <;> rfl))⟩, trivial⟩⟩⟩⟩⟩⟩⟩, trivial⟩⟩, ?_⟩
            rintro s0 m0 ⟨lo, hi, h0, h1, h2, h3, rfl, hmeas⟩
            by_cases hlt : lo < hi
            · have em : 0 ≤ (lo + hi + 1).tdiv 2 ∧ (lo + hi + 1).tdiv 2 ≤ 999999999 ∧ lo < (lo + hi + 1).tdiv 2 ∧ (lo + hi + 1).tdiv 2 ≤ hi := by
                rw [Int.tdiv_eq_ediv_of_nonneg (by omega)]; omega
              have h142 := S148 ((lo + hi + 1).tdiv 2) (by omega)
              have h146 := S147n Y ((lo + hi + 1).tdiv 2) hly em.1 em.2.1
              have hdm := digs_mul9 Y ((lo + hi + 1).tdiv 2).toNat hly (by omega)
              have h168 := S205 (Y * ((lo + hi + 1).tdiv 2).toNat) R' (by omega) (by omega)
              have hle : (lo + hi + 1).tdiv 2 ≤ (q : Int) ↔ Y * ((lo + hi + 1).tdiv 2).toNat ≤ R' := by
                have := hqle ((lo + hi + 1).tdiv 2).toNat
                rw [Nat.mul_comm]
                omega
              by_cases hq : (lo + hi + 1).tdiv 2 ≤ (q : Int)
              · have hc : cmpN (Y * ((lo + hi + 1).tdiv 2).toNat) R' ≤ 0 := by have := hle.1 hq; unfold cmpN; (repeat' split) <;> omega
                conv => whnf
                conv => whnf
                conv => whnf
                refine ifB_dec (fun w3 => ?_) (fun w3 => ?_)
                · conv => whnf
                  conv => whnf
                  conv => whnf
                  refine ⟨inK64 (by omega) (by omega), ?_⟩
                  conv => whnf
                  conv => whnf
                  conv => whnf
                  refine ⟨inK64 (by omega) (by omega), ?_⟩
                  conv => whnf
                  conv => whnf
                  conv => whnf
                  refine ⟨⟨(by omega), inK64 (by omega) (by omega)⟩, ?_⟩
                  conv => whnf
                  conv => whnf
                  conv => whnf
                  refine .inl ⟨_, _, byX rfl (h162), ?_⟩
                  conv => whnf
                  conv => whnf
                  conv => whnf
                  refine .inl ⟨_, _, byX rfl (h142), ?_⟩
                  conv => whnf
                  conv => whnf
                  conv => whnf
                  refine .inl ⟨_, _, byX rfl (h146), ?_⟩
                  conv => whnf
                  conv => whnf
                  conv => whnf
                  refine .inl ⟨_, _, byX rfl (Sound1.pl (h168) rfl), ?_⟩
                  conv => whnf
                  conv => whnf
                  conv => whnf
                  refine ifB_dec (fun w4 => ?_) (fun w4 => ?_)
                  · conv => whnf
                    conv => whnf
                    conv => whnf
                    refine ⟨_, _, ⟨⟨(lo + hi + 1).tdiv 2, hi, by omega, by omega, by omega, by omega, rfl, rfl⟩, by omega⟩, ⟨⟨.inl rfl, rfl, rfl, rfl⟩, ⟨⟨rfl, rfl, rfl, rfl, fun _ => rfl, fun _ _ => .inl rfl⟩, ⟨⟨rfl, rfl, rfl, rfl, fun _ => rfl, fun _ _ => .inl rfl⟩, ⟨⟨rfl, rfl, rfl, rfl, fun _ => rfl, fun _ _ => .inl rfl⟩, ⟨⟨rfl, rfl, rfl, rfl, fun _ => rfl, fun _ _ => .inl rfl⟩, ⟨⟨rfl, rfl, rfl, rfl, fun _ => rfl, fun _ _ => .inl rfl⟩, ⟨⟨rfl, rfl, rfl, rfl, fun _ => rfl, fun _ _ => .inl rfl⟩, ⟨⟨rfl, rfl, rfl, rfl, fun _ => rfl, fun _ _ => .inl rfl⟩, trivial⟩⟩⟩⟩⟩⟩⟩, trivial⟩⟩
                  · (exfalso; omega)
                · (exfalso; omega)
              · have hc : ¬ cmpN (Y * ((lo + hi + 1).tdiv 2).toNat) R' ≤ 0 := by have : ¬ _ := fun h => hq (hle.2 h); unfold cmpN; (repeat' split) <;> omega
                conv => whnf
                conv => whnf
                conv => whnf
                refine ifB_dec (fun w3 => ?_) (fun w3 => ?_)
                · conv => whnf
                  conv => whnf
                  conv => whnf
                  refine ⟨inK64 (by omega) (by omega), ?_⟩
                  conv => whnf
                  conv => whnf
                  conv => whnf
                  refine ⟨inK64 (by omega) (by omega), ?_⟩
                  conv => whnf
                  conv => whnf
                  conv => whnf
                  refine ⟨⟨(by omega), inK64 (by omega) (by omega)⟩, ?_⟩
                  conv => whnf
                  conv => whnf
                  conv => whnf
                  refine .inl ⟨_, _, byX rfl (h162), ?_⟩
                  conv => whnf
                  conv => whnf
                  conv => whnf
                  refine .inl ⟨_, _, byX rfl (h142), ?_⟩
                  conv => whnf
                  conv => whnf
                  conv => whnf
                  refine .inl ⟨_, _, byX rfl (h146), ?_⟩
                  conv => whnf
                  conv => whnf
                  conv => whnf
                  refine .inl ⟨_, _, byX rfl (Sound1.pl (h168) rfl), ?_⟩
                  conv => whnf
                  conv => whnf
                  conv => whnf
                  refine ifB_dec (fun w4 => ?_) (fun w4 => ?_)
                  · (exfalso; omega)
                  · conv => whnf
                    conv => whnf
                    conv => whnf
                    refine ⟨inK64 (by omega) (by omega), ?_⟩
                    conv => whnf
                    conv => whnf
                    conv => whnf
                    refine ⟨_, _, ⟨⟨lo, (lo + hi + 1).tdiv 2 - 1, by omega, by omega, by omega, by omega, rfl, rfl⟩, by omega⟩, ⟨⟨.inl rfl, rfl, rfl, rfl⟩, ⟨⟨rfl, rfl, rfl, rfl, fun _ => rfl, fun _ _ => .inl rfl⟩, ⟨⟨rfl, rfl, rfl, rfl, fun _ => rfl, fun _ _ => .inl rfl⟩, ⟨⟨rfl, rfl, rfl, rfl, fun _ => rfl, fun _ _ => .inl rfl⟩, ⟨⟨rfl, rfl, rfl, rfl, fun _ => rfl, fun _ _ => .inl rfl⟩, ⟨⟨rfl, rfl, rfl, rfl, fun _ => rfl, fun _ _ => .inl rfl⟩, ⟨⟨rfl, rfl, rfl, rfl, fun _ => rfl, fun _ _ => .inl rfl⟩, ⟨⟨rfl, rfl, rfl, rfl, fun _ => rfl, fun _ _ => .inl rfl⟩, trivial⟩⟩⟩⟩⟩⟩⟩, trivial⟩⟩
                · (exfalso; omega)
            · obtain rfl : lo = (q : Int) := by omega
              have h142 := S148 (q : Int) (by omega)
              have h146 := S147n Y (q : Int) hly (by omega) (by omega)
              rw [Int.toNat_natCast] at h146
              have h169 := S206 R' (Y * q) (by omega) (by omega)
              rw [show R' - Y * q = r by omega] at h169
              have hdr : Q.drop (i + 1) = Q.drop (i + 1) := rfl
              have hset := drop_setI Q i (q : Int) (by omega)
              have hVn : valN (A.drop i) = valN ((Q.set i (q : Int)).drop i) * Y + (r : Nat) := by
                rw [hset, drop_cons (show i < A.length by omega)]
                have hR2 := hR'
                rw [ei] at hR2
                exact floor_step hV hR2 _ (by rw [← Int.natCast_mul]; omega)
              conv => whnf
              conv => whnf
              conv => whnf
              refine ifB_dec (fun w3 => ?_) (fun w3 => ?_)
              · (exfalso; omega)
              · conv => whnf
                conv => whnf
                conv => whnf
                refine ⟨⟨(by omega), (by omega)⟩, ?_⟩
                refine ⟨_, fun i _ => rowI _ _ i _ (by first | omega | (simp only [List.length_set]; omega) | (simp only [List.length_replicate]; omega) | (simp only [List.length_set, List.length_replicate]; omega)), ?_⟩
                conv => whnf
                conv => whnf
                conv => whnf
                refine .inl ⟨_, _, byX rfl (h162), ?_⟩
                conv => whnf
                conv => whnf
                conv => whnf
                refine .inl ⟨_, _, byX rfl (h142), ?_⟩
                conv => whnf
                conv => whnf
                conv => whnf
                refine .inl ⟨_, _, byX rfl (h146), ?_⟩
                conv => whnf
                conv => whnf
                conv => whnf
                refine .inl ⟨_, _, byX rfl (h169), ?_⟩
                conv => whnf
                conv => whnf
                conv => whnf
                refine ⟨inK64 (by omega) (by omega), ?_⟩
                conv => whnf
                conv => whnf
                conv => whnf
                refine ⟨_, _, ⟨⟨i, r, Q.set (((i + 1 : Nat) : Int) - 1).toNat (q : Int), ((i + 1 : Nat) : Int) - 1 - 1, by omega, by omega, (by rw [List.length_set]; exact hl), (dg_set hd (by omega) _), hml, (by rw [ei]; exact hVn), rfl, rfl⟩, by omega⟩, ⟨⟨.inl rfl, rfl, rfl, rfl⟩, ⟨⟨rfl, rfl, rfl, rfl, fun _ => rfl, fun _ _ => .inl rfl⟩, ⟨⟨rfl, rfl, rfl, rfl, fun _ => rfl, fun _ _ => .inl rfl⟩, ⟨⟨rfl, rfl, rfl, rfl, fun _ => rfl, fun _ _ => .inl rfl⟩, ⟨⟨rfl, rfl, rfl, rfl, fun _ => rfl, fun _ _ => .inl rfl⟩, ⟨⟨rfl, rfl, rfl, rfl, fun _ => rfl, fun _ _ => .inl rfl⟩, trivial⟩⟩⟩⟩⟩, trivial⟩⟩
        · (exfalso; omega)
theorem S173 (x y : Int) (hx : Wd x) (hy : Wd y) (hp : 0 < y) : SP 173 [wA x, wA y] (wA (x / y)) false := by
  unfold Wd at hx hy
  have hab : ((y.natAbs : Nat) : Int) = y := by omega
  have hvx := valN_digs x.natAbs
  have hxn : (valN (digs x.natAbs)).toNat = x.natAbs := by omega
  by_cases h0 : x = 0
  · have ez : wA (x / y) = .agg [i64 0, ints []] := by rw [h0, Int.zero_ediv, wA_eq (z := 0) (s := 0) (n := 0) rfl rfl, digs0]
    have es : sgI x = 0 := by rw [h0]; rfl
    rw [ez]
    refine sound (d := 2) tok2 mixed2 Tryz.func173 (by kernel_rfl) (by kernel_rfl) ?_
    conv => whnf
    refine ifB_beq (fun w1 => ?_) (fun w1 => ?_)
    · conv => whnf
      refine ⟨?_, nofun⟩
      exact ave_agg2 rfl rfl
    · (exfalso; omega)
  · refine S173c (sgI x) (sgI y) (digs x.natAbs) y.natAbs (digs_dg _) hx (by omega) hy (by have := sg_cases x; omega) (x / y) ?_
    rw [hxn]
    by_cases hs : 0 < x
    · have e : sgI x = 1 := by have := sg_cases x; omega
      rw [if_pos e, Int.natCast_ediv, hab, show ((x.natAbs : Nat) : Int) = x by omega]
    · have e : ¬ sgI x = 1 := by have := sg_cases x; omega
      rw [if_neg e]
      have hd := Nat.div_add_mod x.natAbs y.natAbs
      have hm := Nat.mod_lt x.natAbs (show 0 < y.natAbs by omega)
      generalize x.natAbs / y.natAbs = q at hd ⊢
      generalize hr : x.natAbs % y.natAbs = r at hd hm ⊢
      have hx2 : x = -(y * q + r) := by
        have h1 : ((y.natAbs * q + r : Nat) : Int) = x.natAbs := by rw [hd]
        rw [Int.natCast_add, Int.natCast_mul, hab] at h1
        omega
      by_cases hr0 : r = 0
      · rw [if_pos hr0]
        rw [hx2, hr0, show -(y * (q : Int) + (0 : Nat)) = y * (-(q : Int)) by grind, Int.mul_ediv_cancel_left _ (by omega)]
        omega
      · rw [if_neg hr0]
        rw [hx2, show -(y * (q : Int) + (r : Int)) = (y - r) + y * (-(q : Int) - 1) by grind, Int.add_mul_ediv_left _ _ (by omega), Int.ediv_eq_zero_of_lt (by omega) (by omega)]
        omega
end Go.Tr

/- Contracts: fractions of whole numbers of any size. Conditions: none. -/
namespace Go.Tr
open Go Go.Proofs
set_option maxRecDepth 20000
set_option maxHeartbeats 8000000

theorem Wd.le {a b : Int} (h : Wd b) (hl : a.natAbs ≤ b.natAbs) : Wd a := Nat.le_trans (digs_mono _ _ hl) h
theorem gcd_step {a b : Int} (ha : 0 ≤ a) (hb : 0 < b) : Int.gcd b (a - a / b * b) = Int.gcd a b := by
  have e : a - a / b * b = a % b := by rw [Int.emod_def, Int.mul_comm]
  rw [e]
  show Nat.gcd b.natAbs (a % b).natAbs = Nat.gcd a.natAbs b.natAbs
  rw [Int.natAbs_emod_of_nonneg ha, Nat.gcd_comm, ← Nat.gcd_rec, Nat.gcd_comm]
theorem S172 (x y : Int) (hx : Wd x) (hy : Wd y) : SP 172 [wA x, wA y] (wA (Int.gcd x y : Nat)) false := by
  have h187x := S215 x
  have h187y := S215 y
  refine sound (d := 2) tok2 mixed2 Tryz.func172 (by kernel_rfl) (by kernel_rfl) ?_
  conv => whnf
  refine ⟨[], by kernel_rfl, ?_⟩
  conv => whnf
  refine .inl ⟨_, _, byX rfl (h187x), ?_⟩
  conv => whnf
  refine .inl ⟨_, _, byX rfl (h187y), ?_⟩
  conv => whnf
  refine ⟨[], [2, 3, 4], fun st mq => ∃ (a : Int) (b : Int), (0 ≤ a) ∧ (0 ≤ b) ∧ (Wd a) ∧ (Wd b) ∧ (Int.gcd a b = Int.gcd x y) ∧ st = ⟨[(2, .optr 0 0 0 0), (3, .optr 1 0 0 0), (4, .optr 2 0 0 0)], ⟨[⟨2, 1, fun _ => [i64 (sgI a), ints (digs a.natAbs)], 0, false, true, true⟩, ⟨2, 1, fun _ => [i64 (sgI b), ints (digs b.natAbs)], 0, false, true, true⟩, ⟨2, 1, fun _ => [i64 0, .eslice], 0, false, true, true⟩], [], none, 0⟩, []⟩ ∧ mq = b.natAbs,
    ⟨_, _, ⟨(x.natAbs : Nat), (y.natAbs : Nat), by omega, by omega, (hx.le (by omega)), (hy.le (by omega)), rfl, rfl, rfl⟩, ⟨⟨.inl rfl, rfl, rfl, rfl⟩, ⟨⟨rfl, rfl, rfl, rfl, fun _ => rfl, fun _ _ => .inl rfl⟩, ⟨⟨rfl, rfl, rfl, rfl, fun _ => rfl, fun _ _ => .inl rfl⟩, ⟨⟨rfl, rfl, rfl, rfl, fun _ => rfl, fun _ _ => .inl rfl⟩, trivial⟩⟩⟩, trivial⟩⟩, ?_⟩
  rintro s0 m0 ⟨a, b, ha, hb, hwa, hwb, hg, rfl, hmeas⟩
  have h163 := S120 b
  have hsb := sg_cases b
  by_cases h0 : b = 0
  · have e : a = (Int.gcd x y : Nat) := by rw [← hg, h0, Int.gcd_zero_right]; omega
    have es : sgI b = 0 := by omega
    rw [← e]
    conv => whnf
    conv => whnf
    refine .inl ⟨_, _, byX rfl (Sound1.pl (h163) rfl), ?_⟩
    conv => whnf
    conv => whnf
    refine ifB_bne (fun w1 => ?_) (fun w1 => ?_)
    · (exfalso; omega)
    · conv => whnf
      conv => whnf
      refine ⟨?_, nofun⟩
      exact ave_agg2 rfl ⟨rfl, rfl, fun _ _ => rfl⟩
  · have es : sgI b ≠ 0 := by omega
    have hq0 : 0 ≤ a / b := Int.ediv_nonneg ha hb
    have hqa : a / b ≤ a := Int.ediv_le_self _ ha
    have hem := Int.emod_def a b
    have hmn := Int.emod_nonneg a (show b ≠ 0 by omega)
    have hml := Int.emod_lt_of_pos a (show 0 < b by omega)
    have hcm : b * (a / b) = a / b * b := Int.mul_comm _ _
    have h166 := S173 a b hwa hwb (by omega)
    have h146 := S147 (a / b) b (hwa.le (by omega)) hwb
    have hqb : 0 ≤ a / b * b := Int.mul_nonneg hq0 hb
    have h170 := S195 a (a / b * b) hwa (hwa.le (by omega))
    conv => whnf
    conv => whnf
    refine .inl ⟨_, _, byX rfl (Sound1.pl (h163) rfl), ?_⟩
    conv => whnf
    conv => whnf
    refine ifB_bne (fun w1 => ?_) (fun w1 => ?_)
    · conv => whnf
      conv => whnf
      refine ⟨[], by kernel_rfl, ?_⟩
      conv => whnf
      conv => whnf
      refine .inl ⟨_, _, byX rfl (h166), ?_⟩
      conv => whnf
      conv => whnf
      refine .inl ⟨_, _, byX rfl (h146), ?_⟩
      conv => whnf
      conv => whnf
      refine .inl ⟨_, _, byX rfl (h170), ?_⟩
      conv => whnf
      conv => whnf
      refine ⟨[(1, 2)], by kernel_rfl, ?_⟩
      conv => whnf
      conv => whnf
      refine ⟨_, _, ⟨⟨b, a - a / b * b, by omega, by omega, hwb, (hwb.le (by omega)), (by rw [← hg]; exact gcd_step ha (by omega)), rfl, rfl⟩, by omega⟩, ⟨⟨.inl rfl, rfl, rfl, rfl⟩, ⟨⟨rfl, rfl, rfl, rfl, fun _ => rfl, fun _ _ => .inl rfl⟩, ⟨⟨rfl, rfl, rfl, rfl, fun _ => rfl, fun _ _ => .inl rfl⟩, ⟨⟨rfl, rfl, rfl, rfl, fun _ => rfl, fun _ _ => .inl rfl⟩, trivial⟩⟩⟩, trivial⟩⟩
    · (exfalso; omega)
/-- A fraction in lowest terms. -/
abbrev rA2 (a b : Int) : AV := .agg [i64 (sgI a), ints (digs a.natAbs), i64 (sgI b), ints (digs b.natAbs)]
abbrev rA (q : Rat) : AV := rA2 q.num (q.den : Nat)
theorem ave_rA {k : Nat} {a b : Int} : AVE (k + 2) (rA2 a b) (rA2 a b) := ave_agg4 rfl ⟨rfl, rfl, fun _ _ => rfl⟩ rfl ⟨rfl, rfl, fun _ _ => rfl⟩
theorem div_num {n d : Int} (hd : 0 < d) : (Rat.divInt n d).num = n / (Int.gcd n d : Nat) := by
  rw [Rat.num_divInt, Int.sign_eq_one_of_pos hd, Int.one_mul, Int.gcd_comm]
theorem div_den {n d : Int} (hd : 0 < d) : ((Rat.divInt n d).den : Int) = d / (Int.gcd n d : Nat) := by
  rw [Rat.den_divInt, if_neg (by omega), Int.gcd_comm, Int.natCast_ediv]
  congr 1
  omega
theorem S146p (n d : Int) (hn : Wd n) (hd : Wd d) (hp : 0 < d) : SP 146 [wA n, wA d] (rA (Rat.divInt n d)) false := by
  have h163 := S120 d
  have h165 := S172 n d hn hd
  have h142 := S148 1 (by decide)
  have hg0 : 0 < Int.gcd n d := Int.gcd_pos_of_ne_zero_right _ (by omega)
  have hgd : Int.gcd n d ≤ d.natAbs := Nat.le_of_dvd (by omega) (Nat.gcd_dvd_right _ _)
  have hgw : Wd (Int.gcd n d : Nat) := hd.le (by omega)
  have h148 := S160 (Int.gcd n d : Nat) 1 hgw (Wd_small (by decide))
  have hs : ¬ sgI d < 0 := by have := sg_cases d; omega
  have hsc := sg_cases ((Int.gcd n d : Nat) - 1)
  show SP 146 [wA n, wA d] (rA2 (Rat.divInt n d).num ((Rat.divInt n d).den : Nat)) false
  rw [div_num hp, div_den hp]
  by_cases hg1 : Int.gcd n d = 1
  · have hc : sgI ((Int.gcd n d : Nat) - 1) = 0 := by omega
    rw [hg1, show ((1 : Nat) : Int) = 1 from rfl, Int.ediv_one, Int.ediv_one]
    rw [hg1] at h165 h148 hc
    refine sound (d := 2) tok2 mixed2 Tryz.func146 (by kernel_rfl) (by kernel_rfl) ?_
    conv => whnf
    refine .inl ⟨_, _, byX rfl (Sound1.pl (h163) rfl), ?_⟩
    conv => whnf
    refine ifB_dec (fun w1 => ?_) (fun w1 => ?_)
    · (exfalso; omega)
    · conv => whnf
      refine .inl ⟨_, _, byX rfl (h165), ?_⟩
      conv => whnf
      refine ⟨[], by kernel_rfl, ?_⟩
      conv => whnf
      refine .inl ⟨_, _, byX rfl (h142), ?_⟩
      conv => whnf
      refine .inl ⟨_, _, byX rfl (Sound1.pl (h148) rfl), ?_⟩
      conv => whnf
      refine ⟨?_, nofun⟩
      exact ave_rA
  · have hc : ¬ sgI ((Int.gcd n d : Nat) - 1) = 0 := by omega
    have h166n := S173 n (Int.gcd n d : Nat) hn hgw (by omega)
    have h166d := S173 d (Int.gcd n d : Nat) hd hgw (by omega)
    refine sound (d := 2) tok2 mixed2 Tryz.func146 (by kernel_rfl) (by kernel_rfl) ?_
    conv => whnf
    refine .inl ⟨_, _, byX rfl (Sound1.pl (h163) rfl), ?_⟩
    conv => whnf
    refine ifB_dec (fun w1 => ?_) (fun w1 => ?_)
    · (exfalso; omega)
    · conv => whnf
      refine .inl ⟨_, _, byX rfl (h165), ?_⟩
      conv => whnf
      refine ⟨[], by kernel_rfl, ?_⟩
      conv => whnf
      refine .inl ⟨_, _, byX rfl (h142), ?_⟩
      conv => whnf
      refine .inl ⟨_, _, byX rfl (Sound1.pl (h148) rfl), ?_⟩
      conv => whnf
      refine ifB_beq (fun w2 => ?_) (fun w2 => ?_)
      · (exfalso; omega)
      · conv => whnf
        refine ⟨[], by kernel_rfl, ?_⟩
        conv => whnf
        refine .inl ⟨_, _, byX rfl (h166n), ?_⟩
        conv => whnf
        refine .inl ⟨_, _, byX rfl (h166d), ?_⟩
        conv => whnf
        refine ⟨?_, nofun⟩
        exact ave_rA
theorem S146 (n d : Int) (hn : Wd n) (hd : Wd d) (h0 : d ≠ 0) : SP 146 [wA n, wA d] (rA (Rat.divInt n d)) false := by
  by_cases hp : 0 < d
  · exact S146p n d hn hd hp
  · have h163 := S120 d
    have h164n := S166 n
    have h164d := S166 d
    have hn' := hn.neg
    have hd' := hd.neg
    have hp' : 0 < -d := by omega
    have h165 := S172 (-n) (-d) hn' hd'
    have h142 := S148 1 (by decide)
    have hg0 : 0 < Int.gcd (-n) (-d) := Int.gcd_pos_of_ne_zero_right _ (by omega)
    have hgd : Int.gcd (-n) (-d) ≤ (-d).natAbs := Nat.le_of_dvd (by omega) (Nat.gcd_dvd_right _ _)
    have hgw : Wd (Int.gcd (-n) (-d) : Nat) := hd'.le (by omega)
    have h148 := S160 (Int.gcd (-n) (-d) : Nat) 1 hgw (Wd_small (by decide))
    have hs : sgI d < 0 := by have := sg_cases d; omega
    have hsc := sg_cases ((Int.gcd (-n) (-d) : Nat) - 1)
    rw [← Rat.neg_divInt_neg n d]
    show SP 146 [wA n, wA d] (rA2 (Rat.divInt (-n) (-d)).num ((Rat.divInt (-n) (-d)).den : Nat)) false
    rw [div_num hp', div_den hp']
    by_cases hg1 : Int.gcd (-n) (-d) = 1
    · have hc : sgI ((Int.gcd (-n) (-d) : Nat) - 1) = 0 := by omega
      rw [hg1, show ((1 : Nat) : Int) = 1 from rfl, Int.ediv_one, Int.ediv_one]
      rw [hg1] at h165 h148 hc
      refine sound (d := 2) tok2 mixed2 Tryz.func146 (by kernel_rfl) (by kernel_rfl) ?_
      conv => whnf
      refine .inl ⟨_, _, byX rfl (Sound1.pl (h163) rfl), ?_⟩
      conv => whnf
      refine ifB_dec (fun w1 => ?_) (fun w1 => ?_)
      · conv => whnf
        refine ⟨[], by kernel_rfl, ?_⟩
        conv => whnf
        refine .inl ⟨_, _, byX rfl (h164n), ?_⟩
        conv => whnf
        refine .inl ⟨_, _, byX rfl (h164d), ?_⟩
        conv => whnf
        refine .inl ⟨_, _, byX rfl (h165), ?_⟩
        conv => whnf
        refine ⟨[], by kernel_rfl, ?_⟩
        conv => whnf
        refine .inl ⟨_, _, byX rfl (h142), ?_⟩
        conv => whnf
        refine .inl ⟨_, _, byX rfl (Sound1.pl (h148) rfl), ?_⟩
        conv => whnf
        refine ⟨?_, nofun⟩
        exact ave_rA
      · (exfalso; omega)
    · have hc : ¬ sgI ((Int.gcd (-n) (-d) : Nat) - 1) = 0 := by omega
      have h166n := S173 (-n) (Int.gcd (-n) (-d) : Nat) hn' hgw (by omega)
      have h166d := S173 (-d) (Int.gcd (-n) (-d) : Nat) hd' hgw (by omega)
      refine sound (d := 2) tok2 mixed2 Tryz.func146 (by kernel_rfl) (by kernel_rfl) ?_
      conv => whnf
      refine .inl ⟨_, _, byX rfl (Sound1.pl (h163) rfl), ?_⟩
      conv => whnf
      refine ifB_dec (fun w1 => ?_) (fun w1 => ?_)
      · conv => whnf
        refine ⟨[], by kernel_rfl, ?_⟩
        conv => whnf
        refine .inl ⟨_, _, byX rfl (h164n), ?_⟩
        conv => whnf
        refine .inl ⟨_, _, byX rfl (h164d), ?_⟩
        conv => whnf
        refine .inl ⟨_, _, byX rfl (h165), ?_⟩
        conv => whnf
        refine ⟨[], by kernel_rfl, ?_⟩
        conv => whnf
        refine .inl ⟨_, _, byX rfl (h142), ?_⟩
        conv => whnf
        refine .inl ⟨_, _, byX rfl (Sound1.pl (h148) rfl), ?_⟩
        conv => whnf
        refine ifB_beq (fun w2 => ?_) (fun w2 => ?_)
        · (exfalso; omega)
        · conv => whnf
          refine ⟨[], by kernel_rfl, ?_⟩
          conv => whnf
          refine .inl ⟨_, _, byX rfl (h166n), ?_⟩
          conv => whnf
          refine .inl ⟨_, _, byX rfl (h166d), ?_⟩
          conv => whnf
          refine ⟨?_, nofun⟩
          exact ave_rA
      · (exfalso; omega)
end Go.Tr

/- Plain laws: sizes of fractions. Conditions: none. -/
namespace Go.Tr
open Go Go.Proofs
set_option maxRecDepth 20000
set_option maxHeartbeats 8000000

/-- A fraction whose parts have at most k digits. -/
def Rk (k : Nat) (q : Rat) : Prop := (digs q.num.natAbs).length ≤ k ∧ (digs q.den).length ≤ k
theorem digs_mul (m n : Nat) : (digs (m * n)).length ≤ (digs m).length + (digs n).length :=
  digs_len _ _ (by rw [Nat.pow_add]; exact Nat.mul_lt_mul'' (digs_lt m) (digs_lt n))
theorem div_num_le {n d : Int} (hd : d ≠ 0) : (Rat.divInt n d).num.natAbs ≤ n.natAbs := by
  rw [Rat.num_divInt]
  refine Nat.le_trans (Int.natAbs_ediv_le_natAbs _ _) ?_
  rw [Int.natAbs_mul, Int.natAbs_sign_of_ne_zero hd, Nat.one_mul]
  exact Nat.le_refl _
theorem div_den_le {n d : Int} (hd : d ≠ 0) : (Rat.divInt n d).den ≤ d.natAbs := by
  rw [Rat.den_divInt, if_neg hd]
  exact Nat.div_le_self _ _
theorem Rk.mono {k l : Nat} {q : Rat} (h : Rk k q) (hl : k ≤ l) : Rk l q := ⟨Nat.le_trans h.1 hl, Nat.le_trans h.2 hl⟩
theorem Rk.of {k : Nat} {n d : Int} (hd : d ≠ 0) (h1 : (digs n.natAbs).length ≤ k) (h2 : (digs d.natAbs).length ≤ k) : Rk k (Rat.divInt n d) :=
  ⟨Nat.le_trans (digs_mono _ _ (div_num_le hd)) h1, Nat.le_trans (digs_mono _ _ (div_den_le hd)) h2⟩
theorem Rk.wd {k : Nat} {q : Rat} (h : Rk k q) (hk : k ≤ 100) : Wd q.num ∧ Wd (q.den : Nat) := by
  refine ⟨Nat.le_trans h.1 hk, ?_⟩
  show (digs ((q.den : Int)).natAbs).length ≤ 100
  rw [Int.natAbs_natCast]
  exact Nat.le_trans h.2 hk
/-- A number whose digits are at most k. -/
def Zk (k : Nat) (z : Int) : Prop := (digs z.natAbs).length ≤ k
theorem Zk.mul {k l : Nat} {a b : Int} (ha : Zk k a) (hb : Zk l b) : Zk (k + l) (a * b) := by
  unfold Zk at *
  rw [Int.natAbs_mul]
  have := digs_mul a.natAbs b.natAbs
  omega
theorem Zk.add {k : Nat} {a b : Int} (ha : Zk k a) (hb : Zk k b) : Zk (k + 1) (a + b) := by
  unfold Zk at *
  have h1 := digs_add_len a.natAbs b.natAbs
  have h2 := digs_mono _ _ (Int.natAbs_add_le a b)
  omega
theorem Zk.wd {k : Nat} {a : Int} (h : Zk k a) (hk : k ≤ 100) : Wd a := Nat.le_trans h hk
theorem Zk.small {z : Int} {k : Nat} (h : z.natAbs < 1000000000 ^ k) : Zk k z := digs_len k _ h
theorem Rk.num {k : Nat} {q : Rat} (h : Rk k q) : Zk k q.num := h.1
theorem Rk.den {k : Nat} {q : Rat} (h : Rk k q) : Zk k (q.den : Nat) := by
  unfold Zk
  rw [Int.natAbs_natCast]
  exact h.2
theorem Rk.divI {k : Nat} {n d : Int} (hd : d ≠ 0) (h1 : Zk k n) (h2 : Zk k d) : Rk k (Rat.divInt n d) := Rk.of hd h1 h2
theorem rat_add (p q : Rat) : p + q = Rat.divInt (p.num * (q.den : Nat) + q.num * (p.den : Nat)) ((p.den : Nat) * (q.den : Nat)) := by
  rw [Rat.add_def', ← Rat.divInt_ofNat]
  push_cast
  rfl
theorem rat_mul (p q : Rat) : p * q = Rat.divInt (p.num * q.num) ((p.den : Nat) * (q.den : Nat)) := by
  rw [Rat.mul_def', ← Rat.divInt_ofNat]
  push_cast
  rfl
theorem den_pos (q : Rat) : 0 < (q.den : Int) := by have := q.den_pos; omega
theorem Rk.add {k l : Nat} {p q : Rat} (hp : Rk k p) (hq : Rk l q) : Rk (k + l + 1) (p + q) := by
  rw [rat_add]
  have hd : ((p.den : Nat) * (q.den : Nat) : Int) ≠ 0 := Int.ne_of_gt (Int.mul_pos (den_pos p) (den_pos q))
  refine Rk.divI hd ?_ ?_
  · have h1 := hp.num.mul hq.den
    have h2 := hq.num.mul hp.den
    rw [Nat.add_comm l k] at h2
    exact h1.add h2
  · exact Nat.le_trans (hp.den.mul hq.den) (Nat.le_succ _)
theorem Rk.mul {k l : Nat} {p q : Rat} (hp : Rk k p) (hq : Rk l q) : Rk (k + l) (p * q) := by
  rw [rat_mul]
  exact Rk.divI (Int.ne_of_gt (Int.mul_pos (den_pos p) (den_pos q))) (hp.num.mul hq.num) (hp.den.mul hq.den)
theorem Rk.neg {k : Nat} {p : Rat} (hp : Rk k p) : Rk k (-p) := by
  refine ⟨?_, hp.2⟩
  rw [Rat.neg_num, Int.natAbs_neg]
  exact hp.1
theorem Rk.sub {k l : Nat} {p q : Rat} (hp : Rk k p) (hq : Rk l q) : Rk (k + l + 1) (p - q) := by
  rw [Rat.sub_eq_add_neg]
  exact hp.add hq.neg
theorem rat_div (p q : Rat) : p / q = Rat.divInt (p.num * (q.den : Nat)) ((p.den : Nat) * q.num) := by
  have h1 : p / q = Rat.divInt p.num (p.den : Nat) * Rat.divInt (q.den : Nat) q.num := by
    rw [Rat.div_def, Rat.inv_def, Rat.num_divInt_den]
  rw [h1, Rat.divInt_mul_divInt]
theorem rk_int {z : Int} {k : Nat} (h : Zk (k + 1) z) : Rk (k + 1) (z : Rat) := by
  refine ⟨?_, ?_⟩
  · exact h
  · show (digs (1 : Nat)).length ≤ k + 1
    exact Nat.le_trans (digs_len 1 1 (by decide)) (by omega)
end Go.Tr

/- Plain laws: fractions in lowest terms. Conditions: none. (In chapter 5 in the place of TrSX.) -/
namespace Go.Tr
open Go Go.Proofs
set_option maxRecDepth 20000
set_option maxHeartbeats 8000000

def gcdI (a b : Int) : Int := (Nat.gcd a.natAbs b.natAbs : Nat)
def fracG (a b : Int) : Int × Int := (a.tdiv (gcdI a b), b.tdiv (gcdI a b))
theorem gcdI_pos {a b : Int} (h : 0 < b) : 0 < gcdI a b ∧ gcdI a b ≤ b ∧ gcdI a b ∣ a ∧ gcdI a b ∣ b := by
  unfold gcdI
  have h1 : 0 < b.natAbs := by omega
  have h2 := Nat.gcd_pos_of_pos_right a.natAbs h1
  have h3 := Nat.gcd_le_right a.natAbs h1
  refine ⟨by omega, by omega, ?_, ?_⟩
  · exact Int.ofNat_dvd_left.2 (Nat.gcd_dvd_left _ _)
  · exact Int.ofNat_dvd_left.2 (Nat.gcd_dvd_right _ _)
theorem frac_parts {a b : Int} (hb : 0 < b) : ∃ g, 0 < g ∧ gcdI a b = g ∧ a = g * (fracG a b).1 ∧ b = g * (fracG a b).2 := by
  obtain ⟨hg, _, ⟨k1, e1⟩, ⟨k2, e2⟩⟩ := gcdI_pos (a := a) hb
  refine ⟨gcdI a b, hg, rfl, ?_, ?_⟩
  · show a = gcdI a b * a.tdiv (gcdI a b)
    conv => rhs; rhs; lhs; rw [e1]
    rw [Int.mul_tdiv_cancel_left _ (by omega)]
    exact e1
  · show b = gcdI a b * b.tdiv (gcdI a b)
    conv => rhs; rhs; lhs; rw [e2]
    rw [Int.mul_tdiv_cancel_left _ (by omega)]
    exact e2
abbrev gaF (f : Int × Int) : AV := .agg [i64 f.1, i64 f.2]
end Go.Tr

/- Contracts: sums, products and comparisons of fractions of any size. Conditions: none. -/
namespace Go.Tr
open Go Go.Proofs
set_option maxRecDepth 20000
set_option maxHeartbeats 8000000

theorem wd_int {z : Int} (h : z.natAbs ≤ 9223372036854775808) : Wd z := Wd_small (Nat.lt_of_le_of_lt h (by decide))
theorem S86 (z : Int) (hz : -9223372036854775807 ≤ z ∧ z ≤ 9223372036854775807) : SP 86 [i64 z] (rA (z : Rat)) false := by
  have h1 := S148 z hz
  have h2 := S148 1 (by decide)
  show SP 86 [i64 z] (rA2 z 1) false
  refine sound (d := 2) tok2 mixed2 Tryz.func86 (by kernel_rfl) (by kernel_rfl) ?_
  conv => whnf
  refine .inl ⟨_, _, byX rfl (h1), ?_⟩
  conv => whnf
  refine .inl ⟨_, _, byX rfl (h2), ?_⟩
  conv => whnf
  refine ⟨?_, nofun⟩
  (first | rfl | exact ave_rA)
theorem S119 (n d : Int) (hn : -9223372036854775807 ≤ n ∧ n ≤ 9223372036854775807) (hd : -9223372036854775807 ≤ d ∧ d ≤ 9223372036854775807) (h0 : d ≠ 0) : SP 119 [i64 n, i64 d] (rA (Rat.divInt n d)) false := by
  have h1 := S148 n hn
  have h2 := S148 d hd
  have h3 := S146 n d (wd_int (by omega)) (wd_int (by omega)) h0
  refine sound (d := 2) tok2 mixed2 Tryz.func119 (by kernel_rfl) (by kernel_rfl) ?_
  conv => whnf
  refine .inl ⟨_, _, byX rfl (h1), ?_⟩
  conv => whnf
  refine .inl ⟨_, _, byX rfl (h2), ?_⟩
  conv => whnf
  refine .inl ⟨_, _, byX rfl (h3), ?_⟩
  conv => whnf
  refine ⟨?_, nofun⟩
  (first | rfl | exact ave_rA)
theorem S85 (f : Int × Int) (hn : -9223372036854775807 ≤ f.1 ∧ f.1 ≤ 9223372036854775807) (hd : 1 ≤ f.2 ∧ f.2 ≤ 9223372036854775807) : SP 85 [gaF f] (rA (Rat.divInt f.1 f.2)) false := by
  have h1 := S119 f.1 f.2 hn (by omega) (by omega)
  refine sound (d := 2) tok2 mixed2 Tryz.func85 (by kernel_rfl) (by kernel_rfl) ?_
  conv => whnf
  refine .inl ⟨_, _, byX rfl (h1), ?_⟩
  conv => whnf
  refine ⟨?_, nofun⟩
  (first | rfl | exact ave_rA)
theorem S122 {k l : Nat} (p q : Rat) (hp : Rk k p) (hq : Rk l q) (hk : k + l < 100) : SP 122 [rA p, rA q] (rA (p + q)) false := by
  have d0 : ((p.den : Nat) * (q.den : Nat) : Int) ≠ 0 := Int.ne_of_gt (Int.mul_pos (den_pos p) (den_pos q))
  have z1 := hp.num.mul hq.den
  have z2 := hq.num.mul hp.den
  rw [Nat.add_comm l k] at z2
  have h1 := S147 p.num (q.den : Nat) (hp.wd (by omega)).1 (hq.wd (by omega)).2
  have h2 := S147 q.num (p.den : Nat) (hq.wd (by omega)).1 (hp.wd (by omega)).2
  have h3 := S164 (p.num * (q.den : Nat)) (q.num * (p.den : Nat)) (z1.wd (by omega)) (z2.wd (by omega))
  have h4 := S147 (p.den : Nat) (q.den : Nat) (hp.wd (by omega)).2 (hq.wd (by omega)).2
  have h5 := S146 (p.num * (q.den : Nat) + q.num * (p.den : Nat)) ((p.den : Nat) * (q.den : Nat)) ((z1.add z2).wd (by omega)) ((hp.den.mul hq.den).wd (by omega)) d0
  rw [← rat_add] at h5
  refine sound (d := 2) tok2 mixed2 Tryz.func122 (by kernel_rfl) (by kernel_rfl) ?_
  conv => whnf
  refine ⟨[], by kernel_rfl, ?_⟩
  conv => whnf
  refine .inl ⟨_, _, byX rfl (h1), ?_⟩
  conv => whnf
  refine .inl ⟨_, _, byX rfl (h2), ?_⟩
  conv => whnf
  refine .inl ⟨_, _, byX rfl (h3), ?_⟩
  conv => whnf
  refine .inl ⟨_, _, byX rfl (h4), ?_⟩
  conv => whnf
  refine .inl ⟨_, _, byX rfl (h5), ?_⟩
  conv => whnf
  refine ⟨?_, nofun⟩
  (first | rfl | exact ave_rA)
theorem S121 {k l : Nat} (p q : Rat) (hp : Rk k p) (hq : Rk l q) (hk : k + l ≤ 100) : SP 121 [rA p, rA q] (rA (p * q)) false := by
  have d0 : ((p.den : Nat) * (q.den : Nat) : Int) ≠ 0 := Int.ne_of_gt (Int.mul_pos (den_pos p) (den_pos q))
  have h1 := S147 p.num q.num (hp.wd (by omega)).1 (hq.wd (by omega)).1
  have h4 := S147 (p.den : Nat) (q.den : Nat) (hp.wd (by omega)).2 (hq.wd (by omega)).2
  have h5 := S146 (p.num * q.num) ((p.den : Nat) * (q.den : Nat)) ((hp.num.mul hq.num).wd (by omega)) ((hp.den.mul hq.den).wd (by omega)) d0
  rw [← rat_mul] at h5
  refine sound (d := 2) tok2 mixed2 Tryz.func121 (by kernel_rfl) (by kernel_rfl) ?_
  conv => whnf
  refine ⟨[], by kernel_rfl, ?_⟩
  conv => whnf
  refine .inl ⟨_, _, byX rfl (h1), ?_⟩
  conv => whnf
  refine .inl ⟨_, _, byX rfl (h4), ?_⟩
  conv => whnf
  refine .inl ⟨_, _, byX rfl (h5), ?_⟩
  conv => whnf
  refine ⟨?_, nofun⟩
  (first | rfl | exact ave_rA)
end Go.Tr

/- Plain laws: lists in strict order, each item once. Conditions: none. -/
/- Plain laws: sorting by insertion, for any order. Conditions: none. -/
/- Plain laws: the order of spots as fractions. Conditions: none. -/
namespace Go.Tr
open Go Go.Proofs
set_option maxRecDepth 20000
set_option maxHeartbeats 8000000

abbrev Q2 := Rat × Rat
def lt2 (a b : Q2) : Prop := a.1 < b.1 ∨ (a.1 = b.1 ∧ a.2 < b.2)
instance : DecidableRel lt2 := fun a b => inferInstanceAs (Decidable (a.1 < b.1 ∨ (a.1 = b.1 ∧ a.2 < b.2)))
abbrev Q3 := Rat × Rat × Rat
def lt3 (a b : Q3) : Prop := a.1 < b.1 ∨ (a.1 = b.1 ∧ lt2 a.2 b.2)
instance : DecidableRel lt3 := fun a b => inferInstanceAs (Decidable (a.1 < b.1 ∨ (a.1 = b.1 ∧ lt2 a.2 b.2)))
/-- Small parts. -/
def smR (q : Rat) : Prop := (-1000000000 ≤ q.num ∧ q.num ≤ 1000000000) ∧ q.den ≤ 1000000000
instance (q : Rat) : Decidable (smR q) := inferInstanceAs (Decidable ((-1000000000 ≤ q.num ∧ q.num ≤ 1000000000) ∧ q.den ≤ 1000000000))
/-- A fraction as a pair. -/
def frI (q : Rat) : Int × Int := (q.num, (q.den : Nat))
/-- A fraction in lowest terms, as the code makes it, is the fraction's. -/
theorem fracG_eq {a b : Int} (hb : 0 < b) : fracG a b = frI (Rat.divInt a b) := by
  obtain ⟨g, hg, he, h1, h2⟩ := frac_parts (a := a) hb
  have e : gcdI a b = (Int.gcd a b : Nat) := rfl
  unfold frI
  rw [div_num hb, div_den hb]
  unfold fracG
  rw [e]
  have hgp : 0 < (Int.gcd a b : Int) := by rw [← e, he]; exact hg
  have hd1 : ((Int.gcd a b : Nat) : Int) ∣ a := Int.gcd_dvd_left ..
  have hd2 : ((Int.gcd a b : Nat) : Int) ∣ b := Int.gcd_dvd_right ..
  rw [Int.tdiv_eq_ediv_of_dvd hd1, Int.tdiv_eq_ediv_of_dvd hd2]
end Go.Tr

/- Plain laws of chapter 5: numbers over one denominator as fractions; curves; what lies on a line. Conditions: none. -/
namespace Go.Tr
open Go Go.Proofs
set_option maxRecDepth 20000
set_option maxHeartbeats 8000000

abbrev P3 := Int × Int × Int
def p0 : P3 := (0, 0, 0)
/-- Numbers over one denominator. -/
abbrev Nm := P3 × Int
def n0 : Nm := (p0, 0)
theorem cast_ne {d : Int} (h : d ≠ 0) : (d : Rat) ≠ 0 := by simpa using h
def crossB (a b : Int) : Prop := (a < 0 ∧ b > 0) ∨ (a > 0 ∧ b < 0)
instance (a b : Int) : Decidable (crossB a b) := inferInstanceAs (Decidable ((a < 0 ∧ b > 0) ∨ (a > 0 ∧ b < 0)))
def q0 : Q3 := (0, 0, 0)
def sgR (q : Rat) : Int := sgI q.num
end Go.Tr

/- Plain laws of chapter 5: tables. Conditions: none. -/
namespace Go.Tr
open Go Go.Proofs
set_option maxRecDepth 20000
set_option maxHeartbeats 8000000

structure MRow where
  o : Int
  ps : List P3
def r0 : MRow := ⟨0, []⟩
def turnI (a b c : P3) : Int := (b.1 - a.1) * (c.2.1 - a.2.1) - (c.1 - a.1) * (b.2.1 - a.2.1)
/-- The first place whose error is not 0, out of n places from k on. -/
def fstE (f : Nat → Int) : Nat → Nat → Int × Int
  | 0, _ => (0, 0)
  | n + 1, k => if f k ≠ 0 then ((k : Int), f k) else fstE f n (k + 1)
theorem fstE_all {f : Nat → Int} : ∀ {n k : Nat}, (fstE f n k).2 = 0 → ∀ i, k ≤ i → i < k + n → f i = 0
  | 0, k, _, i, h1, h2 => by omega
  | n + 1, k, h, i, h1, h2 => by
    unfold fstE at h
    by_cases hk : f k = 0
    · rw [if_neg (not_not_intro hk)] at h
      by_cases e : i = k
      · rw [e]; exact hk
      · exact fstE_all h i (by omega) (by omega)
    · rw [if_pos hk] at h; exact absurd h hk
def pntE (p : P3) : Int := if (-1000 ≤ p.1 ∧ p.1 ≤ 1000) ∧ (-1000 ≤ p.2.1 ∧ p.2.1 ≤ 1000) ∧ -10000 ≤ p.2.2 ∧ p.2.2 ≤ 10000 then 0 else 2
def pntsE (l : List P3) : Int := (fstE (fun k => pntE (l.getD k p0)) l.length 0).2
def npT (t : List MRow) : Nat := (t.getD 0 r0).ps.length
/-- The error of a row by itself, and that of its opening's order. -/
def rowA (t : List MRow) (i : Nat) : Int :=
  if ¬ (0 ≤ (t.getD i r0).o ∧ (t.getD i r0).o ≤ 100) then 2
  else if ¬ (2 ≤ (t.getD i r0).ps.length ∧ (t.getD i r0).ps.length = npT t) then 10
  else if 6 < (t.getD i r0).ps.length then 8
  else pntsE (t.getD i r0).ps
def rowO (t : List MRow) (i : Nat) : Int :=
  if i = 0 then 0 else if (t.getD i r0).o ≤ (t.getD (i - 1) r0).o then 9 else if (t.getD i r0).o - (t.getD (i - 1) r0).o > 20 then 22 else 0
def rowX (t : List MRow) (i : Nat) : Int := if rowA t i ≠ 0 then rowA t i else rowO t i
def ptT (t : List MRow) (i k : Nat) : P3 := (t.getD i r0).ps.getD k p0
/-- The double areas of the two triangles behind a point. -/
def tri1 (t : List MRow) (i k : Nat) : Int := turnI (ptT t i k) (ptT t i (k + 1)) (ptT t (i + 1) k)
def tri2 (t : List MRow) (i k : Nat) : Int := turnI (ptT t i (k + 1)) (ptT t (i + 1) (k + 1)) (ptT t (i + 1) k)
def quadE (t : List MRow) (i k : Nat) : Int := if tri1 t i k ≤ 0 then 13 else if tri2 t i k ≤ 0 then 13 else 0
def stripE (t : List MRow) (i : Nat) : Int := (fstE (quadE t i) ((t.getD i r0).ps.length - 1) 0).2
def chkM (t : List MRow) : Int × Int :=
  if t.length < 2 then (0, 10) else if t.length > 6 then (0, 8)
  else if (fstE (rowX t) t.length 0).2 ≠ 0 then fstE (rowX t) t.length 0 else fstE (stripE t) (t.length - 1) 0
/-- A valid table. -/
structure TblOk (t : List MRow) : Prop where
  n : 2 ≤ t.length ∧ t.length ≤ 6
  np : 2 ≤ npT t ∧ npT t ≤ 6
  len : ∀ i, i < t.length → (t.getD i r0).ps.length = npT t
  op : ∀ i, i < t.length → 0 ≤ (t.getD i r0).o ∧ (t.getD i r0).o ≤ 100
  ord : ∀ i, i + 1 < t.length → (t.getD i r0).o < (t.getD (i + 1) r0).o ∧ (t.getD (i + 1) r0).o - (t.getD i r0).o ≤ 20
  pts : ∀ i k, i < t.length → k < npT t → (-1000 ≤ (ptT t i k).1 ∧ (ptT t i k).1 ≤ 1000) ∧ (-1000 ≤ (ptT t i k).2.1 ∧ (ptT t i k).2.1 ≤ 1000) ∧ -10000 ≤ (ptT t i k).2.2 ∧ (ptT t i k).2.2 ≤ 10000
  ar : ∀ i k, i + 1 < t.length → k + 1 < npT t → 0 < tri1 t i k ∧ 0 < tri2 t i k
theorem rowA_ok {t : List MRow} {i : Nat} (h : rowA t i = 0) : (0 ≤ (t.getD i r0).o ∧ (t.getD i r0).o ≤ 100) ∧ (2 ≤ (t.getD i r0).ps.length ∧ (t.getD i r0).ps.length = npT t) ∧ (t.getD i r0).ps.length ≤ 6 ∧ pntsE (t.getD i r0).ps = 0 := by
  unfold rowA at h
  by_cases h1 : 0 ≤ (t.getD i r0).o ∧ (t.getD i r0).o ≤ 100
  · rw [if_neg (not_not_intro h1)] at h
    by_cases h2 : 2 ≤ (t.getD i r0).ps.length ∧ (t.getD i r0).ps.length = npT t
    · rw [if_neg (not_not_intro h2)] at h
      by_cases h3 : 6 < (t.getD i r0).ps.length
      · rw [if_pos h3] at h; exact absurd h (by decide)
      · rw [if_neg h3] at h
        exact ⟨h1, h2, by omega, h⟩
    · rw [if_pos h2] at h; exact absurd h (by decide)
  · rw [if_pos h1] at h; exact absurd h (by decide)
theorem pntE_ok {p : P3} (h : pntE p = 0) : (-1000 ≤ p.1 ∧ p.1 ≤ 1000) ∧ (-1000 ≤ p.2.1 ∧ p.2.1 ≤ 1000) ∧ -10000 ≤ p.2.2 ∧ p.2.2 ≤ 10000 := by
  unfold pntE at h
  by_cases h1 : (-1000 ≤ p.1 ∧ p.1 ≤ 1000) ∧ (-1000 ≤ p.2.1 ∧ p.2.1 ≤ 1000) ∧ -10000 ≤ p.2.2 ∧ p.2.2 ≤ 10000
  · exact h1
  · rw [if_neg h1] at h; exact absurd h (by decide)
theorem TblOk.of {t : List MRow} (h : (chkM t).2 = 0) : TblOk t := by
  unfold chkM at h
  by_cases h1 : t.length < 2
  · rw [if_pos h1] at h; exact absurd h (by decide)
  · rw [if_neg h1] at h
    by_cases h2 : t.length > 6
    · rw [if_pos h2] at h; exact absurd h (by decide)
    · rw [if_neg h2] at h
      by_cases h3 : (fstE (rowX t) t.length 0).2 = 0
      · rw [if_neg (not_not_intro h3)] at h
        have hr : ∀ i, i < t.length → rowX t i = 0 := fun i hi => fstE_all h3 i (Nat.zero_le _) (by omega)
        have hA : ∀ i, i < t.length → rowA t i = 0 := fun i hi => by
          have := hr i hi
          unfold rowX at this
          by_cases e : rowA t i = 0
          · exact e
          · rw [if_pos e] at this; exact this
        have hO : ∀ i, i < t.length → rowO t i = 0 := fun i hi => by
          have := hr i hi
          unfold rowX at this
          rwa [if_neg (not_not_intro (hA i hi))] at this
        have hlen : ∀ i, i < t.length → (t.getD i r0).ps.length = npT t := fun i hi => (rowA_ok (hA i hi)).2.1.2
        have hp0 := rowA_ok (hA 0 (by omega))
        refine ⟨by omega, ⟨hp0.2.1.1, hp0.2.2.1⟩, hlen, fun i hi => (rowA_ok (hA i hi)).1, fun i hi => ?_, fun i k hi hk => ?_, fun i k hi hk => ?_⟩
        · have := hO (i + 1) hi
          unfold rowO at this
          rw [if_neg (by omega), show i + 1 - 1 = i by omega] at this
          by_cases e1 : (t.getD (i + 1) r0).o ≤ (t.getD i r0).o
          · rw [if_pos e1] at this; exact absurd this (by decide)
          · rw [if_neg e1] at this
            by_cases e2 : (t.getD (i + 1) r0).o - (t.getD i r0).o > 20
            · rw [if_pos e2] at this; exact absurd this (by decide)
            · omega
        · have := (rowA_ok (hA i hi)).2.2.2
          have := fstE_all this k (Nat.zero_le _) (by rw [hlen i hi]; omega)
          exact pntE_ok this
        · have := fstE_all h i (Nat.zero_le _) (by omega)
          have := fstE_all this k (Nat.zero_le _) (by rw [hlen i (by omega)]; omega)
          unfold quadE at this
          by_cases e1 : tri1 t i k ≤ 0
          · rw [if_pos e1] at this; exact absurd this (by decide)
          · rw [if_neg e1] at this
            by_cases e2 : tri2 t i k ≤ 0
            · rw [if_pos e2] at this; exact absurd this (by decide)
            · omega
      · rw [if_pos h3] at h; exact absurd h h3
end Go.Tr

/- Contracts of chapter 5: fractions, spots by themselves. Conditions: none. -/
-- seat YtgbdlkajmmjahaaGreat
namespace Go.Tr
open Go Go.Proofs
set_option maxRecDepth 20000
set_option maxHeartbeats 8000000

/-- Is a value no struct? -/
def AV.atom : AV → Prop
  | .agg _ | .tuple _ => False
  | _ => True
theorem ave_atom {k : Nat} (x : AV) (h : x.atom) : AVE (k + 1) x x := by
  cases x <;> first | exact h.elim | rfl | exact ⟨rfl, rfl, fun _ _ => rfl⟩
theorem ave_aggR {k : Nat} {l : List AV} (h : ∀ x ∈ l, x.atom) : AVE (k + 2) (.agg l) (.agg l) :=
  ⟨rfl, fun i x y hx hy => by
    rw [hx] at hy; cases hy
    rw [nth?_eq] at hx
    exact ave_atom x (h x (List.mem_of_getElem? hx))⟩
theorem S151 (a b : Int) (ha : -9223372036854775808 ≤ a ∧ a ≤ 9223372036854775807) (hb : 0 < b ∧ b ≤ 9223372036854775807) : SP 151 [i64 a, i64 b] (i64 (gcdI a b)) false := by
  unfold gcdI
  refine sound (d := 2) tok2 mixed2 Tryz.func151 (by kernel_rfl) (by kernel_rfl) ?_
  conv => whnf
  refine ⟨[], [0, 1], fun st mq => ∃ (x : Int) (y : Int), (-9223372036854775808 ≤ x ∧ x ≤ 9223372036854775807) ∧ (-9223372036854775807 ≤ y ∧ y ≤ 9223372036854775807) ∧ (y = 0 → -9223372036854775807 ≤ x) ∧ (Nat.gcd x.natAbs y.natAbs = Nat.gcd a.natAbs b.natAbs) ∧ st = ⟨[(0, i64 x), (1, i64 y)], ⟨[], [], none, 0⟩, []⟩ ∧ mq = y.natAbs,
    ⟨_, _, ⟨a, b, ha, by omega, (fun h => by omega), rfl, rfl, rfl⟩, ⟨⟨.inl rfl, rfl, rfl, rfl⟩, trivial, trivial⟩⟩, ?_⟩
  rintro s0 m0 ⟨x, y, hx, hy, hz, hg, rfl, hmeas⟩
  by_cases h0 : y = 0
  · have hx0 := hz h0
    subst h0
    conv => whnf
    conv => whnf
    refine ⟨inK64 (by omega) (by omega), ?_⟩
    conv => whnf
    conv => whnf
    refine ⟨?_, nofun⟩
    exact endi (by rw [← hg]; simp; split <;> omega)
  · have ht := tmod_lt (a := x) h0
    conv => whnf
    conv => whnf
    refine ifB_bne (fun w1 => ?_) (fun w1 => ?_)
    · conv => whnf
      conv => whnf
      refine ⟨[], by kernel_rfl, ?_⟩
      conv => whnf
      conv => whnf
      refine ⟨(by omega), ?_⟩
      conv => whnf
      conv => whnf
      refine ⟨_, _, ⟨⟨y, x.tmod y, by omega, by omega, (fun _ => by omega), (by rw [← hg, Int.natAbs_tmod, Nat.gcd_comm x.natAbs, Nat.gcd_rec y.natAbs x.natAbs, Nat.gcd_comm]), rfl, rfl⟩, by omega⟩, ⟨⟨.inl rfl, rfl, rfl, rfl⟩, trivial, trivial⟩⟩
    · (exfalso; omega)
theorem S167g (a b : Int) (ha : -9223372036854775808 ≤ a ∧ a ≤ 9223372036854775807) (hb : 0 < b ∧ b ≤ 9223372036854775807) : SP 167 [i64 a, i64 b] (i64 (gcdI a b)) false := by
  unfold gcdI
  refine sound (d := 2) tok2 mixed2 Tryz.func167 (by kernel_rfl) (by kernel_rfl) ?_
  conv => whnf
  refine ⟨[], [0, 1], fun st mq => ∃ (x : Int) (y : Int), (-9223372036854775808 ≤ x ∧ x ≤ 9223372036854775807) ∧ (-9223372036854775807 ≤ y ∧ y ≤ 9223372036854775807) ∧ (y = 0 → -9223372036854775807 ≤ x) ∧ (Nat.gcd x.natAbs y.natAbs = Nat.gcd a.natAbs b.natAbs) ∧ st = ⟨[(0, i64 x), (1, i64 y)], ⟨[], [], none, 0⟩, []⟩ ∧ mq = y.natAbs,
    ⟨_, _, ⟨a, b, ha, by omega, (fun h => by omega), rfl, rfl, rfl⟩, ⟨⟨.inl rfl, rfl, rfl, rfl⟩, trivial, trivial⟩⟩, ?_⟩
  rintro s0 m0 ⟨x, y, hx, hy, hz, hg, rfl, hmeas⟩
  by_cases h0 : y = 0
  · have hx0 := hz h0
    have h129 := S129 x (by omega)
    subst h0
    conv => whnf
    conv => whnf
    refine .inl ⟨_, _, byX rfl (Sound1.pl (h129) rfl), ?_⟩
    conv => whnf
    conv => whnf
    refine ⟨?_, nofun⟩
    exact endi (by rw [← hg]; simp)
  · have ht := tmod_lt (a := x) h0
    conv => whnf
    conv => whnf
    refine ifB_bne (fun w1 => ?_) (fun w1 => ?_)
    · conv => whnf
      conv => whnf
      refine ⟨[], by kernel_rfl, ?_⟩
      conv => whnf
      conv => whnf
      refine ⟨(by omega), ?_⟩
      conv => whnf
      conv => whnf
      refine ⟨_, _, ⟨⟨y, x.tmod y, by omega, by omega, (fun _ => by omega), (by rw [← hg, Int.natAbs_tmod, Nat.gcd_comm x.natAbs, Nat.gcd_rec y.natAbs x.natAbs, Nat.gcd_comm]), rfl, rfl⟩, by omega⟩, ⟨⟨.inl rfl, rfl, rfl, rfl⟩, trivial, trivial⟩⟩
    · (exfalso; omega)
/-- Lowest terms, and a denominator above 0. -/
def lowF (f : Int × Int) : Prop := 0 < f.2 ∧ gcdI f.1 f.2 = 1
instance (f : Int × Int) : Decidable (lowF f) := inferInstanceAs (Decidable (0 < f.2 ∧ gcdI f.1 f.2 = 1))
def FrI (f : Int × Int) : Prop := (-9223372036854775808 ≤ f.1 ∧ f.1 ≤ 9223372036854775807) ∧ -9223372036854775808 ≤ f.2 ∧ f.2 ≤ 9223372036854775807
theorem S165 (f : Int × Int) (h : FrI f) : SP 165 [gaF f] (vb (decide (lowF f))) false := by
  unfold lowF
  by_cases hd : 0 < f.2
  · have h1 := S151 f.1 f.2 h.1 ⟨hd, h.2.2⟩
    refine sound (d := 2) tok2 mixed2 Tryz.func165 (by kernel_rfl) (by kernel_rfl) ?_
    conv => whnf
    refine ifB_dec (fun w1 => ?_) (fun w1 => ?_)
    · conv => whnf
      refine .inl ⟨_, _, byX rfl (Sound1.pl (h1) rfl), ?_⟩
      conv => whnf
      refine ⟨?_, nofun⟩
      exact endb (by simp [hd]; rfl)
    · (exfalso; omega)
  · refine sound (d := 2) tok2 mixed2 Tryz.func165 (by kernel_rfl) (by kernel_rfl) ?_
    conv => whnf
    refine ifB_dec (fun w1 => ?_) (fun w1 => ?_)
    · (exfalso; omega)
    · conv => whnf
      refine ⟨?_, nofun⟩
      exact endb (by simp [hd])
theorem S130g (f : Int × Int) (h : FrI f) : SP 130 [gaF f] (vb (decide (lowF f))) false := by
  unfold lowF
  by_cases hd : 0 < f.2
  · have h1 := S167g f.1 f.2 h.1 ⟨hd, h.2.2⟩
    refine sound (d := 2) tok2 mixed2 Tryz.func130 (by kernel_rfl) (by kernel_rfl) ?_
    conv => whnf
    refine ifB_dec (fun w1 => ?_) (fun w1 => ?_)
    · conv => whnf
      refine .inl ⟨_, _, byX rfl (Sound1.pl (h1) rfl), ?_⟩
      conv => whnf
      refine ⟨?_, nofun⟩
      exact endb (by simp [hd]; rfl)
    · (exfalso; omega)
  · refine sound (d := 2) tok2 mixed2 Tryz.func130 (by kernel_rfl) (by kernel_rfl) ?_
    conv => whnf
    refine ifB_dec (fun w1 => ?_) (fun w1 => ?_)
    · (exfalso; omega)
    · conv => whnf
      refine ⟨?_, nofun⟩
      exact endb (by simp [hd])
end Go.Tr

/- Contracts of chapter 5: quotients of whole numbers, spots, fractions of any size as small ones. Conditions: none. -/
-- seat YtgbdlkajmmjahaaGreat
namespace Go.Tr
open Go Go.Proofs
set_option maxRecDepth 20000
set_option maxHeartbeats 8000000

def frcE (f : Int × Int) : Int := if lowF f then (if (-10000 ≤ f.1 ∧ f.1 ≤ 10000) ∧ f.2 ≤ 10000 then 0 else 2) else 3
theorem S127 (f : Int × Int) (h : FrI f) : SP 127 [gaF f] (i64 (frcE f)) false := by
  have h1 := S130g f h
  have h2 := S36 f.1 (-10000) 10000
  unfold frcE
  by_cases hl : lowF f
  · rw [decide_eq_true hl] at h1
    rw [if_pos hl]
    refine sound (d := 2) tok2 mixed2 Tryz.func127 (by kernel_rfl) (by kernel_rfl) ?_
    conv => whnf
    refine .inl ⟨_, _, byX rfl (Sound1.pl (h1) rfl), ?_⟩
    conv => whnf
    refine .inl ⟨_, _, byX rfl (Sound1.pl (h2) rfl), ?_⟩
    conv => whnf
    refine ifB_not ?_
    conv => whnf
    refine ifB_dec (fun w1 => ?_) (fun w1 => ?_)
    · conv => whnf
      refine ifB_dec (fun w2 => ?_) (fun w2 => ?_)
      · conv => whnf
        refine ⟨?_, nofun⟩
        exact endi (if_neg (fun h => by omega)).symm
      · conv => whnf
        refine ⟨?_, nofun⟩
        exact endi (if_pos ⟨by assumption, by omega⟩).symm
    · conv => whnf
      refine ⟨?_, nofun⟩
      exact endi (if_neg (fun h => by omega)).symm
  · rw [decide_eq_false hl] at h1
    rw [if_neg hl]
    refine sound (d := 2) tok2 mixed2 Tryz.func127 (by kernel_rfl) (by kernel_rfl) ?_
    conv => whnf
    refine .inl ⟨_, _, byX rfl (Sound1.pl (h1) rfl), ?_⟩
    conv => whnf
    refine ⟨?_, nofun⟩
    (first | rfl | contradiction)
/-- A spot with whole parts. -/
abbrev F3 := (Int × Int) × (Int × Int) × Int × Int
abbrev spC (s : F3) : List AV := [i64 s.1.1, i64 s.1.2, i64 s.2.1.1, i64 s.2.1.2, i64 s.2.2.1, i64 s.2.2.2]
abbrev spA (s : F3) : AV := .agg (spC s)
def F3I (s : F3) : Prop := FrI s.1 ∧ FrI s.2.1 ∧ FrI s.2.2
def spE (s : F3) : Int := if frcE s.1 ≠ 0 then frcE s.1 else if frcE s.2.1 ≠ 0 then frcE s.2.1 else frcE s.2.2
theorem S57 (s : F3) (h : F3I s) : SP 57 [spA s] (i64 (spE s)) false := by
  have h1 := S127 s.1 h.1
  have h2 := S127 s.2.1 h.2.1
  have h3 := S127 s.2.2 h.2.2
  unfold spE
  refine sound (d := 2) tok2 mixed2 Tryz.func57 (by kernel_rfl) (by kernel_rfl) ?_
  conv => whnf
  refine ⟨[], [3, 4], fun st mq => ∃ (i : Nat) (F0 : Nat → List AV), (i ≤ 3) ∧ (0 < i → frcE s.1 = 0) ∧ (1 < i → frcE s.2.1 = 0) ∧ (2 < i → frcE s.2.2 = 0) ∧ st = ⟨[(3, .oslice 1 0 0 3 (some 3)), (4, i64 i)], ⟨[⟨6, 1, F0, 0, false, true, false⟩, ⟨2, 3, fun j => ((spC s).drop (j * 2)).take 2, 0, false, true, false⟩], [], none, 0⟩, []⟩ ∧ mq = 3 - i,
    ⟨_, _, ⟨0, _, by omega, nofun, nofun, nofun, rfl, rfl⟩, ⟨⟨.inl rfl, rfl, rfl, rfl⟩, ⟨⟨rfl, rfl, rfl, rfl, fun _ => rfl, fun _ _ => .inl rfl⟩, ⟨⟨rfl, rfl, rfl, rfl, fun _ => rfl, fun _ _ => .inl rfl⟩, trivial⟩⟩, trivial⟩⟩, ?_⟩
  rintro s0 m0 ⟨i, F0, hi, h0, h00, h000, rfl, hmeas⟩
  have hcs : i = 0 ∨ i = 1 ∨ i = 2 ∨ i = 3 := by omega
  rcases hcs with rfl | rfl | rfl | rfl
  · conv => whnf
    conv => whnf
    refine ⟨⟨(by omega), (by omega)⟩, ?_⟩
    conv => whnf
    conv => whnf
    refine .inl ⟨_, _, byX rfl (Sound1.pl (h1) rfl), ?_⟩
    conv => whnf
    conv => whnf
    refine ifB_bne (fun w1 => ?_) (fun w1 => ?_)
    · conv => whnf
      conv => whnf
      refine ⟨?_, nofun⟩
      rw [if_pos (by assumption)]; rfl
    · conv => whnf
      conv => whnf
      refine ⟨inK64 (by omega) (by omega), ?_⟩
      conv => whnf
      conv => whnf
      refine ⟨_, _, ⟨⟨1, _, by omega, (fun _ => by omega), (fun h => absurd h (by decide)), (fun h => absurd h (by decide)), rfl, rfl⟩, by omega⟩, ⟨⟨.inl rfl, rfl, rfl, rfl⟩, ⟨⟨rfl, rfl, rfl, rfl, fun _ => rfl, fun _ _ => .inl rfl⟩, ⟨⟨rfl, rfl, rfl, rfl, fun _ => rfl, fun _ _ => .inl rfl⟩, trivial⟩⟩, trivial⟩⟩
  · have e0 := h0 (by decide)
    rw [if_neg (not_not_intro e0)]
    conv => whnf
    conv => whnf
    refine ⟨⟨(by omega), (by omega)⟩, ?_⟩
    conv => whnf
    conv => whnf
    refine .inl ⟨_, _, byX rfl (Sound1.pl (h2) rfl), ?_⟩
    conv => whnf
    conv => whnf
    refine ifB_bne (fun w1 => ?_) (fun w1 => ?_)
    · conv => whnf
      conv => whnf
      refine ⟨?_, nofun⟩
      rw [if_pos (by assumption)]; rfl
    · conv => whnf
      conv => whnf
      refine ⟨inK64 (by omega) (by omega), ?_⟩
      conv => whnf
      conv => whnf
      refine ⟨_, _, ⟨⟨2, _, by omega, (fun _ => e0), (fun _ => by omega), (fun h => absurd h (by decide)), rfl, rfl⟩, by omega⟩, ⟨⟨.inl rfl, rfl, rfl, rfl⟩, ⟨⟨rfl, rfl, rfl, rfl, fun _ => rfl, fun _ _ => .inl rfl⟩, ⟨⟨rfl, rfl, rfl, rfl, fun _ => rfl, fun _ _ => .inl rfl⟩, trivial⟩⟩, trivial⟩⟩
  · have e0 := h0 (by decide)
    have e1 := h00 (by decide)
    rw [if_neg (not_not_intro e0), if_neg (not_not_intro e1)]
    conv => whnf
    conv => whnf
    refine ⟨⟨(by omega), (by omega)⟩, ?_⟩
    conv => whnf
    conv => whnf
    refine .inl ⟨_, _, byX rfl (Sound1.pl (h3) rfl), ?_⟩
    conv => whnf
    conv => whnf
    refine ifB_bne (fun w1 => ?_) (fun w1 => ?_)
    · conv => whnf
      conv => whnf
      refine ⟨?_, nofun⟩
      (first | rfl)
    · conv => whnf
      conv => whnf
      refine ⟨inK64 (by omega) (by omega), ?_⟩
      conv => whnf
      conv => whnf
      refine ⟨_, _, ⟨⟨3, _, by omega, (fun _ => e0), (fun _ => e1), (fun _ => by omega), rfl, rfl⟩, by omega⟩, ⟨⟨.inl rfl, rfl, rfl, rfl⟩, ⟨⟨rfl, rfl, rfl, rfl, fun _ => rfl, fun _ _ => .inl rfl⟩, ⟨⟨rfl, rfl, rfl, rfl, fun _ => rfl, fun _ _ => .inl rfl⟩, trivial⟩⟩, trivial⟩⟩
  · rw [if_neg (not_not_intro (h0 (by decide))), if_neg (not_not_intro (h00 (by decide))), h000 (by decide)]
    conv => whnf
    conv => whnf
    refine ⟨?_, nofun⟩
    (first | rfl)
theorem fqA {f : Int × Int} (h : -10000 ≤ f.1 ∧ f.1 ≤ 10000) : firstOf [if decide (lowF f) = true then 0 else 3, if decide (f.2 ≤ 10000) = true then 0 else 2] = frcE f := by
  rw [first2]
  unfold frcE
  by_cases h1 : lowF f
  · have e : (if decide (lowF f) = true then (0 : Int) else 3) = 0 := if_pos (decide_eq_true h1)
    rw [e, if_neg (by decide), if_pos h1]
    by_cases h2 : f.2 ≤ 10000
    · rw [if_pos (decide_eq_true h2), if_pos ⟨h, h2⟩]
    · rw [if_neg (by simpa using h2), if_neg (fun e => h2 e.2)]
  · have e : (if decide (lowF f) = true then (0 : Int) else 3) = 3 := if_neg (by simp [h1])
    rw [e, if_pos (by decide), if_neg h1]
theorem fqB {f : Int × Int} (h : ¬ (-10000 ≤ f.1 ∧ f.1 ≤ 10000)) : firstOf [if decide (lowF f) = true then 0 else 3, if false = true then 0 else 2] = frcE f := by
  rw [first2]
  unfold frcE
  by_cases h1 : lowF f
  · have e : (if decide (lowF f) = true then (0 : Int) else 3) = 0 := if_pos (decide_eq_true h1)
    have e2 : (if (-10000 ≤ f.1 ∧ f.1 ≤ 10000) ∧ f.2 ≤ 10000 then (0 : Int) else 2) = 2 := if_neg (fun e => h e.1)
    rw [e, if_neg (by decide), if_pos h1, e2]
    rfl
  · have e : (if decide (lowF f) = true then (0 : Int) else 3) = 3 := if_neg (by simp [h1])
    rw [e, if_pos (by decide), if_neg h1]
theorem S126 (s : F3) (h : F3I s) : SP 126 [spA s] (i64 (spE s)) false := by
  unfold spE
  refine sound (d := 2) tok2 mixed2 Tryz.func126 (by kernel_rfl) (by kernel_rfl) ?_
  conv => whnf
  refine ⟨[], [13, 14], fun st mq => ∃ (i : Nat) (F0 : Nat → List AV), (i ≤ 3) ∧ (0 < i → frcE s.1 = 0) ∧ (1 < i → frcE s.2.1 = 0) ∧ (2 < i → frcE s.2.2 = 0) ∧ st = ⟨[(13, spA s), (14, i64 i)], ⟨[⟨6, 1, F0, 0, false, true, false⟩], [], none, 0⟩, []⟩ ∧ mq = 3 - i,
    ⟨_, _, ⟨0, _, by omega, nofun, nofun, nofun, rfl, rfl⟩, ⟨⟨.inl rfl, rfl, rfl, rfl⟩, ⟨⟨rfl, rfl, rfl, rfl, fun _ => rfl, fun _ _ => .inl rfl⟩, trivial⟩, trivial⟩⟩, ?_⟩
  rintro s0 m0 ⟨i, F0, hi, h0, h00, h000, rfl, hmeas⟩
  have hcs : i = 0 ∨ i = 1 ∨ i = 2 ∨ i = 3 := by omega
  rcases hcs with rfl | rfl | rfl | rfl
  · have h165 := S165 s.1 h.1
    have h78 := S78 (decide (lowF s.1)) 3
    have h140 := S140 s.1.1 10000 (by decide)
    by_cases hw : -10000 ≤ s.1.1 ∧ s.1.1 ≤ 10000
    · rw [show win s.1.1 (-10000) 10000 = true from decide_eq_true hw] at h140
      have h78' := S78 (decide (s.1.2 ≤ 10000)) 2
      have h76 := @S76_2 (if decide (lowF s.1) = true then 0 else 3) (if decide (s.1.2 ≤ 10000) = true then 0 else 2)
      rw [fqA hw] at h76
      conv => whnf
      conv => whnf
      refine ⟨⟨(by omega), (by omega)⟩, ?_⟩
      conv => whnf
      conv => whnf
      refine .inl ⟨_, _, byX rfl (Sound1.pl (h140) rfl), ?_⟩
      conv => whnf
      conv => whnf
      refine .inl ⟨_, _, byX rfl (Sound1.pl (h165) rfl), ?_⟩
      conv => whnf
      conv => whnf
      refine .inl ⟨_, _, byX rfl (Sound1.pl (h78) rfl), ?_⟩
      conv => whnf
      conv => whnf
      refine .inl ⟨_, _, byX rfl (Sound1.pl (h78') rfl), ?_⟩
      conv => whnf
      conv => whnf
      refine .inl ⟨_, _, byX rfl (Sound1.pl (h76 ⟨rfl, rfl⟩) rfl), ?_⟩
      conv => whnf
      conv => whnf
      refine ifB_bne (fun w1 => ?_) (fun w1 => ?_)
      · conv => whnf
        conv => whnf
        refine ⟨?_, nofun⟩
        exact endi (if_pos (by assumption)).symm
      · conv => whnf
        conv => whnf
        refine ⟨inK64 (by omega) (by omega), ?_⟩
        conv => whnf
        conv => whnf
        refine ⟨_, _, ⟨⟨1, _, by omega, (fun _ => by omega), (fun h => absurd h (by decide)), (fun h => absurd h (by decide)), rfl, rfl⟩, by omega⟩, ⟨⟨.inl rfl, rfl, rfl, rfl⟩, ⟨⟨rfl, rfl, rfl, rfl, fun _ => rfl, fun _ _ => .inl rfl⟩, trivial⟩, trivial⟩⟩
    · rw [show win s.1.1 (-10000) 10000 = false from decide_eq_false hw] at h140
      have h78' := S78 (false) 2
      have h76 := @S76_2 (if decide (lowF s.1) = true then 0 else 3) (if false = true then 0 else 2)
      rw [fqB hw] at h76
      conv => whnf
      conv => whnf
      refine ⟨⟨(by omega), (by omega)⟩, ?_⟩
      conv => whnf
      conv => whnf
      refine .inl ⟨_, _, byX rfl (Sound1.pl (h140) rfl), ?_⟩
      conv => whnf
      conv => whnf
      refine .inl ⟨_, _, byX rfl (Sound1.pl (h165) rfl), ?_⟩
      conv => whnf
      conv => whnf
      refine .inl ⟨_, _, byX rfl (Sound1.pl (h78) rfl), ?_⟩
      conv => whnf
      conv => whnf
      refine .inl ⟨_, _, byX rfl (Sound1.pl (h78') rfl), ?_⟩
      conv => whnf
      conv => whnf
      refine .inl ⟨_, _, byX rfl (Sound1.pl (h76 ⟨rfl, rfl⟩) rfl), ?_⟩
      conv => whnf
      conv => whnf
      refine ifB_bne (fun w1 => ?_) (fun w1 => ?_)
      · conv => whnf
        conv => whnf
        refine ⟨?_, nofun⟩
        exact endi (if_pos (by assumption)).symm
      · conv => whnf
        conv => whnf
        refine ⟨inK64 (by omega) (by omega), ?_⟩
        conv => whnf
        conv => whnf
        refine ⟨_, _, ⟨⟨1, _, by omega, (fun _ => by omega), (fun h => absurd h (by decide)), (fun h => absurd h (by decide)), rfl, rfl⟩, by omega⟩, ⟨⟨.inl rfl, rfl, rfl, rfl⟩, ⟨⟨rfl, rfl, rfl, rfl, fun _ => rfl, fun _ _ => .inl rfl⟩, trivial⟩, trivial⟩⟩
  · have e0 := h0 (by decide)
    rw [if_neg (not_not_intro e0)]
    have h165 := S165 s.2.1 h.2.1
    have h78 := S78 (decide (lowF s.2.1)) 3
    have h140 := S140 s.2.1.1 10000 (by decide)
    by_cases hw : -10000 ≤ s.2.1.1 ∧ s.2.1.1 ≤ 10000
    · rw [show win s.2.1.1 (-10000) 10000 = true from decide_eq_true hw] at h140
      have h78' := S78 (decide (s.2.1.2 ≤ 10000)) 2
      have h76 := @S76_2 (if decide (lowF s.2.1) = true then 0 else 3) (if decide (s.2.1.2 ≤ 10000) = true then 0 else 2)
      rw [fqA hw] at h76
      conv => whnf
      conv => whnf
      refine ⟨⟨(by omega), (by omega)⟩, ?_⟩
      conv => whnf
      conv => whnf
      refine .inl ⟨_, _, byX rfl (Sound1.pl (h140) rfl), ?_⟩
      conv => whnf
      conv => whnf
      refine .inl ⟨_, _, byX rfl (Sound1.pl (h165) rfl), ?_⟩
      conv => whnf
      conv => whnf
      refine .inl ⟨_, _, byX rfl (Sound1.pl (h78) rfl), ?_⟩
      conv => whnf
      conv => whnf
      refine .inl ⟨_, _, byX rfl (Sound1.pl (h78') rfl), ?_⟩
      conv => whnf
      conv => whnf
      refine .inl ⟨_, _, byX rfl (Sound1.pl (h76 ⟨rfl, rfl⟩) rfl), ?_⟩
      conv => whnf
      conv => whnf
      refine ifB_bne (fun w1 => ?_) (fun w1 => ?_)
      · conv => whnf
        conv => whnf
        refine ⟨?_, nofun⟩
        exact endi (if_pos (by assumption)).symm
      · conv => whnf
        conv => whnf
        refine ⟨inK64 (by omega) (by omega), ?_⟩
        conv => whnf
        conv => whnf
        refine ⟨_, _, ⟨⟨2, _, by omega, (fun _ => e0), (fun _ => by omega), (fun h => absurd h (by decide)), rfl, rfl⟩, by omega⟩, ⟨⟨.inl rfl, rfl, rfl, rfl⟩, ⟨⟨rfl, rfl, rfl, rfl, fun _ => rfl, fun _ _ => .inl rfl⟩, trivial⟩, trivial⟩⟩
    · rw [show win s.2.1.1 (-10000) 10000 = false from decide_eq_false hw] at h140
      have h78' := S78 (false) 2
      have h76 := @S76_2 (if decide (lowF s.2.1) = true then 0 else 3) (if false = true then 0 else 2)
      rw [fqB hw] at h76
      conv => whnf
      conv => whnf
      refine ⟨⟨(by omega), (by omega)⟩, ?_⟩
      conv => whnf
      conv => whnf
      refine .inl ⟨_, _, byX rfl (Sound1.pl (h140) rfl), ?_⟩
      conv => whnf
      conv => whnf
      refine .inl ⟨_, _, byX rfl (Sound1.pl (h165) rfl), ?_⟩
      conv => whnf
      conv => whnf
      refine .inl ⟨_, _, byX rfl (Sound1.pl (h78) rfl), ?_⟩
      conv => whnf
      conv => whnf
      refine .inl ⟨_, _, byX rfl (Sound1.pl (h78') rfl), ?_⟩
      conv => whnf
      conv => whnf
      refine .inl ⟨_, _, byX rfl (Sound1.pl (h76 ⟨rfl, rfl⟩) rfl), ?_⟩
      conv => whnf
      conv => whnf
      refine ifB_bne (fun w1 => ?_) (fun w1 => ?_)
      · conv => whnf
        conv => whnf
        refine ⟨?_, nofun⟩
        exact endi (if_pos (by assumption)).symm
      · conv => whnf
        conv => whnf
        refine ⟨inK64 (by omega) (by omega), ?_⟩
        conv => whnf
        conv => whnf
        refine ⟨_, _, ⟨⟨2, _, by omega, (fun _ => e0), (fun _ => by omega), (fun h => absurd h (by decide)), rfl, rfl⟩, by omega⟩, ⟨⟨.inl rfl, rfl, rfl, rfl⟩, ⟨⟨rfl, rfl, rfl, rfl, fun _ => rfl, fun _ _ => .inl rfl⟩, trivial⟩, trivial⟩⟩
  · have e0 := h0 (by decide)
    have e1 := h00 (by decide)
    rw [if_neg (not_not_intro e0), if_neg (not_not_intro e1)]
    have h165 := S165 s.2.2 h.2.2
    have h78 := S78 (decide (lowF s.2.2)) 3
    have h140 := S140 s.2.2.1 10000 (by decide)
    by_cases hw : -10000 ≤ s.2.2.1 ∧ s.2.2.1 ≤ 10000
    · rw [show win s.2.2.1 (-10000) 10000 = true from decide_eq_true hw] at h140
      have h78' := S78 (decide (s.2.2.2 ≤ 10000)) 2
      have h76 := @S76_2 (if decide (lowF s.2.2) = true then 0 else 3) (if decide (s.2.2.2 ≤ 10000) = true then 0 else 2)
      rw [fqA hw] at h76
      conv => whnf
      conv => whnf
      refine ⟨⟨(by omega), (by omega)⟩, ?_⟩
      conv => whnf
      conv => whnf
      refine .inl ⟨_, _, byX rfl (Sound1.pl (h140) rfl), ?_⟩
      conv => whnf
      conv => whnf
      refine .inl ⟨_, _, byX rfl (Sound1.pl (h165) rfl), ?_⟩
      conv => whnf
      conv => whnf
      refine .inl ⟨_, _, byX rfl (Sound1.pl (h78) rfl), ?_⟩
      conv => whnf
      conv => whnf
      refine .inl ⟨_, _, byX rfl (Sound1.pl (h78') rfl), ?_⟩
      conv => whnf
      conv => whnf
      refine .inl ⟨_, _, byX rfl (Sound1.pl (h76 ⟨rfl, rfl⟩) rfl), ?_⟩
      conv => whnf
      conv => whnf
      refine ifB_bne (fun w1 => ?_) (fun w1 => ?_)
      · conv => whnf
        conv => whnf
        refine ⟨?_, nofun⟩
        (first | rfl | contradiction)
      · conv => whnf
        conv => whnf
        refine ⟨inK64 (by omega) (by omega), ?_⟩
        conv => whnf
        conv => whnf
        refine ⟨_, _, ⟨⟨3, _, by omega, (fun _ => e0), (fun _ => e1), (fun _ => by omega), rfl, rfl⟩, by omega⟩, ⟨⟨.inl rfl, rfl, rfl, rfl⟩, ⟨⟨rfl, rfl, rfl, rfl, fun _ => rfl, fun _ _ => .inl rfl⟩, trivial⟩, trivial⟩⟩
    · rw [show win s.2.2.1 (-10000) 10000 = false from decide_eq_false hw] at h140
      have h78' := S78 (false) 2
      have h76 := @S76_2 (if decide (lowF s.2.2) = true then 0 else 3) (if false = true then 0 else 2)
      rw [fqB hw] at h76
      conv => whnf
      conv => whnf
      refine ⟨⟨(by omega), (by omega)⟩, ?_⟩
      conv => whnf
      conv => whnf
      refine .inl ⟨_, _, byX rfl (Sound1.pl (h140) rfl), ?_⟩
      conv => whnf
      conv => whnf
      refine .inl ⟨_, _, byX rfl (Sound1.pl (h165) rfl), ?_⟩
      conv => whnf
      conv => whnf
      refine .inl ⟨_, _, byX rfl (Sound1.pl (h78) rfl), ?_⟩
      conv => whnf
      conv => whnf
      refine .inl ⟨_, _, byX rfl (Sound1.pl (h78') rfl), ?_⟩
      conv => whnf
      conv => whnf
      refine .inl ⟨_, _, byX rfl (Sound1.pl (h76 ⟨rfl, rfl⟩) rfl), ?_⟩
      conv => whnf
      conv => whnf
      refine ifB_bne (fun w1 => ?_) (fun w1 => ?_)
      · conv => whnf
        conv => whnf
        refine ⟨?_, nofun⟩
        (first | rfl | contradiction)
      · conv => whnf
        conv => whnf
        refine ⟨inK64 (by omega) (by omega), ?_⟩
        conv => whnf
        conv => whnf
        refine ⟨_, _, ⟨⟨3, _, by omega, (fun _ => e0), (fun _ => e1), (fun _ => by omega), rfl, rfl⟩, by omega⟩, ⟨⟨.inl rfl, rfl, rfl, rfl⟩, ⟨⟨rfl, rfl, rfl, rfl, fun _ => rfl, fun _ _ => .inl rfl⟩, trivial⟩, trivial⟩⟩
  · rw [if_neg (not_not_intro (h0 (by decide))), if_neg (not_not_intro (h00 (by decide))), h000 (by decide)]
    conv => whnf
    conv => whnf
    refine ⟨?_, nofun⟩
    (first | rfl)
/-- A fraction with small parts, or 0 / 0. -/
def okR (q : Rat) : Int × Int := if smR q then frI q else (0, 0)
theorem frac_eq {a b : Int} (h : 0 < b) : (a.tdiv (gcdI a b), b.tdiv (gcdI a b)) = frI (Rat.divInt a b) := fracG_eq h
theorem S92q (a b : Int) (ha : -9223372036854775807 ≤ a ∧ a ≤ 9223372036854775807) (hb : 0 < b ∧ b ≤ 9223372036854775807) (x y : Int) (hx : a.tdiv (gcdI a b) = x) (hy : b.tdiv (gcdI a b) = y) :
    SP 92 [i64 a, i64 b] (.tuple [gaF (if (-1000000000 ≤ x ∧ x ≤ 1000000000) ∧ y ≤ 1000000000 then (x, y) else (0, 0)), i64 (if (-1000000000 ≤ x ∧ x ≤ 1000000000) ∧ y ≤ 1000000000 then 0 else 8)]) false := by
  have h1 := S151 a b (by omega) hb
  have hg := gcdI_pos (a := a) hb.1
  have b1 : ((a.tdiv (gcdI a b)).natAbs) ≤ a.natAbs := Int.natAbs_tdiv_le_natAbs _ _
  have b2 : ((b.tdiv (gcdI a b)).natAbs) ≤ b.natAbs := Int.natAbs_tdiv_le_natAbs _ _
  generalize gcdI a b = g at h1 hg hx hy b1 b2
  subst hx hy
  have h140 := S140 (a.tdiv g) 1000000000 (by decide)
  refine sound (d := 2) tok2 mixed2 Tryz.func92 (by kernel_rfl) (by kernel_rfl) ?_
  conv => whnf
  refine ifB_dec (fun w1 => ?_) (fun w1 => ?_)
  · (exfalso; omega)
  · conv => whnf
    refine .inl ⟨_, _, byX rfl (Sound1.pl (h1) rfl), ?_⟩
    conv => whnf
    refine ⟨[], by kernel_rfl, ?_⟩
    conv => whnf
    refine ⟨⟨(by omega), inK64 (by omega) (by omega)⟩, ?_⟩
    conv => whnf
    refine ⟨⟨(by omega), inK64 (by omega) (by omega)⟩, ?_⟩
    conv => whnf
    refine .inl ⟨_, _, byX rfl (Sound1.pl (h140) rfl), ?_⟩
    conv => whnf
    refine ifB_not ?_
    conv => whnf
    refine ifB_dec (fun w2 => ?_) (fun w2 => ?_)
    · conv => whnf
      refine ifB_dec (fun w3 => ?_) (fun w3 => ?_)
      · conv => whnf
        refine ⟨?_, nofun⟩
        have hn : ¬ ((-1000000000 ≤ a.tdiv g ∧ a.tdiv g ≤ 1000000000) ∧ b.tdiv g ≤ 1000000000) := fun e => by omega
        rw [if_neg hn, if_neg hn]
        exact ave_tup2 (ave_agg2 rfl rfl) rfl
      · conv => whnf
        refine ⟨?_, nofun⟩
        have hn : (-1000000000 ≤ a.tdiv g ∧ a.tdiv g ≤ 1000000000) ∧ b.tdiv g ≤ 1000000000 := ⟨by assumption, by omega⟩
        rw [if_pos hn, if_pos hn]
        exact ave_tup2 (ave_agg2 rfl rfl) rfl
    · conv => whnf
      refine ⟨?_, nofun⟩
      have hn : ¬ ((-1000000000 ≤ a.tdiv g ∧ a.tdiv g ≤ 1000000000) ∧ b.tdiv g ≤ 1000000000) := fun e => by have := e.1; contradiction
      rw [if_neg hn, if_neg hn]
      exact ave_tup2 (ave_agg2 rfl rfl) rfl
theorem okR_eq (q : Rat) : (if (-1000000000 ≤ q.num ∧ q.num ≤ 1000000000) ∧ ((q.den : Nat) : Int) ≤ 1000000000 then (q.num, ((q.den : Nat) : Int)) else (0, 0)) = okR q ∧
    (if (-1000000000 ≤ q.num ∧ q.num ≤ 1000000000) ∧ ((q.den : Nat) : Int) ≤ 1000000000 then (0 : Int) else 8) = if smR q then 0 else 8 := by
  have h : ((-1000000000 ≤ q.num ∧ q.num ≤ 1000000000) ∧ ((q.den : Nat) : Int) ≤ 1000000000) ↔ smR q := by unfold smR; omega
  unfold okR frI
  by_cases hs : smR q
  · rw [if_pos (h.2 hs), if_pos hs, if_pos (h.2 hs), if_pos hs]; exact ⟨rfl, rfl⟩
  · rw [if_neg (fun e => hs (h.1 e)), if_neg hs, if_neg (fun e => hs (h.1 e)), if_neg hs]; exact ⟨rfl, rfl⟩
theorem S92p (a b : Int) (ha : -9223372036854775807 ≤ a ∧ a ≤ 9223372036854775807) (hb : 0 < b ∧ b ≤ 9223372036854775807) : SP 92 [i64 a, i64 b] (.tuple [gaF (okR (Rat.divInt a b)), i64 (if smR (Rat.divInt a b) then 0 else 8)]) false := by
  have hf := frac_eq (a := a) hb.1
  have h := S92q a b ha hb (Rat.divInt a b).num ((Rat.divInt a b).den : Nat) (congrArg Prod.fst hf) (congrArg Prod.snd hf)
  rw [(okR_eq _).1, (okR_eq _).2] at h
  exact h
theorem S92 (a b : Int) (ha : -9223372036854775807 ≤ a ∧ a ≤ 9223372036854775807) (hb : -9223372036854775807 ≤ b ∧ b ≤ 9223372036854775807) (h0 : b ≠ 0) : SP 92 [i64 a, i64 b] (.tuple [gaF (okR (Rat.divInt a b)), i64 (if smR (Rat.divInt a b) then 0 else 8)]) false := by
  by_cases hp : 0 < b
  · exact S92p a b ha ⟨hp, hb.2⟩
  · have hp' : 0 < -b := by omega
    have h1 := S151 (-a) (-b) (by omega) ⟨hp', by omega⟩
    have hf := frac_eq (a := -a) hp'
    rw [Rat.neg_divInt_neg] at hf
    have hx := congrArg Prod.fst hf
    have hy := congrArg Prod.snd hf
    have hg := gcdI_pos (a := -a) hp'
    have b1 : (((-a).tdiv (gcdI (-a) (-b))).natAbs) ≤ (-a).natAbs := Int.natAbs_tdiv_le_natAbs _ _
    have b2 : (((-b).tdiv (gcdI (-a) (-b))).natAbs) ≤ (-b).natAbs := Int.natAbs_tdiv_le_natAbs _ _
    rw [← (okR_eq _).1, ← (okR_eq _).2]
    dsimp only [frI] at hx hy
    rw [← hx, ← hy]
    generalize gcdI (-a) (-b) = g at h1 hg b1 b2 ⊢
    have h140 := S140 ((-a).tdiv g) 1000000000 (by decide)
    refine sound (d := 2) tok2 mixed2 Tryz.func92 (by kernel_rfl) (by kernel_rfl) ?_
    conv => whnf
    refine ifB_dec (fun w1 => ?_) (fun w1 => ?_)
    · conv => whnf
      refine ⟨inK64 (by omega) (by omega), ?_⟩
      conv => whnf
      refine ⟨inK64 (by omega) (by omega), ?_⟩
      conv => whnf
      refine .inl ⟨_, _, byX rfl (Sound1.pl (h1) rfl), ?_⟩
      conv => whnf
      refine ⟨[], by kernel_rfl, ?_⟩
      conv => whnf
      refine ⟨⟨(by omega), inK64 (by omega) (by omega)⟩, ?_⟩
      conv => whnf
      refine ⟨⟨(by omega), inK64 (by omega) (by omega)⟩, ?_⟩
      conv => whnf
      refine .inl ⟨_, _, byX rfl (Sound1.pl (h140) rfl), ?_⟩
      conv => whnf
      refine ifB_not ?_
      conv => whnf
      refine ifB_dec (fun w2 => ?_) (fun w2 => ?_)
      · conv => whnf
        refine ifB_dec (fun w3 => ?_) (fun w3 => ?_)
        · conv => whnf
          refine ⟨?_, nofun⟩
          have hn : ¬ ((-1000000000 ≤ (-a).tdiv g ∧ (-a).tdiv g ≤ 1000000000) ∧ (-b).tdiv g ≤ 1000000000) := fun e => by omega
          rw [if_neg hn, if_neg hn]
          exact ave_tup2 (ave_agg2 rfl rfl) rfl
        · conv => whnf
          refine ⟨?_, nofun⟩
          have hn : (-1000000000 ≤ (-a).tdiv g ∧ (-a).tdiv g ≤ 1000000000) ∧ (-b).tdiv g ≤ 1000000000 := ⟨by assumption, by omega⟩
          rw [if_pos hn, if_pos hn]
          exact ave_tup2 (ave_agg2 rfl rfl) rfl
      · conv => whnf
        refine ⟨?_, nofun⟩
        have hn : ¬ ((-1000000000 ≤ (-a).tdiv g ∧ (-a).tdiv g ≤ 1000000000) ∧ (-b).tdiv g ≤ 1000000000) := fun e => by have := e.1; contradiction
        rw [if_neg hn, if_neg hn]
        exact ave_tup2 (ave_agg2 rfl rfl) rfl
    · (exfalso; omega)
end Go.Tr

/- Contracts of chapter 5: fractions of any size: quotients, differences, signs; as small ones. Conditions: none. -/
-- seat YtgbdlkajmmjahaaGreat
namespace Go.Tr
open Go Go.Proofs
set_option maxRecDepth 20000
set_option maxHeartbeats 8000000

theorem valN_one {l : List Int} (h : Dg l) (hl : l.length ≤ 1) : 0 ≤ valN l ∧ valN l ≤ 999999999 := by
  match l, hl with
  | [], _ => decide
  | [d], _ =>
    have := h d (by simp)
    show 0 ≤ d + 1000000000 * valN [] ∧ d + 1000000000 * valN [] ≤ 999999999
    rw [show valN [] = 0 from rfl]
    omega
theorem dg_drop {l : List Int} (h : Dg l) (k : Nat) : Dg (l.drop k) := fun d hd => h d (List.mem_of_mem_drop hd)
theorem sg_abs (z : Int) : sgI z * (z.natAbs : Int) = z := by
  rcases sg_cases z with ⟨h, e⟩ | ⟨h, e⟩ | ⟨h, e⟩ <;> rw [e] <;> omega
theorem S110 (z : Int) : SP 110 [wA z] (.tuple [i64 (if (digs z.natAbs).length ≤ 2 then z else 0), vb (decide ((digs z.natAbs).length ≤ 2))]) false := by
  have hD := digs_dg z.natAbs
  have hv := valN_digs z.natAbs
  by_cases h2 : (digs z.natAbs).length ≤ 2
  · rw [if_pos h2, decide_eq_true h2]
    refine sound (d := 2) tok2 mixed2 Tryz.func110 (by kernel_rfl) (by kernel_rfl) ?_
    conv => whnf
    refine ifB_dec (fun w1 => ?_) (fun w1 => ?_)
    · (exfalso; omega)
    · conv => whnf
      refine ⟨inK64 (by omega) (by omega), ?_⟩
      conv => whnf
      refine ⟨[], [1, 4, 5], fun st mq => ∃ (k : Nat) (c : Int) (n : Int), (c = (k : Int) - 1) ∧ (k ≤ (digs z.natAbs).length) ∧ (n = valN ((digs z.natAbs).drop k)) ∧ st = ⟨[(1, .optr 0 0 0 0), (4, i64 n), (5, i64 c)], ⟨[⟨2, 1, fun _ => [i64 (sgI z), ints (digs z.natAbs)], 0, false, true, true⟩], [], none, 0⟩, []⟩ ∧ mq = k,
        ⟨_, _, ⟨(digs z.natAbs).length, ((digs z.natAbs).length : Int) - 1, 0, rfl, by omega, (by rw [List.drop_length]; rfl), rfl, rfl⟩, ⟨⟨.inl rfl, rfl, rfl, rfl⟩, ⟨⟨rfl, rfl, rfl, rfl, fun _ => rfl, fun _ _ => .inl rfl⟩, trivial⟩, trivial⟩⟩, ?_⟩
      rintro s0 m0 ⟨k, c, n, hc, hk, hn, rfl, hmeas⟩
      by_cases h0 : k = 0
      · subst h0
        have e : n = (z.natAbs : Int) := by rw [hn, List.drop_zero, hv]
        have e2 : sgI z * n = z := by rw [e]; exact sg_abs z
        have hb : n ≤ 999999999999999999 := by
          have := digs_lt z.natAbs
          have h3 : 1000000000 ^ (digs z.natAbs).length ≤ 1000000000 ^ 2 := Nat.pow_le_pow_right (by decide) h2
          omega
        have hq : inK .i64 (sgI z * n) := by
          rw [e2]
          have hmx : IntKind.max .i64 = 9223372036854775807 := by decide
          have hmn : IntKind.min .i64 = -9223372036854775808 := by decide
          exact ⟨by omega, by omega⟩
        conv => whnf
        conv => whnf
        refine ifB_dec (fun w2 => ?_) (fun w2 => ?_)
        · (exfalso; omega)
        · conv => whnf
          conv => whnf
          refine ⟨inK64 (by omega) (by omega), ?_⟩
          conv => whnf
          conv => whnf
          refine ⟨?_, nofun⟩
          rw [e2]
          exact ave_tup2 rfl rfl
      · obtain ⟨j, rfl⟩ : ∃ j, k = j + 1 := ⟨k - 1, by omega⟩
        have hb := valN_one (dg_drop hD (j + 1)) (by rw [List.length_drop]; omega)
        have hd := drop_cons (l := digs z.natAbs) (i := j) (by omega)
        have hx := dg_at hD j
        have e : c.toNat = j := by omega
        have hq : valN ((digs z.natAbs).drop j) = (digs z.natAbs).getD j 0 + 1000000000 * valN ((digs z.natAbs).drop (j + 1)) := by rw [hd]; rfl
        rw [← hn] at hb hq
        have hx' : 0 ≤ (digs z.natAbs).getD c.toNat 0 ∧ (digs z.natAbs).getD c.toNat 0 < 1000000000 := by rw [e]; exact hx
        conv => whnf
        conv => whnf
        refine ifB_dec (fun w2 => ?_) (fun w2 => ?_)
        · conv => whnf
          conv => whnf
          refine ⟨inK64 (by omega) (by omega), ?_⟩
          conv => whnf
          conv => whnf
          refine ⟨⟨(by omega), (by omega)⟩, ?_⟩
          conv => whnf
          conv => whnf
          refine ⟨inK64 (by omega) (by omega), ?_⟩
          conv => whnf
          conv => whnf
          refine ⟨inK64 (by omega) (by omega), ?_⟩
          conv => whnf
          conv => whnf
          refine ⟨_, _, ⟨⟨j, c - 1, n * 1000000000 + (digs z.natAbs).getD c.toNat 0, by omega, by omega, (by rw [hq, e]; omega), rfl, rfl⟩, by omega⟩, ⟨⟨.inl rfl, rfl, rfl, rfl⟩, ⟨⟨rfl, rfl, rfl, rfl, fun _ => rfl, fun _ _ => .inl rfl⟩, trivial⟩, trivial⟩⟩
        · (exfalso; omega)
  · rw [if_neg h2, decide_eq_false h2]
    refine sound (d := 2) tok2 mixed2 Tryz.func110 (by kernel_rfl) (by kernel_rfl) ?_
    conv => whnf
    refine ifB_dec (fun w1 => ?_) (fun w1 => ?_)
    · conv => whnf
      refine ⟨?_, nofun⟩
      (first | contradiction | omega | exact ave_tup2 rfl rfl)
    · (exfalso; omega)
theorem S111 (f : Int × Int) : SP 111 [gaF f] (vb (decide ((-1000000000 ≤ f.1 ∧ f.1 ≤ 1000000000) ∧ 1 ≤ f.2 ∧ f.2 ≤ 1000000000))) false := by
  have h1 := S36 f.1 (-1000000000) 1000000000
  have h2 := S36 f.2 1 1000000000
  refine sound (d := 2) tok2 mixed2 Tryz.func111 (by kernel_rfl) (by kernel_rfl) ?_
  conv => whnf
  refine .inl ⟨_, _, byX rfl (Sound1.pl (h1) rfl), ?_⟩
  conv => whnf
  refine ifB_dec (fun w1 => ?_) (fun w1 => ?_)
  · conv => whnf
    refine .inl ⟨_, _, byX rfl (Sound1.pl (h2) rfl), ?_⟩
    conv => whnf
    refine ⟨?_, nofun⟩
    exact endb (decide_eq_decide.2 ⟨fun h => ⟨by assumption, h⟩, fun h => h.2⟩)
  · conv => whnf
    refine ⟨?_, nofun⟩
    exact endb (decide_eq_false (fun h => absurd h.1 (by assumption))).symm
theorem sm_digs {q : Rat} (h : smR q) : (digs q.num.natAbs).length ≤ 2 ∧ (digs ((q.den : Nat) : Int).natAbs).length ≤ 2 := by
  unfold smR at h
  exact ⟨digs_len 2 _ (Nat.lt_of_le_of_lt (show _ ≤ 1000000000 by omega) (by decide)), digs_len 2 _ (Nat.lt_of_le_of_lt (show _ ≤ 1000000000 by omega) (by decide))⟩
theorem S41 (q : Rat) : SP 41 [rA q] (.tuple [gaF (okR q), vb (decide (smR q))]) false := by
  have h1 := S110 q.num
  have h2 := S110 (q.den : Nat)
  have hdn := q.den_pos
  by_cases hs : smR q
  · have hd := sm_digs hs
    rw [if_pos hd.1, decide_eq_true hd.1] at h1
    rw [if_pos hd.2, decide_eq_true hd.2] at h2
    have h3 := S111 (q.num, (q.den : Nat))
    rw [decide_eq_true (by unfold smR at hs; exact ⟨hs.1, by dsimp only; omega⟩)] at h3
    unfold okR frI
    rw [if_pos hs, decide_eq_true hs]
    refine sound (d := 2) tok2 mixed2 Tryz.func41 (by kernel_rfl) (by kernel_rfl) ?_
    conv => whnf
    refine .inl ⟨_, _, byX rfl (Sound1.pl (h1) rfl), ?_⟩
    conv => whnf
    refine .inl ⟨_, _, byX rfl (Sound1.pl (h2) rfl), ?_⟩
    conv => whnf
    refine .inl ⟨_, _, byX rfl (Sound1.pl (h3) rfl), ?_⟩
    conv => whnf
    refine ⟨?_, nofun⟩
    (first | contradiction | exact ave_tup2 (ave_agg2 rfl rfl) rfl)
  · unfold okR
    rw [if_neg hs, decide_eq_false hs]
    by_cases d1 : (digs q.num.natAbs).length ≤ 2
    · rw [if_pos d1, decide_eq_true d1] at h1
      by_cases d2 : (digs ((q.den : Nat) : Int).natAbs).length ≤ 2
      · rw [if_pos d2, decide_eq_true d2] at h2
        have h3 := S111 (q.num, (q.den : Nat))
        rw [decide_eq_false (fun e => hs (by unfold smR; dsimp only at e; omega))] at h3
        refine sound (d := 2) tok2 mixed2 Tryz.func41 (by kernel_rfl) (by kernel_rfl) ?_
        conv => whnf
        refine .inl ⟨_, _, byX rfl (Sound1.pl (h1) rfl), ?_⟩
        conv => whnf
        refine .inl ⟨_, _, byX rfl (Sound1.pl (h2) rfl), ?_⟩
        conv => whnf
        refine .inl ⟨_, _, byX rfl (Sound1.pl (h3) rfl), ?_⟩
        conv => whnf
        refine ⟨?_, nofun⟩
        (first | contradiction | exact ave_tup2 (ave_agg2 rfl rfl) rfl)
      · rw [if_neg d2, decide_eq_false d2] at h2
        refine sound (d := 2) tok2 mixed2 Tryz.func41 (by kernel_rfl) (by kernel_rfl) ?_
        conv => whnf
        refine .inl ⟨_, _, byX rfl (Sound1.pl (h1) rfl), ?_⟩
        conv => whnf
        refine .inl ⟨_, _, byX rfl (Sound1.pl (h2) rfl), ?_⟩
        conv => whnf
        refine ⟨?_, nofun⟩
        (first | contradiction | exact ave_tup2 (ave_agg2 rfl rfl) rfl)
    · rw [if_neg d1, decide_eq_false d1] at h1
      refine sound (d := 2) tok2 mixed2 Tryz.func41 (by kernel_rfl) (by kernel_rfl) ?_
      conv => whnf
      refine .inl ⟨_, _, byX rfl (Sound1.pl (h1) rfl), ?_⟩
      conv => whnf
      refine .inl ⟨_, _, byX rfl (Sound1.pl (h2) rfl), ?_⟩
      conv => whnf
      refine ⟨?_, nofun⟩
      (first | contradiction | exact ave_tup2 (ave_agg2 rfl rfl) rfl)
theorem S128 (q : Rat) : SP 128 [rA q] (rA (-q)) false := by
  have h := S166 q.num
  show SP 128 [rA q] (rA2 (-q.num) (q.den : Nat)) false
  refine sound (d := 2) tok2 mixed2 Tryz.func128 (by kernel_rfl) (by kernel_rfl) ?_
  conv => whnf
  refine ⟨[], by kernel_rfl, ?_⟩
  conv => whnf
  refine .inl ⟨_, _, byX rfl (h), ?_⟩
  conv => whnf
  refine ⟨?_, nofun⟩
  (first | rfl | exact ave_rA)
theorem S84 {k l : Nat} (p q : Rat) (hp : Rk k p) (hq : Rk l q) (hk : k + l < 100) : SP 84 [rA p, rA q] (rA (p - q)) false := by
  have h1 := S128 q
  have h2 := S122 p (-q) hp hq.neg hk
  rw [← Rat.sub_eq_add_neg] at h2
  refine sound (d := 2) tok2 mixed2 Tryz.func84 (by kernel_rfl) (by kernel_rfl) ?_
  conv => whnf
  refine ⟨[], by kernel_rfl, ?_⟩
  conv => whnf
  refine .inl ⟨_, _, byX rfl (h1), ?_⟩
  conv => whnf
  refine .inl ⟨_, _, byX rfl (h2), ?_⟩
  conv => whnf
  refine ⟨?_, nofun⟩
  (first | rfl | exact ave_rA)
theorem S83 {k l : Nat} (p q : Rat) (hp : Rk k p) (hq : Rk l q) (hk : k + l ≤ 100) (h0 : q ≠ 0) : SP 83 [rA p, rA q] (rA (p / q)) false := by
  have d0 : ((p.den : Nat) * q.num : Int) ≠ 0 := Int.mul_ne_zero (Int.ne_of_gt (den_pos p)) (fun h => h0 (Rat.num_eq_zero.1 h))
  have h1 := S147 p.num (q.den : Nat) (hp.wd (by omega)).1 (hq.wd (by omega)).2
  have h4 := S147 (p.den : Nat) q.num (hp.wd (by omega)).2 (hq.wd (by omega)).1
  have h5 := S146 (p.num * (q.den : Nat)) ((p.den : Nat) * q.num) ((hp.num.mul hq.den).wd (by omega)) ((hp.den.mul hq.num).wd (by omega)) d0
  rw [← rat_div] at h5
  refine sound (d := 2) tok2 mixed2 Tryz.func83 (by kernel_rfl) (by kernel_rfl) ?_
  conv => whnf
  refine ⟨[], by kernel_rfl, ?_⟩
  conv => whnf
  refine .inl ⟨_, _, byX rfl (h1), ?_⟩
  conv => whnf
  refine .inl ⟨_, _, byX rfl (h4), ?_⟩
  conv => whnf
  refine .inl ⟨_, _, byX rfl (h5), ?_⟩
  conv => whnf
  refine ⟨?_, nofun⟩
  (first | rfl | exact ave_rA)
theorem S48 (q : Rat) : SP 48 [rA q] (i64 (sgR q)) false := by
  have h := S120 q.num
  change SP 120 _ (i64 (sgR q)) false at h
  refine sound (d := 2) tok2 mixed2 Tryz.func48 (by kernel_rfl) (by kernel_rfl) ?_
  conv => whnf
  refine .inl ⟨_, _, byX rfl (Sound1.pl (h) rfl), ?_⟩
  conv => whnf
  refine ⟨?_, nofun⟩
  (first | rfl)
end Go.Tr

/- Contracts of chapter 5: the reference's curve. Conditions: none. -/
import Derived.Test.YtgbdlkajmmjahaaGreatTr12
import Derived.Test.YtgbdlkajmmjahaaGreatTr13
set_option linter.unusedSectionVars false
set_option linter.unnecessarySimpa false
set_option linter.unusedVariables false
set_option linter.unusedSimpArgs false

-- seat YtgbdlkajmmjahaaGreat
namespace Go.Tr
open Go Go.Proofs
set_option maxRecDepth 20000
set_option maxHeartbeats 8000000

set_option maxHeartbeats 16000000 in
theorem S22 (t : List MRow) (ht : Fit t) (hT : TblOk t) (f : Int × Int) (hO : OpOk t f) : SP 22 [tblA t, gaF f] (bgs (crvQ t f)) false := by
 have hn := hT.n
 have hnp := hT.np
 have hd := hO.den
 have hK := rwK_ok hT hO
 have hcl := crv_len hT hO
 have hcd := crv_den hT hO
 have hcp := crv_part hT hO
 have ho := hT.op
 have hoK := ho (rwK t f) (by omega)
 have hoK1 := ho (rwK t f + 1) (by omega)
 have hnum : -1000000000 ≤ f.1 ∧ f.1 ≤ 1000000000 := by
  have := op_mul hT (f := f) (by omega) hd.2 0 (by omega)
  have := op_mul hT (f := f) (by omega) hd.2 (t.length - 1) (by omega)
  have := hO.lo
  have := hO.hi
  omega
 have hord := (hT.ord (rwK t f) (by omega)).1
 have c85 := S85 f (by omega) (by omega)
 have c86a := S86 (t.getD (rwK t f) r0).o (by omega)
 have c86b := S86 ((t.getD (rwK t f + 1) r0).o - (t.getD (rwK t f) r0).o) (by omega)
 have z1 : ∀ x : Int, x.natAbs ≤ 10000 → Rk 1 (x : Rat) := fun x hx => ⟨by rw [Rat.num_intCast]; exact digs_len 1 _ (Nat.lt_of_le_of_lt hx (by decide)), by rw [Rat.den_intCast]; exact digs_len 1 _ (by decide)⟩
 have rk1 : Rk 1 (Rat.divInt f.1 f.2) := Rk.divI (by omega) (Zk.small (Nat.lt_of_le_of_lt (show _ ≤ 1000 by have := op_mul hT (f := f) (by omega) hd.2 0 (by omega); have := op_mul hT (f := f) (by omega) hd.2 (t.length - 1) (by omega); have := hO.lo; have := hO.hi; omega) (by decide))) (Zk.small (Nat.lt_of_le_of_lt (show _ ≤ 10 by omega) (by decide)))
 have c84 := S84 (Rat.divInt f.1 f.2) ((t.getD (rwK t f) r0).o : Rat) rk1 (z1 _ (by omega)) (by decide)
 have c83 := S83 (Rat.divInt f.1 f.2 - ((t.getD (rwK t f) r0).o : Rat)) (((t.getD (rwK t f + 1) r0).o - (t.getD (rwK t f) r0).o : Int) : Rat) (rk1.sub (z1 _ (by omega))) (z1 _ (by omega)) (by decide) (cast_ne (by omega))
 rw [← part_eq (by omega) (by omega)] at c83
 change SP 83 _ (rA (Rat.divInt (crvP t f) (crvD t f))) false at c83
 have rkp : Rk 1 (Rat.divInt (crvP t f) (crvD t f)) := Rk.divI (by omega) (Zk.small (Nat.lt_of_le_of_lt (show _ ≤ 200 by omega) (by decide))) (Zk.small (Nat.lt_of_le_of_lt (show _ ≤ 200 by omega) (by decide)))
 have r3 : inK .i64 ((t.getD (rwK t f + 1) r0).o - (t.getD (rwK t f) r0).o) := inK_of (by omega)
 refine sound (d := 2) tok2 mixed2 Tryz.func22 (by kernel_rfl) (by kernel_rfl) ?_
 (conv => whnf); refine ⟨[], [2, 3, 5], fun st mq => ∃ (i : Nat), (i + 2 ≤ t.length) ∧ (rwI t f (t.length - i) i = rwK t f) ∧ st = ⟨[(2, .optr 0 0 0 0), (3, .optr 1 0 0 0), (5, i64 i)], ⟨[⟨1, 1, fun _ => [rowsA t], 0, false, true, true⟩, ⟨2, 1, fun _ => [i64 f.1, i64 f.2], 0, false, true, true⟩], [], none, 0⟩, []⟩ ∧ mq = t.length - i,
  ⟨_, _, ⟨0, by omega, rfl, rfl, rfl⟩, ⟨⟨.inl rfl, rfl, rfl, rfl⟩, ⟨⟨rfl, rfl, rfl, rfl, fun _ => rfl, fun _ _ => .inl rfl⟩, ⟨⟨rfl, rfl, rfl, rfl, fun _ => rfl, fun _ _ => .inl rfl⟩, trivial⟩⟩, trivial⟩⟩, ?_⟩
 rintro s0 m0 ⟨i, hi, hr, rfl, hmeas⟩
 by_cases hlt : i + 2 < t.length
 ·have c63 := S63 (t.getD (i + 1) r0).o 1 f.1 f.2 (by have := ho (i + 1) (by omega); omega) (by decide) hnum (by omega)
  have g0 := sg_gt ((t.getD (i + 1) r0).o * f.2 - f.1 * 1)
  rw [Int.mul_one] at g0 c63
  by_cases hle : (t.getD (i + 1) r0).o * f.2 ≤ f.1
  ·rw [rwI_go (by omega) ⟨hlt, hle⟩] at hr
   conv => whnf
   (conv => whnf); refine ⟨[], by kernel_rfl, ?_⟩
   conv => whnf
   (conv => whnf); refine ⟨inK64 (by omega) (by omega), ?_⟩
   conv => whnf
   (conv => whnf); refine ifB_dec (fun w1 => ?_) (fun w1 => ?_)
   ·conv => whnf
    (conv => whnf); refine ⟨inK64 (by omega) (by omega), ?_⟩
    conv => whnf
    (conv => whnf); refine ⟨⟨(by omega), (by omega)⟩, ?_⟩
    conv => whnf
    (conv => whnf); refine .inl ⟨_, _, byX rfl (Sound1.pl (c63) rfl), ?_⟩
    conv => whnf
    (conv => whnf); refine ifB_dec (fun w2 => ?_) (fun w2 => ?_)
    ·conv => whnf
     (conv => whnf); refine ⟨inK64 (by omega) (by omega), ?_⟩
     conv => whnf
     (conv => whnf); refine ⟨_, _, ⟨⟨i + 1, by omega, hr, rfl, rfl⟩, by omega⟩, ⟨⟨.inl rfl, rfl, rfl, rfl⟩, ⟨⟨rfl, rfl, rfl, rfl, fun _ => rfl, fun _ _ => .inl rfl⟩, ⟨⟨rfl, rfl, rfl, rfl, fun _ => rfl, fun _ _ => .inl rfl⟩, trivial⟩⟩, trivial⟩⟩
    ·(exfalso; omega)
   ·(exfalso; omega)
  ·rw [rwI_stop _ _ (fun e => hle e.2)] at hr
   subst hr
   conv => whnf
   (conv => whnf); refine ⟨[], by kernel_rfl, ?_⟩
   conv => whnf
   (conv => whnf); refine ⟨inK64 (by omega) (by omega), ?_⟩
   conv => whnf
   (conv => whnf); refine ifB_dec (fun w1 => ?_) (fun w1 => ?_)
   ·conv => whnf
    (conv => whnf); refine ⟨inK64 (by omega) (by omega), ?_⟩
    conv => whnf
    (conv => whnf); refine ⟨⟨(by omega), (by omega)⟩, ?_⟩
    conv => whnf
    (conv => whnf); refine .inl ⟨_, _, byX rfl (Sound1.pl (c63) rfl), ?_⟩
    conv => whnf
    (conv => whnf); refine ifB_dec (fun w2 => ?_) (fun w2 => ?_)
    ·(exfalso; omega)
    ·conv => whnf
     (conv => whnf); refine ⟨[(6, 13), (10, 13)], by kernel_rfl, ?_⟩
     conv => whnf
     (conv => whnf); refine ⟨⟨(by omega), (by omega)⟩, ?_⟩
     conv => whnf
     (conv => whnf); refine ⟨inK64 (by omega) (by omega), ?_⟩
     conv => whnf
     (conv => whnf); refine ⟨⟨(by omega), (by omega)⟩, ?_⟩
     conv => whnf
     (conv => whnf); refine ⟨[], by kernel_rfl, ?_⟩
     conv => whnf
     (conv => whnf); refine .inl ⟨_, _, byX rfl (c85), ?_⟩
     conv => whnf
     (conv => whnf); refine .inl ⟨_, _, byX rfl (c86a), ?_⟩
     conv => whnf
     (conv => whnf); refine .inl ⟨_, _, byX rfl (c84), ?_⟩
     conv => whnf
     (conv => whnf); refine ⟨by assumption, ?_⟩
     conv => whnf
     (conv => whnf); refine .inl ⟨_, _, byX rfl (c86b), ?_⟩
     conv => whnf
     (conv => whnf); refine .inl ⟨_, _, byX rfl (c83), ?_⟩
     conv => whnf
     (conv => whnf); refine ⟨[.slot 9 12], [6, 7, 8, 9, 10], fun st mq => ∃ (k : Nat) (R : List Q3) (n : Nat) (F0 : Nat → List AV) (F1 : Nat → List AV), (k ≤ (crvA t f).length) ∧ (R = compL (rawQ (crvA t f) (crvB t f) (Rat.divInt (crvP t f) (crvD t f)) k)) ∧ (R.length = n) ∧ st = ⟨[(6, .optr 2 0 0 0), (7, .optr 3 0 0 0), (8, .optr 4 0 0 0), (9, .oslice 5 0 0 n none), (10, i64 k)], ⟨[⟨1, 1, F0, 0, false, true, false⟩, ⟨2, 1, F1, 0, false, true, false⟩, ⟨2, 1, fun _ => [i64 (t.getD (rwK t f) r0).o, ptsA (crvA t f)], 0, false, true, true⟩, ⟨2, 1, fun _ => [i64 (t.getD (rwK t f + 1) r0).o, ptsA (crvB t f)], 0, false, true, true⟩, ⟨4, 1, fun _ => rC (Rat.divInt (crvP t f) (crvD t f)), 0, false, true, true⟩, ⟨12, n, fun i => bgC (R.getD i q0), 0, false, true, false⟩], [], none, 0⟩, []⟩ ∧ mq = (crvA t f).length - k,
      ⟨_, _, ⟨0, [], 0, _, _, by omega, rfl, rfl, rfl, rfl⟩, ⟨⟨.inl rfl, rfl, rfl, rfl⟩, ⟨⟨rfl, rfl, rfl, rfl, fun _ => rfl, fun _ _ => .inl rfl⟩, ⟨⟨rfl, rfl, rfl, rfl, fun _ => rfl, fun _ _ => .inl rfl⟩, ⟨⟨rfl, rfl, rfl, rfl, fun _ => rfl, fun _ _ => .inl rfl⟩, ⟨⟨rfl, rfl, rfl, rfl, fun _ => rfl, fun _ _ => .inl rfl⟩, ⟨⟨rfl, rfl, rfl, rfl, fun _ => rfl, fun _ _ => .inl rfl⟩, ⟨⟨rfl, rfl, rfl, rfl, fun _ => rfl, fun i h => .inl (absurd h (Nat.not_lt_zero i))⟩, trivial⟩⟩⟩⟩⟩⟩, trivial⟩⟩, ?_⟩
     rintro s0 m0 ⟨k, R, n, F0, F1, hk, hR, hn, rfl, hmeas⟩
     have hrw : ∀ j, (rawQ (crvA t f) (crvB t f) (Rat.divInt (crvP t f) (crvD t f)) j).length ≤ 2 * j := fun j => by
      rw [← raw_map _ _ _ (show crvD t f ≠ 0 by omega), List.length_map]; exact rawN_len _ _ _ _ j
     have hrl : n ≤ 2 * k := by rw [← hn, hR]; exact Nat.le_trans (compL_len _) (hrw k)
     have hRk : ∀ i, R3k 1 (R.getD i q0) := fun i => by
      by_cases hi : i < R.length
      ·have hm := getD_memG (d := q0) hi
       rw [hR, compL_mem, ← hR] at hm
       exact rawQ_rk hT hO k _ hm
      ·rw [List.getD_eq_getElem?_getD, List.getElem?_eq_none (by omega)]
       exact rk_pt (p := p0) ptOk_0
     by_cases hlt2 : k < (crvA t f).length
     ·have hpt := crv_pts hT hO k
      have a88 := S88 _ hpt.1
      have b88 := S88 _ hpt.2
      have a82 := S82 (ptQ ((crvA t f).getD k p0)) (ptQ ((crvB t f).getD k p0)) (Rat.divInt (crvP t f) (crvD t f)) (rk_pt hpt.1) (rk_pt hpt.2) rkp (by decide)
      by_cases hlt3 : k + 1 < (crvA t f).length
      ·have hpt2 := crv_pts hT hO (k + 1)
       have d88 := S88 _ hpt2.1
       have b82 := S82 (ptQ ((crvA t f).getD (k + 1) p0)) (ptQ ((crvB t f).getD k p0)) (Rat.divInt (crvP t f) (crvD t f)) (rk_pt hpt2.1) (rk_pt hpt.2) rkp (by decide)
       have hR2 := rawQ_2 (B := crvB t f) (part := Rat.divInt (crvP t f) (crvD t f)) hlt3
       have hy1 : R3k 1 (mixQ (ptQ ((crvA t f).getD k p0)) (ptQ ((crvB t f).getD k p0)) (Rat.divInt (crvP t f) (crvD t f))) := rawQ_rk hT hO (k + 1) _ (by rw [hR2]; simp)
       have hy2 : R3k 1 (mixQ (ptQ ((crvA t f).getD (k + 1) p0)) (ptQ ((crvB t f).getD k p0)) (Rat.divInt (crvP t f) (crvD t f))) := rawQ_rk hT hO (k + 1) _ (by rw [hR2]; simp)
       have hc2 := congrArg compL hR2
       rw [compL_snoc, compL_snoc, ← hR] at hc2
       generalize hz1 : mixQ (ptQ ((crvA t f).getD k p0)) (ptQ ((crvB t f).getD k p0)) (Rat.divInt (crvP t f) (crvD t f)) = y1 at a82 hy1 hc2
       generalize hz2 : mixQ (ptQ ((crvA t f).getD (k + 1) p0)) (ptQ ((crvB t f).getD k p0)) (Rat.divInt (crvP t f) (crvD t f)) = y2 at b82 hy2 hc2
       have c144 := fun p q hp hq => S144 (k := 1) p q hp hq (by decide)
       have e1 := cmp3_zero (R.getD (n - 1) q0) y1
       have e2 := cmp3_zero (R.getD (n - 1) q0) y2
       have e3 := cmp3_zero y1 y2
       have en : 0 < n → 0 + ((n : Int) - 1).toNat = n - 1 := fun h => by omega
       by_cases g1 : 0 < n ∧ cmp3 (R.getD (n - 1) q0) y1 = 0
       ·have s1 : compS R y1 = R := compS_y (by omega) (by rw [hn]; exact e1.1 g1.2)
        have f1 : cmp3 (R.getD (0 + ((n : Int) - 1).toNat) q0) y1 = 0 := by rw [en g1.1]; exact g1.2
        rw [s1] at hc2
        by_cases g2 : cmp3 (R.getD (n - 1) q0) y2 = 0
        ·have s2 : compS R y2 = R := compS_y (by omega) (by rw [hn]; exact e2.1 g2)
         have f2 : cmp3 (R.getD (0 + ((n : Int) - 1).toNat) q0) y2 = 0 := by rw [en g1.1]; exact g2
         rw [s2] at hc2
         conv => whnf
         conv => whnf
         (conv => whnf); refine ifB_dec (fun w3 => ?_) (fun w3 => ?_)
         ·conv => whnf
          conv => whnf
          (conv => whnf); refine ⟨[(15, 1000001)], by kernel_rfl, ?_⟩
          conv => whnf
          conv => whnf
          (conv => whnf); refine ⟨⟨(by omega), (by omega)⟩, ?_⟩
          conv => whnf
          conv => whnf
          (conv => whnf); refine .inl ⟨_, _, byX rfl (a88), ?_⟩
          conv => whnf
          conv => whnf
          (conv => whnf); refine ⟨⟨(by omega), (by omega)⟩, ?_⟩
          conv => whnf
          conv => whnf
          (conv => whnf); refine .inl ⟨_, _, byX rfl (b88), ?_⟩
          conv => whnf
          conv => whnf
          (conv => whnf); refine .inl ⟨_, _, byX rfl (a82), ?_⟩
          conv => whnf
          conv => whnf
          (conv => whnf); refine .inr (.inl ⟨[], ?_⟩)
          conv => whnf
          conv => whnf
          (conv => whnf); refine ⟨[], by kernel_rfl, ?_⟩
          conv => whnf
          conv => whnf
          (conv => whnf); refine ifB_dec (fun w4 => ?_) (fun w4 => ?_)
          ·conv => whnf
           conv => whnf
           (conv => whnf); refine ⟨inK64 (by omega) (by omega), ?_⟩
           conv => whnf
           conv => whnf
           (conv => whnf); refine ⟨⟨(by omega), (by omega)⟩, ?_⟩
           conv => whnf
           conv => whnf
           (conv => whnf); refine .inl ⟨_, _, byX rfl (Sound1.pl (c144 _ _ ?_ ?_) rfl), ?_⟩
           ·(first | contradiction | exact hRk _ | exact hy1 | exact hy2 | omega)
           ·(first | contradiction | exact hRk _ | exact hy1 | exact hy2 | omega)
           ·conv => whnf
            conv => whnf
            (conv => whnf); refine ifB_beq (fun w5 => ?_) (fun w5 => ?_)
            ·conv => whnf
             conv => whnf
             (conv => whnf); refine ⟨inK64 (by omega) (by omega), ?_⟩
             conv => whnf
             conv => whnf
             (conv => whnf); refine ifB_dec (fun w6 => ?_) (fun w6 => ?_)
             ·conv => whnf
              conv => whnf
              (conv => whnf); refine ⟨[(16, 1000001)], by kernel_rfl, ?_⟩
              conv => whnf
              conv => whnf
              (conv => whnf); refine ⟨inK64 (by omega) (by omega), ?_⟩
              conv => whnf
              conv => whnf
              (conv => whnf); refine ⟨⟨(by omega), (by omega)⟩, ?_⟩
              conv => whnf
              conv => whnf
              (conv => whnf); refine .inl ⟨_, _, byX rfl (d88), ?_⟩
              conv => whnf
              conv => whnf
              (conv => whnf); refine ⟨⟨(by omega), (by omega)⟩, ?_⟩
              conv => whnf
              conv => whnf
              (conv => whnf); refine .inl ⟨_, _, byX rfl (b88), ?_⟩
              conv => whnf
              conv => whnf
              (conv => whnf); refine .inl ⟨_, _, byX rfl (b82), ?_⟩
              conv => whnf
              conv => whnf
              (conv => whnf); refine .inr (.inl ⟨[], ?_⟩)
              conv => whnf
              conv => whnf
              (conv => whnf); refine ⟨[], by kernel_rfl, ?_⟩
              conv => whnf
              conv => whnf
              (conv => whnf); refine ifB_dec (fun w7 => ?_) (fun w7 => ?_)
              ·conv => whnf
               conv => whnf
               (conv => whnf); refine ⟨inK64 (by omega) (by omega), ?_⟩
               conv => whnf
               conv => whnf
               (conv => whnf); refine ⟨⟨(by omega), (by omega)⟩, ?_⟩
               conv => whnf
               conv => whnf
               (conv => whnf); refine .inl ⟨_, _, byX rfl (Sound1.pl (c144 _ _ ?_ ?_) rfl), ?_⟩
               ·(first | contradiction | exact hRk _ | exact hy1 | exact hy2 | omega)
               ·(first | contradiction | exact hRk _ | exact hy1 | exact hy2 | omega)
               ·conv => whnf
                conv => whnf
                (conv => whnf); refine ifB_beq (fun w8 => ?_) (fun w8 => ?_)
                ·conv => whnf
                 conv => whnf
                 (conv => whnf); refine ⟨inK64 (by omega) (by omega), ?_⟩
                 conv => whnf
                 conv => whnf
                 (conv => whnf); refine ⟨_, _, ⟨⟨k + 1, R, n, _, _, by omega, hc2.symm, hn, rfl, rfl⟩, by omega⟩, ⟨⟨.inl rfl, rfl, rfl, rfl⟩, ⟨⟨rfl, rfl, rfl, rfl, fun _ => rfl, fun _ _ => .inl rfl⟩, ⟨⟨rfl, rfl, rfl, rfl, fun _ => rfl, fun _ _ => .inl rfl⟩, ⟨⟨rfl, rfl, rfl, rfl, fun _ => rfl, fun _ _ => .inl rfl⟩, ⟨⟨rfl, rfl, rfl, rfl, fun _ => rfl, fun _ _ => .inl rfl⟩, ⟨⟨rfl, rfl, rfl, rfl, fun _ => rfl, fun _ _ => .inl rfl⟩, ⟨⟨rfl, rfl, rfl, rfl, fun _ => rfl, fun _ _ => .inl rfl⟩, trivial⟩⟩⟩⟩⟩⟩, trivial⟩⟩
                ·(exfalso; omega)
              ·(exfalso; omega)
             ·(exfalso; omega)
            ·(exfalso; omega)
          ·(exfalso; omega)
         ·(exfalso; omega)
        ·have s2 : compS R y2 = R ++ [y2] := compS_n (fun _ => by rw [hn]; exact fun e => g2 (e2.2 e))
         have f2 : ¬ cmp3 (R.getD (0 + ((n : Int) - 1).toNat) q0) y2 = 0 := by rw [en g1.1]; exact g2
         rw [s2] at hc2
         conv => whnf
         conv => whnf
         (conv => whnf); refine ifB_dec (fun w3 => ?_) (fun w3 => ?_)
         ·conv => whnf
          conv => whnf
          (conv => whnf); refine ⟨[(15, 1000001)], by kernel_rfl, ?_⟩
          conv => whnf
          conv => whnf
          (conv => whnf); refine ⟨⟨(by omega), (by omega)⟩, ?_⟩
          conv => whnf
          conv => whnf
          (conv => whnf); refine .inl ⟨_, _, byX rfl (a88), ?_⟩
          conv => whnf
          conv => whnf
          (conv => whnf); refine ⟨⟨(by omega), (by omega)⟩, ?_⟩
          conv => whnf
          conv => whnf
          (conv => whnf); refine .inl ⟨_, _, byX rfl (b88), ?_⟩
          conv => whnf
          conv => whnf
          (conv => whnf); refine .inl ⟨_, _, byX rfl (a82), ?_⟩
          conv => whnf
          conv => whnf
          (conv => whnf); refine .inr (.inl ⟨[], ?_⟩)
          conv => whnf
          conv => whnf
          (conv => whnf); refine ⟨[], by kernel_rfl, ?_⟩
          conv => whnf
          conv => whnf
          (conv => whnf); refine ifB_dec (fun w4 => ?_) (fun w4 => ?_)
          ·conv => whnf
           conv => whnf
           (conv => whnf); refine ⟨inK64 (by omega) (by omega), ?_⟩
           conv => whnf
           conv => whnf
           (conv => whnf); refine ⟨⟨(by omega), (by omega)⟩, ?_⟩
           conv => whnf
           conv => whnf
           (conv => whnf); refine .inl ⟨_, _, byX rfl (Sound1.pl (c144 _ _ ?_ ?_) rfl), ?_⟩
           ·(first | contradiction | exact hRk _ | exact hy1 | exact hy2 | omega)
           ·(first | contradiction | exact hRk _ | exact hy1 | exact hy2 | omega)
           ·conv => whnf
            conv => whnf
            (conv => whnf); refine ifB_beq (fun w5 => ?_) (fun w5 => ?_)
            ·conv => whnf
             conv => whnf
             (conv => whnf); refine ⟨inK64 (by omega) (by omega), ?_⟩
             conv => whnf
             conv => whnf
             (conv => whnf); refine ifB_dec (fun w6 => ?_) (fun w6 => ?_)
             ·conv => whnf
              conv => whnf
              (conv => whnf); refine ⟨[(16, 1000001)], by kernel_rfl, ?_⟩
              conv => whnf
              conv => whnf
              (conv => whnf); refine ⟨inK64 (by omega) (by omega), ?_⟩
              conv => whnf
              conv => whnf
              (conv => whnf); refine ⟨⟨(by omega), (by omega)⟩, ?_⟩
              conv => whnf
              conv => whnf
              (conv => whnf); refine .inl ⟨_, _, byX rfl (d88), ?_⟩
              conv => whnf
              conv => whnf
              (conv => whnf); refine ⟨⟨(by omega), (by omega)⟩, ?_⟩
              conv => whnf
              conv => whnf
              (conv => whnf); refine .inl ⟨_, _, byX rfl (b88), ?_⟩
              conv => whnf
              conv => whnf
              (conv => whnf); refine .inl ⟨_, _, byX rfl (b82), ?_⟩
              conv => whnf
              conv => whnf
              (conv => whnf); refine .inr (.inl ⟨[], ?_⟩)
              conv => whnf
              conv => whnf
              (conv => whnf); refine ⟨[], by kernel_rfl, ?_⟩
              conv => whnf
              conv => whnf
              (conv => whnf); refine ifB_dec (fun w7 => ?_) (fun w7 => ?_)
              ·conv => whnf
               conv => whnf
               (conv => whnf); refine ⟨inK64 (by omega) (by omega), ?_⟩
               conv => whnf
               conv => whnf
               (conv => whnf); refine ⟨⟨(by omega), (by omega)⟩, ?_⟩
               conv => whnf
               conv => whnf
               (conv => whnf); refine .inl ⟨_, _, byX rfl (Sound1.pl (c144 _ _ ?_ ?_) rfl), ?_⟩
               ·(first | contradiction | exact hRk _ | exact hy1 | exact hy2 | omega)
               ·(first | contradiction | exact hRk _ | exact hy1 | exact hy2 | omega)
               ·conv => whnf
                conv => whnf
                (conv => whnf); refine ifB_beq (fun w8 => ?_) (fun w8 => ?_)
                ·(exfalso; omega)
                ·conv => whnf
                 conv => whnf
                 (conv => whnf); refine .inl ?_
                 conv => whnf
                 conv => whnf
                 (conv => whnf); refine ⟨(by show _ * (192 + 1) ≤ _; omega), ?_⟩
                 conv => whnf
                 conv => whnf
                 (conv => whnf); refine ⟨inK64 (by omega) (by omega), ?_⟩
                 conv => whnf
                 conv => whnf
                 (conv => whnf); refine ⟨_, _, ⟨⟨k + 1, R ++ [y2], n + 1, _, _, by omega, hc2.symm, (by simp [hn]), rfl, rfl⟩, by omega⟩, ⟨⟨.inl rfl, rfl, rfl, rfl⟩, ⟨⟨rfl, rfl, rfl, rfl, fun _ => rfl, fun _ _ => .inl rfl⟩, ⟨⟨rfl, rfl, rfl, rfl, fun _ => rfl, fun _ _ => .inl rfl⟩, ⟨⟨rfl, rfl, rfl, rfl, fun _ => rfl, fun _ _ => .inl rfl⟩, ⟨⟨rfl, rfl, rfl, rfl, fun _ => rfl, fun _ _ => .inl rfl⟩, ⟨⟨rfl, rfl, rfl, rfl, fun _ => rfl, fun _ _ => .inl rfl⟩, ⟨⟨rfl, rfl, rfl, rfl, fun _ => rfl, fun j hj => .inl (appG bgC (m := 12) (fun _ => rfl) q0 R _ n j hn hj)⟩, trivial⟩⟩⟩⟩⟩⟩, trivial⟩⟩
              ·(exfalso; omega)
             ·(exfalso; omega)
            ·(exfalso; omega)
          ·(exfalso; omega)
         ·(exfalso; omega)
       ·have s1 : compS R y1 = R ++ [y1] := compS_n (fun h0 => by rw [hn] at h0 ⊢; exact fun e => g1 ⟨h0, e1.2 e⟩)
        have f1 : 0 < n → ¬ cmp3 (R.getD (0 + ((n : Int) - 1).toNat) q0) y1 = 0 := fun h => by rw [en h]; exact fun e => g1 ⟨h, e⟩
        rw [s1] at hc2
        have l1 : (R ++ [y1]).getD ((R ++ [y1]).length - 1) q0 = y1 := by simp [List.getD_eq_getElem?_getD]
        have l0 : 0 < (R ++ [y1]).length := by simp
        have hn1 : (R ++ [y1]).length = n + 1 := by simp [hn]
        have hwk := fun (i : Nat) (hi : i < n + 1) => appG bgC (m := 12) (fun _ => rfl) q0 R y1 n i hn hi
        have en1 : 0 + (((n + 1 : Nat) : Int) - 1).toNat = (R ++ [y1]).length - 1 := by rw [hn1]; omega
        have hl1 : (R ++ [y1]).getD (0 + (((n + 1 : Nat) : Int) - 1).toNat) q0 = y1 := by rw [en1]; exact l1
        have hRk1 : R3k 1 ((R ++ [y1]).getD (0 + (((n + 1 : Nat) : Int) - 1).toNat) q0) := by rw [hl1]; exact hy1
        have e4 := e3
        rw [← hl1] at e4
        generalize R ++ [y1] = R1 at *
        by_cases g3 : y1 = y2
        ·have s2 : compS R1 y2 = R1 := compS_y l0 (by rw [l1]; exact g3)
         have f4 : cmp3 (R1.getD (0 + (((n + 1 : Nat) : Int) - 1).toNat) q0) y2 = 0 := e4.2 (hl1.trans g3)
         rw [s2] at hc2
         by_cases h0 : 0 < n
         ·have f1 := f1 h0
          conv => whnf
          conv => whnf
          (conv => whnf); refine ifB_dec (fun w3 => ?_) (fun w3 => ?_)
          ·conv => whnf
           conv => whnf
           (conv => whnf); refine ⟨[(15, 1000001)], by kernel_rfl, ?_⟩
           conv => whnf
           conv => whnf
           (conv => whnf); refine ⟨⟨(by omega), (by omega)⟩, ?_⟩
           conv => whnf
           conv => whnf
           (conv => whnf); refine .inl ⟨_, _, byX rfl (a88), ?_⟩
           conv => whnf
           conv => whnf
           (conv => whnf); refine ⟨⟨(by omega), (by omega)⟩, ?_⟩
           conv => whnf
           conv => whnf
           (conv => whnf); refine .inl ⟨_, _, byX rfl (b88), ?_⟩
           conv => whnf
           conv => whnf
           (conv => whnf); refine .inl ⟨_, _, byX rfl (a82), ?_⟩
           conv => whnf
           conv => whnf
           (conv => whnf); refine .inr (.inl ⟨[], ?_⟩)
           conv => whnf
           conv => whnf
           (conv => whnf); refine ⟨[], by kernel_rfl, ?_⟩
           conv => whnf
           conv => whnf
           (conv => whnf); refine ifB_dec (fun w4 => ?_) (fun w4 => ?_)
           ·conv => whnf
            conv => whnf
            (conv => whnf); refine ⟨inK64 (by omega) (by omega), ?_⟩
            conv => whnf
            conv => whnf
            (conv => whnf); refine ⟨⟨(by omega), (by omega)⟩, ?_⟩
            conv => whnf
            conv => whnf
            (conv => whnf); refine .inl ⟨_, _, byX rfl (Sound1.pl (c144 _ _ ?_ ?_) rfl), ?_⟩
            ·(first | contradiction | exact hRk _ | exact hy1 | exact hy2 | exact hRk1 | omega)
            ·(first | contradiction | exact hRk _ | exact hy1 | exact hy2 | exact hRk1 | omega)
            ·conv => whnf
             conv => whnf
             (conv => whnf); refine ifB_beq (fun w5 => ?_) (fun w5 => ?_)
             ·(exfalso; omega)
             ·conv => whnf
              conv => whnf
              (conv => whnf); refine .inl ?_
              conv => whnf
              conv => whnf
              (conv => whnf); refine ⟨(by show _ * (192 + 1) ≤ _; omega), ?_⟩
              conv => whnf
              conv => whnf
              (conv => whnf); refine ⟨inK64 (by omega) (by omega), ?_⟩
              conv => whnf
              conv => whnf
              (conv => whnf); refine ifB_dec (fun w6 => ?_) (fun w6 => ?_)
              ·conv => whnf
               conv => whnf
               (conv => whnf); refine ⟨[(16, 1000001), (0, 1000002)], _, weakF 5 (fun i => bgC (R1.getD i q0)) rfl hwk, by kernel_rfl, ?_⟩
               conv => whnf
               conv => whnf
               (conv => whnf); refine ⟨inK64 (by omega) (by omega), ?_⟩
               conv => whnf
               conv => whnf
               (conv => whnf); refine ⟨⟨(by omega), (by omega)⟩, ?_⟩
               conv => whnf
               conv => whnf
               (conv => whnf); refine .inl ⟨_, _, byX rfl (d88), ?_⟩
               conv => whnf
               conv => whnf
               (conv => whnf); refine ⟨⟨(by omega), (by omega)⟩, ?_⟩
               conv => whnf
               conv => whnf
               (conv => whnf); refine .inl ⟨_, _, byX rfl (b88), ?_⟩
               conv => whnf
               conv => whnf
               (conv => whnf); refine .inl ⟨_, _, byX rfl (b82), ?_⟩
               conv => whnf
               conv => whnf
               (conv => whnf); refine .inr (.inl ⟨[], ?_⟩)
               conv => whnf
               conv => whnf
               (conv => whnf); refine ⟨[], by kernel_rfl, ?_⟩
               conv => whnf
               conv => whnf
               (conv => whnf); refine ifB_dec (fun w7 => ?_) (fun w7 => ?_)
               ·conv => whnf
                conv => whnf
                (conv => whnf); refine ⟨inK64 (by omega) (by omega), ?_⟩
                conv => whnf
                conv => whnf
                (conv => whnf); refine ⟨⟨(by omega), (by omega)⟩, ?_⟩
                conv => whnf
                conv => whnf
                (conv => whnf); refine .inl ⟨_, _, byX rfl (Sound1.pl (c144 _ _ (by omega) (by omega)) rfl), ?_⟩
                conv => whnf
                conv => whnf
                (conv => whnf); refine ifB_beq (fun w8 => ?_) (fun w8 => ?_)
                ·conv => whnf
                 conv => whnf
                 (conv => whnf); refine ⟨inK64 (by omega) (by omega), ?_⟩
                 conv => whnf
                 conv => whnf
                 (conv => whnf); refine ⟨_, _, ⟨⟨k + 1, R1, n + 1, _, _, by omega, hc2.symm, hn1, rfl, rfl⟩, by omega⟩, ⟨⟨.inl rfl, rfl, rfl, rfl⟩, ⟨⟨rfl, rfl, rfl, rfl, fun _ => rfl, fun _ _ => .inl rfl⟩, ⟨⟨rfl, rfl, rfl, rfl, fun _ => rfl, fun _ _ => .inl rfl⟩, ⟨⟨rfl, rfl, rfl, rfl, fun _ => rfl, fun _ _ => .inl rfl⟩, ⟨⟨rfl, rfl, rfl, rfl, fun _ => rfl, fun _ _ => .inl rfl⟩, ⟨⟨rfl, rfl, rfl, rfl, fun _ => rfl, fun _ _ => .inl rfl⟩, ⟨⟨rfl, rfl, rfl, rfl, fun _ => rfl, fun _ _ => .inl rfl⟩, trivial⟩⟩⟩⟩⟩⟩, trivial⟩⟩
                ·(exfalso; omega)
               ·(exfalso; omega)
              ·(exfalso; omega)
           ·(exfalso; omega)
          ·(exfalso; omega)
         ·conv => whnf
          conv => whnf
          (conv => whnf); refine ifB_dec (fun w3 => ?_) (fun w3 => ?_)
          ·conv => whnf
           conv => whnf
           (conv => whnf); refine ⟨[(15, 1000001)], by kernel_rfl, ?_⟩
           conv => whnf
           conv => whnf
           (conv => whnf); refine ⟨⟨(by omega), (by omega)⟩, ?_⟩
           conv => whnf
           conv => whnf
           (conv => whnf); refine .inl ⟨_, _, byX rfl (a88), ?_⟩
           conv => whnf
           conv => whnf
           (conv => whnf); refine ⟨⟨(by omega), (by omega)⟩, ?_⟩
           conv => whnf
           conv => whnf
           (conv => whnf); refine .inl ⟨_, _, byX rfl (b88), ?_⟩
           conv => whnf
           conv => whnf
           (conv => whnf); refine .inl ⟨_, _, byX rfl (a82), ?_⟩
           conv => whnf
           conv => whnf
           (conv => whnf); refine .inr (.inl ⟨[], ?_⟩)
           conv => whnf
           conv => whnf
           (conv => whnf); refine ⟨[], by kernel_rfl, ?_⟩
           conv => whnf
           conv => whnf
           (conv => whnf); refine ifB_dec (fun w4 => ?_) (fun w4 => ?_)
           ·(exfalso; omega)
           ·conv => whnf
            conv => whnf
            (conv => whnf); refine .inl ?_
            conv => whnf
            conv => whnf
            (conv => whnf); refine ⟨(by show _ * (192 + 1) ≤ _; omega), ?_⟩
            conv => whnf
            conv => whnf
            (conv => whnf); refine ⟨inK64 (by omega) (by omega), ?_⟩
            conv => whnf
            conv => whnf
            (conv => whnf); refine ifB_dec (fun w5 => ?_) (fun w5 => ?_)
            ·conv => whnf
             conv => whnf
             (conv => whnf); refine ⟨[(16, 1000001), (0, 1000002)], _, weakF 5 (fun i => bgC (R1.getD i q0)) rfl hwk, by kernel_rfl, ?_⟩
             conv => whnf
             conv => whnf
             (conv => whnf); refine ⟨inK64 (by omega) (by omega), ?_⟩
             conv => whnf
             conv => whnf
             (conv => whnf); refine ⟨⟨(by omega), (by omega)⟩, ?_⟩
             conv => whnf
             conv => whnf
             (conv => whnf); refine .inl ⟨_, _, byX rfl (d88), ?_⟩
             conv => whnf
             conv => whnf
             (conv => whnf); refine ⟨⟨(by omega), (by omega)⟩, ?_⟩
             conv => whnf
             conv => whnf
             (conv => whnf); refine .inl ⟨_, _, byX rfl (b88), ?_⟩
             conv => whnf
             conv => whnf
             (conv => whnf); refine .inl ⟨_, _, byX rfl (b82), ?_⟩
             conv => whnf
             conv => whnf
             (conv => whnf); refine .inr (.inl ⟨[], ?_⟩)
             conv => whnf
             conv => whnf
             (conv => whnf); refine ⟨[], by kernel_rfl, ?_⟩
             conv => whnf
             conv => whnf
             (conv => whnf); refine ifB_dec (fun w6 => ?_) (fun w6 => ?_)
             ·conv => whnf
              conv => whnf
              (conv => whnf); refine ⟨inK64 (by omega) (by omega), ?_⟩
              conv => whnf
              conv => whnf
              (conv => whnf); refine ⟨⟨(by omega), (by omega)⟩, ?_⟩
              conv => whnf
              conv => whnf
              (conv => whnf); refine .inl ⟨_, _, byX rfl (Sound1.pl (c144 _ _ (by omega) (by omega)) rfl), ?_⟩
              conv => whnf
              conv => whnf
              (conv => whnf); refine ifB_beq (fun w7 => ?_) (fun w7 => ?_)
              ·conv => whnf
               conv => whnf
               (conv => whnf); refine ⟨inK64 (by omega) (by omega), ?_⟩
               conv => whnf
               conv => whnf
               (conv => whnf); refine ⟨_, _, ⟨⟨k + 1, R1, n + 1, _, _, by omega, hc2.symm, hn1, rfl, rfl⟩, by omega⟩, ⟨⟨.inl rfl, rfl, rfl, rfl⟩, ⟨⟨rfl, rfl, rfl, rfl, fun _ => rfl, fun _ _ => .inl rfl⟩, ⟨⟨rfl, rfl, rfl, rfl, fun _ => rfl, fun _ _ => .inl rfl⟩, ⟨⟨rfl, rfl, rfl, rfl, fun _ => rfl, fun _ _ => .inl rfl⟩, ⟨⟨rfl, rfl, rfl, rfl, fun _ => rfl, fun _ _ => .inl rfl⟩, ⟨⟨rfl, rfl, rfl, rfl, fun _ => rfl, fun _ _ => .inl rfl⟩, ⟨⟨rfl, rfl, rfl, rfl, fun _ => rfl, fun _ _ => .inl rfl⟩, trivial⟩⟩⟩⟩⟩⟩, trivial⟩⟩
              ·(exfalso; omega)
             ·(exfalso; omega)
            ·(exfalso; omega)
          ·(exfalso; omega)
        ·have s2 : compS R1 y2 = R1 ++ [y2] := compS_n (fun _ => by rw [l1]; exact g3)
         have f4 : ¬ cmp3 (R1.getD (0 + (((n + 1 : Nat) : Int) - 1).toNat) q0) y2 = 0 := fun e => g3 (hl1.symm.trans (e4.1 e))
         rw [s2] at hc2
         by_cases h0 : 0 < n
         ·have f1 := f1 h0
          conv => whnf
          conv => whnf
          (conv => whnf); refine ifB_dec (fun w3 => ?_) (fun w3 => ?_)
          ·conv => whnf
           conv => whnf
           (conv => whnf); refine ⟨[(15, 1000001)], by kernel_rfl, ?_⟩
           conv => whnf
           conv => whnf
           (conv => whnf); refine ⟨⟨(by omega), (by omega)⟩, ?_⟩
           conv => whnf
           conv => whnf
           (conv => whnf); refine .inl ⟨_, _, byX rfl (a88), ?_⟩
           conv => whnf
           conv => whnf
           (conv => whnf); refine ⟨⟨(by omega), (by omega)⟩, ?_⟩
           conv => whnf
           conv => whnf
           (conv => whnf); refine .inl ⟨_, _, byX rfl (b88), ?_⟩
           conv => whnf
           conv => whnf
           (conv => whnf); refine .inl ⟨_, _, byX rfl (a82), ?_⟩
           conv => whnf
           conv => whnf
           (conv => whnf); refine .inr (.inl ⟨[], ?_⟩)
           conv => whnf
           conv => whnf
           (conv => whnf); refine ⟨[], by kernel_rfl, ?_⟩
           conv => whnf
           conv => whnf
           (conv => whnf); refine ifB_dec (fun w4 => ?_) (fun w4 => ?_)
           ·conv => whnf
            conv => whnf
            (conv => whnf); refine ⟨inK64 (by omega) (by omega), ?_⟩
            conv => whnf
            conv => whnf
            (conv => whnf); refine ⟨⟨(by omega), (by omega)⟩, ?_⟩
            conv => whnf
            conv => whnf
            (conv => whnf); refine .inl ⟨_, _, byX rfl (Sound1.pl (c144 _ _ ?_ ?_) rfl), ?_⟩
            ·(first | contradiction | exact hRk _ | exact hy1 | exact hy2 | exact hRk1 | omega)
            ·(first | contradiction | exact hRk _ | exact hy1 | exact hy2 | exact hRk1 | omega)
            ·conv => whnf
             conv => whnf
             (conv => whnf); refine ifB_beq (fun w5 => ?_) (fun w5 => ?_)
             ·(exfalso; omega)
             ·conv => whnf
              conv => whnf
              (conv => whnf); refine .inl ?_
              conv => whnf
              conv => whnf
              (conv => whnf); refine ⟨(by show _ * (192 + 1) ≤ _; omega), ?_⟩
              conv => whnf
              conv => whnf
              (conv => whnf); refine ⟨inK64 (by omega) (by omega), ?_⟩
              conv => whnf
              conv => whnf
              (conv => whnf); refine ifB_dec (fun w6 => ?_) (fun w6 => ?_)
              ·conv => whnf
               conv => whnf
               (conv => whnf); refine ⟨[(16, 1000001), (0, 1000002)], _, weakF 5 (fun i => bgC (R1.getD i q0)) rfl hwk, by kernel_rfl, ?_⟩
               conv => whnf
               conv => whnf
               (conv => whnf); refine ⟨inK64 (by omega) (by omega), ?_⟩
               conv => whnf
               conv => whnf
               (conv => whnf); refine ⟨⟨(by omega), (by omega)⟩, ?_⟩
               conv => whnf
               conv => whnf
               (conv => whnf); refine .inl ⟨_, _, byX rfl (d88), ?_⟩
               conv => whnf
               conv => whnf
               (conv => whnf); refine ⟨⟨(by omega), (by omega)⟩, ?_⟩
               conv => whnf
               conv => whnf
               (conv => whnf); refine .inl ⟨_, _, byX rfl (b88), ?_⟩
               conv => whnf
               conv => whnf
               (conv => whnf); refine .inl ⟨_, _, byX rfl (b82), ?_⟩
               conv => whnf
               conv => whnf
               (conv => whnf); refine .inr (.inl ⟨[], ?_⟩)
               conv => whnf
               conv => whnf
               (conv => whnf); refine ⟨[], by kernel_rfl, ?_⟩
               conv => whnf
               conv => whnf
               (conv => whnf); refine ifB_dec (fun w7 => ?_) (fun w7 => ?_)
               ·conv => whnf
                conv => whnf
                (conv => whnf); refine ⟨inK64 (by omega) (by omega), ?_⟩
                conv => whnf
                conv => whnf
                (conv => whnf); refine ⟨⟨(by omega), (by omega)⟩, ?_⟩
                conv => whnf
                conv => whnf
                (conv => whnf); refine .inl ⟨_, _, byX rfl (Sound1.pl (c144 _ _ (by omega) (by omega)) rfl), ?_⟩
                conv => whnf
                conv => whnf
                (conv => whnf); refine ifB_beq (fun w8 => ?_) (fun w8 => ?_)
                ·(exfalso; omega)
                ·conv => whnf
                 conv => whnf
                 (conv => whnf); refine .inl ?_
                 conv => whnf
                 conv => whnf
                 (conv => whnf); refine ⟨(by show _ * (192 + 1) ≤ _; omega), ?_⟩
                 conv => whnf
                 conv => whnf
                 (conv => whnf); refine ⟨inK64 (by omega) (by omega), ?_⟩
                 conv => whnf
                 conv => whnf
                 (conv => whnf); refine ⟨_, _, ⟨⟨k + 1, R1 ++ [y2], n + 1 + 1, _, _, by omega, hc2.symm, (by simp [hn1]), rfl, rfl⟩, by omega⟩, ⟨⟨.inl rfl, rfl, rfl, rfl⟩, ⟨⟨rfl, rfl, rfl, rfl, fun _ => rfl, fun _ _ => .inl rfl⟩, ⟨⟨rfl, rfl, rfl, rfl, fun _ => rfl, fun _ _ => .inl rfl⟩, ⟨⟨rfl, rfl, rfl, rfl, fun _ => rfl, fun _ _ => .inl rfl⟩, ⟨⟨rfl, rfl, rfl, rfl, fun _ => rfl, fun _ _ => .inl rfl⟩, ⟨⟨rfl, rfl, rfl, rfl, fun _ => rfl, fun _ _ => .inl rfl⟩, ⟨⟨rfl, rfl, rfl, rfl, fun _ => rfl, fun j hj => .inl (appG bgC (m := 12) (fun _ => rfl) q0 R1 _ (n + 1) j hn1 hj)⟩, trivial⟩⟩⟩⟩⟩⟩, trivial⟩⟩
               ·(exfalso; omega)
              ·(exfalso; omega)
           ·(exfalso; omega)
          ·(exfalso; omega)
         ·conv => whnf
          conv => whnf
          (conv => whnf); refine ifB_dec (fun w3 => ?_) (fun w3 => ?_)
          ·conv => whnf
           conv => whnf
           (conv => whnf); refine ⟨[(15, 1000001)], by kernel_rfl, ?_⟩
           conv => whnf
           conv => whnf
           (conv => whnf); refine ⟨⟨(by omega), (by omega)⟩, ?_⟩
           conv => whnf
           conv => whnf
           (conv => whnf); refine .inl ⟨_, _, byX rfl (a88), ?_⟩
           conv => whnf
           conv => whnf
           (conv => whnf); refine ⟨⟨(by omega), (by omega)⟩, ?_⟩
           conv => whnf
           conv => whnf
           (conv => whnf); refine .inl ⟨_, _, byX rfl (b88), ?_⟩
           conv => whnf
           conv => whnf
           (conv => whnf); refine .inl ⟨_, _, byX rfl (a82), ?_⟩
           conv => whnf
           conv => whnf
           (conv => whnf); refine .inr (.inl ⟨[], ?_⟩)
           conv => whnf
           conv => whnf
           (conv => whnf); refine ⟨[], by kernel_rfl, ?_⟩
           conv => whnf
           conv => whnf
           (conv => whnf); refine ifB_dec (fun w4 => ?_) (fun w4 => ?_)
           ·(exfalso; omega)
           ·conv => whnf
            conv => whnf
            (conv => whnf); refine .inl ?_
            conv => whnf
            conv => whnf
            (conv => whnf); refine ⟨(by show _ * (192 + 1) ≤ _; omega), ?_⟩
            conv => whnf
            conv => whnf
            (conv => whnf); refine ⟨inK64 (by omega) (by omega), ?_⟩
            conv => whnf
            conv => whnf
            (conv => whnf); refine ifB_dec (fun w5 => ?_) (fun w5 => ?_)
            ·conv => whnf
             conv => whnf
             (conv => whnf); refine ⟨[(16, 1000001), (0, 1000002)], _, weakF 5 (fun i => bgC (R1.getD i q0)) rfl hwk, by kernel_rfl, ?_⟩
             conv => whnf
             conv => whnf
             (conv => whnf); refine ⟨inK64 (by omega) (by omega), ?_⟩
             conv => whnf
             conv => whnf
             (conv => whnf); refine ⟨⟨(by omega), (by omega)⟩, ?_⟩
             conv => whnf
             conv => whnf
             (conv => whnf); refine .inl ⟨_, _, byX rfl (d88), ?_⟩
             conv => whnf
             conv => whnf
             (conv => whnf); refine ⟨⟨(by omega), (by omega)⟩, ?_⟩
             conv => whnf
             conv => whnf
             (conv => whnf); refine .inl ⟨_, _, byX rfl (b88), ?_⟩
             conv => whnf
             conv => whnf
             (conv => whnf); refine .inl ⟨_, _, byX rfl (b82), ?_⟩
             conv => whnf
             conv => whnf
             (conv => whnf); refine .inr (.inl ⟨[], ?_⟩)
             conv => whnf
             conv => whnf
             (conv => whnf); refine ⟨[], by kernel_rfl, ?_⟩
             conv => whnf
             conv => whnf
             (conv => whnf); refine ifB_dec (fun w6 => ?_) (fun w6 => ?_)
             ·conv => whnf
              conv => whnf
              (conv => whnf); refine ⟨inK64 (by omega) (by omega), ?_⟩
              conv => whnf
              conv => whnf
              (conv => whnf); refine ⟨⟨(by omega), (by omega)⟩, ?_⟩
              conv => whnf
              conv => whnf
              (conv => whnf); refine .inl ⟨_, _, byX rfl (Sound1.pl (c144 _ _ (by omega) (by omega)) rfl), ?_⟩
              conv => whnf
              conv => whnf
              (conv => whnf); refine ifB_beq (fun w7 => ?_) (fun w7 => ?_)
              ·(exfalso; omega)
              ·conv => whnf
               conv => whnf
               (conv => whnf); refine .inl ?_
               conv => whnf
               conv => whnf
               (conv => whnf); refine ⟨(by show _ * (192 + 1) ≤ _; omega), ?_⟩
               conv => whnf
               conv => whnf
               (conv => whnf); refine ⟨inK64 (by omega) (by omega), ?_⟩
               conv => whnf
               conv => whnf
               (conv => whnf); refine ⟨_, _, ⟨⟨k + 1, R1 ++ [y2], n + 1 + 1, _, _, by omega, hc2.symm, (by simp [hn1]), rfl, rfl⟩, by omega⟩, ⟨⟨.inl rfl, rfl, rfl, rfl⟩, ⟨⟨rfl, rfl, rfl, rfl, fun _ => rfl, fun _ _ => .inl rfl⟩, ⟨⟨rfl, rfl, rfl, rfl, fun _ => rfl, fun _ _ => .inl rfl⟩, ⟨⟨rfl, rfl, rfl, rfl, fun _ => rfl, fun _ _ => .inl rfl⟩, ⟨⟨rfl, rfl, rfl, rfl, fun _ => rfl, fun _ _ => .inl rfl⟩, ⟨⟨rfl, rfl, rfl, rfl, fun _ => rfl, fun _ _ => .inl rfl⟩, ⟨⟨rfl, rfl, rfl, rfl, fun _ => rfl, fun j hj => .inl (appG bgC (m := 12) (fun _ => rfl) q0 R1 _ (n + 1) j hn1 hj)⟩, trivial⟩⟩⟩⟩⟩⟩, trivial⟩⟩
             ·(exfalso; omega)
            ·(exfalso; omega)
          ·(exfalso; omega)
      ·have hR2 := rawQ_1 (B := crvB t f) (part := Rat.divInt (crvP t f) (crvD t f)) hlt3
       have hy1 : R3k 1 (mixQ (ptQ ((crvA t f).getD k p0)) (ptQ ((crvB t f).getD k p0)) (Rat.divInt (crvP t f) (crvD t f))) := rawQ_rk hT hO (k + 1) _ (by rw [hR2]; simp)
       have hc2 := congrArg compL hR2
       rw [compL_snoc, ← hR] at hc2
       generalize hz1 : mixQ (ptQ ((crvA t f).getD k p0)) (ptQ ((crvB t f).getD k p0)) (Rat.divInt (crvP t f) (crvD t f)) = y1 at a82 hy1 hc2
       have c1 : ∀ i, i + 1 = n → SP 144 [bgA (R.getD i q0), bgA y1] (i64 (cmp3 (R.getD (n - 1) q0) y1)) false := fun i hi => by
        have e : n - 1 = i := by omega
        rw [e]; exact S144 _ _ (hRk i) hy1 (by decide)
       have e1 := cmp3_zero (R.getD (n - 1) q0) y1
       generalize cmp3 (R.getD (n - 1) q0) y1 = z1 at *
       by_cases g1 : 0 < n ∧ z1 = 0
       ·have s1 : compS R y1 = R := compS_y (by omega) (by rw [hn]; exact e1.1 g1.2)
        rw [s1] at hc2
        conv => whnf
        conv => whnf
        (conv => whnf); refine ifB_dec (fun w3 => ?_) (fun w3 => ?_)
        ·conv => whnf
         conv => whnf
         (conv => whnf); refine ⟨[(15, 1000001)], by kernel_rfl, ?_⟩
         conv => whnf
         conv => whnf
         (conv => whnf); refine ⟨⟨(by omega), (by omega)⟩, ?_⟩
         conv => whnf
         conv => whnf
         (conv => whnf); refine .inl ⟨_, _, byX rfl (a88), ?_⟩
         conv => whnf
         conv => whnf
         (conv => whnf); refine ⟨⟨(by omega), (by omega)⟩, ?_⟩
         conv => whnf
         conv => whnf
         (conv => whnf); refine .inl ⟨_, _, byX rfl (b88), ?_⟩
         conv => whnf
         conv => whnf
         (conv => whnf); refine .inl ⟨_, _, byX rfl (a82), ?_⟩
         conv => whnf
         conv => whnf
         (conv => whnf); refine .inr (.inl ⟨[], ?_⟩)
         conv => whnf
         conv => whnf
         (conv => whnf); refine ⟨[], by kernel_rfl, ?_⟩
         conv => whnf
         conv => whnf
         (conv => whnf); refine ifB_dec (fun w4 => ?_) (fun w4 => ?_)
         ·conv => whnf
          conv => whnf
          (conv => whnf); refine ⟨inK64 (by omega) (by omega), ?_⟩
          conv => whnf
          conv => whnf
          (conv => whnf); refine ⟨⟨(by omega), (by omega)⟩, ?_⟩
          conv => whnf
          conv => whnf
          (conv => whnf); refine .inl ⟨_, _, byX rfl (Sound1.pl (c1 _ (by omega)) rfl), ?_⟩
          conv => whnf
          conv => whnf
          (conv => whnf); refine ifB_beq (fun w5 => ?_) (fun w5 => ?_)
          ·conv => whnf
           conv => whnf
           (conv => whnf); refine ⟨inK64 (by omega) (by omega), ?_⟩
           conv => whnf
           conv => whnf
           (conv => whnf); refine ifB_dec (fun w6 => ?_) (fun w6 => ?_)
           ·(exfalso; omega)
           ·conv => whnf
            conv => whnf
            (conv => whnf); refine ⟨inK64 (by omega) (by omega), ?_⟩
            conv => whnf
            conv => whnf
            (conv => whnf); refine ⟨_, _, ⟨⟨k + 1, R, n, _, _, by omega, hc2.symm, hn, rfl, rfl⟩, by omega⟩, ⟨⟨.inl rfl, rfl, rfl, rfl⟩, ⟨⟨rfl, rfl, rfl, rfl, fun _ => rfl, fun _ _ => .inl rfl⟩, ⟨⟨rfl, rfl, rfl, rfl, fun _ => rfl, fun _ _ => .inl rfl⟩, ⟨⟨rfl, rfl, rfl, rfl, fun _ => rfl, fun _ _ => .inl rfl⟩, ⟨⟨rfl, rfl, rfl, rfl, fun _ => rfl, fun _ _ => .inl rfl⟩, ⟨⟨rfl, rfl, rfl, rfl, fun _ => rfl, fun _ _ => .inl rfl⟩, ⟨⟨rfl, rfl, rfl, rfl, fun _ => rfl, fun _ _ => .inl rfl⟩, trivial⟩⟩⟩⟩⟩⟩, trivial⟩⟩
          ·(exfalso; omega)
         ·(exfalso; omega)
        ·(exfalso; omega)
       ·have s1 : compS R y1 = R ++ [y1] := compS_n (fun h0 => by rw [hn] at h0 ⊢; exact fun e => g1 ⟨h0, e1.2 e⟩)
        rw [s1] at hc2
        conv => whnf
        conv => whnf
        (conv => whnf); refine ifB_dec (fun w3 => ?_) (fun w3 => ?_)
        ·conv => whnf
         conv => whnf
         (conv => whnf); refine ⟨[(15, 1000001)], by kernel_rfl, ?_⟩
         conv => whnf
         conv => whnf
         (conv => whnf); refine ⟨⟨(by omega), (by omega)⟩, ?_⟩
         conv => whnf
         conv => whnf
         (conv => whnf); refine .inl ⟨_, _, byX rfl (a88), ?_⟩
         conv => whnf
         conv => whnf
         (conv => whnf); refine ⟨⟨(by omega), (by omega)⟩, ?_⟩
         conv => whnf
         conv => whnf
         (conv => whnf); refine .inl ⟨_, _, byX rfl (b88), ?_⟩
         conv => whnf
         conv => whnf
         (conv => whnf); refine .inl ⟨_, _, byX rfl (a82), ?_⟩
         conv => whnf
         conv => whnf
         (conv => whnf); refine .inr (.inl ⟨[], ?_⟩)
         conv => whnf
         conv => whnf
         (conv => whnf); refine ⟨[], by kernel_rfl, ?_⟩
         conv => whnf
         conv => whnf
         (conv => whnf); refine ifB_dec (fun w4 => ?_) (fun w4 => ?_)
         ·conv => whnf
          conv => whnf
          (conv => whnf); refine ⟨inK64 (by omega) (by omega), ?_⟩
          conv => whnf
          conv => whnf
          (conv => whnf); refine ⟨⟨(by omega), (by omega)⟩, ?_⟩
          conv => whnf
          conv => whnf
          (conv => whnf); refine .inl ⟨_, _, byX rfl (Sound1.pl (c1 _ (by omega)) rfl), ?_⟩
          conv => whnf
          conv => whnf
          (conv => whnf); refine ifB_beq (fun w5 => ?_) (fun w5 => ?_)
          ·(exfalso; omega)
          ·conv => whnf
           conv => whnf
           (conv => whnf); refine .inl ?_
           conv => whnf
           conv => whnf
           (conv => whnf); refine ⟨(by show _ * (192 + 1) ≤ _; omega), ?_⟩
           conv => whnf
           conv => whnf
           (conv => whnf); refine ⟨inK64 (by omega) (by omega), ?_⟩
           conv => whnf
           conv => whnf
           (conv => whnf); refine ifB_dec (fun w6 => ?_) (fun w6 => ?_)
           ·(exfalso; omega)
           ·conv => whnf
            conv => whnf
            (conv => whnf); refine ⟨inK64 (by omega) (by omega), ?_⟩
            conv => whnf
            conv => whnf
            (conv => whnf); refine ⟨_, _, ⟨⟨k + 1, R ++ [y1], n + 1, _, _, by omega, hc2.symm, (by simp [hn]), rfl, rfl⟩, by omega⟩, ⟨⟨.inl rfl, rfl, rfl, rfl⟩, ⟨⟨rfl, rfl, rfl, rfl, fun _ => rfl, fun _ _ => .inl rfl⟩, ⟨⟨rfl, rfl, rfl, rfl, fun _ => rfl, fun _ _ => .inl rfl⟩, ⟨⟨rfl, rfl, rfl, rfl, fun _ => rfl, fun _ _ => .inl rfl⟩, ⟨⟨rfl, rfl, rfl, rfl, fun _ => rfl, fun _ _ => .inl rfl⟩, ⟨⟨rfl, rfl, rfl, rfl, fun _ => rfl, fun _ _ => .inl rfl⟩, ⟨⟨rfl, rfl, rfl, rfl, fun _ => rfl, fun j hj => .inl (appG bgC (m := 12) (fun _ => rfl) q0 R _ n j hn hj)⟩, trivial⟩⟩⟩⟩⟩⟩, trivial⟩⟩
         ·conv => whnf
          conv => whnf
          (conv => whnf); refine .inl ?_
          conv => whnf
          conv => whnf
          (conv => whnf); refine ⟨(by show _ * (192 + 1) ≤ _; omega), ?_⟩
          conv => whnf
          conv => whnf
          (conv => whnf); refine ⟨inK64 (by omega) (by omega), ?_⟩
          conv => whnf
          conv => whnf
          (conv => whnf); refine ifB_dec (fun w5 => ?_) (fun w5 => ?_)
          ·(exfalso; omega)
          ·conv => whnf
           conv => whnf
           (conv => whnf); refine ⟨inK64 (by omega) (by omega), ?_⟩
           conv => whnf
           conv => whnf
           (conv => whnf); refine ⟨_, _, ⟨⟨k + 1, R ++ [y1], n + 1, _, _, by omega, hc2.symm, (by simp [hn]), rfl, rfl⟩, by omega⟩, ⟨⟨.inl rfl, rfl, rfl, rfl⟩, ⟨⟨rfl, rfl, rfl, rfl, fun _ => rfl, fun _ _ => .inl rfl⟩, ⟨⟨rfl, rfl, rfl, rfl, fun _ => rfl, fun _ _ => .inl rfl⟩, ⟨⟨rfl, rfl, rfl, rfl, fun _ => rfl, fun _ _ => .inl rfl⟩, ⟨⟨rfl, rfl, rfl, rfl, fun _ => rfl, fun _ _ => .inl rfl⟩, ⟨⟨rfl, rfl, rfl, rfl, fun _ => rfl, fun _ _ => .inl rfl⟩, ⟨⟨rfl, rfl, rfl, rfl, fun _ => rfl, fun j hj => .inl (appG bgC (m := 12) (fun _ => rfl) q0 R _ n j hn hj)⟩, trivial⟩⟩⟩⟩⟩⟩, trivial⟩⟩
        ·(exfalso; omega)
     ·obtain rfl : k = (crvA t f).length := by omega
      have hR : R = crvQ t f := hR
      rw [← hR]
      conv => whnf
      conv => whnf
      (conv => whnf); refine ifB_dec (fun w3 => ?_) (fun w3 => ?_)
      ·(exfalso; omega)
      ·conv => whnf
       conv => whnf
       (conv => whnf); refine ⟨?_, nofun⟩
       exact ⟨rfl, hn.symm, fun _ _ => rfl⟩
   ·(exfalso; omega)
 ·rw [rwI_stop _ _ (fun e => hlt e.1)] at hr
  subst hr
  have c63 : True := trivial
  conv => whnf
  (conv => whnf); refine ⟨[], by kernel_rfl, ?_⟩
  conv => whnf
  (conv => whnf); refine ⟨inK64 (by omega) (by omega), ?_⟩
  conv => whnf
  (conv => whnf); refine ifB_dec (fun w1 => ?_) (fun w1 => ?_)
  ·(exfalso; omega)
  ·conv => whnf
   (conv => whnf); refine ⟨[(6, 13), (10, 13)], by kernel_rfl, ?_⟩
   conv => whnf
   (conv => whnf); refine ⟨⟨(by omega), (by omega)⟩, ?_⟩
   conv => whnf
   (conv => whnf); refine ⟨inK64 (by omega) (by omega), ?_⟩
   conv => whnf
   (conv => whnf); refine ⟨⟨(by omega), (by omega)⟩, ?_⟩
   conv => whnf
   (conv => whnf); refine ⟨[], by kernel_rfl, ?_⟩
   conv => whnf
   (conv => whnf); refine .inl ⟨_, _, byX rfl (c85), ?_⟩
   conv => whnf
   (conv => whnf); refine .inl ⟨_, _, byX rfl (c86a), ?_⟩
   conv => whnf
   (conv => whnf); refine .inl ⟨_, _, byX rfl (c84), ?_⟩
   conv => whnf
   (conv => whnf); refine ⟨by assumption, ?_⟩
   conv => whnf
   (conv => whnf); refine .inl ⟨_, _, byX rfl (c86b), ?_⟩
   conv => whnf
   (conv => whnf); refine .inl ⟨_, _, byX rfl (c83), ?_⟩
   conv => whnf
   (conv => whnf); refine ⟨[.slot 9 12], [6, 7, 8, 9, 10], fun st mq => ∃ (k : Nat) (R : List Q3) (n : Nat) (F0 : Nat → List AV) (F1 : Nat → List AV), (k ≤ (crvA t f).length) ∧ (R = compL (rawQ (crvA t f) (crvB t f) (Rat.divInt (crvP t f) (crvD t f)) k)) ∧ (R.length = n) ∧ st = ⟨[(6, .optr 2 0 0 0), (7, .optr 3 0 0 0), (8, .optr 4 0 0 0), (9, .oslice 5 0 0 n none), (10, i64 k)], ⟨[⟨1, 1, F0, 0, false, true, false⟩, ⟨2, 1, F1, 0, false, true, false⟩, ⟨2, 1, fun _ => [i64 (t.getD (rwK t f) r0).o, ptsA (crvA t f)], 0, false, true, true⟩, ⟨2, 1, fun _ => [i64 (t.getD (rwK t f + 1) r0).o, ptsA (crvB t f)], 0, false, true, true⟩, ⟨4, 1, fun _ => rC (Rat.divInt (crvP t f) (crvD t f)), 0, false, true, true⟩, ⟨12, n, fun i => bgC (R.getD i q0), 0, false, true, false⟩], [], none, 0⟩, []⟩ ∧ mq = (crvA t f).length - k,
    ⟨_, _, ⟨0, [], 0, _, _, by omega, rfl, rfl, rfl, rfl⟩, ⟨⟨.inl rfl, rfl, rfl, rfl⟩, ⟨⟨rfl, rfl, rfl, rfl, fun _ => rfl, fun _ _ => .inl rfl⟩, ⟨⟨rfl, rfl, rfl, rfl, fun _ => rfl, fun _ _ => .inl rfl⟩, ⟨⟨rfl, rfl, rfl, rfl, fun _ => rfl, fun _ _ => .inl rfl⟩, ⟨⟨rfl, rfl, rfl, rfl, fun _ => rfl, fun _ _ => .inl rfl⟩, ⟨⟨rfl, rfl, rfl, rfl, fun _ => rfl, fun _ _ => .inl rfl⟩, ⟨⟨rfl, rfl, rfl, rfl, fun _ => rfl, fun i h => .inl (absurd h (Nat.not_lt_zero i))⟩, trivial⟩⟩⟩⟩⟩⟩, trivial⟩⟩, ?_⟩
   rintro s0 m0 ⟨k, R, n, F0, F1, hk, hR, hn, rfl, hmeas⟩
   have hrw : ∀ j, (rawQ (crvA t f) (crvB t f) (Rat.divInt (crvP t f) (crvD t f)) j).length ≤ 2 * j := fun j => by
    rw [← raw_map _ _ _ (show crvD t f ≠ 0 by omega), List.length_map]; exact rawN_len _ _ _ _ j
   have hrl : n ≤ 2 * k := by rw [← hn, hR]; exact Nat.le_trans (compL_len _) (hrw k)
   have hRk : ∀ i, R3k 1 (R.getD i q0) := fun i => by
    by_cases hi : i < R.length
    ·have hm := getD_memG (d := q0) hi
     rw [hR, compL_mem, ← hR] at hm
     exact rawQ_rk hT hO k _ hm
    ·rw [List.getD_eq_getElem?_getD, List.getElem?_eq_none (by omega)]
     exact rk_pt (p := p0) ptOk_0
   by_cases hlt2 : k < (crvA t f).length
   ·have hpt := crv_pts hT hO k
    have a88 := S88 _ hpt.1
    have b88 := S88 _ hpt.2
    have a82 := S82 (ptQ ((crvA t f).getD k p0)) (ptQ ((crvB t f).getD k p0)) (Rat.divInt (crvP t f) (crvD t f)) (rk_pt hpt.1) (rk_pt hpt.2) rkp (by decide)
    by_cases hlt3 : k + 1 < (crvA t f).length
    ·have hpt2 := crv_pts hT hO (k + 1)
     have d88 := S88 _ hpt2.1
     have b82 := S82 (ptQ ((crvA t f).getD (k + 1) p0)) (ptQ ((crvB t f).getD k p0)) (Rat.divInt (crvP t f) (crvD t f)) (rk_pt hpt2.1) (rk_pt hpt.2) rkp (by decide)
     have hR2 := rawQ_2 (B := crvB t f) (part := Rat.divInt (crvP t f) (crvD t f)) hlt3
     have hy1 : R3k 1 (mixQ (ptQ ((crvA t f).getD k p0)) (ptQ ((crvB t f).getD k p0)) (Rat.divInt (crvP t f) (crvD t f))) := rawQ_rk hT hO (k + 1) _ (by rw [hR2]; simp)
     have hy2 : R3k 1 (mixQ (ptQ ((crvA t f).getD (k + 1) p0)) (ptQ ((crvB t f).getD k p0)) (Rat.divInt (crvP t f) (crvD t f))) := rawQ_rk hT hO (k + 1) _ (by rw [hR2]; simp)
     have hc2 := congrArg compL hR2
     rw [compL_snoc, compL_snoc, ← hR] at hc2
     generalize hz1 : mixQ (ptQ ((crvA t f).getD k p0)) (ptQ ((crvB t f).getD k p0)) (Rat.divInt (crvP t f) (crvD t f)) = y1 at a82 hy1 hc2
     generalize hz2 : mixQ (ptQ ((crvA t f).getD (k + 1) p0)) (ptQ ((crvB t f).getD k p0)) (Rat.divInt (crvP t f) (crvD t f)) = y2 at b82 hy2 hc2
     have c144 := fun p q hp hq => S144 (k := 1) p q hp hq (by decide)
     have e1 := cmp3_zero (R.getD (n - 1) q0) y1
     have e2 := cmp3_zero (R.getD (n - 1) q0) y2
     have e3 := cmp3_zero y1 y2
     have en : 0 < n → 0 + ((n : Int) - 1).toNat = n - 1 := fun h => by omega
     by_cases g1 : 0 < n ∧ cmp3 (R.getD (n - 1) q0) y1 = 0
     ·have s1 : compS R y1 = R := compS_y (by omega) (by rw [hn]; exact e1.1 g1.2)
      have f1 : cmp3 (R.getD (0 + ((n : Int) - 1).toNat) q0) y1 = 0 := by rw [en g1.1]; exact g1.2
      rw [s1] at hc2
      by_cases g2 : cmp3 (R.getD (n - 1) q0) y2 = 0
      ·have s2 : compS R y2 = R := compS_y (by omega) (by rw [hn]; exact e2.1 g2)
       have f2 : cmp3 (R.getD (0 + ((n : Int) - 1).toNat) q0) y2 = 0 := by rw [en g1.1]; exact g2
       rw [s2] at hc2
       conv => whnf
       conv => whnf
       (conv => whnf); refine ifB_dec (fun w2 => ?_) (fun w2 => ?_)
       ·conv => whnf
        conv => whnf
        (conv => whnf); refine ⟨[(15, 1000001)], by kernel_rfl, ?_⟩
        conv => whnf
        conv => whnf
        (conv => whnf); refine ⟨⟨(by omega), (by omega)⟩, ?_⟩
        conv => whnf
        conv => whnf
        (conv => whnf); refine .inl ⟨_, _, byX rfl (a88), ?_⟩
        conv => whnf
        conv => whnf
        (conv => whnf); refine ⟨⟨(by omega), (by omega)⟩, ?_⟩
        conv => whnf
        conv => whnf
        (conv => whnf); refine .inl ⟨_, _, byX rfl (b88), ?_⟩
        conv => whnf
        conv => whnf
        (conv => whnf); refine .inl ⟨_, _, byX rfl (a82), ?_⟩
        conv => whnf
        conv => whnf
        (conv => whnf); refine .inr (.inl ⟨[], ?_⟩)
        conv => whnf
        conv => whnf
        (conv => whnf); refine ⟨[], by kernel_rfl, ?_⟩
        conv => whnf
        conv => whnf
        (conv => whnf); refine ifB_dec (fun w3 => ?_) (fun w3 => ?_)
        ·conv => whnf
         conv => whnf
         (conv => whnf); refine ⟨inK64 (by omega) (by omega), ?_⟩
         conv => whnf
         conv => whnf
         (conv => whnf); refine ⟨⟨(by omega), (by omega)⟩, ?_⟩
         conv => whnf
         conv => whnf
         (conv => whnf); refine .inl ⟨_, _, byX rfl (Sound1.pl (c144 _ _ ?_ ?_) rfl), ?_⟩
         ·(first | contradiction | exact hRk _ | exact hy1 | exact hy2 | omega)
         ·(first | contradiction | exact hRk _ | exact hy1 | exact hy2 | omega)
         ·conv => whnf
          conv => whnf
          (conv => whnf); refine ifB_beq (fun w4 => ?_) (fun w4 => ?_)
          ·conv => whnf
           conv => whnf
           (conv => whnf); refine ⟨inK64 (by omega) (by omega), ?_⟩
           conv => whnf
           conv => whnf
           (conv => whnf); refine ifB_dec (fun w5 => ?_) (fun w5 => ?_)
           ·conv => whnf
            conv => whnf
            (conv => whnf); refine ⟨[(16, 1000001)], by kernel_rfl, ?_⟩
            conv => whnf
            conv => whnf
            (conv => whnf); refine ⟨inK64 (by omega) (by omega), ?_⟩
            conv => whnf
            conv => whnf
            (conv => whnf); refine ⟨⟨(by omega), (by omega)⟩, ?_⟩
            conv => whnf
            conv => whnf
            (conv => whnf); refine .inl ⟨_, _, byX rfl (d88), ?_⟩
            conv => whnf
            conv => whnf
            (conv => whnf); refine ⟨⟨(by omega), (by omega)⟩, ?_⟩
            conv => whnf
            conv => whnf
            (conv => whnf); refine .inl ⟨_, _, byX rfl (b88), ?_⟩
            conv => whnf
            conv => whnf
            (conv => whnf); refine .inl ⟨_, _, byX rfl (b82), ?_⟩
            conv => whnf
            conv => whnf
            (conv => whnf); refine .inr (.inl ⟨[], ?_⟩)
            conv => whnf
            conv => whnf
            (conv => whnf); refine ⟨[], by kernel_rfl, ?_⟩
            conv => whnf
            conv => whnf
            (conv => whnf); refine ifB_dec (fun w6 => ?_) (fun w6 => ?_)
            ·conv => whnf
             conv => whnf
             (conv => whnf); refine ⟨inK64 (by omega) (by omega), ?_⟩
             conv => whnf
             conv => whnf
             (conv => whnf); refine ⟨⟨(by omega), (by omega)⟩, ?_⟩
             conv => whnf
             conv => whnf
             (conv => whnf); refine .inl ⟨_, _, byX rfl (Sound1.pl (c144 _ _ ?_ ?_) rfl), ?_⟩
             ·(first | contradiction | exact hRk _ | exact hy1 | exact hy2 | omega)
             ·(first | contradiction | exact hRk _ | exact hy1 | exact hy2 | omega)
             ·conv => whnf
              conv => whnf
              (conv => whnf); refine ifB_beq (fun w7 => ?_) (fun w7 => ?_)
              ·conv => whnf
               conv => whnf
               (conv => whnf); refine ⟨inK64 (by omega) (by omega), ?_⟩
               conv => whnf
               conv => whnf
               (conv => whnf); refine ⟨_, _, ⟨⟨k + 1, R, n, _, _, by omega, hc2.symm, hn, rfl, rfl⟩, by omega⟩, ⟨⟨.inl rfl, rfl, rfl, rfl⟩, ⟨⟨rfl, rfl, rfl, rfl, fun _ => rfl, fun _ _ => .inl rfl⟩, ⟨⟨rfl, rfl, rfl, rfl, fun _ => rfl, fun _ _ => .inl rfl⟩, ⟨⟨rfl, rfl, rfl, rfl, fun _ => rfl, fun _ _ => .inl rfl⟩, ⟨⟨rfl, rfl, rfl, rfl, fun _ => rfl, fun _ _ => .inl rfl⟩, ⟨⟨rfl, rfl, rfl, rfl, fun _ => rfl, fun _ _ => .inl rfl⟩, ⟨⟨rfl, rfl, rfl, rfl, fun _ => rfl, fun _ _ => .inl rfl⟩, trivial⟩⟩⟩⟩⟩⟩, trivial⟩⟩
              ·(exfalso; omega)
            ·(exfalso; omega)
           ·(exfalso; omega)
          ·(exfalso; omega)
        ·(exfalso; omega)
       ·(exfalso; omega)
      ·have s2 : compS R y2 = R ++ [y2] := compS_n (fun _ => by rw [hn]; exact fun e => g2 (e2.2 e))
       have f2 : ¬ cmp3 (R.getD (0 + ((n : Int) - 1).toNat) q0) y2 = 0 := by rw [en g1.1]; exact g2
       rw [s2] at hc2
       conv => whnf
       conv => whnf
       (conv => whnf); refine ifB_dec (fun w2 => ?_) (fun w2 => ?_)
       ·conv => whnf
        conv => whnf
        (conv => whnf); refine ⟨[(15, 1000001)], by kernel_rfl, ?_⟩
        conv => whnf
        conv => whnf
        (conv => whnf); refine ⟨⟨(by omega), (by omega)⟩, ?_⟩
        conv => whnf
        conv => whnf
        (conv => whnf); refine .inl ⟨_, _, byX rfl (a88), ?_⟩
        conv => whnf
        conv => whnf
        (conv => whnf); refine ⟨⟨(by omega), (by omega)⟩, ?_⟩
        conv => whnf
        conv => whnf
        (conv => whnf); refine .inl ⟨_, _, byX rfl (b88), ?_⟩
        conv => whnf
        conv => whnf
        (conv => whnf); refine .inl ⟨_, _, byX rfl (a82), ?_⟩
        conv => whnf
        conv => whnf
        (conv => whnf); refine .inr (.inl ⟨[], ?_⟩)
        conv => whnf
        conv => whnf
        (conv => whnf); refine ⟨[], by kernel_rfl, ?_⟩
        conv => whnf
        conv => whnf
        (conv => whnf); refine ifB_dec (fun w3 => ?_) (fun w3 => ?_)
        ·conv => whnf
         conv => whnf
         (conv => whnf); refine ⟨inK64 (by omega) (by omega), ?_⟩
         conv => whnf
         conv => whnf
         (conv => whnf); refine ⟨⟨(by omega), (by omega)⟩, ?_⟩
         conv => whnf
         conv => whnf
         (conv => whnf); refine .inl ⟨_, _, byX rfl (Sound1.pl (c144 _ _ ?_ ?_) rfl), ?_⟩
         ·(first | contradiction | exact hRk _ | exact hy1 | exact hy2 | omega)
         ·(first | contradiction | exact hRk _ | exact hy1 | exact hy2 | omega)
         ·conv => whnf
          conv => whnf
          (conv => whnf); refine ifB_beq (fun w4 => ?_) (fun w4 => ?_)
          ·conv => whnf
           conv => whnf
           (conv => whnf); refine ⟨inK64 (by omega) (by omega), ?_⟩
           conv => whnf
           conv => whnf
           (conv => whnf); refine ifB_dec (fun w5 => ?_) (fun w5 => ?_)
           ·conv => whnf
            conv => whnf
            (conv => whnf); refine ⟨[(16, 1000001)], by kernel_rfl, ?_⟩
            conv => whnf
            conv => whnf
            (conv => whnf); refine ⟨inK64 (by omega) (by omega), ?_⟩
            conv => whnf
            conv => whnf
            (conv => whnf); refine ⟨⟨(by omega), (by omega)⟩, ?_⟩
            conv => whnf
            conv => whnf
            (conv => whnf); refine .inl ⟨_, _, byX rfl (d88), ?_⟩
            conv => whnf
            conv => whnf
            (conv => whnf); refine ⟨⟨(by omega), (by omega)⟩, ?_⟩
            conv => whnf
            conv => whnf
            (conv => whnf); refine .inl ⟨_, _, byX rfl (b88), ?_⟩
            conv => whnf
            conv => whnf
            (conv => whnf); refine .inl ⟨_, _, byX rfl (b82), ?_⟩
            conv => whnf
            conv => whnf
            (conv => whnf); refine .inr (.inl ⟨[], ?_⟩)
            conv => whnf
            conv => whnf
            (conv => whnf); refine ⟨[], by kernel_rfl, ?_⟩
            conv => whnf
            conv => whnf
            (conv => whnf); refine ifB_dec (fun w6 => ?_) (fun w6 => ?_)
            ·conv => whnf
             conv => whnf
             (conv => whnf); refine ⟨inK64 (by omega) (by omega), ?_⟩
             conv => whnf
             conv => whnf
             (conv => whnf); refine ⟨⟨(by omega), (by omega)⟩, ?_⟩
             conv => whnf
             conv => whnf
             (conv => whnf); refine .inl ⟨_, _, byX rfl (Sound1.pl (c144 _ _ ?_ ?_) rfl), ?_⟩
             ·(first | contradiction | exact hRk _ | exact hy1 | exact hy2 | omega)
             ·(first | contradiction | exact hRk _ | exact hy1 | exact hy2 | omega)
             ·conv => whnf
              conv => whnf
              (conv => whnf); refine ifB_beq (fun w7 => ?_) (fun w7 => ?_)
              ·(exfalso; omega)
              ·conv => whnf
               conv => whnf
               (conv => whnf); refine .inl ?_
               conv => whnf
               conv => whnf
               (conv => whnf); refine ⟨(by show _ * (192 + 1) ≤ _; omega), ?_⟩
               conv => whnf
               conv => whnf
               (conv => whnf); refine ⟨inK64 (by omega) (by omega), ?_⟩
               conv => whnf
               conv => whnf
               (conv => whnf); refine ⟨_, _, ⟨⟨k + 1, R ++ [y2], n + 1, _, _, by omega, hc2.symm, (by simp [hn]), rfl, rfl⟩, by omega⟩, ⟨⟨.inl rfl, rfl, rfl, rfl⟩, ⟨⟨rfl, rfl, rfl, rfl, fun _ => rfl, fun _ _ => .inl rfl⟩, ⟨⟨rfl, rfl, rfl, rfl, fun _ => rfl, fun _ _ => .inl rfl⟩, ⟨⟨rfl, rfl, rfl, rfl, fun _ => rfl, fun _ _ => .inl rfl⟩, ⟨⟨rfl, rfl, rfl, rfl, fun _ => rfl, fun _ _ => .inl rfl⟩, ⟨⟨rfl, rfl, rfl, rfl, fun _ => rfl, fun _ _ => .inl rfl⟩, ⟨⟨rfl, rfl, rfl, rfl, fun _ => rfl, fun j hj => .inl (appG bgC (m := 12) (fun _ => rfl) q0 R _ n j hn hj)⟩, trivial⟩⟩⟩⟩⟩⟩, trivial⟩⟩
            ·(exfalso; omega)
           ·(exfalso; omega)
          ·(exfalso; omega)
        ·(exfalso; omega)
       ·(exfalso; omega)
     ·have s1 : compS R y1 = R ++ [y1] := compS_n (fun h0 => by rw [hn] at h0 ⊢; exact fun e => g1 ⟨h0, e1.2 e⟩)
      have f1 : 0 < n → ¬ cmp3 (R.getD (0 + ((n : Int) - 1).toNat) q0) y1 = 0 := fun h => by rw [en h]; exact fun e => g1 ⟨h, e⟩
      rw [s1] at hc2
      have l1 : (R ++ [y1]).getD ((R ++ [y1]).length - 1) q0 = y1 := by simp [List.getD_eq_getElem?_getD]
      have l0 : 0 < (R ++ [y1]).length := by simp
      have hn1 : (R ++ [y1]).length = n + 1 := by simp [hn]
      have hwk := fun (i : Nat) (hi : i < n + 1) => appG bgC (m := 12) (fun _ => rfl) q0 R y1 n i hn hi
      have en1 : 0 + (((n + 1 : Nat) : Int) - 1).toNat = (R ++ [y1]).length - 1 := by rw [hn1]; omega
      have hl1 : (R ++ [y1]).getD (0 + (((n + 1 : Nat) : Int) - 1).toNat) q0 = y1 := by rw [en1]; exact l1
      have hRk1 : R3k 1 ((R ++ [y1]).getD (0 + (((n + 1 : Nat) : Int) - 1).toNat) q0) := by rw [hl1]; exact hy1
      have e4 := e3
      rw [← hl1] at e4
      generalize R ++ [y1] = R1 at *
      by_cases g3 : y1 = y2
      ·have s2 : compS R1 y2 = R1 := compS_y l0 (by rw [l1]; exact g3)
       have f4 : cmp3 (R1.getD (0 + (((n + 1 : Nat) : Int) - 1).toNat) q0) y2 = 0 := e4.2 (hl1.trans g3)
       rw [s2] at hc2
       by_cases h0 : 0 < n
       ·have f1 := f1 h0
        conv => whnf
        conv => whnf
        (conv => whnf); refine ifB_dec (fun w2 => ?_) (fun w2 => ?_)
        ·conv => whnf
         conv => whnf
         (conv => whnf); refine ⟨[(15, 1000001)], by kernel_rfl, ?_⟩
         conv => whnf
         conv => whnf
         (conv => whnf); refine ⟨⟨(by omega), (by omega)⟩, ?_⟩
         conv => whnf
         conv => whnf
         (conv => whnf); refine .inl ⟨_, _, byX rfl (a88), ?_⟩
         conv => whnf
         conv => whnf
         (conv => whnf); refine ⟨⟨(by omega), (by omega)⟩, ?_⟩
         conv => whnf
         conv => whnf
         (conv => whnf); refine .inl ⟨_, _, byX rfl (b88), ?_⟩
         conv => whnf
         conv => whnf
         (conv => whnf); refine .inl ⟨_, _, byX rfl (a82), ?_⟩
         conv => whnf
         conv => whnf
         (conv => whnf); refine .inr (.inl ⟨[], ?_⟩)
         conv => whnf
         conv => whnf
         (conv => whnf); refine ⟨[], by kernel_rfl, ?_⟩
         conv => whnf
         conv => whnf
         (conv => whnf); refine ifB_dec (fun w3 => ?_) (fun w3 => ?_)
         ·conv => whnf
          conv => whnf
          (conv => whnf); refine ⟨inK64 (by omega) (by omega), ?_⟩
          conv => whnf
          conv => whnf
          (conv => whnf); refine ⟨⟨(by omega), (by omega)⟩, ?_⟩
          conv => whnf
          conv => whnf
          (conv => whnf); refine .inl ⟨_, _, byX rfl (Sound1.pl (c144 _ _ ?_ ?_) rfl), ?_⟩
          ·(first | contradiction | exact hRk _ | exact hy1 | exact hy2 | exact hRk1 | omega)
          ·(first | contradiction | exact hRk _ | exact hy1 | exact hy2 | exact hRk1 | omega)
          ·conv => whnf
           conv => whnf
           (conv => whnf); refine ifB_beq (fun w4 => ?_) (fun w4 => ?_)
           ·(exfalso; omega)
           ·conv => whnf
            conv => whnf
            (conv => whnf); refine .inl ?_
            conv => whnf
            conv => whnf
            (conv => whnf); refine ⟨(by show _ * (192 + 1) ≤ _; omega), ?_⟩
            conv => whnf
            conv => whnf
            (conv => whnf); refine ⟨inK64 (by omega) (by omega), ?_⟩
            conv => whnf
            conv => whnf
            (conv => whnf); refine ifB_dec (fun w5 => ?_) (fun w5 => ?_)
            ·conv => whnf
             conv => whnf
             (conv => whnf); refine ⟨[(16, 1000001), (0, 1000002)], _, weakF 5 (fun i => bgC (R1.getD i q0)) rfl hwk, by kernel_rfl, ?_⟩
             conv => whnf
             conv => whnf
             (conv => whnf); refine ⟨inK64 (by omega) (by omega), ?_⟩
             conv => whnf
             conv => whnf
             (conv => whnf); refine ⟨⟨(by omega), (by omega)⟩, ?_⟩
             conv => whnf
             conv => whnf
             (conv => whnf); refine .inl ⟨_, _, byX rfl (d88), ?_⟩
             conv => whnf
             conv => whnf
             (conv => whnf); refine ⟨⟨(by omega), (by omega)⟩, ?_⟩
             conv => whnf
             conv => whnf
             (conv => whnf); refine .inl ⟨_, _, byX rfl (b88), ?_⟩
             conv => whnf
             conv => whnf
             (conv => whnf); refine .inl ⟨_, _, byX rfl (b82), ?_⟩
             conv => whnf
             conv => whnf
             (conv => whnf); refine .inr (.inl ⟨[], ?_⟩)
             conv => whnf
             conv => whnf
             (conv => whnf); refine ⟨[], by kernel_rfl, ?_⟩
             conv => whnf
             conv => whnf
             (conv => whnf); refine ifB_dec (fun w6 => ?_) (fun w6 => ?_)
             ·conv => whnf
              conv => whnf
              (conv => whnf); refine ⟨inK64 (by omega) (by omega), ?_⟩
              conv => whnf
              conv => whnf
              (conv => whnf); refine ⟨⟨(by omega), (by omega)⟩, ?_⟩
              conv => whnf
              conv => whnf
              (conv => whnf); refine .inl ⟨_, _, byX rfl (Sound1.pl (c144 _ _ (by omega) (by omega)) rfl), ?_⟩
              conv => whnf
              conv => whnf
              (conv => whnf); refine ifB_beq (fun w7 => ?_) (fun w7 => ?_)
              ·conv => whnf
               conv => whnf
               (conv => whnf); refine ⟨inK64 (by omega) (by omega), ?_⟩
               conv => whnf
               conv => whnf
               (conv => whnf); refine ⟨_, _, ⟨⟨k + 1, R1, n + 1, _, _, by omega, hc2.symm, hn1, rfl, rfl⟩, by omega⟩, ⟨⟨.inl rfl, rfl, rfl, rfl⟩, ⟨⟨rfl, rfl, rfl, rfl, fun _ => rfl, fun _ _ => .inl rfl⟩, ⟨⟨rfl, rfl, rfl, rfl, fun _ => rfl, fun _ _ => .inl rfl⟩, ⟨⟨rfl, rfl, rfl, rfl, fun _ => rfl, fun _ _ => .inl rfl⟩, ⟨⟨rfl, rfl, rfl, rfl, fun _ => rfl, fun _ _ => .inl rfl⟩, ⟨⟨rfl, rfl, rfl, rfl, fun _ => rfl, fun _ _ => .inl rfl⟩, ⟨⟨rfl, rfl, rfl, rfl, fun _ => rfl, fun _ _ => .inl rfl⟩, trivial⟩⟩⟩⟩⟩⟩, trivial⟩⟩
              ·(exfalso; omega)
             ·(exfalso; omega)
            ·(exfalso; omega)
         ·(exfalso; omega)
        ·(exfalso; omega)
       ·conv => whnf
        conv => whnf
        (conv => whnf); refine ifB_dec (fun w2 => ?_) (fun w2 => ?_)
        ·conv => whnf
         conv => whnf
         (conv => whnf); refine ⟨[(15, 1000001)], by kernel_rfl, ?_⟩
         conv => whnf
         conv => whnf
         (conv => whnf); refine ⟨⟨(by omega), (by omega)⟩, ?_⟩
         conv => whnf
         conv => whnf
         (conv => whnf); refine .inl ⟨_, _, byX rfl (a88), ?_⟩
         conv => whnf
         conv => whnf
         (conv => whnf); refine ⟨⟨(by omega), (by omega)⟩, ?_⟩
         conv => whnf
         conv => whnf
         (conv => whnf); refine .inl ⟨_, _, byX rfl (b88), ?_⟩
         conv => whnf
         conv => whnf
         (conv => whnf); refine .inl ⟨_, _, byX rfl (a82), ?_⟩
         conv => whnf
         conv => whnf
         (conv => whnf); refine .inr (.inl ⟨[], ?_⟩)
         conv => whnf
         conv => whnf
         (conv => whnf); refine ⟨[], by kernel_rfl, ?_⟩
         conv => whnf
         conv => whnf
         (conv => whnf); refine ifB_dec (fun w3 => ?_) (fun w3 => ?_)
         ·(exfalso; omega)
         ·conv => whnf
          conv => whnf
          (conv => whnf); refine .inl ?_
          conv => whnf
          conv => whnf
          (conv => whnf); refine ⟨(by show _ * (192 + 1) ≤ _; omega), ?_⟩
          conv => whnf
          conv => whnf
          (conv => whnf); refine ⟨inK64 (by omega) (by omega), ?_⟩
          conv => whnf
          conv => whnf
          (conv => whnf); refine ifB_dec (fun w4 => ?_) (fun w4 => ?_)
          ·conv => whnf
           conv => whnf
           (conv => whnf); refine ⟨[(16, 1000001), (0, 1000002)], _, weakF 5 (fun i => bgC (R1.getD i q0)) rfl hwk, by kernel_rfl, ?_⟩
           conv => whnf
           conv => whnf
           (conv => whnf); refine ⟨inK64 (by omega) (by omega), ?_⟩
           conv => whnf
           conv => whnf
           (conv => whnf); refine ⟨⟨(by omega), (by omega)⟩, ?_⟩
           conv => whnf
           conv => whnf
           (conv => whnf); refine .inl ⟨_, _, byX rfl (d88), ?_⟩
           conv => whnf
           conv => whnf
           (conv => whnf); refine ⟨⟨(by omega), (by omega)⟩, ?_⟩
           conv => whnf
           conv => whnf
           (conv => whnf); refine .inl ⟨_, _, byX rfl (b88), ?_⟩
           conv => whnf
           conv => whnf
           (conv => whnf); refine .inl ⟨_, _, byX rfl (b82), ?_⟩
           conv => whnf
           conv => whnf
           (conv => whnf); refine .inr (.inl ⟨[], ?_⟩)
           conv => whnf
           conv => whnf
           (conv => whnf); refine ⟨[], by kernel_rfl, ?_⟩
           conv => whnf
           conv => whnf
           (conv => whnf); refine ifB_dec (fun w5 => ?_) (fun w5 => ?_)
           ·conv => whnf
            conv => whnf
            (conv => whnf); refine ⟨inK64 (by omega) (by omega), ?_⟩
            conv => whnf
            conv => whnf
            (conv => whnf); refine ⟨⟨(by omega), (by omega)⟩, ?_⟩
            conv => whnf
            conv => whnf
            (conv => whnf); refine .inl ⟨_, _, byX rfl (Sound1.pl (c144 _ _ (by omega) (by omega)) rfl), ?_⟩
            conv => whnf
            conv => whnf
            (conv => whnf); refine ifB_beq (fun w6 => ?_) (fun w6 => ?_)
            ·conv => whnf
             conv => whnf
             (conv => whnf); refine ⟨inK64 (by omega) (by omega), ?_⟩
             conv => whnf
             conv => whnf
             (conv => whnf); refine ⟨_, _, ⟨⟨k + 1, R1, n + 1, _, _, by omega, hc2.symm, hn1, rfl, rfl⟩, by omega⟩, ⟨⟨.inl rfl, rfl, rfl, rfl⟩, ⟨⟨rfl, rfl, rfl, rfl, fun _ => rfl, fun _ _ => .inl rfl⟩, ⟨⟨rfl, rfl, rfl, rfl, fun _ => rfl, fun _ _ => .inl rfl⟩, ⟨⟨rfl, rfl, rfl, rfl, fun _ => rfl, fun _ _ => .inl rfl⟩, ⟨⟨rfl, rfl, rfl, rfl, fun _ => rfl, fun _ _ => .inl rfl⟩, ⟨⟨rfl, rfl, rfl, rfl, fun _ => rfl, fun _ _ => .inl rfl⟩, ⟨⟨rfl, rfl, rfl, rfl, fun _ => rfl, fun _ _ => .inl rfl⟩, trivial⟩⟩⟩⟩⟩⟩, trivial⟩⟩
            ·(exfalso; omega)
           ·(exfalso; omega)
          ·(exfalso; omega)
        ·(exfalso; omega)
      ·have s2 : compS R1 y2 = R1 ++ [y2] := compS_n (fun _ => by rw [l1]; exact g3)
       have f4 : ¬ cmp3 (R1.getD (0 + (((n + 1 : Nat) : Int) - 1).toNat) q0) y2 = 0 := fun e => g3 (hl1.symm.trans (e4.1 e))
       rw [s2] at hc2
       by_cases h0 : 0 < n
       ·have f1 := f1 h0
        conv => whnf
        conv => whnf
        (conv => whnf); refine ifB_dec (fun w2 => ?_) (fun w2 => ?_)
        ·conv => whnf
         conv => whnf
         (conv => whnf); refine ⟨[(15, 1000001)], by kernel_rfl, ?_⟩
         conv => whnf
         conv => whnf
         (conv => whnf); refine ⟨⟨(by omega), (by omega)⟩, ?_⟩
         conv => whnf
         conv => whnf
         (conv => whnf); refine .inl ⟨_, _, byX rfl (a88), ?_⟩
         conv => whnf
         conv => whnf
         (conv => whnf); refine ⟨⟨(by omega), (by omega)⟩, ?_⟩
         conv => whnf
         conv => whnf
         (conv => whnf); refine .inl ⟨_, _, byX rfl (b88), ?_⟩
         conv => whnf
         conv => whnf
         (conv => whnf); refine .inl ⟨_, _, byX rfl (a82), ?_⟩
         conv => whnf
         conv => whnf
         (conv => whnf); refine .inr (.inl ⟨[], ?_⟩)
         conv => whnf
         conv => whnf
         (conv => whnf); refine ⟨[], by kernel_rfl, ?_⟩
         conv => whnf
         conv => whnf
         (conv => whnf); refine ifB_dec (fun w3 => ?_) (fun w3 => ?_)
         ·conv => whnf
          conv => whnf
          (conv => whnf); refine ⟨inK64 (by omega) (by omega), ?_⟩
          conv => whnf
          conv => whnf
          (conv => whnf); refine ⟨⟨(by omega), (by omega)⟩, ?_⟩
          conv => whnf
          conv => whnf
          (conv => whnf); refine .inl ⟨_, _, byX rfl (Sound1.pl (c144 _ _ ?_ ?_) rfl), ?_⟩
          ·(first | contradiction | exact hRk _ | exact hy1 | exact hy2 | exact hRk1 | omega)
          ·(first | contradiction | exact hRk _ | exact hy1 | exact hy2 | exact hRk1 | omega)
          ·conv => whnf
           conv => whnf
           (conv => whnf); refine ifB_beq (fun w4 => ?_) (fun w4 => ?_)
           ·(exfalso; omega)
           ·conv => whnf
            conv => whnf
            (conv => whnf); refine .inl ?_
            conv => whnf
            conv => whnf
            (conv => whnf); refine ⟨(by show _ * (192 + 1) ≤ _; omega), ?_⟩
            conv => whnf
            conv => whnf
            (conv => whnf); refine ⟨inK64 (by omega) (by omega), ?_⟩
            conv => whnf
            conv => whnf
            (conv => whnf); refine ifB_dec (fun w5 => ?_) (fun w5 => ?_)
            ·conv => whnf
             conv => whnf
             (conv => whnf); refine ⟨[(16, 1000001), (0, 1000002)], _, weakF 5 (fun i => bgC (R1.getD i q0)) rfl hwk, by kernel_rfl, ?_⟩
             conv => whnf
             conv => whnf
             (conv => whnf); refine ⟨inK64 (by omega) (by omega), ?_⟩
             conv => whnf
             conv => whnf
             (conv => whnf); refine ⟨⟨(by omega), (by omega)⟩, ?_⟩
             conv => whnf
             conv => whnf
             (conv => whnf); refine .inl ⟨_, _, byX rfl (d88), ?_⟩
             conv => whnf
             conv => whnf
             (conv => whnf); refine ⟨⟨(by omega), (by omega)⟩, ?_⟩
             conv => whnf
             conv => whnf
             (conv => whnf); refine .inl ⟨_, _, byX rfl (b88), ?_⟩
             conv => whnf
             conv => whnf
             (conv => whnf); refine .inl ⟨_, _, byX rfl (b82), ?_⟩
             conv => whnf
             conv => whnf
             (conv => whnf); refine .inr (.inl ⟨[], ?_⟩)
             conv => whnf
             conv => whnf
             (conv => whnf); refine ⟨[], by kernel_rfl, ?_⟩
             conv => whnf
             conv => whnf
             (conv => whnf); refine ifB_dec (fun w6 => ?_) (fun w6 => ?_)
             ·conv => whnf
              conv => whnf
              (conv => whnf); refine ⟨inK64 (by omega) (by omega), ?_⟩
              conv => whnf
              conv => whnf
              (conv => whnf); refine ⟨⟨(by omega), (by omega)⟩, ?_⟩
              conv => whnf
              conv => whnf
              (conv => whnf); refine .inl ⟨_, _, byX rfl (Sound1.pl (c144 _ _ (by omega) (by omega)) rfl), ?_⟩
              conv => whnf
              conv => whnf
              (conv => whnf); refine ifB_beq (fun w7 => ?_) (fun w7 => ?_)
              ·(exfalso; omega)
              ·conv => whnf
               conv => whnf
               (conv => whnf); refine .inl ?_
               conv => whnf
               conv => whnf
               (conv => whnf); refine ⟨(by show _ * (192 + 1) ≤ _; omega), ?_⟩
               conv => whnf
               conv => whnf
               (conv => whnf); refine ⟨inK64 (by omega) (by omega), ?_⟩
               conv => whnf
               conv => whnf
               (conv => whnf); refine ⟨_, _, ⟨⟨k + 1, R1 ++ [y2], n + 1 + 1, _, _, by omega, hc2.symm, (by simp [hn1]), rfl, rfl⟩, by omega⟩, ⟨⟨.inl rfl, rfl, rfl, rfl⟩, ⟨⟨rfl, rfl, rfl, rfl, fun _ => rfl, fun _ _ => .inl rfl⟩, ⟨⟨rfl, rfl, rfl, rfl, fun _ => rfl, fun _ _ => .inl rfl⟩, ⟨⟨rfl, rfl, rfl, rfl, fun _ => rfl, fun _ _ => .inl rfl⟩, ⟨⟨rfl, rfl, rfl, rfl, fun _ => rfl, fun _ _ => .inl rfl⟩, ⟨⟨rfl, rfl, rfl, rfl, fun _ => rfl, fun _ _ => .inl rfl⟩, ⟨⟨rfl, rfl, rfl, rfl, fun _ => rfl, fun j hj => .inl (appG bgC (m := 12) (fun _ => rfl) q0 R1 _ (n + 1) j hn1 hj)⟩, trivial⟩⟩⟩⟩⟩⟩, trivial⟩⟩
             ·(exfalso; omega)
            ·(exfalso; omega)
         ·(exfalso; omega)
        ·(exfalso; omega)
       ·conv => whnf
        conv => whnf
        (conv => whnf); refine ifB_dec (fun w2 => ?_) (fun w2 => ?_)
        ·conv => whnf
         conv => whnf
         (conv => whnf); refine ⟨[(15, 1000001)], by kernel_rfl, ?_⟩
         conv => whnf
         conv => whnf
         (conv => whnf); refine ⟨⟨(by omega), (by omega)⟩, ?_⟩
         conv => whnf
         conv => whnf
         (conv => whnf); refine .inl ⟨_, _, byX rfl (a88), ?_⟩
         conv => whnf
         conv => whnf
         (conv => whnf); refine ⟨⟨(by omega), (by omega)⟩, ?_⟩
         conv => whnf
         conv => whnf
         (conv => whnf); refine .inl ⟨_, _, byX rfl (b88), ?_⟩
         conv => whnf
         conv => whnf
         (conv => whnf); refine .inl ⟨_, _, byX rfl (a82), ?_⟩
         conv => whnf
         conv => whnf
         (conv => whnf); refine .inr (.inl ⟨[], ?_⟩)
         conv => whnf
         conv => whnf
         (conv => whnf); refine ⟨[], by kernel_rfl, ?_⟩
         conv => whnf
         conv => whnf
         (conv => whnf); refine ifB_dec (fun w3 => ?_) (fun w3 => ?_)
         ·(exfalso; omega)
         ·conv => whnf
          conv => whnf
          (conv => whnf); refine .inl ?_
          conv => whnf
          conv => whnf
          (conv => whnf); refine ⟨(by show _ * (192 + 1) ≤ _; omega), ?_⟩
          conv => whnf
          conv => whnf
          (conv => whnf); refine ⟨inK64 (by omega) (by omega), ?_⟩
          conv => whnf
          conv => whnf
          (conv => whnf); refine ifB_dec (fun w4 => ?_) (fun w4 => ?_)
          ·conv => whnf
           conv => whnf
           (conv => whnf); refine ⟨[(16, 1000001), (0, 1000002)], _, weakF 5 (fun i => bgC (R1.getD i q0)) rfl hwk, by kernel_rfl, ?_⟩
           conv => whnf
           conv => whnf
           (conv => whnf); refine ⟨inK64 (by omega) (by omega), ?_⟩
           conv => whnf
           conv => whnf
           (conv => whnf); refine ⟨⟨(by omega), (by omega)⟩, ?_⟩
           conv => whnf
           conv => whnf
           (conv => whnf); refine .inl ⟨_, _, byX rfl (d88), ?_⟩
           conv => whnf
           conv => whnf
           (conv => whnf); refine ⟨⟨(by omega), (by omega)⟩, ?_⟩
           conv => whnf
           conv => whnf
           (conv => whnf); refine .inl ⟨_, _, byX rfl (b88), ?_⟩
           conv => whnf
           conv => whnf
           (conv => whnf); refine .inl ⟨_, _, byX rfl (b82), ?_⟩
           conv => whnf
           conv => whnf
           (conv => whnf); refine .inr (.inl ⟨[], ?_⟩)
           conv => whnf
           conv => whnf
           (conv => whnf); refine ⟨[], by kernel_rfl, ?_⟩
           conv => whnf
           conv => whnf
           (conv => whnf); refine ifB_dec (fun w5 => ?_) (fun w5 => ?_)
           ·conv => whnf
            conv => whnf
            (conv => whnf); refine ⟨inK64 (by omega) (by omega), ?_⟩
            conv => whnf
            conv => whnf
            (conv => whnf); refine ⟨⟨(by omega), (by omega)⟩, ?_⟩
            conv => whnf
            conv => whnf
            (conv => whnf); refine .inl ⟨_, _, byX rfl (Sound1.pl (c144 _ _ (by omega) (by omega)) rfl), ?_⟩
            conv => whnf
            conv => whnf
            (conv => whnf); refine ifB_beq (fun w6 => ?_) (fun w6 => ?_)
            ·(exfalso; omega)
            ·conv => whnf
             conv => whnf
             (conv => whnf); refine .inl ?_
             conv => whnf
             conv => whnf
             (conv => whnf); refine ⟨(by show _ * (192 + 1) ≤ _; omega), ?_⟩
             conv => whnf
             conv => whnf
             (conv => whnf); refine ⟨inK64 (by omega) (by omega), ?_⟩
             conv => whnf
             conv => whnf
             (conv => whnf); refine ⟨_, _, ⟨⟨k + 1, R1 ++ [y2], n + 1 + 1, _, _, by omega, hc2.symm, (by simp [hn1]), rfl, rfl⟩, by omega⟩, ⟨⟨.inl rfl, rfl, rfl, rfl⟩, ⟨⟨rfl, rfl, rfl, rfl, fun _ => rfl, fun _ _ => .inl rfl⟩, ⟨⟨rfl, rfl, rfl, rfl, fun _ => rfl, fun _ _ => .inl rfl⟩, ⟨⟨rfl, rfl, rfl, rfl, fun _ => rfl, fun _ _ => .inl rfl⟩, ⟨⟨rfl, rfl, rfl, rfl, fun _ => rfl, fun _ _ => .inl rfl⟩, ⟨⟨rfl, rfl, rfl, rfl, fun _ => rfl, fun _ _ => .inl rfl⟩, ⟨⟨rfl, rfl, rfl, rfl, fun _ => rfl, fun j hj => .inl (appG bgC (m := 12) (fun _ => rfl) q0 R1 _ (n + 1) j hn1 hj)⟩, trivial⟩⟩⟩⟩⟩⟩, trivial⟩⟩
           ·(exfalso; omega)
          ·(exfalso; omega)
        ·(exfalso; omega)
    ·have hR2 := rawQ_1 (B := crvB t f) (part := Rat.divInt (crvP t f) (crvD t f)) hlt3
     have hy1 : R3k 1 (mixQ (ptQ ((crvA t f).getD k p0)) (ptQ ((crvB t f).getD k p0)) (Rat.divInt (crvP t f) (crvD t f))) := rawQ_rk hT hO (k + 1) _ (by rw [hR2]; simp)
     have hc2 := congrArg compL hR2
     rw [compL_snoc, ← hR] at hc2
     generalize hz1 : mixQ (ptQ ((crvA t f).getD k p0)) (ptQ ((crvB t f).getD k p0)) (Rat.divInt (crvP t f) (crvD t f)) = y1 at a82 hy1 hc2
     have c1 : ∀ i, i + 1 = n → SP 144 [bgA (R.getD i q0), bgA y1] (i64 (cmp3 (R.getD (n - 1) q0) y1)) false := fun i hi => by
      have e : n - 1 = i := by omega
      rw [e]; exact S144 _ _ (hRk i) hy1 (by decide)
     have e1 := cmp3_zero (R.getD (n - 1) q0) y1
     generalize cmp3 (R.getD (n - 1) q0) y1 = z1 at *
     by_cases g1 : 0 < n ∧ z1 = 0
     ·have s1 : compS R y1 = R := compS_y (by omega) (by rw [hn]; exact e1.1 g1.2)
      rw [s1] at hc2
      conv => whnf
      conv => whnf
      (conv => whnf); refine ifB_dec (fun w2 => ?_) (fun w2 => ?_)
      ·conv => whnf
       conv => whnf
       (conv => whnf); refine ⟨[(15, 1000001)], by kernel_rfl, ?_⟩
       conv => whnf
       conv => whnf
       (conv => whnf); refine ⟨⟨(by omega), (by omega)⟩, ?_⟩
       conv => whnf
       conv => whnf
       (conv => whnf); refine .inl ⟨_, _, byX rfl (a88), ?_⟩
       conv => whnf
       conv => whnf
       (conv => whnf); refine ⟨⟨(by omega), (by omega)⟩, ?_⟩
       conv => whnf
       conv => whnf
       (conv => whnf); refine .inl ⟨_, _, byX rfl (b88), ?_⟩
       conv => whnf
       conv => whnf
       (conv => whnf); refine .inl ⟨_, _, byX rfl (a82), ?_⟩
       conv => whnf
       conv => whnf
       (conv => whnf); refine .inr (.inl ⟨[], ?_⟩)
       conv => whnf
       conv => whnf
       (conv => whnf); refine ⟨[], by kernel_rfl, ?_⟩
       conv => whnf
       conv => whnf
       (conv => whnf); refine ifB_dec (fun w3 => ?_) (fun w3 => ?_)
       ·conv => whnf
        conv => whnf
        (conv => whnf); refine ⟨inK64 (by omega) (by omega), ?_⟩
        conv => whnf
        conv => whnf
        (conv => whnf); refine ⟨⟨(by omega), (by omega)⟩, ?_⟩
        conv => whnf
        conv => whnf
        (conv => whnf); refine .inl ⟨_, _, byX rfl (Sound1.pl (c1 _ (by omega)) rfl), ?_⟩
        conv => whnf
        conv => whnf
        (conv => whnf); refine ifB_beq (fun w4 => ?_) (fun w4 => ?_)
        ·conv => whnf
         conv => whnf
         (conv => whnf); refine ⟨inK64 (by omega) (by omega), ?_⟩
         conv => whnf
         conv => whnf
         (conv => whnf); refine ifB_dec (fun w5 => ?_) (fun w5 => ?_)
         ·(exfalso; omega)
         ·conv => whnf
          conv => whnf
          (conv => whnf); refine ⟨inK64 (by omega) (by omega), ?_⟩
          conv => whnf
          conv => whnf
          (conv => whnf); refine ⟨_, _, ⟨⟨k + 1, R, n, _, _, by omega, hc2.symm, hn, rfl, rfl⟩, by omega⟩, ⟨⟨.inl rfl, rfl, rfl, rfl⟩, ⟨⟨rfl, rfl, rfl, rfl, fun _ => rfl, fun _ _ => .inl rfl⟩, ⟨⟨rfl, rfl, rfl, rfl, fun _ => rfl, fun _ _ => .inl rfl⟩, ⟨⟨rfl, rfl, rfl, rfl, fun _ => rfl, fun _ _ => .inl rfl⟩, ⟨⟨rfl, rfl, rfl, rfl, fun _ => rfl, fun _ _ => .inl rfl⟩, ⟨⟨rfl, rfl, rfl, rfl, fun _ => rfl, fun _ _ => .inl rfl⟩, ⟨⟨rfl, rfl, rfl, rfl, fun _ => rfl, fun _ _ => .inl rfl⟩, trivial⟩⟩⟩⟩⟩⟩, trivial⟩⟩
        ·(exfalso; omega)
       ·(exfalso; omega)
      ·(exfalso; omega)
     ·have s1 : compS R y1 = R ++ [y1] := compS_n (fun h0 => by rw [hn] at h0 ⊢; exact fun e => g1 ⟨h0, e1.2 e⟩)
      rw [s1] at hc2
      conv => whnf
      conv => whnf
      (conv => whnf); refine ifB_dec (fun w2 => ?_) (fun w2 => ?_)
      ·conv => whnf
       conv => whnf
       (conv => whnf); refine ⟨[(15, 1000001)], by kernel_rfl, ?_⟩
       conv => whnf
       conv => whnf
       (conv => whnf); refine ⟨⟨(by omega), (by omega)⟩, ?_⟩
       conv => whnf
       conv => whnf
       (conv => whnf); refine .inl ⟨_, _, byX rfl (a88), ?_⟩
       conv => whnf
       conv => whnf
       (conv => whnf); refine ⟨⟨(by omega), (by omega)⟩, ?_⟩
       conv => whnf
       conv => whnf
       (conv => whnf); refine .inl ⟨_, _, byX rfl (b88), ?_⟩
       conv => whnf
       conv => whnf
       (conv => whnf); refine .inl ⟨_, _, byX rfl (a82), ?_⟩
       conv => whnf
       conv => whnf
       (conv => whnf); refine .inr (.inl ⟨[], ?_⟩)
       conv => whnf
       conv => whnf
       (conv => whnf); refine ⟨[], by kernel_rfl, ?_⟩
       conv => whnf
       conv => whnf
       (conv => whnf); refine ifB_dec (fun w3 => ?_) (fun w3 => ?_)
       ·conv => whnf
        conv => whnf
        (conv => whnf); refine ⟨inK64 (by omega) (by omega), ?_⟩
        conv => whnf
        conv => whnf
        (conv => whnf); refine ⟨⟨(by omega), (by omega)⟩, ?_⟩
        conv => whnf
        conv => whnf
        (conv => whnf); refine .inl ⟨_, _, byX rfl (Sound1.pl (c1 _ (by omega)) rfl), ?_⟩
        conv => whnf
        conv => whnf
        (conv => whnf); refine ifB_beq (fun w4 => ?_) (fun w4 => ?_)
        ·(exfalso; omega)
        ·conv => whnf
         conv => whnf
         (conv => whnf); refine .inl ?_
         conv => whnf
         conv => whnf
         (conv => whnf); refine ⟨(by show _ * (192 + 1) ≤ _; omega), ?_⟩
         conv => whnf
         conv => whnf
         (conv => whnf); refine ⟨inK64 (by omega) (by omega), ?_⟩
         conv => whnf
         conv => whnf
         (conv => whnf); refine ifB_dec (fun w5 => ?_) (fun w5 => ?_)
         ·(exfalso; omega)
         ·conv => whnf
          conv => whnf
          (conv => whnf); refine ⟨inK64 (by omega) (by omega), ?_⟩
          conv => whnf
          conv => whnf
          (conv => whnf); refine ⟨_, _, ⟨⟨k + 1, R ++ [y1], n + 1, _, _, by omega, hc2.symm, (by simp [hn]), rfl, rfl⟩, by omega⟩, ⟨⟨.inl rfl, rfl, rfl, rfl⟩, ⟨⟨rfl, rfl, rfl, rfl, fun _ => rfl, fun _ _ => .inl rfl⟩, ⟨⟨rfl, rfl, rfl, rfl, fun _ => rfl, fun _ _ => .inl rfl⟩, ⟨⟨rfl, rfl, rfl, rfl, fun _ => rfl, fun _ _ => .inl rfl⟩, ⟨⟨rfl, rfl, rfl, rfl, fun _ => rfl, fun _ _ => .inl rfl⟩, ⟨⟨rfl, rfl, rfl, rfl, fun _ => rfl, fun _ _ => .inl rfl⟩, ⟨⟨rfl, rfl, rfl, rfl, fun _ => rfl, fun j hj => .inl (appG bgC (m := 12) (fun _ => rfl) q0 R _ n j hn hj)⟩, trivial⟩⟩⟩⟩⟩⟩, trivial⟩⟩
       ·conv => whnf
        conv => whnf
        (conv => whnf); refine .inl ?_
        conv => whnf
        conv => whnf
        (conv => whnf); refine ⟨(by show _ * (192 + 1) ≤ _; omega), ?_⟩
        conv => whnf
        conv => whnf
        (conv => whnf); refine ⟨inK64 (by omega) (by omega), ?_⟩
        conv => whnf
        conv => whnf
        (conv => whnf); refine ifB_dec (fun w4 => ?_) (fun w4 => ?_)
        ·(exfalso; omega)
        ·conv => whnf
         conv => whnf
         (conv => whnf); refine ⟨inK64 (by omega) (by omega), ?_⟩
         conv => whnf
         conv => whnf
         (conv => whnf); refine ⟨_, _, ⟨⟨k + 1, R ++ [y1], n + 1, _, _, by omega, hc2.symm, (by simp [hn]), rfl, rfl⟩, by omega⟩, ⟨⟨.inl rfl, rfl, rfl, rfl⟩, ⟨⟨rfl, rfl, rfl, rfl, fun _ => rfl, fun _ _ => .inl rfl⟩, ⟨⟨rfl, rfl, rfl, rfl, fun _ => rfl, fun _ _ => .inl rfl⟩, ⟨⟨rfl, rfl, rfl, rfl, fun _ => rfl, fun _ _ => .inl rfl⟩, ⟨⟨rfl, rfl, rfl, rfl, fun _ => rfl, fun _ _ => .inl rfl⟩, ⟨⟨rfl, rfl, rfl, rfl, fun _ => rfl, fun _ _ => .inl rfl⟩, ⟨⟨rfl, rfl, rfl, rfl, fun _ => rfl, fun j hj => .inl (appG bgC (m := 12) (fun _ => rfl) q0 R _ n j hn hj)⟩, trivial⟩⟩⟩⟩⟩⟩, trivial⟩⟩
      ·(exfalso; omega)
   ·obtain rfl : k = (crvA t f).length := by omega
    have hR : R = crvQ t f := hR
    rw [← hR]
    conv => whnf
    conv => whnf
    (conv => whnf); refine ifB_dec (fun w2 => ?_) (fun w2 => ?_)
    ·(exfalso; omega)
    ·conv => whnf
     conv => whnf
     (conv => whnf); refine ⟨?_, nofun⟩
     exact ⟨rfl, hn.symm, fun _ _ => rfl⟩
end Go.Tr

/- Contracts of chapter 5: the reference's flows; the law of flows. Conditions: none. -/
-- seat YtgbdlkajmmjahaaGreat
namespace Go.Tr
open Go Go.Proofs
set_option maxRecDepth 20000
set_option maxHeartbeats 8000000

section
variable {α : Type} [DecidableEq α] {d : α}
theorem last_getDG {R : List α} (h : 0 < R.length) : R.getLast? = some (R.getD (R.length - 1) d) := by
  rw [List.getLast?_eq_getElem?, List.getD_eq_getElem?_getD, List.getElem?_eq_getElem (by omega)]; rfl
theorem compS_yG {R : List α} {x : α} (h : 0 < R.length) (e : R.getD (R.length - 1) d = x) : compS R x = R := by
  unfold compS; rw [last_getDG (d := d) h, e, if_pos rfl]
theorem compS_nG {R : List α} {x : α} (e : 0 < R.length → ¬ R.getD (R.length - 1) d = x) : compS R x = R ++ [x] := by
 by_cases h : 0 < R.length
 ·unfold compS
  rw [last_getDG (d := d) h, if_neg (fun g => e h (Option.some.inj g))]
 ·rw [List.length_eq_zero_iff.1 (by omega : R.length = 0)]; rfl
end
theorem S30 (L : List Q3) (hl : L.length ≤ 1000000) : SP 30 [bgs L] (.tuple [frs (if allR (fls L) = true then compL (fls L) else []), i64 (smRE (fls L))]) false := by
 have hfl : (fls L).length = L.length := by unfold fls; rw [List.length_map]
 have hfg : ∀ k, k < L.length → (fls L).getD k 0 = (L.getD k q0).2.1 := fun k hk => getD_mapG _ L k q0 0 hk
 generalize fls L = Q at *
 refine sound (d := 2) tok2 mixed2 Tryz.func30 (by kernel_rfl) (by kernel_rfl) ?_
 (conv => whnf); refine ⟨[.slot 4 2], [0, 4, 5], fun st mq => ∃ (k : Nat) (C : List Rat) (n : Nat), (k ≤ L.length) ∧ (∀ j, j < k → smR (Q.getD j 0)) ∧ (C = compL (Q.take k)) ∧ (C.length = n) ∧ st = ⟨[(0, bgs L), (4, .oslice 0 0 0 n none), (5, i64 k)], ⟨[⟨2, n, fun i => fqC (C.getD i 0), 0, false, true, false⟩], [], none, 0⟩, []⟩ ∧ mq = L.length - k,
  ⟨_, _, ⟨0, [], 0, by omega, (fun j h => absurd h (Nat.not_lt_zero j)), rfl, rfl, rfl, rfl⟩, ⟨⟨.inl rfl, rfl, rfl, rfl⟩, ⟨⟨rfl, rfl, rfl, rfl, fun _ => rfl, fun i h => .inl (absurd h (Nat.not_lt_zero i))⟩, trivial⟩, trivial⟩⟩, ?_⟩
 rintro s0 m0 ⟨k, C, n, hk, hs, hC, hn, rfl, hmeas⟩
 have hnk : n ≤ k := by
  rw [← hn, hC]
  exact Nat.le_trans (compL_len _) (by rw [List.length_take]; omega)
 by_cases hlt : k < L.length
 ·have c1 := S41 (L.getD k q0).2.1
  have hx := hfg k hlt
  by_cases g : smR (L.getD k q0).2.1
  ·unfold okR at c1
   rw [if_pos g, decide_eq_true g] at c1
   have eC : compL (Q.take (k + 1)) = compS C (L.getD k q0).2.1 := by rw [take_succG (d := (0 : Rat)) (by omega), compL_snoc, ← hC, hx]
   have en : 0 < n → 0 + ((n : Int) - 1).toNat = C.length - 1 := fun h => by omega
   have hs2 : ∀ j, j < k + 1 → smR (Q.getD j 0) := fun j hj => by
    by_cases e : j = k
    ·rw [e, hx]; exact g
    ·exact hs j (by omega)
   have hv := fq_veq (C.getD (0 + ((n : Int) - 1).toNat) 0) (L.getD k q0).2.1
   conv => whnf
   (conv => whnf); refine ifB_dec (fun w1 => ?_) (fun w1 => ?_)
   ·conv => whnf
    (conv => whnf); refine ⟨⟨(by omega), (by omega)⟩, ?_⟩
    conv => whnf
    (conv => whnf); refine .inl ⟨_, _, byX rfl (Sound1.pl (c1) rfl), ?_⟩
    conv => whnf
    (conv => whnf); refine ⟨[], by kernel_rfl, ?_⟩
    conv => whnf
    (conv => whnf); refine ifB_beq (fun w2 => ?_) (fun w2 => ?_)
    ·conv => whnf
     (conv => whnf); refine .inl ?_
     conv => whnf
     (conv => whnf); refine ⟨(by show _ * (16 + 1) ≤ _; omega), ?_⟩
     conv => whnf
     (conv => whnf); refine ⟨inK64 (by omega) (by omega), ?_⟩
     conv => whnf
     (conv => whnf); refine ⟨_, _, ⟨⟨k + 1, C ++ [(L.getD k q0).2.1], n + 1, by omega, hs2, (by rw [eC, compS_nG (d := (0 : Rat)) (fun h => absurd h (by omega))]), (by simp [hn]), rfl, rfl⟩, by omega⟩, ⟨⟨.inl rfl, rfl, rfl, rfl⟩, ⟨⟨rfl, rfl, rfl, rfl, fun _ => rfl, fun j hj => .inl (appG fqC (m := 2) (fun _ => rfl) (0 : Rat) C _ n j hn hj)⟩, trivial⟩, trivial⟩⟩
    ·conv => whnf
     (conv => whnf); refine ⟨inK64 (by omega) (by omega), ?_⟩
     conv => whnf
     (conv => whnf); refine ⟨⟨(by omega), (by omega)⟩, ?_⟩
     conv => whnf
     (conv => whnf); refine ifB_not ?_
     conv => whnf
     (conv => whnf); refine ifB_veq2 (fun w3 => ?_) (fun w3 => ?_)
     ·conv => whnf
      (conv => whnf); refine ⟨inK64 (by omega) (by omega), ?_⟩
      conv => whnf
      (conv => whnf); refine ⟨_, _, ⟨⟨k + 1, C, n, by omega, hs2, (by rw [eC, compS_yG (d := (0 : Rat)) (by omega) (by rw [← en (by omega)]; exact hv.1 (by assumption))]), hn, rfl, rfl⟩, by omega⟩, ⟨⟨.inl rfl, rfl, rfl, rfl⟩, ⟨⟨rfl, rfl, rfl, rfl, fun _ => rfl, fun _ _ => .inl rfl⟩, trivial⟩, trivial⟩⟩
     ·conv => whnf
      (conv => whnf); refine .inl ?_
      conv => whnf
      (conv => whnf); refine ⟨(by show _ * (16 + 1) ≤ _; omega), ?_⟩
      conv => whnf
      (conv => whnf); refine ⟨inK64 (by omega) (by omega), ?_⟩
      conv => whnf
      (conv => whnf); refine ⟨_, _, ⟨⟨k + 1, C ++ [(L.getD k q0).2.1], n + 1, by omega, hs2, (by rw [eC, compS_nG (d := (0 : Rat)) (fun h => by rw [← en (by omega)]; exact mt hv.2 (by assumption))]), (by simp [hn]), rfl, rfl⟩, by omega⟩, ⟨⟨.inl rfl, rfl, rfl, rfl⟩, ⟨⟨rfl, rfl, rfl, rfl, fun _ => rfl, fun j hj => .inl (appG fqC (m := 2) (fun _ => rfl) (0 : Rat) C _ n j hn hj)⟩, trivial⟩, trivial⟩⟩
   ·(exfalso; omega)
  ·rw [decide_eq_false g] at c1
   have ha := allR_no (L := Q) (k := k) (by omega) (by rw [hx]; exact g)
   unfold smRE
   rw [ha]
   conv => whnf
   (conv => whnf); refine ifB_dec (fun w1 => ?_) (fun w1 => ?_)
   ·conv => whnf
    (conv => whnf); refine ⟨⟨(by omega), (by omega)⟩, ?_⟩
    conv => whnf
    (conv => whnf); refine .inl ⟨_, _, byX rfl (Sound1.pl (c1) rfl), ?_⟩
    conv => whnf
    (conv => whnf); refine ⟨?_, nofun⟩
    exact ave_tup2 rfl rfl
   ·(exfalso; omega)
 ·obtain rfl : k = L.length := by omega
  have ha := allR_yes (L := Q) (by rw [hfl]; exact hs)
  have hC : C = compL Q := by rw [hC, ← hfl, List.take_length]
  unfold smRE
  rw [ha, if_pos rfl, if_pos rfl, ← hC]
  conv => whnf
  (conv => whnf); refine ifB_dec (fun w1 => ?_) (fun w1 => ?_)
  ·(exfalso; omega)
  ·conv => whnf
   (conv => whnf); refine ⟨?_, nofun⟩
   exact ave_tup2 ⟨rfl, hn.symm, fun _ _ => rfl⟩ rfl
theorem S32 (L : List Rat) (hn : L.length ≤ 1000000) : SP 32 [frs L, frs L] (vb true) false := by
 refine sound (d := 2) tok2 mixed2 Tryz.func32 (by kernel_rfl) (by kernel_rfl) ?_
 (conv => whnf); refine ifB_bne (fun w1 => ?_) (fun w1 => ?_)
 ·(exfalso; omega)
 ·(conv => whnf); refine ⟨[], [0, 1, 5], fun st mq => ∃ (k : Nat), (k ≤ L.length) ∧ st = ⟨[(0, frs L), (1, frs L), (5, i64 k)], ⟨[], [], none, 0⟩, []⟩ ∧ mq = L.length - k,
   ⟨_, _, ⟨0, by omega, rfl, rfl⟩, ⟨⟨.inl rfl, rfl, rfl, rfl⟩, trivial, trivial⟩⟩, ?_⟩
  rintro s0 m0 ⟨k, hk, rfl, hmeas⟩
  by_cases hlt : k < L.length
  ·conv => whnf
   (conv => whnf); refine ifB_dec (fun w2 => ?_) (fun w2 => ?_)
   ·conv => whnf
    (conv => whnf); refine ⟨[], by kernel_rfl, ?_⟩
    conv => whnf
    (conv => whnf); refine ⟨⟨(by omega), (by omega)⟩, ?_⟩
    conv => whnf
    (conv => whnf); refine ⟨⟨(by omega), (by omega)⟩, ?_⟩
    conv => whnf
    (conv => whnf); refine ifB_not ?_
    conv => whnf
    (conv => whnf); refine ifB_veq2 (fun w3 => ?_) (fun w3 => ?_)
    ·conv => whnf
     (conv => whnf); refine ⟨inK64 (by omega) (by omega), ?_⟩
     conv => whnf
     (conv => whnf); refine ⟨_, _, ⟨⟨k + 1, by omega, rfl, rfl⟩, by omega⟩, ⟨⟨.inl rfl, rfl, rfl, rfl⟩, trivial, trivial⟩⟩
    ·(exfalso; omega)
   ·(exfalso; omega)
  ·conv => whnf
   (conv => whnf); refine ifB_dec (fun w2 => ?_) (fun w2 => ?_)
   ·(exfalso; omega)
   ·conv => whnf
    (conv => whnf); refine ⟨?_, nofun⟩
    (first | contradiction | omega | rfl)
set_option maxHeartbeats 8000000 in
theorem S5 (t : List MRow) (h1 : t.length ≤ 9223372036854775807) (f : Int × Int) (hf : FrI f) (h : Int) : SP 5 [tblA t, gaF f, i64 h] (vb true) false := by
 have h14 := S14
 have h15 := S15 t h1
 by_cases hw : fewT t = true
 ·rw [hw] at h15
  have ht := few_fit hw
  have h17 := S17 t ht
  have h26 := S26 t ht f hf h
  have h27 := S27 t ht f hf
  have h18 := S18 t ht f hf
  have h29 := S29 h
  change SP 29 _ (i64 (szE h)) false at h29
  have h28 := S28
  have h31 := S31 h
  by_cases h0 : ocE t f = 0
  ·obtain ⟨hT, hl, hO⟩ := ocE_ok h0
   have h22 := S22 t ht hT f hO
   have h21 := S21 (crvQ t f) zrL (crvQ_ok hT hO zrL_ok) zrL_ok
   have hln := spL_len (l := zrL) (crvQ_len hT hO)
   have h20 := S20 (spL (crvQ t f) zrL) (by omega)
   have hl2 := smL_len (spL (crvQ t f) zrL)
   have h24 := S24 (smL (spL (crvQ t f) zrL)) (by omega)
   rw [if_pos h0, if_pos h0] at h27
   unfold slL slE at h27
   rw [h0] at h18
   have e : flE t f h = szE h := if_neg (not_not_intro h0)
   rw [e] at h26
   by_cases g : szE h = 0
   ·have hl := hdL_ok g
    have k21 := S21 (crvQ t f) (hdL h) (crvQ_ok hT hO hl) hl
    have kln := spL_len (l := hdL h) (crvQ_len hT hO)
    have h30 := S30 (spL (crvQ t f) (hdL h)) (by omega)
    have ef := flows_eq (crvQ t f) h
    have ea : allR (fls (spL (crvQ t f) (hdL h))) = allR (flQ t f h) := allR_mem fun x => by
     unfold flQ
     rw [← compL_mem, ef, flo1_mem]
    have e30 : (if allR (fls (spL (crvQ t f) (hdL h))) = true then compL (fls (spL (crvQ t f) (hdL h))) else []) = flR (flQ t f h) := by
     unfold flR
     rw [ea, ef]; rfl
    have e30e : smRE (fls (spL (crvQ t f) (hdL h))) = smRE (flQ t f h) := by unfold smRE; rw [ea]
    rw [e30, e30e] at h30
    rw [if_pos g, if_pos g] at h26
    have hfl : (flR (flQ t f h)).length ≤ 1000000 := by
     rw [← e30]
     split
     ·have := compL_len (fls (spL (crvQ t f) (hdL h)))
      have e2 : (fls (spL (crvQ t f) (hdL h))).length = (spL (crvQ t f) (hdL h)).length := by unfold fls; rw [List.length_map]
      omega
     ·exact Nat.zero_le _
    have h32 := S32 (flR (flQ t f h)) hfl
    rw [g] at h29
    refine sound (d := 2) tok2 mixed2 Tryz.func5 (by kernel_rfl) (by kernel_rfl) ?_
    (conv => whnf); refine .inl ⟨_, _, byX rfl (Sound1.pl (h14) rfl), ?_⟩
    (conv => whnf); refine .inl ⟨_, _, byX rfl (Sound1.pl (h15) rfl), ?_⟩
    (conv => whnf); refine ⟨[], by kernel_rfl, ?_⟩
    (conv => whnf); refine .inl ⟨_, _, byX rfl (h17), ?_⟩
    (conv => whnf); refine .inl ⟨_, _, byX rfl (h26), ?_⟩
    (conv => whnf); refine ⟨[], by kernel_rfl, ?_⟩
    (conv => whnf); refine .inl ⟨_, _, byX rfl (h17), ?_⟩
    (conv => whnf); refine .inl ⟨_, _, byX rfl (h27), ?_⟩
    (conv => whnf); refine .inl ⟨_, _, byX rfl (Sound1.pl (h18) rfl), ?_⟩
    (conv => whnf); refine .inl ⟨_, _, byX rfl (h22), ?_⟩
    (conv => whnf); refine .inl ⟨_, _, byX rfl (Sound1.pl (h28) rfl), ?_⟩
    (conv => whnf); refine .inl ⟨_, _, byX rfl (h21), ?_⟩
    (conv => whnf); refine .inl ⟨_, _, byX rfl (h20), ?_⟩
    (conv => whnf); refine ifB_bne (fun w1 => ?_) (fun w1 => ?_)
    ·(exfalso; omega)
    ·(conv => whnf); refine .inl ⟨_, _, byX rfl (Sound1.pl (h24) rfl), ?_⟩
     (conv => whnf); refine .inl ⟨_, _, byX rfl (Sound1.pl (h29) rfl), ?_⟩
     (conv => whnf); refine .inl ⟨_, _, byX rfl (h22), ?_⟩
     (conv => whnf); refine .inl ⟨_, _, byX rfl (Sound1.pl (h31) rfl), ?_⟩
     (conv => whnf); refine .inl ⟨_, _, byX rfl (k21), ?_⟩
     (conv => whnf); refine .inl ⟨_, _, byX rfl (h30), ?_⟩
     (conv => whnf); refine ifB_beq (fun w2 => ?_) (fun w2 => ?_)
     ·(conv => whnf); refine .inl ⟨_, _, byX rfl (Sound1.pl (h32) rfl), ?_⟩
      (conv => whnf); refine ⟨?_, nofun⟩
      (first | contradiction | rfl | omega)
     ·(exfalso; omega)
   ·rw [if_neg g, if_neg g] at h26
    refine sound (d := 2) tok2 mixed2 Tryz.func5 (by kernel_rfl) (by kernel_rfl) ?_
    (conv => whnf); refine .inl ⟨_, _, byX rfl (Sound1.pl (h14) rfl), ?_⟩
    (conv => whnf); refine .inl ⟨_, _, byX rfl (Sound1.pl (h15) rfl), ?_⟩
    (conv => whnf); refine ⟨[], by kernel_rfl, ?_⟩
    (conv => whnf); refine .inl ⟨_, _, byX rfl (h17), ?_⟩
    (conv => whnf); refine .inl ⟨_, _, byX rfl (h26), ?_⟩
    (conv => whnf); refine ⟨[], by kernel_rfl, ?_⟩
    (conv => whnf); refine .inl ⟨_, _, byX rfl (h17), ?_⟩
    (conv => whnf); refine .inl ⟨_, _, byX rfl (h27), ?_⟩
    (conv => whnf); refine .inl ⟨_, _, byX rfl (Sound1.pl (h18) rfl), ?_⟩
    (conv => whnf); refine .inl ⟨_, _, byX rfl (h22), ?_⟩
    (conv => whnf); refine .inl ⟨_, _, byX rfl (Sound1.pl (h28) rfl), ?_⟩
    (conv => whnf); refine .inl ⟨_, _, byX rfl (h21), ?_⟩
    (conv => whnf); refine .inl ⟨_, _, byX rfl (h20), ?_⟩
    (conv => whnf); refine ifB_bne (fun w1 => ?_) (fun w1 => ?_)
    ·(exfalso; omega)
    ·(conv => whnf); refine .inl ⟨_, _, byX rfl (Sound1.pl (h24) rfl), ?_⟩
     (conv => whnf); refine .inl ⟨_, _, byX rfl (Sound1.pl (h29) rfl), ?_⟩
     (conv => whnf); refine ifB_bne (fun w2 => ?_) (fun w2 => ?_)
     ·(conv => whnf); refine ifB_beq (fun w3 => ?_) (fun w3 => ?_)
      ·(conv => whnf); refine ⟨?_, nofun⟩
       (first | contradiction | rfl | omega)
      ·(exfalso; omega)
     ·(exfalso; omega)
  ·rw [if_neg h0, if_neg h0] at h27
   have e : flE t f h = ocE t f := if_pos h0
   rw [e, if_neg h0, if_neg h0] at h26
   refine sound (d := 2) tok2 mixed2 Tryz.func5 (by kernel_rfl) (by kernel_rfl) ?_
   (conv => whnf); refine .inl ⟨_, _, byX rfl (Sound1.pl (h14) rfl), ?_⟩
   (conv => whnf); refine .inl ⟨_, _, byX rfl (Sound1.pl (h15) rfl), ?_⟩
   (conv => whnf); refine ⟨[], by kernel_rfl, ?_⟩
   (conv => whnf); refine .inl ⟨_, _, byX rfl (h17), ?_⟩
   (conv => whnf); refine .inl ⟨_, _, byX rfl (h26), ?_⟩
   (conv => whnf); refine ⟨[], by kernel_rfl, ?_⟩
   (conv => whnf); refine .inl ⟨_, _, byX rfl (h17), ?_⟩
   (conv => whnf); refine .inl ⟨_, _, byX rfl (h27), ?_⟩
   (conv => whnf); refine .inl ⟨_, _, byX rfl (Sound1.pl (h18) rfl), ?_⟩
   (conv => whnf); refine ifB_bne (fun w1 => ?_) (fun w1 => ?_)
   ·(conv => whnf); refine ifB_beq (fun w2 => ?_) (fun w2 => ?_)
    ·(conv => whnf); refine ifB_beq (fun w3 => ?_) (fun w3 => ?_)
     ·(conv => whnf); refine ⟨?_, nofun⟩
      (first | contradiction | rfl | omega)
     ·(exfalso; omega)
    ·(exfalso; omega)
   ·(exfalso; omega)
 ·have hw2 : fewT t = false := by cases h : fewT t <;> simp_all
  rw [hw2] at h15
  refine sound (d := 2) tok2 mixed2 Tryz.func5 (by kernel_rfl) (by kernel_rfl) ?_
  (conv => whnf); refine .inl ⟨_, _, byX rfl (Sound1.pl (h14) rfl), ?_⟩
  (conv => whnf); refine .inl ⟨_, _, byX rfl (Sound1.pl (h15) rfl), ?_⟩
  (conv => whnf); refine ⟨?_, nofun⟩
  (first | contradiction | rfl | omega)
end Go.Tr

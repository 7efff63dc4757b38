/- Contracts of chapter 5: the reference's curve. Conditions: none. -/
import Derived.Test.YtgbdlkajmmjahaaGreatTr10
import Derived.Test.YtgbdlkajmmjahaaGreatTr12
set_option linter.unusedSectionVars false
set_option linter.unnecessarySimpa false
set_option linter.unusedVariables false
set_option linter.unusedSimpArgs false

-- seat YtgbdlkajmmjahaaGreat
namespace Go.Tr
open Go Go.Proofs
set_option maxRecDepth 20000
set_option maxHeartbeats 8000000

set_option maxHeartbeats 16000000 in
theorem S22 (t : List MRow) (ht : Fit t) (hT : TblOk t) (f : Int × Int) (hO : OpOk t f) : SP 22 [tblA t, gaF f] (bgs (crvQ t f)) false := by
 have hn := hT.n
 have hnp := hT.np
 have hd := hO.den
 have hK := rwK_ok hT hO
 have hcl := crv_len hT hO
 have hcd := crv_den hT hO
 have hcp := crv_part hT hO
 have ho := hT.op
 have hoK := ho (rwK t f) (by omega)
 have hoK1 := ho (rwK t f + 1) (by omega)
 have hnum : -1000000000 ≤ f.1 ∧ f.1 ≤ 1000000000 := by
  have := op_mul hT (f := f) (by omega) hd.2 0 (by omega)
  have := op_mul hT (f := f) (by omega) hd.2 (t.length - 1) (by omega)
  have := hO.lo
  have := hO.hi
  omega
 have hord := (hT.ord (rwK t f) (by omega)).1
 have c85 := S85 f (by omega) (by omega)
 have c86a := S86 (t.getD (rwK t f) r0).o (by omega)
 have c86b := S86 ((t.getD (rwK t f + 1) r0).o - (t.getD (rwK t f) r0).o) (by omega)
 have z1 : ∀ x : Int,x.natAbs ≤ 10000 → Rk 1 (x : Rat) := fun x hx=>⟨by rw [Rat.num_intCast]; exact digs_len 1 _ (Nat.lt_of_le_of_lt hx (by decide)),by rw [Rat.den_intCast]; exact digs_len 1 _ (by decide)⟩
 have rk1 : Rk 1 (Rat.divInt f.1 f.2) := Rk.divI (by omega) (Zk.small (Nat.lt_of_le_of_lt (show _ ≤ 1000 by have := op_mul hT (f := f) (by omega) hd.2 0 (by omega); have := op_mul hT (f := f) (by omega) hd.2 (t.length - 1) (by omega); have := hO.lo; have := hO.hi; omega) (by decide))) (Zk.small (Nat.lt_of_le_of_lt (show _ ≤ 10 by omega) (by decide)))
 have c84 := S84 (Rat.divInt f.1 f.2) ((t.getD (rwK t f) r0).o : Rat) rk1 (z1 _ (by omega)) (by decide)
 have c83 := S83 (Rat.divInt f.1 f.2 - ((t.getD (rwK t f) r0).o : Rat)) (((t.getD (rwK t f + 1) r0).o - (t.getD (rwK t f) r0).o : Int) : Rat) (rk1.sub (z1 _ (by omega))) (z1 _ (by omega)) (by decide) (cast_ne (by omega))
 rw [← part_eq (by omega) (by omega)] at c83
 change SP 83 _ (rA (Rat.divInt (crvP t f) (crvD t f))) false at c83
 have rkp : Rk 1 (Rat.divInt (crvP t f) (crvD t f)) := Rk.divI (by omega) (Zk.small (Nat.lt_of_le_of_lt (show _ ≤ 200 by omega) (by decide))) (Zk.small (Nat.lt_of_le_of_lt (show _ ≤ 200 by omega) (by decide)))
 have r3 : inK .i64 ((t.getD (rwK t f + 1) r0).o - (t.getD (rwK t f) r0).o) := inK_of (by omega)
 refine sound (d := 2) tok2 mixed2 Tryz.func22 (by kernel_rfl) (by kernel_rfl) ?_
 (conv=>whnf); refine ⟨[],[2,3,5],fun st mq=>∃ (i : Nat),(i + 2 ≤ t.length) ∧ (rwI t f (t.length - i) i = rwK t f) ∧ st = ⟨[(2,.optr 0 0 0 0),(3,.optr 1 0 0 0),(5,i64 i)],⟨[⟨1,1,fun _=>[rowsA t],0,false,true,true⟩,⟨2,1,fun _=>[i64 f.1,i64 f.2],0,false,true,true⟩],[],none,0⟩,[]⟩ ∧ mq = t.length - i,
  ⟨_,_,⟨0,by omega,rfl,rfl,rfl⟩,⟨⟨.inl rfl,rfl,rfl,rfl⟩,⟨⟨rfl,rfl,rfl,rfl,fun _=>rfl,fun _ _=>.inl rfl⟩,⟨⟨rfl,rfl,rfl,rfl,fun _=>rfl,fun _ _=>.inl rfl⟩,trivial⟩⟩,trivial⟩⟩,?_⟩
 rintro s0 m0 ⟨i,hi,hr,rfl,hmeas⟩
 by_cases hlt : i + 2 < t.length
 ·have c63 := S63 (t.getD (i + 1) r0).o 1 f.1 f.2 (by have := ho (i + 1) (by omega); omega) (by decide) hnum (by omega)
  have g0 := sg_gt ((t.getD (i + 1) r0).o * f.2 - f.1 * 1)
  rw [Int.mul_one] at g0 c63
  by_cases hle : (t.getD (i + 1) r0).o * f.2 ≤ f.1
  ·rw [rwI_go (by omega) ⟨hlt,hle⟩] at hr
   conv=>whnf
   (conv=>whnf); refine ⟨[],by kernel_rfl,?_⟩
   conv=>whnf
   (conv=>whnf); refine ⟨inK64 (by omega) (by omega),?_⟩
   conv=>whnf
   (conv=>whnf); refine ifB_dec (fun w1=>?_) (fun w1=>?_)
   ·conv=>whnf
    (conv=>whnf); refine ⟨inK64 (by omega) (by omega),?_⟩
    conv=>whnf
    (conv=>whnf); refine ⟨⟨(by omega),(by omega)⟩,?_⟩
    conv=>whnf
    (conv=>whnf); refine .inl ⟨_,_,byX rfl (Sound1.pl (c63) rfl),?_⟩
    conv=>whnf
    (conv=>whnf); refine ifB_dec (fun w2=>?_) (fun w2=>?_)
    ·conv=>whnf
     (conv=>whnf); refine ⟨inK64 (by omega) (by omega),?_⟩
     conv=>whnf
     (conv=>whnf); refine ⟨_,_,⟨⟨i + 1,by omega,hr,rfl,rfl⟩,by omega⟩,⟨⟨.inl rfl,rfl,rfl,rfl⟩,⟨⟨rfl,rfl,rfl,rfl,fun _=>rfl,fun _ _=>.inl rfl⟩,⟨⟨rfl,rfl,rfl,rfl,fun _=>rfl,fun _ _=>.inl rfl⟩,trivial⟩⟩,trivial⟩⟩
    ·(exfalso; omega)
   ·(exfalso; omega)
  ·rw [rwI_stop _ _ (fun e => hle e.2)] at hr
   subst hr
   conv=>whnf
   (conv=>whnf); refine ⟨[],by kernel_rfl,?_⟩
   conv=>whnf
   (conv=>whnf); refine ⟨inK64 (by omega) (by omega),?_⟩
   conv=>whnf
   (conv=>whnf); refine ifB_dec (fun w1=>?_) (fun w1=>?_)
   ·conv => whnf
    (conv=>whnf); refine ⟨inK64 (by omega) (by omega),?_⟩
    conv=>whnf
    (conv=>whnf); refine ⟨⟨(by omega),(by omega)⟩,?_⟩
    conv=>whnf
    (conv=>whnf); refine .inl ⟨_,_,byX rfl (Sound1.pl (c63) rfl),?_⟩
    conv=>whnf
    (conv=>whnf); refine ifB_dec (fun w2=>?_) (fun w2=>?_)
    ·(exfalso; omega)
    ·conv => whnf
     (conv=>whnf); refine ⟨[(6,13),(10,13)],by kernel_rfl,?_⟩
     conv=>whnf
     (conv=>whnf); refine ⟨⟨(by omega),(by omega)⟩,?_⟩
     conv=>whnf
     (conv=>whnf); refine ⟨inK64 (by omega) (by omega),?_⟩
     conv=>whnf
     (conv=>whnf); refine ⟨⟨(by omega),(by omega)⟩,?_⟩
     conv=>whnf
     (conv=>whnf); refine ⟨[],by kernel_rfl,?_⟩
     conv=>whnf
     (conv=>whnf); refine .inl ⟨_,_,byX rfl (c85),?_⟩
     conv=>whnf
     (conv=>whnf); refine .inl ⟨_,_,byX rfl (c86a),?_⟩
     conv=>whnf
     (conv=>whnf); refine .inl ⟨_,_,byX rfl (c84),?_⟩
     conv=>whnf
     (conv=>whnf); refine ⟨by assumption,?_⟩
     conv=>whnf
     (conv=>whnf); refine .inl ⟨_,_,byX rfl (c86b),?_⟩
     conv=>whnf
     (conv=>whnf); refine .inl ⟨_,_,byX rfl (c83),?_⟩
     conv=>whnf
     (conv=>whnf); refine ⟨[.slot 9 12],[6,7,8,9,10],fun st mq=>∃ (k : Nat) (R : List Q3) (n : Nat) (F0 : Nat → List AV) (F1 : Nat → List AV),(k ≤ (crvA t f).length) ∧ (R = compL (rawQ (crvA t f) (crvB t f) (Rat.divInt (crvP t f) (crvD t f)) k)) ∧ (R.length = n) ∧ st = ⟨[(6,.optr 2 0 0 0),(7,.optr 3 0 0 0),(8,.optr 4 0 0 0),(9,.oslice 5 0 0 n none),(10,i64 k)],⟨[⟨1,1,F0,0,false,true,false⟩,⟨2,1,F1,0,false,true,false⟩,⟨2,1,fun _=>[i64 (t.getD (rwK t f) r0).o,ptsA (crvA t f)],0,false,true,true⟩,⟨2,1,fun _=>[i64 (t.getD (rwK t f + 1) r0).o,ptsA (crvB t f)],0,false,true,true⟩,⟨4,1,fun _=>rC (Rat.divInt (crvP t f) (crvD t f)),0,false,true,true⟩,⟨12,n,fun i=>bgC (R.getD i q0),0,false,true,false⟩],[],none,0⟩,[]⟩ ∧ mq = (crvA t f).length - k,
      ⟨_,_,⟨0,[],0,_,_,by omega,rfl,rfl,rfl,rfl⟩,⟨⟨.inl rfl,rfl,rfl,rfl⟩,⟨⟨rfl,rfl,rfl,rfl,fun _=>rfl,fun _ _=>.inl rfl⟩,⟨⟨rfl,rfl,rfl,rfl,fun _=>rfl,fun _ _=>.inl rfl⟩,⟨⟨rfl,rfl,rfl,rfl,fun _=>rfl,fun _ _=>.inl rfl⟩,⟨⟨rfl,rfl,rfl,rfl,fun _=>rfl,fun _ _=>.inl rfl⟩,⟨⟨rfl,rfl,rfl,rfl,fun _=>rfl,fun _ _=>.inl rfl⟩,⟨⟨rfl,rfl,rfl,rfl,fun _=>rfl,fun i h=>.inl (absurd h (Nat.not_lt_zero i))⟩,trivial⟩⟩⟩⟩⟩⟩,trivial⟩⟩,?_⟩
     rintro s0 m0 ⟨k,R,n,F0,F1,hk,hR,hn,rfl,hmeas⟩
     have hrw : ∀ j,(rawQ (crvA t f) (crvB t f) (Rat.divInt (crvP t f) (crvD t f)) j).length ≤ 2 * j := fun j=>by
      rw [← raw_map _ _ _ (show crvD t f ≠ 0 by omega),List.length_map]; exact rawN_len _ _ _ _ j
     have hrl : n ≤ 2 * k := by rw [← hn,hR]; exact Nat.le_trans (compL_len _) (hrw k)
     have hRk : ∀ i,R3k 1 (R.getD i q0) := fun i=>by
      by_cases hi : i < R.length
      ·have hm := getD_memG (d := q0) hi
       rw [hR,compL_mem,← hR] at hm
       exact rawQ_rk hT hO k _ hm
      ·rw [List.getD_eq_getElem?_getD,List.getElem?_eq_none (by omega)]
       exact rk_pt (p := p0) ptOk_0
     by_cases hlt2 : k < (crvA t f).length
     ·have hpt := crv_pts hT hO k
      have a88 := S88 _ hpt.1
      have b88 := S88 _ hpt.2
      have a82 := S82 (ptQ ((crvA t f).getD k p0)) (ptQ ((crvB t f).getD k p0)) (Rat.divInt (crvP t f) (crvD t f)) (rk_pt hpt.1) (rk_pt hpt.2) rkp (by decide)
      by_cases hlt3 : k + 1 < (crvA t f).length
      ·have hpt2 := crv_pts hT hO (k + 1)
       have d88 := S88 _ hpt2.1
       have b82 := S82 (ptQ ((crvA t f).getD (k + 1) p0)) (ptQ ((crvB t f).getD k p0)) (Rat.divInt (crvP t f) (crvD t f)) (rk_pt hpt2.1) (rk_pt hpt.2) rkp (by decide)
       have hR2 := rawQ_2 (B := crvB t f) (part := Rat.divInt (crvP t f) (crvD t f)) hlt3
       have hy1 : R3k 1 (mixQ (ptQ ((crvA t f).getD k p0)) (ptQ ((crvB t f).getD k p0)) (Rat.divInt (crvP t f) (crvD t f))) := rawQ_rk hT hO (k + 1) _ (by rw [hR2]; simp)
       have hy2 : R3k 1 (mixQ (ptQ ((crvA t f).getD (k + 1) p0)) (ptQ ((crvB t f).getD k p0)) (Rat.divInt (crvP t f) (crvD t f))) := rawQ_rk hT hO (k + 1) _ (by rw [hR2]; simp)
       have hc2 := congrArg compL hR2
       rw [compL_snoc,compL_snoc,← hR] at hc2
       generalize hz1 : mixQ (ptQ ((crvA t f).getD k p0)) (ptQ ((crvB t f).getD k p0)) (Rat.divInt (crvP t f) (crvD t f)) = y1 at a82 hy1 hc2
       generalize hz2 : mixQ (ptQ ((crvA t f).getD (k + 1) p0)) (ptQ ((crvB t f).getD k p0)) (Rat.divInt (crvP t f) (crvD t f)) = y2 at b82 hy2 hc2
       have c144 := fun p q hp hq=>S144 (k := 1) p q hp hq (by decide)
       have e1 := cmp3_zero (R.getD (n - 1) q0) y1
       have e2 := cmp3_zero (R.getD (n - 1) q0) y2
       have e3 := cmp3_zero y1 y2
       have en : 0 < n → 0 + ((n : Int) - 1).toNat = n - 1 := fun h=>by omega
       by_cases g1 : 0 < n ∧ cmp3 (R.getD (n - 1) q0) y1 = 0
       ·have s1 : compS R y1 = R := compS_y (by omega) (by rw [hn]; exact e1.1 g1.2)
        have f1 : cmp3 (R.getD (0 + ((n : Int) - 1).toNat) q0) y1 = 0 := by rw [en g1.1]; exact g1.2
        rw [s1] at hc2
        by_cases g2 : cmp3 (R.getD (n - 1) q0) y2 = 0
        ·have s2 : compS R y2 = R := compS_y (by omega) (by rw [hn]; exact e2.1 g2)
         have f2 : cmp3 (R.getD (0 + ((n : Int) - 1).toNat) q0) y2 = 0 := by rw [en g1.1]; exact g2
         rw [s2] at hc2
         conv=>whnf
         conv=>whnf
         (conv=>whnf); refine ifB_dec (fun w3=>?_) (fun w3=>?_)
         ·conv => whnf
          conv=>whnf
          (conv=>whnf); refine ⟨[(15,1000001)],by kernel_rfl,?_⟩
          conv=>whnf
          conv=>whnf
          (conv=>whnf); refine ⟨⟨(by omega),(by omega)⟩,?_⟩
          conv=>whnf
          conv=>whnf
          (conv=>whnf); refine .inl ⟨_,_,byX rfl (a88),?_⟩
          conv=>whnf
          conv=>whnf
          (conv=>whnf); refine ⟨⟨(by omega),(by omega)⟩,?_⟩
          conv=>whnf
          conv=>whnf
          (conv=>whnf); refine .inl ⟨_,_,byX rfl (b88),?_⟩
          conv=>whnf
          conv=>whnf
          (conv=>whnf); refine .inl ⟨_,_,byX rfl (a82),?_⟩
          conv=>whnf
          conv=>whnf
          (conv=>whnf); refine .inr (.inl ⟨[],?_⟩)
          conv=>whnf
          conv=>whnf
          (conv=>whnf); refine ⟨[],by kernel_rfl,?_⟩
          conv=>whnf
          conv=>whnf
          (conv=>whnf); refine ifB_dec (fun w4=>?_) (fun w4=>?_)
          ·conv => whnf
           conv=>whnf
           (conv=>whnf); refine ⟨inK64 (by omega) (by omega),?_⟩
           conv=>whnf
           conv=>whnf
           (conv=>whnf); refine ⟨⟨(by omega),(by omega)⟩,?_⟩
           conv=>whnf
           conv=>whnf
           (conv=>whnf); refine .inl ⟨_,_,byX rfl (Sound1.pl (c144 _ _ ?_ ?_) rfl),?_⟩
           ·(first | contradiction | exact hRk _ | exact hy1 | exact hy2 | omega)
           ·(first | contradiction | exact hRk _ | exact hy1 | exact hy2 | omega)
           ·conv => whnf
            conv=>whnf
            (conv=>whnf); refine ifB_beq (fun w5=>?_) (fun w5=>?_)
            ·conv=>whnf
             conv=>whnf
             (conv=>whnf); refine ⟨inK64 (by omega) (by omega),?_⟩
             conv=>whnf
             conv=>whnf
             (conv=>whnf); refine ifB_dec (fun w6=>?_) (fun w6=>?_)
             ·conv=>whnf
              conv=>whnf
              (conv=>whnf); refine ⟨[(16,1000001)],by kernel_rfl,?_⟩
              conv=>whnf
              conv=>whnf
              (conv=>whnf); refine ⟨inK64 (by omega) (by omega),?_⟩
              conv=>whnf
              conv=>whnf
              (conv=>whnf); refine ⟨⟨(by omega),(by omega)⟩,?_⟩
              conv=>whnf
              conv=>whnf
              (conv=>whnf); refine .inl ⟨_,_,byX rfl (d88),?_⟩
              conv=>whnf
              conv=>whnf
              (conv=>whnf); refine ⟨⟨(by omega),(by omega)⟩,?_⟩
              conv=>whnf
              conv=>whnf
              (conv=>whnf); refine .inl ⟨_,_,byX rfl (b88),?_⟩
              conv=>whnf
              conv=>whnf
              (conv=>whnf); refine .inl ⟨_,_,byX rfl (b82),?_⟩
              conv=>whnf
              conv=>whnf
              (conv=>whnf); refine .inr (.inl ⟨[],?_⟩)
              conv=>whnf
              conv=>whnf
              (conv=>whnf); refine ⟨[],by kernel_rfl,?_⟩
              conv=>whnf
              conv=>whnf
              (conv=>whnf); refine ifB_dec (fun w7=>?_) (fun w7=>?_)
              ·conv=>whnf
               conv=>whnf
               (conv=>whnf); refine ⟨inK64 (by omega) (by omega),?_⟩
               conv=>whnf
               conv=>whnf
               (conv=>whnf); refine ⟨⟨(by omega),(by omega)⟩,?_⟩
               conv=>whnf
               conv=>whnf
               (conv=>whnf); refine .inl ⟨_,_,byX rfl (Sound1.pl (c144 _ _ ?_ ?_) rfl),?_⟩
               ·(first | contradiction | exact hRk _ | exact hy1 | exact hy2 | omega)
               ·(first | contradiction | exact hRk _ | exact hy1 | exact hy2 | omega)
               ·conv=>whnf
                conv=>whnf
                (conv=>whnf); refine ifB_beq (fun w8=>?_) (fun w8=>?_)
                ·conv=>whnf
                 conv=>whnf
                 (conv=>whnf); refine ⟨inK64 (by omega) (by omega),?_⟩
                 conv=>whnf
                 conv=>whnf
                 (conv=>whnf); refine ⟨_,_,⟨⟨k + 1,R,n,_,_,by omega,hc2.symm,hn,rfl,rfl⟩,by omega⟩,⟨⟨.inl rfl,rfl,rfl,rfl⟩,⟨⟨rfl,rfl,rfl,rfl,fun _=>rfl,fun _ _=>.inl rfl⟩,⟨⟨rfl,rfl,rfl,rfl,fun _=>rfl,fun _ _=>.inl rfl⟩,⟨⟨rfl,rfl,rfl,rfl,fun _=>rfl,fun _ _=>.inl rfl⟩,⟨⟨rfl,rfl,rfl,rfl,fun _=>rfl,fun _ _=>.inl rfl⟩,⟨⟨rfl,rfl,rfl,rfl,fun _=>rfl,fun _ _=>.inl rfl⟩,⟨⟨rfl,rfl,rfl,rfl,fun _=>rfl,fun _ _=>.inl rfl⟩,trivial⟩⟩⟩⟩⟩⟩,trivial⟩⟩
                ·(exfalso; omega)
              ·(exfalso; omega)
             ·(exfalso; omega)
            ·(exfalso; omega)
          ·(exfalso; omega)
         ·(exfalso; omega)
        ·have s2 : compS R y2 = R ++ [y2] := compS_n (fun _ => by rw [hn]; exact fun e => g2 (e2.2 e))
         have f2 : ¬ cmp3 (R.getD (0 + ((n : Int) - 1).toNat) q0) y2 = 0 := by rw [en g1.1]; exact g2
         rw [s2] at hc2
         conv=>whnf
         conv=>whnf
         (conv=>whnf); refine ifB_dec (fun w3=>?_) (fun w3=>?_)
         ·conv => whnf
          conv=>whnf
          (conv=>whnf); refine ⟨[(15,1000001)],by kernel_rfl,?_⟩
          conv=>whnf
          conv=>whnf
          (conv=>whnf); refine ⟨⟨(by omega),(by omega)⟩,?_⟩
          conv=>whnf
          conv=>whnf
          (conv=>whnf); refine .inl ⟨_,_,byX rfl (a88),?_⟩
          conv=>whnf
          conv=>whnf
          (conv=>whnf); refine ⟨⟨(by omega),(by omega)⟩,?_⟩
          conv=>whnf
          conv=>whnf
          (conv=>whnf); refine .inl ⟨_,_,byX rfl (b88),?_⟩
          conv=>whnf
          conv=>whnf
          (conv=>whnf); refine .inl ⟨_,_,byX rfl (a82),?_⟩
          conv=>whnf
          conv=>whnf
          (conv=>whnf); refine .inr (.inl ⟨[],?_⟩)
          conv=>whnf
          conv=>whnf
          (conv=>whnf); refine ⟨[],by kernel_rfl,?_⟩
          conv=>whnf
          conv=>whnf
          (conv=>whnf); refine ifB_dec (fun w4=>?_) (fun w4=>?_)
          ·conv => whnf
           conv=>whnf
           (conv=>whnf); refine ⟨inK64 (by omega) (by omega),?_⟩
           conv=>whnf
           conv=>whnf
           (conv=>whnf); refine ⟨⟨(by omega),(by omega)⟩,?_⟩
           conv=>whnf
           conv=>whnf
           (conv=>whnf); refine .inl ⟨_,_,byX rfl (Sound1.pl (c144 _ _ ?_ ?_) rfl),?_⟩
           ·(first | contradiction | exact hRk _ | exact hy1 | exact hy2 | omega)
           ·(first | contradiction | exact hRk _ | exact hy1 | exact hy2 | omega)
           ·conv => whnf
            conv=>whnf
            (conv=>whnf); refine ifB_beq (fun w5=>?_) (fun w5=>?_)
            ·conv=>whnf
             conv=>whnf
             (conv=>whnf); refine ⟨inK64 (by omega) (by omega),?_⟩
             conv=>whnf
             conv=>whnf
             (conv=>whnf); refine ifB_dec (fun w6=>?_) (fun w6=>?_)
             ·conv=>whnf
              conv=>whnf
              (conv=>whnf); refine ⟨[(16,1000001)],by kernel_rfl,?_⟩
              conv=>whnf
              conv=>whnf
              (conv=>whnf); refine ⟨inK64 (by omega) (by omega),?_⟩
              conv=>whnf
              conv=>whnf
              (conv=>whnf); refine ⟨⟨(by omega),(by omega)⟩,?_⟩
              conv=>whnf
              conv=>whnf
              (conv=>whnf); refine .inl ⟨_,_,byX rfl (d88),?_⟩
              conv=>whnf
              conv=>whnf
              (conv=>whnf); refine ⟨⟨(by omega),(by omega)⟩,?_⟩
              conv=>whnf
              conv=>whnf
              (conv=>whnf); refine .inl ⟨_,_,byX rfl (b88),?_⟩
              conv=>whnf
              conv=>whnf
              (conv=>whnf); refine .inl ⟨_,_,byX rfl (b82),?_⟩
              conv=>whnf
              conv=>whnf
              (conv=>whnf); refine .inr (.inl ⟨[],?_⟩)
              conv=>whnf
              conv=>whnf
              (conv=>whnf); refine ⟨[],by kernel_rfl,?_⟩
              conv=>whnf
              conv=>whnf
              (conv=>whnf); refine ifB_dec (fun w7=>?_) (fun w7=>?_)
              ·conv=>whnf
               conv=>whnf
               (conv=>whnf); refine ⟨inK64 (by omega) (by omega),?_⟩
               conv=>whnf
               conv=>whnf
               (conv=>whnf); refine ⟨⟨(by omega),(by omega)⟩,?_⟩
               conv=>whnf
               conv=>whnf
               (conv=>whnf); refine .inl ⟨_,_,byX rfl (Sound1.pl (c144 _ _ ?_ ?_) rfl),?_⟩
               ·(first | contradiction | exact hRk _ | exact hy1 | exact hy2 | omega)
               ·(first | contradiction | exact hRk _ | exact hy1 | exact hy2 | omega)
               ·conv=>whnf
                conv=>whnf
                (conv=>whnf); refine ifB_beq (fun w8=>?_) (fun w8=>?_)
                ·(exfalso; omega)
                ·conv=>whnf
                 conv=>whnf
                 (conv=>whnf); refine .inl ?_
                 conv=>whnf
                 conv=>whnf
                 (conv=>whnf); refine ⟨(by show _ * (192 + 1) ≤ _; omega),?_⟩
                 conv=>whnf
                 conv=>whnf
                 (conv=>whnf); refine ⟨inK64 (by omega) (by omega),?_⟩
                 conv=>whnf
                 conv=>whnf
                 (conv=>whnf); refine ⟨_,_,⟨⟨k + 1,R ++ [y2],n + 1,_,_,by omega,hc2.symm,(by simp [hn]),rfl,rfl⟩,by omega⟩,⟨⟨.inl rfl,rfl,rfl,rfl⟩,⟨⟨rfl,rfl,rfl,rfl,fun _=>rfl,fun _ _=>.inl rfl⟩,⟨⟨rfl,rfl,rfl,rfl,fun _=>rfl,fun _ _=>.inl rfl⟩,⟨⟨rfl,rfl,rfl,rfl,fun _=>rfl,fun _ _=>.inl rfl⟩,⟨⟨rfl,rfl,rfl,rfl,fun _=>rfl,fun _ _=>.inl rfl⟩,⟨⟨rfl,rfl,rfl,rfl,fun _=>rfl,fun _ _=>.inl rfl⟩,⟨⟨rfl,rfl,rfl,rfl,fun _=>rfl,fun j hj=>.inl (appG bgC (m := 12) (fun _=>rfl) q0 R _ n j hn hj)⟩,trivial⟩⟩⟩⟩⟩⟩,trivial⟩⟩
              ·(exfalso; omega)
             ·(exfalso; omega)
            ·(exfalso; omega)
          ·(exfalso; omega)
         ·(exfalso; omega)
       ·have s1 : compS R y1 = R ++ [y1] := compS_n (fun h0 => by rw [hn] at h0 ⊢; exact fun e => g1 ⟨h0, e1.2 e⟩)
        have f1 : 0 < n → ¬ cmp3 (R.getD (0 + ((n : Int) - 1).toNat) q0) y1 = 0 := fun h=>by rw [en h]; exact fun e=>g1 ⟨h,e⟩
        rw [s1] at hc2
        have l1 : (R ++ [y1]).getD ((R ++ [y1]).length - 1) q0 = y1 := by simp [List.getD_eq_getElem?_getD]
        have l0 : 0 < (R ++ [y1]).length := by simp
        have hn1 : (R ++ [y1]).length = n + 1 := by simp [hn]
        have hwk := fun (i : Nat) (hi : i < n + 1)=>appG bgC (m := 12) (fun _=>rfl) q0 R y1 n i hn hi
        have en1 : 0 + (((n + 1 : Nat) : Int) - 1).toNat = (R ++ [y1]).length - 1 := by rw [hn1]; omega
        have hl1 : (R ++ [y1]).getD (0 + (((n + 1 : Nat) : Int) - 1).toNat) q0 = y1 := by rw [en1]; exact l1
        have hRk1 : R3k 1 ((R ++ [y1]).getD (0 + (((n + 1 : Nat) : Int) - 1).toNat) q0) := by rw [hl1]; exact hy1
        have e4 := e3
        rw [← hl1] at e4
        generalize R ++ [y1] = R1 at *
        by_cases g3 : y1 = y2
        ·have s2 : compS R1 y2 = R1 := compS_y l0 (by rw [l1]; exact g3)
         have f4 : cmp3 (R1.getD (0 + (((n + 1 : Nat) : Int) - 1).toNat) q0) y2 = 0 := e4.2 (hl1.trans g3)
         rw [s2] at hc2
         by_cases h0 : 0 < n
         ·have f1 := f1 h0
          conv=>whnf
          conv=>whnf
          (conv=>whnf); refine ifB_dec (fun w3=>?_) (fun w3=>?_)
          ·conv => whnf
           conv=>whnf
           (conv=>whnf); refine ⟨[(15,1000001)],by kernel_rfl,?_⟩
           conv=>whnf
           conv=>whnf
           (conv=>whnf); refine ⟨⟨(by omega),(by omega)⟩,?_⟩
           conv=>whnf
           conv=>whnf
           (conv=>whnf); refine .inl ⟨_,_,byX rfl (a88),?_⟩
           conv=>whnf
           conv=>whnf
           (conv=>whnf); refine ⟨⟨(by omega),(by omega)⟩,?_⟩
           conv=>whnf
           conv=>whnf
           (conv=>whnf); refine .inl ⟨_,_,byX rfl (b88),?_⟩
           conv=>whnf
           conv=>whnf
           (conv=>whnf); refine .inl ⟨_,_,byX rfl (a82),?_⟩
           conv=>whnf
           conv=>whnf
           (conv=>whnf); refine .inr (.inl ⟨[],?_⟩)
           conv=>whnf
           conv=>whnf
           (conv=>whnf); refine ⟨[],by kernel_rfl,?_⟩
           conv=>whnf
           conv=>whnf
           (conv=>whnf); refine ifB_dec (fun w4=>?_) (fun w4=>?_)
           ·conv => whnf
            conv=>whnf
            (conv=>whnf); refine ⟨inK64 (by omega) (by omega),?_⟩
            conv=>whnf
            conv=>whnf
            (conv=>whnf); refine ⟨⟨(by omega),(by omega)⟩,?_⟩
            conv=>whnf
            conv=>whnf
            (conv=>whnf); refine .inl ⟨_,_,byX rfl (Sound1.pl (c144 _ _ ?_ ?_) rfl),?_⟩
            ·(first | contradiction | exact hRk _ | exact hy1 | exact hy2 | exact hRk1 | omega)
            ·(first | contradiction | exact hRk _ | exact hy1 | exact hy2 | exact hRk1 | omega)
            ·conv=>whnf
             conv=>whnf
             (conv=>whnf); refine ifB_beq (fun w5=>?_) (fun w5=>?_)
             ·(exfalso; omega)
             ·conv=>whnf
              conv=>whnf
              (conv=>whnf); refine .inl ?_
              conv=>whnf
              conv=>whnf
              (conv=>whnf); refine ⟨(by show _ * (192 + 1) ≤ _; omega),?_⟩
              conv=>whnf
              conv=>whnf
              (conv=>whnf); refine ⟨inK64 (by omega) (by omega),?_⟩
              conv=>whnf
              conv=>whnf
              (conv=>whnf); refine ifB_dec (fun w6=>?_) (fun w6=>?_)
              ·conv=>whnf
               conv=>whnf
               (conv=>whnf); refine ⟨[(16,1000001),(0,1000002)],_,weakF 5 (fun i=>bgC (R1.getD i q0)) rfl hwk,by kernel_rfl,?_⟩
               conv=>whnf
               conv=>whnf
               (conv=>whnf); refine ⟨inK64 (by omega) (by omega),?_⟩
               conv=>whnf
               conv=>whnf
               (conv=>whnf); refine ⟨⟨(by omega),(by omega)⟩,?_⟩
               conv=>whnf
               conv=>whnf
               (conv=>whnf); refine .inl ⟨_,_,byX rfl (d88),?_⟩
               conv=>whnf
               conv=>whnf
               (conv=>whnf); refine ⟨⟨(by omega),(by omega)⟩,?_⟩
               conv=>whnf
               conv=>whnf
               (conv=>whnf); refine .inl ⟨_,_,byX rfl (b88),?_⟩
               conv=>whnf
               conv=>whnf
               (conv=>whnf); refine .inl ⟨_,_,byX rfl (b82),?_⟩
               conv=>whnf
               conv=>whnf
               (conv=>whnf); refine .inr (.inl ⟨[],?_⟩)
               conv=>whnf
               conv=>whnf
               (conv=>whnf); refine ⟨[],by kernel_rfl,?_⟩
               conv=>whnf
               conv=>whnf
               (conv=>whnf); refine ifB_dec (fun w7=>?_) (fun w7=>?_)
               ·conv=>whnf
                conv=>whnf
                (conv=>whnf); refine ⟨inK64 (by omega) (by omega),?_⟩
                conv=>whnf
                conv=>whnf
                (conv=>whnf); refine ⟨⟨(by omega),(by omega)⟩,?_⟩
                conv=>whnf
                conv=>whnf
                (conv=>whnf); refine .inl ⟨_,_,byX rfl (Sound1.pl (c144 _ _ (by omega) (by omega)) rfl),?_⟩
                conv=>whnf
                conv=>whnf
                (conv=>whnf); refine ifB_beq (fun w8=>?_) (fun w8=>?_)
                ·conv=>whnf
                 conv=>whnf
                 (conv=>whnf); refine ⟨inK64 (by omega) (by omega),?_⟩
                 conv=>whnf
                 conv=>whnf
                 (conv=>whnf); refine ⟨_,_,⟨⟨k + 1,R1,n + 1,_,_,by omega,hc2.symm,hn1,rfl,rfl⟩,by omega⟩,⟨⟨.inl rfl,rfl,rfl,rfl⟩,⟨⟨rfl,rfl,rfl,rfl,fun _=>rfl,fun _ _=>.inl rfl⟩,⟨⟨rfl,rfl,rfl,rfl,fun _=>rfl,fun _ _=>.inl rfl⟩,⟨⟨rfl,rfl,rfl,rfl,fun _=>rfl,fun _ _=>.inl rfl⟩,⟨⟨rfl,rfl,rfl,rfl,fun _=>rfl,fun _ _=>.inl rfl⟩,⟨⟨rfl,rfl,rfl,rfl,fun _=>rfl,fun _ _=>.inl rfl⟩,⟨⟨rfl,rfl,rfl,rfl,fun _=>rfl,fun _ _=>.inl rfl⟩,trivial⟩⟩⟩⟩⟩⟩,trivial⟩⟩
                ·(exfalso; omega)
               ·(exfalso; omega)
              ·(exfalso; omega)
           ·(exfalso; omega)
          ·(exfalso; omega)
         ·conv => whnf
          conv=>whnf
          (conv=>whnf); refine ifB_dec (fun w3=>?_) (fun w3=>?_)
          ·conv=>whnf
           conv=>whnf
           (conv=>whnf); refine ⟨[(15,1000001)],by kernel_rfl,?_⟩
           conv=>whnf
           conv=>whnf
           (conv=>whnf); refine ⟨⟨(by omega),(by omega)⟩,?_⟩
           conv=>whnf
           conv=>whnf
           (conv=>whnf); refine .inl ⟨_,_,byX rfl (a88),?_⟩
           conv=>whnf
           conv=>whnf
           (conv=>whnf); refine ⟨⟨(by omega),(by omega)⟩,?_⟩
           conv=>whnf
           conv=>whnf
           (conv=>whnf); refine .inl ⟨_,_,byX rfl (b88),?_⟩
           conv=>whnf
           conv=>whnf
           (conv=>whnf); refine .inl ⟨_,_,byX rfl (a82),?_⟩
           conv=>whnf
           conv=>whnf
           (conv=>whnf); refine .inr (.inl ⟨[],?_⟩)
           conv=>whnf
           conv=>whnf
           (conv=>whnf); refine ⟨[],by kernel_rfl,?_⟩
           conv=>whnf
           conv=>whnf
           (conv=>whnf); refine ifB_dec (fun w4=>?_) (fun w4=>?_)
           ·(exfalso; omega)
           ·conv=>whnf
            conv=>whnf
            (conv=>whnf); refine .inl ?_
            conv=>whnf
            conv=>whnf
            (conv=>whnf); refine ⟨(by show _ * (192 + 1) ≤ _; omega),?_⟩
            conv=>whnf
            conv=>whnf
            (conv=>whnf); refine ⟨inK64 (by omega) (by omega),?_⟩
            conv=>whnf
            conv=>whnf
            (conv=>whnf); refine ifB_dec (fun w5=>?_) (fun w5=>?_)
            ·conv=>whnf
             conv=>whnf
             (conv=>whnf); refine ⟨[(16,1000001),(0,1000002)],_,weakF 5 (fun i=>bgC (R1.getD i q0)) rfl hwk,by kernel_rfl,?_⟩
             conv=>whnf
             conv=>whnf
             (conv=>whnf); refine ⟨inK64 (by omega) (by omega),?_⟩
             conv=>whnf
             conv=>whnf
             (conv=>whnf); refine ⟨⟨(by omega),(by omega)⟩,?_⟩
             conv=>whnf
             conv=>whnf
             (conv=>whnf); refine .inl ⟨_,_,byX rfl (d88),?_⟩
             conv=>whnf
             conv=>whnf
             (conv=>whnf); refine ⟨⟨(by omega),(by omega)⟩,?_⟩
             conv=>whnf
             conv=>whnf
             (conv=>whnf); refine .inl ⟨_,_,byX rfl (b88),?_⟩
             conv=>whnf
             conv=>whnf
             (conv=>whnf); refine .inl ⟨_,_,byX rfl (b82),?_⟩
             conv=>whnf
             conv=>whnf
             (conv=>whnf); refine .inr (.inl ⟨[],?_⟩)
             conv=>whnf
             conv=>whnf
             (conv=>whnf); refine ⟨[],by kernel_rfl,?_⟩
             conv=>whnf
             conv=>whnf
             (conv=>whnf); refine ifB_dec (fun w6=>?_) (fun w6=>?_)
             ·conv=>whnf
              conv=>whnf
              (conv=>whnf); refine ⟨inK64 (by omega) (by omega),?_⟩
              conv=>whnf
              conv=>whnf
              (conv=>whnf); refine ⟨⟨(by omega),(by omega)⟩,?_⟩
              conv=>whnf
              conv=>whnf
              (conv=>whnf); refine .inl ⟨_,_,byX rfl (Sound1.pl (c144 _ _ (by omega) (by omega)) rfl),?_⟩
              conv=>whnf
              conv=>whnf
              (conv=>whnf); refine ifB_beq (fun w7=>?_) (fun w7=>?_)
              ·conv=>whnf
               conv=>whnf
               (conv=>whnf); refine ⟨inK64 (by omega) (by omega),?_⟩
               conv=>whnf
               conv=>whnf
               (conv=>whnf); refine ⟨_,_,⟨⟨k + 1,R1,n + 1,_,_,by omega,hc2.symm,hn1,rfl,rfl⟩,by omega⟩,⟨⟨.inl rfl,rfl,rfl,rfl⟩,⟨⟨rfl,rfl,rfl,rfl,fun _=>rfl,fun _ _=>.inl rfl⟩,⟨⟨rfl,rfl,rfl,rfl,fun _=>rfl,fun _ _=>.inl rfl⟩,⟨⟨rfl,rfl,rfl,rfl,fun _=>rfl,fun _ _=>.inl rfl⟩,⟨⟨rfl,rfl,rfl,rfl,fun _=>rfl,fun _ _=>.inl rfl⟩,⟨⟨rfl,rfl,rfl,rfl,fun _=>rfl,fun _ _=>.inl rfl⟩,⟨⟨rfl,rfl,rfl,rfl,fun _=>rfl,fun _ _=>.inl rfl⟩,trivial⟩⟩⟩⟩⟩⟩,trivial⟩⟩
              ·(exfalso; omega)
             ·(exfalso; omega)
            ·(exfalso; omega)
          ·(exfalso; omega)
        ·have s2 : compS R1 y2 = R1 ++ [y2] := compS_n (fun _ => by rw [l1]; exact g3)
         have f4 : ¬ cmp3 (R1.getD (0 + (((n + 1 : Nat) : Int) - 1).toNat) q0) y2 = 0 := fun e=>g3 (hl1.symm.trans (e4.1 e))
         rw [s2] at hc2
         by_cases h0 : 0 < n
         ·have f1 := f1 h0
          conv=>whnf
          conv=>whnf
          (conv=>whnf); refine ifB_dec (fun w3=>?_) (fun w3=>?_)
          ·conv => whnf
           conv=>whnf
           (conv=>whnf); refine ⟨[(15,1000001)],by kernel_rfl,?_⟩
           conv=>whnf
           conv=>whnf
           (conv=>whnf); refine ⟨⟨(by omega),(by omega)⟩,?_⟩
           conv=>whnf
           conv=>whnf
           (conv=>whnf); refine .inl ⟨_,_,byX rfl (a88),?_⟩
           conv=>whnf
           conv=>whnf
           (conv=>whnf); refine ⟨⟨(by omega),(by omega)⟩,?_⟩
           conv=>whnf
           conv=>whnf
           (conv=>whnf); refine .inl ⟨_,_,byX rfl (b88),?_⟩
           conv=>whnf
           conv=>whnf
           (conv=>whnf); refine .inl ⟨_,_,byX rfl (a82),?_⟩
           conv=>whnf
           conv=>whnf
           (conv=>whnf); refine .inr (.inl ⟨[],?_⟩)
           conv=>whnf
           conv=>whnf
           (conv=>whnf); refine ⟨[],by kernel_rfl,?_⟩
           conv=>whnf
           conv=>whnf
           (conv=>whnf); refine ifB_dec (fun w4=>?_) (fun w4=>?_)
           ·conv => whnf
            conv=>whnf
            (conv=>whnf); refine ⟨inK64 (by omega) (by omega),?_⟩
            conv=>whnf
            conv=>whnf
            (conv=>whnf); refine ⟨⟨(by omega),(by omega)⟩,?_⟩
            conv=>whnf
            conv=>whnf
            (conv=>whnf); refine .inl ⟨_,_,byX rfl (Sound1.pl (c144 _ _ ?_ ?_) rfl),?_⟩
            ·(first | contradiction | exact hRk _ | exact hy1 | exact hy2 | exact hRk1 | omega)
            ·(first | contradiction | exact hRk _ | exact hy1 | exact hy2 | exact hRk1 | omega)
            ·conv=>whnf
             conv=>whnf
             (conv=>whnf); refine ifB_beq (fun w5=>?_) (fun w5=>?_)
             ·(exfalso; omega)
             ·conv=>whnf
              conv=>whnf
              (conv=>whnf); refine .inl ?_
              conv=>whnf
              conv=>whnf
              (conv=>whnf); refine ⟨(by show _ * (192 + 1) ≤ _; omega),?_⟩
              conv=>whnf
              conv=>whnf
              (conv=>whnf); refine ⟨inK64 (by omega) (by omega),?_⟩
              conv=>whnf
              conv=>whnf
              (conv=>whnf); refine ifB_dec (fun w6=>?_) (fun w6=>?_)
              ·conv=>whnf
               conv=>whnf
               (conv=>whnf); refine ⟨[(16,1000001),(0,1000002)],_,weakF 5 (fun i=>bgC (R1.getD i q0)) rfl hwk,by kernel_rfl,?_⟩
               conv=>whnf
               conv=>whnf
               (conv=>whnf); refine ⟨inK64 (by omega) (by omega),?_⟩
               conv=>whnf
               conv=>whnf
               (conv=>whnf); refine ⟨⟨(by omega),(by omega)⟩,?_⟩
               conv=>whnf
               conv=>whnf
               (conv=>whnf); refine .inl ⟨_,_,byX rfl (d88),?_⟩
               conv=>whnf
               conv=>whnf
               (conv=>whnf); refine ⟨⟨(by omega),(by omega)⟩,?_⟩
               conv=>whnf
               conv=>whnf
               (conv=>whnf); refine .inl ⟨_,_,byX rfl (b88),?_⟩
               conv=>whnf
               conv=>whnf
               (conv=>whnf); refine .inl ⟨_,_,byX rfl (b82),?_⟩
               conv=>whnf
               conv=>whnf
               (conv=>whnf); refine .inr (.inl ⟨[],?_⟩)
               conv=>whnf
               conv=>whnf
               (conv=>whnf); refine ⟨[],by kernel_rfl,?_⟩
               conv=>whnf
               conv=>whnf
               (conv=>whnf); refine ifB_dec (fun w7=>?_) (fun w7=>?_)
               ·conv=>whnf
                conv=>whnf
                (conv=>whnf); refine ⟨inK64 (by omega) (by omega),?_⟩
                conv=>whnf
                conv=>whnf
                (conv=>whnf); refine ⟨⟨(by omega),(by omega)⟩,?_⟩
                conv=>whnf
                conv=>whnf
                (conv=>whnf); refine .inl ⟨_,_,byX rfl (Sound1.pl (c144 _ _ (by omega) (by omega)) rfl),?_⟩
                conv=>whnf
                conv=>whnf
                (conv=>whnf); refine ifB_beq (fun w8=>?_) (fun w8=>?_)
                ·(exfalso; omega)
                ·conv=>whnf
                 conv=>whnf
                 (conv=>whnf); refine .inl ?_
                 conv=>whnf
                 conv=>whnf
                 (conv=>whnf); refine ⟨(by show _ * (192 + 1) ≤ _; omega),?_⟩
                 conv=>whnf
                 conv=>whnf
                 (conv=>whnf); refine ⟨inK64 (by omega) (by omega),?_⟩
                 conv=>whnf
                 conv=>whnf
                 (conv=>whnf); refine ⟨_,_,⟨⟨k + 1,R1 ++ [y2],n + 1 + 1,_,_,by omega,hc2.symm,(by simp [hn1]),rfl,rfl⟩,by omega⟩,⟨⟨.inl rfl,rfl,rfl,rfl⟩,⟨⟨rfl,rfl,rfl,rfl,fun _=>rfl,fun _ _=>.inl rfl⟩,⟨⟨rfl,rfl,rfl,rfl,fun _=>rfl,fun _ _=>.inl rfl⟩,⟨⟨rfl,rfl,rfl,rfl,fun _=>rfl,fun _ _=>.inl rfl⟩,⟨⟨rfl,rfl,rfl,rfl,fun _=>rfl,fun _ _=>.inl rfl⟩,⟨⟨rfl,rfl,rfl,rfl,fun _=>rfl,fun _ _=>.inl rfl⟩,⟨⟨rfl,rfl,rfl,rfl,fun _=>rfl,fun j hj=>.inl (appG bgC (m := 12) (fun _=>rfl) q0 R1 _ (n + 1) j hn1 hj)⟩,trivial⟩⟩⟩⟩⟩⟩,trivial⟩⟩
               ·(exfalso; omega)
              ·(exfalso; omega)
           ·(exfalso; omega)
          ·(exfalso; omega)
         ·conv => whnf
          conv=>whnf
          (conv=>whnf); refine ifB_dec (fun w3=>?_) (fun w3=>?_)
          ·conv=>whnf
           conv=>whnf
           (conv=>whnf); refine ⟨[(15,1000001)],by kernel_rfl,?_⟩
           conv=>whnf
           conv=>whnf
           (conv=>whnf); refine ⟨⟨(by omega),(by omega)⟩,?_⟩
           conv=>whnf
           conv=>whnf
           (conv=>whnf); refine .inl ⟨_,_,byX rfl (a88),?_⟩
           conv=>whnf
           conv=>whnf
           (conv=>whnf); refine ⟨⟨(by omega),(by omega)⟩,?_⟩
           conv=>whnf
           conv=>whnf
           (conv=>whnf); refine .inl ⟨_,_,byX rfl (b88),?_⟩
           conv=>whnf
           conv=>whnf
           (conv=>whnf); refine .inl ⟨_,_,byX rfl (a82),?_⟩
           conv=>whnf
           conv=>whnf
           (conv=>whnf); refine .inr (.inl ⟨[],?_⟩)
           conv=>whnf
           conv=>whnf
           (conv=>whnf); refine ⟨[],by kernel_rfl,?_⟩
           conv=>whnf
           conv=>whnf
           (conv=>whnf); refine ifB_dec (fun w4=>?_) (fun w4=>?_)
           ·(exfalso; omega)
           ·conv=>whnf
            conv=>whnf
            (conv=>whnf); refine .inl ?_
            conv=>whnf
            conv=>whnf
            (conv=>whnf); refine ⟨(by show _ * (192 + 1) ≤ _; omega),?_⟩
            conv=>whnf
            conv=>whnf
            (conv=>whnf); refine ⟨inK64 (by omega) (by omega),?_⟩
            conv=>whnf
            conv=>whnf
            (conv=>whnf); refine ifB_dec (fun w5=>?_) (fun w5=>?_)
            ·conv=>whnf
             conv=>whnf
             (conv=>whnf); refine ⟨[(16,1000001),(0,1000002)],_,weakF 5 (fun i=>bgC (R1.getD i q0)) rfl hwk,by kernel_rfl,?_⟩
             conv=>whnf
             conv=>whnf
             (conv=>whnf); refine ⟨inK64 (by omega) (by omega),?_⟩
             conv=>whnf
             conv=>whnf
             (conv=>whnf); refine ⟨⟨(by omega),(by omega)⟩,?_⟩
             conv=>whnf
             conv=>whnf
             (conv=>whnf); refine .inl ⟨_,_,byX rfl (d88),?_⟩
             conv=>whnf
             conv=>whnf
             (conv=>whnf); refine ⟨⟨(by omega),(by omega)⟩,?_⟩
             conv=>whnf
             conv=>whnf
             (conv=>whnf); refine .inl ⟨_,_,byX rfl (b88),?_⟩
             conv=>whnf
             conv=>whnf
             (conv=>whnf); refine .inl ⟨_,_,byX rfl (b82),?_⟩
             conv=>whnf
             conv=>whnf
             (conv=>whnf); refine .inr (.inl ⟨[],?_⟩)
             conv=>whnf
             conv=>whnf
             (conv=>whnf); refine ⟨[],by kernel_rfl,?_⟩
             conv=>whnf
             conv=>whnf
             (conv=>whnf); refine ifB_dec (fun w6=>?_) (fun w6=>?_)
             ·conv=>whnf
              conv=>whnf
              (conv=>whnf); refine ⟨inK64 (by omega) (by omega),?_⟩
              conv=>whnf
              conv=>whnf
              (conv=>whnf); refine ⟨⟨(by omega),(by omega)⟩,?_⟩
              conv=>whnf
              conv=>whnf
              (conv=>whnf); refine .inl ⟨_,_,byX rfl (Sound1.pl (c144 _ _ (by omega) (by omega)) rfl),?_⟩
              conv=>whnf
              conv=>whnf
              (conv=>whnf); refine ifB_beq (fun w7=>?_) (fun w7=>?_)
              ·(exfalso; omega)
              ·conv=>whnf
               conv=>whnf
               (conv=>whnf); refine .inl ?_
               conv=>whnf
               conv=>whnf
               (conv=>whnf); refine ⟨(by show _ * (192 + 1) ≤ _; omega),?_⟩
               conv=>whnf
               conv=>whnf
               (conv=>whnf); refine ⟨inK64 (by omega) (by omega),?_⟩
               conv=>whnf
               conv=>whnf
               (conv=>whnf); refine ⟨_,_,⟨⟨k + 1,R1 ++ [y2],n + 1 + 1,_,_,by omega,hc2.symm,(by simp [hn1]),rfl,rfl⟩,by omega⟩,⟨⟨.inl rfl,rfl,rfl,rfl⟩,⟨⟨rfl,rfl,rfl,rfl,fun _=>rfl,fun _ _=>.inl rfl⟩,⟨⟨rfl,rfl,rfl,rfl,fun _=>rfl,fun _ _=>.inl rfl⟩,⟨⟨rfl,rfl,rfl,rfl,fun _=>rfl,fun _ _=>.inl rfl⟩,⟨⟨rfl,rfl,rfl,rfl,fun _=>rfl,fun _ _=>.inl rfl⟩,⟨⟨rfl,rfl,rfl,rfl,fun _=>rfl,fun _ _=>.inl rfl⟩,⟨⟨rfl,rfl,rfl,rfl,fun _=>rfl,fun j hj=>.inl (appG bgC (m := 12) (fun _=>rfl) q0 R1 _ (n + 1) j hn1 hj)⟩,trivial⟩⟩⟩⟩⟩⟩,trivial⟩⟩
             ·(exfalso; omega)
            ·(exfalso; omega)
          ·(exfalso; omega)
      ·have hR2 := rawQ_1 (B := crvB t f) (part := Rat.divInt (crvP t f) (crvD t f)) hlt3
       have hy1 : R3k 1 (mixQ (ptQ ((crvA t f).getD k p0)) (ptQ ((crvB t f).getD k p0)) (Rat.divInt (crvP t f) (crvD t f))) := rawQ_rk hT hO (k + 1) _ (by rw [hR2]; simp)
       have hc2 := congrArg compL hR2
       rw [compL_snoc,← hR] at hc2
       generalize hz1 : mixQ (ptQ ((crvA t f).getD k p0)) (ptQ ((crvB t f).getD k p0)) (Rat.divInt (crvP t f) (crvD t f)) = y1 at a82 hy1 hc2
       have c1 : ∀ i,i + 1 = n → SP 144 [bgA (R.getD i q0),bgA y1] (i64 (cmp3 (R.getD (n - 1) q0) y1)) false := fun i hi=>by
        have e : n - 1 = i := by omega
        rw [e]; exact S144 _ _ (hRk i) hy1 (by decide)
       have e1 := cmp3_zero (R.getD (n - 1) q0) y1
       generalize cmp3 (R.getD (n - 1) q0) y1 = z1 at *
       by_cases g1 : 0 < n ∧ z1 = 0
       ·have s1 : compS R y1 = R := compS_y (by omega) (by rw [hn]; exact e1.1 g1.2)
        rw [s1] at hc2
        conv=>whnf
        conv=>whnf
        (conv=>whnf); refine ifB_dec (fun w3=>?_) (fun w3=>?_)
        ·conv=>whnf
         conv=>whnf
         (conv=>whnf); refine ⟨[(15,1000001)],by kernel_rfl,?_⟩
         conv=>whnf
         conv=>whnf
         (conv=>whnf); refine ⟨⟨(by omega),(by omega)⟩,?_⟩
         conv=>whnf
         conv=>whnf
         (conv=>whnf); refine .inl ⟨_,_,byX rfl (a88),?_⟩
         conv=>whnf
         conv=>whnf
         (conv=>whnf); refine ⟨⟨(by omega),(by omega)⟩,?_⟩
         conv=>whnf
         conv=>whnf
         (conv=>whnf); refine .inl ⟨_,_,byX rfl (b88),?_⟩
         conv=>whnf
         conv=>whnf
         (conv=>whnf); refine .inl ⟨_,_,byX rfl (a82),?_⟩
         conv=>whnf
         conv=>whnf
         (conv=>whnf); refine .inr (.inl ⟨[],?_⟩)
         conv=>whnf
         conv=>whnf
         (conv=>whnf); refine ⟨[],by kernel_rfl,?_⟩
         conv=>whnf
         conv=>whnf
         (conv=>whnf); refine ifB_dec (fun w4=>?_) (fun w4=>?_)
         ·conv=>whnf
          conv=>whnf
          (conv=>whnf); refine ⟨inK64 (by omega) (by omega),?_⟩
          conv=>whnf
          conv=>whnf
          (conv=>whnf); refine ⟨⟨(by omega),(by omega)⟩,?_⟩
          conv=>whnf
          conv=>whnf
          (conv=>whnf); refine .inl ⟨_,_,byX rfl (Sound1.pl (c1 _ (by omega)) rfl),?_⟩
          conv=>whnf
          conv=>whnf
          (conv=>whnf); refine ifB_beq (fun w5=>?_) (fun w5=>?_)
          ·conv=>whnf
           conv=>whnf
           (conv=>whnf); refine ⟨inK64 (by omega) (by omega),?_⟩
           conv=>whnf
           conv=>whnf
           (conv=>whnf); refine ifB_dec (fun w6=>?_) (fun w6=>?_)
           ·(exfalso; omega)
           ·conv=>whnf
            conv=>whnf
            (conv=>whnf); refine ⟨inK64 (by omega) (by omega),?_⟩
            conv=>whnf
            conv=>whnf
            (conv=>whnf); refine ⟨_,_,⟨⟨k + 1,R,n,_,_,by omega,hc2.symm,hn,rfl,rfl⟩,by omega⟩,⟨⟨.inl rfl,rfl,rfl,rfl⟩,⟨⟨rfl,rfl,rfl,rfl,fun _=>rfl,fun _ _=>.inl rfl⟩,⟨⟨rfl,rfl,rfl,rfl,fun _=>rfl,fun _ _=>.inl rfl⟩,⟨⟨rfl,rfl,rfl,rfl,fun _=>rfl,fun _ _=>.inl rfl⟩,⟨⟨rfl,rfl,rfl,rfl,fun _=>rfl,fun _ _=>.inl rfl⟩,⟨⟨rfl,rfl,rfl,rfl,fun _=>rfl,fun _ _=>.inl rfl⟩,⟨⟨rfl,rfl,rfl,rfl,fun _=>rfl,fun _ _=>.inl rfl⟩,trivial⟩⟩⟩⟩⟩⟩,trivial⟩⟩
          ·(exfalso; omega)
         ·(exfalso; omega)
        ·(exfalso; omega)
       ·have s1 : compS R y1 = R ++ [y1] := compS_n (fun h0=>by rw [hn] at h0 ⊢; exact fun e=>g1 ⟨h0,e1.2 e⟩)
        rw [s1] at hc2
        conv=>whnf
        conv=>whnf
        (conv=>whnf); refine ifB_dec (fun w3=>?_) (fun w3=>?_)
        ·conv=>whnf
         conv=>whnf
         (conv=>whnf); refine ⟨[(15,1000001)],by kernel_rfl,?_⟩
         conv=>whnf
         conv=>whnf
         (conv=>whnf); refine ⟨⟨(by omega),(by omega)⟩,?_⟩
         conv=>whnf
         conv=>whnf
         (conv=>whnf); refine .inl ⟨_,_,byX rfl (a88),?_⟩
         conv=>whnf
         conv=>whnf
         (conv=>whnf); refine ⟨⟨(by omega),(by omega)⟩,?_⟩
         conv=>whnf
         conv=>whnf
         (conv=>whnf); refine .inl ⟨_,_,byX rfl (b88),?_⟩
         conv=>whnf
         conv=>whnf
         (conv=>whnf); refine .inl ⟨_,_,byX rfl (a82),?_⟩
         conv=>whnf
         conv=>whnf
         (conv=>whnf); refine .inr (.inl ⟨[],?_⟩)
         conv=>whnf
         conv=>whnf
         (conv=>whnf); refine ⟨[],by kernel_rfl,?_⟩
         conv=>whnf
         conv=>whnf
         (conv=>whnf); refine ifB_dec (fun w4=>?_) (fun w4=>?_)
         ·conv=>whnf
          conv=>whnf
          (conv=>whnf); refine ⟨inK64 (by omega) (by omega),?_⟩
          conv=>whnf
          conv=>whnf
          (conv=>whnf); refine ⟨⟨(by omega),(by omega)⟩,?_⟩
          conv=>whnf
          conv=>whnf
          (conv=>whnf); refine .inl ⟨_,_,byX rfl (Sound1.pl (c1 _ (by omega)) rfl),?_⟩
          conv=>whnf
          conv=>whnf
          (conv=>whnf); refine ifB_beq (fun w5=>?_) (fun w5=>?_)
          ·(exfalso; omega)
          ·conv=>whnf
           conv=>whnf
           (conv=>whnf); refine .inl ?_
           conv=>whnf
           conv=>whnf
           (conv=>whnf); refine ⟨(by show _ * (192 + 1) ≤ _; omega),?_⟩
           conv=>whnf
           conv=>whnf
           (conv=>whnf); refine ⟨inK64 (by omega) (by omega),?_⟩
           conv=>whnf
           conv=>whnf
           (conv=>whnf); refine ifB_dec (fun w6=>?_) (fun w6=>?_)
           ·(exfalso; omega)
           ·conv=>whnf
            conv=>whnf
            (conv=>whnf); refine ⟨inK64 (by omega) (by omega),?_⟩
            conv=>whnf
            conv=>whnf
            (conv=>whnf); refine ⟨_,_,⟨⟨k + 1,R ++ [y1],n + 1,_,_,by omega,hc2.symm,(by simp [hn]),rfl,rfl⟩,by omega⟩,⟨⟨.inl rfl,rfl,rfl,rfl⟩,⟨⟨rfl,rfl,rfl,rfl,fun _=>rfl,fun _ _=>.inl rfl⟩,⟨⟨rfl,rfl,rfl,rfl,fun _=>rfl,fun _ _=>.inl rfl⟩,⟨⟨rfl,rfl,rfl,rfl,fun _=>rfl,fun _ _=>.inl rfl⟩,⟨⟨rfl,rfl,rfl,rfl,fun _=>rfl,fun _ _=>.inl rfl⟩,⟨⟨rfl,rfl,rfl,rfl,fun _=>rfl,fun _ _=>.inl rfl⟩,⟨⟨rfl,rfl,rfl,rfl,fun _=>rfl,fun j hj=>.inl (appG bgC (m := 12) (fun _=>rfl) q0 R _ n j hn hj)⟩,trivial⟩⟩⟩⟩⟩⟩,trivial⟩⟩
         ·conv=>whnf
          conv=>whnf
          (conv=>whnf); refine .inl ?_
          conv=>whnf
          conv=>whnf
          (conv=>whnf); refine ⟨(by show _ * (192 + 1) ≤ _; omega),?_⟩
          conv=>whnf
          conv=>whnf
          (conv=>whnf); refine ⟨inK64 (by omega) (by omega),?_⟩
          conv=>whnf
          conv=>whnf
          (conv=>whnf); refine ifB_dec (fun w5=>?_) (fun w5=>?_)
          ·(exfalso; omega)
          ·conv=>whnf
           conv=>whnf
           (conv=>whnf); refine ⟨inK64 (by omega) (by omega),?_⟩
           conv=>whnf
           conv=>whnf
           (conv=>whnf); refine ⟨_,_,⟨⟨k + 1,R ++ [y1],n + 1,_,_,by omega,hc2.symm,(by simp [hn]),rfl,rfl⟩,by omega⟩,⟨⟨.inl rfl,rfl,rfl,rfl⟩,⟨⟨rfl,rfl,rfl,rfl,fun _=>rfl,fun _ _=>.inl rfl⟩,⟨⟨rfl,rfl,rfl,rfl,fun _=>rfl,fun _ _=>.inl rfl⟩,⟨⟨rfl,rfl,rfl,rfl,fun _=>rfl,fun _ _=>.inl rfl⟩,⟨⟨rfl,rfl,rfl,rfl,fun _=>rfl,fun _ _=>.inl rfl⟩,⟨⟨rfl,rfl,rfl,rfl,fun _=>rfl,fun _ _=>.inl rfl⟩,⟨⟨rfl,rfl,rfl,rfl,fun _=>rfl,fun j hj=>.inl (appG bgC (m := 12) (fun _=>rfl) q0 R _ n j hn hj)⟩,trivial⟩⟩⟩⟩⟩⟩,trivial⟩⟩
        ·(exfalso; omega)
     ·obtain rfl : k = (crvA t f).length := by omega
      have hR : R = crvQ t f := hR
      rw [← hR]
      conv=>whnf
      conv=>whnf
      (conv=>whnf); refine ifB_dec (fun w3=>?_) (fun w3=>?_)
      ·(exfalso; omega)
      ·conv=>whnf
       conv=>whnf
       (conv=>whnf); refine ⟨?_,nofun⟩
       exact ⟨rfl,hn.symm,fun _ _=>rfl⟩
   ·(exfalso; omega)
 ·rw [rwI_stop _ _ (fun e => hlt e.1)] at hr
  subst hr
  have c63 : True := trivial
  conv=>whnf
  (conv=>whnf); refine ⟨[],by kernel_rfl,?_⟩
  conv=>whnf
  (conv=>whnf); refine ⟨inK64 (by omega) (by omega),?_⟩
  conv=>whnf
  (conv=>whnf); refine ifB_dec (fun w1=>?_) (fun w1=>?_)
  ·(exfalso; omega)
  ·conv => whnf
   (conv=>whnf); refine ⟨[(6,13),(10,13)],by kernel_rfl,?_⟩
   conv=>whnf
   (conv=>whnf); refine ⟨⟨(by omega),(by omega)⟩,?_⟩
   conv=>whnf
   (conv=>whnf); refine ⟨inK64 (by omega) (by omega),?_⟩
   conv=>whnf
   (conv=>whnf); refine ⟨⟨(by omega),(by omega)⟩,?_⟩
   conv=>whnf
   (conv=>whnf); refine ⟨[],by kernel_rfl,?_⟩
   conv=>whnf
   (conv=>whnf); refine .inl ⟨_,_,byX rfl (c85),?_⟩
   conv=>whnf
   (conv=>whnf); refine .inl ⟨_,_,byX rfl (c86a),?_⟩
   conv=>whnf
   (conv=>whnf); refine .inl ⟨_,_,byX rfl (c84),?_⟩
   conv=>whnf
   (conv=>whnf); refine ⟨by assumption,?_⟩
   conv=>whnf
   (conv=>whnf); refine .inl ⟨_,_,byX rfl (c86b),?_⟩
   conv=>whnf
   (conv=>whnf); refine .inl ⟨_,_,byX rfl (c83),?_⟩
   conv=>whnf
   (conv=>whnf); refine ⟨[.slot 9 12],[6,7,8,9,10],fun st mq=>∃ (k : Nat) (R : List Q3) (n : Nat) (F0 : Nat → List AV) (F1 : Nat → List AV),(k ≤ (crvA t f).length) ∧ (R = compL (rawQ (crvA t f) (crvB t f) (Rat.divInt (crvP t f) (crvD t f)) k)) ∧ (R.length = n) ∧ st = ⟨[(6,.optr 2 0 0 0),(7,.optr 3 0 0 0),(8,.optr 4 0 0 0),(9,.oslice 5 0 0 n none),(10,i64 k)],⟨[⟨1,1,F0,0,false,true,false⟩,⟨2,1,F1,0,false,true,false⟩,⟨2,1,fun _=>[i64 (t.getD (rwK t f) r0).o,ptsA (crvA t f)],0,false,true,true⟩,⟨2,1,fun _=>[i64 (t.getD (rwK t f + 1) r0).o,ptsA (crvB t f)],0,false,true,true⟩,⟨4,1,fun _=>rC (Rat.divInt (crvP t f) (crvD t f)),0,false,true,true⟩,⟨12,n,fun i=>bgC (R.getD i q0),0,false,true,false⟩],[],none,0⟩,[]⟩ ∧ mq = (crvA t f).length - k,
    ⟨_,_,⟨0,[],0,_,_,by omega,rfl,rfl,rfl,rfl⟩,⟨⟨.inl rfl,rfl,rfl,rfl⟩,⟨⟨rfl,rfl,rfl,rfl,fun _=>rfl,fun _ _=>.inl rfl⟩,⟨⟨rfl,rfl,rfl,rfl,fun _=>rfl,fun _ _=>.inl rfl⟩,⟨⟨rfl,rfl,rfl,rfl,fun _=>rfl,fun _ _=>.inl rfl⟩,⟨⟨rfl,rfl,rfl,rfl,fun _=>rfl,fun _ _=>.inl rfl⟩,⟨⟨rfl,rfl,rfl,rfl,fun _=>rfl,fun _ _=>.inl rfl⟩,⟨⟨rfl,rfl,rfl,rfl,fun _=>rfl,fun i h=>.inl (absurd h (Nat.not_lt_zero i))⟩,trivial⟩⟩⟩⟩⟩⟩,trivial⟩⟩,?_⟩
   rintro s0 m0 ⟨k,R,n,F0,F1,hk,hR,hn,rfl,hmeas⟩
   have hrw : ∀ j,(rawQ (crvA t f) (crvB t f) (Rat.divInt (crvP t f) (crvD t f)) j).length ≤ 2 * j := fun j=>by
    rw [← raw_map _ _ _ (show crvD t f ≠ 0 by omega),List.length_map]; exact rawN_len _ _ _ _ j
   have hrl : n ≤ 2 * k := by rw [← hn,hR]; exact Nat.le_trans (compL_len _) (hrw k)
   have hRk : ∀ i,R3k 1 (R.getD i q0) := fun i=>by
    by_cases hi : i < R.length
    ·have hm := getD_memG (d := q0) hi
     rw [hR,compL_mem,← hR] at hm
     exact rawQ_rk hT hO k _ hm
    ·rw [List.getD_eq_getElem?_getD,List.getElem?_eq_none (by omega)]
     exact rk_pt (p := p0) ptOk_0
   by_cases hlt2 : k < (crvA t f).length
   ·have hpt := crv_pts hT hO k
    have a88 := S88 _ hpt.1
    have b88 := S88 _ hpt.2
    have a82 := S82 (ptQ ((crvA t f).getD k p0)) (ptQ ((crvB t f).getD k p0)) (Rat.divInt (crvP t f) (crvD t f)) (rk_pt hpt.1) (rk_pt hpt.2) rkp (by decide)
    by_cases hlt3 : k + 1 < (crvA t f).length
    ·have hpt2 := crv_pts hT hO (k + 1)
     have d88 := S88 _ hpt2.1
     have b82 := S82 (ptQ ((crvA t f).getD (k + 1) p0)) (ptQ ((crvB t f).getD k p0)) (Rat.divInt (crvP t f) (crvD t f)) (rk_pt hpt2.1) (rk_pt hpt.2) rkp (by decide)
     have hR2 := rawQ_2 (B := crvB t f) (part := Rat.divInt (crvP t f) (crvD t f)) hlt3
     have hy1 : R3k 1 (mixQ (ptQ ((crvA t f).getD k p0)) (ptQ ((crvB t f).getD k p0)) (Rat.divInt (crvP t f) (crvD t f))) := rawQ_rk hT hO (k + 1) _ (by rw [hR2]; simp)
     have hy2 : R3k 1 (mixQ (ptQ ((crvA t f).getD (k + 1) p0)) (ptQ ((crvB t f).getD k p0)) (Rat.divInt (crvP t f) (crvD t f))) := rawQ_rk hT hO (k + 1) _ (by rw [hR2]; simp)
     have hc2 := congrArg compL hR2
     rw [compL_snoc,compL_snoc,← hR] at hc2
     generalize hz1 : mixQ (ptQ ((crvA t f).getD k p0)) (ptQ ((crvB t f).getD k p0)) (Rat.divInt (crvP t f) (crvD t f)) = y1 at a82 hy1 hc2
     generalize hz2 : mixQ (ptQ ((crvA t f).getD (k + 1) p0)) (ptQ ((crvB t f).getD k p0)) (Rat.divInt (crvP t f) (crvD t f)) = y2 at b82 hy2 hc2
     have c144 := fun p q hp hq=>S144 (k := 1) p q hp hq (by decide)
     have e1 := cmp3_zero (R.getD (n - 1) q0) y1
     have e2 := cmp3_zero (R.getD (n - 1) q0) y2
     have e3 := cmp3_zero y1 y2
     have en : 0 < n → 0 + ((n : Int) - 1).toNat = n - 1 := fun h=>by omega
     by_cases g1 : 0 < n ∧ cmp3 (R.getD (n - 1) q0) y1 = 0
     ·have s1 : compS R y1 = R := compS_y (by omega) (by rw [hn]; exact e1.1 g1.2)
      have f1 : cmp3 (R.getD (0 + ((n : Int) - 1).toNat) q0) y1 = 0 := by rw [en g1.1]; exact g1.2
      rw [s1] at hc2
      by_cases g2 : cmp3 (R.getD (n - 1) q0) y2 = 0
      ·have s2 : compS R y2 = R := compS_y (by omega) (by rw [hn]; exact e2.1 g2)
       have f2 : cmp3 (R.getD (0 + ((n : Int) - 1).toNat) q0) y2 = 0 := by rw [en g1.1]; exact g2
       rw [s2] at hc2
       conv=>whnf
       conv=>whnf
       (conv=>whnf); refine ifB_dec (fun w2=>?_) (fun w2=>?_)
       ·conv => whnf
        conv=>whnf
        (conv=>whnf); refine ⟨[(15,1000001)],by kernel_rfl,?_⟩
        conv=>whnf
        conv=>whnf
        (conv=>whnf); refine ⟨⟨(by omega),(by omega)⟩,?_⟩
        conv=>whnf
        conv=>whnf
        (conv=>whnf); refine .inl ⟨_,_,byX rfl (a88),?_⟩
        conv=>whnf
        conv=>whnf
        (conv=>whnf); refine ⟨⟨(by omega),(by omega)⟩,?_⟩
        conv=>whnf
        conv=>whnf
        (conv=>whnf); refine .inl ⟨_,_,byX rfl (b88),?_⟩
        conv=>whnf
        conv=>whnf
        (conv=>whnf); refine .inl ⟨_,_,byX rfl (a82),?_⟩
        conv=>whnf
        conv=>whnf
        (conv=>whnf); refine .inr (.inl ⟨[],?_⟩)
        conv=>whnf
        conv=>whnf
        (conv=>whnf); refine ⟨[],by kernel_rfl,?_⟩
        conv=>whnf
        conv=>whnf
        (conv=>whnf); refine ifB_dec (fun w3=>?_) (fun w3=>?_)
        ·conv => whnf
         conv=>whnf
         (conv=>whnf); refine ⟨inK64 (by omega) (by omega),?_⟩
         conv=>whnf
         conv=>whnf
         (conv=>whnf); refine ⟨⟨(by omega),(by omega)⟩,?_⟩
         conv=>whnf
         conv=>whnf
         (conv=>whnf); refine .inl ⟨_,_,byX rfl (Sound1.pl (c144 _ _ ?_ ?_) rfl),?_⟩
         ·(first | contradiction | exact hRk _ | exact hy1 | exact hy2 | omega)
         ·(first | contradiction | exact hRk _ | exact hy1 | exact hy2 | omega)
         ·conv => whnf
          conv=>whnf
          (conv=>whnf); refine ifB_beq (fun w4=>?_) (fun w4=>?_)
          ·conv=>whnf
           conv=>whnf
           (conv=>whnf); refine ⟨inK64 (by omega) (by omega),?_⟩
           conv=>whnf
           conv=>whnf
           (conv=>whnf); refine ifB_dec (fun w5=>?_) (fun w5=>?_)
           ·conv=>whnf
            conv=>whnf
            (conv=>whnf); refine ⟨[(16,1000001)],by kernel_rfl,?_⟩
            conv=>whnf
            conv=>whnf
            (conv=>whnf); refine ⟨inK64 (by omega) (by omega),?_⟩
            conv=>whnf
            conv=>whnf
            (conv=>whnf); refine ⟨⟨(by omega),(by omega)⟩,?_⟩
            conv=>whnf
            conv=>whnf
            (conv=>whnf); refine .inl ⟨_,_,byX rfl (d88),?_⟩
            conv=>whnf
            conv=>whnf
            (conv=>whnf); refine ⟨⟨(by omega),(by omega)⟩,?_⟩
            conv=>whnf
            conv=>whnf
            (conv=>whnf); refine .inl ⟨_,_,byX rfl (b88),?_⟩
            conv=>whnf
            conv=>whnf
            (conv=>whnf); refine .inl ⟨_,_,byX rfl (b82),?_⟩
            conv=>whnf
            conv=>whnf
            (conv=>whnf); refine .inr (.inl ⟨[],?_⟩)
            conv=>whnf
            conv=>whnf
            (conv=>whnf); refine ⟨[],by kernel_rfl,?_⟩
            conv=>whnf
            conv=>whnf
            (conv=>whnf); refine ifB_dec (fun w6=>?_) (fun w6=>?_)
            ·conv=>whnf
             conv=>whnf
             (conv=>whnf); refine ⟨inK64 (by omega) (by omega),?_⟩
             conv=>whnf
             conv=>whnf
             (conv=>whnf); refine ⟨⟨(by omega),(by omega)⟩,?_⟩
             conv=>whnf
             conv=>whnf
             (conv=>whnf); refine .inl ⟨_,_,byX rfl (Sound1.pl (c144 _ _ ?_ ?_) rfl),?_⟩
             ·(first | contradiction | exact hRk _ | exact hy1 | exact hy2 | omega)
             ·(first | contradiction | exact hRk _ | exact hy1 | exact hy2 | omega)
             ·conv=>whnf
              conv=>whnf
              (conv=>whnf); refine ifB_beq (fun w7=>?_) (fun w7=>?_)
              ·conv=>whnf
               conv=>whnf
               (conv=>whnf); refine ⟨inK64 (by omega) (by omega),?_⟩
               conv=>whnf
               conv=>whnf
               (conv=>whnf); refine ⟨_,_,⟨⟨k + 1,R,n,_,_,by omega,hc2.symm,hn,rfl,rfl⟩,by omega⟩,⟨⟨.inl rfl,rfl,rfl,rfl⟩,⟨⟨rfl,rfl,rfl,rfl,fun _=>rfl,fun _ _=>.inl rfl⟩,⟨⟨rfl,rfl,rfl,rfl,fun _=>rfl,fun _ _=>.inl rfl⟩,⟨⟨rfl,rfl,rfl,rfl,fun _=>rfl,fun _ _=>.inl rfl⟩,⟨⟨rfl,rfl,rfl,rfl,fun _=>rfl,fun _ _=>.inl rfl⟩,⟨⟨rfl,rfl,rfl,rfl,fun _=>rfl,fun _ _=>.inl rfl⟩,⟨⟨rfl,rfl,rfl,rfl,fun _=>rfl,fun _ _=>.inl rfl⟩,trivial⟩⟩⟩⟩⟩⟩,trivial⟩⟩
              ·(exfalso; omega)
            ·(exfalso; omega)
           ·(exfalso; omega)
          ·(exfalso; omega)
        ·(exfalso; omega)
       ·(exfalso; omega)
      ·have s2 : compS R y2 = R ++ [y2] := compS_n (fun _ => by rw [hn]; exact fun e => g2 (e2.2 e))
       have f2 : ¬ cmp3 (R.getD (0 + ((n : Int) - 1).toNat) q0) y2 = 0 := by rw [en g1.1]; exact g2
       rw [s2] at hc2
       conv=>whnf
       conv=>whnf
       (conv=>whnf); refine ifB_dec (fun w2=>?_) (fun w2=>?_)
       ·conv => whnf
        conv=>whnf
        (conv=>whnf); refine ⟨[(15,1000001)],by kernel_rfl,?_⟩
        conv=>whnf
        conv=>whnf
        (conv=>whnf); refine ⟨⟨(by omega),(by omega)⟩,?_⟩
        conv=>whnf
        conv=>whnf
        (conv=>whnf); refine .inl ⟨_,_,byX rfl (a88),?_⟩
        conv=>whnf
        conv=>whnf
        (conv=>whnf); refine ⟨⟨(by omega),(by omega)⟩,?_⟩
        conv=>whnf
        conv=>whnf
        (conv=>whnf); refine .inl ⟨_,_,byX rfl (b88),?_⟩
        conv=>whnf
        conv=>whnf
        (conv=>whnf); refine .inl ⟨_,_,byX rfl (a82),?_⟩
        conv=>whnf
        conv=>whnf
        (conv=>whnf); refine .inr (.inl ⟨[],?_⟩)
        conv=>whnf
        conv=>whnf
        (conv=>whnf); refine ⟨[],by kernel_rfl,?_⟩
        conv=>whnf
        conv=>whnf
        (conv=>whnf); refine ifB_dec (fun w3=>?_) (fun w3=>?_)
        ·conv => whnf
         conv=>whnf
         (conv=>whnf); refine ⟨inK64 (by omega) (by omega),?_⟩
         conv=>whnf
         conv=>whnf
         (conv=>whnf); refine ⟨⟨(by omega),(by omega)⟩,?_⟩
         conv=>whnf
         conv=>whnf
         (conv=>whnf); refine .inl ⟨_,_,byX rfl (Sound1.pl (c144 _ _ ?_ ?_) rfl),?_⟩
         ·(first | contradiction | exact hRk _ | exact hy1 | exact hy2 | omega)
         ·(first | contradiction | exact hRk _ | exact hy1 | exact hy2 | omega)
         ·conv => whnf
          conv=>whnf
          (conv=>whnf); refine ifB_beq (fun w4=>?_) (fun w4=>?_)
          ·conv=>whnf
           conv=>whnf
           (conv=>whnf); refine ⟨inK64 (by omega) (by omega),?_⟩
           conv=>whnf
           conv=>whnf
           (conv=>whnf); refine ifB_dec (fun w5=>?_) (fun w5=>?_)
           ·conv=>whnf
            conv=>whnf
            (conv=>whnf); refine ⟨[(16,1000001)],by kernel_rfl,?_⟩
            conv=>whnf
            conv=>whnf
            (conv=>whnf); refine ⟨inK64 (by omega) (by omega),?_⟩
            conv=>whnf
            conv=>whnf
            (conv=>whnf); refine ⟨⟨(by omega),(by omega)⟩,?_⟩
            conv=>whnf
            conv=>whnf
            (conv=>whnf); refine .inl ⟨_,_,byX rfl (d88),?_⟩
            conv=>whnf
            conv=>whnf
            (conv=>whnf); refine ⟨⟨(by omega),(by omega)⟩,?_⟩
            conv=>whnf
            conv=>whnf
            (conv=>whnf); refine .inl ⟨_,_,byX rfl (b88),?_⟩
            conv=>whnf
            conv=>whnf
            (conv=>whnf); refine .inl ⟨_,_,byX rfl (b82),?_⟩
            conv=>whnf
            conv=>whnf
            (conv=>whnf); refine .inr (.inl ⟨[],?_⟩)
            conv=>whnf
            conv=>whnf
            (conv=>whnf); refine ⟨[],by kernel_rfl,?_⟩
            conv=>whnf
            conv=>whnf
            (conv=>whnf); refine ifB_dec (fun w6=>?_) (fun w6=>?_)
            ·conv=>whnf
             conv=>whnf
             (conv=>whnf); refine ⟨inK64 (by omega) (by omega),?_⟩
             conv=>whnf
             conv=>whnf
             (conv=>whnf); refine ⟨⟨(by omega),(by omega)⟩,?_⟩
             conv=>whnf
             conv=>whnf
             (conv=>whnf); refine .inl ⟨_,_,byX rfl (Sound1.pl (c144 _ _ ?_ ?_) rfl),?_⟩
             ·(first | contradiction | exact hRk _ | exact hy1 | exact hy2 | omega)
             ·(first | contradiction | exact hRk _ | exact hy1 | exact hy2 | omega)
             ·conv=>whnf
              conv=>whnf
              (conv=>whnf); refine ifB_beq (fun w7=>?_) (fun w7=>?_)
              ·(exfalso; omega)
              ·conv=>whnf
               conv=>whnf
               (conv=>whnf); refine .inl ?_
               conv=>whnf
               conv=>whnf
               (conv=>whnf); refine ⟨(by show _ * (192 + 1) ≤ _; omega),?_⟩
               conv=>whnf
               conv=>whnf
               (conv=>whnf); refine ⟨inK64 (by omega) (by omega),?_⟩
               conv=>whnf
               conv=>whnf
               (conv=>whnf); refine ⟨_,_,⟨⟨k + 1,R ++ [y2],n + 1,_,_,by omega,hc2.symm,(by simp [hn]),rfl,rfl⟩,by omega⟩,⟨⟨.inl rfl,rfl,rfl,rfl⟩,⟨⟨rfl,rfl,rfl,rfl,fun _=>rfl,fun _ _=>.inl rfl⟩,⟨⟨rfl,rfl,rfl,rfl,fun _=>rfl,fun _ _=>.inl rfl⟩,⟨⟨rfl,rfl,rfl,rfl,fun _=>rfl,fun _ _=>.inl rfl⟩,⟨⟨rfl,rfl,rfl,rfl,fun _=>rfl,fun _ _=>.inl rfl⟩,⟨⟨rfl,rfl,rfl,rfl,fun _=>rfl,fun _ _=>.inl rfl⟩,⟨⟨rfl,rfl,rfl,rfl,fun _=>rfl,fun j hj=>.inl (appG bgC (m := 12) (fun _=>rfl) q0 R _ n j hn hj)⟩,trivial⟩⟩⟩⟩⟩⟩,trivial⟩⟩
            ·(exfalso; omega)
           ·(exfalso; omega)
          ·(exfalso; omega)
        ·(exfalso; omega)
       ·(exfalso; omega)
     ·have s1 : compS R y1 = R ++ [y1] := compS_n (fun h0 => by rw [hn] at h0 ⊢; exact fun e => g1 ⟨h0, e1.2 e⟩)
      have f1 : 0 < n → ¬ cmp3 (R.getD (0 + ((n : Int) - 1).toNat) q0) y1 = 0 := fun h=>by rw [en h]; exact fun e=>g1 ⟨h,e⟩
      rw [s1] at hc2
      have l1 : (R ++ [y1]).getD ((R ++ [y1]).length - 1) q0 = y1 := by simp [List.getD_eq_getElem?_getD]
      have l0 : 0 < (R ++ [y1]).length := by simp
      have hn1 : (R ++ [y1]).length = n + 1 := by simp [hn]
      have hwk := fun (i : Nat) (hi : i < n + 1)=>appG bgC (m := 12) (fun _=>rfl) q0 R y1 n i hn hi
      have en1 : 0 + (((n + 1 : Nat) : Int) - 1).toNat = (R ++ [y1]).length - 1 := by rw [hn1]; omega
      have hl1 : (R ++ [y1]).getD (0 + (((n + 1 : Nat) : Int) - 1).toNat) q0 = y1 := by rw [en1]; exact l1
      have hRk1 : R3k 1 ((R ++ [y1]).getD (0 + (((n + 1 : Nat) : Int) - 1).toNat) q0) := by rw [hl1]; exact hy1
      have e4 := e3
      rw [← hl1] at e4
      generalize R ++ [y1] = R1 at *
      by_cases g3 : y1 = y2
      ·have s2 : compS R1 y2 = R1 := compS_y l0 (by rw [l1]; exact g3)
       have f4 : cmp3 (R1.getD (0 + (((n + 1 : Nat) : Int) - 1).toNat) q0) y2 = 0 := e4.2 (hl1.trans g3)
       rw [s2] at hc2
       by_cases h0 : 0 < n
       ·have f1 := f1 h0
        conv=>whnf
        conv=>whnf
        (conv=>whnf); refine ifB_dec (fun w2=>?_) (fun w2=>?_)
        ·conv => whnf
         conv=>whnf
         (conv=>whnf); refine ⟨[(15,1000001)],by kernel_rfl,?_⟩
         conv=>whnf
         conv=>whnf
         (conv=>whnf); refine ⟨⟨(by omega),(by omega)⟩,?_⟩
         conv=>whnf
         conv=>whnf
         (conv=>whnf); refine .inl ⟨_,_,byX rfl (a88),?_⟩
         conv=>whnf
         conv=>whnf
         (conv=>whnf); refine ⟨⟨(by omega),(by omega)⟩,?_⟩
         conv=>whnf
         conv=>whnf
         (conv=>whnf); refine .inl ⟨_,_,byX rfl (b88),?_⟩
         conv=>whnf
         conv=>whnf
         (conv=>whnf); refine .inl ⟨_,_,byX rfl (a82),?_⟩
         conv=>whnf
         conv=>whnf
         (conv=>whnf); refine .inr (.inl ⟨[],?_⟩)
         conv=>whnf
         conv=>whnf
         (conv=>whnf); refine ⟨[],by kernel_rfl,?_⟩
         conv=>whnf
         conv=>whnf
         (conv=>whnf); refine ifB_dec (fun w3=>?_) (fun w3=>?_)
         ·conv => whnf
          conv=>whnf
          (conv=>whnf); refine ⟨inK64 (by omega) (by omega),?_⟩
          conv=>whnf
          conv=>whnf
          (conv=>whnf); refine ⟨⟨(by omega),(by omega)⟩,?_⟩
          conv=>whnf
          conv=>whnf
          (conv=>whnf); refine .inl ⟨_,_,byX rfl (Sound1.pl (c144 _ _ ?_ ?_) rfl),?_⟩
          ·(first | contradiction | exact hRk _ | exact hy1 | exact hy2 | exact hRk1 | omega)
          ·(first | contradiction | exact hRk _ | exact hy1 | exact hy2 | exact hRk1 | omega)
          ·conv=>whnf
           conv=>whnf
           (conv=>whnf); refine ifB_beq (fun w4=>?_) (fun w4=>?_)
           ·(exfalso; omega)
           ·conv=>whnf
            conv=>whnf
            (conv=>whnf); refine .inl ?_
            conv=>whnf
            conv=>whnf
            (conv=>whnf); refine ⟨(by show _ * (192 + 1) ≤ _; omega),?_⟩
            conv=>whnf
            conv=>whnf
            (conv=>whnf); refine ⟨inK64 (by omega) (by omega),?_⟩
            conv=>whnf
            conv=>whnf
            (conv=>whnf); refine ifB_dec (fun w5=>?_) (fun w5=>?_)
            ·conv=>whnf
             conv=>whnf
             (conv=>whnf); refine ⟨[(16,1000001),(0,1000002)],_,weakF 5 (fun i=>bgC (R1.getD i q0)) rfl hwk,by kernel_rfl,?_⟩
             conv=>whnf
             conv=>whnf
             (conv=>whnf); refine ⟨inK64 (by omega) (by omega),?_⟩
             conv=>whnf
             conv=>whnf
             (conv=>whnf); refine ⟨⟨(by omega),(by omega)⟩,?_⟩
             conv=>whnf
             conv=>whnf
             (conv=>whnf); refine .inl ⟨_,_,byX rfl (d88),?_⟩
             conv=>whnf
             conv=>whnf
             (conv=>whnf); refine ⟨⟨(by omega),(by omega)⟩,?_⟩
             conv=>whnf
             conv=>whnf
             (conv=>whnf); refine .inl ⟨_,_,byX rfl (b88),?_⟩
             conv=>whnf
             conv=>whnf
             (conv=>whnf); refine .inl ⟨_,_,byX rfl (b82),?_⟩
             conv=>whnf
             conv=>whnf
             (conv=>whnf); refine .inr (.inl ⟨[],?_⟩)
             conv=>whnf
             conv=>whnf
             (conv=>whnf); refine ⟨[],by kernel_rfl,?_⟩
             conv=>whnf
             conv=>whnf
             (conv=>whnf); refine ifB_dec (fun w6=>?_) (fun w6=>?_)
             ·conv=>whnf
              conv=>whnf
              (conv=>whnf); refine ⟨inK64 (by omega) (by omega),?_⟩
              conv=>whnf
              conv=>whnf
              (conv=>whnf); refine ⟨⟨(by omega),(by omega)⟩,?_⟩
              conv=>whnf
              conv=>whnf
              (conv=>whnf); refine .inl ⟨_,_,byX rfl (Sound1.pl (c144 _ _ (by omega) (by omega)) rfl),?_⟩
              conv=>whnf
              conv=>whnf
              (conv=>whnf); refine ifB_beq (fun w7=>?_) (fun w7=>?_)
              ·conv=>whnf
               conv=>whnf
               (conv=>whnf); refine ⟨inK64 (by omega) (by omega),?_⟩
               conv=>whnf
               conv=>whnf
               (conv=>whnf); refine ⟨_,_,⟨⟨k + 1,R1,n + 1,_,_,by omega,hc2.symm,hn1,rfl,rfl⟩,by omega⟩,⟨⟨.inl rfl,rfl,rfl,rfl⟩,⟨⟨rfl,rfl,rfl,rfl,fun _=>rfl,fun _ _=>.inl rfl⟩,⟨⟨rfl,rfl,rfl,rfl,fun _=>rfl,fun _ _=>.inl rfl⟩,⟨⟨rfl,rfl,rfl,rfl,fun _=>rfl,fun _ _=>.inl rfl⟩,⟨⟨rfl,rfl,rfl,rfl,fun _=>rfl,fun _ _=>.inl rfl⟩,⟨⟨rfl,rfl,rfl,rfl,fun _=>rfl,fun _ _=>.inl rfl⟩,⟨⟨rfl,rfl,rfl,rfl,fun _=>rfl,fun _ _=>.inl rfl⟩,trivial⟩⟩⟩⟩⟩⟩,trivial⟩⟩
              ·(exfalso; omega)
             ·(exfalso; omega)
            ·(exfalso; omega)
         ·(exfalso; omega)
        ·(exfalso; omega)
       ·conv => whnf
        conv=>whnf
        (conv=>whnf); refine ifB_dec (fun w2=>?_) (fun w2=>?_)
        ·conv=>whnf
         conv=>whnf
         (conv=>whnf); refine ⟨[(15,1000001)],by kernel_rfl,?_⟩
         conv=>whnf
         conv=>whnf
         (conv=>whnf); refine ⟨⟨(by omega),(by omega)⟩,?_⟩
         conv=>whnf
         conv=>whnf
         (conv=>whnf); refine .inl ⟨_,_,byX rfl (a88),?_⟩
         conv=>whnf
         conv=>whnf
         (conv=>whnf); refine ⟨⟨(by omega),(by omega)⟩,?_⟩
         conv=>whnf
         conv=>whnf
         (conv=>whnf); refine .inl ⟨_,_,byX rfl (b88),?_⟩
         conv=>whnf
         conv=>whnf
         (conv=>whnf); refine .inl ⟨_,_,byX rfl (a82),?_⟩
         conv=>whnf
         conv=>whnf
         (conv=>whnf); refine .inr (.inl ⟨[],?_⟩)
         conv=>whnf
         conv=>whnf
         (conv=>whnf); refine ⟨[],by kernel_rfl,?_⟩
         conv=>whnf
         conv=>whnf
         (conv=>whnf); refine ifB_dec (fun w3=>?_) (fun w3=>?_)
         ·(exfalso; omega)
         ·conv=>whnf
          conv=>whnf
          (conv=>whnf); refine .inl ?_
          conv=>whnf
          conv=>whnf
          (conv=>whnf); refine ⟨(by show _ * (192 + 1) ≤ _; omega),?_⟩
          conv=>whnf
          conv=>whnf
          (conv=>whnf); refine ⟨inK64 (by omega) (by omega),?_⟩
          conv=>whnf
          conv=>whnf
          (conv=>whnf); refine ifB_dec (fun w4=>?_) (fun w4=>?_)
          ·conv=>whnf
           conv=>whnf
           (conv=>whnf); refine ⟨[(16,1000001),(0,1000002)],_,weakF 5 (fun i=>bgC (R1.getD i q0)) rfl hwk,by kernel_rfl,?_⟩
           conv=>whnf
           conv=>whnf
           (conv=>whnf); refine ⟨inK64 (by omega) (by omega),?_⟩
           conv=>whnf
           conv=>whnf
           (conv=>whnf); refine ⟨⟨(by omega),(by omega)⟩,?_⟩
           conv=>whnf
           conv=>whnf
           (conv=>whnf); refine .inl ⟨_,_,byX rfl (d88),?_⟩
           conv=>whnf
           conv=>whnf
           (conv=>whnf); refine ⟨⟨(by omega),(by omega)⟩,?_⟩
           conv=>whnf
           conv=>whnf
           (conv=>whnf); refine .inl ⟨_,_,byX rfl (b88),?_⟩
           conv=>whnf
           conv=>whnf
           (conv=>whnf); refine .inl ⟨_,_,byX rfl (b82),?_⟩
           conv=>whnf
           conv=>whnf
           (conv=>whnf); refine .inr (.inl ⟨[],?_⟩)
           conv=>whnf
           conv=>whnf
           (conv=>whnf); refine ⟨[],by kernel_rfl,?_⟩
           conv=>whnf
           conv=>whnf
           (conv=>whnf); refine ifB_dec (fun w5=>?_) (fun w5=>?_)
           ·conv=>whnf
            conv=>whnf
            (conv=>whnf); refine ⟨inK64 (by omega) (by omega),?_⟩
            conv=>whnf
            conv=>whnf
            (conv=>whnf); refine ⟨⟨(by omega),(by omega)⟩,?_⟩
            conv=>whnf
            conv=>whnf
            (conv=>whnf); refine .inl ⟨_,_,byX rfl (Sound1.pl (c144 _ _ (by omega) (by omega)) rfl),?_⟩
            conv=>whnf
            conv=>whnf
            (conv=>whnf); refine ifB_beq (fun w6=>?_) (fun w6=>?_)
            ·conv=>whnf
             conv=>whnf
             (conv=>whnf); refine ⟨inK64 (by omega) (by omega),?_⟩
             conv=>whnf
             conv=>whnf
             (conv=>whnf); refine ⟨_,_,⟨⟨k + 1,R1,n + 1,_,_,by omega,hc2.symm,hn1,rfl,rfl⟩,by omega⟩,⟨⟨.inl rfl,rfl,rfl,rfl⟩,⟨⟨rfl,rfl,rfl,rfl,fun _=>rfl,fun _ _=>.inl rfl⟩,⟨⟨rfl,rfl,rfl,rfl,fun _=>rfl,fun _ _=>.inl rfl⟩,⟨⟨rfl,rfl,rfl,rfl,fun _=>rfl,fun _ _=>.inl rfl⟩,⟨⟨rfl,rfl,rfl,rfl,fun _=>rfl,fun _ _=>.inl rfl⟩,⟨⟨rfl,rfl,rfl,rfl,fun _=>rfl,fun _ _=>.inl rfl⟩,⟨⟨rfl,rfl,rfl,rfl,fun _=>rfl,fun _ _=>.inl rfl⟩,trivial⟩⟩⟩⟩⟩⟩,trivial⟩⟩
            ·(exfalso; omega)
           ·(exfalso; omega)
          ·(exfalso; omega)
        ·(exfalso; omega)
      ·have s2 : compS R1 y2 = R1 ++ [y2] := compS_n (fun _ => by rw [l1]; exact g3)
       have f4 : ¬ cmp3 (R1.getD (0 + (((n + 1 : Nat) : Int) - 1).toNat) q0) y2 = 0 := fun e=>g3 (hl1.symm.trans (e4.1 e))
       rw [s2] at hc2
       by_cases h0 : 0 < n
       ·have f1 := f1 h0
        conv=>whnf
        conv=>whnf
        (conv=>whnf); refine ifB_dec (fun w2=>?_) (fun w2=>?_)
        ·conv => whnf
         conv=>whnf
         (conv=>whnf); refine ⟨[(15,1000001)],by kernel_rfl,?_⟩
         conv=>whnf
         conv=>whnf
         (conv=>whnf); refine ⟨⟨(by omega),(by omega)⟩,?_⟩
         conv=>whnf
         conv=>whnf
         (conv=>whnf); refine .inl ⟨_,_,byX rfl (a88),?_⟩
         conv=>whnf
         conv=>whnf
         (conv=>whnf); refine ⟨⟨(by omega),(by omega)⟩,?_⟩
         conv=>whnf
         conv=>whnf
         (conv=>whnf); refine .inl ⟨_,_,byX rfl (b88),?_⟩
         conv=>whnf
         conv=>whnf
         (conv=>whnf); refine .inl ⟨_,_,byX rfl (a82),?_⟩
         conv=>whnf
         conv=>whnf
         (conv=>whnf); refine .inr (.inl ⟨[],?_⟩)
         conv=>whnf
         conv=>whnf
         (conv=>whnf); refine ⟨[],by kernel_rfl,?_⟩
         conv=>whnf
         conv=>whnf
         (conv=>whnf); refine ifB_dec (fun w3=>?_) (fun w3=>?_)
         ·conv => whnf
          conv=>whnf
          (conv=>whnf); refine ⟨inK64 (by omega) (by omega),?_⟩
          conv=>whnf
          conv=>whnf
          (conv=>whnf); refine ⟨⟨(by omega),(by omega)⟩,?_⟩
          conv=>whnf
          conv=>whnf
          (conv=>whnf); refine .inl ⟨_,_,byX rfl (Sound1.pl (c144 _ _ ?_ ?_) rfl),?_⟩
          ·(first | contradiction | exact hRk _ | exact hy1 | exact hy2 | exact hRk1 | omega)
          ·(first | contradiction | exact hRk _ | exact hy1 | exact hy2 | exact hRk1 | omega)
          ·conv=>whnf
           conv=>whnf
           (conv=>whnf); refine ifB_beq (fun w4=>?_) (fun w4=>?_)
           ·(exfalso; omega)
           ·conv=>whnf
            conv=>whnf
            (conv=>whnf); refine .inl ?_
            conv=>whnf
            conv=>whnf
            (conv=>whnf); refine ⟨(by show _ * (192 + 1) ≤ _; omega),?_⟩
            conv=>whnf
            conv=>whnf
            (conv=>whnf); refine ⟨inK64 (by omega) (by omega),?_⟩
            conv=>whnf
            conv=>whnf
            (conv=>whnf); refine ifB_dec (fun w5=>?_) (fun w5=>?_)
            ·conv=>whnf
             conv=>whnf
             (conv=>whnf); refine ⟨[(16,1000001),(0,1000002)],_,weakF 5 (fun i=>bgC (R1.getD i q0)) rfl hwk,by kernel_rfl,?_⟩
             conv=>whnf
             conv=>whnf
             (conv=>whnf); refine ⟨inK64 (by omega) (by omega),?_⟩
             conv=>whnf
             conv=>whnf
             (conv=>whnf); refine ⟨⟨(by omega),(by omega)⟩,?_⟩
             conv=>whnf
             conv=>whnf
             (conv=>whnf); refine .inl ⟨_,_,byX rfl (d88),?_⟩
             conv=>whnf
             conv=>whnf
             (conv=>whnf); refine ⟨⟨(by omega),(by omega)⟩,?_⟩
             conv=>whnf
             conv=>whnf
             (conv=>whnf); refine .inl ⟨_,_,byX rfl (b88),?_⟩
             conv=>whnf
             conv=>whnf
             (conv=>whnf); refine .inl ⟨_,_,byX rfl (b82),?_⟩
             conv=>whnf
             conv=>whnf
             (conv=>whnf); refine .inr (.inl ⟨[],?_⟩)
             conv=>whnf
             conv=>whnf
             (conv=>whnf); refine ⟨[],by kernel_rfl,?_⟩
             conv=>whnf
             conv=>whnf
             (conv=>whnf); refine ifB_dec (fun w6=>?_) (fun w6=>?_)
             ·conv=>whnf
              conv=>whnf
              (conv=>whnf); refine ⟨inK64 (by omega) (by omega),?_⟩
              conv=>whnf
              conv=>whnf
              (conv=>whnf); refine ⟨⟨(by omega),(by omega)⟩,?_⟩
              conv=>whnf
              conv=>whnf
              (conv=>whnf); refine .inl ⟨_,_,byX rfl (Sound1.pl (c144 _ _ (by omega) (by omega)) rfl),?_⟩
              conv=>whnf
              conv=>whnf
              (conv=>whnf); refine ifB_beq (fun w7=>?_) (fun w7=>?_)
              ·(exfalso; omega)
              ·conv=>whnf
               conv=>whnf
               (conv=>whnf); refine .inl ?_
               conv=>whnf
               conv=>whnf
               (conv=>whnf); refine ⟨(by show _ * (192 + 1) ≤ _; omega),?_⟩
               conv=>whnf
               conv=>whnf
               (conv=>whnf); refine ⟨inK64 (by omega) (by omega),?_⟩
               conv=>whnf
               conv=>whnf
               (conv=>whnf); refine ⟨_,_,⟨⟨k + 1,R1 ++ [y2],n + 1 + 1,_,_,by omega,hc2.symm,(by simp [hn1]),rfl,rfl⟩,by omega⟩,⟨⟨.inl rfl,rfl,rfl,rfl⟩,⟨⟨rfl,rfl,rfl,rfl,fun _=>rfl,fun _ _=>.inl rfl⟩,⟨⟨rfl,rfl,rfl,rfl,fun _=>rfl,fun _ _=>.inl rfl⟩,⟨⟨rfl,rfl,rfl,rfl,fun _=>rfl,fun _ _=>.inl rfl⟩,⟨⟨rfl,rfl,rfl,rfl,fun _=>rfl,fun _ _=>.inl rfl⟩,⟨⟨rfl,rfl,rfl,rfl,fun _=>rfl,fun _ _=>.inl rfl⟩,⟨⟨rfl,rfl,rfl,rfl,fun _=>rfl,fun j hj=>.inl (appG bgC (m := 12) (fun _=>rfl) q0 R1 _ (n + 1) j hn1 hj)⟩,trivial⟩⟩⟩⟩⟩⟩,trivial⟩⟩
             ·(exfalso; omega)
            ·(exfalso; omega)
         ·(exfalso; omega)
        ·(exfalso; omega)
       ·conv => whnf
        conv=>whnf
        (conv=>whnf); refine ifB_dec (fun w2=>?_) (fun w2=>?_)
        ·conv=>whnf
         conv=>whnf
         (conv=>whnf); refine ⟨[(15,1000001)],by kernel_rfl,?_⟩
         conv=>whnf
         conv=>whnf
         (conv=>whnf); refine ⟨⟨(by omega),(by omega)⟩,?_⟩
         conv=>whnf
         conv=>whnf
         (conv=>whnf); refine .inl ⟨_,_,byX rfl (a88),?_⟩
         conv=>whnf
         conv=>whnf
         (conv=>whnf); refine ⟨⟨(by omega),(by omega)⟩,?_⟩
         conv=>whnf
         conv=>whnf
         (conv=>whnf); refine .inl ⟨_,_,byX rfl (b88),?_⟩
         conv=>whnf
         conv=>whnf
         (conv=>whnf); refine .inl ⟨_,_,byX rfl (a82),?_⟩
         conv=>whnf
         conv=>whnf
         (conv=>whnf); refine .inr (.inl ⟨[],?_⟩)
         conv=>whnf
         conv=>whnf
         (conv=>whnf); refine ⟨[],by kernel_rfl,?_⟩
         conv=>whnf
         conv=>whnf
         (conv=>whnf); refine ifB_dec (fun w3=>?_) (fun w3=>?_)
         ·(exfalso; omega)
         ·conv=>whnf
          conv=>whnf
          (conv=>whnf); refine .inl ?_
          conv=>whnf
          conv=>whnf
          (conv=>whnf); refine ⟨(by show _ * (192 + 1) ≤ _; omega),?_⟩
          conv=>whnf
          conv=>whnf
          (conv=>whnf); refine ⟨inK64 (by omega) (by omega),?_⟩
          conv=>whnf
          conv=>whnf
          (conv=>whnf); refine ifB_dec (fun w4=>?_) (fun w4=>?_)
          ·conv=>whnf
           conv=>whnf
           (conv=>whnf); refine ⟨[(16,1000001),(0,1000002)],_,weakF 5 (fun i=>bgC (R1.getD i q0)) rfl hwk,by kernel_rfl,?_⟩
           conv=>whnf
           conv=>whnf
           (conv=>whnf); refine ⟨inK64 (by omega) (by omega),?_⟩
           conv=>whnf
           conv=>whnf
           (conv=>whnf); refine ⟨⟨(by omega),(by omega)⟩,?_⟩
           conv=>whnf
           conv=>whnf
           (conv=>whnf); refine .inl ⟨_,_,byX rfl (d88),?_⟩
           conv=>whnf
           conv=>whnf
           (conv=>whnf); refine ⟨⟨(by omega),(by omega)⟩,?_⟩
           conv=>whnf
           conv=>whnf
           (conv=>whnf); refine .inl ⟨_,_,byX rfl (b88),?_⟩
           conv=>whnf
           conv=>whnf
           (conv=>whnf); refine .inl ⟨_,_,byX rfl (b82),?_⟩
           conv=>whnf
           conv=>whnf
           (conv=>whnf); refine .inr (.inl ⟨[],?_⟩)
           conv=>whnf
           conv=>whnf
           (conv=>whnf); refine ⟨[],by kernel_rfl,?_⟩
           conv=>whnf
           conv=>whnf
           (conv=>whnf); refine ifB_dec (fun w5=>?_) (fun w5=>?_)
           ·conv=>whnf
            conv=>whnf
            (conv=>whnf); refine ⟨inK64 (by omega) (by omega),?_⟩
            conv=>whnf
            conv=>whnf
            (conv=>whnf); refine ⟨⟨(by omega),(by omega)⟩,?_⟩
            conv=>whnf
            conv=>whnf
            (conv=>whnf); refine .inl ⟨_,_,byX rfl (Sound1.pl (c144 _ _ (by omega) (by omega)) rfl),?_⟩
            conv=>whnf
            conv=>whnf
            (conv=>whnf); refine ifB_beq (fun w6=>?_) (fun w6=>?_)
            ·(exfalso; omega)
            ·conv=>whnf
             conv=>whnf
             (conv=>whnf); refine .inl ?_
             conv=>whnf
             conv=>whnf
             (conv=>whnf); refine ⟨(by show _ * (192 + 1) ≤ _; omega),?_⟩
             conv=>whnf
             conv=>whnf
             (conv=>whnf); refine ⟨inK64 (by omega) (by omega),?_⟩
             conv=>whnf
             conv=>whnf
             (conv=>whnf); refine ⟨_,_,⟨⟨k + 1,R1 ++ [y2],n + 1 + 1,_,_,by omega,hc2.symm,(by simp [hn1]),rfl,rfl⟩,by omega⟩,⟨⟨.inl rfl,rfl,rfl,rfl⟩,⟨⟨rfl,rfl,rfl,rfl,fun _=>rfl,fun _ _=>.inl rfl⟩,⟨⟨rfl,rfl,rfl,rfl,fun _=>rfl,fun _ _=>.inl rfl⟩,⟨⟨rfl,rfl,rfl,rfl,fun _=>rfl,fun _ _=>.inl rfl⟩,⟨⟨rfl,rfl,rfl,rfl,fun _=>rfl,fun _ _=>.inl rfl⟩,⟨⟨rfl,rfl,rfl,rfl,fun _=>rfl,fun _ _=>.inl rfl⟩,⟨⟨rfl,rfl,rfl,rfl,fun _=>rfl,fun j hj=>.inl (appG bgC (m := 12) (fun _=>rfl) q0 R1 _ (n + 1) j hn1 hj)⟩,trivial⟩⟩⟩⟩⟩⟩,trivial⟩⟩
           ·(exfalso; omega)
          ·(exfalso; omega)
        ·(exfalso; omega)
    ·have hR2 := rawQ_1 (B := crvB t f) (part := Rat.divInt (crvP t f) (crvD t f)) hlt3
     have hy1 : R3k 1 (mixQ (ptQ ((crvA t f).getD k p0)) (ptQ ((crvB t f).getD k p0)) (Rat.divInt (crvP t f) (crvD t f))) := rawQ_rk hT hO (k + 1) _ (by rw [hR2]; simp)
     have hc2 := congrArg compL hR2
     rw [compL_snoc,← hR] at hc2
     generalize hz1 : mixQ (ptQ ((crvA t f).getD k p0)) (ptQ ((crvB t f).getD k p0)) (Rat.divInt (crvP t f) (crvD t f)) = y1 at a82 hy1 hc2
     have c1 : ∀ i,i + 1 = n → SP 144 [bgA (R.getD i q0),bgA y1] (i64 (cmp3 (R.getD (n - 1) q0) y1)) false := fun i hi=>by
      have e : n - 1 = i := by omega
      rw [e]; exact S144 _ _ (hRk i) hy1 (by decide)
     have e1 := cmp3_zero (R.getD (n - 1) q0) y1
     generalize cmp3 (R.getD (n - 1) q0) y1 = z1 at *
     by_cases g1 : 0 < n ∧ z1 = 0
     ·have s1 : compS R y1 = R := compS_y (by omega) (by rw [hn]; exact e1.1 g1.2)
      rw [s1] at hc2
      conv=>whnf
      conv=>whnf
      (conv=>whnf); refine ifB_dec (fun w2=>?_) (fun w2=>?_)
      ·conv=>whnf
       conv=>whnf
       (conv=>whnf); refine ⟨[(15,1000001)],by kernel_rfl,?_⟩
       conv=>whnf
       conv=>whnf
       (conv=>whnf); refine ⟨⟨(by omega),(by omega)⟩,?_⟩
       conv=>whnf
       conv=>whnf
       (conv=>whnf); refine .inl ⟨_,_,byX rfl (a88),?_⟩
       conv=>whnf
       conv=>whnf
       (conv=>whnf); refine ⟨⟨(by omega),(by omega)⟩,?_⟩
       conv=>whnf
       conv=>whnf
       (conv=>whnf); refine .inl ⟨_,_,byX rfl (b88),?_⟩
       conv=>whnf
       conv=>whnf
       (conv=>whnf); refine .inl ⟨_,_,byX rfl (a82),?_⟩
       conv=>whnf
       conv=>whnf
       (conv=>whnf); refine .inr (.inl ⟨[],?_⟩)
       conv=>whnf
       conv=>whnf
       (conv=>whnf); refine ⟨[],by kernel_rfl,?_⟩
       conv=>whnf
       conv=>whnf
       (conv=>whnf); refine ifB_dec (fun w3=>?_) (fun w3=>?_)
       ·conv=>whnf
        conv=>whnf
        (conv=>whnf); refine ⟨inK64 (by omega) (by omega),?_⟩
        conv=>whnf
        conv=>whnf
        (conv=>whnf); refine ⟨⟨(by omega),(by omega)⟩,?_⟩
        conv=>whnf
        conv=>whnf
        (conv=>whnf); refine .inl ⟨_,_,byX rfl (Sound1.pl (c1 _ (by omega)) rfl),?_⟩
        conv=>whnf
        conv=>whnf
        (conv=>whnf); refine ifB_beq (fun w4=>?_) (fun w4=>?_)
        ·conv=>whnf
         conv=>whnf
         (conv=>whnf); refine ⟨inK64 (by omega) (by omega),?_⟩
         conv=>whnf
         conv=>whnf
         (conv=>whnf); refine ifB_dec (fun w5=>?_) (fun w5=>?_)
         ·(exfalso; omega)
         ·conv=>whnf
          conv=>whnf
          (conv=>whnf); refine ⟨inK64 (by omega) (by omega),?_⟩
          conv=>whnf
          conv=>whnf
          (conv=>whnf); refine ⟨_,_,⟨⟨k + 1,R,n,_,_,by omega,hc2.symm,hn,rfl,rfl⟩,by omega⟩,⟨⟨.inl rfl,rfl,rfl,rfl⟩,⟨⟨rfl,rfl,rfl,rfl,fun _=>rfl,fun _ _=>.inl rfl⟩,⟨⟨rfl,rfl,rfl,rfl,fun _=>rfl,fun _ _=>.inl rfl⟩,⟨⟨rfl,rfl,rfl,rfl,fun _=>rfl,fun _ _=>.inl rfl⟩,⟨⟨rfl,rfl,rfl,rfl,fun _=>rfl,fun _ _=>.inl rfl⟩,⟨⟨rfl,rfl,rfl,rfl,fun _=>rfl,fun _ _=>.inl rfl⟩,⟨⟨rfl,rfl,rfl,rfl,fun _=>rfl,fun _ _=>.inl rfl⟩,trivial⟩⟩⟩⟩⟩⟩,trivial⟩⟩
        ·(exfalso; omega)
       ·(exfalso; omega)
      ·(exfalso; omega)
     ·have s1 : compS R y1 = R ++ [y1] := compS_n (fun h0=>by rw [hn] at h0 ⊢; exact fun e=>g1 ⟨h0,e1.2 e⟩)
      rw [s1] at hc2
      conv=>whnf
      conv=>whnf
      (conv=>whnf); refine ifB_dec (fun w2=>?_) (fun w2=>?_)
      ·conv=>whnf
       conv=>whnf
       (conv=>whnf); refine ⟨[(15,1000001)],by kernel_rfl,?_⟩
       conv=>whnf
       conv=>whnf
       (conv=>whnf); refine ⟨⟨(by omega),(by omega)⟩,?_⟩
       conv=>whnf
       conv=>whnf
       (conv=>whnf); refine .inl ⟨_,_,byX rfl (a88),?_⟩
       conv=>whnf
       conv=>whnf
       (conv=>whnf); refine ⟨⟨(by omega),(by omega)⟩,?_⟩
       conv=>whnf
       conv=>whnf
       (conv=>whnf); refine .inl ⟨_,_,byX rfl (b88),?_⟩
       conv=>whnf
       conv=>whnf
       (conv=>whnf); refine .inl ⟨_,_,byX rfl (a82),?_⟩
       conv=>whnf
       conv=>whnf
       (conv=>whnf); refine .inr (.inl ⟨[],?_⟩)
       conv=>whnf
       conv=>whnf
       (conv=>whnf); refine ⟨[],by kernel_rfl,?_⟩
       conv=>whnf
       conv=>whnf
       (conv=>whnf); refine ifB_dec (fun w3=>?_) (fun w3=>?_)
       ·conv=>whnf
        conv=>whnf
        (conv=>whnf); refine ⟨inK64 (by omega) (by omega),?_⟩
        conv=>whnf
        conv=>whnf
        (conv=>whnf); refine ⟨⟨(by omega),(by omega)⟩,?_⟩
        conv=>whnf
        conv=>whnf
        (conv=>whnf); refine .inl ⟨_,_,byX rfl (Sound1.pl (c1 _ (by omega)) rfl),?_⟩
        conv=>whnf
        conv=>whnf
        (conv=>whnf); refine ifB_beq (fun w4=>?_) (fun w4=>?_)
        ·(exfalso; omega)
        ·conv=>whnf
         conv=>whnf
         (conv=>whnf); refine .inl ?_
         conv=>whnf
         conv=>whnf
         (conv=>whnf); refine ⟨(by show _ * (192 + 1) ≤ _; omega),?_⟩
         conv=>whnf
         conv=>whnf
         (conv=>whnf); refine ⟨inK64 (by omega) (by omega),?_⟩
         conv=>whnf
         conv=>whnf
         (conv=>whnf); refine ifB_dec (fun w5=>?_) (fun w5=>?_)
         ·(exfalso; omega)
         ·conv=>whnf
          conv=>whnf
          (conv=>whnf); refine ⟨inK64 (by omega) (by omega),?_⟩
          conv=>whnf
          conv=>whnf
          (conv=>whnf); refine ⟨_,_,⟨⟨k + 1,R ++ [y1],n + 1,_,_,by omega,hc2.symm,(by simp [hn]),rfl,rfl⟩,by omega⟩,⟨⟨.inl rfl,rfl,rfl,rfl⟩,⟨⟨rfl,rfl,rfl,rfl,fun _=>rfl,fun _ _=>.inl rfl⟩,⟨⟨rfl,rfl,rfl,rfl,fun _=>rfl,fun _ _=>.inl rfl⟩,⟨⟨rfl,rfl,rfl,rfl,fun _=>rfl,fun _ _=>.inl rfl⟩,⟨⟨rfl,rfl,rfl,rfl,fun _=>rfl,fun _ _=>.inl rfl⟩,⟨⟨rfl,rfl,rfl,rfl,fun _=>rfl,fun _ _=>.inl rfl⟩,⟨⟨rfl,rfl,rfl,rfl,fun _=>rfl,fun j hj=>.inl (appG bgC (m := 12) (fun _=>rfl) q0 R _ n j hn hj)⟩,trivial⟩⟩⟩⟩⟩⟩,trivial⟩⟩
       ·conv=>whnf
        conv=>whnf
        (conv=>whnf); refine .inl ?_
        conv=>whnf
        conv=>whnf
        (conv=>whnf); refine ⟨(by show _ * (192 + 1) ≤ _; omega),?_⟩
        conv=>whnf
        conv=>whnf
        (conv=>whnf); refine ⟨inK64 (by omega) (by omega),?_⟩
        conv=>whnf
        conv=>whnf
        (conv=>whnf); refine ifB_dec (fun w4=>?_) (fun w4=>?_)
        ·(exfalso; omega)
        ·conv=>whnf
         conv=>whnf
         (conv=>whnf); refine ⟨inK64 (by omega) (by omega),?_⟩
         conv=>whnf
         conv=>whnf
         (conv=>whnf); refine ⟨_,_,⟨⟨k + 1,R ++ [y1],n + 1,_,_,by omega,hc2.symm,(by simp [hn]),rfl,rfl⟩,by omega⟩,⟨⟨.inl rfl,rfl,rfl,rfl⟩,⟨⟨rfl,rfl,rfl,rfl,fun _=>rfl,fun _ _=>.inl rfl⟩,⟨⟨rfl,rfl,rfl,rfl,fun _=>rfl,fun _ _=>.inl rfl⟩,⟨⟨rfl,rfl,rfl,rfl,fun _=>rfl,fun _ _=>.inl rfl⟩,⟨⟨rfl,rfl,rfl,rfl,fun _=>rfl,fun _ _=>.inl rfl⟩,⟨⟨rfl,rfl,rfl,rfl,fun _=>rfl,fun _ _=>.inl rfl⟩,⟨⟨rfl,rfl,rfl,rfl,fun _=>rfl,fun j hj=>.inl (appG bgC (m := 12) (fun _=>rfl) q0 R _ n j hn hj)⟩,trivial⟩⟩⟩⟩⟩⟩,trivial⟩⟩
      ·(exfalso; omega)
   ·obtain rfl : k = (crvA t f).length := by omega
    have hR : R = crvQ t f := hR
    rw [← hR]
    conv=>whnf
    conv=>whnf
    (conv=>whnf); refine ifB_dec (fun w2=>?_) (fun w2=>?_)
    ·(exfalso; omega)
    ·conv=>whnf
     conv=>whnf
     (conv=>whnf); refine ⟨?_,nofun⟩
     exact ⟨rfl,hn.symm,fun _ _=>rfl⟩
end Go.Tr

/- Contracts of chapter 5: the reference's best point. Conditions: none. -/
-- seat YtgbdlkajmmjahaaGreat
namespace Go.Tr
open Go Go.Proofs
set_option maxRecDepth 20000
set_option maxHeartbeats 8000000

theorem ave_ga {k : Nat} {p : Int × Int} : AVE (k + 2) (gaF p) (gaF p) := ave_aggR (by simp [AV.atom])
theorem S73 (x : Int) : SP 73 [i64 x] (gaF (x,1)) false := by
 refine sound (d := 2) tok2 mixed2 Tryz.func73 (by kernel_rfl) (by kernel_rfl) ?_
 (conv=>whnf); refine ⟨?_,nofun⟩
 (first | contradiction | exact ave_ga (p := (x,1)))
def sq3 (o : Option (Int × Q3)) : (Int × Int) × (Int × Int) × Int × Int := match o with | none=>((0,0),(0,0),0,0) | some b=>((b.2.1.num,(b.2.1.den : Nat)),(b.2.2.1.num,(b.2.2.1.den : Nat)),b.2.2.2.num,(b.2.2.2.den : Nat))
def opO (o : Option (Int × Q3)) : Int := match o with | none=>0 | some b=>b.1
abbrev bgO (o : Option (Int × Q3)) : List AV := [i64 (sgI (sq3 o).1.1),ints (digs (sq3 o).1.1.natAbs),i64 (sgI (sq3 o).1.2),ints (digs (sq3 o).1.2.natAbs),
  i64 (sgI (sq3 o).2.1.1),ints (digs (sq3 o).2.1.1.natAbs),i64 (sgI (sq3 o).2.1.2),ints (digs (sq3 o).2.1.2.natAbs),
  i64 (sgI (sq3 o).2.2.1),ints (digs (sq3 o).2.2.1.natAbs),i64 (sgI (sq3 o).2.2.2),ints (digs (sq3 o).2.2.2.natAbs)]
theorem row_z3 : RowLe true [i64 0,.eslice,i64 0,.eslice,i64 0,.eslice,i64 0,.eslice,i64 0,.eslice,i64 0,.eslice] (bgO none) := by
 refine ⟨rfl,rfl,fun j x y hx hy=>?_⟩
 match j,hx,hy with
 | 0,hx,hy=>cases hx; cases hy; exact .inl rfl
 | 1,hx,hy=>cases hx; cases hy; exact .inr digs0_len
 | 2,hx,hy=>cases hx; cases hy; exact .inl rfl
 | 3,hx,hy=>cases hx; cases hy; exact .inr digs0_len
 | 4,hx,hy=>cases hx; cases hy; exact .inl rfl
 | 5,hx,hy=>cases hx; cases hy; exact .inr digs0_len
 | 6,hx,hy=>cases hx; cases hy; exact .inl rfl
 | 7,hx,hy=>cases hx; cases hy; exact .inr digs0_len
 | 8,hx,hy=>cases hx; cases hy; exact .inl rfl
 | 9,hx,hy=>cases hx; cases hy; exact .inr digs0_len
 | 10,hx,hy=>cases hx; cases hy; exact .inl rfl
 | 11,hx,hy=>cases hx; cases hy; exact .inr digs0_len
def OkU (h : Int) (o : Option (Int × Q3)) : Prop := ∀ b,o = some b → R3k 2 b.2 ∧ 0 < b.2.2.1 ∧ b.2.1 = (h : Rat)
theorem spL_at {t : List MRow} (hT : TblOk t) {i : Nat} (hi : i < t.length) {h : Int} (hs : szE h = 0) : (spL (ptsQ t i) (hdL h)).length ≤ 24 ∧ ∀ k,k < (spL (ptsQ t i) (hdL h)).length → R3k 2 ((spL (ptsQ t i) (hdL h)).getD k q0) ∧ ((spL (ptsQ t i) (hdL h)).getD k q0).1 = (h : Rat) := by
 have hq := crvQ_ok hT (op_row hT hi) (hdL_ok hs)
 rw [crvQ_row hT hi] at hq
 refine ⟨spL_len hq.len,fun k hk=>?_⟩
 have hm := (putAll_mem _ _).1 (getD_memG (d := q0) hk)
 exact ⟨hq.on _ (Nat.le_refl _) _ hm,hdL_side (on_side _ _ hm)⟩
theorem eff_cmp {h : Int} (hh : 1 ≤ h) {s b : Q3} (hs : s.1 = (h : Rat)) (hb : b.1 = (h : Rat)) : 0 < cmpR (s.2.2 / (s.1 * s.2.1)) (b.2.2 / (b.1 * b.2.1)) ↔ efQ b < efQ s := by
 have h0 : (0 : Rat) < (h : Rat) := by
  have := Rat.intCast_lt_intCast.2 (show (0 : Int) < h by omega)
  simpa using this
 have hi : (0 : Rat) < (h : Rat)⁻¹ := Rat.inv_pos.2 h0
 have e : ∀ p q : Rat,p / ((h : Rat) * q) = p / q * (h : Rat)⁻¹ := fun p q=>by rw [Rat.div_def,Rat.div_def,Rat.inv_mul_rev]; grind
 rw [cmpR_pos,hs,hb,e,e]
 unfold efQ
 exact ⟨fun g=>Rat.lt_of_mul_lt_mul_right g (Rat.le_of_lt hi),fun g=>Rat.mul_lt_mul_of_pos_right g hi⟩
theorem stQ_no {f x : Int} {o : Option (Int × Q3)} {s : Q3} (h : ¬ okQ f s) : stQ f x o s = o := if_neg fun g=>h g.1
theorem stQ_new {f x : Int} {s : Q3} (h : okQ f s) : stQ f x none s = some (x,s) := if_pos ⟨h,rfl⟩
theorem stQ_up {f x : Int} {b : Int × Q3} {s : Q3} (h : okQ f s) (g : efQ b.2 < efQ s) : stQ f x (some b) s = some (x,s) := if_pos ⟨h,decide_eq_true g⟩
theorem stQ_eq {f x : Int} {b : Int × Q3} {s : Q3} (g : ¬ efQ b.2 < efQ s) : stQ f x (some b) s = some b := if_neg fun e=>g (of_decide_eq_true e.2)
theorem ne_prod {h : Int} (hh : 1 ≤ h) {s : Q3} (hs : s.1 = (h : Rat)) (hq : 0 < s.2.1) : s.1 * s.2.1 ≠ 0 := by
 have h0 : (0 : Rat) < (h : Rat) := by
  have := Rat.intCast_lt_intCast.2 (show (0 : Int) < h by omega)
  simpa using this
 rw [hs]
 intro e
 have := Rat.mul_pos h0 hq
 rw [e] at this
 exact rlt_irr _ this
set_option maxHeartbeats 16000000 in
theorem S42 (t : List MRow) (ht : Fit t) (hT : TblOk t) (h f : Int) (hh : 1 ≤ h ∧ h ≤ 1000) (hf : 1 ≤ f ∧ f ≤ 10000) : SP 42 [tblA t, i64 h, i64 f] (.tuple [i64 (opO (bsT h f t t.length)), .agg (bgO (bsT h f t t.length)), vb (bsT h f t t.length).isSome]) false := by
 have hn := hT.n
 have hs : szE h = 0 := szE_of hh.1 hh.2
 have hl := hdL_ok hs
 obtain ⟨M,hM⟩ : ∃ M,M = bsT h f t t.length := ⟨_,rfl⟩
 rw [← hM]
 refine sound (d := 2) tok2 mixed2 Tryz.func42 (by kernel_rfl) (by kernel_rfl) ?_
 (conv=>whnf); refine ⟨[],[12,11,10,9,7,3,1,2],fun st mq=>∃ (i : Nat) (o : Option (Int × Q3)),(i ≤ t.length) ∧ (o = bsT h f t i) ∧ (OkU h o) ∧ st = ⟨[(12,i64 i),(11,vb o.isSome),(10,.optr 2 0 0 0),(9,i64 (opO o)),(7,.optr 1 0 0 0),(3,.optr 0 0 0 0),(1,i64 h),(2,i64 f)],⟨[⟨1,1,fun _=>[rowsA t],0,false,true,true⟩,⟨12,1,fun _=>[i64 0,.eslice,i64 0,.eslice,i64 0,.eslice,i64 0,.eslice,i64 0,.eslice,i64 0,.eslice],0,false,true,true⟩,⟨12,1,fun _=>bgO o,0,false,true,true⟩],[],none,0⟩,[]⟩ ∧ mq = t.length - i,
  ⟨_,_,⟨0,none,by omega,rfl,nofun,rfl,rfl⟩,⟨⟨.inl rfl,rfl,rfl,rfl⟩,⟨⟨rfl,rfl,rfl,rfl,fun _=>rfl,fun _ _=>.inl rfl⟩,⟨⟨rfl,rfl,rfl,rfl,fun _=>rfl,fun _ _=>.inl rfl⟩,⟨⟨rfl,rfl,rfl,rfl,fun _=>rfl,fun _ _=>.inr (row_z3)⟩,trivial⟩⟩⟩,trivial⟩⟩,?_⟩
 rintro s0 m0 ⟨i,o,hi,ho,hu,rfl,hmeas⟩
 by_cases hlt : i < t.length
 ·have hO := op_row hT hlt
  have c22 := S22 t ht hT _ hO
  have c21 := S21 (crvQ t ((t.getD i r0).o,1)) (hdL h) (crvQ_ok hT hO hl) hl
  have c31 := S31 h
  have c73 := S73 (t.getD i r0).o
  rw [crvQ_row hT hlt] at c22 c21
  obtain ⟨hSl,hSp⟩ := spL_at hT hlt hs
  have hbs : bsT h f t (i + 1) = rwQ f (t.getD i r0).o (bsT h f t i) (spL (ptsQ t i) (hdL h)) := rfl
  rw [← ho] at hbs
  generalize spL (ptsQ t i) (hdL h) = S at *
  conv=>whnf
  (conv=>whnf); refine ifB_dec (fun w1=>?_) (fun w1=>?_)
  ·conv => whnf
   (conv=>whnf); refine ⟨[],by kernel_rfl,?_⟩
   conv=>whnf
   (conv=>whnf); refine ⟨⟨(by omega),(by omega)⟩,?_⟩
   conv=>whnf
   (conv=>whnf); refine .inl ⟨_,_,byX rfl (Sound1.pl (c73) rfl),?_⟩
   conv=>whnf
   (conv=>whnf); refine .inl ⟨_,_,byX rfl (c22),?_⟩
   conv=>whnf
   (conv=>whnf); refine .inl ⟨_,_,byX rfl (Sound1.pl (c31) rfl),?_⟩
   conv=>whnf
   (conv=>whnf); refine .inl ⟨_,_,byX rfl (c21),?_⟩
   conv=>whnf
   (conv=>whnf); refine ⟨[],[14,13,12,11,10,9,7,3,1,2],fun st mq=>∃ (k : Nat) (u : Option (Int × Q3)),(k ≤ S.length) ∧ (u = rwQ f (t.getD i r0).o o (S.take k)) ∧ (OkU h u) ∧ st = ⟨[(14,i64 k),(13,bgs S),(12,i64 i),(11,vb u.isSome),(10,.optr 2 0 0 0),(9,i64 (opO u)),(7,.optr 1 0 0 0),(3,.optr 0 0 0 0),(1,i64 h),(2,i64 f)],⟨[⟨1,1,fun _=>[rowsA t],0,false,true,true⟩,⟨12,1,fun _=>[i64 0,.eslice,i64 0,.eslice,i64 0,.eslice,i64 0,.eslice,i64 0,.eslice,i64 0,.eslice],0,false,true,true⟩,⟨12,1,fun _=>bgO u,0,false,true,true⟩],[],none,0⟩,[]⟩ ∧ mq = S.length - k,
    ⟨_,_,⟨0,o,by omega,rfl,hu,rfl,rfl⟩,⟨⟨.inl rfl,rfl,rfl,rfl⟩,⟨⟨rfl,rfl,rfl,rfl,fun _=>rfl,fun _ _=>.inl rfl⟩,⟨⟨rfl,rfl,rfl,rfl,fun _=>rfl,fun _ _=>.inl rfl⟩,⟨⟨rfl,rfl,rfl,rfl,fun _=>rfl,fun _ _=>.inl rfl⟩,trivial⟩⟩⟩,trivial⟩⟩,?_⟩
   rintro s0 m0 ⟨k,u,hk,hw,huu,rfl,hmeas⟩
   by_cases hlk : k < S.length
   ·obtain ⟨hrk, hhd⟩ := hSp k hlk
    have hst : rwQ f (t.getD i r0).o o (S.take (k + 1)) = stQ f (t.getD i r0).o u (S.getD k q0) := by rw [rwQ_take hlk,← hw]
    have c48 := S48 (S.getD k q0).2.1
    have c86 := S86 f (by omega)
    have c109 := S109 (S.getD k q0).2.2 (f : Rat) hrk.2.2 (k := 2) (l := 1) ⟨by rw [Rat.num_intCast]; exact digs_len 1 _ (Nat.lt_of_le_of_lt (show _ ≤ 10000 by omega) (by decide)),by rw [Rat.den_intCast]; exact digs_len 1 _ (by decide)⟩ (by decide)
    have e1 := sgR_cases (S.getD k q0).2.1
    by_cases g1 : 0 < (S.getD k q0).2.1
    ·have e2 : sgR (S.getD k q0).2.1 = 1 := by
      rcases e1 with ⟨a,b⟩ | ⟨a,b⟩ | ⟨a,b⟩
      ·exact absurd (rlt_tr a g1) (rlt_irr _)
      ·rw [a] at g1; exact absurd g1 (rlt_irr _)
      ·exact b
     rw [e2] at c48
     have e3 := cmpR_neg (S.getD k q0).2.2 (f : Rat)
     by_cases g2 : (f : Rat) ≤ (S.getD k q0).2.2
     ·have hok : okQ f (S.getD k q0) := ⟨g1, g2⟩
      have g3 : ¬ cmpR (S.getD k q0).2.2 (f : Rat) < 0 := fun e=>Rat.not_lt.2 g2 (e3.1 e)
      have hnew : OkU h (some ((t.getD i r0).o,S.getD k q0)) := fun b hb=>by cases hb; exact ⟨hrk,g1,hhd⟩
      cases u with
      | none =>
       have e4 := hst.trans (stQ_new hok)
       conv=>whnf
       conv=>whnf
       (conv=>whnf); refine ifB_dec (fun w2=>?_) (fun w2=>?_)
       ·conv=>whnf
        conv=>whnf
        (conv=>whnf); refine ⟨[],by kernel_rfl,?_⟩
        conv=>whnf
        conv=>whnf
        (conv=>whnf); refine ⟨⟨(by omega),(by omega)⟩,?_⟩
        conv=>whnf
        conv=>whnf
        (conv=>whnf); refine .inl ⟨_,_,byX rfl (Sound1.pl (c48) rfl),?_⟩
        conv=>whnf
        conv=>whnf
        (conv=>whnf); refine ⟨⟨(by omega),(by omega)⟩,?_⟩
        conv=>whnf
        conv=>whnf
        (conv=>whnf); refine .inl ⟨_,_,byX rfl (c86),?_⟩
        conv=>whnf
        conv=>whnf
        (conv=>whnf); refine .inl ⟨_,_,byX rfl (Sound1.pl (c109) rfl),?_⟩
        conv=>whnf
        conv=>whnf
        (conv=>whnf); refine ifB_dec (fun w3=>?_) (fun w3=>?_)
        ·(exfalso; omega)
        ·conv=>whnf
         conv=>whnf
         (conv=>whnf); refine ⟨[],by kernel_rfl,?_⟩
         conv=>whnf
         conv=>whnf
         (conv=>whnf); refine ⟨[],by kernel_rfl,?_⟩
         conv=>whnf
         conv=>whnf
         (conv=>whnf); refine ⟨⟨(by omega),(by omega)⟩,?_⟩
         conv=>whnf
         conv=>whnf
         (conv=>whnf); refine ⟨⟨(by omega),(by omega)⟩,?_⟩
         conv=>whnf
         conv=>whnf
         (conv=>whnf); refine ⟨inK64 (by omega) (by omega),?_⟩
         conv=>whnf
         conv=>whnf
         (conv=>whnf); refine ⟨_,_,⟨⟨k + 1,some ((t.getD i r0).o,S.getD k q0),by omega,e4.symm,hnew,rfl,rfl⟩,by omega⟩,⟨⟨.inl rfl,rfl,rfl,rfl⟩,⟨⟨rfl,rfl,rfl,rfl,fun _=>rfl,fun _ _=>.inl rfl⟩,⟨⟨rfl,rfl,rfl,rfl,fun _=>rfl,fun _ _=>.inl rfl⟩,⟨⟨rfl,rfl,rfl,rfl,fun _=>rfl,fun _ _=>.inl rfl⟩,trivial⟩⟩⟩,trivial⟩⟩
       ·(exfalso; omega)
      | some b =>
       obtain ⟨hb1,hb2,hb3⟩ := huu b rfl
       have c59a := S59 (S.getD k q0) hrk.1 hrk.2.1 hrk.2.2 (by decide) (ne_prod hh.1 hhd g1)
       have c59b := S59 b.2 hb1.1 hb1.2.1 hb1.2.2 (by decide) (ne_prod hh.1 hb3 hb2)
       have c109b := S109 _ _ (hrk.2.2.div (hrk.1.mul hrk.2.1) (ne_prod hh.1 hhd g1)) (hb1.2.2.div (hb1.1.mul hb1.2.1) (ne_prod hh.1 hb3 hb2)) (by decide)
       have ec := eff_cmp hh.1 hhd hb3
       by_cases g4 : 0 < cmpR ((S.getD k q0).2.2 / ((S.getD k q0).1 * (S.getD k q0).2.1)) (b.2.2.2 / (b.2.1 * b.2.2.1))
       ·have e4 := hst.trans (stQ_up hok (ec.1 g4))
        conv=>whnf
        conv=>whnf
        (conv=>whnf); refine ifB_dec (fun w2=>?_) (fun w2=>?_)
        ·conv=>whnf
         conv=>whnf
         (conv=>whnf); refine ⟨[],by kernel_rfl,?_⟩
         conv=>whnf
         conv=>whnf
         (conv=>whnf); refine ⟨⟨(by omega),(by omega)⟩,?_⟩
         conv=>whnf
         conv=>whnf
         (conv=>whnf); refine .inl ⟨_,_,byX rfl (Sound1.pl (c48) rfl),?_⟩
         conv=>whnf
         conv=>whnf
         (conv=>whnf); refine ⟨⟨(by omega),(by omega)⟩,?_⟩
         conv=>whnf
         conv=>whnf
         (conv=>whnf); refine .inl ⟨_,_,byX rfl (c86),?_⟩
         conv=>whnf
         conv=>whnf
         (conv=>whnf); refine .inl ⟨_,_,byX rfl (Sound1.pl (c109) rfl),?_⟩
         conv=>whnf
         conv=>whnf
         (conv=>whnf); refine ifB_dec (fun w3=>?_) (fun w3=>?_)
         ·(exfalso; omega)
         ·conv=>whnf
          conv=>whnf
          (conv=>whnf); refine ⟨[],by kernel_rfl,?_⟩
          conv=>whnf
          conv=>whnf
          (conv=>whnf); refine ⟨⟨(by omega),(by omega)⟩,?_⟩
          conv=>whnf
          conv=>whnf
          (conv=>whnf); refine .inl ⟨_,_,byX rfl (c59a),?_⟩
          conv=>whnf
          conv=>whnf
          (conv=>whnf); refine .inl ⟨_,_,byX rfl (c59b),?_⟩
          conv=>whnf
          conv=>whnf
          (conv=>whnf); refine .inl ⟨_,_,byX rfl (Sound1.pl (c109b) rfl),?_⟩
          conv=>whnf
          conv=>whnf
          (conv=>whnf); refine ifB_dec (fun w4=>?_) (fun w4=>?_)
          ·conv=>whnf
           conv=>whnf
           (conv=>whnf); refine ⟨[],by kernel_rfl,?_⟩
           conv=>whnf
           conv=>whnf
           (conv=>whnf); refine ⟨⟨(by omega),(by omega)⟩,?_⟩
           conv=>whnf
           conv=>whnf
           (conv=>whnf); refine ⟨⟨(by omega),(by omega)⟩,?_⟩
           conv=>whnf
           conv=>whnf
           (conv=>whnf); refine ⟨inK64 (by omega) (by omega),?_⟩
           conv=>whnf
           conv=>whnf
           (conv=>whnf); refine ⟨_,_,⟨⟨k + 1,some ((t.getD i r0).o,S.getD k q0),by omega,e4.symm,hnew,rfl,rfl⟩,by omega⟩,⟨⟨.inl rfl,rfl,rfl,rfl⟩,⟨⟨rfl,rfl,rfl,rfl,fun _=>rfl,fun _ _=>.inl rfl⟩,⟨⟨rfl,rfl,rfl,rfl,fun _=>rfl,fun _ _=>.inl rfl⟩,⟨⟨rfl,rfl,rfl,rfl,fun _=>rfl,fun _ _=>.inl rfl⟩,trivial⟩⟩⟩,trivial⟩⟩
          ·(exfalso; omega)
        ·(exfalso; omega)
       ·have e4 := hst.trans (stQ_eq fun e=>g4 (ec.2 e))
        conv=>whnf
        conv=>whnf
        (conv=>whnf); refine ifB_dec (fun w2=>?_) (fun w2=>?_)
        ·conv=>whnf
         conv=>whnf
         (conv=>whnf); refine ⟨[],by kernel_rfl,?_⟩
         conv=>whnf
         conv=>whnf
         (conv=>whnf); refine ⟨⟨(by omega),(by omega)⟩,?_⟩
         conv=>whnf
         conv=>whnf
         (conv=>whnf); refine .inl ⟨_,_,byX rfl (Sound1.pl (c48) rfl),?_⟩
         conv=>whnf
         conv=>whnf
         (conv=>whnf); refine ⟨⟨(by omega),(by omega)⟩,?_⟩
         conv=>whnf
         conv=>whnf
         (conv=>whnf); refine .inl ⟨_,_,byX rfl (c86),?_⟩
         conv=>whnf
         conv=>whnf
         (conv=>whnf); refine .inl ⟨_,_,byX rfl (Sound1.pl (c109) rfl),?_⟩
         conv=>whnf
         conv=>whnf
         (conv=>whnf); refine ifB_dec (fun w3=>?_) (fun w3=>?_)
         ·(exfalso; omega)
         ·conv=>whnf
          conv=>whnf
          (conv=>whnf); refine ⟨[],by kernel_rfl,?_⟩
          conv=>whnf
          conv=>whnf
          (conv=>whnf); refine ⟨⟨(by omega),(by omega)⟩,?_⟩
          conv=>whnf
          conv=>whnf
          (conv=>whnf); refine .inl ⟨_,_,byX rfl (c59a),?_⟩
          conv=>whnf
          conv=>whnf
          (conv=>whnf); refine .inl ⟨_,_,byX rfl (c59b),?_⟩
          conv=>whnf
          conv=>whnf
          (conv=>whnf); refine .inl ⟨_,_,byX rfl (Sound1.pl (c109b) rfl),?_⟩
          conv=>whnf
          conv=>whnf
          (conv=>whnf); refine ifB_dec (fun w4=>?_) (fun w4=>?_)
          ·(exfalso; omega)
          ·conv=>whnf
           conv=>whnf
           (conv=>whnf); refine ⟨inK64 (by omega) (by omega),?_⟩
           conv=>whnf
           conv=>whnf
           (conv=>whnf); refine ⟨_,_,⟨⟨k + 1,some b,by omega,e4.symm,huu,rfl,rfl⟩,by omega⟩,⟨⟨.inl rfl,rfl,rfl,rfl⟩,⟨⟨rfl,rfl,rfl,rfl,fun _=>rfl,fun _ _=>.inl rfl⟩,⟨⟨rfl,rfl,rfl,rfl,fun _=>rfl,fun _ _=>.inl rfl⟩,⟨⟨rfl,rfl,rfl,rfl,fun _=>rfl,fun _ _=>.inl rfl⟩,trivial⟩⟩⟩,trivial⟩⟩
        ·(exfalso; omega)
     ·have g3 : cmpR (S.getD k q0).2.2 (f : Rat) < 0 := e3.2 (Rat.not_le.1 g2)
      have e4 := hst.trans (stQ_no fun e=>g2 e.2)
      conv=>whnf
      conv=>whnf
      (conv=>whnf); refine ifB_dec (fun w2=>?_) (fun w2=>?_)
      ·conv=>whnf
       conv=>whnf
       (conv=>whnf); refine ⟨[],by kernel_rfl,?_⟩
       conv=>whnf
       conv=>whnf
       (conv=>whnf); refine ⟨⟨(by omega),(by omega)⟩,?_⟩
       conv=>whnf
       conv=>whnf
       (conv=>whnf); refine .inl ⟨_,_,byX rfl (Sound1.pl (c48) rfl),?_⟩
       conv=>whnf
       conv=>whnf
       (conv=>whnf); refine ⟨⟨(by omega),(by omega)⟩,?_⟩
       conv=>whnf
       conv=>whnf
       (conv=>whnf); refine .inl ⟨_,_,byX rfl (c86),?_⟩
       conv=>whnf
       conv=>whnf
       (conv=>whnf); refine .inl ⟨_,_,byX rfl (Sound1.pl (c109) rfl),?_⟩
       conv=>whnf
       conv=>whnf
       (conv=>whnf); refine ifB_dec (fun w3=>?_) (fun w3=>?_)
       ·conv=>whnf
        conv=>whnf
        (conv=>whnf); refine ⟨inK64 (by omega) (by omega),?_⟩
        conv=>whnf
        conv=>whnf
        (conv=>whnf); refine ⟨_,_,⟨⟨k + 1,u,by omega,e4.symm,huu,rfl,rfl⟩,by omega⟩,⟨⟨.inl rfl,rfl,rfl,rfl⟩,⟨⟨rfl,rfl,rfl,rfl,fun _=>rfl,fun _ _=>.inl rfl⟩,⟨⟨rfl,rfl,rfl,rfl,fun _=>rfl,fun _ _=>.inl rfl⟩,⟨⟨rfl,rfl,rfl,rfl,fun _=>rfl,fun _ _=>.inl rfl⟩,trivial⟩⟩⟩,trivial⟩⟩
       ·(exfalso; omega)
      ·(exfalso; omega)
    ·have e2 : sgR (S.getD k q0).2.1 ≤ 0 := by
      rcases e1 with ⟨a,b⟩ | ⟨a,b⟩ | ⟨a,b⟩
      ·omega
      ·omega
      ·exact absurd a g1
     have e4 := hst.trans (stQ_no fun e=>g1 e.1)
     conv=>whnf
     conv=>whnf
     (conv=>whnf); refine ifB_dec (fun w2=>?_) (fun w2=>?_)
     ·conv=>whnf
      conv=>whnf
      (conv=>whnf); refine ⟨[],by kernel_rfl,?_⟩
      conv=>whnf
      conv=>whnf
      (conv=>whnf); refine ⟨⟨(by omega),(by omega)⟩,?_⟩
      conv=>whnf
      conv=>whnf
      (conv=>whnf); refine .inl ⟨_,_,byX rfl (Sound1.pl (c48) rfl),?_⟩
      conv=>whnf
      conv=>whnf
      (conv=>whnf); refine ifB_dec (fun w3=>?_) (fun w3=>?_)
      ·conv=>whnf
       conv=>whnf
       (conv=>whnf); refine ⟨inK64 (by omega) (by omega),?_⟩
       conv=>whnf
       conv=>whnf
       (conv=>whnf); refine ⟨_,_,⟨⟨k + 1,u,by omega,e4.symm,huu,rfl,rfl⟩,by omega⟩,⟨⟨.inl rfl,rfl,rfl,rfl⟩,⟨⟨rfl,rfl,rfl,rfl,fun _=>rfl,fun _ _=>.inl rfl⟩,⟨⟨rfl,rfl,rfl,rfl,fun _=>rfl,fun _ _=>.inl rfl⟩,⟨⟨rfl,rfl,rfl,rfl,fun _=>rfl,fun _ _=>.inl rfl⟩,trivial⟩⟩⟩,trivial⟩⟩
      ·(exfalso; omega)
     ·(exfalso; omega)
   ·rw [List.take_of_length_le (by omega),← hbs] at hw
    conv=>whnf
    conv=>whnf
    (conv=>whnf); refine ifB_dec (fun w2=>?_) (fun w2=>?_)
    ·(exfalso; omega)
    ·conv=>whnf
     conv=>whnf
     (conv=>whnf); refine ⟨inK64 (by omega) (by omega),?_⟩
     conv=>whnf
     conv=>whnf
     (conv=>whnf); refine ⟨_,_,⟨⟨i + 1,u,by omega,hw,huu,rfl,rfl⟩,by omega⟩,⟨⟨.inl rfl,rfl,rfl,rfl⟩,⟨⟨rfl,rfl,rfl,rfl,fun _=>rfl,fun _ _=>.inl rfl⟩,⟨⟨rfl,rfl,rfl,rfl,fun _=>rfl,fun _ _=>.inl rfl⟩,⟨⟨rfl,rfl,rfl,rfl,fun _=>rfl,fun _ _=>.inl rfl⟩,trivial⟩⟩⟩,trivial⟩⟩
  ·(exfalso; omega)
 ·have e : o = M := by rw [ho,hM,show i = t.length by omega]
  subst e
  conv=>whnf
  (conv=>whnf); refine ifB_dec (fun w1=>?_) (fun w1=>?_)
  ·(exfalso; omega)
  ·conv=>whnf
   (conv=>whnf); refine ⟨[],by kernel_rfl,?_⟩
   conv=>whnf
   (conv=>whnf); refine ⟨?_,nofun⟩
   exact ave_tup3 rfl (ave_aggR (l := bgO o) (by simp [AV.atom,ints])) rfl
end Go.Tr

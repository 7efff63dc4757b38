/- Contracts of chapter 5: the reference's check of a table. Conditions: none. -/
import Derived.Test.YtnphjhgmoijbfaaGreatDoorTr08
import Derived.Lib.ItoaNum
import Derived.Lib.AtoiTie
import Derived.Lib.Strings
import Derived.Test.YtnphjhgmoijbfaaGreatDoorTr06
import Derived.Shelf.Strconv.Itoa3
import Derived.Shelf.Strconv.AtoiAll
import Derived.Shelf.Strings.Split
import Derived.Shelf.Strings.Search3
import Derived.Shelf.Strings.Prefix
import Derived.Shelf.Strings.OnBuilder
set_option linter.unusedSectionVars false
set_option linter.unnecessarySimpa false
set_option linter.unusedVariables false
set_option linter.unusedSimpArgs false

-- seat YtnphjhgmoijbfaaGreatDoor
namespace Go.Tr
open Go Go.Proofs
set_option maxRecDepth 20000
set_option maxHeartbeats 8000000

theorem triK_ok {t : List MRow} (hR : RwOk t) {i : Nat} (hi : i + 1 < t.length) {j : Nat} (hj : j < 2 * (npT t - 1)) :
  PtOk ((triK t i (npT t - 1)).getD j tri0).1.1 ∧ PtOk ((triK t i (npT t - 1)).getD j tri0).2.1.1 ∧ PtOk ((triK t i (npT t - 1)).getD j tri0).2.2.1 := by
 obtain ⟨k,e | e⟩ : ∃ k,j = 2 * k ∨ j = 2 * k + 1 := ⟨j / 2,by omega⟩
 ·subst e
  rw [(triK_get t i (npT t - 1) k (by omega)).1]
  exact ⟨hR.pts i k (by omega) (by omega),hR.pts i (k + 1) (by omega) (by omega),hR.pts (i + 1) k (by omega) (by omega)⟩
 ·subst e
  rw [(triK_get t i (npT t - 1) k (by omega)).2]
  exact ⟨hR.pts i (k + 1) (by omega) (by omega),hR.pts (i + 1) (k + 1) (by omega) (by omega),hR.pts (i + 1) k (by omega) (by omega)⟩
set_option maxHeartbeats 8000000 in
theorem S34 (t : List MRow) (ht : Fit t) : SP 34 [tblA t] (.tuple [i64 (chkM t).1, i64 (chkM t).2]) false := by
 have h1 := ht.1
 unfold chkM
 by_cases g1 : t.length < 2
 ·rw [if_pos g1]
  refine sound (d := 2) tok2 mixed2 Tryz.func34 (by kernel_rfl) (by kernel_rfl) ?_
  (conv=>whnf); refine ifB_dec (fun w1=>?_) (fun w1=>?_)
  ·(conv=>whnf); refine ⟨?_,nofun⟩
   (first | contradiction | omega | exact ave_tup2 rfl rfl)
  ·(exfalso; omega)
 ·rw [if_neg g1]
  by_cases g2 : t.length > 6
  ·rw [if_pos g2]
   refine sound (d := 2) tok2 mixed2 Tryz.func34 (by kernel_rfl) (by kernel_rfl) ?_
   (conv=>whnf); refine ifB_dec (fun w1=>?_) (fun w1=>?_)
   ·(exfalso; omega)
   ·(conv=>whnf); refine ifB_dec (fun w2=>?_) (fun w2=>?_)
    ·(conv=>whnf); refine ⟨?_,nofun⟩
     (first | contradiction | omega | exact ave_tup2 rfl rfl)
    ·(exfalso; omega)
  ·rw [if_neg g2]
   refine sound (d := 2) tok2 mixed2 Tryz.func34 (by kernel_rfl) (by kernel_rfl) ?_
   (conv=>whnf); refine ifB_dec (fun w1=>?_) (fun w1=>?_)
   ·(exfalso; omega)
   ·(conv => whnf); refine ifB_dec (fun w2 => ?_) (fun w2 => ?_)
    ·(exfalso; omega)
    ·(conv => whnf); refine ⟨[], [1, 4], fun st mq => ∃ (i : Nat), (i ≤ t.length) ∧ (fstE (rowX t) (t.length - i) i = fstE (rowX t) t.length 0) ∧ (∀ j, j < i → rowX t j = 0) ∧ st = ⟨[(1, .optr 0 0 0 0), (4, i64 i)], ⟨[⟨1, 1, fun _ => [rowsA t], 0, false, true, true⟩], [], none, 0⟩, []⟩ ∧ mq = t.length - i,
      ⟨_,_,⟨0,by omega,rfl,fun j h=>absurd h (Nat.not_lt_zero j),rfl,rfl⟩,⟨⟨.inl rfl,rfl,rfl,rfl⟩,⟨⟨rfl,rfl,rfl,rfl,fun _=>rfl,fun _ _=>.inl rfl⟩,trivial⟩,trivial⟩⟩,?_⟩
     rintro s0 m0 ⟨i,hi,he,hz,rfl,hmeas⟩
     by_cases hlt : i < t.length
     ·have h158 := S60 t ht i hlt
      rw [fstE_step _ hlt] at he
      by_cases hA : rowA t i = 0
      ·have ho := (rowA_ok hA).1
       have hX : rowX t i = rowO t i := if_neg (not_not_intro hA)
       rw [hA] at h158
       rw [hX] at he
       by_cases hi0 : i = 0
       ·subst hi0
        have hO : rowO t 0 = 0 := if_pos rfl
        rw [hO,if_neg (by decide)] at he
        conv=>whnf
        (conv=>whnf); refine ifB_dec (fun w3=>?_) (fun w3=>?_)
        ·conv=>whnf
         (conv=>whnf); refine .inl ⟨_,_,byX rfl (Sound1.pl (h158) rfl),?_⟩
         conv=>whnf
         (conv=>whnf); refine ⟨[],by kernel_rfl,?_⟩
         conv=>whnf
         (conv=>whnf); refine ⟨[],by kernel_rfl,?_⟩
         conv=>whnf
         (conv=>whnf); refine ⟨inK64 (by omega) (by omega),?_⟩
         conv=>whnf
         (conv=>whnf); refine ⟨_,_,⟨⟨1,by omega,he,(fun j hj=>by rw [show j = 0 by omega,hX,hO]),rfl,rfl⟩,by omega⟩,⟨⟨.inl rfl,rfl,rfl,rfl⟩,⟨⟨rfl,rfl,rfl,rfl,fun _=>rfl,fun _ _=>.inl rfl⟩,trivial⟩,trivial⟩⟩
        ·(exfalso; omega)
       ·have hpv : 0 ≤ (t.getD (i - 1) r0).o ∧ (t.getD (i - 1) r0).o ≤ 100 := by
         have h2 := hz (i - 1) (by omega)
         unfold rowX at h2
         by_cases e2 : rowA t (i - 1) = 0
         ·exact (rowA_ok e2).1
         ·rw [if_pos e2] at h2; exact absurd h2 e2
        have ei : ((i : Int) - 1).toNat = i - 1 := by omega
        have hmx : IntKind.max .i64 = 9223372036854775807 := by decide
        have hmn : IntKind.min .i64 = -9223372036854775808 := by decide
        have hpv' : 0 ≤ (t.getD ((i : Int) - 1).toNat r0).o ∧ (t.getD ((i : Int) - 1).toNat r0).o ≤ 100 := by rw [ei]; exact hpv
        have ho' : 0 ≤ (t.getD (i : Int).toNat r0).o ∧ (t.getD (i : Int).toNat r0).o ≤ 100 := ho
        have hd : inK .i64 ((t.getD (i : Int).toNat r0).o - (t.getD ((i : Int) - 1).toNat r0).o) := ⟨by omega,by omega⟩
        have hi1 : inK .i64 ((i : Int) - 1) := ⟨by omega,by omega⟩
        have hip : (i : Int) > 0 := by omega
        by_cases c1 : (t.getD i r0).o ≤ (t.getD (i - 1) r0).o
        ·have hO : rowO t i = 9 := by unfold rowO; rw [if_neg hi0,if_pos c1]
         rw [hO,if_pos (by decide)] at he
         rw [← he,if_pos (show (9 : Int) ≠ 0 by decide)]
         have c1' : (t.getD (i : Int).toNat r0).o ≤ (t.getD ((i : Int) - 1).toNat r0).o := by rw [ei]; exact c1
         conv=>whnf
         (conv=>whnf); refine ifB_dec (fun w3=>?_) (fun w3=>?_)
         ·conv=>whnf
          (conv=>whnf); refine .inl ⟨_,_,byX rfl (Sound1.pl (h158) rfl),?_⟩
          conv=>whnf
          (conv=>whnf); refine ⟨[],by kernel_rfl,?_⟩
          conv=>whnf
          (conv=>whnf); refine ifB_dec (fun w4=>?_) (fun w4=>?_)
          ·conv=>whnf
           (conv=>whnf); refine ⟨⟨(by omega),(by omega)⟩,?_⟩
           conv=>whnf
           (conv=>whnf); refine ⟨inK64 (by omega) (by omega),?_⟩
           conv=>whnf
           (conv=>whnf); refine ⟨⟨(by omega),(by omega)⟩,?_⟩
           conv=>whnf
           (conv=>whnf); refine ifB_dec (fun w5=>?_) (fun w5=>?_)
           ·conv=>whnf
            (conv=>whnf); refine ⟨?_,nofun⟩
            (first | contradiction | exact hi1 | exact hd | omega | exact ave_tup2 rfl rfl)
           ·(exfalso; omega)
          ·(exfalso; omega)
         ·(exfalso; omega)
        ·have c1' : ¬ (t.getD (i : Int).toNat r0).o ≤ (t.getD ((i : Int) - 1).toNat r0).o := by rw [ei]; exact c1
         by_cases c2 : (t.getD i r0).o - (t.getD (i - 1) r0).o > 20
         ·have hO : rowO t i = 22 := by unfold rowO; rw [if_neg hi0, if_neg c1, if_pos c2]
          rw [hO,if_pos (by decide)] at he
          rw [← he,if_pos (show (22 : Int) ≠ 0 by decide)]
          have c2' : (t.getD (i : Int).toNat r0).o - (t.getD ((i : Int) - 1).toNat r0).o > 20 := by rw [ei]; exact c2
          conv=>whnf
          (conv=>whnf); refine ifB_dec (fun w3=>?_) (fun w3=>?_)
          ·conv=>whnf
           (conv=>whnf); refine .inl ⟨_,_,byX rfl (Sound1.pl (h158) rfl),?_⟩
           conv=>whnf
           (conv=>whnf); refine ⟨[],by kernel_rfl,?_⟩
           conv=>whnf
           (conv=>whnf); refine ifB_dec (fun w4=>?_) (fun w4=>?_)
           ·conv=>whnf
            (conv=>whnf); refine ⟨⟨(by omega),(by omega)⟩,?_⟩
            conv=>whnf
            (conv=>whnf); refine ⟨inK64 (by omega) (by omega),?_⟩
            conv=>whnf
            (conv=>whnf); refine ⟨⟨(by omega),(by omega)⟩,?_⟩
            conv=>whnf
            (conv=>whnf); refine ifB_dec (fun w5=>?_) (fun w5=>?_)
            ·(exfalso; omega)
            ·conv=>whnf
             (conv=>whnf); refine ⟨[],by kernel_rfl,?_⟩
             conv=>whnf
             (conv=>whnf); refine ifB_dec (fun w6=>?_) (fun w6=>?_)
             ·conv=>whnf
              (conv=>whnf); refine ⟨⟨(by omega),(by omega)⟩,?_⟩
              conv=>whnf
              (conv=>whnf); refine ⟨inK64 (by omega) (by omega),?_⟩
              conv=>whnf
              (conv=>whnf); refine ⟨⟨(by omega),(by omega)⟩,?_⟩
              conv=>whnf
              (conv=>whnf); refine ⟨inK64 (by omega) (by omega),?_⟩
              conv=>whnf
              (conv=>whnf); refine ifB_dec (fun w7=>?_) (fun w7=>?_)
              ·conv=>whnf
               (conv=>whnf); refine ⟨?_,nofun⟩
               (first | contradiction | exact hi1 | exact hd | omega | exact ave_tup2 rfl rfl)
              ·(exfalso; omega)
             ·(exfalso; omega)
           ·(exfalso; omega)
          ·(exfalso; omega)
         ·have hO : rowO t i = 0 := by unfold rowO; rw [if_neg hi0, if_neg c1, if_neg c2]
          rw [hO,if_neg (by decide)] at he
          have c2' : ¬ (t.getD (i : Int).toNat r0).o - (t.getD ((i : Int) - 1).toNat r0).o > 20 := by rw [ei]; exact c2
          conv=>whnf
          (conv=>whnf); refine ifB_dec (fun w3=>?_) (fun w3=>?_)
          ·conv=>whnf
           (conv=>whnf); refine .inl ⟨_,_,byX rfl (Sound1.pl (h158) rfl),?_⟩
           conv=>whnf
           (conv=>whnf); refine ⟨[],by kernel_rfl,?_⟩
           conv=>whnf
           (conv=>whnf); refine ifB_dec (fun w4=>?_) (fun w4=>?_)
           ·conv=>whnf
            (conv=>whnf); refine ⟨⟨(by omega),(by omega)⟩,?_⟩
            conv=>whnf
            (conv=>whnf); refine ⟨inK64 (by omega) (by omega),?_⟩
            conv=>whnf
            (conv=>whnf); refine ⟨⟨(by omega),(by omega)⟩,?_⟩
            conv=>whnf
            (conv=>whnf); refine ifB_dec (fun w5=>?_) (fun w5=>?_)
            ·(exfalso; omega)
            ·conv=>whnf
             (conv=>whnf); refine ⟨[],by kernel_rfl,?_⟩
             conv=>whnf
             (conv=>whnf); refine ifB_dec (fun w6=>?_) (fun w6=>?_)
             ·conv=>whnf
              (conv=>whnf); refine ⟨⟨(by omega),(by omega)⟩,?_⟩
              conv=>whnf
              (conv=>whnf); refine ⟨inK64 (by omega) (by omega),?_⟩
              conv=>whnf
              (conv=>whnf); refine ⟨⟨(by omega),(by omega)⟩,?_⟩
              conv=>whnf
              (conv=>whnf); refine ⟨inK64 (by omega) (by omega),?_⟩
              conv=>whnf
              (conv=>whnf); refine ifB_dec (fun w7=>?_) (fun w7=>?_)
              ·(exfalso; omega)
              ·conv=>whnf
               (conv=>whnf); refine ⟨inK64 (by omega) (by omega),?_⟩
               conv=>whnf
               (conv=>whnf); refine ⟨_,_,⟨⟨i + 1,by omega,he,(fun j hj=>by by_cases e : j = i; (rw [e,hX,hO]); exact hz j (by omega)),rfl,rfl⟩,by omega⟩,⟨⟨.inl rfl,rfl,rfl,rfl⟩,⟨⟨rfl,rfl,rfl,rfl,fun _=>rfl,fun _ _=>.inl rfl⟩,trivial⟩,trivial⟩⟩
             ·(exfalso; omega)
           ·(exfalso; omega)
          ·(exfalso; omega)
      ·have hX : rowX t i = rowA t i := if_pos hA
       rw [hX,if_pos hA] at he
       rw [← he,if_pos hA]
       conv=>whnf
       (conv=>whnf); refine ifB_dec (fun w3=>?_) (fun w3=>?_)
       ·conv=>whnf
        (conv=>whnf); refine .inl ⟨_,_,byX rfl (Sound1.pl (h158) rfl),?_⟩
        conv=>whnf
        (conv=>whnf); refine ifB_bne (fun w4=>?_) (fun w4=>?_)
        ·conv=>whnf
         (conv=>whnf); refine ⟨?_,nofun⟩
         (first | contradiction | exact ave_tup2 rfl rfl)
        ·(exfalso; omega)
       ·(exfalso; omega)
     ·rw [fstE_end _ hlt] at he
      have hE : (fstE (rowX t) t.length 0).2 = 0 := by rw [← he]
      have hR := RwOk.of ⟨by omega,by omega⟩ hE
      rw [if_neg (not_not_intro hE)]
      conv=>whnf
      (conv=>whnf); refine ifB_dec (fun w3=>?_) (fun w3=>?_)
      ·(exfalso; omega)
      ·conv => whnf
       (conv=>whnf); refine ⟨[],[1,6],fun st mq=>∃ (i : Nat),(i + 1 ≤ t.length) ∧ (fstE (stripE t) (t.length - 1 - i) i = fstE (stripE t) (t.length - 1) 0) ∧ st = ⟨[(1,.optr 0 0 0 0),(6,i64 i)],⟨[⟨1,1,fun _=>[rowsA t],0,false,true,true⟩],[],none,0⟩,[]⟩ ∧ mq = t.length - i,
        ⟨_,_,⟨0,by omega,rfl,rfl,rfl⟩,⟨⟨.inl rfl,rfl,rfl,rfl⟩,⟨⟨rfl,rfl,rfl,rfl,fun _=>rfl,fun _ _=>.inl rfl⟩,trivial⟩,trivial⟩⟩,?_⟩
       rintro s0 m0 ⟨i,hi,hs,rfl,hmeas⟩
       by_cases hlt2 : i + 1 < t.length
       ·have hl1 : (t.getD i r0).ps.length = npT t := hR.len i (by omega)
        have hnp := hR.np
        have h159 := S61 t hR i hlt2
        have hlen := triK_len t i (npT t - 1)
        have hok := fun j hj=>triK_ok hR hlt2 (j := j) hj
        have hst := trE_strip t i (npT t - 1) 0 (Nat.zero_le _)
        rw [Nat.mul_zero,Nat.sub_zero,Nat.sub_zero] at hst
        have hse : stripE t i = (fstE (quadE t i) (npT t - 1) 0).2 := by unfold stripE; rw [hl1]
        rw [← hst] at hse
        generalize triK t i (npT t - 1) = L at h159 hlen hok hse
        rw [fstE_step _ (show i < t.length - 1 by omega)] at hs
        conv=>whnf
        conv=>whnf
        (conv=>whnf); refine ⟨inK64 (by omega) (by omega),?_⟩
        conv=>whnf
        conv=>whnf
        (conv=>whnf); refine ifB_dec (fun w4=>?_) (fun w4=>?_)
        ·conv=>whnf
         conv=>whnf
         (conv=>whnf); refine .inl ⟨_,_,byX rfl (h159),?_⟩
         conv=>whnf
         conv=>whnf
         (conv=>whnf); refine ⟨[],[1,6,7,8],fun st mq=>∃ (j : Nat),(j ≤ L.length) ∧ (fstE (trE L) (L.length - j) j = fstE (trE L) L.length 0) ∧ st = ⟨[(1,.optr 0 0 0 0),(6,i64 i),(7,tris L),(8,i64 j)],⟨[⟨1,1,fun _=>[rowsA t],0,false,true,true⟩],[],none,0⟩,[]⟩ ∧ mq = L.length - j,
          ⟨_,_,⟨0,by omega,rfl,rfl,rfl⟩,⟨⟨.inl rfl,rfl,rfl,rfl⟩,⟨⟨rfl,rfl,rfl,rfl,fun _=>rfl,fun _ _=>.inl rfl⟩,trivial⟩,trivial⟩⟩,?_⟩
         rintro s0 m0 ⟨j,hj,hq,rfl,hmeas⟩
         rw [← hlen] at hse
         by_cases hlt3 : j < L.length
         ·obtain ⟨o1,o2,o3⟩ := hok j (by omega)
          have h117 := S62 _ _ _ o1 o2 o3
          rw [fstE_step _ hlt3] at hq
          by_cases g : turnI (L.getD j tri0).1.1 (L.getD j tri0).2.1.1 (L.getD j tri0).2.2.1 ≤ 0
          ·have e1 : trE L j = 13 := if_pos g
           rw [e1,if_pos (by decide)] at hq
           have e2 : stripE t i = 13 := by rw [hse,← hq]
           rw [e2,if_pos (by decide)] at hs
           rw [← hs]
           conv=>whnf
           conv=>whnf
           conv=>whnf
           (conv=>whnf); refine ifB_dec (fun w5=>?_) (fun w5=>?_)
           ·conv=>whnf
            conv=>whnf
            conv=>whnf
            (conv=>whnf); refine ⟨[],by kernel_rfl,?_⟩
            conv=>whnf
            conv=>whnf
            conv=>whnf
            (conv=>whnf); refine ⟨⟨(by omega),(by omega)⟩,?_⟩
            conv=>whnf
            conv=>whnf
            conv=>whnf
            (conv=>whnf); refine ⟨⟨(by omega),(by omega)⟩,?_⟩
            conv=>whnf
            conv=>whnf
            conv=>whnf
            (conv=>whnf); refine ⟨⟨(by omega),(by omega)⟩,?_⟩
            conv=>whnf
            conv=>whnf
            conv=>whnf
            (conv=>whnf); refine ⟨⟨(by omega),(by omega)⟩,?_⟩
            conv=>whnf
            conv=>whnf
            conv=>whnf
            (conv=>whnf); refine ⟨⟨(by omega),(by omega)⟩,?_⟩
            conv=>whnf
            conv=>whnf
            conv=>whnf
            (conv=>whnf); refine ⟨⟨(by omega),(by omega)⟩,?_⟩
            conv=>whnf
            conv=>whnf
            conv=>whnf
            (conv=>whnf); refine .inl ⟨_,_,byX rfl (Sound1.pl (h117) rfl),?_⟩
            conv=>whnf
            conv=>whnf
            conv=>whnf
            (conv=>whnf); refine ifB_dec (fun w6=>?_) (fun w6=>?_)
            ·conv=>whnf
             conv=>whnf
             conv=>whnf
             (conv=>whnf); refine ⟨?_,nofun⟩
             (first | contradiction | omega | exact ave_tup2 rfl rfl)
            ·(exfalso; omega)
           ·(exfalso; omega)
          ·have e1 : trE L j = 0 := if_neg g
           rw [e1,if_neg (by decide)] at hq
           conv=>whnf
           conv=>whnf
           conv=>whnf
           (conv=>whnf); refine ifB_dec (fun w5=>?_) (fun w5=>?_)
           ·conv=>whnf
            conv=>whnf
            conv=>whnf
            (conv=>whnf); refine ⟨[],by kernel_rfl,?_⟩
            conv=>whnf
            conv=>whnf
            conv=>whnf
            (conv=>whnf); refine ⟨⟨(by omega),(by omega)⟩,?_⟩
            conv=>whnf
            conv=>whnf
            conv=>whnf
            (conv=>whnf); refine ⟨⟨(by omega),(by omega)⟩,?_⟩
            conv=>whnf
            conv=>whnf
            conv=>whnf
            (conv=>whnf); refine ⟨⟨(by omega),(by omega)⟩,?_⟩
            conv=>whnf
            conv=>whnf
            conv=>whnf
            (conv=>whnf); refine ⟨⟨(by omega),(by omega)⟩,?_⟩
            conv=>whnf
            conv=>whnf
            conv=>whnf
            (conv=>whnf); refine ⟨⟨(by omega),(by omega)⟩,?_⟩
            conv=>whnf
            conv=>whnf
            conv=>whnf
            (conv=>whnf); refine ⟨⟨(by omega),(by omega)⟩,?_⟩
            conv=>whnf
            conv=>whnf
            conv=>whnf
            (conv=>whnf); refine .inl ⟨_,_,byX rfl (Sound1.pl (h117) rfl),?_⟩
            conv=>whnf
            conv=>whnf
            conv=>whnf
            (conv=>whnf); refine ifB_dec (fun w6=>?_) (fun w6=>?_)
            ·(exfalso; omega)
            ·conv=>whnf
             conv=>whnf
             conv=>whnf
             (conv=>whnf); refine ⟨inK64 (by omega) (by omega),?_⟩
             conv=>whnf
             conv=>whnf
             conv=>whnf
             (conv=>whnf); refine ⟨_,_,⟨⟨j + 1,by omega,hq,rfl,rfl⟩,by omega⟩,⟨⟨.inl rfl,rfl,rfl,rfl⟩,⟨⟨rfl,rfl,rfl,rfl,fun _=>rfl,fun _ _=>.inl rfl⟩,trivial⟩,trivial⟩⟩
           ·(exfalso; omega)
         ·rw [fstE_end _ hlt3] at hq
          have e2 : stripE t i = 0 := by rw [hse,← hq]
          rw [e2,if_neg (by decide)] at hs
          conv=>whnf
          conv=>whnf
          conv=>whnf
          (conv=>whnf); refine ifB_dec (fun w5=>?_) (fun w5=>?_)
          ·(exfalso; omega)
          ·conv=>whnf
           conv=>whnf
           conv=>whnf
           (conv=>whnf); refine ⟨inK64 (by omega) (by omega),?_⟩
           conv=>whnf
           conv=>whnf
           conv=>whnf
           (conv=>whnf); refine ⟨_,_,⟨⟨i + 1,by omega,hs,rfl,rfl⟩,by omega⟩,⟨⟨.inl rfl,rfl,rfl,rfl⟩,⟨⟨rfl,rfl,rfl,rfl,fun _=>rfl,fun _ _=>.inl rfl⟩,trivial⟩,trivial⟩⟩
        ·(exfalso; omega)
       ·rw [fstE_end _ (show ¬ i < t.length - 1 by omega)] at hs
        rw [← hs]
        conv=>whnf
        conv=>whnf
        (conv=>whnf); refine ⟨inK64 (by omega) (by omega),?_⟩
        conv=>whnf
        conv=>whnf
        (conv=>whnf); refine ifB_dec (fun w4=>?_) (fun w4=>?_)
        ·(exfalso; omega)
        ·conv=>whnf
         conv=>whnf
         (conv=>whnf); refine ⟨?_,nofun⟩
         (first | contradiction | omega | exact ave_tup2 rfl rfl)
theorem S12 (t : List MRow) (ht : Fit t) : SP 12 [tblA t] (i64 (chkM t).2) false := by
 have h := S34 t ht
 refine sound (d := 2) tok2 mixed2 Tryz.func12 (by kernel_rfl) (by kernel_rfl) ?_
 (conv=>whnf); refine .inl ⟨_,_,byX rfl (Sound1.pl (h) rfl),?_⟩
 (conv=>whnf); refine ⟨?_,nofun⟩
 (first | rfl)
end Go.Tr

/- Plain laws: decimal numerals. Conditions: none. -/
namespace Go.Tr
open Go.Lib

def isDig (c : UInt8) : Bool := Nat.ble 48 c.toNat && Nat.ble c.toNat 57
theorem isDig_iff {c : UInt8} : isDig c = true ↔ 48 ≤ c.toNat ∧ c.toNat ≤ 57 := by simp [isDig]
def decV (l : List UInt8) : Nat := l.foldl (fun a c=>10 * a + (c.toNat - 48)) 0
theorem decV_snoc (l : List UInt8) (c : UInt8) : decV (l ++ [c]) = 10 * decV l + (c.toNat - 48) := by simp [decV]
theorem head_app {α : Type} {l r : List α} (h : l ≠ []) : (l ++ r).head? = l.head? := by
 cases l with
 | nil=>exact absurd rfl h
 | cons=>rfl
theorem digOf (d : Nat) (h : d < 10) : (UInt8.ofNat (48 + d)).toNat = 48 + d := by
  rw [UInt8.toNat_ofNat']; omega
theorem dec_dig : ∀ u : Nat,(∀ c ∈ decDigits u,isDig c = true) ∧ decV (decDigits u) = u ∧ decDigits u ≠ [] ∧ (u ≠ 0 → (decDigits u).head? ≠ some 48)
 | u => by
  by_cases h : u < 10
  ·have e : decDigits u = [UInt8.ofNat (48 + u)] := by rw [decDigits,dif_pos h]
   have hd := digOf u h
   rw [e]
   refine ⟨fun c hc=>?_,?_,by simp,fun h0 h1=>?_⟩
   ·rw [List.mem_singleton.1 hc,isDig_iff,hd]; omega
   ·simp only [decV,List.foldl_cons,List.foldl_nil,hd]; omega
   ·simp only [List.head?_cons,Option.some.injEq] at h1
    rw [h1] at hd
    have : (48 : UInt8).toNat = 48 := rfl
    omega
  ·have e : decDigits u = decDigits (u / 10) ++ [UInt8.ofNat (48 + u % 10)] := by rw [decDigits,dif_neg h]
   have hd := digOf (u % 10) (by omega)
   obtain ⟨h1,h2,h3,h4⟩ := dec_dig (u / 10)
   rw [e]
   refine ⟨fun c hc=>?_,?_,by simp,fun h0 h5=>h4 (by omega) ?_⟩
   ·rcases List.mem_append.1 hc with hc | hc
    ·exact h1 c hc
    ·rw [List.mem_singleton.1 hc,isDig_iff,hd]; omega
   ·rw [decV_snoc,h2,hd]; omega
   ·rwa [head_app h3] at h5
theorem dec_of : ∀ (n : Nat) (l : List UInt8),l.length = n → l ≠ [] → (∀ c ∈ l,isDig c = true) → (l.head? ≠ some 48 ∨ l.length = 1) → decDigits (decV l) = l
 | 0,l,hn,h0,_,_=>absurd (List.length_eq_zero_iff.1 hn) h0
 | n + 1, l, hn, h0, hd, hh => by
  obtain ⟨r,c,rfl⟩ : ∃ r c,l = r ++ [c] := ⟨l.dropLast,l.getLast h0,(List.dropLast_concat_getLast h0).symm⟩
  have hc := isDig_iff.1 (hd c (by simp))
  have hof : UInt8.ofNat (48 + (c.toNat - 48)) = c := by
   rw [show 48 + (c.toNat - 48) = c.toNat by omega]; simp
  rw [decV_snoc]
  by_cases hr : r = []
  ·subst hr
   rw [show decV [] = 0 from rfl,decDigits,dif_pos (by omega),show 10 * 0 + (c.toNat - 48) = c.toNat - 48 by omega,hof]; rfl
  ·have hh' : r.head? ≠ some 48 := by
    rcases hh with hh | hh
    ·rwa [head_app hr] at hh
    ·rw [List.length_append,List.length_singleton] at hh
     have := List.length_pos_iff.2 hr
     omega
   have ih := dec_of n r (by simpa using hn) hr (fun c h=>hd c (by simp [h])) (.inl hh')
   have hpos : decV r ≠ 0 := fun e=>by
    rw [e] at ih
    rw [← ih] at hh'
    exact hh' (by rw [decDigits,dif_pos (by omega)]; rfl)
   rw [decDigits,dif_neg (by omega),show (10 * decV r + (c.toNat - 48)) / 10 = decV r by omega,show (10 * decV r + (c.toNat - 48)) % 10 = c.toNat - 48 by omega,ih,hof]
theorem decFrom_dig : ∀ (l : List UInt8) (a : Nat),(∀ c ∈ l,isDig c = true) → decFrom a l = some (l.foldl (fun a c=>10 * a + (c.toNat - 48)) a)
 | [],_,_=>rfl
 | c :: l,a,h=>by
  have hc := isDig_iff.1 (h c (.head _))
  rw [decFrom,digitVal,if_pos hc]
  show decFrom _ l = _
  rw [decFrom_dig l _ fun c h'=>h c (.tail _ h'),List.foldl_cons,Nat.mul_comm]
theorem parse_dig {l : List UInt8} (h0 : l ≠ []) (hd : ∀ c ∈ l,isDig c = true) (hl : l.length ≤ 18) : parseMag l = .ok (decV l) := by
  rw [parseMag_short l hl,decNat,if_neg (by simpa using h0),decFrom_dig l 0 hd]; rfl
theorem decV_lt : ∀ (n : Nat) (l : List UInt8),l.length = n → (∀ c ∈ l,isDig c = true) → decV l < 10 ^ n
 | 0,l,hn,_=>by rw [List.length_eq_zero_iff.1 hn]; decide
 | n + 1,l,hn,hd=>by
  have h0 : l ≠ [] := fun e=>by rw [e] at hn; cases hn
  obtain ⟨r,c,rfl⟩ : ∃ r c,l = r ++ [c] := ⟨l.dropLast,l.getLast h0,(List.dropLast_concat_getLast h0).symm⟩
  have := decV_lt n r (by simpa using hn) fun c h=>hd c (by simp [h])
  have hc := isDig_iff.1 (hd c (by simp))
  rw [decV_snoc,Nat.pow_succ]; omega

def magL (l : List UInt8) : List UInt8 := if l.head? = some 45 then l.tail else l
def refOk (l : List UInt8) (k : Nat) : Bool := !(magL l).isEmpty && Nat.ble (magL l).length k && !((magL l).head? == some 48 && Nat.ble 2 l.length) && (magL l).all isDig
def refV (l : List UInt8) : Int := if l.head? = some 45 then -(decV (magL l) : Int) else decV (magL l)
theorem itoa_neg' {n : Int} (h : n < 0) : itoa n = 45 :: decDigits n.natAbs := by rw [itoa,if_pos h]
theorem itoa_pos' {n : Int} (h : ¬ n < 0) : itoa n = decDigits n.toNat := by rw [itoa,if_neg h]
theorem head_dec (u : Nat) : (decDigits u).head? ≠ some 45 := fun e=>by
  have := (dec_dig u).1 45 (List.mem_of_mem_head? e)
  revert this; decide
theorem magL_itoa (n : Int) : magL (itoa n) = decDigits n.natAbs ∧ ((itoa n).head? = some 45 ↔ n < 0) := by
 by_cases h : n < 0
 ·rw [itoa_neg' h]
  exact ⟨by simp [magL],by simp [h]⟩
 ·rw [itoa_pos' h]
  refine ⟨?_,?_⟩
  ·rw [magL,if_neg (head_dec _),show n.toNat = n.natAbs by omega]
  ·constructor
   ·intro e; exact absurd e (head_dec _)
   ·intro e; exact absurd e h
theorem trim_itoa (n : Int) : trimPrefix (itoa n) [45] = magL (itoa n) := by
 unfold trimPrefix hasPrefix magL
 cases h : itoa n with
 | nil=>rfl
 | cons c r =>
  by_cases hc : c = 45
  ·subst hc; simp
  ·simp [hc,Ne.symm hc]
theorem refOk_itoa (n : Int) (k : Nat) : refOk (itoa n) k = Nat.ble (decDigits n.natAbs).length k ∧ refV (itoa n) = n := by
 obtain ⟨h1,h2⟩ := magL_itoa n
 obtain ⟨d1,d2,d3,d4⟩ := dec_dig n.natAbs
 unfold refOk refV
 rw [h1,d2]
 constructor
 ·have e1 : (decDigits n.natAbs).isEmpty = false := by cases h : decDigits n.natAbs with | nil=>exact absurd h d3 | cons=>rfl
  have e2 : (decDigits n.natAbs).all isDig = true := List.all_eq_true.2 d1
  rw [e1,e2]
  have e3 : ((decDigits n.natAbs).head? == some 48 && Nat.ble 2 (itoa n).length) = false := by
   by_cases h0 : n = 0
   ·subst h0
    rw [show itoa 0 = decDigits 0 by rw [itoa_pos' (by omega)]; rfl,show decDigits (0 : Int).natAbs = decDigits 0 from rfl,decDigits,dif_pos (by omega)]; rfl
   ·have := d4 (by omega)
    rw [Bool.and_eq_false_iff]; left
    simpa using this
  rw [e3]; simp
 ·split
  ·rename_i h; have h5 := h2.1 h; omega
  ·rename_i h; have h5 : ¬ n < 0 := fun e=>h (h2.2 e)
   omega
theorem itoa_of_ref {l : List UInt8} {k : Nat} (h : refOk l k = true) : itoa (refV l) = l := by
 unfold refOk at h
 simp only [Bool.and_eq_true,Bool.not_eq_true',List.all_eq_true] at h
 obtain ⟨⟨⟨h1,h2⟩,h3⟩,h4⟩ := h
 have h0 : magL l ≠ [] := fun e=>by rw [e] at h1; cases h1
 have h3' : ¬ ((magL l).head? = some 48 ∧ 2 ≤ l.length) := fun ⟨a,b⟩=>by
  rw [a,show Nat.ble 2 l.length = true from Nat.ble_eq ▸ b] at h3; revert h3; decide
 unfold refV
 unfold magL at h0 h1 h2 h3 h4 h3' ⊢
 by_cases hs : l.head? = some 45
 ·rw [if_pos hs] at h0 h1 h2 h3 h4 h3' ⊢
  rw [if_pos hs]
  obtain ⟨r,rfl⟩ : ∃ r,l = 45 :: r := by
   cases l with
   | nil=>cases hs
   | cons c r=>simp at hs; exact ⟨r,by rw [hs]⟩
  simp only [List.tail_cons] at *
  have hr := List.length_pos_iff.2 h0
  have hh : r.head? ≠ some 48 := fun e=>h3' ⟨e,by simp; omega⟩
  have := dec_of _ r rfl h0 h4 (.inl hh)
  have hp : decV r ≠ 0 := fun e=>by
   rw [e] at this
   exact hh (by rw [← this,decDigits,dif_pos (by omega)]; rfl)
  rw [itoa_neg' (by omega),show (-(decV r : Int)).natAbs = decV r by omega,this]
 ·rw [if_neg hs] at h0 h1 h2 h3 h4 h3' ⊢
  rw [if_neg hs]
  have hr := List.length_pos_iff.2 h0
  rw [itoa_pos' (by omega),Int.toNat_natCast]
  refine dec_of _ l rfl h0 h4 ?_
  by_cases h : l.length = 1
  ·exact .inr h
  ·exact .inl fun e=>h3' ⟨e,by omega⟩
theorem atoi_itoa {n : Int} (h : (decDigits n.natAbs).length ≤ 17) : atoiAll (itoa n) = .ok n := by
 obtain ⟨d1,d2,d3,d4⟩ := dec_dig n.natAbs
 have hm := parse_dig d3 d1 (by omega)
 rw [d2] at hm
 have hlt : n.natAbs < 10 ^ 17 := by
  have := decV_lt _ _ rfl d1
  rw [d2] at this
  exact Nat.lt_of_lt_of_le this (Nat.pow_le_pow_right (by omega) h)
 have hp : (10 : Nat) ^ 17 = 100000000000000000 := by decide
 by_cases hn : n < 0
 ·rw [itoa_neg' hn,atoiAll_minus,hm]
  unfold signed
  simp only
  rw [if_neg (by omega)]
  congr 1
  omega
 ·rw [itoa_pos' hn,show n.toNat = n.natAbs by omega]
  cases h2 : decDigits n.natAbs with
  | nil=>exact absurd h2 d3
  | cons c r =>
   have hc := isDig_iff.1 (d1 c (by rw [h2]; exact .head _))
   rw [atoiAll_plain c r (by omega) (by omega),← h2,hm]
   unfold signless
   simp only
   rw [if_neg (by omega)]
   congr 1
   omega
end Go.Tr

/- Contracts of the library's functions over strings, out of the kit's laws, over any program. Conditions: none. -/
namespace Go.Tr
open Go Go.RowKit Go.Proofs Go.Shelf
set_option maxRecDepth 20000
set_option maxHeartbeats 8000000
variable [GTab]

theorem below_of_kit (hk : ¬ GTab.kept) {B : Nat} {w w' : World} (h : RowKit.Below B w w') : Below B w w' := ⟨h.os,h.tape,h.output,h.size,h.block,fun e=>absurd e hk⟩
theorem below_grown (w : World) (k : Nat) (os : Array Obj) : Below w.heap.size w (Go.Sort.grow (w.drewN k) os) := by
 refine ⟨rfl,rfl,rfl,?_,fun b hb=>?_,fun _=>Nat.le_add_right _ _⟩
 ·simp [Go.Sort.grow]
 ·show (w.heap ++ os)[b]? = _
  rw [Array.getElem?_append_left hb]
theorem g_cell {P : Program} {w : World} {q : Nat → Prop} (hg : GOk P w q) {g : Nat} {l : List AV} (h : GTab.gt g = some l) {v : Value} {j : Nat} (hj : l[j]? = some (.val v)) : w.cell? ⟨g,j,none⟩ = some v := by
 obtain ⟨h1,_⟩ := hg.g g l h
 cases h1 with
 | rptr _ b off x _ hc hr =>
  have hlt : j < l.length := (List.getElem?_eq_some_iff.1 hj).1
  have := hr j _ hj
  have hc' := (hc j hlt).1
  rw [Nat.zero_add] at hc'
  rw [hc']
  generalize x j = z at this
  cases this
  rfl
theorem g_err {P : Program} {w : World} {q : Nat → Prop} (hg : GOk P w q) {g : Nat} {l : List AV} (h : GTab.gt g = some l) {j : Nat} (hj : l[j]? = some .err) : ∃ t v,w.cell? ⟨g,j,none⟩ = some (.iface t v) := by
 obtain ⟨h1,_⟩ := hg.g g l h
 cases h1 with
 | rptr _ b off x _ hc hr =>
  have hlt : j < l.length := (List.getElem?_eq_some_iff.1 hj).1
  have := hr j _ hj
  have hc' := (hc j hlt).1
  rw [Nat.zero_add] at hc'
  rw [hc']
  generalize x j = z at this
  cases this with
  | err t v=>exact ⟨t,v,rfl⟩
theorem g_var {P : Program} {w : World} {q : Nat → Prop} (hg : GOk P w q) {g : Nat} {vs : List Value} (h : GTab.gt g = some (vs.map .val)) {name : String} (hn : P.globalNamed name = some g) : w.var? P name = some vs.toArray := by
 obtain ⟨h1,cs,t,a,hc,hz⟩ := hg.g g _ h
 simp only [World.var?,hn,Option.bind_some,hc]
 have e : cs = vs.toArray := by
  apply Array.ext_getElem?
  intro j
  by_cases hj : j < vs.length
  ·have := g_cell hg h (v := vs[j]) (j := j) (by simp [hj])
   simp only [World.cell?,hc] at this
   rw [show vs.toArray[j]? = some vs[j] by simp [hj]]
   simpa using this
  ·rw [List.length_map] at hz
   rw [Array.getElem?_eq_none (by omega),show vs.toArray[j]? = none by simp; omega]
 rw [e]
theorem g_int {P : Program} {w : World} {q : Nat → Prop} (hg : GOk P w q) {g : Nat} (h : GTab.gi g = true) : ∃ m : Int,w.cell? ⟨g,0,none⟩ = some (.int .i64 m) := by
  obtain ⟨_,m,t,a,hc⟩ := hg.i g h
  exact ⟨m,by simp [World.cell?,hc]⟩
section
variable {P : Program} {ρ : Ren}
theorem args_one {w : World} {q : Nat → Prop} {vs : Array Value} {v : Value} (hs : vs.size = 1) (hv : ∀ (i : Nat) x,[AV.val v][i]? = some x → VT P w q x (vs.getD i undef)) : vs = #[v] := by
 have h0 := hv 0 _ rfl
 apply Array.ext_getElem?
 intro i
 match i with
 | 0 =>
  rw [Array.getElem?_eq_getElem (by omega)]
  have : vs.getD 0 undef = vs[0] := by simp [Array.getD,hs]
  rw [this] at h0
  generalize vs[0] = z at h0
  cases h0; rfl
 | i + 1=>rw [Array.getElem?_eq_none (by omega)]; simp
theorem args_two {w : World} {q : Nat → Prop} {vs : Array Value} {x : AV} {v : Value} (hs : vs.size = 2) (hv : ∀ (i : Nat) y,[x,AV.val v][i]? = some y → VT P w q y (vs.getD i undef)) : ∃ u,vs = #[u,v] ∧ VT P w q x u := by
 have h0 := hv 0 _ rfl
 have h1 := hv 1 _ rfl
 refine ⟨vs.getD 0 undef,?_,h0⟩
 apply Array.ext_getElem?
 intro i
 match i with
 | 0 =>
  rw [Array.getElem?_eq_getElem (by omega)]
  simp [Array.getD,hs]
 | 1 =>
  rw [Array.getElem?_eq_getElem (by omega)]
  have : vs.getD 1 undef = vs[1] := by simp [Array.getD,hs]
  rw [this] at h1
  generalize vs[1] = z at h1
  cases h1; rfl
 | i + 2=>rw [Array.getElem?_eq_none (by omega)]; simp

theorem itoa_s (L : LaysM.n171 P ρ) {g : Nat} (hgt : GTab.gt g = some ((Lib.pow10Tab.map fun z => Value.int .u64 z).map .val)) (hn : P.globalNamed "internal/strconv.uint64pow10" = some g) (ef : ∀ z w, (callFunc (ρ.f 171) z).run P w = .ok (.enter (ρ.f 171) z) w)
  (n : Int) (h0 : -9223372036854775808 ≤ n) (h1 : n ≤ 9223372036854775807) : Sound1 P (ρ.f 171) [.val (.int .i64 n)] (.val (.string ⟨(Lib.itoa n).toArray⟩)) true := by
 refine Sound1.pl ⟨ef,fun w q vs hq hg hs hv=>?_⟩ rfl
 rw [args_one hs hv]
 refine (Any.strconv_Itoa L n h0 h1 w (g_var hg hgt hn)).mono ?_
 rintro e w' ⟨rfl,k,os,rfl⟩
 exact ⟨_,rfl,below_grown _ _ _,.val _⟩

def atoiV (s : ByteArray) : Int := match Lib.atoiAll s.data.toList with | .ok v=>v | .syntax=>0 | .range=>Lib.atoiSat s.data.toList
def atoiOk (s : ByteArray) : Bool := match Lib.atoiAll s.data.toList with | .ok _=>true | .syntax=>false | .range=>false
theorem atoi_s (hk : ¬ GTab.kept) (L : LaysC.n172 P ρ) (h15 : GTab.gt (ρ.g 15) = some [.err]) (h16 : GTab.gt (ρ.g 16) = some [.err]) (ef : ∀ z w,(callFunc (ρ.f 172) z).run P w = .ok (.enter (ρ.f 172) z) w)
  (s : ByteArray) (hs : s.size ≤ 281474976710656) : Sound1 P (ρ.f 172) [.val (.string s)] (.tuple [.val (.int .i64 (atoiV s)),if atoiOk s then .val .nilIface else .err]) false := by
 refine ⟨ef,fun w q vs hq hg hz hv=>?_⟩
 rw [args_one hz hv]
 have tup : ∀ {w' : World} {p : Nat → Prop} {a : Int} {y : AV} {u : Value},VT P w' p y u → VT P w' p (.tuple [.val (.int .i64 a),y]) (.tuple #[.int .i64 a,u]) := fun h=>.tuple _ _ rfl fun i x hi=>by
  match i,hi with
  | 0,hi=>cases hi; exact .val _
  | 1,hi=>cases hi; exact h
 unfold atoiV atoiOk
 cases hc : Lib.atoiAll s.data.toList with
 | ok v =>
  refine (Any.strconv_Atoi_ok L s (by omega) v hc w).mono ?_
  rintro e w' ⟨rfl,h⟩
  refine ⟨_,rfl,?_,tup (.val _)⟩
  rcases h with rfl | ⟨t,rfl⟩
  ·exact Below.refl _ _
  ·exact below_of_kit hk (Lib.bytesWorld_below _ _ _)
 | «syntax» =>
  obtain ⟨te,pe,h⟩ := g_err hg h15 (j := 0) rfl
  refine (Any.strconv_Atoi_syntax L s hs hc _ w h (.inr ⟨te,pe,rfl⟩)).mono ?_
  rintro e w' ⟨N,rfl,h1,h2,h3⟩
  exact ⟨_,rfl,below_of_kit hk h3,tup (.err _ _)⟩
 | range =>
  obtain ⟨te,pe,h⟩ := g_err hg h16 (j := 0) rfl
  refine (Any.strconv_Atoi_range L s hs hc _ w h (.inr ⟨te,pe,rfl⟩)).mono ?_
  rintro e w' ⟨N,rfl,h1,h2,h3⟩
  exact ⟨_,rfl,below_of_kit hk h3,tup (.err _ _)⟩

theorem trim_s (L : Lays.n101 P ρ) (ef : ∀ z w,(callFunc (ρ.f 101) z).run P w = .ok (.enter (ρ.f 101) z) w) (s p : ByteArray) : Sound1 P (ρ.f 101) [.val (.string s),.val (.string p)] (.val (.string ⟨(Lib.trimPrefix s.data.toList p.data.toList).toArray⟩)) true := by
 refine Sound1.pl ⟨ef,fun w q vs hq hg hz hv=>?_⟩ rfl
 obtain ⟨u,rfl,hu⟩ := args_two hz hv
 cases hu
 refine (Any.strings_TrimPrefix L s p w).mono ?_
 rintro e w' ⟨rfl,rfl⟩
 exact ⟨_,rfl,Below.refl _ _,.val _⟩

def sepL (s sep : ByteArray) : List ByteArray := Lib.splitB sep 0 (Lib.countB s sep) s
theorem split_s (L : Lays.n146 P ρ) (hi9 : (P.info? (ρ.t 9)).map (fun i=>(i.zero,i.size,i.bytes)) = some (some (.string ByteArray.empty),1,16)) (hm : GTab.gi (ρ.g 1) = true) (ef : ∀ z w,(callFunc (ρ.f 146) z).run P w = .ok (.enter (ρ.f 146) z) w)
  (s sep : ByteArray) (hs : s.size < 4294967281) (h1 : 1 ≤ sep.size) : Sound1 P (ρ.f 146) [.val (.string s),.val (.string sep)] (.rslice 1 (sepL s sep).length (fun i=>[.val (.string ((sepL s sep).getD i ByteArray.empty))])) false := by
 refine ⟨ef,fun w q vs hq hg hz hv=>?_⟩
 obtain ⟨u,rfl,hu⟩ := args_two hz hv
 cases hu
 obtain ⟨m,hmc⟩ := g_int hg hm
 refine (Any.strings_Split L hi9 s sep m w hs hmc h1).mono ?_
 have hlen : (sepL s sep).length = Lib.countB s sep + 1 := Lib.splitB_all sep h1 0 _ s rfl
 rintro e w' ⟨rfl,rfl⟩
 rw [← hlen]
 show ∃ u,Ending.returned (Value.slice (some ⟨w.heap.size,0,none⟩) (sepL s sep).length (sepL s sep).length) = .returned u ∧ _
 refine ⟨_,rfl,(Below.refl _ _).alloc (Nat.le_refl _) _,?_⟩
 refine .rslice 1 _ _ w.heap.size 0 _ (fun i j=>.string ((sepL s sep).getD i ByteArray.empty)) (Nat.le_refl _) (.inr ⟨Nat.le_refl _,by simp⟩) (fun _ _=>rfl) (fun i j hi hj=>⟨?_,rfl⟩) (fun i j x hi hx=>?_)
 ·have hj0 : j = 0 := by omega
  subst hj0
  rw [World.cell?_alloc_new]
  simp [List.getElem?_map,sepL,hi,show i < (Lib.splitB sep 0 (Lib.countB s sep) s).length from hi]
 ·match j,hx with
  | 0,hx=>cases hx; exact .val _

theorem index_s (L : Lays.n143 P ρ) (hm : GTab.gi (ρ.g 1) = true) (ef : ∀ z w,(callFunc (ρ.f 143) z).run P w = .ok (.enter (ρ.f 143) z) w) (s sub : ByteArray) (hs : s.size < 4294967281) :
  Sound1 P (ρ.f 143) [.val (.string s),.val (.string sub)] (.val (.int .i64 (Lib.index s.data.toList sub.data.toList))) true := by
 refine Sound1.pl ⟨ef,fun w q vs hq hg hz hv=>?_⟩ rfl
 obtain ⟨u,rfl,hu⟩ := args_two hz hv
 cases hu
 obtain ⟨m,hmc⟩ := g_int hg hm
 refine (Any.strings_Index L s sub m w hs hmc).mono ?_
 rintro e w' ⟨rfl,rfl⟩
 exact ⟨_,rfl,Below.refl _ _,.val _⟩

def joinB (l : List ByteArray) (sep : ByteArray) : ByteArray := ⟨(Lib.join (l.map (·.data.toList)) sep.data.toList).toArray⟩
theorem join_s (hk : ¬ GTab.kept) (L : Lays.n156 P ρ) (X : Builder.Extra P ρ) (ef : ∀ z w,(callFunc (ρ.f 156) z).run P w = .ok (.enter (ρ.f 156) z) w) (l : List ByteArray) (sep : ByteArray) (f : Nat → List AV)
  (hf : ∀ i,i < l.length → f i = [.val (.string (l.getD i ByteArray.empty))]) (hN : l.length ≤ 140737488355328) (hlen : (joinB l sep).size ≤ 140737488355328) : Sound1 P (ρ.f 156) [.rslice 1 l.length f,.val (.string sep)] (.val (.string (joinB l sep))) true := by
 refine Sound1.pl ⟨ef,fun w q vs hq hg hz hv=>?_⟩ rfl
 obtain ⟨u,rfl,hu⟩ := args_two hz hv
 generalize hm : l.length = n at hu
 cases hu with
 | rslice0 _ _ a k =>
  have : l = [] := List.length_eq_zero_iff.1 hm
  subst this
  refine (Any.strings_Join_none L X a k sep w).mono ?_
  rintro e w' ⟨rfl,rfl⟩
  exact ⟨_,rfl,Below.refl _ _,.val _⟩
 | rslice _ _ _ b off k x hle hb hl hc hr =>
  subst hm
  refine (Any.strings_Join L X b off k l sep w (fun j y hy=>?_) (hq b hb) hN hle ?_).mono ?_
  ·have hj : j < l.length := (List.getElem?_eq_some_iff.1 hy).1
   have h1 := hr j 0 (.val (.string (l.getD j ByteArray.empty))) hj (by rw [hf j hj]; rfl)
   have h2 := (hc j 0 hj (by omega)).1
   rw [Nat.mul_one,Nat.add_zero] at h2
   rw [h2]
   generalize x j 0 = z at h1
   cases h1
   rw [List.getD_eq_getElem?_getD,hy]; rfl
  ·have : (joinB l sep).size = (Lib.join (l.map (·.data.toList)) sep.data.toList).length := by simp [joinB,ByteArray.size]
   omega
  ·rintro e w' ⟨rfl,h⟩
   exact ⟨_,rfl,below_of_kit hk h,.val _⟩
end
end Go.Tr

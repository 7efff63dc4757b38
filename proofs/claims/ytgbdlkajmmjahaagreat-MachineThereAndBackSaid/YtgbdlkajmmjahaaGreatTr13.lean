/- Contracts of chapter 5: the locations of a point, in order. Conditions: none. -/
import Derived.Test.YtgbdlkajmmjahaaGreatTr12
set_option linter.unusedSectionVars false
set_option linter.unnecessarySimpa false
set_option linter.unusedVariables false
set_option linter.unusedSimpArgs false

-- seat YtgbdlkajmmjahaaGreat
namespace Go.Tr
open Go Go.Proofs
set_option maxRecDepth 20000
set_option maxHeartbeats 8000000

set_option maxHeartbeats 200000000 in
theorem S44 (t : List MRow) (ht : Fit t) (h f : Int) : SP 44 [tblA t, i64 h, i64 f] (.tuple [lcsA (locA t h f), i64 (locR t h f)]) false := by
 have h97 := S97 t ht
 have h77 := @S77_2 h f
 have h76 := @S76_2 (chkM t).2 (if szE h ≠ 0 then szE h else szE f)
 rw [first2] at h76
 change ∀ {f' : Nat → List AV},_ → SP 76 _ (i64 (locE t h f)) false at h76
 unfold locA locR
 by_cases h0 : locE t h f = 0
 ·obtain ⟨hT, hh, hf⟩ := locE_ok h0
  have hR := RwOk.ofT hT
  have hn := hR.n
  have hnp := hR.np
  have hpt : PtOk (h,f,0) := ⟨hh,hf,⟨by show (-10000 : Int) ≤ 0; decide,by show (0 : Int) ≤ 10000; decide⟩⟩
  have hb : Tryz.prog.types[99].bytes = 32 := by kernel_rfl
  rw [h0] at h76
  rw [if_pos h0,if_pos h0]
  refine sound (d := 2) tok2 mixed2 Tryz.func44 (by kernel_rfl) (by kernel_rfl) ?_
  (conv=>whnf); refine ⟨[],by kernel_rfl,?_⟩
  (conv=>whnf); refine .inl ⟨_,_,byX rfl (Sound1.pl (h97) rfl),?_⟩
  (conv=>whnf); refine .inl ⟨_,_,byX rfl (Sound1.pl (h77 ⟨rfl,rfl⟩) rfl),?_⟩
  (conv=>whnf); refine .inl ⟨_,_,byX rfl (Sound1.pl (h76 ⟨rfl,rfl⟩) rfl),?_⟩
  (conv=>whnf); refine .inr (.inl ⟨[],?_⟩)
  (conv=>whnf); refine ⟨(by first | rfl | assumption),?_⟩
  refine ⟨_,keep_ok [3,4,5,6,7,9,27] _,?_⟩
  (conv=>whnf); refine ⟨inK64 (by omega) (by omega),?_⟩
  (conv=>whnf); refine ⟨[.cell 7 0 4],[0,1,14,15],fun st mq=>∃ (i : Nat) (m : Nat) (F5 : Nat → List AV) (F6 : Nat → List AV),(i ≤ t.length - 1) ∧ (m = (lcs (h,f,0) (triT t i)).length) ∧ (allS2 (lcs (h,f,0) (triT t i)) = true) ∧ (m ≤ 10 * i) ∧ st = ⟨[(0,.yld 0),(1,.optr 8 0 0 0),(14,i64 ((t.length : Int) - 1)),(15,i64 i)],⟨[⟨1,1,fun _=>[rowsA t],0,false,true,true⟩,⟨1,1,fun _=>[i64 h],0,false,true,true⟩,⟨1,1,fun _=>[i64 f],0,false,true,true⟩,⟨1,1,fun _=>[.eslice],0,false,true,true⟩,⟨1,1,fun _=>[i64 0],0,false,true,true⟩,⟨1,2,F5,0,false,true,false⟩,⟨1,2,F6,0,false,true,false⟩,⟨1,1,fun _=>[.oslice 9 0 0 m none],0,false,false,true⟩,⟨1,1,fun _=>[rowsA t],0,false,true,true⟩,⟨4,m,fun i=>lcC (fr2 ((locL t h f).getD i q2z)),0,false,true,false⟩],[],none,1⟩,[(3,.optr 0 0 0 0),(4,.optr 1 0 0 0),(5,.optr 2 0 0 0),(6,.optr 3 0 0 0),(7,.optr 4 0 0 0),(9,.optr 7 0 0 0),(27,.func (.func 155) 0 [.optr 8 0 0 0])]⟩ ∧ mq = t.length - 1 - i,
   ⟨_,_,⟨0,0,_,_,by omega,rfl,rfl,by omega,rfl,rfl⟩,⟨⟨.inl rfl,rfl,rfl,rfl⟩,⟨bA,⟨bA,⟨bA,⟨bA,⟨bA,⟨bA,⟨bA,⟨⟨rfl,rfl,rfl,rfl,nofun,fun _ _=>.inl rfl⟩,⟨bA,⟨⟨rfl,rfl,rfl,rfl,fun _=>rfl,fun i h=>.inl (absurd h (Nat.not_lt_zero i))⟩,trivial⟩⟩⟩⟩⟩⟩⟩⟩⟩⟩,trivial⟩⟩,?_⟩
  rintro s0 m0 ⟨i,m,F5,F6,hi,hm,hS,hN,rfl,hmeas⟩
  by_cases hlt2 : i < t.length - 1
  ·have hl1 : (t.getD i r0).ps.length = npT t := hR.len i (by omega)
   have hl2 : (t.getD (i + 1) r0).ps.length = npT t := hR.len (i + 1) (by omega)
   have q1 : inK .i64 (((t.getD i r0).ps.length : Int) - 1) := inK_of (by omega)
   conv=>whnf
   (conv=>whnf); refine ifB_dec (fun w1=>?_) (fun w1=>?_)
   ·conv => whnf
    (conv=>whnf); refine ⟨[(6,13),(10,13)],by kernel_rfl,?_⟩
    conv=>whnf
    (conv=>whnf); refine ⟨⟨(by omega),(by omega)⟩,?_⟩
    conv=>whnf
    (conv=>whnf); refine ⟨inK64 (by omega) (by omega),?_⟩
    conv=>whnf
    (conv=>whnf); refine ⟨⟨(by omega),(by omega)⟩,?_⟩
    conv=>whnf
    (conv=>whnf); refine ⟨by assumption,?_⟩
    conv=>whnf
    (conv=>whnf); refine ⟨[],[0,1,3,4,5,14,15,32,33],fun st mq=>∃ (k : Nat) (m : Nat) (F5 : Nat → List AV) (F6 : Nat → List AV),(k ≤ npT t - 1) ∧ (m = (lcs (h,f,0) (triT t i ++ triK t i k)).length) ∧ (allS2 (lcs (h,f,0) (triT t i ++ triK t i k)) = true) ∧ (m ≤ 10 * i + 2 * k) ∧ st = ⟨[(0,.yld 0),(1,.optr 8 0 0 0),(3,i64 i),(4,.optr 10 0 0 0),(5,.optr 11 0 0 0),(14,i64 ((t.length : Int) - 1)),(15,i64 i),(32,i64 (((t.getD i r0).ps.length : Int) - 1)),(33,i64 k)],⟨[⟨1,1,fun _=>[rowsA t],0,false,true,true⟩,⟨1,1,fun _=>[i64 h],0,false,true,true⟩,⟨1,1,fun _=>[i64 f],0,false,true,true⟩,⟨1,1,fun _=>[.eslice],0,false,true,true⟩,⟨1,1,fun _=>[i64 0],0,false,true,true⟩,⟨1,2,F5,0,false,true,false⟩,⟨1,2,F6,0,false,true,false⟩,⟨1,1,fun _=>[.oslice 9 0 0 m none],0,false,false,true⟩,⟨1,1,fun _=>[rowsA t],0,false,true,true⟩,⟨4,m,fun i=>lcC (fr2 ((locL t h f).getD i q2z)),0,false,true,false⟩,⟨2,1,fun _=>[i64 (t.getD i r0).o,ptsA (t.getD i r0).ps],0,false,true,true⟩,⟨2,1,fun _=>[i64 (t.getD (i + 1) r0).o,ptsA (t.getD (i + 1) r0).ps],0,false,true,true⟩],[],none,1⟩,[(3,.optr 0 0 0 0),(4,.optr 1 0 0 0),(5,.optr 2 0 0 0),(6,.optr 3 0 0 0),(7,.optr 4 0 0 0),(9,.optr 7 0 0 0),(27,.func (.func 155) 0 [.optr 8 0 0 0])]⟩ ∧ mq = npT t - 1 - k,
     ⟨_,_,⟨0,m,_,_,by omega,(by rw [hm]; congr 2; exact (List.append_nil _).symm),(by rw [show triT t i ++ triK t i 0 = triT t i from List.append_nil _]; exact hS),by omega,rfl,rfl⟩,⟨⟨.inl rfl,rfl,rfl,rfl⟩,⟨bA,⟨bA,⟨bA,⟨bA,⟨bA,⟨bA,⟨bA,⟨⟨rfl,rfl,rfl,rfl,nofun,fun _ _=>.inl rfl⟩,⟨bA,⟨bA,⟨bA,⟨bA,trivial⟩⟩⟩⟩⟩⟩⟩⟩⟩⟩⟩⟩,trivial⟩⟩,?_⟩
    rintro s0 m0 ⟨k,m,F5,F6,hk,hm,hS,hN,rfl,hmeas⟩
    by_cases hlt3 : k < npT t - 1
    ·have hU := triT_L hT _ (Nat.le_refl _) _ (triU_mem (t := t) hlt2 hlt3)
     have hD := triT_L hT _ (Nat.le_refl _) _ (triD_mem (t := t) hlt2 hlt3)
     have n1 : (m + 1) * (Tryz.prog.types[99].bytes + 1) ≤ 1000000000000 := by rw [hb]; omega
     have n2 : (m + 1 + 1) * (Tryz.prog.types[99].bytes + 1) ≤ 1000000000000 := by rw [hb]; omega
     have pD2 := preD (t := t) hlt2 hlt3
     have pD1 := (List.prefix_append ..).trans pD2
     have eK : triT t i ++ triK t i (k + 1) = triT t i ++ triK t i k ++ [triU t i k] ++ [triD t i k] := by
      show triT t i ++ (triK t i k ++ [triU t i k] ++ [triD t i k]) = _
      simp only [List.append_assoc]
     have c112U := S112 _ hU _ hpt
     have c112D := S112 _ hD _ hpt
     conv=>whnf
     conv=>whnf
     (conv=>whnf); refine ifB_dec (fun w2=>?_) (fun w2=>?_)
     ·conv=>whnf
      conv=>whnf
      (conv=>whnf); refine ⟨[(9,19),(13,19),(15,19)],by kernel_rfl,?_⟩
      conv=>whnf
      conv=>whnf
      (conv=>whnf); refine ⟨⟨(by omega),(by omega)⟩,?_⟩
      conv=>whnf
      conv=>whnf
      (conv=>whnf); refine ⟨inK64 (by omega) (by omega),?_⟩
      conv=>whnf
      conv=>whnf
      (conv=>whnf); refine ⟨⟨(by omega),(by omega)⟩,?_⟩
      conv=>whnf
      conv=>whnf
      (conv=>whnf); refine ⟨[(9,19),(13,19),(15,19)],by kernel_rfl,?_⟩
      conv=>whnf
      conv=>whnf
      (conv=>whnf); refine ⟨⟨(by omega),(by omega)⟩,?_⟩
      conv=>whnf
      conv=>whnf
      (conv=>whnf); refine ⟨inK64 (by omega) (by omega),?_⟩
      conv=>whnf
      conv=>whnf
      (conv=>whnf); refine ⟨⟨(by omega),(by omega)⟩,?_⟩
      conv=>whnf
      conv=>whnf
      (conv=>whnf); refine ⟨(by first | rfl | assumption),?_⟩
      conv=>whnf
      conv=>whnf
      (conv=>whnf); refine .inl ⟨_,_,byX rfl (Sound1.pl (c112U) rfl),?_⟩
      conv=>whnf
      conv=>whnf
      (conv=>whnf); refine ifB_bne (fun w3=>?_) (fun w3=>?_)
      ·conv=>whnf
       conv=>whnf
       (conv=>whnf); refine ⟨?_,nofun⟩
       exact loc_err (triU_mem (t := t) hlt2 hlt3) (by assumption)
      ·conv=>whnf
       conv=>whnf
       (conv=>whnf); refine ifB_intro (fun w4=>?_) (fun w4=>?_)
       ·conv=>whnf
        conv=>whnf
        (conv=>whnf); refine .inl ?_
        conv=>whnf
        conv=>whnf
        (conv=>whnf); refine ⟨(by show _ * (32 + 1) ≤ _; omega),?_⟩
        conv=>whnf
        conv=>whnf
        (conv=>whnf); refine ⟨(by first | rfl | assumption),?_⟩
        conv=>whnf
        conv=>whnf
        (conv=>whnf); refine .inl ⟨_,_,byX rfl (Sound1.pl (c112D) rfl),?_⟩
        conv=>whnf
        conv=>whnf
        (conv=>whnf); refine ifB_bne (fun w5=>?_) (fun w5=>?_)
        ·conv=>whnf
         conv=>whnf
         (conv=>whnf); refine ⟨?_,nofun⟩
         exact loc_err (triD_mem (t := t) hlt2 hlt3) (by assumption)
        ·conv=>whnf
         conv=>whnf
         (conv=>whnf); refine ifB_intro (fun w6=>?_) (fun w6=>?_)
         ·conv=>whnf
          conv=>whnf
          (conv=>whnf); refine .inl ?_
          conv=>whnf
          conv=>whnf
          (conv=>whnf); refine ⟨(by show _ * (32 + 1) ≤ _; omega),?_⟩
          conv=>whnf
          conv=>whnf
          (conv=>whnf); refine ⟨inK64 (by omega) (by omega),?_⟩
          obtain ⟨g1,g2,g3⟩ := lcR_add (x := triU t i k) (p := (h,f,0)) (by assumption) (by assumption)
          obtain ⟨g4,g5,g6⟩ := lcR_add (x := triD t i k) (p := (h,f,0)) (by assumption) (by assumption)
          have sU := st_yes g1 g2 hm hS
          have sD := st_yes g4 g5 sU.1 sU.2
          have aU := lc_at pD1 g1
          have aD := lc_at pD2 g4
          rw [← hm] at aU
          rw [← sU.1] at aD
          conv=>whnf
          conv=>whnf
          (conv=>whnf); refine ⟨_,_,⟨⟨k + 1,m + 1 + 1,_,_,by omega,(by rw [eK]; exact sD.1),(by rw [eK]; exact sD.2),by omega,rfl,rfl⟩,by omega⟩,⟨⟨.inl rfl,rfl,rfl,rfl⟩,⟨bA,⟨bA,⟨bA,⟨bA,⟨bA,⟨bA,⟨bA,⟨⟨rfl,rfl,rfl,rfl,nofun,fun _ _=>.inl rfl⟩,⟨bA,⟨⟨rfl,rfl,rfl,rfl,fun _=>rfl,fun i hi=>.inl (ap2 aU g3 aD g6 i hi)⟩,⟨bA,⟨bA,trivial⟩⟩⟩⟩⟩⟩⟩⟩⟩⟩⟩⟩,trivial⟩⟩
         ·conv=>whnf
          conv=>whnf
          (conv=>whnf); refine ⟨inK64 (by omega) (by omega),?_⟩
          obtain ⟨g1,g2,g3⟩ := lcR_add (x := triU t i k) (p := (h,f,0)) (by assumption) (by assumption)
          have g4 := lcR_skip (x := triD t i k) (p := (h,f,0)) (by assumption)
          have sU := st_yes g1 g2 hm hS
          have sD := st_no g4 sU.1 sU.2
          have aU := lc_at pD1 g1
          rw [← hm] at aU
          conv=>whnf
          conv=>whnf
          (conv=>whnf); refine ⟨_,_,⟨⟨k + 1,m + 1,_,_,by omega,(by rw [eK]; exact sD.1),(by rw [eK]; exact sD.2),by omega,rfl,rfl⟩,by omega⟩,⟨⟨.inl rfl,rfl,rfl,rfl⟩,⟨bA,⟨bA,⟨bA,⟨bA,⟨bA,⟨bA,⟨bA,⟨⟨rfl,rfl,rfl,rfl,nofun,fun _ _=>.inl rfl⟩,⟨bA,⟨⟨rfl,rfl,rfl,rfl,fun _=>rfl,fun i hi=>.inl (ap1 aU g3 i hi)⟩,⟨bA,⟨bA,trivial⟩⟩⟩⟩⟩⟩⟩⟩⟩⟩⟩⟩,trivial⟩⟩
       ·conv=>whnf
        conv=>whnf
        (conv=>whnf); refine ⟨(by first | rfl | assumption),?_⟩
        conv=>whnf
        conv=>whnf
        (conv=>whnf); refine .inl ⟨_,_,byX rfl (Sound1.pl (c112D) rfl),?_⟩
        conv=>whnf
        conv=>whnf
        (conv=>whnf); refine ifB_bne (fun w5=>?_) (fun w5=>?_)
        ·conv=>whnf
         conv=>whnf
         (conv=>whnf); refine ⟨?_,nofun⟩
         exact loc_err (triD_mem (t := t) hlt2 hlt3) (by assumption)
        ·conv=>whnf
         conv=>whnf
         (conv=>whnf); refine ifB_intro (fun w6=>?_) (fun w6=>?_)
         ·conv=>whnf
          conv=>whnf
          (conv=>whnf); refine .inl ?_
          conv=>whnf
          conv=>whnf
          (conv=>whnf); refine ⟨(by show _ * (32 + 1) ≤ _; omega),?_⟩
          conv=>whnf
          conv=>whnf
          (conv=>whnf); refine ⟨inK64 (by omega) (by omega),?_⟩
          have g1 := lcR_skip (x := triU t i k) (p := (h,f,0)) (by assumption)
          obtain ⟨g4,g5,g6⟩ := lcR_add (x := triD t i k) (p := (h,f,0)) (by assumption) (by assumption)
          have sU := st_no g1 hm hS
          have sD := st_yes g4 g5 sU.1 sU.2
          have aD := lc_at pD2 g4
          rw [← sU.1] at aD
          conv=>whnf
          conv=>whnf
          (conv=>whnf); refine ⟨_,_,⟨⟨k + 1,m + 1,_,_,by omega,(by rw [eK]; exact sD.1),(by rw [eK]; exact sD.2),by omega,rfl,rfl⟩,by omega⟩,⟨⟨.inl rfl,rfl,rfl,rfl⟩,⟨bA,⟨bA,⟨bA,⟨bA,⟨bA,⟨bA,⟨bA,⟨⟨rfl,rfl,rfl,rfl,nofun,fun _ _=>.inl rfl⟩,⟨bA,⟨⟨rfl,rfl,rfl,rfl,fun _=>rfl,fun i hi=>.inl (ap1 aD g6 i hi)⟩,⟨bA,⟨bA,trivial⟩⟩⟩⟩⟩⟩⟩⟩⟩⟩⟩⟩,trivial⟩⟩
         ·conv=>whnf
          conv=>whnf
          (conv=>whnf); refine ⟨inK64 (by omega) (by omega),?_⟩
          have g1 := lcR_skip (x := triU t i k) (p := (h,f,0)) (by assumption)
          have g4 := lcR_skip (x := triD t i k) (p := (h,f,0)) (by assumption)
          have sU := st_no g1 hm hS
          have sD := st_no g4 sU.1 sU.2
          conv=>whnf
          conv=>whnf
          (conv=>whnf); refine ⟨_,_,⟨⟨k + 1,m,_,_,by omega,(by rw [eK]; exact sD.1),(by rw [eK]; exact sD.2),by omega,rfl,rfl⟩,by omega⟩,⟨⟨.inl rfl,rfl,rfl,rfl⟩,⟨bA,⟨bA,⟨bA,⟨bA,⟨bA,⟨bA,⟨bA,⟨⟨rfl,rfl,rfl,rfl,nofun,fun _ _=>.inl rfl⟩,⟨bA,⟨bA,⟨bA,⟨bA,trivial⟩⟩⟩⟩⟩⟩⟩⟩⟩⟩⟩⟩,trivial⟩⟩
     ·(exfalso; omega)
    ·conv=>whnf
     conv=>whnf
     (conv=>whnf); refine ifB_dec (fun w2=>?_) (fun w2=>?_)
     ·(exfalso; omega)
     ·conv=>whnf
      conv=>whnf
      (conv=>whnf); refine ⟨inK64 (by omega) (by omega),?_⟩
      conv=>whnf
      conv=>whnf
      (conv=>whnf); refine ⟨_,_,⟨⟨i + 1,m,_,_,by omega,(by rw [hm,show k = npT t - 1 by omega]; rfl),(by rw [show k = npT t - 1 by omega] at hS; exact hS),by omega,rfl,rfl⟩,by omega⟩,⟨⟨.inl rfl,rfl,rfl,rfl⟩,⟨bA,⟨bA,⟨bA,⟨bA,⟨bA,⟨bA,⟨bA,⟨⟨rfl,rfl,rfl,rfl,nofun,fun _ _=>.inl rfl⟩,⟨bA,⟨bA,trivial⟩⟩⟩⟩⟩⟩⟩⟩⟩⟩,trivial⟩⟩
   ·(exfalso; omega)
  ·have hF : m = (locL t h f).length := by rw [hm, show i = t.length - 1 by omega]; rfl
   have hall : allS2 (locL t h f) = true := by rw [show i = t.length - 1 by omega] at hS; exact hS
   rw [if_pos hall,if_pos hall]
   obtain ⟨R,hp',hs',h113⟩ := S113 (locL t h f) (fun q hq=>of_decide_eq_true (List.all_eq_true.1 hall q hq)) (by omega)
   have hE : compL R = lcS t (h,f,0) := loc_sort hp' hs'
   have hl' := hp'.length_eq
   rw [← hE]
   rw [← hF] at hl' h113 ⊢
   subst hl'
   have h78 := S78
   by_cases hm0 : R.length = 0
   ·obtain rfl : R = [] := List.eq_nil_of_length_eq_zero (by omega)
    have h113z := S113z
    have h116z := S116z 0 (by omega)
    conv=>whnf
    (conv=>whnf); refine ifB_dec (fun w1=>?_) (fun w1=>?_)
    ·(exfalso; omega)
    ·conv=>whnf
     (conv=>whnf); refine .inl ⟨_,_,byX rfl (Sound1.pl (h113z _) rfl),?_⟩
     conv=>whnf
     (conv=>whnf); refine ⟨[],by kernel_rfl,?_⟩
     conv=>whnf
     (conv=>whnf); refine .inl ⟨_,_,byX rfl (h116z _),?_⟩
     conv=>whnf
     (conv=>whnf); refine .inl ⟨_,_,byX rfl (Sound1.pl (h78 _ _) rfl),?_⟩
     conv=>whnf
     (conv=>whnf); refine ⟨?_,nofun⟩
     exact ave_tup2 ⟨rfl,rfl,fun i h=>absurd h (Nat.not_lt_zero i)⟩ rfl
   ·have hm1 : 0 < R.length := by omega
    have hE2 : i64 (if decide ((R.length : Int) > 0) = true then 0 else 12) = i64 (if 0 < R.length then 0 else 12) := by rw [if_pos (decide_eq_true (by omega)),if_pos hm1]
    conv=>whnf
    (conv=>whnf); refine ifB_dec (fun w1=>?_) (fun w1=>?_)
    ·(exfalso; omega)
    ·conv => whnf
     (conv=>whnf); refine .inr (.inr (.inl (inM _ rfl rfl (by omega) (show 0 + R.length ≤ R.length by omega) (byM rfl h113) ?_)))
     conv=>whnf
     conv=>whnf
     (conv=>whnf); refine ⟨[(0,1000003)],[[0,1,2,3,4,5,6,7],[0,2,1,3,4,5,6,7],[0,2,3,1,4,5,6,7],[0,2,3,4,1,5,6,7],[2,0,1,3,4,5,6,7],[2,0,3,1,4,5,6,7],[2,0,3,4,1,5,6,7],[2,3,0,1,4,5,6,7],[2,3,0,4,1,5,6,7],[2,3,4,0,1,5,6,7]],by kernel_rfl,?_,?_,?_,?_,?_,?_,?_,?_,?_,?_,trivial⟩
     ·conv => whnf
      conv=>whnf
      (conv=>whnf); refine .inr (.inl ⟨[],?_⟩)
      conv=>whnf
      conv=>whnf
      (conv=>whnf); refine ifB_dec (fun w2=>?_) (fun w2=>?_)
      ·conv=>whnf
       conv=>whnf
       (conv=>whnf); refine .inl ⟨_,_,byX rfl (Sound1.pl (h78 _ _) rfl),?_⟩
       conv=>whnf
       conv=>whnf
       (conv=>whnf); refine ⟨?_,nofun⟩
       rw [compL_one (by omega)]
       exact ave_tup2 ⟨rfl,rfl,fun i hi=>(srt_row (A := lcC (fr2 ((locL t h f).getD i q2z))) (B := lcC (fr2 ((locL t h f).getD i q2z))) hi).symm⟩ hE2
      ·conv => whnf
       conv=>whnf
       (conv=>whnf); refine ⟨[.forget [0,1,2,3,4,5,8,10,11,12,13,14,15,16,17,18,19,20,21,22,23,24,25,26,27,28,29,30,31,32,33,34,35,36,37,38,39,40,41,42,43,44,45,46,47,48,49,50,51,52,53,54,55,56,57,58,59]],[0,3],fun st mq=>∃ (k : Nat) (F0 : Nat → List AV) (F1 : Nat → List AV) (F2 : Nat → List AV) (F5 : Nat → List AV) (F6 : Nat → List AV) (F8 : Nat → List AV),(1 ≤ k) ∧ (k ≤ R.length) ∧ (compL (R.take k) = R.take k) ∧ st = ⟨[(0,.oslice 9 0 0 R.length none),(3,i64 k)],⟨[⟨1,1,F0,0,false,true,false⟩,⟨1,1,F1,0,false,true,false⟩,⟨1,1,F2,0,false,true,false⟩,⟨1,1,fun _=>[.eslice],0,false,true,true⟩,⟨1,1,fun _=>[i64 0],0,false,true,true⟩,⟨1,2,F5,0,false,true,false⟩,⟨1,2,F6,0,false,true,false⟩,⟨1,1,fun _=>[.oslice 9 0 0 R.length none],0,false,false,true⟩,⟨1,1,F8,0,false,true,false⟩,⟨4,R.length,fun i=>lcC (fr2 (R.getD i q2z)),0,false,true,false⟩],[],none,1⟩,[(6,.optr 3 0 0 0),(7,.optr 4 0 0 0),(9,.optr 7 0 0 0)]⟩ ∧ mq = R.length - k,
        ⟨_,_,⟨1,_,_,_,_,_,_,by omega,by omega,compL_one (by rw [List.length_take]; omega),rfl,rfl⟩,⟨⟨.inl rfl,rfl,rfl,rfl⟩,⟨bA,⟨bA,⟨bA,⟨bA,⟨bA,⟨bA,⟨bA,⟨⟨rfl,rfl,rfl,rfl,nofun,fun _ _=>.inl rfl⟩,⟨bA,⟨⟨rfl,rfl,rfl,rfl,fun _=>rfl,fun i hi=>.inl (srt_row (A := lcC (fr2 ((locL t h f).getD i q2z))) (B := lcC (fr2 ((locL t h f).getD i q2z))) hi)⟩,trivial⟩⟩⟩⟩⟩⟩⟩⟩⟩⟩,trivial⟩⟩,?_⟩
       rintro s0 m0 ⟨k,F0,F1,F2,F5,F6,F8,hk1,hk2,hc,rfl,hmeas⟩
       have ek : ((k : Int) - 1).toNat = k - 1 := by omega
       by_cases hlt : k < R.length
       ·have hv := lc_veq (R.getD (0 + (k : Int).toNat) q2z) (R.getD (0 + ((k : Int) - 1).toNat) q2z)
        have hz : 0 ≤ (k : Int) ∧ (k : Int) ≤ (R.length : Int) ∧ ((0 : Nat) : Int) + (R.length : Int) ≤ (R.length : Int) := ⟨by omega,by omega,by omega⟩
        by_cases he : R.getD k q2z = R.getD (k - 1) q2z
        ·rw [decide_eq_true (by rw [ek, Nat.zero_add, Nat.zero_add]; exact he)] at hv
         conv=>whnf
         conv=>whnf
         conv=>whnf
         (conv=>whnf); refine ifB_dec (fun w3=>?_) (fun w3=>?_)
         ·conv => whnf
          conv=>whnf
          conv=>whnf
          (conv=>whnf); refine ⟨[],by kernel_rfl,?_⟩
          conv=>whnf
          conv=>whnf
          conv=>whnf
          (conv=>whnf); refine ⟨⟨(by omega),(by omega)⟩,?_⟩
          conv=>whnf
          conv=>whnf
          conv=>whnf
          (conv=>whnf); refine ⟨inK64 (by omega) (by omega),?_⟩
          conv=>whnf
          conv=>whnf
          conv=>whnf
          (conv=>whnf); refine ⟨⟨(by omega),(by omega)⟩,?_⟩
          conv=>whnf
          conv=>whnf
          conv=>whnf
          (conv=>whnf); refine ifB_intro (fun w4=>?_) (fun w4=>?_)
          ·conv=>whnf
           conv=>whnf
           conv=>whnf
           (conv=>whnf); refine ⟨by assumption,?_⟩
           conv=>whnf
           conv=>whnf
           conv=>whnf
           (conv=>whnf); refine ⟨[],[0,3,4,5],fun st mq=>∃ (k1 : Nat) (q : Nat) (a : List Q2) (F0 : Nat → List AV) (F1 : Nat → List AV) (F2 : Nat → List AV) (F5 : Nat → List AV) (F6 : Nat → List AV) (F8 : Nat → List AV),(1 ≤ q) ∧ (CmpI q2z R a k1 (k + q)) ∧ st = ⟨[(0,.oslice 9 0 0 R.length none),(3,i64 k1),(4,.oslice 9 0 (0 + (k : Int).toNat) ((R.length : Int) - (k : Int)).toNat none),(5,i64 q)],⟨[⟨1,1,F0,0,false,true,false⟩,⟨1,1,F1,0,false,true,false⟩,⟨1,1,F2,0,false,true,false⟩,⟨1,1,fun _=>[.eslice],0,false,true,true⟩,⟨1,1,fun _=>[i64 0],0,false,true,true⟩,⟨1,2,F5,0,false,true,false⟩,⟨1,2,F6,0,false,true,false⟩,⟨1,1,fun _=>[.oslice 9 0 0 R.length none],0,false,false,true⟩,⟨1,1,F8,0,false,true,false⟩,⟨4,R.length,fun i=>lcC (fr2 (a.getD i q2z)),0,false,true,false⟩],[],none,1⟩,[(6,.optr 3 0 0 0),(7,.optr 4 0 0 0),(9,.optr 7 0 0 0)]⟩ ∧ mq = R.length - k - q,
            ⟨_,_,⟨k,1,R,_,_,_,_,_,_,by omega,cmpI_start hk1 hlt hc he,rfl,rfl⟩,⟨⟨.inl rfl,rfl,rfl,rfl⟩,⟨bA,⟨bA,⟨bA,⟨bA,⟨bA,⟨bA,⟨bA,⟨⟨rfl,rfl,rfl,rfl,nofun,fun _ _=>.inl rfl⟩,⟨bA,⟨bA,trivial⟩⟩⟩⟩⟩⟩⟩⟩⟩⟩,trivial⟩⟩,?_⟩
           rintro s0 m0 ⟨k1,q,a,F0,F1,F2,F5,F6,F8,hq,hI,rfl,hmeas⟩
           have hkp := hI.kp
           have hal1 := hI.len
           by_cases hlt2 : k + q < R.length
           ·have hv2 := lc_veq (a.getD (0 + (k : Int).toNat + (q : Int).toNat) q2z) (a.getD (0 + (k : Int).toNat + ((q : Int) - 1).toNat) q2z)
            have ep : 0 + (k : Int).toNat + ((q : Int) - 1).toNat = k + q - 1 := by omega
            have eq0 : 0 + (k : Int).toNat + (q : Int).toNat = k + q := by omega
            by_cases he2 : a.getD (k + q) q2z = a.getD (k + q - 1) q2z
            ·rw [decide_eq_true (by rw [ep,eq0]; exact he2)] at hv2
             conv=>whnf
             conv=>whnf
             conv=>whnf
             conv=>whnf
             (conv=>whnf); refine ifB_dec (fun w5=>?_) (fun w5=>?_)
             ·conv=>whnf
              conv=>whnf
              conv=>whnf
              conv=>whnf
              (conv=>whnf); refine ⟨[],by kernel_rfl,?_⟩
              conv=>whnf
              conv=>whnf
              conv=>whnf
              conv=>whnf
              (conv=>whnf); refine ⟨⟨(by omega),(by omega)⟩,?_⟩
              conv=>whnf
              conv=>whnf
              conv=>whnf
              conv=>whnf
              (conv=>whnf); refine ⟨inK64 (by omega) (by omega),?_⟩
              conv=>whnf
              conv=>whnf
              conv=>whnf
              conv=>whnf
              (conv=>whnf); refine ⟨⟨(by omega),(by omega)⟩,?_⟩
              conv=>whnf
              conv=>whnf
              conv=>whnf
              conv=>whnf
              (conv=>whnf); refine ifB_not ?_
              conv=>whnf
              conv=>whnf
              conv=>whnf
              conv=>whnf
              (conv=>whnf); refine ifB_intro (fun w6=>?_) (fun w6=>?_)
              ·conv=>whnf
               conv=>whnf
               conv=>whnf
               conv=>whnf
               (conv=>whnf); refine ⟨inK64 (by omega) (by omega),?_⟩
               conv=>whnf
               conv=>whnf
               conv=>whnf
               conv=>whnf
               (conv=>whnf); refine ⟨_,_,⟨⟨k1,q + 1,a,_,_,_,_,_,_,by omega,hI.same hlt2 he2,rfl,rfl⟩,by omega⟩,⟨⟨.inl rfl,rfl,rfl,rfl⟩,⟨bA,⟨bA,⟨bA,⟨bA,⟨bA,⟨bA,⟨bA,⟨⟨rfl,rfl,rfl,rfl,nofun,fun _ _=>.inl rfl⟩,⟨bA,⟨bA,trivial⟩⟩⟩⟩⟩⟩⟩⟩⟩⟩,trivial⟩⟩
              ·exact absurd (hv2.symm.trans w6) nofun
             ·(exfalso; omega)
            ·rw [decide_eq_false (by rw [ep,eq0]; exact he2)] at hv2
             have hrow := fun i : Nat=>rowG (n := 4) (fun e=>lcC (fr2 e)) (fun _=>rfl) q2z a (k1 : Int).toNat i (a.getD (0 + (k : Int).toNat + (q : Int).toNat) q2z) (by omega)
             conv=>whnf
             conv=>whnf
             conv=>whnf
             conv=>whnf
             (conv=>whnf); refine ifB_dec (fun w5=>?_) (fun w5=>?_)
             ·conv=>whnf
              conv=>whnf
              conv=>whnf
              conv=>whnf
              (conv=>whnf); refine ⟨[],by kernel_rfl,?_⟩
              conv=>whnf
              conv=>whnf
              conv=>whnf
              conv=>whnf
              (conv=>whnf); refine ⟨⟨(by omega),(by omega)⟩,?_⟩
              conv=>whnf
              conv=>whnf
              conv=>whnf
              conv=>whnf
              (conv=>whnf); refine ⟨inK64 (by omega) (by omega),?_⟩
              conv=>whnf
              conv=>whnf
              conv=>whnf
              conv=>whnf
              (conv=>whnf); refine ⟨⟨(by omega),(by omega)⟩,?_⟩
              conv=>whnf
              conv=>whnf
              conv=>whnf
              conv=>whnf
              (conv=>whnf); refine ifB_not ?_
              conv=>whnf
              conv=>whnf
              conv=>whnf
              conv=>whnf
              (conv=>whnf); refine ifB_intro (fun w6=>?_) (fun w6=>?_)
              ·exact absurd (hv2.symm.trans w6) nofun
              ·conv=>whnf
               conv=>whnf
               conv=>whnf
               conv=>whnf
               (conv=>whnf); refine ⟨⟨(by omega),(by omega)⟩,?_⟩
               conv=>whnf
               conv=>whnf
               conv=>whnf
               conv=>whnf
               (conv=>whnf); refine ⟨⟨(by omega),(by omega)⟩,?_⟩
               refine ⟨_,fun i _=>hrow i,?_⟩
               conv=>whnf
               conv=>whnf
               conv=>whnf
               conv=>whnf
               (conv=>whnf); refine ⟨inK64 (by omega) (by omega),?_⟩
               conv=>whnf
               conv=>whnf
               conv=>whnf
               conv=>whnf
               (conv=>whnf); refine ⟨inK64 (by omega) (by omega),?_⟩
               conv=>whnf
               conv=>whnf
               conv=>whnf
               conv=>whnf
               (conv=>whnf); refine ⟨_,_,⟨⟨k1 + 1,q + 1,a.set k1 (a.getD (0 + (k : Int).toNat + (q : Int).toNat) q2z),_,_,_,_,_,_,by omega,(by rw [eq0]; exact hI.put hlt2 he2),rfl,rfl⟩,by omega⟩,⟨⟨.inl rfl,rfl,rfl,rfl⟩,⟨bA,⟨bA,⟨bA,⟨bA,⟨bA,⟨bA,⟨bA,⟨⟨rfl,rfl,rfl,rfl,nofun,fun _ _=>.inl rfl⟩,⟨bA,⟨bA,trivial⟩⟩⟩⟩⟩⟩⟩⟩⟩⟩,trivial⟩⟩
             ·(exfalso; omega)
           ·have hf := hI.fin hlt2
            have hz2 : 0 ≤ (k1 : Int) ∧ (k1 : Int) ≤ (R.length : Int) ∧ ((0 : Nat) : Int) + (R.length : Int) ≤ (R.length : Int) := ⟨by omega,by omega,by omega⟩
            have hz3 : 0 ≤ (0 : Int) ∧ (0 : Int) ≤ (k1 : Int) ∧ ((0 : Nat) : Int) + (k1 : Int) ≤ (R.length : Int) := ⟨by omega,by omega,by omega⟩
            conv=>whnf
            conv=>whnf
            conv=>whnf
            conv=>whnf
            (conv=>whnf); refine ifB_dec (fun w5=>?_) (fun w5=>?_)
            ·(exfalso; omega)
            ·conv=>whnf
             conv=>whnf
             conv=>whnf
             conv=>whnf
             (conv=>whnf); refine ⟨by assumption,?_⟩
             conv=>whnf
             conv=>whnf
             conv=>whnf
             conv=>whnf
             (conv=>whnf); refine ⟨by assumption,?_⟩
             conv=>whnf
             conv=>whnf
             conv=>whnf
             conv=>whnf
             (conv=>whnf); refine .inl ⟨_,_,byX rfl (Sound1.pl (S78 _ _) rfl),?_⟩
             conv=>whnf
             conv=>whnf
             conv=>whnf
             conv=>whnf
             (conv=>whnf); refine ⟨?_,nofun⟩
             exact ave_tup2 ⟨rfl,(by have := hf.1; omega),fun i hi=>(if_neg (by omega)).trans (congrArg (fun e=>lcC (fr2 e)) (hf.2 i (by omega)))⟩ hE2
          ·exact absurd (hv.symm.trans w4) nofun
         ·(exfalso; omega)
        ·rw [decide_eq_false (by rw [ek,Nat.zero_add,Nat.zero_add]; exact he)] at hv
         conv=>whnf
         conv=>whnf
         conv=>whnf
         (conv=>whnf); refine ifB_dec (fun w3=>?_) (fun w3=>?_)
         ·conv=>whnf
          conv=>whnf
          conv=>whnf
          (conv=>whnf); refine ⟨[],by kernel_rfl,?_⟩
          conv=>whnf
          conv=>whnf
          conv=>whnf
          (conv=>whnf); refine ⟨⟨(by omega),(by omega)⟩,?_⟩
          conv=>whnf
          conv=>whnf
          conv=>whnf
          (conv=>whnf); refine ⟨inK64 (by omega) (by omega),?_⟩
          conv=>whnf
          conv=>whnf
          conv=>whnf
          (conv=>whnf); refine ⟨⟨(by omega),(by omega)⟩,?_⟩
          conv=>whnf
          conv=>whnf
          conv=>whnf
          (conv=>whnf); refine ifB_intro (fun w4=>?_) (fun w4=>?_)
          ·exact absurd (hv.symm.trans w4) nofun
          ·conv=>whnf
           conv=>whnf
           conv=>whnf
           (conv=>whnf); refine ⟨inK64 (by omega) (by omega),?_⟩
           conv=>whnf
           conv=>whnf
           conv=>whnf
           (conv=>whnf); refine ⟨_,_,⟨⟨k + 1,_,_,_,_,_,_,by omega,by omega,comp_go hk1 hlt hc he,rfl,rfl⟩,by omega⟩,⟨⟨.inl rfl,rfl,rfl,rfl⟩,⟨bA,⟨bA,⟨bA,⟨bA,⟨bA,⟨bA,⟨bA,⟨⟨rfl,rfl,rfl,rfl,nofun,fun _ _=>.inl rfl⟩,⟨bA,⟨bA,trivial⟩⟩⟩⟩⟩⟩⟩⟩⟩⟩,trivial⟩⟩
         ·(exfalso; omega)
       ·obtain rfl : k = R.length := by omega
        rw [List.take_length] at hc
        rw [hc]
        conv=>whnf
        conv=>whnf
        conv=>whnf
        (conv=>whnf); refine ifB_dec (fun w3=>?_) (fun w3=>?_)
        ·(exfalso; omega)
        ·conv=>whnf
         conv=>whnf
         conv=>whnf
         (conv=>whnf); refine .inl ⟨_,_,byX rfl (Sound1.pl (S78 _ _) rfl),?_⟩
         conv=>whnf
         conv=>whnf
         conv=>whnf
         (conv=>whnf); refine ⟨?_,nofun⟩
         exact ave_tup2 ⟨rfl,rfl,fun _ _=>rfl⟩ hE2
     ·conv => whnf
      conv=>whnf
      (conv=>whnf); refine .inr (.inl ⟨[],?_⟩)
      conv=>whnf
      conv=>whnf
      (conv=>whnf); refine ifB_dec (fun w2=>?_) (fun w2=>?_)
      ·conv=>whnf
       conv=>whnf
       (conv=>whnf); refine .inl ⟨_,_,byX rfl (Sound1.pl (h78 _ _) rfl),?_⟩
       conv=>whnf
       conv=>whnf
       (conv=>whnf); refine ⟨?_,nofun⟩
       rw [compL_one (by omega)]
       exact ave_tup2 ⟨rfl,rfl,fun i hi=>(srt_row (A := lcC (fr2 ((locL t h f).getD i q2z))) (B := lcC (fr2 ((locL t h f).getD i q2z))) hi).symm⟩ hE2
      ·conv => whnf
       conv=>whnf
       (conv=>whnf); refine ⟨[.forget [0,1,2,3,4,5,8,10,11,12,13,14,15,16,17,18,19,20,21,22,23,24,25,26,27,28,29,30,31,32,33,34,35,36,37,38,39,40,41,42,43,44,45,46,47,48,49,50,52,53,54,55,56,57,58,59]],[0,3],fun st mq=>∃ (k : Nat) (F0 : Nat → List AV) (F1 : Nat → List AV) (F2 : Nat → List AV) (F5 : Nat → List AV) (F6 : Nat → List AV) (F8 : Nat → List AV),(1 ≤ k) ∧ (k ≤ R.length) ∧ (compL (R.take k) = R.take k) ∧ st = ⟨[(0,.oslice 9 0 0 R.length none),(3,i64 k)],⟨[⟨1,1,F0,0,false,true,false⟩,⟨1,1,F1,0,false,true,false⟩,⟨1,1,F2,0,false,true,false⟩,⟨1,1,fun _=>[.eslice],0,false,true,true⟩,⟨1,1,fun _=>[i64 0],0,false,true,true⟩,⟨1,2,F5,0,false,true,false⟩,⟨1,2,F6,0,false,true,false⟩,⟨1,1,fun _=>[.oslice 9 0 0 R.length none],0,false,false,true⟩,⟨1,1,F8,0,false,true,false⟩,⟨4,R.length,fun i=>lcC (fr2 (R.getD i q2z)),0,false,true,false⟩],[],none,1⟩,[(51,.oslice 9 0 0 R.length none),(6,.optr 3 0 0 0),(7,.optr 4 0 0 0),(9,.optr 7 0 0 0)]⟩ ∧ mq = R.length - k,
        ⟨_,_,⟨1,_,_,_,_,_,_,by omega,by omega,compL_one (by rw [List.length_take]; omega),rfl,rfl⟩,⟨⟨.inl rfl,rfl,rfl,rfl⟩,⟨bA,⟨bA,⟨bA,⟨bA,⟨bA,⟨bA,⟨bA,⟨⟨rfl,rfl,rfl,rfl,nofun,fun _ _=>.inl rfl⟩,⟨bA,⟨⟨rfl,rfl,rfl,rfl,fun _=>rfl,fun i hi=>.inl (srt_row (A := lcC (fr2 ((locL t h f).getD i q2z))) (B := lcC (fr2 ((locL t h f).getD i q2z))) hi)⟩,trivial⟩⟩⟩⟩⟩⟩⟩⟩⟩⟩,trivial⟩⟩,?_⟩
       rintro s0 m0 ⟨k,F0,F1,F2,F5,F6,F8,hk1,hk2,hc,rfl,hmeas⟩
       have ek : ((k : Int) - 1).toNat = k - 1 := by omega
       by_cases hlt : k < R.length
       ·have hv := lc_veq (R.getD (0 + (k : Int).toNat) q2z) (R.getD (0 + ((k : Int) - 1).toNat) q2z)
        have hz : 0 ≤ (k : Int) ∧ (k : Int) ≤ (R.length : Int) ∧ ((0 : Nat) : Int) + (R.length : Int) ≤ (R.length : Int) := ⟨by omega,by omega,by omega⟩
        by_cases he : R.getD k q2z = R.getD (k - 1) q2z
        ·rw [decide_eq_true (by rw [ek, Nat.zero_add, Nat.zero_add]; exact he)] at hv
         conv=>whnf
         conv=>whnf
         conv=>whnf
         (conv=>whnf); refine ifB_dec (fun w3=>?_) (fun w3=>?_)
         ·conv => whnf
          conv=>whnf
          conv=>whnf
          (conv=>whnf); refine ⟨[],by kernel_rfl,?_⟩
          conv=>whnf
          conv=>whnf
          conv=>whnf
          (conv=>whnf); refine ⟨⟨(by omega),(by omega)⟩,?_⟩
          conv=>whnf
          conv=>whnf
          conv=>whnf
          (conv=>whnf); refine ⟨inK64 (by omega) (by omega),?_⟩
          conv=>whnf
          conv=>whnf
          conv=>whnf
          (conv=>whnf); refine ⟨⟨(by omega),(by omega)⟩,?_⟩
          conv=>whnf
          conv=>whnf
          conv=>whnf
          (conv=>whnf); refine ifB_intro (fun w4=>?_) (fun w4=>?_)
          ·conv=>whnf
           conv=>whnf
           conv=>whnf
           (conv=>whnf); refine ⟨by assumption,?_⟩
           conv=>whnf
           conv=>whnf
           conv=>whnf
           (conv=>whnf); refine ⟨[],[0,3,4,5],fun st mq=>∃ (k1 : Nat) (q : Nat) (a : List Q2) (F0 : Nat → List AV) (F1 : Nat → List AV) (F2 : Nat → List AV) (F5 : Nat → List AV) (F6 : Nat → List AV) (F8 : Nat → List AV),(1 ≤ q) ∧ (CmpI q2z R a k1 (k + q)) ∧ st = ⟨[(0,.oslice 9 0 0 R.length none),(3,i64 k1),(4,.oslice 9 0 (0 + (k : Int).toNat) ((R.length : Int) - (k : Int)).toNat none),(5,i64 q)],⟨[⟨1,1,F0,0,false,true,false⟩,⟨1,1,F1,0,false,true,false⟩,⟨1,1,F2,0,false,true,false⟩,⟨1,1,fun _=>[.eslice],0,false,true,true⟩,⟨1,1,fun _=>[i64 0],0,false,true,true⟩,⟨1,2,F5,0,false,true,false⟩,⟨1,2,F6,0,false,true,false⟩,⟨1,1,fun _=>[.oslice 9 0 0 R.length none],0,false,false,true⟩,⟨1,1,F8,0,false,true,false⟩,⟨4,R.length,fun i=>lcC (fr2 (a.getD i q2z)),0,false,true,false⟩],[],none,1⟩,[(51,.oslice 9 0 0 R.length none),(6,.optr 3 0 0 0),(7,.optr 4 0 0 0),(9,.optr 7 0 0 0)]⟩ ∧ mq = R.length - k - q,
            ⟨_,_,⟨k,1,R,_,_,_,_,_,_,by omega,cmpI_start hk1 hlt hc he,rfl,rfl⟩,⟨⟨.inl rfl,rfl,rfl,rfl⟩,⟨bA,⟨bA,⟨bA,⟨bA,⟨bA,⟨bA,⟨bA,⟨⟨rfl,rfl,rfl,rfl,nofun,fun _ _=>.inl rfl⟩,⟨bA,⟨bA,trivial⟩⟩⟩⟩⟩⟩⟩⟩⟩⟩,trivial⟩⟩,?_⟩
           rintro s0 m0 ⟨k1,q,a,F0,F1,F2,F5,F6,F8,hq,hI,rfl,hmeas⟩
           have hkp := hI.kp
           have hal1 := hI.len
           by_cases hlt2 : k + q < R.length
           ·have hv2 := lc_veq (a.getD (0 + (k : Int).toNat + (q : Int).toNat) q2z) (a.getD (0 + (k : Int).toNat + ((q : Int) - 1).toNat) q2z)
            have ep : 0 + (k : Int).toNat + ((q : Int) - 1).toNat = k + q - 1 := by omega
            have eq0 : 0 + (k : Int).toNat + (q : Int).toNat = k + q := by omega
            by_cases he2 : a.getD (k + q) q2z = a.getD (k + q - 1) q2z
            ·rw [decide_eq_true (by rw [ep,eq0]; exact he2)] at hv2
             conv=>whnf
             conv=>whnf
             conv=>whnf
             conv=>whnf
             (conv=>whnf); refine ifB_dec (fun w5=>?_) (fun w5=>?_)
             ·conv=>whnf
              conv=>whnf
              conv=>whnf
              conv=>whnf
              (conv=>whnf); refine ⟨[],by kernel_rfl,?_⟩
              conv=>whnf
              conv=>whnf
              conv=>whnf
              conv=>whnf
              (conv=>whnf); refine ⟨⟨(by omega),(by omega)⟩,?_⟩
              conv=>whnf
              conv=>whnf
              conv=>whnf
              conv=>whnf
              (conv=>whnf); refine ⟨inK64 (by omega) (by omega),?_⟩
              conv=>whnf
              conv=>whnf
              conv=>whnf
              conv=>whnf
              (conv=>whnf); refine ⟨⟨(by omega),(by omega)⟩,?_⟩
              conv=>whnf
              conv=>whnf
              conv=>whnf
              conv=>whnf
              (conv=>whnf); refine ifB_not ?_
              conv=>whnf
              conv=>whnf
              conv=>whnf
              conv=>whnf
              (conv=>whnf); refine ifB_intro (fun w6=>?_) (fun w6=>?_)
              ·conv=>whnf
               conv=>whnf
               conv=>whnf
               conv=>whnf
               (conv=>whnf); refine ⟨inK64 (by omega) (by omega),?_⟩
               conv=>whnf
               conv=>whnf
               conv=>whnf
               conv=>whnf
               (conv=>whnf); refine ⟨_,_,⟨⟨k1,q + 1,a,_,_,_,_,_,_,by omega,hI.same hlt2 he2,rfl,rfl⟩,by omega⟩,⟨⟨.inl rfl,rfl,rfl,rfl⟩,⟨bA,⟨bA,⟨bA,⟨bA,⟨bA,⟨bA,⟨bA,⟨⟨rfl,rfl,rfl,rfl,nofun,fun _ _=>.inl rfl⟩,⟨bA,⟨bA,trivial⟩⟩⟩⟩⟩⟩⟩⟩⟩⟩,trivial⟩⟩
              ·exact absurd (hv2.symm.trans w6) nofun
             ·(exfalso; omega)
            ·rw [decide_eq_false (by rw [ep,eq0]; exact he2)] at hv2
             have hrow := fun i : Nat=>rowG (n := 4) (fun e=>lcC (fr2 e)) (fun _=>rfl) q2z a (k1 : Int).toNat i (a.getD (0 + (k : Int).toNat + (q : Int).toNat) q2z) (by omega)
             conv=>whnf
             conv=>whnf
             conv=>whnf
             conv=>whnf
             (conv=>whnf); refine ifB_dec (fun w5=>?_) (fun w5=>?_)
             ·conv=>whnf
              conv=>whnf
              conv=>whnf
              conv=>whnf
              (conv=>whnf); refine ⟨[],by kernel_rfl,?_⟩
              conv=>whnf
              conv=>whnf
              conv=>whnf
              conv=>whnf
              (conv=>whnf); refine ⟨⟨(by omega),(by omega)⟩,?_⟩
              conv=>whnf
              conv=>whnf
              conv=>whnf
              conv=>whnf
              (conv=>whnf); refine ⟨inK64 (by omega) (by omega),?_⟩
              conv=>whnf
              conv=>whnf
              conv=>whnf
              conv=>whnf
              (conv=>whnf); refine ⟨⟨(by omega),(by omega)⟩,?_⟩
              conv=>whnf
              conv=>whnf
              conv=>whnf
              conv=>whnf
              (conv=>whnf); refine ifB_not ?_
              conv=>whnf
              conv=>whnf
              conv=>whnf
              conv=>whnf
              (conv=>whnf); refine ifB_intro (fun w6=>?_) (fun w6=>?_)
              ·exact absurd (hv2.symm.trans w6) nofun
              ·conv=>whnf
               conv=>whnf
               conv=>whnf
               conv=>whnf
               (conv=>whnf); refine ⟨⟨(by omega),(by omega)⟩,?_⟩
               conv=>whnf
               conv=>whnf
               conv=>whnf
               conv=>whnf
               (conv=>whnf); refine ⟨⟨(by omega),(by omega)⟩,?_⟩
               refine ⟨_,fun i _=>hrow i,?_⟩
               conv=>whnf
               conv=>whnf
               conv=>whnf
               conv=>whnf
               (conv=>whnf); refine ⟨inK64 (by omega) (by omega),?_⟩
               conv=>whnf
               conv=>whnf
               conv=>whnf
               conv=>whnf
               (conv=>whnf); refine ⟨inK64 (by omega) (by omega),?_⟩
               conv=>whnf
               conv=>whnf
               conv=>whnf
               conv=>whnf
               (conv=>whnf); refine ⟨_,_,⟨⟨k1 + 1,q + 1,a.set k1 (a.getD (0 + (k : Int).toNat + (q : Int).toNat) q2z),_,_,_,_,_,_,by omega,(by rw [eq0]; exact hI.put hlt2 he2),rfl,rfl⟩,by omega⟩,⟨⟨.inl rfl,rfl,rfl,rfl⟩,⟨bA,⟨bA,⟨bA,⟨bA,⟨bA,⟨bA,⟨bA,⟨⟨rfl,rfl,rfl,rfl,nofun,fun _ _=>.inl rfl⟩,⟨bA,⟨bA,trivial⟩⟩⟩⟩⟩⟩⟩⟩⟩⟩,trivial⟩⟩
             ·(exfalso; omega)
           ·have hf := hI.fin hlt2
            have hz2 : 0 ≤ (k1 : Int) ∧ (k1 : Int) ≤ (R.length : Int) ∧ ((0 : Nat) : Int) + (R.length : Int) ≤ (R.length : Int) := ⟨by omega,by omega,by omega⟩
            have hz3 : 0 ≤ (0 : Int) ∧ (0 : Int) ≤ (k1 : Int) ∧ ((0 : Nat) : Int) + (k1 : Int) ≤ (R.length : Int) := ⟨by omega,by omega,by omega⟩
            conv=>whnf
            conv=>whnf
            conv=>whnf
            conv=>whnf
            (conv=>whnf); refine ifB_dec (fun w5=>?_) (fun w5=>?_)
            ·(exfalso; omega)
            ·conv=>whnf
             conv=>whnf
             conv=>whnf
             conv=>whnf
             (conv=>whnf); refine ⟨by assumption,?_⟩
             conv=>whnf
             conv=>whnf
             conv=>whnf
             conv=>whnf
             (conv=>whnf); refine ⟨by assumption,?_⟩
             conv=>whnf
             conv=>whnf
             conv=>whnf
             conv=>whnf
             (conv=>whnf); refine .inl ⟨_,_,byX rfl (Sound1.pl (S78 _ _) rfl),?_⟩
             conv=>whnf
             conv=>whnf
             conv=>whnf
             conv=>whnf
             (conv=>whnf); refine ⟨?_,nofun⟩
             exact ave_tup2 ⟨rfl,(by have := hf.1; omega),fun i hi=>(if_neg (by omega)).trans (congrArg (fun e=>lcC (fr2 e)) (hf.2 i (by omega)))⟩ hE2
          ·exact absurd (hv.symm.trans w4) nofun
         ·(exfalso; omega)
        ·rw [decide_eq_false (by rw [ek,Nat.zero_add,Nat.zero_add]; exact he)] at hv
         conv=>whnf
         conv=>whnf
         conv=>whnf
         (conv=>whnf); refine ifB_dec (fun w3=>?_) (fun w3=>?_)
         ·conv=>whnf
          conv=>whnf
          conv=>whnf
          (conv=>whnf); refine ⟨[],by kernel_rfl,?_⟩
          conv=>whnf
          conv=>whnf
          conv=>whnf
          (conv=>whnf); refine ⟨⟨(by omega),(by omega)⟩,?_⟩
          conv=>whnf
          conv=>whnf
          conv=>whnf
          (conv=>whnf); refine ⟨inK64 (by omega) (by omega),?_⟩
          conv=>whnf
          conv=>whnf
          conv=>whnf
          (conv=>whnf); refine ⟨⟨(by omega),(by omega)⟩,?_⟩
          conv=>whnf
          conv=>whnf
          conv=>whnf
          (conv=>whnf); refine ifB_intro (fun w4=>?_) (fun w4=>?_)
          ·exact absurd (hv.symm.trans w4) nofun
          ·conv=>whnf
           conv=>whnf
           conv=>whnf
           (conv=>whnf); refine ⟨inK64 (by omega) (by omega),?_⟩
           conv=>whnf
           conv=>whnf
           conv=>whnf
           (conv=>whnf); refine ⟨_,_,⟨⟨k + 1,_,_,_,_,_,_,by omega,by omega,comp_go hk1 hlt hc he,rfl,rfl⟩,by omega⟩,⟨⟨.inl rfl,rfl,rfl,rfl⟩,⟨bA,⟨bA,⟨bA,⟨bA,⟨bA,⟨bA,⟨bA,⟨⟨rfl,rfl,rfl,rfl,nofun,fun _ _=>.inl rfl⟩,⟨bA,⟨bA,trivial⟩⟩⟩⟩⟩⟩⟩⟩⟩⟩,trivial⟩⟩
         ·(exfalso; omega)
       ·obtain rfl : k = R.length := by omega
        rw [List.take_length] at hc
        rw [hc]
        conv=>whnf
        conv=>whnf
        conv=>whnf
        (conv=>whnf); refine ifB_dec (fun w3=>?_) (fun w3=>?_)
        ·(exfalso; omega)
        ·conv=>whnf
         conv=>whnf
         conv=>whnf
         (conv=>whnf); refine .inl ⟨_,_,byX rfl (Sound1.pl (S78 _ _) rfl),?_⟩
         conv=>whnf
         conv=>whnf
         conv=>whnf
         (conv=>whnf); refine ⟨?_,nofun⟩
         exact ave_tup2 ⟨rfl,rfl,fun _ _=>rfl⟩ hE2
     ·conv => whnf
      conv=>whnf
      (conv=>whnf); refine .inr (.inl ⟨[],?_⟩)
      conv=>whnf
      conv=>whnf
      (conv=>whnf); refine ifB_dec (fun w2=>?_) (fun w2=>?_)
      ·conv=>whnf
       conv=>whnf
       (conv=>whnf); refine .inl ⟨_,_,byX rfl (Sound1.pl (h78 _ _) rfl),?_⟩
       conv=>whnf
       conv=>whnf
       (conv=>whnf); refine ⟨?_,nofun⟩
       rw [compL_one (by omega)]
       exact ave_tup2 ⟨rfl,rfl,fun i hi=>(srt_row (A := lcC (fr2 ((locL t h f).getD i q2z))) (B := lcC (fr2 ((locL t h f).getD i q2z))) hi).symm⟩ hE2
      ·conv => whnf
       conv=>whnf
       (conv=>whnf); refine ⟨[.forget [0,1,2,3,4,5,8,10,11,12,13,14,15,16,17,18,19,20,21,22,23,24,25,26,27,28,29,30,31,32,33,34,35,36,37,38,39,40,41,42,43,44,45,46,47,48,49,50,51,53,54,55,56,57,58,59]],[0,3],fun st mq=>∃ (k : Nat) (F0 : Nat → List AV) (F1 : Nat → List AV) (F2 : Nat → List AV) (F5 : Nat → List AV) (F6 : Nat → List AV) (F8 : Nat → List AV),(1 ≤ k) ∧ (k ≤ R.length) ∧ (compL (R.take k) = R.take k) ∧ st = ⟨[(0,.oslice 9 0 0 R.length none),(3,i64 k)],⟨[⟨1,1,F0,0,false,true,false⟩,⟨1,1,F1,0,false,true,false⟩,⟨1,1,F2,0,false,true,false⟩,⟨1,1,fun _=>[.eslice],0,false,true,true⟩,⟨1,1,fun _=>[i64 0],0,false,true,true⟩,⟨1,2,F5,0,false,true,false⟩,⟨1,2,F6,0,false,true,false⟩,⟨1,1,fun _=>[.oslice 9 0 0 R.length none],0,false,false,true⟩,⟨1,1,F8,0,false,true,false⟩,⟨4,R.length,fun i=>lcC (fr2 (R.getD i q2z)),0,false,true,false⟩],[],none,1⟩,[(52,i64 R.length),(6,.optr 3 0 0 0),(7,.optr 4 0 0 0),(9,.optr 7 0 0 0)]⟩ ∧ mq = R.length - k,
        ⟨_,_,⟨1,_,_,_,_,_,_,by omega,by omega,compL_one (by rw [List.length_take]; omega),rfl,rfl⟩,⟨⟨.inl rfl,rfl,rfl,rfl⟩,⟨bA,⟨bA,⟨bA,⟨bA,⟨bA,⟨bA,⟨bA,⟨⟨rfl,rfl,rfl,rfl,nofun,fun _ _=>.inl rfl⟩,⟨bA,⟨⟨rfl,rfl,rfl,rfl,fun _=>rfl,fun i hi=>.inl (srt_row (A := lcC (fr2 ((locL t h f).getD i q2z))) (B := lcC (fr2 ((locL t h f).getD i q2z))) hi)⟩,trivial⟩⟩⟩⟩⟩⟩⟩⟩⟩⟩,trivial⟩⟩,?_⟩
       rintro s0 m0 ⟨k,F0,F1,F2,F5,F6,F8,hk1,hk2,hc,rfl,hmeas⟩
       have ek : ((k : Int) - 1).toNat = k - 1 := by omega
       by_cases hlt : k < R.length
       ·have hv := lc_veq (R.getD (0 + (k : Int).toNat) q2z) (R.getD (0 + ((k : Int) - 1).toNat) q2z)
        have hz : 0 ≤ (k : Int) ∧ (k : Int) ≤ (R.length : Int) ∧ ((0 : Nat) : Int) + (R.length : Int) ≤ (R.length : Int) := ⟨by omega,by omega,by omega⟩
        by_cases he : R.getD k q2z = R.getD (k - 1) q2z
        ·rw [decide_eq_true (by rw [ek, Nat.zero_add, Nat.zero_add]; exact he)] at hv
         conv=>whnf
         conv=>whnf
         conv=>whnf
         (conv=>whnf); refine ifB_dec (fun w3=>?_) (fun w3=>?_)
         ·conv => whnf
          conv=>whnf
          conv=>whnf
          (conv=>whnf); refine ⟨[],by kernel_rfl,?_⟩
          conv=>whnf
          conv=>whnf
          conv=>whnf
          (conv=>whnf); refine ⟨⟨(by omega),(by omega)⟩,?_⟩
          conv=>whnf
          conv=>whnf
          conv=>whnf
          (conv=>whnf); refine ⟨inK64 (by omega) (by omega),?_⟩
          conv=>whnf
          conv=>whnf
          conv=>whnf
          (conv=>whnf); refine ⟨⟨(by omega),(by omega)⟩,?_⟩
          conv=>whnf
          conv=>whnf
          conv=>whnf
          (conv=>whnf); refine ifB_intro (fun w4=>?_) (fun w4=>?_)
          ·conv=>whnf
           conv=>whnf
           conv=>whnf
           (conv=>whnf); refine ⟨by assumption,?_⟩
           conv=>whnf
           conv=>whnf
           conv=>whnf
           (conv=>whnf); refine ⟨[],[0,3,4,5],fun st mq=>∃ (k1 : Nat) (q : Nat) (a : List Q2) (F0 : Nat → List AV) (F1 : Nat → List AV) (F2 : Nat → List AV) (F5 : Nat → List AV) (F6 : Nat → List AV) (F8 : Nat → List AV),(1 ≤ q) ∧ (CmpI q2z R a k1 (k + q)) ∧ st = ⟨[(0,.oslice 9 0 0 R.length none),(3,i64 k1),(4,.oslice 9 0 (0 + (k : Int).toNat) ((R.length : Int) - (k : Int)).toNat none),(5,i64 q)],⟨[⟨1,1,F0,0,false,true,false⟩,⟨1,1,F1,0,false,true,false⟩,⟨1,1,F2,0,false,true,false⟩,⟨1,1,fun _=>[.eslice],0,false,true,true⟩,⟨1,1,fun _=>[i64 0],0,false,true,true⟩,⟨1,2,F5,0,false,true,false⟩,⟨1,2,F6,0,false,true,false⟩,⟨1,1,fun _=>[.oslice 9 0 0 R.length none],0,false,false,true⟩,⟨1,1,F8,0,false,true,false⟩,⟨4,R.length,fun i=>lcC (fr2 (a.getD i q2z)),0,false,true,false⟩],[],none,1⟩,[(52,i64 R.length),(6,.optr 3 0 0 0),(7,.optr 4 0 0 0),(9,.optr 7 0 0 0)]⟩ ∧ mq = R.length - k - q,
            ⟨_,_,⟨k,1,R,_,_,_,_,_,_,by omega,cmpI_start hk1 hlt hc he,rfl,rfl⟩,⟨⟨.inl rfl,rfl,rfl,rfl⟩,⟨bA,⟨bA,⟨bA,⟨bA,⟨bA,⟨bA,⟨bA,⟨⟨rfl,rfl,rfl,rfl,nofun,fun _ _=>.inl rfl⟩,⟨bA,⟨bA,trivial⟩⟩⟩⟩⟩⟩⟩⟩⟩⟩,trivial⟩⟩,?_⟩
           rintro s0 m0 ⟨k1,q,a,F0,F1,F2,F5,F6,F8,hq,hI,rfl,hmeas⟩
           have hkp := hI.kp
           have hal1 := hI.len
           by_cases hlt2 : k + q < R.length
           ·have hv2 := lc_veq (a.getD (0 + (k : Int).toNat + (q : Int).toNat) q2z) (a.getD (0 + (k : Int).toNat + ((q : Int) - 1).toNat) q2z)
            have ep : 0 + (k : Int).toNat + ((q : Int) - 1).toNat = k + q - 1 := by omega
            have eq0 : 0 + (k : Int).toNat + (q : Int).toNat = k + q := by omega
            by_cases he2 : a.getD (k + q) q2z = a.getD (k + q - 1) q2z
            ·rw [decide_eq_true (by rw [ep,eq0]; exact he2)] at hv2
             conv=>whnf
             conv=>whnf
             conv=>whnf
             conv=>whnf
             (conv=>whnf); refine ifB_dec (fun w5=>?_) (fun w5=>?_)
             ·conv=>whnf
              conv=>whnf
              conv=>whnf
              conv=>whnf
              (conv=>whnf); refine ⟨[],by kernel_rfl,?_⟩
              conv=>whnf
              conv=>whnf
              conv=>whnf
              conv=>whnf
              (conv=>whnf); refine ⟨⟨(by omega),(by omega)⟩,?_⟩
              conv=>whnf
              conv=>whnf
              conv=>whnf
              conv=>whnf
              (conv=>whnf); refine ⟨inK64 (by omega) (by omega),?_⟩
              conv=>whnf
              conv=>whnf
              conv=>whnf
              conv=>whnf
              (conv=>whnf); refine ⟨⟨(by omega),(by omega)⟩,?_⟩
              conv=>whnf
              conv=>whnf
              conv=>whnf
              conv=>whnf
              (conv=>whnf); refine ifB_not ?_
              conv=>whnf
              conv=>whnf
              conv=>whnf
              conv=>whnf
              (conv=>whnf); refine ifB_intro (fun w6=>?_) (fun w6=>?_)
              ·conv=>whnf
               conv=>whnf
               conv=>whnf
               conv=>whnf
               (conv=>whnf); refine ⟨inK64 (by omega) (by omega),?_⟩
               conv=>whnf
               conv=>whnf
               conv=>whnf
               conv=>whnf
               (conv=>whnf); refine ⟨_,_,⟨⟨k1,q + 1,a,_,_,_,_,_,_,by omega,hI.same hlt2 he2,rfl,rfl⟩,by omega⟩,⟨⟨.inl rfl,rfl,rfl,rfl⟩,⟨bA,⟨bA,⟨bA,⟨bA,⟨bA,⟨bA,⟨bA,⟨⟨rfl,rfl,rfl,rfl,nofun,fun _ _=>.inl rfl⟩,⟨bA,⟨bA,trivial⟩⟩⟩⟩⟩⟩⟩⟩⟩⟩,trivial⟩⟩
              ·exact absurd (hv2.symm.trans w6) nofun
             ·(exfalso; omega)
            ·rw [decide_eq_false (by rw [ep,eq0]; exact he2)] at hv2
             have hrow := fun i : Nat=>rowG (n := 4) (fun e=>lcC (fr2 e)) (fun _=>rfl) q2z a (k1 : Int).toNat i (a.getD (0 + (k : Int).toNat + (q : Int).toNat) q2z) (by omega)
             conv=>whnf
             conv=>whnf
             conv=>whnf
             conv=>whnf
             (conv=>whnf); refine ifB_dec (fun w5=>?_) (fun w5=>?_)
             ·conv=>whnf
              conv=>whnf
              conv=>whnf
              conv=>whnf
              (conv=>whnf); refine ⟨[],by kernel_rfl,?_⟩
              conv=>whnf
              conv=>whnf
              conv=>whnf
              conv=>whnf
              (conv=>whnf); refine ⟨⟨(by omega),(by omega)⟩,?_⟩
              conv=>whnf
              conv=>whnf
              conv=>whnf
              conv=>whnf
              (conv=>whnf); refine ⟨inK64 (by omega) (by omega),?_⟩
              conv=>whnf
              conv=>whnf
              conv=>whnf
              conv=>whnf
              (conv=>whnf); refine ⟨⟨(by omega),(by omega)⟩,?_⟩
              conv=>whnf
              conv=>whnf
              conv=>whnf
              conv=>whnf
              (conv=>whnf); refine ifB_not ?_
              conv=>whnf
              conv=>whnf
              conv=>whnf
              conv=>whnf
              (conv=>whnf); refine ifB_intro (fun w6=>?_) (fun w6=>?_)
              ·exact absurd (hv2.symm.trans w6) nofun
              ·conv=>whnf
               conv=>whnf
               conv=>whnf
               conv=>whnf
               (conv=>whnf); refine ⟨⟨(by omega),(by omega)⟩,?_⟩
               conv=>whnf
               conv=>whnf
               conv=>whnf
               conv=>whnf
               (conv=>whnf); refine ⟨⟨(by omega),(by omega)⟩,?_⟩
               refine ⟨_,fun i _=>hrow i,?_⟩
               conv=>whnf
               conv=>whnf
               conv=>whnf
               conv=>whnf
               (conv=>whnf); refine ⟨inK64 (by omega) (by omega),?_⟩
               conv=>whnf
               conv=>whnf
               conv=>whnf
               conv=>whnf
               (conv=>whnf); refine ⟨inK64 (by omega) (by omega),?_⟩
               conv=>whnf
               conv=>whnf
               conv=>whnf
               conv=>whnf
               (conv=>whnf); refine ⟨_,_,⟨⟨k1 + 1,q + 1,a.set k1 (a.getD (0 + (k : Int).toNat + (q : Int).toNat) q2z),_,_,_,_,_,_,by omega,(by rw [eq0]; exact hI.put hlt2 he2),rfl,rfl⟩,by omega⟩,⟨⟨.inl rfl,rfl,rfl,rfl⟩,⟨bA,⟨bA,⟨bA,⟨bA,⟨bA,⟨bA,⟨bA,⟨⟨rfl,rfl,rfl,rfl,nofun,fun _ _=>.inl rfl⟩,⟨bA,⟨bA,trivial⟩⟩⟩⟩⟩⟩⟩⟩⟩⟩,trivial⟩⟩
             ·(exfalso; omega)
           ·have hf := hI.fin hlt2
            have hz2 : 0 ≤ (k1 : Int) ∧ (k1 : Int) ≤ (R.length : Int) ∧ ((0 : Nat) : Int) + (R.length : Int) ≤ (R.length : Int) := ⟨by omega,by omega,by omega⟩
            have hz3 : 0 ≤ (0 : Int) ∧ (0 : Int) ≤ (k1 : Int) ∧ ((0 : Nat) : Int) + (k1 : Int) ≤ (R.length : Int) := ⟨by omega,by omega,by omega⟩
            conv=>whnf
            conv=>whnf
            conv=>whnf
            conv=>whnf
            (conv=>whnf); refine ifB_dec (fun w5=>?_) (fun w5=>?_)
            ·(exfalso; omega)
            ·conv=>whnf
             conv=>whnf
             conv=>whnf
             conv=>whnf
             (conv=>whnf); refine ⟨by assumption,?_⟩
             conv=>whnf
             conv=>whnf
             conv=>whnf
             conv=>whnf
             (conv=>whnf); refine ⟨by assumption,?_⟩
             conv=>whnf
             conv=>whnf
             conv=>whnf
             conv=>whnf
             (conv=>whnf); refine .inl ⟨_,_,byX rfl (Sound1.pl (S78 _ _) rfl),?_⟩
             conv=>whnf
             conv=>whnf
             conv=>whnf
             conv=>whnf
             (conv=>whnf); refine ⟨?_,nofun⟩
             exact ave_tup2 ⟨rfl,(by have := hf.1; omega),fun i hi=>(if_neg (by omega)).trans (congrArg (fun e=>lcC (fr2 e)) (hf.2 i (by omega)))⟩ hE2
          ·exact absurd (hv.symm.trans w4) nofun
         ·(exfalso; omega)
        ·rw [decide_eq_false (by rw [ek,Nat.zero_add,Nat.zero_add]; exact he)] at hv
         conv=>whnf
         conv=>whnf
         conv=>whnf
         (conv=>whnf); refine ifB_dec (fun w3=>?_) (fun w3=>?_)
         ·conv=>whnf
          conv=>whnf
          conv=>whnf
          (conv=>whnf); refine ⟨[],by kernel_rfl,?_⟩
          conv=>whnf
          conv=>whnf
          conv=>whnf
          (conv=>whnf); refine ⟨⟨(by omega),(by omega)⟩,?_⟩
          conv=>whnf
          conv=>whnf
          conv=>whnf
          (conv=>whnf); refine ⟨inK64 (by omega) (by omega),?_⟩
          conv=>whnf
          conv=>whnf
          conv=>whnf
          (conv=>whnf); refine ⟨⟨(by omega),(by omega)⟩,?_⟩
          conv=>whnf
          conv=>whnf
          conv=>whnf
          (conv=>whnf); refine ifB_intro (fun w4=>?_) (fun w4=>?_)
          ·exact absurd (hv.symm.trans w4) nofun
          ·conv=>whnf
           conv=>whnf
           conv=>whnf
           (conv=>whnf); refine ⟨inK64 (by omega) (by omega),?_⟩
           conv=>whnf
           conv=>whnf
           conv=>whnf
           (conv=>whnf); refine ⟨_,_,⟨⟨k + 1,_,_,_,_,_,_,by omega,by omega,comp_go hk1 hlt hc he,rfl,rfl⟩,by omega⟩,⟨⟨.inl rfl,rfl,rfl,rfl⟩,⟨bA,⟨bA,⟨bA,⟨bA,⟨bA,⟨bA,⟨bA,⟨⟨rfl,rfl,rfl,rfl,nofun,fun _ _=>.inl rfl⟩,⟨bA,⟨bA,trivial⟩⟩⟩⟩⟩⟩⟩⟩⟩⟩,trivial⟩⟩
         ·(exfalso; omega)
       ·obtain rfl : k = R.length := by omega
        rw [List.take_length] at hc
        rw [hc]
        conv=>whnf
        conv=>whnf
        conv=>whnf
        (conv=>whnf); refine ifB_dec (fun w3=>?_) (fun w3=>?_)
        ·(exfalso; omega)
        ·conv=>whnf
         conv=>whnf
         conv=>whnf
         (conv=>whnf); refine .inl ⟨_,_,byX rfl (Sound1.pl (S78 _ _) rfl),?_⟩
         conv=>whnf
         conv=>whnf
         conv=>whnf
         (conv=>whnf); refine ⟨?_,nofun⟩
         exact ave_tup2 ⟨rfl,rfl,fun _ _=>rfl⟩ hE2
     ·conv => whnf
      conv=>whnf
      (conv=>whnf); refine .inr (.inl ⟨[],?_⟩)
      conv=>whnf
      conv=>whnf
      (conv=>whnf); refine ifB_dec (fun w2=>?_) (fun w2=>?_)
      ·conv=>whnf
       conv=>whnf
       (conv=>whnf); refine .inl ⟨_,_,byX rfl (Sound1.pl (h78 _ _) rfl),?_⟩
       conv=>whnf
       conv=>whnf
       (conv=>whnf); refine ⟨?_,nofun⟩
       rw [compL_one (by omega)]
       exact ave_tup2 ⟨rfl,rfl,fun i hi=>(srt_row (A := lcC (fr2 ((locL t h f).getD i q2z))) (B := lcC (fr2 ((locL t h f).getD i q2z))) hi).symm⟩ hE2
      ·conv => whnf
       conv=>whnf
       (conv=>whnf); refine ⟨[.forget [0,1,2,3,4,5,8,10,11,12,13,14,15,16,17,18,19,20,21,22,23,24,25,26,27,28,29,30,31,32,33,34,35,36,37,38,39,40,41,42,43,44,45,46,47,48,49,50,51,52,54,55,56,57,58,59]],[0,3],fun st mq=>∃ (k : Nat) (F0 : Nat → List AV) (F1 : Nat → List AV) (F2 : Nat → List AV) (F5 : Nat → List AV) (F6 : Nat → List AV) (F8 : Nat → List AV),(1 ≤ k) ∧ (k ≤ R.length) ∧ (compL (R.take k) = R.take k) ∧ st = ⟨[(0,.oslice 9 0 0 R.length none),(3,i64 k)],⟨[⟨1,1,F0,0,false,true,false⟩,⟨1,1,F1,0,false,true,false⟩,⟨1,1,F2,0,false,true,false⟩,⟨1,1,fun _=>[.eslice],0,false,true,true⟩,⟨1,1,fun _=>[i64 0],0,false,true,true⟩,⟨1,2,F5,0,false,true,false⟩,⟨1,2,F6,0,false,true,false⟩,⟨1,1,fun _=>[.oslice 9 0 0 R.length none],0,false,false,true⟩,⟨1,1,F8,0,false,true,false⟩,⟨4,R.length,fun i=>lcC (fr2 (R.getD i q2z)),0,false,true,false⟩],[],none,1⟩,[(53,vb (decide ((R.length : Int) > 0))),(6,.optr 3 0 0 0),(7,.optr 4 0 0 0),(9,.optr 7 0 0 0)]⟩ ∧ mq = R.length - k,
        ⟨_,_,⟨1,_,_,_,_,_,_,by omega,by omega,compL_one (by rw [List.length_take]; omega),rfl,rfl⟩,⟨⟨.inl rfl,rfl,rfl,rfl⟩,⟨bA,⟨bA,⟨bA,⟨bA,⟨bA,⟨bA,⟨bA,⟨⟨rfl,rfl,rfl,rfl,nofun,fun _ _=>.inl rfl⟩,⟨bA,⟨⟨rfl,rfl,rfl,rfl,fun _=>rfl,fun i hi=>.inl (srt_row (A := lcC (fr2 ((locL t h f).getD i q2z))) (B := lcC (fr2 ((locL t h f).getD i q2z))) hi)⟩,trivial⟩⟩⟩⟩⟩⟩⟩⟩⟩⟩,trivial⟩⟩,?_⟩
       rintro s0 m0 ⟨k,F0,F1,F2,F5,F6,F8,hk1,hk2,hc,rfl,hmeas⟩
       have ek : ((k : Int) - 1).toNat = k - 1 := by omega
       by_cases hlt : k < R.length
       ·have hv := lc_veq (R.getD (0 + (k : Int).toNat) q2z) (R.getD (0 + ((k : Int) - 1).toNat) q2z)
        have hz : 0 ≤ (k : Int) ∧ (k : Int) ≤ (R.length : Int) ∧ ((0 : Nat) : Int) + (R.length : Int) ≤ (R.length : Int) := ⟨by omega,by omega,by omega⟩
        by_cases he : R.getD k q2z = R.getD (k - 1) q2z
        ·rw [decide_eq_true (by rw [ek, Nat.zero_add, Nat.zero_add]; exact he)] at hv
         conv=>whnf
         conv=>whnf
         conv=>whnf
         (conv=>whnf); refine ifB_dec (fun w3=>?_) (fun w3=>?_)
         ·conv => whnf
          conv=>whnf
          conv=>whnf
          (conv=>whnf); refine ⟨[],by kernel_rfl,?_⟩
          conv=>whnf
          conv=>whnf
          conv=>whnf
          (conv=>whnf); refine ⟨⟨(by omega),(by omega)⟩,?_⟩
          conv=>whnf
          conv=>whnf
          conv=>whnf
          (conv=>whnf); refine ⟨inK64 (by omega) (by omega),?_⟩
          conv=>whnf
          conv=>whnf
          conv=>whnf
          (conv=>whnf); refine ⟨⟨(by omega),(by omega)⟩,?_⟩
          conv=>whnf
          conv=>whnf
          conv=>whnf
          (conv=>whnf); refine ifB_intro (fun w4=>?_) (fun w4=>?_)
          ·conv=>whnf
           conv=>whnf
           conv=>whnf
           (conv=>whnf); refine ⟨by assumption,?_⟩
           conv=>whnf
           conv=>whnf
           conv=>whnf
           (conv=>whnf); refine ⟨[],[0,3,4,5],fun st mq=>∃ (k1 : Nat) (q : Nat) (a : List Q2) (F0 : Nat → List AV) (F1 : Nat → List AV) (F2 : Nat → List AV) (F5 : Nat → List AV) (F6 : Nat → List AV) (F8 : Nat → List AV),(1 ≤ q) ∧ (CmpI q2z R a k1 (k + q)) ∧ st = ⟨[(0,.oslice 9 0 0 R.length none),(3,i64 k1),(4,.oslice 9 0 (0 + (k : Int).toNat) ((R.length : Int) - (k : Int)).toNat none),(5,i64 q)],⟨[⟨1,1,F0,0,false,true,false⟩,⟨1,1,F1,0,false,true,false⟩,⟨1,1,F2,0,false,true,false⟩,⟨1,1,fun _=>[.eslice],0,false,true,true⟩,⟨1,1,fun _=>[i64 0],0,false,true,true⟩,⟨1,2,F5,0,false,true,false⟩,⟨1,2,F6,0,false,true,false⟩,⟨1,1,fun _=>[.oslice 9 0 0 R.length none],0,false,false,true⟩,⟨1,1,F8,0,false,true,false⟩,⟨4,R.length,fun i=>lcC (fr2 (a.getD i q2z)),0,false,true,false⟩],[],none,1⟩,[(53,vb (decide ((R.length : Int) > 0))),(6,.optr 3 0 0 0),(7,.optr 4 0 0 0),(9,.optr 7 0 0 0)]⟩ ∧ mq = R.length - k - q,
            ⟨_,_,⟨k,1,R,_,_,_,_,_,_,by omega,cmpI_start hk1 hlt hc he,rfl,rfl⟩,⟨⟨.inl rfl,rfl,rfl,rfl⟩,⟨bA,⟨bA,⟨bA,⟨bA,⟨bA,⟨bA,⟨bA,⟨⟨rfl,rfl,rfl,rfl,nofun,fun _ _=>.inl rfl⟩,⟨bA,⟨bA,trivial⟩⟩⟩⟩⟩⟩⟩⟩⟩⟩,trivial⟩⟩,?_⟩
           rintro s0 m0 ⟨k1,q,a,F0,F1,F2,F5,F6,F8,hq,hI,rfl,hmeas⟩
           have hkp := hI.kp
           have hal1 := hI.len
           by_cases hlt2 : k + q < R.length
           ·have hv2 := lc_veq (a.getD (0 + (k : Int).toNat + (q : Int).toNat) q2z) (a.getD (0 + (k : Int).toNat + ((q : Int) - 1).toNat) q2z)
            have ep : 0 + (k : Int).toNat + ((q : Int) - 1).toNat = k + q - 1 := by omega
            have eq0 : 0 + (k : Int).toNat + (q : Int).toNat = k + q := by omega
            by_cases he2 : a.getD (k + q) q2z = a.getD (k + q - 1) q2z
            ·rw [decide_eq_true (by rw [ep,eq0]; exact he2)] at hv2
             conv=>whnf
             conv=>whnf
             conv=>whnf
             conv=>whnf
             (conv=>whnf); refine ifB_dec (fun w5=>?_) (fun w5=>?_)
             ·conv=>whnf
              conv=>whnf
              conv=>whnf
              conv=>whnf
              (conv=>whnf); refine ⟨[],by kernel_rfl,?_⟩
              conv=>whnf
              conv=>whnf
              conv=>whnf
              conv=>whnf
              (conv=>whnf); refine ⟨⟨(by omega),(by omega)⟩,?_⟩
              conv=>whnf
              conv=>whnf
              conv=>whnf
              conv=>whnf
              (conv=>whnf); refine ⟨inK64 (by omega) (by omega),?_⟩
              conv=>whnf
              conv=>whnf
              conv=>whnf
              conv=>whnf
              (conv=>whnf); refine ⟨⟨(by omega),(by omega)⟩,?_⟩
              conv=>whnf
              conv=>whnf
              conv=>whnf
              conv=>whnf
              (conv=>whnf); refine ifB_not ?_
              conv=>whnf
              conv=>whnf
              conv=>whnf
              conv=>whnf
              (conv=>whnf); refine ifB_intro (fun w6=>?_) (fun w6=>?_)
              ·conv=>whnf
               conv=>whnf
               conv=>whnf
               conv=>whnf
               (conv=>whnf); refine ⟨inK64 (by omega) (by omega),?_⟩
               conv=>whnf
               conv=>whnf
               conv=>whnf
               conv=>whnf
               (conv=>whnf); refine ⟨_,_,⟨⟨k1,q + 1,a,_,_,_,_,_,_,by omega,hI.same hlt2 he2,rfl,rfl⟩,by omega⟩,⟨⟨.inl rfl,rfl,rfl,rfl⟩,⟨bA,⟨bA,⟨bA,⟨bA,⟨bA,⟨bA,⟨bA,⟨⟨rfl,rfl,rfl,rfl,nofun,fun _ _=>.inl rfl⟩,⟨bA,⟨bA,trivial⟩⟩⟩⟩⟩⟩⟩⟩⟩⟩,trivial⟩⟩
              ·exact absurd (hv2.symm.trans w6) nofun
             ·(exfalso; omega)
            ·rw [decide_eq_false (by rw [ep,eq0]; exact he2)] at hv2
             have hrow := fun i : Nat=>rowG (n := 4) (fun e=>lcC (fr2 e)) (fun _=>rfl) q2z a (k1 : Int).toNat i (a.getD (0 + (k : Int).toNat + (q : Int).toNat) q2z) (by omega)
             conv=>whnf
             conv=>whnf
             conv=>whnf
             conv=>whnf
             (conv=>whnf); refine ifB_dec (fun w5=>?_) (fun w5=>?_)
             ·conv=>whnf
              conv=>whnf
              conv=>whnf
              conv=>whnf
              (conv=>whnf); refine ⟨[],by kernel_rfl,?_⟩
              conv=>whnf
              conv=>whnf
              conv=>whnf
              conv=>whnf
              (conv=>whnf); refine ⟨⟨(by omega),(by omega)⟩,?_⟩
              conv=>whnf
              conv=>whnf
              conv=>whnf
              conv=>whnf
              (conv=>whnf); refine ⟨inK64 (by omega) (by omega),?_⟩
              conv=>whnf
              conv=>whnf
              conv=>whnf
              conv=>whnf
              (conv=>whnf); refine ⟨⟨(by omega),(by omega)⟩,?_⟩
              conv=>whnf
              conv=>whnf
              conv=>whnf
              conv=>whnf
              (conv=>whnf); refine ifB_not ?_
              conv=>whnf
              conv=>whnf
              conv=>whnf
              conv=>whnf
              (conv=>whnf); refine ifB_intro (fun w6=>?_) (fun w6=>?_)
              ·exact absurd (hv2.symm.trans w6) nofun
              ·conv=>whnf
               conv=>whnf
               conv=>whnf
               conv=>whnf
               (conv=>whnf); refine ⟨⟨(by omega),(by omega)⟩,?_⟩
               conv=>whnf
               conv=>whnf
               conv=>whnf
               conv=>whnf
               (conv=>whnf); refine ⟨⟨(by omega),(by omega)⟩,?_⟩
               refine ⟨_,fun i _=>hrow i,?_⟩
               conv=>whnf
               conv=>whnf
               conv=>whnf
               conv=>whnf
               (conv=>whnf); refine ⟨inK64 (by omega) (by omega),?_⟩
               conv=>whnf
               conv=>whnf
               conv=>whnf
               conv=>whnf
               (conv=>whnf); refine ⟨inK64 (by omega) (by omega),?_⟩
               conv=>whnf
               conv=>whnf
               conv=>whnf
               conv=>whnf
               (conv=>whnf); refine ⟨_,_,⟨⟨k1 + 1,q + 1,a.set k1 (a.getD (0 + (k : Int).toNat + (q : Int).toNat) q2z),_,_,_,_,_,_,by omega,(by rw [eq0]; exact hI.put hlt2 he2),rfl,rfl⟩,by omega⟩,⟨⟨.inl rfl,rfl,rfl,rfl⟩,⟨bA,⟨bA,⟨bA,⟨bA,⟨bA,⟨bA,⟨bA,⟨⟨rfl,rfl,rfl,rfl,nofun,fun _ _=>.inl rfl⟩,⟨bA,⟨bA,trivial⟩⟩⟩⟩⟩⟩⟩⟩⟩⟩,trivial⟩⟩
             ·(exfalso; omega)
           ·have hf := hI.fin hlt2
            have hz2 : 0 ≤ (k1 : Int) ∧ (k1 : Int) ≤ (R.length : Int) ∧ ((0 : Nat) : Int) + (R.length : Int) ≤ (R.length : Int) := ⟨by omega,by omega,by omega⟩
            have hz3 : 0 ≤ (0 : Int) ∧ (0 : Int) ≤ (k1 : Int) ∧ ((0 : Nat) : Int) + (k1 : Int) ≤ (R.length : Int) := ⟨by omega,by omega,by omega⟩
            conv=>whnf
            conv=>whnf
            conv=>whnf
            conv=>whnf
            (conv=>whnf); refine ifB_dec (fun w5=>?_) (fun w5=>?_)
            ·(exfalso; omega)
            ·conv=>whnf
             conv=>whnf
             conv=>whnf
             conv=>whnf
             (conv=>whnf); refine ⟨by assumption,?_⟩
             conv=>whnf
             conv=>whnf
             conv=>whnf
             conv=>whnf
             (conv=>whnf); refine ⟨by assumption,?_⟩
             conv=>whnf
             conv=>whnf
             conv=>whnf
             conv=>whnf
             (conv=>whnf); refine .inl ⟨_,_,byX rfl (Sound1.pl (S78 _ _) rfl),?_⟩
             conv=>whnf
             conv=>whnf
             conv=>whnf
             conv=>whnf
             (conv=>whnf); refine ⟨?_,nofun⟩
             exact ave_tup2 ⟨rfl,(by have := hf.1; omega),fun i hi=>(if_neg (by omega)).trans (congrArg (fun e=>lcC (fr2 e)) (hf.2 i (by omega)))⟩ hE2
          ·exact absurd (hv.symm.trans w4) nofun
         ·(exfalso; omega)
        ·rw [decide_eq_false (by rw [ek,Nat.zero_add,Nat.zero_add]; exact he)] at hv
         conv=>whnf
         conv=>whnf
         conv=>whnf
         (conv=>whnf); refine ifB_dec (fun w3=>?_) (fun w3=>?_)
         ·conv=>whnf
          conv=>whnf
          conv=>whnf
          (conv=>whnf); refine ⟨[],by kernel_rfl,?_⟩
          conv=>whnf
          conv=>whnf
          conv=>whnf
          (conv=>whnf); refine ⟨⟨(by omega),(by omega)⟩,?_⟩
          conv=>whnf
          conv=>whnf
          conv=>whnf
          (conv=>whnf); refine ⟨inK64 (by omega) (by omega),?_⟩
          conv=>whnf
          conv=>whnf
          conv=>whnf
          (conv=>whnf); refine ⟨⟨(by omega),(by omega)⟩,?_⟩
          conv=>whnf
          conv=>whnf
          conv=>whnf
          (conv=>whnf); refine ifB_intro (fun w4=>?_) (fun w4=>?_)
          ·exact absurd (hv.symm.trans w4) nofun
          ·conv=>whnf
           conv=>whnf
           conv=>whnf
           (conv=>whnf); refine ⟨inK64 (by omega) (by omega),?_⟩
           conv=>whnf
           conv=>whnf
           conv=>whnf
           (conv=>whnf); refine ⟨_,_,⟨⟨k + 1,_,_,_,_,_,_,by omega,by omega,comp_go hk1 hlt hc he,rfl,rfl⟩,by omega⟩,⟨⟨.inl rfl,rfl,rfl,rfl⟩,⟨bA,⟨bA,⟨bA,⟨bA,⟨bA,⟨bA,⟨bA,⟨⟨rfl,rfl,rfl,rfl,nofun,fun _ _=>.inl rfl⟩,⟨bA,⟨bA,trivial⟩⟩⟩⟩⟩⟩⟩⟩⟩⟩,trivial⟩⟩
         ·(exfalso; omega)
       ·obtain rfl : k = R.length := by omega
        rw [List.take_length] at hc
        rw [hc]
        conv=>whnf
        conv=>whnf
        conv=>whnf
        (conv=>whnf); refine ifB_dec (fun w3=>?_) (fun w3=>?_)
        ·(exfalso; omega)
        ·conv=>whnf
         conv=>whnf
         conv=>whnf
         (conv=>whnf); refine .inl ⟨_,_,byX rfl (Sound1.pl (S78 _ _) rfl),?_⟩
         conv=>whnf
         conv=>whnf
         conv=>whnf
         (conv=>whnf); refine ⟨?_,nofun⟩
         exact ave_tup2 ⟨rfl,rfl,fun _ _=>rfl⟩ hE2
     ·conv => whnf
      conv=>whnf
      (conv=>whnf); refine .inr (.inl ⟨[],?_⟩)
      conv=>whnf
      conv=>whnf
      (conv=>whnf); refine ifB_dec (fun w2=>?_) (fun w2=>?_)
      ·conv=>whnf
       conv=>whnf
       (conv=>whnf); refine .inl ⟨_,_,byX rfl (Sound1.pl (h78 _ _) rfl),?_⟩
       conv=>whnf
       conv=>whnf
       (conv=>whnf); refine ⟨?_,nofun⟩
       rw [compL_one (by omega)]
       exact ave_tup2 ⟨rfl,rfl,fun i hi=>(srt_row (A := lcC (fr2 ((locL t h f).getD i q2z))) (B := lcC (fr2 ((locL t h f).getD i q2z))) hi).symm⟩ hE2
      ·conv => whnf
       conv=>whnf
       (conv=>whnf); refine ⟨[.forget [0,1,2,3,4,5,8,10,11,12,13,14,15,16,17,18,19,20,21,22,23,24,25,26,27,28,29,30,31,32,33,34,35,36,37,38,39,40,41,42,43,44,45,46,47,48,49,50,52,53,54,55,56,57,58,59]],[0,3],fun st mq=>∃ (k : Nat) (F0 : Nat → List AV) (F1 : Nat → List AV) (F2 : Nat → List AV) (F5 : Nat → List AV) (F6 : Nat → List AV) (F8 : Nat → List AV),(1 ≤ k) ∧ (k ≤ R.length) ∧ (compL (R.take k) = R.take k) ∧ st = ⟨[(0,.oslice 9 0 0 R.length none),(3,i64 k)],⟨[⟨1,1,F0,0,false,true,false⟩,⟨1,1,F1,0,false,true,false⟩,⟨1,1,F2,0,false,true,false⟩,⟨1,1,fun _=>[.eslice],0,false,true,true⟩,⟨1,1,fun _=>[i64 0],0,false,true,true⟩,⟨1,2,F5,0,false,true,false⟩,⟨1,2,F6,0,false,true,false⟩,⟨1,1,fun _=>[.oslice 9 0 0 R.length none],0,false,false,true⟩,⟨1,1,F8,0,false,true,false⟩,⟨4,R.length,fun i=>lcC (fr2 (R.getD i q2z)),0,false,true,false⟩],[],none,1⟩,[(51,.oslice 9 0 0 R.length none),(6,.optr 3 0 0 0),(7,.optr 4 0 0 0),(9,.optr 7 0 0 0)]⟩ ∧ mq = R.length - k,
        ⟨_,_,⟨1,_,_,_,_,_,_,by omega,by omega,compL_one (by rw [List.length_take]; omega),rfl,rfl⟩,⟨⟨.inl rfl,rfl,rfl,rfl⟩,⟨bA,⟨bA,⟨bA,⟨bA,⟨bA,⟨bA,⟨bA,⟨⟨rfl,rfl,rfl,rfl,nofun,fun _ _=>.inl rfl⟩,⟨bA,⟨⟨rfl,rfl,rfl,rfl,fun _=>rfl,fun i hi=>.inl (srt_row (A := lcC (fr2 ((locL t h f).getD i q2z))) (B := lcC (fr2 ((locL t h f).getD i q2z))) hi)⟩,trivial⟩⟩⟩⟩⟩⟩⟩⟩⟩⟩,trivial⟩⟩,?_⟩
       rintro s0 m0 ⟨k,F0,F1,F2,F5,F6,F8,hk1,hk2,hc,rfl,hmeas⟩
       have ek : ((k : Int) - 1).toNat = k - 1 := by omega
       by_cases hlt : k < R.length
       ·have hv := lc_veq (R.getD (0 + (k : Int).toNat) q2z) (R.getD (0 + ((k : Int) - 1).toNat) q2z)
        have hz : 0 ≤ (k : Int) ∧ (k : Int) ≤ (R.length : Int) ∧ ((0 : Nat) : Int) + (R.length : Int) ≤ (R.length : Int) := ⟨by omega,by omega,by omega⟩
        by_cases he : R.getD k q2z = R.getD (k - 1) q2z
        ·rw [decide_eq_true (by rw [ek, Nat.zero_add, Nat.zero_add]; exact he)] at hv
         conv=>whnf
         conv=>whnf
         conv=>whnf
         (conv=>whnf); refine ifB_dec (fun w3=>?_) (fun w3=>?_)
         ·conv => whnf
          conv=>whnf
          conv=>whnf
          (conv=>whnf); refine ⟨[],by kernel_rfl,?_⟩
          conv=>whnf
          conv=>whnf
          conv=>whnf
          (conv=>whnf); refine ⟨⟨(by omega),(by omega)⟩,?_⟩
          conv=>whnf
          conv=>whnf
          conv=>whnf
          (conv=>whnf); refine ⟨inK64 (by omega) (by omega),?_⟩
          conv=>whnf
          conv=>whnf
          conv=>whnf
          (conv=>whnf); refine ⟨⟨(by omega),(by omega)⟩,?_⟩
          conv=>whnf
          conv=>whnf
          conv=>whnf
          (conv=>whnf); refine ifB_intro (fun w4=>?_) (fun w4=>?_)
          ·conv=>whnf
           conv=>whnf
           conv=>whnf
           (conv=>whnf); refine ⟨by assumption,?_⟩
           conv=>whnf
           conv=>whnf
           conv=>whnf
           (conv=>whnf); refine ⟨[],[0,3,4,5],fun st mq=>∃ (k1 : Nat) (q : Nat) (a : List Q2) (F0 : Nat → List AV) (F1 : Nat → List AV) (F2 : Nat → List AV) (F5 : Nat → List AV) (F6 : Nat → List AV) (F8 : Nat → List AV),(1 ≤ q) ∧ (CmpI q2z R a k1 (k + q)) ∧ st = ⟨[(0,.oslice 9 0 0 R.length none),(3,i64 k1),(4,.oslice 9 0 (0 + (k : Int).toNat) ((R.length : Int) - (k : Int)).toNat none),(5,i64 q)],⟨[⟨1,1,F0,0,false,true,false⟩,⟨1,1,F1,0,false,true,false⟩,⟨1,1,F2,0,false,true,false⟩,⟨1,1,fun _=>[.eslice],0,false,true,true⟩,⟨1,1,fun _=>[i64 0],0,false,true,true⟩,⟨1,2,F5,0,false,true,false⟩,⟨1,2,F6,0,false,true,false⟩,⟨1,1,fun _=>[.oslice 9 0 0 R.length none],0,false,false,true⟩,⟨1,1,F8,0,false,true,false⟩,⟨4,R.length,fun i=>lcC (fr2 (a.getD i q2z)),0,false,true,false⟩],[],none,1⟩,[(51,.oslice 9 0 0 R.length none),(6,.optr 3 0 0 0),(7,.optr 4 0 0 0),(9,.optr 7 0 0 0)]⟩ ∧ mq = R.length - k - q,
            ⟨_,_,⟨k,1,R,_,_,_,_,_,_,by omega,cmpI_start hk1 hlt hc he,rfl,rfl⟩,⟨⟨.inl rfl,rfl,rfl,rfl⟩,⟨bA,⟨bA,⟨bA,⟨bA,⟨bA,⟨bA,⟨bA,⟨⟨rfl,rfl,rfl,rfl,nofun,fun _ _=>.inl rfl⟩,⟨bA,⟨bA,trivial⟩⟩⟩⟩⟩⟩⟩⟩⟩⟩,trivial⟩⟩,?_⟩
           rintro s0 m0 ⟨k1,q,a,F0,F1,F2,F5,F6,F8,hq,hI,rfl,hmeas⟩
           have hkp := hI.kp
           have hal1 := hI.len
           by_cases hlt2 : k + q < R.length
           ·have hv2 := lc_veq (a.getD (0 + (k : Int).toNat + (q : Int).toNat) q2z) (a.getD (0 + (k : Int).toNat + ((q : Int) - 1).toNat) q2z)
            have ep : 0 + (k : Int).toNat + ((q : Int) - 1).toNat = k + q - 1 := by omega
            have eq0 : 0 + (k : Int).toNat + (q : Int).toNat = k + q := by omega
            by_cases he2 : a.getD (k + q) q2z = a.getD (k + q - 1) q2z
            ·rw [decide_eq_true (by rw [ep,eq0]; exact he2)] at hv2
             conv=>whnf
             conv=>whnf
             conv=>whnf
             conv=>whnf
             (conv=>whnf); refine ifB_dec (fun w5=>?_) (fun w5=>?_)
             ·conv=>whnf
              conv=>whnf
              conv=>whnf
              conv=>whnf
              (conv=>whnf); refine ⟨[],by kernel_rfl,?_⟩
              conv=>whnf
              conv=>whnf
              conv=>whnf
              conv=>whnf
              (conv=>whnf); refine ⟨⟨(by omega),(by omega)⟩,?_⟩
              conv=>whnf
              conv=>whnf
              conv=>whnf
              conv=>whnf
              (conv=>whnf); refine ⟨inK64 (by omega) (by omega),?_⟩
              conv=>whnf
              conv=>whnf
              conv=>whnf
              conv=>whnf
              (conv=>whnf); refine ⟨⟨(by omega),(by omega)⟩,?_⟩
              conv=>whnf
              conv=>whnf
              conv=>whnf
              conv=>whnf
              (conv=>whnf); refine ifB_not ?_
              conv=>whnf
              conv=>whnf
              conv=>whnf
              conv=>whnf
              (conv=>whnf); refine ifB_intro (fun w6=>?_) (fun w6=>?_)
              ·conv=>whnf
               conv=>whnf
               conv=>whnf
               conv=>whnf
               (conv=>whnf); refine ⟨inK64 (by omega) (by omega),?_⟩
               conv=>whnf
               conv=>whnf
               conv=>whnf
               conv=>whnf
               (conv=>whnf); refine ⟨_,_,⟨⟨k1,q + 1,a,_,_,_,_,_,_,by omega,hI.same hlt2 he2,rfl,rfl⟩,by omega⟩,⟨⟨.inl rfl,rfl,rfl,rfl⟩,⟨bA,⟨bA,⟨bA,⟨bA,⟨bA,⟨bA,⟨bA,⟨⟨rfl,rfl,rfl,rfl,nofun,fun _ _=>.inl rfl⟩,⟨bA,⟨bA,trivial⟩⟩⟩⟩⟩⟩⟩⟩⟩⟩,trivial⟩⟩
              ·exact absurd (hv2.symm.trans w6) nofun
             ·(exfalso; omega)
            ·rw [decide_eq_false (by rw [ep,eq0]; exact he2)] at hv2
             have hrow := fun i : Nat=>rowG (n := 4) (fun e=>lcC (fr2 e)) (fun _=>rfl) q2z a (k1 : Int).toNat i (a.getD (0 + (k : Int).toNat + (q : Int).toNat) q2z) (by omega)
             conv=>whnf
             conv=>whnf
             conv=>whnf
             conv=>whnf
             (conv=>whnf); refine ifB_dec (fun w5=>?_) (fun w5=>?_)
             ·conv=>whnf
              conv=>whnf
              conv=>whnf
              conv=>whnf
              (conv=>whnf); refine ⟨[],by kernel_rfl,?_⟩
              conv=>whnf
              conv=>whnf
              conv=>whnf
              conv=>whnf
              (conv=>whnf); refine ⟨⟨(by omega),(by omega)⟩,?_⟩
              conv=>whnf
              conv=>whnf
              conv=>whnf
              conv=>whnf
              (conv=>whnf); refine ⟨inK64 (by omega) (by omega),?_⟩
              conv=>whnf
              conv=>whnf
              conv=>whnf
              conv=>whnf
              (conv=>whnf); refine ⟨⟨(by omega),(by omega)⟩,?_⟩
              conv=>whnf
              conv=>whnf
              conv=>whnf
              conv=>whnf
              (conv=>whnf); refine ifB_not ?_
              conv=>whnf
              conv=>whnf
              conv=>whnf
              conv=>whnf
              (conv=>whnf); refine ifB_intro (fun w6=>?_) (fun w6=>?_)
              ·exact absurd (hv2.symm.trans w6) nofun
              ·conv=>whnf
               conv=>whnf
               conv=>whnf
               conv=>whnf
               (conv=>whnf); refine ⟨⟨(by omega),(by omega)⟩,?_⟩
               conv=>whnf
               conv=>whnf
               conv=>whnf
               conv=>whnf
               (conv=>whnf); refine ⟨⟨(by omega),(by omega)⟩,?_⟩
               refine ⟨_,fun i _=>hrow i,?_⟩
               conv=>whnf
               conv=>whnf
               conv=>whnf
               conv=>whnf
               (conv=>whnf); refine ⟨inK64 (by omega) (by omega),?_⟩
               conv=>whnf
               conv=>whnf
               conv=>whnf
               conv=>whnf
               (conv=>whnf); refine ⟨inK64 (by omega) (by omega),?_⟩
               conv=>whnf
               conv=>whnf
               conv=>whnf
               conv=>whnf
               (conv=>whnf); refine ⟨_,_,⟨⟨k1 + 1,q + 1,a.set k1 (a.getD (0 + (k : Int).toNat + (q : Int).toNat) q2z),_,_,_,_,_,_,by omega,(by rw [eq0]; exact hI.put hlt2 he2),rfl,rfl⟩,by omega⟩,⟨⟨.inl rfl,rfl,rfl,rfl⟩,⟨bA,⟨bA,⟨bA,⟨bA,⟨bA,⟨bA,⟨bA,⟨⟨rfl,rfl,rfl,rfl,nofun,fun _ _=>.inl rfl⟩,⟨bA,⟨bA,trivial⟩⟩⟩⟩⟩⟩⟩⟩⟩⟩,trivial⟩⟩
             ·(exfalso; omega)
           ·have hf := hI.fin hlt2
            have hz2 : 0 ≤ (k1 : Int) ∧ (k1 : Int) ≤ (R.length : Int) ∧ ((0 : Nat) : Int) + (R.length : Int) ≤ (R.length : Int) := ⟨by omega,by omega,by omega⟩
            have hz3 : 0 ≤ (0 : Int) ∧ (0 : Int) ≤ (k1 : Int) ∧ ((0 : Nat) : Int) + (k1 : Int) ≤ (R.length : Int) := ⟨by omega,by omega,by omega⟩
            conv=>whnf
            conv=>whnf
            conv=>whnf
            conv=>whnf
            (conv=>whnf); refine ifB_dec (fun w5=>?_) (fun w5=>?_)
            ·(exfalso; omega)
            ·conv=>whnf
             conv=>whnf
             conv=>whnf
             conv=>whnf
             (conv=>whnf); refine ⟨by assumption,?_⟩
             conv=>whnf
             conv=>whnf
             conv=>whnf
             conv=>whnf
             (conv=>whnf); refine ⟨by assumption,?_⟩
             conv=>whnf
             conv=>whnf
             conv=>whnf
             conv=>whnf
             (conv=>whnf); refine .inl ⟨_,_,byX rfl (Sound1.pl (S78 _ _) rfl),?_⟩
             conv=>whnf
             conv=>whnf
             conv=>whnf
             conv=>whnf
             (conv=>whnf); refine ⟨?_,nofun⟩
             exact ave_tup2 ⟨rfl,(by have := hf.1; omega),fun i hi=>(if_neg (by omega)).trans (congrArg (fun e=>lcC (fr2 e)) (hf.2 i (by omega)))⟩ hE2
          ·exact absurd (hv.symm.trans w4) nofun
         ·(exfalso; omega)
        ·rw [decide_eq_false (by rw [ek,Nat.zero_add,Nat.zero_add]; exact he)] at hv
         conv=>whnf
         conv=>whnf
         conv=>whnf
         (conv=>whnf); refine ifB_dec (fun w3=>?_) (fun w3=>?_)
         ·conv=>whnf
          conv=>whnf
          conv=>whnf
          (conv=>whnf); refine ⟨[],by kernel_rfl,?_⟩
          conv=>whnf
          conv=>whnf
          conv=>whnf
          (conv=>whnf); refine ⟨⟨(by omega),(by omega)⟩,?_⟩
          conv=>whnf
          conv=>whnf
          conv=>whnf
          (conv=>whnf); refine ⟨inK64 (by omega) (by omega),?_⟩
          conv=>whnf
          conv=>whnf
          conv=>whnf
          (conv=>whnf); refine ⟨⟨(by omega),(by omega)⟩,?_⟩
          conv=>whnf
          conv=>whnf
          conv=>whnf
          (conv=>whnf); refine ifB_intro (fun w4=>?_) (fun w4=>?_)
          ·exact absurd (hv.symm.trans w4) nofun
          ·conv=>whnf
           conv=>whnf
           conv=>whnf
           (conv=>whnf); refine ⟨inK64 (by omega) (by omega),?_⟩
           conv=>whnf
           conv=>whnf
           conv=>whnf
           (conv=>whnf); refine ⟨_,_,⟨⟨k + 1,_,_,_,_,_,_,by omega,by omega,comp_go hk1 hlt hc he,rfl,rfl⟩,by omega⟩,⟨⟨.inl rfl,rfl,rfl,rfl⟩,⟨bA,⟨bA,⟨bA,⟨bA,⟨bA,⟨bA,⟨bA,⟨⟨rfl,rfl,rfl,rfl,nofun,fun _ _=>.inl rfl⟩,⟨bA,⟨bA,trivial⟩⟩⟩⟩⟩⟩⟩⟩⟩⟩,trivial⟩⟩
         ·(exfalso; omega)
       ·obtain rfl : k = R.length := by omega
        rw [List.take_length] at hc
        rw [hc]
        conv=>whnf
        conv=>whnf
        conv=>whnf
        (conv=>whnf); refine ifB_dec (fun w3=>?_) (fun w3=>?_)
        ·(exfalso; omega)
        ·conv=>whnf
         conv=>whnf
         conv=>whnf
         (conv=>whnf); refine .inl ⟨_,_,byX rfl (Sound1.pl (S78 _ _) rfl),?_⟩
         conv=>whnf
         conv=>whnf
         conv=>whnf
         (conv=>whnf); refine ⟨?_,nofun⟩
         exact ave_tup2 ⟨rfl,rfl,fun _ _=>rfl⟩ hE2
     ·conv => whnf
      conv=>whnf
      (conv=>whnf); refine .inr (.inl ⟨[],?_⟩)
      conv=>whnf
      conv=>whnf
      (conv=>whnf); refine ifB_dec (fun w2=>?_) (fun w2=>?_)
      ·conv=>whnf
       conv=>whnf
       (conv=>whnf); refine .inl ⟨_,_,byX rfl (Sound1.pl (h78 _ _) rfl),?_⟩
       conv=>whnf
       conv=>whnf
       (conv=>whnf); refine ⟨?_,nofun⟩
       rw [compL_one (by omega)]
       exact ave_tup2 ⟨rfl,rfl,fun i hi=>(srt_row (A := lcC (fr2 ((locL t h f).getD i q2z))) (B := lcC (fr2 ((locL t h f).getD i q2z))) hi).symm⟩ hE2
      ·conv => whnf
       conv=>whnf
       (conv=>whnf); refine ⟨[.forget [0,1,2,3,4,5,8,10,11,12,13,14,15,16,17,18,19,20,21,22,23,24,25,26,27,28,29,30,31,32,33,34,35,36,37,38,39,40,41,42,43,44,45,46,47,48,49,50,51,53,54,55,56,57,58,59]],[0,3],fun st mq=>∃ (k : Nat) (F0 : Nat → List AV) (F1 : Nat → List AV) (F2 : Nat → List AV) (F5 : Nat → List AV) (F6 : Nat → List AV) (F8 : Nat → List AV),(1 ≤ k) ∧ (k ≤ R.length) ∧ (compL (R.take k) = R.take k) ∧ st = ⟨[(0,.oslice 9 0 0 R.length none),(3,i64 k)],⟨[⟨1,1,F0,0,false,true,false⟩,⟨1,1,F1,0,false,true,false⟩,⟨1,1,F2,0,false,true,false⟩,⟨1,1,fun _=>[.eslice],0,false,true,true⟩,⟨1,1,fun _=>[i64 0],0,false,true,true⟩,⟨1,2,F5,0,false,true,false⟩,⟨1,2,F6,0,false,true,false⟩,⟨1,1,fun _=>[.oslice 9 0 0 R.length none],0,false,false,true⟩,⟨1,1,F8,0,false,true,false⟩,⟨4,R.length,fun i=>lcC (fr2 (R.getD i q2z)),0,false,true,false⟩],[],none,1⟩,[(52,i64 R.length),(6,.optr 3 0 0 0),(7,.optr 4 0 0 0),(9,.optr 7 0 0 0)]⟩ ∧ mq = R.length - k,
        ⟨_,_,⟨1,_,_,_,_,_,_,by omega,by omega,compL_one (by rw [List.length_take]; omega),rfl,rfl⟩,⟨⟨.inl rfl,rfl,rfl,rfl⟩,⟨bA,⟨bA,⟨bA,⟨bA,⟨bA,⟨bA,⟨bA,⟨⟨rfl,rfl,rfl,rfl,nofun,fun _ _=>.inl rfl⟩,⟨bA,⟨⟨rfl,rfl,rfl,rfl,fun _=>rfl,fun i hi=>.inl (srt_row (A := lcC (fr2 ((locL t h f).getD i q2z))) (B := lcC (fr2 ((locL t h f).getD i q2z))) hi)⟩,trivial⟩⟩⟩⟩⟩⟩⟩⟩⟩⟩,trivial⟩⟩,?_⟩
       rintro s0 m0 ⟨k,F0,F1,F2,F5,F6,F8,hk1,hk2,hc,rfl,hmeas⟩
       have ek : ((k : Int) - 1).toNat = k - 1 := by omega
       by_cases hlt : k < R.length
       ·have hv := lc_veq (R.getD (0 + (k : Int).toNat) q2z) (R.getD (0 + ((k : Int) - 1).toNat) q2z)
        have hz : 0 ≤ (k : Int) ∧ (k : Int) ≤ (R.length : Int) ∧ ((0 : Nat) : Int) + (R.length : Int) ≤ (R.length : Int) := ⟨by omega,by omega,by omega⟩
        by_cases he : R.getD k q2z = R.getD (k - 1) q2z
        ·rw [decide_eq_true (by rw [ek, Nat.zero_add, Nat.zero_add]; exact he)] at hv
         conv=>whnf
         conv=>whnf
         conv=>whnf
         (conv=>whnf); refine ifB_dec (fun w3=>?_) (fun w3=>?_)
         ·conv => whnf
          conv=>whnf
          conv=>whnf
          (conv=>whnf); refine ⟨[],by kernel_rfl,?_⟩
          conv=>whnf
          conv=>whnf
          conv=>whnf
          (conv=>whnf); refine ⟨⟨(by omega),(by omega)⟩,?_⟩
          conv=>whnf
          conv=>whnf
          conv=>whnf
          (conv=>whnf); refine ⟨inK64 (by omega) (by omega),?_⟩
          conv=>whnf
          conv=>whnf
          conv=>whnf
          (conv=>whnf); refine ⟨⟨(by omega),(by omega)⟩,?_⟩
          conv=>whnf
          conv=>whnf
          conv=>whnf
          (conv=>whnf); refine ifB_intro (fun w4=>?_) (fun w4=>?_)
          ·conv=>whnf
           conv=>whnf
           conv=>whnf
           (conv=>whnf); refine ⟨by assumption,?_⟩
           conv=>whnf
           conv=>whnf
           conv=>whnf
           (conv=>whnf); refine ⟨[],[0,3,4,5],fun st mq=>∃ (k1 : Nat) (q : Nat) (a : List Q2) (F0 : Nat → List AV) (F1 : Nat → List AV) (F2 : Nat → List AV) (F5 : Nat → List AV) (F6 : Nat → List AV) (F8 : Nat → List AV),(1 ≤ q) ∧ (CmpI q2z R a k1 (k + q)) ∧ st = ⟨[(0,.oslice 9 0 0 R.length none),(3,i64 k1),(4,.oslice 9 0 (0 + (k : Int).toNat) ((R.length : Int) - (k : Int)).toNat none),(5,i64 q)],⟨[⟨1,1,F0,0,false,true,false⟩,⟨1,1,F1,0,false,true,false⟩,⟨1,1,F2,0,false,true,false⟩,⟨1,1,fun _=>[.eslice],0,false,true,true⟩,⟨1,1,fun _=>[i64 0],0,false,true,true⟩,⟨1,2,F5,0,false,true,false⟩,⟨1,2,F6,0,false,true,false⟩,⟨1,1,fun _=>[.oslice 9 0 0 R.length none],0,false,false,true⟩,⟨1,1,F8,0,false,true,false⟩,⟨4,R.length,fun i=>lcC (fr2 (a.getD i q2z)),0,false,true,false⟩],[],none,1⟩,[(52,i64 R.length),(6,.optr 3 0 0 0),(7,.optr 4 0 0 0),(9,.optr 7 0 0 0)]⟩ ∧ mq = R.length - k - q,
            ⟨_,_,⟨k,1,R,_,_,_,_,_,_,by omega,cmpI_start hk1 hlt hc he,rfl,rfl⟩,⟨⟨.inl rfl,rfl,rfl,rfl⟩,⟨bA,⟨bA,⟨bA,⟨bA,⟨bA,⟨bA,⟨bA,⟨⟨rfl,rfl,rfl,rfl,nofun,fun _ _=>.inl rfl⟩,⟨bA,⟨bA,trivial⟩⟩⟩⟩⟩⟩⟩⟩⟩⟩,trivial⟩⟩,?_⟩
           rintro s0 m0 ⟨k1,q,a,F0,F1,F2,F5,F6,F8,hq,hI,rfl,hmeas⟩
           have hkp := hI.kp
           have hal1 := hI.len
           by_cases hlt2 : k + q < R.length
           ·have hv2 := lc_veq (a.getD (0 + (k : Int).toNat + (q : Int).toNat) q2z) (a.getD (0 + (k : Int).toNat + ((q : Int) - 1).toNat) q2z)
            have ep : 0 + (k : Int).toNat + ((q : Int) - 1).toNat = k + q - 1 := by omega
            have eq0 : 0 + (k : Int).toNat + (q : Int).toNat = k + q := by omega
            by_cases he2 : a.getD (k + q) q2z = a.getD (k + q - 1) q2z
            ·rw [decide_eq_true (by rw [ep,eq0]; exact he2)] at hv2
             conv=>whnf
             conv=>whnf
             conv=>whnf
             conv=>whnf
             (conv=>whnf); refine ifB_dec (fun w5=>?_) (fun w5=>?_)
             ·conv=>whnf
              conv=>whnf
              conv=>whnf
              conv=>whnf
              (conv=>whnf); refine ⟨[],by kernel_rfl,?_⟩
              conv=>whnf
              conv=>whnf
              conv=>whnf
              conv=>whnf
              (conv=>whnf); refine ⟨⟨(by omega),(by omega)⟩,?_⟩
              conv=>whnf
              conv=>whnf
              conv=>whnf
              conv=>whnf
              (conv=>whnf); refine ⟨inK64 (by omega) (by omega),?_⟩
              conv=>whnf
              conv=>whnf
              conv=>whnf
              conv=>whnf
              (conv=>whnf); refine ⟨⟨(by omega),(by omega)⟩,?_⟩
              conv=>whnf
              conv=>whnf
              conv=>whnf
              conv=>whnf
              (conv=>whnf); refine ifB_not ?_
              conv=>whnf
              conv=>whnf
              conv=>whnf
              conv=>whnf
              (conv=>whnf); refine ifB_intro (fun w6=>?_) (fun w6=>?_)
              ·conv=>whnf
               conv=>whnf
               conv=>whnf
               conv=>whnf
               (conv=>whnf); refine ⟨inK64 (by omega) (by omega),?_⟩
               conv=>whnf
               conv=>whnf
               conv=>whnf
               conv=>whnf
               (conv=>whnf); refine ⟨_,_,⟨⟨k1,q + 1,a,_,_,_,_,_,_,by omega,hI.same hlt2 he2,rfl,rfl⟩,by omega⟩,⟨⟨.inl rfl,rfl,rfl,rfl⟩,⟨bA,⟨bA,⟨bA,⟨bA,⟨bA,⟨bA,⟨bA,⟨⟨rfl,rfl,rfl,rfl,nofun,fun _ _=>.inl rfl⟩,⟨bA,⟨bA,trivial⟩⟩⟩⟩⟩⟩⟩⟩⟩⟩,trivial⟩⟩
              ·exact absurd (hv2.symm.trans w6) nofun
             ·(exfalso; omega)
            ·rw [decide_eq_false (by rw [ep,eq0]; exact he2)] at hv2
             have hrow := fun i : Nat=>rowG (n := 4) (fun e=>lcC (fr2 e)) (fun _=>rfl) q2z a (k1 : Int).toNat i (a.getD (0 + (k : Int).toNat + (q : Int).toNat) q2z) (by omega)
             conv=>whnf
             conv=>whnf
             conv=>whnf
             conv=>whnf
             (conv=>whnf); refine ifB_dec (fun w5=>?_) (fun w5=>?_)
             ·conv=>whnf
              conv=>whnf
              conv=>whnf
              conv=>whnf
              (conv=>whnf); refine ⟨[],by kernel_rfl,?_⟩
              conv=>whnf
              conv=>whnf
              conv=>whnf
              conv=>whnf
              (conv=>whnf); refine ⟨⟨(by omega),(by omega)⟩,?_⟩
              conv=>whnf
              conv=>whnf
              conv=>whnf
              conv=>whnf
              (conv=>whnf); refine ⟨inK64 (by omega) (by omega),?_⟩
              conv=>whnf
              conv=>whnf
              conv=>whnf
              conv=>whnf
              (conv=>whnf); refine ⟨⟨(by omega),(by omega)⟩,?_⟩
              conv=>whnf
              conv=>whnf
              conv=>whnf
              conv=>whnf
              (conv=>whnf); refine ifB_not ?_
              conv=>whnf
              conv=>whnf
              conv=>whnf
              conv=>whnf
              (conv=>whnf); refine ifB_intro (fun w6=>?_) (fun w6=>?_)
              ·exact absurd (hv2.symm.trans w6) nofun
              ·conv=>whnf
               conv=>whnf
               conv=>whnf
               conv=>whnf
               (conv=>whnf); refine ⟨⟨(by omega),(by omega)⟩,?_⟩
               conv=>whnf
               conv=>whnf
               conv=>whnf
               conv=>whnf
               (conv=>whnf); refine ⟨⟨(by omega),(by omega)⟩,?_⟩
               refine ⟨_,fun i _=>hrow i,?_⟩
               conv=>whnf
               conv=>whnf
               conv=>whnf
               conv=>whnf
               (conv=>whnf); refine ⟨inK64 (by omega) (by omega),?_⟩
               conv=>whnf
               conv=>whnf
               conv=>whnf
               conv=>whnf
               (conv=>whnf); refine ⟨inK64 (by omega) (by omega),?_⟩
               conv=>whnf
               conv=>whnf
               conv=>whnf
               conv=>whnf
               (conv=>whnf); refine ⟨_,_,⟨⟨k1 + 1,q + 1,a.set k1 (a.getD (0 + (k : Int).toNat + (q : Int).toNat) q2z),_,_,_,_,_,_,by omega,(by rw [eq0]; exact hI.put hlt2 he2),rfl,rfl⟩,by omega⟩,⟨⟨.inl rfl,rfl,rfl,rfl⟩,⟨bA,⟨bA,⟨bA,⟨bA,⟨bA,⟨bA,⟨bA,⟨⟨rfl,rfl,rfl,rfl,nofun,fun _ _=>.inl rfl⟩,⟨bA,⟨bA,trivial⟩⟩⟩⟩⟩⟩⟩⟩⟩⟩,trivial⟩⟩
             ·(exfalso; omega)
           ·have hf := hI.fin hlt2
            have hz2 : 0 ≤ (k1 : Int) ∧ (k1 : Int) ≤ (R.length : Int) ∧ ((0 : Nat) : Int) + (R.length : Int) ≤ (R.length : Int) := ⟨by omega,by omega,by omega⟩
            have hz3 : 0 ≤ (0 : Int) ∧ (0 : Int) ≤ (k1 : Int) ∧ ((0 : Nat) : Int) + (k1 : Int) ≤ (R.length : Int) := ⟨by omega,by omega,by omega⟩
            conv=>whnf
            conv=>whnf
            conv=>whnf
            conv=>whnf
            (conv=>whnf); refine ifB_dec (fun w5=>?_) (fun w5=>?_)
            ·(exfalso; omega)
            ·conv=>whnf
             conv=>whnf
             conv=>whnf
             conv=>whnf
             (conv=>whnf); refine ⟨by assumption,?_⟩
             conv=>whnf
             conv=>whnf
             conv=>whnf
             conv=>whnf
             (conv=>whnf); refine ⟨by assumption,?_⟩
             conv=>whnf
             conv=>whnf
             conv=>whnf
             conv=>whnf
             (conv=>whnf); refine .inl ⟨_,_,byX rfl (Sound1.pl (S78 _ _) rfl),?_⟩
             conv=>whnf
             conv=>whnf
             conv=>whnf
             conv=>whnf
             (conv=>whnf); refine ⟨?_,nofun⟩
             exact ave_tup2 ⟨rfl,(by have := hf.1; omega),fun i hi=>(if_neg (by omega)).trans (congrArg (fun e=>lcC (fr2 e)) (hf.2 i (by omega)))⟩ hE2
          ·exact absurd (hv.symm.trans w4) nofun
         ·(exfalso; omega)
        ·rw [decide_eq_false (by rw [ek,Nat.zero_add,Nat.zero_add]; exact he)] at hv
         conv=>whnf
         conv=>whnf
         conv=>whnf
         (conv=>whnf); refine ifB_dec (fun w3=>?_) (fun w3=>?_)
         ·conv=>whnf
          conv=>whnf
          conv=>whnf
          (conv=>whnf); refine ⟨[],by kernel_rfl,?_⟩
          conv=>whnf
          conv=>whnf
          conv=>whnf
          (conv=>whnf); refine ⟨⟨(by omega),(by omega)⟩,?_⟩
          conv=>whnf
          conv=>whnf
          conv=>whnf
          (conv=>whnf); refine ⟨inK64 (by omega) (by omega),?_⟩
          conv=>whnf
          conv=>whnf
          conv=>whnf
          (conv=>whnf); refine ⟨⟨(by omega),(by omega)⟩,?_⟩
          conv=>whnf
          conv=>whnf
          conv=>whnf
          (conv=>whnf); refine ifB_intro (fun w4=>?_) (fun w4=>?_)
          ·exact absurd (hv.symm.trans w4) nofun
          ·conv=>whnf
           conv=>whnf
           conv=>whnf
           (conv=>whnf); refine ⟨inK64 (by omega) (by omega),?_⟩
           conv=>whnf
           conv=>whnf
           conv=>whnf
           (conv=>whnf); refine ⟨_,_,⟨⟨k + 1,_,_,_,_,_,_,by omega,by omega,comp_go hk1 hlt hc he,rfl,rfl⟩,by omega⟩,⟨⟨.inl rfl,rfl,rfl,rfl⟩,⟨bA,⟨bA,⟨bA,⟨bA,⟨bA,⟨bA,⟨bA,⟨⟨rfl,rfl,rfl,rfl,nofun,fun _ _=>.inl rfl⟩,⟨bA,⟨bA,trivial⟩⟩⟩⟩⟩⟩⟩⟩⟩⟩,trivial⟩⟩
         ·(exfalso; omega)
       ·obtain rfl : k = R.length := by omega
        rw [List.take_length] at hc
        rw [hc]
        conv=>whnf
        conv=>whnf
        conv=>whnf
        (conv=>whnf); refine ifB_dec (fun w3=>?_) (fun w3=>?_)
        ·(exfalso; omega)
        ·conv=>whnf
         conv=>whnf
         conv=>whnf
         (conv=>whnf); refine .inl ⟨_,_,byX rfl (Sound1.pl (S78 _ _) rfl),?_⟩
         conv=>whnf
         conv=>whnf
         conv=>whnf
         (conv=>whnf); refine ⟨?_,nofun⟩
         exact ave_tup2 ⟨rfl,rfl,fun _ _=>rfl⟩ hE2
     ·conv => whnf
      conv=>whnf
      (conv=>whnf); refine .inr (.inl ⟨[],?_⟩)
      conv=>whnf
      conv=>whnf
      (conv=>whnf); refine ifB_dec (fun w2=>?_) (fun w2=>?_)
      ·conv=>whnf
       conv=>whnf
       (conv=>whnf); refine .inl ⟨_,_,byX rfl (Sound1.pl (h78 _ _) rfl),?_⟩
       conv=>whnf
       conv=>whnf
       (conv=>whnf); refine ⟨?_,nofun⟩
       rw [compL_one (by omega)]
       exact ave_tup2 ⟨rfl,rfl,fun i hi=>(srt_row (A := lcC (fr2 ((locL t h f).getD i q2z))) (B := lcC (fr2 ((locL t h f).getD i q2z))) hi).symm⟩ hE2
      ·conv => whnf
       conv=>whnf
       (conv=>whnf); refine ⟨[.forget [0,1,2,3,4,5,8,10,11,12,13,14,15,16,17,18,19,20,21,22,23,24,25,26,27,28,29,30,31,32,33,34,35,36,37,38,39,40,41,42,43,44,45,46,47,48,49,50,51,52,54,55,56,57,58,59]],[0,3],fun st mq=>∃ (k : Nat) (F0 : Nat → List AV) (F1 : Nat → List AV) (F2 : Nat → List AV) (F5 : Nat → List AV) (F6 : Nat → List AV) (F8 : Nat → List AV),(1 ≤ k) ∧ (k ≤ R.length) ∧ (compL (R.take k) = R.take k) ∧ st = ⟨[(0,.oslice 9 0 0 R.length none),(3,i64 k)],⟨[⟨1,1,F0,0,false,true,false⟩,⟨1,1,F1,0,false,true,false⟩,⟨1,1,F2,0,false,true,false⟩,⟨1,1,fun _=>[.eslice],0,false,true,true⟩,⟨1,1,fun _=>[i64 0],0,false,true,true⟩,⟨1,2,F5,0,false,true,false⟩,⟨1,2,F6,0,false,true,false⟩,⟨1,1,fun _=>[.oslice 9 0 0 R.length none],0,false,false,true⟩,⟨1,1,F8,0,false,true,false⟩,⟨4,R.length,fun i=>lcC (fr2 (R.getD i q2z)),0,false,true,false⟩],[],none,1⟩,[(53,vb (decide ((R.length : Int) > 0))),(6,.optr 3 0 0 0),(7,.optr 4 0 0 0),(9,.optr 7 0 0 0)]⟩ ∧ mq = R.length - k,
        ⟨_,_,⟨1,_,_,_,_,_,_,by omega,by omega,compL_one (by rw [List.length_take]; omega),rfl,rfl⟩,⟨⟨.inl rfl,rfl,rfl,rfl⟩,⟨bA,⟨bA,⟨bA,⟨bA,⟨bA,⟨bA,⟨bA,⟨⟨rfl,rfl,rfl,rfl,nofun,fun _ _=>.inl rfl⟩,⟨bA,⟨⟨rfl,rfl,rfl,rfl,fun _=>rfl,fun i hi=>.inl (srt_row (A := lcC (fr2 ((locL t h f).getD i q2z))) (B := lcC (fr2 ((locL t h f).getD i q2z))) hi)⟩,trivial⟩⟩⟩⟩⟩⟩⟩⟩⟩⟩,trivial⟩⟩,?_⟩
       rintro s0 m0 ⟨k,F0,F1,F2,F5,F6,F8,hk1,hk2,hc,rfl,hmeas⟩
       have ek : ((k : Int) - 1).toNat = k - 1 := by omega
       by_cases hlt : k < R.length
       ·have hv := lc_veq (R.getD (0 + (k : Int).toNat) q2z) (R.getD (0 + ((k : Int) - 1).toNat) q2z)
        have hz : 0 ≤ (k : Int) ∧ (k : Int) ≤ (R.length : Int) ∧ ((0 : Nat) : Int) + (R.length : Int) ≤ (R.length : Int) := ⟨by omega,by omega,by omega⟩
        by_cases he : R.getD k q2z = R.getD (k - 1) q2z
        ·rw [decide_eq_true (by rw [ek, Nat.zero_add, Nat.zero_add]; exact he)] at hv
         conv=>whnf
         conv=>whnf
         conv=>whnf
         (conv=>whnf); refine ifB_dec (fun w3=>?_) (fun w3=>?_)
         ·conv => whnf
          conv=>whnf
          conv=>whnf
          (conv=>whnf); refine ⟨[],by kernel_rfl,?_⟩
          conv=>whnf
          conv=>whnf
          conv=>whnf
          (conv=>whnf); refine ⟨⟨(by omega),(by omega)⟩,?_⟩
          conv=>whnf
          conv=>whnf
          conv=>whnf
          (conv=>whnf); refine ⟨inK64 (by omega) (by omega),?_⟩
          conv=>whnf
          conv=>whnf
          conv=>whnf
          (conv=>whnf); refine ⟨⟨(by omega),(by omega)⟩,?_⟩
          conv=>whnf
          conv=>whnf
          conv=>whnf
          (conv=>whnf); refine ifB_intro (fun w4=>?_) (fun w4=>?_)
          ·conv=>whnf
           conv=>whnf
           conv=>whnf
           (conv=>whnf); refine ⟨by assumption,?_⟩
           conv=>whnf
           conv=>whnf
           conv=>whnf
           (conv=>whnf); refine ⟨[],[0,3,4,5],fun st mq=>∃ (k1 : Nat) (q : Nat) (a : List Q2) (F0 : Nat → List AV) (F1 : Nat → List AV) (F2 : Nat → List AV) (F5 : Nat → List AV) (F6 : Nat → List AV) (F8 : Nat → List AV),(1 ≤ q) ∧ (CmpI q2z R a k1 (k + q)) ∧ st = ⟨[(0,.oslice 9 0 0 R.length none),(3,i64 k1),(4,.oslice 9 0 (0 + (k : Int).toNat) ((R.length : Int) - (k : Int)).toNat none),(5,i64 q)],⟨[⟨1,1,F0,0,false,true,false⟩,⟨1,1,F1,0,false,true,false⟩,⟨1,1,F2,0,false,true,false⟩,⟨1,1,fun _=>[.eslice],0,false,true,true⟩,⟨1,1,fun _=>[i64 0],0,false,true,true⟩,⟨1,2,F5,0,false,true,false⟩,⟨1,2,F6,0,false,true,false⟩,⟨1,1,fun _=>[.oslice 9 0 0 R.length none],0,false,false,true⟩,⟨1,1,F8,0,false,true,false⟩,⟨4,R.length,fun i=>lcC (fr2 (a.getD i q2z)),0,false,true,false⟩],[],none,1⟩,[(53,vb (decide ((R.length : Int) > 0))),(6,.optr 3 0 0 0),(7,.optr 4 0 0 0),(9,.optr 7 0 0 0)]⟩ ∧ mq = R.length - k - q,
            ⟨_,_,⟨k,1,R,_,_,_,_,_,_,by omega,cmpI_start hk1 hlt hc he,rfl,rfl⟩,⟨⟨.inl rfl,rfl,rfl,rfl⟩,⟨bA,⟨bA,⟨bA,⟨bA,⟨bA,⟨bA,⟨bA,⟨⟨rfl,rfl,rfl,rfl,nofun,fun _ _=>.inl rfl⟩,⟨bA,⟨bA,trivial⟩⟩⟩⟩⟩⟩⟩⟩⟩⟩,trivial⟩⟩,?_⟩
           rintro s0 m0 ⟨k1,q,a,F0,F1,F2,F5,F6,F8,hq,hI,rfl,hmeas⟩
           have hkp := hI.kp
           have hal1 := hI.len
           by_cases hlt2 : k + q < R.length
           ·have hv2 := lc_veq (a.getD (0 + (k : Int).toNat + (q : Int).toNat) q2z) (a.getD (0 + (k : Int).toNat + ((q : Int) - 1).toNat) q2z)
            have ep : 0 + (k : Int).toNat + ((q : Int) - 1).toNat = k + q - 1 := by omega
            have eq0 : 0 + (k : Int).toNat + (q : Int).toNat = k + q := by omega
            by_cases he2 : a.getD (k + q) q2z = a.getD (k + q - 1) q2z
            ·rw [decide_eq_true (by rw [ep,eq0]; exact he2)] at hv2
             conv=>whnf
             conv=>whnf
             conv=>whnf
             conv=>whnf
             (conv=>whnf); refine ifB_dec (fun w5=>?_) (fun w5=>?_)
             ·conv=>whnf
              conv=>whnf
              conv=>whnf
              conv=>whnf
              (conv=>whnf); refine ⟨[],by kernel_rfl,?_⟩
              conv=>whnf
              conv=>whnf
              conv=>whnf
              conv=>whnf
              (conv=>whnf); refine ⟨⟨(by omega),(by omega)⟩,?_⟩
              conv=>whnf
              conv=>whnf
              conv=>whnf
              conv=>whnf
              (conv=>whnf); refine ⟨inK64 (by omega) (by omega),?_⟩
              conv=>whnf
              conv=>whnf
              conv=>whnf
              conv=>whnf
              (conv=>whnf); refine ⟨⟨(by omega),(by omega)⟩,?_⟩
              conv=>whnf
              conv=>whnf
              conv=>whnf
              conv=>whnf
              (conv=>whnf); refine ifB_not ?_
              conv=>whnf
              conv=>whnf
              conv=>whnf
              conv=>whnf
              (conv=>whnf); refine ifB_intro (fun w6=>?_) (fun w6=>?_)
              ·conv=>whnf
               conv=>whnf
               conv=>whnf
               conv=>whnf
               (conv=>whnf); refine ⟨inK64 (by omega) (by omega),?_⟩
               conv=>whnf
               conv=>whnf
               conv=>whnf
               conv=>whnf
               (conv=>whnf); refine ⟨_,_,⟨⟨k1,q + 1,a,_,_,_,_,_,_,by omega,hI.same hlt2 he2,rfl,rfl⟩,by omega⟩,⟨⟨.inl rfl,rfl,rfl,rfl⟩,⟨bA,⟨bA,⟨bA,⟨bA,⟨bA,⟨bA,⟨bA,⟨⟨rfl,rfl,rfl,rfl,nofun,fun _ _=>.inl rfl⟩,⟨bA,⟨bA,trivial⟩⟩⟩⟩⟩⟩⟩⟩⟩⟩,trivial⟩⟩
              ·exact absurd (hv2.symm.trans w6) nofun
             ·(exfalso; omega)
            ·rw [decide_eq_false (by rw [ep,eq0]; exact he2)] at hv2
             have hrow := fun i : Nat=>rowG (n := 4) (fun e=>lcC (fr2 e)) (fun _=>rfl) q2z a (k1 : Int).toNat i (a.getD (0 + (k : Int).toNat + (q : Int).toNat) q2z) (by omega)
             conv=>whnf
             conv=>whnf
             conv=>whnf
             conv=>whnf
             (conv=>whnf); refine ifB_dec (fun w5=>?_) (fun w5=>?_)
             ·conv=>whnf
              conv=>whnf
              conv=>whnf
              conv=>whnf
              (conv=>whnf); refine ⟨[],by kernel_rfl,?_⟩
              conv=>whnf
              conv=>whnf
              conv=>whnf
              conv=>whnf
              (conv=>whnf); refine ⟨⟨(by omega),(by omega)⟩,?_⟩
              conv=>whnf
              conv=>whnf
              conv=>whnf
              conv=>whnf
              (conv=>whnf); refine ⟨inK64 (by omega) (by omega),?_⟩
              conv=>whnf
              conv=>whnf
              conv=>whnf
              conv=>whnf
              (conv=>whnf); refine ⟨⟨(by omega),(by omega)⟩,?_⟩
              conv=>whnf
              conv=>whnf
              conv=>whnf
              conv=>whnf
              (conv=>whnf); refine ifB_not ?_
              conv=>whnf
              conv=>whnf
              conv=>whnf
              conv=>whnf
              (conv=>whnf); refine ifB_intro (fun w6=>?_) (fun w6=>?_)
              ·exact absurd (hv2.symm.trans w6) nofun
              ·conv=>whnf
               conv=>whnf
               conv=>whnf
               conv=>whnf
               (conv=>whnf); refine ⟨⟨(by omega),(by omega)⟩,?_⟩
               conv=>whnf
               conv=>whnf
               conv=>whnf
               conv=>whnf
               (conv=>whnf); refine ⟨⟨(by omega),(by omega)⟩,?_⟩
               refine ⟨_,fun i _=>hrow i,?_⟩
               conv=>whnf
               conv=>whnf
               conv=>whnf
               conv=>whnf
               (conv=>whnf); refine ⟨inK64 (by omega) (by omega),?_⟩
               conv=>whnf
               conv=>whnf
               conv=>whnf
               conv=>whnf
               (conv=>whnf); refine ⟨inK64 (by omega) (by omega),?_⟩
               conv=>whnf
               conv=>whnf
               conv=>whnf
               conv=>whnf
               (conv=>whnf); refine ⟨_,_,⟨⟨k1 + 1,q + 1,a.set k1 (a.getD (0 + (k : Int).toNat + (q : Int).toNat) q2z),_,_,_,_,_,_,by omega,(by rw [eq0]; exact hI.put hlt2 he2),rfl,rfl⟩,by omega⟩,⟨⟨.inl rfl,rfl,rfl,rfl⟩,⟨bA,⟨bA,⟨bA,⟨bA,⟨bA,⟨bA,⟨bA,⟨⟨rfl,rfl,rfl,rfl,nofun,fun _ _=>.inl rfl⟩,⟨bA,⟨bA,trivial⟩⟩⟩⟩⟩⟩⟩⟩⟩⟩,trivial⟩⟩
             ·(exfalso; omega)
           ·have hf := hI.fin hlt2
            have hz2 : 0 ≤ (k1 : Int) ∧ (k1 : Int) ≤ (R.length : Int) ∧ ((0 : Nat) : Int) + (R.length : Int) ≤ (R.length : Int) := ⟨by omega,by omega,by omega⟩
            have hz3 : 0 ≤ (0 : Int) ∧ (0 : Int) ≤ (k1 : Int) ∧ ((0 : Nat) : Int) + (k1 : Int) ≤ (R.length : Int) := ⟨by omega,by omega,by omega⟩
            conv=>whnf
            conv=>whnf
            conv=>whnf
            conv=>whnf
            (conv=>whnf); refine ifB_dec (fun w5=>?_) (fun w5=>?_)
            ·(exfalso; omega)
            ·conv=>whnf
             conv=>whnf
             conv=>whnf
             conv=>whnf
             (conv=>whnf); refine ⟨by assumption,?_⟩
             conv=>whnf
             conv=>whnf
             conv=>whnf
             conv=>whnf
             (conv=>whnf); refine ⟨by assumption,?_⟩
             conv=>whnf
             conv=>whnf
             conv=>whnf
             conv=>whnf
             (conv=>whnf); refine .inl ⟨_,_,byX rfl (Sound1.pl (S78 _ _) rfl),?_⟩
             conv=>whnf
             conv=>whnf
             conv=>whnf
             conv=>whnf
             (conv=>whnf); refine ⟨?_,nofun⟩
             exact ave_tup2 ⟨rfl,(by have := hf.1; omega),fun i hi=>(if_neg (by omega)).trans (congrArg (fun e=>lcC (fr2 e)) (hf.2 i (by omega)))⟩ hE2
          ·exact absurd (hv.symm.trans w4) nofun
         ·(exfalso; omega)
        ·rw [decide_eq_false (by rw [ek,Nat.zero_add,Nat.zero_add]; exact he)] at hv
         conv=>whnf
         conv=>whnf
         conv=>whnf
         (conv=>whnf); refine ifB_dec (fun w3=>?_) (fun w3=>?_)
         ·conv=>whnf
          conv=>whnf
          conv=>whnf
          (conv=>whnf); refine ⟨[],by kernel_rfl,?_⟩
          conv=>whnf
          conv=>whnf
          conv=>whnf
          (conv=>whnf); refine ⟨⟨(by omega),(by omega)⟩,?_⟩
          conv=>whnf
          conv=>whnf
          conv=>whnf
          (conv=>whnf); refine ⟨inK64 (by omega) (by omega),?_⟩
          conv=>whnf
          conv=>whnf
          conv=>whnf
          (conv=>whnf); refine ⟨⟨(by omega),(by omega)⟩,?_⟩
          conv=>whnf
          conv=>whnf
          conv=>whnf
          (conv=>whnf); refine ifB_intro (fun w4=>?_) (fun w4=>?_)
          ·exact absurd (hv.symm.trans w4) nofun
          ·conv=>whnf
           conv=>whnf
           conv=>whnf
           (conv=>whnf); refine ⟨inK64 (by omega) (by omega),?_⟩
           conv=>whnf
           conv=>whnf
           conv=>whnf
           (conv=>whnf); refine ⟨_,_,⟨⟨k + 1,_,_,_,_,_,_,by omega,by omega,comp_go hk1 hlt hc he,rfl,rfl⟩,by omega⟩,⟨⟨.inl rfl,rfl,rfl,rfl⟩,⟨bA,⟨bA,⟨bA,⟨bA,⟨bA,⟨bA,⟨bA,⟨⟨rfl,rfl,rfl,rfl,nofun,fun _ _=>.inl rfl⟩,⟨bA,⟨bA,trivial⟩⟩⟩⟩⟩⟩⟩⟩⟩⟩,trivial⟩⟩
         ·(exfalso; omega)
       ·obtain rfl : k = R.length := by omega
        rw [List.take_length] at hc
        rw [hc]
        conv=>whnf
        conv=>whnf
        conv=>whnf
        (conv=>whnf); refine ifB_dec (fun w3=>?_) (fun w3=>?_)
        ·(exfalso; omega)
        ·conv=>whnf
         conv=>whnf
         conv=>whnf
         (conv=>whnf); refine .inl ⟨_,_,byX rfl (Sound1.pl (S78 _ _) rfl),?_⟩
         conv=>whnf
         conv=>whnf
         conv=>whnf
         (conv=>whnf); refine ⟨?_,nofun⟩
         exact ave_tup2 ⟨rfl,rfl,fun _ _=>rfl⟩ hE2
     ·conv => whnf
      conv=>whnf
      (conv=>whnf); refine .inr (.inl ⟨[],?_⟩)
      conv=>whnf
      conv=>whnf
      (conv=>whnf); refine ifB_dec (fun w2=>?_) (fun w2=>?_)
      ·conv=>whnf
       conv=>whnf
       (conv=>whnf); refine .inl ⟨_,_,byX rfl (Sound1.pl (h78 _ _) rfl),?_⟩
       conv=>whnf
       conv=>whnf
       (conv=>whnf); refine ⟨?_,nofun⟩
       rw [compL_one (by omega)]
       exact ave_tup2 ⟨rfl,rfl,fun i hi=>(srt_row (A := lcC (fr2 ((locL t h f).getD i q2z))) (B := lcC (fr2 ((locL t h f).getD i q2z))) hi).symm⟩ hE2
      ·conv => whnf
       conv=>whnf
       (conv=>whnf); refine ⟨[.forget [0,1,2,3,4,5,8,10,11,12,13,14,15,16,17,18,19,20,21,22,23,24,25,26,27,28,29,30,31,32,33,34,35,36,37,38,39,40,41,42,43,44,45,46,47,48,49,50,51,53,54,55,56,57,58,59]],[0,3],fun st mq=>∃ (k : Nat) (F0 : Nat → List AV) (F1 : Nat → List AV) (F2 : Nat → List AV) (F5 : Nat → List AV) (F6 : Nat → List AV) (F8 : Nat → List AV),(1 ≤ k) ∧ (k ≤ R.length) ∧ (compL (R.take k) = R.take k) ∧ st = ⟨[(0,.oslice 9 0 0 R.length none),(3,i64 k)],⟨[⟨1,1,F0,0,false,true,false⟩,⟨1,1,F1,0,false,true,false⟩,⟨1,1,F2,0,false,true,false⟩,⟨1,1,fun _=>[.eslice],0,false,true,true⟩,⟨1,1,fun _=>[i64 0],0,false,true,true⟩,⟨1,2,F5,0,false,true,false⟩,⟨1,2,F6,0,false,true,false⟩,⟨1,1,fun _=>[.oslice 9 0 0 R.length none],0,false,false,true⟩,⟨1,1,F8,0,false,true,false⟩,⟨4,R.length,fun i=>lcC (fr2 (R.getD i q2z)),0,false,true,false⟩],[],none,1⟩,[(52,i64 R.length),(6,.optr 3 0 0 0),(7,.optr 4 0 0 0),(9,.optr 7 0 0 0)]⟩ ∧ mq = R.length - k,
        ⟨_,_,⟨1,_,_,_,_,_,_,by omega,by omega,compL_one (by rw [List.length_take]; omega),rfl,rfl⟩,⟨⟨.inl rfl,rfl,rfl,rfl⟩,⟨bA,⟨bA,⟨bA,⟨bA,⟨bA,⟨bA,⟨bA,⟨⟨rfl,rfl,rfl,rfl,nofun,fun _ _=>.inl rfl⟩,⟨bA,⟨⟨rfl,rfl,rfl,rfl,fun _=>rfl,fun i hi=>.inl (srt_row (A := lcC (fr2 ((locL t h f).getD i q2z))) (B := lcC (fr2 ((locL t h f).getD i q2z))) hi)⟩,trivial⟩⟩⟩⟩⟩⟩⟩⟩⟩⟩,trivial⟩⟩,?_⟩
       rintro s0 m0 ⟨k,F0,F1,F2,F5,F6,F8,hk1,hk2,hc,rfl,hmeas⟩
       have ek : ((k : Int) - 1).toNat = k - 1 := by omega
       by_cases hlt : k < R.length
       ·have hv := lc_veq (R.getD (0 + (k : Int).toNat) q2z) (R.getD (0 + ((k : Int) - 1).toNat) q2z)
        have hz : 0 ≤ (k : Int) ∧ (k : Int) ≤ (R.length : Int) ∧ ((0 : Nat) : Int) + (R.length : Int) ≤ (R.length : Int) := ⟨by omega,by omega,by omega⟩
        by_cases he : R.getD k q2z = R.getD (k - 1) q2z
        ·rw [decide_eq_true (by rw [ek, Nat.zero_add, Nat.zero_add]; exact he)] at hv
         conv=>whnf
         conv=>whnf
         conv=>whnf
         (conv=>whnf); refine ifB_dec (fun w3=>?_) (fun w3=>?_)
         ·conv => whnf
          conv=>whnf
          conv=>whnf
          (conv=>whnf); refine ⟨[],by kernel_rfl,?_⟩
          conv=>whnf
          conv=>whnf
          conv=>whnf
          (conv=>whnf); refine ⟨⟨(by omega),(by omega)⟩,?_⟩
          conv=>whnf
          conv=>whnf
          conv=>whnf
          (conv=>whnf); refine ⟨inK64 (by omega) (by omega),?_⟩
          conv=>whnf
          conv=>whnf
          conv=>whnf
          (conv=>whnf); refine ⟨⟨(by omega),(by omega)⟩,?_⟩
          conv=>whnf
          conv=>whnf
          conv=>whnf
          (conv=>whnf); refine ifB_intro (fun w4=>?_) (fun w4=>?_)
          ·conv=>whnf
           conv=>whnf
           conv=>whnf
           (conv=>whnf); refine ⟨by assumption,?_⟩
           conv=>whnf
           conv=>whnf
           conv=>whnf
           (conv=>whnf); refine ⟨[],[0,3,4,5],fun st mq=>∃ (k1 : Nat) (q : Nat) (a : List Q2) (F0 : Nat → List AV) (F1 : Nat → List AV) (F2 : Nat → List AV) (F5 : Nat → List AV) (F6 : Nat → List AV) (F8 : Nat → List AV),(1 ≤ q) ∧ (CmpI q2z R a k1 (k + q)) ∧ st = ⟨[(0,.oslice 9 0 0 R.length none),(3,i64 k1),(4,.oslice 9 0 (0 + (k : Int).toNat) ((R.length : Int) - (k : Int)).toNat none),(5,i64 q)],⟨[⟨1,1,F0,0,false,true,false⟩,⟨1,1,F1,0,false,true,false⟩,⟨1,1,F2,0,false,true,false⟩,⟨1,1,fun _=>[.eslice],0,false,true,true⟩,⟨1,1,fun _=>[i64 0],0,false,true,true⟩,⟨1,2,F5,0,false,true,false⟩,⟨1,2,F6,0,false,true,false⟩,⟨1,1,fun _=>[.oslice 9 0 0 R.length none],0,false,false,true⟩,⟨1,1,F8,0,false,true,false⟩,⟨4,R.length,fun i=>lcC (fr2 (a.getD i q2z)),0,false,true,false⟩],[],none,1⟩,[(52,i64 R.length),(6,.optr 3 0 0 0),(7,.optr 4 0 0 0),(9,.optr 7 0 0 0)]⟩ ∧ mq = R.length - k - q,
            ⟨_,_,⟨k,1,R,_,_,_,_,_,_,by omega,cmpI_start hk1 hlt hc he,rfl,rfl⟩,⟨⟨.inl rfl,rfl,rfl,rfl⟩,⟨bA,⟨bA,⟨bA,⟨bA,⟨bA,⟨bA,⟨bA,⟨⟨rfl,rfl,rfl,rfl,nofun,fun _ _=>.inl rfl⟩,⟨bA,⟨bA,trivial⟩⟩⟩⟩⟩⟩⟩⟩⟩⟩,trivial⟩⟩,?_⟩
           rintro s0 m0 ⟨k1,q,a,F0,F1,F2,F5,F6,F8,hq,hI,rfl,hmeas⟩
           have hkp := hI.kp
           have hal1 := hI.len
           by_cases hlt2 : k + q < R.length
           ·have hv2 := lc_veq (a.getD (0 + (k : Int).toNat + (q : Int).toNat) q2z) (a.getD (0 + (k : Int).toNat + ((q : Int) - 1).toNat) q2z)
            have ep : 0 + (k : Int).toNat + ((q : Int) - 1).toNat = k + q - 1 := by omega
            have eq0 : 0 + (k : Int).toNat + (q : Int).toNat = k + q := by omega
            by_cases he2 : a.getD (k + q) q2z = a.getD (k + q - 1) q2z
            ·rw [decide_eq_true (by rw [ep,eq0]; exact he2)] at hv2
             conv=>whnf
             conv=>whnf
             conv=>whnf
             conv=>whnf
             (conv=>whnf); refine ifB_dec (fun w5=>?_) (fun w5=>?_)
             ·conv=>whnf
              conv=>whnf
              conv=>whnf
              conv=>whnf
              (conv=>whnf); refine ⟨[],by kernel_rfl,?_⟩
              conv=>whnf
              conv=>whnf
              conv=>whnf
              conv=>whnf
              (conv=>whnf); refine ⟨⟨(by omega),(by omega)⟩,?_⟩
              conv=>whnf
              conv=>whnf
              conv=>whnf
              conv=>whnf
              (conv=>whnf); refine ⟨inK64 (by omega) (by omega),?_⟩
              conv=>whnf
              conv=>whnf
              conv=>whnf
              conv=>whnf
              (conv=>whnf); refine ⟨⟨(by omega),(by omega)⟩,?_⟩
              conv=>whnf
              conv=>whnf
              conv=>whnf
              conv=>whnf
              (conv=>whnf); refine ifB_not ?_
              conv=>whnf
              conv=>whnf
              conv=>whnf
              conv=>whnf
              (conv=>whnf); refine ifB_intro (fun w6=>?_) (fun w6=>?_)
              ·conv=>whnf
               conv=>whnf
               conv=>whnf
               conv=>whnf
               (conv=>whnf); refine ⟨inK64 (by omega) (by omega),?_⟩
               conv=>whnf
               conv=>whnf
               conv=>whnf
               conv=>whnf
               (conv=>whnf); refine ⟨_,_,⟨⟨k1,q + 1,a,_,_,_,_,_,_,by omega,hI.same hlt2 he2,rfl,rfl⟩,by omega⟩,⟨⟨.inl rfl,rfl,rfl,rfl⟩,⟨bA,⟨bA,⟨bA,⟨bA,⟨bA,⟨bA,⟨bA,⟨⟨rfl,rfl,rfl,rfl,nofun,fun _ _=>.inl rfl⟩,⟨bA,⟨bA,trivial⟩⟩⟩⟩⟩⟩⟩⟩⟩⟩,trivial⟩⟩
              ·exact absurd (hv2.symm.trans w6) nofun
             ·(exfalso; omega)
            ·rw [decide_eq_false (by rw [ep,eq0]; exact he2)] at hv2
             have hrow := fun i : Nat=>rowG (n := 4) (fun e=>lcC (fr2 e)) (fun _=>rfl) q2z a (k1 : Int).toNat i (a.getD (0 + (k : Int).toNat + (q : Int).toNat) q2z) (by omega)
             conv=>whnf
             conv=>whnf
             conv=>whnf
             conv=>whnf
             (conv=>whnf); refine ifB_dec (fun w5=>?_) (fun w5=>?_)
             ·conv=>whnf
              conv=>whnf
              conv=>whnf
              conv=>whnf
              (conv=>whnf); refine ⟨[],by kernel_rfl,?_⟩
              conv=>whnf
              conv=>whnf
              conv=>whnf
              conv=>whnf
              (conv=>whnf); refine ⟨⟨(by omega),(by omega)⟩,?_⟩
              conv=>whnf
              conv=>whnf
              conv=>whnf
              conv=>whnf
              (conv=>whnf); refine ⟨inK64 (by omega) (by omega),?_⟩
              conv=>whnf
              conv=>whnf
              conv=>whnf
              conv=>whnf
              (conv=>whnf); refine ⟨⟨(by omega),(by omega)⟩,?_⟩
              conv=>whnf
              conv=>whnf
              conv=>whnf
              conv=>whnf
              (conv=>whnf); refine ifB_not ?_
              conv=>whnf
              conv=>whnf
              conv=>whnf
              conv=>whnf
              (conv=>whnf); refine ifB_intro (fun w6=>?_) (fun w6=>?_)
              ·exact absurd (hv2.symm.trans w6) nofun
              ·conv=>whnf
               conv=>whnf
               conv=>whnf
               conv=>whnf
               (conv=>whnf); refine ⟨⟨(by omega),(by omega)⟩,?_⟩
               conv=>whnf
               conv=>whnf
               conv=>whnf
               conv=>whnf
               (conv=>whnf); refine ⟨⟨(by omega),(by omega)⟩,?_⟩
               refine ⟨_,fun i _=>hrow i,?_⟩
               conv=>whnf
               conv=>whnf
               conv=>whnf
               conv=>whnf
               (conv=>whnf); refine ⟨inK64 (by omega) (by omega),?_⟩
               conv=>whnf
               conv=>whnf
               conv=>whnf
               conv=>whnf
               (conv=>whnf); refine ⟨inK64 (by omega) (by omega),?_⟩
               conv=>whnf
               conv=>whnf
               conv=>whnf
               conv=>whnf
               (conv=>whnf); refine ⟨_,_,⟨⟨k1 + 1,q + 1,a.set k1 (a.getD (0 + (k : Int).toNat + (q : Int).toNat) q2z),_,_,_,_,_,_,by omega,(by rw [eq0]; exact hI.put hlt2 he2),rfl,rfl⟩,by omega⟩,⟨⟨.inl rfl,rfl,rfl,rfl⟩,⟨bA,⟨bA,⟨bA,⟨bA,⟨bA,⟨bA,⟨bA,⟨⟨rfl,rfl,rfl,rfl,nofun,fun _ _=>.inl rfl⟩,⟨bA,⟨bA,trivial⟩⟩⟩⟩⟩⟩⟩⟩⟩⟩,trivial⟩⟩
             ·(exfalso; omega)
           ·have hf := hI.fin hlt2
            have hz2 : 0 ≤ (k1 : Int) ∧ (k1 : Int) ≤ (R.length : Int) ∧ ((0 : Nat) : Int) + (R.length : Int) ≤ (R.length : Int) := ⟨by omega,by omega,by omega⟩
            have hz3 : 0 ≤ (0 : Int) ∧ (0 : Int) ≤ (k1 : Int) ∧ ((0 : Nat) : Int) + (k1 : Int) ≤ (R.length : Int) := ⟨by omega,by omega,by omega⟩
            conv=>whnf
            conv=>whnf
            conv=>whnf
            conv=>whnf
            (conv=>whnf); refine ifB_dec (fun w5=>?_) (fun w5=>?_)
            ·(exfalso; omega)
            ·conv=>whnf
             conv=>whnf
             conv=>whnf
             conv=>whnf
             (conv=>whnf); refine ⟨by assumption,?_⟩
             conv=>whnf
             conv=>whnf
             conv=>whnf
             conv=>whnf
             (conv=>whnf); refine ⟨by assumption,?_⟩
             conv=>whnf
             conv=>whnf
             conv=>whnf
             conv=>whnf
             (conv=>whnf); refine .inl ⟨_,_,byX rfl (Sound1.pl (S78 _ _) rfl),?_⟩
             conv=>whnf
             conv=>whnf
             conv=>whnf
             conv=>whnf
             (conv=>whnf); refine ⟨?_,nofun⟩
             exact ave_tup2 ⟨rfl,(by have := hf.1; omega),fun i hi=>(if_neg (by omega)).trans (congrArg (fun e=>lcC (fr2 e)) (hf.2 i (by omega)))⟩ hE2
          ·exact absurd (hv.symm.trans w4) nofun
         ·(exfalso; omega)
        ·rw [decide_eq_false (by rw [ek,Nat.zero_add,Nat.zero_add]; exact he)] at hv
         conv=>whnf
         conv=>whnf
         conv=>whnf
         (conv=>whnf); refine ifB_dec (fun w3=>?_) (fun w3=>?_)
         ·conv=>whnf
          conv=>whnf
          conv=>whnf
          (conv=>whnf); refine ⟨[],by kernel_rfl,?_⟩
          conv=>whnf
          conv=>whnf
          conv=>whnf
          (conv=>whnf); refine ⟨⟨(by omega),(by omega)⟩,?_⟩
          conv=>whnf
          conv=>whnf
          conv=>whnf
          (conv=>whnf); refine ⟨inK64 (by omega) (by omega),?_⟩
          conv=>whnf
          conv=>whnf
          conv=>whnf
          (conv=>whnf); refine ⟨⟨(by omega),(by omega)⟩,?_⟩
          conv=>whnf
          conv=>whnf
          conv=>whnf
          (conv=>whnf); refine ifB_intro (fun w4=>?_) (fun w4=>?_)
          ·exact absurd (hv.symm.trans w4) nofun
          ·conv=>whnf
           conv=>whnf
           conv=>whnf
           (conv=>whnf); refine ⟨inK64 (by omega) (by omega),?_⟩
           conv=>whnf
           conv=>whnf
           conv=>whnf
           (conv=>whnf); refine ⟨_,_,⟨⟨k + 1,_,_,_,_,_,_,by omega,by omega,comp_go hk1 hlt hc he,rfl,rfl⟩,by omega⟩,⟨⟨.inl rfl,rfl,rfl,rfl⟩,⟨bA,⟨bA,⟨bA,⟨bA,⟨bA,⟨bA,⟨bA,⟨⟨rfl,rfl,rfl,rfl,nofun,fun _ _=>.inl rfl⟩,⟨bA,⟨bA,trivial⟩⟩⟩⟩⟩⟩⟩⟩⟩⟩,trivial⟩⟩
         ·(exfalso; omega)
       ·obtain rfl : k = R.length := by omega
        rw [List.take_length] at hc
        rw [hc]
        conv=>whnf
        conv=>whnf
        conv=>whnf
        (conv=>whnf); refine ifB_dec (fun w3=>?_) (fun w3=>?_)
        ·(exfalso; omega)
        ·conv=>whnf
         conv=>whnf
         conv=>whnf
         (conv=>whnf); refine .inl ⟨_,_,byX rfl (Sound1.pl (S78 _ _) rfl),?_⟩
         conv=>whnf
         conv=>whnf
         conv=>whnf
         (conv=>whnf); refine ⟨?_,nofun⟩
         exact ave_tup2 ⟨rfl,rfl,fun _ _=>rfl⟩ hE2
     ·conv => whnf
      conv=>whnf
      (conv=>whnf); refine .inr (.inl ⟨[],?_⟩)
      conv=>whnf
      conv=>whnf
      (conv=>whnf); refine ifB_dec (fun w2=>?_) (fun w2=>?_)
      ·conv=>whnf
       conv=>whnf
       (conv=>whnf); refine .inl ⟨_,_,byX rfl (Sound1.pl (h78 _ _) rfl),?_⟩
       conv=>whnf
       conv=>whnf
       (conv=>whnf); refine ⟨?_,nofun⟩
       rw [compL_one (by omega)]
       exact ave_tup2 ⟨rfl,rfl,fun i hi=>(srt_row (A := lcC (fr2 ((locL t h f).getD i q2z))) (B := lcC (fr2 ((locL t h f).getD i q2z))) hi).symm⟩ hE2
      ·conv => whnf
       conv=>whnf
       (conv=>whnf); refine ⟨[.forget [0,1,2,3,4,5,8,10,11,12,13,14,15,16,17,18,19,20,21,22,23,24,25,26,27,28,29,30,31,32,33,34,35,36,37,38,39,40,41,42,43,44,45,46,47,48,49,50,51,52,54,55,56,57,58,59]],[0,3],fun st mq=>∃ (k : Nat) (F0 : Nat → List AV) (F1 : Nat → List AV) (F2 : Nat → List AV) (F5 : Nat → List AV) (F6 : Nat → List AV) (F8 : Nat → List AV),(1 ≤ k) ∧ (k ≤ R.length) ∧ (compL (R.take k) = R.take k) ∧ st = ⟨[(0,.oslice 9 0 0 R.length none),(3,i64 k)],⟨[⟨1,1,F0,0,false,true,false⟩,⟨1,1,F1,0,false,true,false⟩,⟨1,1,F2,0,false,true,false⟩,⟨1,1,fun _=>[.eslice],0,false,true,true⟩,⟨1,1,fun _=>[i64 0],0,false,true,true⟩,⟨1,2,F5,0,false,true,false⟩,⟨1,2,F6,0,false,true,false⟩,⟨1,1,fun _=>[.oslice 9 0 0 R.length none],0,false,false,true⟩,⟨1,1,F8,0,false,true,false⟩,⟨4,R.length,fun i=>lcC (fr2 (R.getD i q2z)),0,false,true,false⟩],[],none,1⟩,[(53,vb (decide ((R.length : Int) > 0))),(6,.optr 3 0 0 0),(7,.optr 4 0 0 0),(9,.optr 7 0 0 0)]⟩ ∧ mq = R.length - k,
        ⟨_,_,⟨1,_,_,_,_,_,_,by omega,by omega,compL_one (by rw [List.length_take]; omega),rfl,rfl⟩,⟨⟨.inl rfl,rfl,rfl,rfl⟩,⟨bA,⟨bA,⟨bA,⟨bA,⟨bA,⟨bA,⟨bA,⟨⟨rfl,rfl,rfl,rfl,nofun,fun _ _=>.inl rfl⟩,⟨bA,⟨⟨rfl,rfl,rfl,rfl,fun _=>rfl,fun i hi=>.inl (srt_row (A := lcC (fr2 ((locL t h f).getD i q2z))) (B := lcC (fr2 ((locL t h f).getD i q2z))) hi)⟩,trivial⟩⟩⟩⟩⟩⟩⟩⟩⟩⟩,trivial⟩⟩,?_⟩
       rintro s0 m0 ⟨k,F0,F1,F2,F5,F6,F8,hk1,hk2,hc,rfl,hmeas⟩
       have ek : ((k : Int) - 1).toNat = k - 1 := by omega
       by_cases hlt : k < R.length
       ·have hv := lc_veq (R.getD (0 + (k : Int).toNat) q2z) (R.getD (0 + ((k : Int) - 1).toNat) q2z)
        have hz : 0 ≤ (k : Int) ∧ (k : Int) ≤ (R.length : Int) ∧ ((0 : Nat) : Int) + (R.length : Int) ≤ (R.length : Int) := ⟨by omega,by omega,by omega⟩
        by_cases he : R.getD k q2z = R.getD (k - 1) q2z
        ·rw [decide_eq_true (by rw [ek, Nat.zero_add, Nat.zero_add]; exact he)] at hv
         conv=>whnf
         conv=>whnf
         conv=>whnf
         (conv=>whnf); refine ifB_dec (fun w3=>?_) (fun w3=>?_)
         ·conv => whnf
          conv=>whnf
          conv=>whnf
          (conv=>whnf); refine ⟨[],by kernel_rfl,?_⟩
          conv=>whnf
          conv=>whnf
          conv=>whnf
          (conv=>whnf); refine ⟨⟨(by omega),(by omega)⟩,?_⟩
          conv=>whnf
          conv=>whnf
          conv=>whnf
          (conv=>whnf); refine ⟨inK64 (by omega) (by omega),?_⟩
          conv=>whnf
          conv=>whnf
          conv=>whnf
          (conv=>whnf); refine ⟨⟨(by omega),(by omega)⟩,?_⟩
          conv=>whnf
          conv=>whnf
          conv=>whnf
          (conv=>whnf); refine ifB_intro (fun w4=>?_) (fun w4=>?_)
          ·conv=>whnf
           conv=>whnf
           conv=>whnf
           (conv=>whnf); refine ⟨by assumption,?_⟩
           conv=>whnf
           conv=>whnf
           conv=>whnf
           (conv=>whnf); refine ⟨[],[0,3,4,5],fun st mq=>∃ (k1 : Nat) (q : Nat) (a : List Q2) (F0 : Nat → List AV) (F1 : Nat → List AV) (F2 : Nat → List AV) (F5 : Nat → List AV) (F6 : Nat → List AV) (F8 : Nat → List AV),(1 ≤ q) ∧ (CmpI q2z R a k1 (k + q)) ∧ st = ⟨[(0,.oslice 9 0 0 R.length none),(3,i64 k1),(4,.oslice 9 0 (0 + (k : Int).toNat) ((R.length : Int) - (k : Int)).toNat none),(5,i64 q)],⟨[⟨1,1,F0,0,false,true,false⟩,⟨1,1,F1,0,false,true,false⟩,⟨1,1,F2,0,false,true,false⟩,⟨1,1,fun _=>[.eslice],0,false,true,true⟩,⟨1,1,fun _=>[i64 0],0,false,true,true⟩,⟨1,2,F5,0,false,true,false⟩,⟨1,2,F6,0,false,true,false⟩,⟨1,1,fun _=>[.oslice 9 0 0 R.length none],0,false,false,true⟩,⟨1,1,F8,0,false,true,false⟩,⟨4,R.length,fun i=>lcC (fr2 (a.getD i q2z)),0,false,true,false⟩],[],none,1⟩,[(53,vb (decide ((R.length : Int) > 0))),(6,.optr 3 0 0 0),(7,.optr 4 0 0 0),(9,.optr 7 0 0 0)]⟩ ∧ mq = R.length - k - q,
            ⟨_,_,⟨k,1,R,_,_,_,_,_,_,by omega,cmpI_start hk1 hlt hc he,rfl,rfl⟩,⟨⟨.inl rfl,rfl,rfl,rfl⟩,⟨bA,⟨bA,⟨bA,⟨bA,⟨bA,⟨bA,⟨bA,⟨⟨rfl,rfl,rfl,rfl,nofun,fun _ _=>.inl rfl⟩,⟨bA,⟨bA,trivial⟩⟩⟩⟩⟩⟩⟩⟩⟩⟩,trivial⟩⟩,?_⟩
           rintro s0 m0 ⟨k1,q,a,F0,F1,F2,F5,F6,F8,hq,hI,rfl,hmeas⟩
           have hkp := hI.kp
           have hal1 := hI.len
           by_cases hlt2 : k + q < R.length
           ·have hv2 := lc_veq (a.getD (0 + (k : Int).toNat + (q : Int).toNat) q2z) (a.getD (0 + (k : Int).toNat + ((q : Int) - 1).toNat) q2z)
            have ep : 0 + (k : Int).toNat + ((q : Int) - 1).toNat = k + q - 1 := by omega
            have eq0 : 0 + (k : Int).toNat + (q : Int).toNat = k + q := by omega
            by_cases he2 : a.getD (k + q) q2z = a.getD (k + q - 1) q2z
            ·rw [decide_eq_true (by rw [ep,eq0]; exact he2)] at hv2
             conv=>whnf
             conv=>whnf
             conv=>whnf
             conv=>whnf
             (conv=>whnf); refine ifB_dec (fun w5=>?_) (fun w5=>?_)
             ·conv=>whnf
              conv=>whnf
              conv=>whnf
              conv=>whnf
              (conv=>whnf); refine ⟨[],by kernel_rfl,?_⟩
              conv=>whnf
              conv=>whnf
              conv=>whnf
              conv=>whnf
              (conv=>whnf); refine ⟨⟨(by omega),(by omega)⟩,?_⟩
              conv=>whnf
              conv=>whnf
              conv=>whnf
              conv=>whnf
              (conv=>whnf); refine ⟨inK64 (by omega) (by omega),?_⟩
              conv=>whnf
              conv=>whnf
              conv=>whnf
              conv=>whnf
              (conv=>whnf); refine ⟨⟨(by omega),(by omega)⟩,?_⟩
              conv=>whnf
              conv=>whnf
              conv=>whnf
              conv=>whnf
              (conv=>whnf); refine ifB_not ?_
              conv=>whnf
              conv=>whnf
              conv=>whnf
              conv=>whnf
              (conv=>whnf); refine ifB_intro (fun w6=>?_) (fun w6=>?_)
              ·conv=>whnf
               conv=>whnf
               conv=>whnf
               conv=>whnf
               (conv=>whnf); refine ⟨inK64 (by omega) (by omega),?_⟩
               conv=>whnf
               conv=>whnf
               conv=>whnf
               conv=>whnf
               (conv=>whnf); refine ⟨_,_,⟨⟨k1,q + 1,a,_,_,_,_,_,_,by omega,hI.same hlt2 he2,rfl,rfl⟩,by omega⟩,⟨⟨.inl rfl,rfl,rfl,rfl⟩,⟨bA,⟨bA,⟨bA,⟨bA,⟨bA,⟨bA,⟨bA,⟨⟨rfl,rfl,rfl,rfl,nofun,fun _ _=>.inl rfl⟩,⟨bA,⟨bA,trivial⟩⟩⟩⟩⟩⟩⟩⟩⟩⟩,trivial⟩⟩
              ·exact absurd (hv2.symm.trans w6) nofun
             ·(exfalso; omega)
            ·rw [decide_eq_false (by rw [ep,eq0]; exact he2)] at hv2
             have hrow := fun i : Nat=>rowG (n := 4) (fun e=>lcC (fr2 e)) (fun _=>rfl) q2z a (k1 : Int).toNat i (a.getD (0 + (k : Int).toNat + (q : Int).toNat) q2z) (by omega)
             conv=>whnf
             conv=>whnf
             conv=>whnf
             conv=>whnf
             (conv=>whnf); refine ifB_dec (fun w5=>?_) (fun w5=>?_)
             ·conv=>whnf
              conv=>whnf
              conv=>whnf
              conv=>whnf
              (conv=>whnf); refine ⟨[],by kernel_rfl,?_⟩
              conv=>whnf
              conv=>whnf
              conv=>whnf
              conv=>whnf
              (conv=>whnf); refine ⟨⟨(by omega),(by omega)⟩,?_⟩
              conv=>whnf
              conv=>whnf
              conv=>whnf
              conv=>whnf
              (conv=>whnf); refine ⟨inK64 (by omega) (by omega),?_⟩
              conv=>whnf
              conv=>whnf
              conv=>whnf
              conv=>whnf
              (conv=>whnf); refine ⟨⟨(by omega),(by omega)⟩,?_⟩
              conv=>whnf
              conv=>whnf
              conv=>whnf
              conv=>whnf
              (conv=>whnf); refine ifB_not ?_
              conv=>whnf
              conv=>whnf
              conv=>whnf
              conv=>whnf
              (conv=>whnf); refine ifB_intro (fun w6=>?_) (fun w6=>?_)
              ·exact absurd (hv2.symm.trans w6) nofun
              ·conv=>whnf
               conv=>whnf
               conv=>whnf
               conv=>whnf
               (conv=>whnf); refine ⟨⟨(by omega),(by omega)⟩,?_⟩
               conv=>whnf
               conv=>whnf
               conv=>whnf
               conv=>whnf
               (conv=>whnf); refine ⟨⟨(by omega),(by omega)⟩,?_⟩
               refine ⟨_,fun i _=>hrow i,?_⟩
               conv=>whnf
               conv=>whnf
               conv=>whnf
               conv=>whnf
               (conv=>whnf); refine ⟨inK64 (by omega) (by omega),?_⟩
               conv=>whnf
               conv=>whnf
               conv=>whnf
               conv=>whnf
               (conv=>whnf); refine ⟨inK64 (by omega) (by omega),?_⟩
               conv=>whnf
               conv=>whnf
               conv=>whnf
               conv=>whnf
               (conv=>whnf); refine ⟨_,_,⟨⟨k1 + 1,q + 1,a.set k1 (a.getD (0 + (k : Int).toNat + (q : Int).toNat) q2z),_,_,_,_,_,_,by omega,(by rw [eq0]; exact hI.put hlt2 he2),rfl,rfl⟩,by omega⟩,⟨⟨.inl rfl,rfl,rfl,rfl⟩,⟨bA,⟨bA,⟨bA,⟨bA,⟨bA,⟨bA,⟨bA,⟨⟨rfl,rfl,rfl,rfl,nofun,fun _ _=>.inl rfl⟩,⟨bA,⟨bA,trivial⟩⟩⟩⟩⟩⟩⟩⟩⟩⟩,trivial⟩⟩
             ·(exfalso; omega)
           ·have hf := hI.fin hlt2
            have hz2 : 0 ≤ (k1 : Int) ∧ (k1 : Int) ≤ (R.length : Int) ∧ ((0 : Nat) : Int) + (R.length : Int) ≤ (R.length : Int) := ⟨by omega,by omega,by omega⟩
            have hz3 : 0 ≤ (0 : Int) ∧ (0 : Int) ≤ (k1 : Int) ∧ ((0 : Nat) : Int) + (k1 : Int) ≤ (R.length : Int) := ⟨by omega,by omega,by omega⟩
            conv=>whnf
            conv=>whnf
            conv=>whnf
            conv=>whnf
            (conv=>whnf); refine ifB_dec (fun w5=>?_) (fun w5=>?_)
            ·(exfalso; omega)
            ·conv=>whnf
             conv=>whnf
             conv=>whnf
             conv=>whnf
             (conv=>whnf); refine ⟨by assumption,?_⟩
             conv=>whnf
             conv=>whnf
             conv=>whnf
             conv=>whnf
             (conv=>whnf); refine ⟨by assumption,?_⟩
             conv=>whnf
             conv=>whnf
             conv=>whnf
             conv=>whnf
             (conv=>whnf); refine .inl ⟨_,_,byX rfl (Sound1.pl (S78 _ _) rfl),?_⟩
             conv=>whnf
             conv=>whnf
             conv=>whnf
             conv=>whnf
             (conv=>whnf); refine ⟨?_,nofun⟩
             exact ave_tup2 ⟨rfl,(by have := hf.1; omega),fun i hi=>(if_neg (by omega)).trans (congrArg (fun e=>lcC (fr2 e)) (hf.2 i (by omega)))⟩ hE2
          ·exact absurd (hv.symm.trans w4) nofun
         ·(exfalso; omega)
        ·rw [decide_eq_false (by rw [ek,Nat.zero_add,Nat.zero_add]; exact he)] at hv
         conv=>whnf
         conv=>whnf
         conv=>whnf
         (conv=>whnf); refine ifB_dec (fun w3=>?_) (fun w3=>?_)
         ·conv=>whnf
          conv=>whnf
          conv=>whnf
          (conv=>whnf); refine ⟨[],by kernel_rfl,?_⟩
          conv=>whnf
          conv=>whnf
          conv=>whnf
          (conv=>whnf); refine ⟨⟨(by omega),(by omega)⟩,?_⟩
          conv=>whnf
          conv=>whnf
          conv=>whnf
          (conv=>whnf); refine ⟨inK64 (by omega) (by omega),?_⟩
          conv=>whnf
          conv=>whnf
          conv=>whnf
          (conv=>whnf); refine ⟨⟨(by omega),(by omega)⟩,?_⟩
          conv=>whnf
          conv=>whnf
          conv=>whnf
          (conv=>whnf); refine ifB_intro (fun w4=>?_) (fun w4=>?_)
          ·exact absurd (hv.symm.trans w4) nofun
          ·conv=>whnf
           conv=>whnf
           conv=>whnf
           (conv=>whnf); refine ⟨inK64 (by omega) (by omega),?_⟩
           conv=>whnf
           conv=>whnf
           conv=>whnf
           (conv=>whnf); refine ⟨_,_,⟨⟨k + 1,_,_,_,_,_,_,by omega,by omega,comp_go hk1 hlt hc he,rfl,rfl⟩,by omega⟩,⟨⟨.inl rfl,rfl,rfl,rfl⟩,⟨bA,⟨bA,⟨bA,⟨bA,⟨bA,⟨bA,⟨bA,⟨⟨rfl,rfl,rfl,rfl,nofun,fun _ _=>.inl rfl⟩,⟨bA,⟨bA,trivial⟩⟩⟩⟩⟩⟩⟩⟩⟩⟩,trivial⟩⟩
         ·(exfalso; omega)
       ·obtain rfl : k = R.length := by omega
        rw [List.take_length] at hc
        rw [hc]
        conv=>whnf
        conv=>whnf
        conv=>whnf
        (conv=>whnf); refine ifB_dec (fun w3=>?_) (fun w3=>?_)
        ·(exfalso; omega)
        ·conv=>whnf
         conv=>whnf
         conv=>whnf
         (conv=>whnf); refine .inl ⟨_,_,byX rfl (Sound1.pl (S78 _ _) rfl),?_⟩
         conv=>whnf
         conv=>whnf
         conv=>whnf
         (conv=>whnf); refine ⟨?_,nofun⟩
         exact ave_tup2 ⟨rfl,rfl,fun _ _=>rfl⟩ hE2
     ·conv => whnf
      conv=>whnf
      (conv=>whnf); refine .inr (.inl ⟨[],?_⟩)
      conv=>whnf
      conv=>whnf
      (conv=>whnf); refine ifB_dec (fun w2=>?_) (fun w2=>?_)
      ·conv=>whnf
       conv=>whnf
       (conv=>whnf); refine .inl ⟨_,_,byX rfl (Sound1.pl (h78 _ _) rfl),?_⟩
       conv=>whnf
       conv=>whnf
       (conv=>whnf); refine ⟨?_,nofun⟩
       rw [compL_one (by omega)]
       exact ave_tup2 ⟨rfl,rfl,fun i hi=>(srt_row (A := lcC (fr2 ((locL t h f).getD i q2z))) (B := lcC (fr2 ((locL t h f).getD i q2z))) hi).symm⟩ hE2
      ·conv => whnf
       conv=>whnf
       (conv=>whnf); refine ⟨[.forget [0,1,2,3,4,5,8,10,11,12,13,14,15,16,17,18,19,20,21,22,23,24,25,26,27,28,29,30,31,32,33,34,35,36,37,38,39,40,41,42,43,44,45,46,47,48,49,50,51,52,54,55,56,57,58,59]],[0,3],fun st mq=>∃ (k : Nat) (F0 : Nat → List AV) (F1 : Nat → List AV) (F2 : Nat → List AV) (F5 : Nat → List AV) (F6 : Nat → List AV) (F8 : Nat → List AV),(1 ≤ k) ∧ (k ≤ R.length) ∧ (compL (R.take k) = R.take k) ∧ st = ⟨[(0,.oslice 9 0 0 R.length none),(3,i64 k)],⟨[⟨1,1,F0,0,false,true,false⟩,⟨1,1,F1,0,false,true,false⟩,⟨1,1,F2,0,false,true,false⟩,⟨1,1,fun _=>[.eslice],0,false,true,true⟩,⟨1,1,fun _=>[i64 0],0,false,true,true⟩,⟨1,2,F5,0,false,true,false⟩,⟨1,2,F6,0,false,true,false⟩,⟨1,1,fun _=>[.oslice 9 0 0 R.length none],0,false,false,true⟩,⟨1,1,F8,0,false,true,false⟩,⟨4,R.length,fun i=>lcC (fr2 (R.getD i q2z)),0,false,true,false⟩],[],none,1⟩,[(53,vb (decide ((R.length : Int) > 0))),(6,.optr 3 0 0 0),(7,.optr 4 0 0 0),(9,.optr 7 0 0 0)]⟩ ∧ mq = R.length - k,
        ⟨_,_,⟨1,_,_,_,_,_,_,by omega,by omega,compL_one (by rw [List.length_take]; omega),rfl,rfl⟩,⟨⟨.inl rfl,rfl,rfl,rfl⟩,⟨bA,⟨bA,⟨bA,⟨bA,⟨bA,⟨bA,⟨bA,⟨⟨rfl,rfl,rfl,rfl,nofun,fun _ _=>.inl rfl⟩,⟨bA,⟨⟨rfl,rfl,rfl,rfl,fun _=>rfl,fun i hi=>.inl (srt_row (A := lcC (fr2 ((locL t h f).getD i q2z))) (B := lcC (fr2 ((locL t h f).getD i q2z))) hi)⟩,trivial⟩⟩⟩⟩⟩⟩⟩⟩⟩⟩,trivial⟩⟩,?_⟩
       rintro s0 m0 ⟨k,F0,F1,F2,F5,F6,F8,hk1,hk2,hc,rfl,hmeas⟩
       have ek : ((k : Int) - 1).toNat = k - 1 := by omega
       by_cases hlt : k < R.length
       ·have hv := lc_veq (R.getD (0 + (k : Int).toNat) q2z) (R.getD (0 + ((k : Int) - 1).toNat) q2z)
        have hz : 0 ≤ (k : Int) ∧ (k : Int) ≤ (R.length : Int) ∧ ((0 : Nat) : Int) + (R.length : Int) ≤ (R.length : Int) := ⟨by omega,by omega,by omega⟩
        by_cases he : R.getD k q2z = R.getD (k - 1) q2z
        ·rw [decide_eq_true (by rw [ek, Nat.zero_add, Nat.zero_add]; exact he)] at hv
         conv=>whnf
         conv=>whnf
         conv=>whnf
         (conv=>whnf); refine ifB_dec (fun w3=>?_) (fun w3=>?_)
         ·conv => whnf
          conv=>whnf
          conv=>whnf
          (conv=>whnf); refine ⟨[],by kernel_rfl,?_⟩
          conv=>whnf
          conv=>whnf
          conv=>whnf
          (conv=>whnf); refine ⟨⟨(by omega),(by omega)⟩,?_⟩
          conv=>whnf
          conv=>whnf
          conv=>whnf
          (conv=>whnf); refine ⟨inK64 (by omega) (by omega),?_⟩
          conv=>whnf
          conv=>whnf
          conv=>whnf
          (conv=>whnf); refine ⟨⟨(by omega),(by omega)⟩,?_⟩
          conv=>whnf
          conv=>whnf
          conv=>whnf
          (conv=>whnf); refine ifB_intro (fun w4=>?_) (fun w4=>?_)
          ·conv=>whnf
           conv=>whnf
           conv=>whnf
           (conv=>whnf); refine ⟨by assumption,?_⟩
           conv=>whnf
           conv=>whnf
           conv=>whnf
           (conv=>whnf); refine ⟨[],[0,3,4,5],fun st mq=>∃ (k1 : Nat) (q : Nat) (a : List Q2) (F0 : Nat → List AV) (F1 : Nat → List AV) (F2 : Nat → List AV) (F5 : Nat → List AV) (F6 : Nat → List AV) (F8 : Nat → List AV),(1 ≤ q) ∧ (CmpI q2z R a k1 (k + q)) ∧ st = ⟨[(0,.oslice 9 0 0 R.length none),(3,i64 k1),(4,.oslice 9 0 (0 + (k : Int).toNat) ((R.length : Int) - (k : Int)).toNat none),(5,i64 q)],⟨[⟨1,1,F0,0,false,true,false⟩,⟨1,1,F1,0,false,true,false⟩,⟨1,1,F2,0,false,true,false⟩,⟨1,1,fun _=>[.eslice],0,false,true,true⟩,⟨1,1,fun _=>[i64 0],0,false,true,true⟩,⟨1,2,F5,0,false,true,false⟩,⟨1,2,F6,0,false,true,false⟩,⟨1,1,fun _=>[.oslice 9 0 0 R.length none],0,false,false,true⟩,⟨1,1,F8,0,false,true,false⟩,⟨4,R.length,fun i=>lcC (fr2 (a.getD i q2z)),0,false,true,false⟩],[],none,1⟩,[(53,vb (decide ((R.length : Int) > 0))),(6,.optr 3 0 0 0),(7,.optr 4 0 0 0),(9,.optr 7 0 0 0)]⟩ ∧ mq = R.length - k - q,
            ⟨_,_,⟨k,1,R,_,_,_,_,_,_,by omega,cmpI_start hk1 hlt hc he,rfl,rfl⟩,⟨⟨.inl rfl,rfl,rfl,rfl⟩,⟨bA,⟨bA,⟨bA,⟨bA,⟨bA,⟨bA,⟨bA,⟨⟨rfl,rfl,rfl,rfl,nofun,fun _ _=>.inl rfl⟩,⟨bA,⟨bA,trivial⟩⟩⟩⟩⟩⟩⟩⟩⟩⟩,trivial⟩⟩,?_⟩
           rintro s0 m0 ⟨k1,q,a,F0,F1,F2,F5,F6,F8,hq,hI,rfl,hmeas⟩
           have hkp := hI.kp
           have hal1 := hI.len
           by_cases hlt2 : k + q < R.length
           ·have hv2 := lc_veq (a.getD (0 + (k : Int).toNat + (q : Int).toNat) q2z) (a.getD (0 + (k : Int).toNat + ((q : Int) - 1).toNat) q2z)
            have ep : 0 + (k : Int).toNat + ((q : Int) - 1).toNat = k + q - 1 := by omega
            have eq0 : 0 + (k : Int).toNat + (q : Int).toNat = k + q := by omega
            by_cases he2 : a.getD (k + q) q2z = a.getD (k + q - 1) q2z
            ·rw [decide_eq_true (by rw [ep,eq0]; exact he2)] at hv2
             conv=>whnf
             conv=>whnf
             conv=>whnf
             conv=>whnf
             (conv=>whnf); refine ifB_dec (fun w5=>?_) (fun w5=>?_)
             ·conv=>whnf
              conv=>whnf
              conv=>whnf
              conv=>whnf
              (conv=>whnf); refine ⟨[],by kernel_rfl,?_⟩
              conv=>whnf
              conv=>whnf
              conv=>whnf
              conv=>whnf
              (conv=>whnf); refine ⟨⟨(by omega),(by omega)⟩,?_⟩
              conv=>whnf
              conv=>whnf
              conv=>whnf
              conv=>whnf
              (conv=>whnf); refine ⟨inK64 (by omega) (by omega),?_⟩
              conv=>whnf
              conv=>whnf
              conv=>whnf
              conv=>whnf
              (conv=>whnf); refine ⟨⟨(by omega),(by omega)⟩,?_⟩
              conv=>whnf
              conv=>whnf
              conv=>whnf
              conv=>whnf
              (conv=>whnf); refine ifB_not ?_
              conv=>whnf
              conv=>whnf
              conv=>whnf
              conv=>whnf
              (conv=>whnf); refine ifB_intro (fun w6=>?_) (fun w6=>?_)
              ·conv=>whnf
               conv=>whnf
               conv=>whnf
               conv=>whnf
               (conv=>whnf); refine ⟨inK64 (by omega) (by omega),?_⟩
               conv=>whnf
               conv=>whnf
               conv=>whnf
               conv=>whnf
               (conv=>whnf); refine ⟨_,_,⟨⟨k1,q + 1,a,_,_,_,_,_,_,by omega,hI.same hlt2 he2,rfl,rfl⟩,by omega⟩,⟨⟨.inl rfl,rfl,rfl,rfl⟩,⟨bA,⟨bA,⟨bA,⟨bA,⟨bA,⟨bA,⟨bA,⟨⟨rfl,rfl,rfl,rfl,nofun,fun _ _=>.inl rfl⟩,⟨bA,⟨bA,trivial⟩⟩⟩⟩⟩⟩⟩⟩⟩⟩,trivial⟩⟩
              ·exact absurd (hv2.symm.trans w6) nofun
             ·(exfalso; omega)
            ·rw [decide_eq_false (by rw [ep,eq0]; exact he2)] at hv2
             have hrow := fun i : Nat=>rowG (n := 4) (fun e=>lcC (fr2 e)) (fun _=>rfl) q2z a (k1 : Int).toNat i (a.getD (0 + (k : Int).toNat + (q : Int).toNat) q2z) (by omega)
             conv=>whnf
             conv=>whnf
             conv=>whnf
             conv=>whnf
             (conv=>whnf); refine ifB_dec (fun w5=>?_) (fun w5=>?_)
             ·conv=>whnf
              conv=>whnf
              conv=>whnf
              conv=>whnf
              (conv=>whnf); refine ⟨[],by kernel_rfl,?_⟩
              conv=>whnf
              conv=>whnf
              conv=>whnf
              conv=>whnf
              (conv=>whnf); refine ⟨⟨(by omega),(by omega)⟩,?_⟩
              conv=>whnf
              conv=>whnf
              conv=>whnf
              conv=>whnf
              (conv=>whnf); refine ⟨inK64 (by omega) (by omega),?_⟩
              conv=>whnf
              conv=>whnf
              conv=>whnf
              conv=>whnf
              (conv=>whnf); refine ⟨⟨(by omega),(by omega)⟩,?_⟩
              conv=>whnf
              conv=>whnf
              conv=>whnf
              conv=>whnf
              (conv=>whnf); refine ifB_not ?_
              conv=>whnf
              conv=>whnf
              conv=>whnf
              conv=>whnf
              (conv=>whnf); refine ifB_intro (fun w6=>?_) (fun w6=>?_)
              ·exact absurd (hv2.symm.trans w6) nofun
              ·conv=>whnf
               conv=>whnf
               conv=>whnf
               conv=>whnf
               (conv=>whnf); refine ⟨⟨(by omega),(by omega)⟩,?_⟩
               conv=>whnf
               conv=>whnf
               conv=>whnf
               conv=>whnf
               (conv=>whnf); refine ⟨⟨(by omega),(by omega)⟩,?_⟩
               refine ⟨_,fun i _=>hrow i,?_⟩
               conv=>whnf
               conv=>whnf
               conv=>whnf
               conv=>whnf
               (conv=>whnf); refine ⟨inK64 (by omega) (by omega),?_⟩
               conv=>whnf
               conv=>whnf
               conv=>whnf
               conv=>whnf
               (conv=>whnf); refine ⟨inK64 (by omega) (by omega),?_⟩
               conv=>whnf
               conv=>whnf
               conv=>whnf
               conv=>whnf
               (conv=>whnf); refine ⟨_,_,⟨⟨k1 + 1,q + 1,a.set k1 (a.getD (0 + (k : Int).toNat + (q : Int).toNat) q2z),_,_,_,_,_,_,by omega,(by rw [eq0]; exact hI.put hlt2 he2),rfl,rfl⟩,by omega⟩,⟨⟨.inl rfl,rfl,rfl,rfl⟩,⟨bA,⟨bA,⟨bA,⟨bA,⟨bA,⟨bA,⟨bA,⟨⟨rfl,rfl,rfl,rfl,nofun,fun _ _=>.inl rfl⟩,⟨bA,⟨bA,trivial⟩⟩⟩⟩⟩⟩⟩⟩⟩⟩,trivial⟩⟩
             ·(exfalso; omega)
           ·have hf := hI.fin hlt2
            have hz2 : 0 ≤ (k1 : Int) ∧ (k1 : Int) ≤ (R.length : Int) ∧ ((0 : Nat) : Int) + (R.length : Int) ≤ (R.length : Int) := ⟨by omega,by omega,by omega⟩
            have hz3 : 0 ≤ (0 : Int) ∧ (0 : Int) ≤ (k1 : Int) ∧ ((0 : Nat) : Int) + (k1 : Int) ≤ (R.length : Int) := ⟨by omega,by omega,by omega⟩
            conv=>whnf
            conv=>whnf
            conv=>whnf
            conv=>whnf
            (conv=>whnf); refine ifB_dec (fun w5=>?_) (fun w5=>?_)
            ·(exfalso; omega)
            ·conv=>whnf
             conv=>whnf
             conv=>whnf
             conv=>whnf
             (conv=>whnf); refine ⟨by assumption,?_⟩
             conv=>whnf
             conv=>whnf
             conv=>whnf
             conv=>whnf
             (conv=>whnf); refine ⟨by assumption,?_⟩
             conv=>whnf
             conv=>whnf
             conv=>whnf
             conv=>whnf
             (conv=>whnf); refine .inl ⟨_,_,byX rfl (Sound1.pl (S78 _ _) rfl),?_⟩
             conv=>whnf
             conv=>whnf
             conv=>whnf
             conv=>whnf
             (conv=>whnf); refine ⟨?_,nofun⟩
             exact ave_tup2 ⟨rfl,(by have := hf.1; omega),fun i hi=>(if_neg (by omega)).trans (congrArg (fun e=>lcC (fr2 e)) (hf.2 i (by omega)))⟩ hE2
          ·exact absurd (hv.symm.trans w4) nofun
         ·(exfalso; omega)
        ·rw [decide_eq_false (by rw [ek,Nat.zero_add,Nat.zero_add]; exact he)] at hv
         conv=>whnf
         conv=>whnf
         conv=>whnf
         (conv=>whnf); refine ifB_dec (fun w3=>?_) (fun w3=>?_)
         ·conv=>whnf
          conv=>whnf
          conv=>whnf
          (conv=>whnf); refine ⟨[],by kernel_rfl,?_⟩
          conv=>whnf
          conv=>whnf
          conv=>whnf
          (conv=>whnf); refine ⟨⟨(by omega),(by omega)⟩,?_⟩
          conv=>whnf
          conv=>whnf
          conv=>whnf
          (conv=>whnf); refine ⟨inK64 (by omega) (by omega),?_⟩
          conv=>whnf
          conv=>whnf
          conv=>whnf
          (conv=>whnf); refine ⟨⟨(by omega),(by omega)⟩,?_⟩
          conv=>whnf
          conv=>whnf
          conv=>whnf
          (conv=>whnf); refine ifB_intro (fun w4=>?_) (fun w4=>?_)
          ·exact absurd (hv.symm.trans w4) nofun
          ·conv=>whnf
           conv=>whnf
           conv=>whnf
           (conv=>whnf); refine ⟨inK64 (by omega) (by omega),?_⟩
           conv=>whnf
           conv=>whnf
           conv=>whnf
           (conv=>whnf); refine ⟨_,_,⟨⟨k + 1,_,_,_,_,_,_,by omega,by omega,comp_go hk1 hlt hc he,rfl,rfl⟩,by omega⟩,⟨⟨.inl rfl,rfl,rfl,rfl⟩,⟨bA,⟨bA,⟨bA,⟨bA,⟨bA,⟨bA,⟨bA,⟨⟨rfl,rfl,rfl,rfl,nofun,fun _ _=>.inl rfl⟩,⟨bA,⟨bA,trivial⟩⟩⟩⟩⟩⟩⟩⟩⟩⟩,trivial⟩⟩
         ·(exfalso; omega)
       ·obtain rfl : k = R.length := by omega
        rw [List.take_length] at hc
        rw [hc]
        conv=>whnf
        conv=>whnf
        conv=>whnf
        (conv=>whnf); refine ifB_dec (fun w3=>?_) (fun w3=>?_)
        ·(exfalso; omega)
        ·conv=>whnf
         conv=>whnf
         conv=>whnf
         (conv=>whnf); refine .inl ⟨_,_,byX rfl (Sound1.pl (S78 _ _) rfl),?_⟩
         conv=>whnf
         conv=>whnf
         conv=>whnf
         (conv=>whnf); refine ⟨?_,nofun⟩
         exact ave_tup2 ⟨rfl,rfl,fun _ _=>rfl⟩ hE2
 ·rw [if_neg h0,if_neg h0]
  refine sound (d := 2) tok2 mixed2 Tryz.func44 (by kernel_rfl) (by kernel_rfl) ?_
  (conv=>whnf); refine ⟨[],by kernel_rfl,?_⟩
  (conv=>whnf); refine .inl ⟨_,_,byX rfl (Sound1.pl (h97) rfl),?_⟩
  (conv=>whnf); refine .inl ⟨_,_,byX rfl (Sound1.pl (h77 ⟨rfl,rfl⟩) rfl),?_⟩
  (conv=>whnf); refine .inl ⟨_,_,byX rfl (Sound1.pl (h76 ⟨rfl,rfl⟩) rfl),?_⟩
  (conv=>whnf); refine ifB_bne (fun w1=>?_) (fun w1=>?_)
  ·(conv=>whnf); refine ⟨?_,nofun⟩
   exact ave_tup2 rfl rfl
  ·(exfalso; omega)
end Go.Tr

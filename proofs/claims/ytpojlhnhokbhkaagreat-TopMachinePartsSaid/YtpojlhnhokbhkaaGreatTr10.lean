/- Contracts of chapter 5: the curve of an opening. Conditions: none. -/
import Derived.Test.YtpojlhnhokbhkaaGreatTr09
set_option linter.unusedSectionVars false
set_option linter.unnecessarySimpa false
set_option linter.unusedVariables false
set_option linter.unusedSimpArgs false

-- seat YtpojlhnhokbhkaaGreat
namespace Go.Tr
open Go Go.Proofs
set_option maxRecDepth 20000
set_option maxHeartbeats 8000000

abbrev nmC (n : Nm) : List AV := [i64 n.1.1,i64 n.1.2.1,i64 n.1.2.2,i64 n.2]
def nms (L : List Nm) : AV := .rslice 4 L.length fun i=>nmC (L.getD i n0)
theorem mixI {x y part den : Int} (hx : -10000 ≤ x ∧ x ≤ 10000) (hy : -10000 ≤ y ∧ y ≤ 10000) (h : 0 ≤ part ∧ part ≤ den) (hd : 1 ≤ den ∧ den ≤ 200) : (x * den).natAbs ≤ 2000000 ∧ ((y - x) * part).natAbs ≤ 4000000 :=
  ⟨absM (A := 10000) (B := 200) (by omega) (by omega),absM (A := 20000) (B := 200) (by omega) (by omega)⟩
def btJ (p q : P3) (part den : Int) (j : Nat) : Nm := ((if 0 < j then p.1 * den + (q.1 - p.1) * part else 0,if 1 < j then p.2.1 * den + (q.2.1 - p.2.1) * part else 0,if 2 < j then p.2.2 * den + (q.2.2 - p.2.2) * part else 0),den)
theorem S77 (p q : P3) (part den : Int) (hp : PtOk p) (hq : PtOk q) (h : 0 ≤ part ∧ part ≤ den) (hd : 1 ≤ den ∧ den ≤ 200) :
  SP 77 [.agg (ptC p),.agg (ptC q),.rptr [i64 den],.rptr [i64 part]] (.agg (nmC (btwN p q part den))) false := by
 unfold PtOk at hp hq
 have m1 := mixI (x := p.1) (y := q.1) (by omega) (by omega) h hd
 have m2 := mixI (x := p.2.1) (y := q.2.1) (by omega) (by omega) h hd
 have m3 := mixI (x := p.2.2) (y := q.2.2) (by omega) (by omega) h hd
 have h1 := S43 p
 have h2 := S43 q
 refine sound (d := 2) tok2 mixed2 Tryz.func77 (by kernel_rfl) (by kernel_rfl) ?_
 (conv=>whnf); refine .inl ⟨_,_,byX rfl (Sound1.pl (h2) rfl),?_⟩
 (conv=>whnf); refine .inl ⟨_,_,byX rfl (Sound1.pl (h1) rfl),?_⟩
 (conv=>whnf); refine ⟨[],[2,3,6,7,8,16,17],fun st mq=>∃ (j : Nat) (F0 : Nat → List AV) (F1 : Nat → List AV),(j ≤ 3) ∧ st = ⟨[(2,.rptr [i64 den]),(3,.rptr [i64 part]),(6,.optr 2 0 0 0),(7,.optr 3 0 0 0),(8,.optr 4 0 0 0),(16,.agg (ptC p)),(17,i64 j)],⟨[⟨3,1,F0,0,false,true,false⟩,⟨3,1,F1,0,false,true,false⟩,⟨4,1,fun _=>[i64 0,i64 0,i64 0,i64 0],0,false,true,true⟩,⟨4,1,fun _=>nmC (btJ p q part den j),0,false,true,true⟩,⟨3,1,fun _=>ptC q,0,false,true,true⟩],[],none,0⟩,[]⟩ ∧ mq = 3 - j,
  ⟨_,_,⟨0,_,_,by omega,rfl,rfl⟩,⟨⟨.inl rfl,rfl,rfl,rfl⟩,⟨⟨rfl,rfl,rfl,rfl,fun _=>rfl,fun _ _=>.inl rfl⟩,⟨⟨rfl,rfl,rfl,rfl,fun _=>rfl,fun _ _=>.inl rfl⟩,⟨⟨rfl,rfl,rfl,rfl,fun _=>rfl,fun _ _=>.inl rfl⟩,⟨⟨rfl,rfl,rfl,rfl,fun _=>rfl,fun _ _=>.inl rfl⟩,⟨⟨rfl,rfl,rfl,rfl,fun _=>rfl,fun _ _=>.inl rfl⟩,trivial⟩⟩⟩⟩⟩,trivial⟩⟩,?_⟩
 rintro s0 m0 ⟨j,F0,F1,hj,rfl,hmeas⟩
 have hj4 : j = 0 ∨ j = 1 ∨ j = 2 ∨ j = 3 := by omega
 rcases hj4 with rfl | rfl | rfl | rfl
 ·conv=>whnf
  (conv=>whnf); refine ⟨⟨(by omega),(by omega)⟩,?_⟩
  conv=>whnf
  (conv=>whnf); refine ⟨[],by kernel_rfl,?_⟩
  conv=>whnf
  (conv=>whnf); refine ⟨inK64 (by omega) (by omega),?_⟩
  conv=>whnf
  (conv=>whnf); refine ⟨⟨(by omega),(by omega)⟩,?_⟩
  conv=>whnf
  (conv=>whnf); refine ⟨inK64 (by omega) (by omega),?_⟩
  conv=>whnf
  (conv=>whnf); refine ⟨inK64 (by omega) (by omega),?_⟩
  conv=>whnf
  (conv=>whnf); refine ⟨inK64 (by omega) (by omega),?_⟩
  conv=>whnf
  (conv=>whnf); refine ⟨⟨(by omega),(by omega)⟩,?_⟩
  conv=>whnf
  (conv=>whnf); refine ⟨inK64 (by omega) (by omega),?_⟩
  conv=>whnf
  (conv=>whnf); refine ⟨_,_,⟨⟨1,_,_,by omega,rfl,rfl⟩,by omega⟩,⟨⟨.inl rfl,rfl,rfl,rfl⟩,⟨⟨rfl,rfl,rfl,rfl,fun _=>rfl,fun _ _=>.inl rfl⟩,⟨⟨rfl,rfl,rfl,rfl,fun _=>rfl,fun _ _=>.inl rfl⟩,⟨⟨rfl,rfl,rfl,rfl,fun _=>rfl,fun _ _=>.inl rfl⟩,⟨⟨rfl,rfl,rfl,rfl,fun _=>rfl,fun _ _=>.inl rfl⟩,⟨⟨rfl,rfl,rfl,rfl,fun _=>rfl,fun _ _=>.inl rfl⟩,trivial⟩⟩⟩⟩⟩,trivial⟩⟩
 ·conv=>whnf
  (conv=>whnf); refine ⟨⟨(by omega),(by omega)⟩,?_⟩
  conv=>whnf
  (conv=>whnf); refine ⟨[],by kernel_rfl,?_⟩
  conv=>whnf
  (conv=>whnf); refine ⟨inK64 (by omega) (by omega),?_⟩
  conv=>whnf
  (conv=>whnf); refine ⟨⟨(by omega),(by omega)⟩,?_⟩
  conv=>whnf
  (conv=>whnf); refine ⟨inK64 (by omega) (by omega),?_⟩
  conv=>whnf
  (conv=>whnf); refine ⟨inK64 (by omega) (by omega),?_⟩
  conv=>whnf
  (conv=>whnf); refine ⟨inK64 (by omega) (by omega),?_⟩
  conv=>whnf
  (conv=>whnf); refine ⟨⟨(by omega),(by omega)⟩,?_⟩
  conv=>whnf
  (conv=>whnf); refine ⟨inK64 (by omega) (by omega),?_⟩
  conv=>whnf
  (conv=>whnf); refine ⟨_,_,⟨⟨2,_,_,by omega,rfl,rfl⟩,by omega⟩,⟨⟨.inl rfl,rfl,rfl,rfl⟩,⟨⟨rfl,rfl,rfl,rfl,fun _=>rfl,fun _ _=>.inl rfl⟩,⟨⟨rfl,rfl,rfl,rfl,fun _=>rfl,fun _ _=>.inl rfl⟩,⟨⟨rfl,rfl,rfl,rfl,fun _=>rfl,fun _ _=>.inl rfl⟩,⟨⟨rfl,rfl,rfl,rfl,fun _=>rfl,fun _ _=>.inl rfl⟩,⟨⟨rfl,rfl,rfl,rfl,fun _=>rfl,fun _ _=>.inl rfl⟩,trivial⟩⟩⟩⟩⟩,trivial⟩⟩
 ·conv=>whnf
  (conv=>whnf); refine ⟨⟨(by omega),(by omega)⟩,?_⟩
  conv=>whnf
  (conv=>whnf); refine ⟨[],by kernel_rfl,?_⟩
  conv=>whnf
  (conv=>whnf); refine ⟨inK64 (by omega) (by omega),?_⟩
  conv=>whnf
  (conv=>whnf); refine ⟨⟨(by omega),(by omega)⟩,?_⟩
  conv=>whnf
  (conv=>whnf); refine ⟨inK64 (by omega) (by omega),?_⟩
  conv=>whnf
  (conv=>whnf); refine ⟨inK64 (by omega) (by omega),?_⟩
  conv=>whnf
  (conv=>whnf); refine ⟨inK64 (by omega) (by omega),?_⟩
  conv=>whnf
  (conv=>whnf); refine ⟨⟨(by omega),(by omega)⟩,?_⟩
  conv=>whnf
  (conv=>whnf); refine ⟨inK64 (by omega) (by omega),?_⟩
  conv=>whnf
  (conv=>whnf); refine ⟨_,_,⟨⟨3,_,_,by omega,rfl,rfl⟩,by omega⟩,⟨⟨.inl rfl,rfl,rfl,rfl⟩,⟨⟨rfl,rfl,rfl,rfl,fun _=>rfl,fun _ _=>.inl rfl⟩,⟨⟨rfl,rfl,rfl,rfl,fun _=>rfl,fun _ _=>.inl rfl⟩,⟨⟨rfl,rfl,rfl,rfl,fun _=>rfl,fun _ _=>.inl rfl⟩,⟨⟨rfl,rfl,rfl,rfl,fun _=>rfl,fun _ _=>.inl rfl⟩,⟨⟨rfl,rfl,rfl,rfl,fun _=>rfl,fun _ _=>.inl rfl⟩,trivial⟩⟩⟩⟩⟩,trivial⟩⟩
 ·conv=>whnf
  (conv=>whnf); refine ⟨?_,nofun⟩
  exact ave_aggR (l := nmC (btwN p q part den)) (by simp [AV.atom])
theorem appG {α : Type} (g : α → List AV) {m : Nat} (hg : ∀ a,(g a).length = m) (d : α) (L : List α) (x : α) (n j : Nat) (hn : L.length = n) (hj : j < n + 1) : g ((L ++ [x]).getD j d) = if j < n then g (L.getD (0 + j) d) else List.take m (List.drop ((j - n) * m) (g x)) := by
 subst hn
 rw [Nat.zero_add]
 by_cases h : j < L.length
 ·rw [if_pos h]; simp [List.getD_eq_getElem?_getD,h,List.getElem?_append_left h]
 ·have : j = L.length := by omega
  subst this
  rw [if_neg h,Nat.sub_self,Nat.zero_mul,List.drop_zero,List.take_of_length_le (by rw [hg]; exact Nat.le_refl _)]
  simp [List.getD_eq_getElem?_getD]
theorem appG2 {α : Type} (g : α → List AV) {m : Nat} (hg : ∀ a,(g a).length = m) (d : α) (L : List α) (x y : α) (n j : Nat) (hn : L.length = n) (hj : j < n + 1 + 1) : g ((L ++ [x] ++ [y]).getD j d) = if j < n + 1 then (if 0 + j < n then g (L.getD (0 + (0 + j)) d) else List.take m (List.drop ((0 + j - n) * m) (g x))) else List.take m (List.drop ((j - (n + 1)) * m) (g y)) := by
 rw [appG g hg d (L ++ [x]) y (n + 1) j (by simp [hn]) hj]
 by_cases h : j < n + 1
 ·rw [if_pos h,if_pos h,appG g hg d L x n (0 + j) hn (by omega)]
 ·rw [if_neg h,if_neg h]
theorem nm_veq (m n : Nm) : vEqL [.int .i64 m.1.1,.int .i64 m.1.2.1,.int .i64 m.1.2.2,.int .i64 m.2] [.int .i64 n.1.1,.int .i64 n.1.2.1,.int .i64 n.1.2.2,.int .i64 n.2] = decide (m = n) := by
 obtain ⟨⟨a,b,c⟩,d⟩ := m
 obtain ⟨⟨a',b',c'⟩,d'⟩ := n
 rw [Bool.eq_iff_iff]
 simp [vEqL,Prod.ext_iff,and_assoc]
theorem rawN_2 {A B : List P3} {part den : Int} {k : Nat} (h : k + 1 < A.length) : rawN A B part den (k + 1) = rawN A B part den k ++ [btwN (A.getD k p0) (B.getD k p0) part den] ++ [btwN (A.getD (k + 1) p0) (B.getD k p0) part den] := by
  rw [rawN,if_pos h,List.append_assoc]; rfl
theorem rawN_1 {A B : List P3} {part den : Int} {k : Nat} (h : ¬ k + 1 < A.length) : rawN A B part den (k + 1) = rawN A B part den k ++ [btwN (A.getD k p0) (B.getD k p0) part den] := by
  rw [rawN,if_neg h]
theorem inK_of {n : Int} (h : -9223372036854775808 ≤ n ∧ n ≤ 9223372036854775807) : inK .i64 n := inK64 h.1 h.2
set_option maxHeartbeats 8000000 in
theorem S57 (t : List MRow) (ht : Fit t) (hT : TblOk t) (f : Int × Int) (hO : OpOk t f) : SP 57 [tblA t, gaF f] (nms (crvN t f)) false := by
 have hn := hT.n
 have hnp := hT.np
 have hd := hO.den
 have hK := rwK_ok hT hO
 have hcl := crv_len hT hO
 have hcd := crv_den hT hO
 have hcp := crv_part hT hO
 have ho := hT.op
 have hml : ∀ j,j < t.length → ((t.getD j r0).o * f.2).natAbs ≤ 100 * 10 := fun j hj=>absM (by have := ho j hj; omega) (by omega)
 have r1 : inK .i64 ((t.getD (rwK t f) r0).o * f.2) := inK_of (by have := hml (rwK t f) (by omega); omega)
 have r2 : inK .i64 (crvP t f) := inK_of (by omega)
 have r3 : inK .i64 ((t.getD (rwK t f + 1) r0).o - (t.getD (rwK t f) r0).o) := inK_of (by have := ho (rwK t f) (by omega); have := ho (rwK t f + 1) (by omega); omega)
 have r4 : inK .i64 (crvD t f) := inK_of (by omega)
 refine sound (d := 2) tok2 mixed2 Tryz.func57 (by kernel_rfl) (by kernel_rfl) ?_
 (conv=>whnf); refine ⟨[],[2,3,5],fun st mq=>∃ (i : Nat),(i + 2 ≤ t.length) ∧ (rwI t f (t.length - i) i = rwK t f) ∧ st = ⟨[(2,.optr 0 0 0 0),(3,.optr 1 0 0 0),(5,i64 i)],⟨[⟨1,1,fun _=>[rowsA t],0,false,true,true⟩,⟨2,1,fun _=>[i64 f.1,i64 f.2],0,false,true,true⟩],[],none,0⟩,[]⟩ ∧ mq = t.length - i,
  ⟨_,_,⟨0,by omega,rfl,rfl,rfl⟩,⟨⟨.inl rfl,rfl,rfl,rfl⟩,⟨⟨rfl,rfl,rfl,rfl,fun _=>rfl,fun _ _=>.inl rfl⟩,⟨⟨rfl,rfl,rfl,rfl,fun _=>rfl,fun _ _=>.inl rfl⟩,trivial⟩⟩,trivial⟩⟩,?_⟩
 rintro s0 m0 ⟨i,hi,hr,rfl,hmeas⟩
 by_cases hlt : i + 2 < t.length
 ·have q1 : inK .i64 ((t.getD (i + 1) r0).o * f.2) := inK_of (by have := hml (i + 1) (by omega); omega)
  by_cases hle : (t.getD (i + 1) r0).o * f.2 ≤ f.1
  ·rw [rwI_go (by omega) ⟨hlt,hle⟩] at hr
   conv=>whnf
   (conv=>whnf); refine ⟨[],by kernel_rfl,?_⟩
   conv=>whnf
   (conv=>whnf); refine ⟨inK64 (by omega) (by omega),?_⟩
   conv=>whnf
   (conv=>whnf); refine ifB_dec (fun w1=>?_) (fun w1=>?_)
   ·conv=>whnf
    (conv=>whnf); refine ⟨inK64 (by omega) (by omega),?_⟩
    conv=>whnf
    (conv=>whnf); refine ⟨⟨(by omega),(by omega)⟩,?_⟩
    conv=>whnf
    (conv=>whnf); refine ⟨by assumption,?_⟩
    conv=>whnf
    (conv=>whnf); refine ifB_dec (fun w2=>?_) (fun w2=>?_)
    ·conv=>whnf
     (conv=>whnf); refine ⟨inK64 (by omega) (by omega),?_⟩
     conv=>whnf
     (conv=>whnf); refine ⟨_,_,⟨⟨i + 1,by omega,hr,rfl,rfl⟩,by omega⟩,⟨⟨.inl rfl,rfl,rfl,rfl⟩,⟨⟨rfl,rfl,rfl,rfl,fun _=>rfl,fun _ _=>.inl rfl⟩,⟨⟨rfl,rfl,rfl,rfl,fun _=>rfl,fun _ _=>.inl rfl⟩,trivial⟩⟩,trivial⟩⟩
    ·(first | contradiction | exact q1 | omega)
   ·(exfalso; omega)
  ·rw [rwI_stop _ _ (fun e => hle e.2)] at hr
   subst hr
   conv=>whnf
   (conv=>whnf); refine ⟨[],by kernel_rfl,?_⟩
   conv=>whnf
   (conv=>whnf); refine ⟨inK64 (by omega) (by omega),?_⟩
   conv=>whnf
   (conv=>whnf); refine ifB_dec (fun w1=>?_) (fun w1=>?_)
   ·conv => whnf
    (conv=>whnf); refine ⟨inK64 (by omega) (by omega),?_⟩
    conv=>whnf
    (conv=>whnf); refine ⟨⟨(by omega),(by omega)⟩,?_⟩
    conv=>whnf
    (conv=>whnf); refine ⟨by assumption,?_⟩
    conv=>whnf
    (conv=>whnf); refine ifB_dec (fun w2=>?_) (fun w2=>?_)
    ·conv=>whnf
     (conv=>whnf); refine ⟨inK64 (by omega) (by omega),?_⟩
     (first | contradiction | exact r1 | exact r2 | exact r3 | exact r4 | exact q1 | omega)
    ·conv => whnf
     (conv=>whnf); refine ⟨[(6,13),(10,13)],by kernel_rfl,?_⟩
     conv=>whnf
     (conv=>whnf); refine ⟨⟨(by omega),(by omega)⟩,?_⟩
     conv=>whnf
     (conv=>whnf); refine ⟨inK64 (by omega) (by omega),?_⟩
     conv=>whnf
     (conv=>whnf); refine ⟨⟨(by omega),(by omega)⟩,?_⟩
     conv=>whnf
     (conv=>whnf); refine ⟨[(9,18),(11,18),(14,18)],by kernel_rfl,?_⟩
     conv=>whnf
     (conv=>whnf); refine ⟨by assumption,?_⟩
     conv=>whnf
     (conv=>whnf); refine ⟨by assumption,?_⟩
     conv=>whnf
     (conv=>whnf); refine ⟨by assumption,?_⟩
     conv=>whnf
     (conv=>whnf); refine ⟨by assumption,?_⟩
     conv=>whnf
     (conv=>whnf); refine ⟨[.slot 11 4],[6,7,10,11,66,67,68],fun st mq=>∃ (k : Nat) (R : List Nm) (n : Nat) (F0 : Nat → List AV) (F1 : Nat → List AV),(k ≤ (crvA t f).length) ∧ (R = rawN (crvA t f) (crvB t f) (crvP t f) (crvD t f) k) ∧ (R.length = n) ∧ st = ⟨[(6,.optr 2 0 0 0),(7,.optr 3 0 0 0),(10,.func (.func 77) 0 [.optr 5 0 0 0,.optr 4 0 0 0]),(11,.oslice 6 0 0 n none),(66,ptsA (crvA t f)),(67,i64 (crvA t f).length),(68,i64 k)],⟨[⟨1,1,F0,0,false,true,false⟩,⟨2,1,F1,0,false,true,false⟩,⟨2,1,fun _=>[i64 (t.getD (rwK t f) r0).o,ptsA (crvA t f)],0,false,true,true⟩,⟨2,1,fun _=>[i64 (t.getD (rwK t f + 1) r0).o,ptsA (crvB t f)],0,false,true,true⟩,⟨1,1,fun _=>[i64 (crvP t f)],0,false,true,true⟩,⟨1,1,fun _=>[i64 (crvD t f)],0,false,true,true⟩,⟨4,n,fun i=>nmC (R.getD i n0),0,false,true,false⟩],[],none,0⟩,[]⟩ ∧ mq = (crvA t f).length - k,
      ⟨_,_,⟨0,[],0,_,_,by omega,rfl,rfl,rfl,rfl⟩,⟨⟨.inl rfl,rfl,rfl,rfl⟩,⟨⟨rfl,rfl,rfl,rfl,fun _=>rfl,fun _ _=>.inl rfl⟩,⟨⟨rfl,rfl,rfl,rfl,fun _=>rfl,fun _ _=>.inl rfl⟩,⟨⟨rfl,rfl,rfl,rfl,fun _=>rfl,fun _ _=>.inl rfl⟩,⟨⟨rfl,rfl,rfl,rfl,fun _=>rfl,fun _ _=>.inl rfl⟩,⟨⟨rfl,rfl,rfl,rfl,fun _=>rfl,fun _ _=>.inl rfl⟩,⟨⟨rfl,rfl,rfl,rfl,fun _=>rfl,fun _ _=>.inl rfl⟩,⟨⟨rfl,rfl,rfl,rfl,fun _=>rfl,fun i h=>.inl (absurd h (Nat.not_lt_zero i))⟩,trivial⟩⟩⟩⟩⟩⟩⟩,trivial⟩⟩,?_⟩
     rintro s0 m0 ⟨k,R,n,F0,F1,hk,hR,hn,rfl,hmeas⟩
     have hpt := crv_pts hT hO k
     have hrl := rawN_len (crvA t f) (crvB t f) (crvP t f) (crvD t f) k
     rw [← hR] at hrl
     by_cases hlt2 : k < (crvA t f).length
     ·have c1 := S77 ((crvA t f).getD k p0) ((crvB t f).getD k p0) (crvP t f) (crvD t f) hpt.1 hpt.2 hcp hcd
      by_cases hlt3 : k + 1 < (crvA t f).length
      ·have c2 := S77 ((crvA t f).getD (k + 1) p0) ((crvB t f).getD k p0) (crvP t f) (crvD t f) (crv_pts hT hO (k + 1)).1 hpt.2 hcp hcd
       conv=>whnf
       conv=>whnf
       (conv=>whnf); refine ifB_dec (fun w3=>?_) (fun w3=>?_)
       ·conv=>whnf
        conv=>whnf
        (conv=>whnf); refine ⟨⟨(by omega),(by omega)⟩,?_⟩
        conv=>whnf
        conv=>whnf
        (conv=>whnf); refine ⟨[],by kernel_rfl,?_⟩
        conv=>whnf
        conv=>whnf
        (conv=>whnf); refine ⟨⟨(by omega),(by omega)⟩,?_⟩
        conv=>whnf
        conv=>whnf
        (conv=>whnf); refine .inl ⟨_,_,byX rfl (Sound1.pl (c1) rfl),?_⟩
        conv=>whnf
        conv=>whnf
        (conv=>whnf); refine .inl ?_
        conv=>whnf
        conv=>whnf
        (conv=>whnf); refine ⟨(by show _ * (32 + 1) ≤ _; omega),?_⟩
        conv=>whnf
        conv=>whnf
        (conv=>whnf); refine ⟨inK64 (by omega) (by omega),?_⟩
        conv=>whnf
        conv=>whnf
        (conv=>whnf); refine ifB_dec (fun w4=>?_) (fun w4=>?_)
        ·conv=>whnf
         conv=>whnf
         (conv=>whnf); refine ⟨[],by kernel_rfl,?_⟩
         conv=>whnf
         conv=>whnf
         (conv=>whnf); refine ⟨inK64 (by omega) (by omega),?_⟩
         conv=>whnf
         conv=>whnf
         (conv=>whnf); refine ⟨⟨(by omega),(by omega)⟩,?_⟩
         conv=>whnf
         conv=>whnf
         (conv=>whnf); refine ⟨⟨(by omega),(by omega)⟩,?_⟩
         conv=>whnf
         conv=>whnf
         (conv=>whnf); refine .inl ⟨_,_,byX rfl (Sound1.pl (c2) rfl),?_⟩
         conv=>whnf
         conv=>whnf
         (conv=>whnf); refine .inl ?_
         conv=>whnf
         conv=>whnf
         (conv=>whnf); refine ⟨(by show _ * (32 + 1) ≤ _; omega),?_⟩
         conv=>whnf
         conv=>whnf
         (conv=>whnf); refine ⟨inK64 (by omega) (by omega),?_⟩
         conv=>whnf
         conv=>whnf
         (conv=>whnf); refine ⟨_,_,⟨⟨k + 1,R ++ [btwN ((crvA t f).getD k p0) ((crvB t f).getD k p0) (crvP t f) (crvD t f)] ++ [btwN ((crvA t f).getD (k + 1) p0) ((crvB t f).getD k p0) (crvP t f) (crvD t f)],n + 1 + 1,_,_,by omega,(by rw [rawN_2 hlt3,hR]),(by simp [hn]),rfl,rfl⟩,by omega⟩,⟨⟨.inl rfl,rfl,rfl,rfl⟩,⟨⟨rfl,rfl,rfl,rfl,fun _=>rfl,fun _ _=>.inl rfl⟩,⟨⟨rfl,rfl,rfl,rfl,fun _=>rfl,fun _ _=>.inl rfl⟩,⟨⟨rfl,rfl,rfl,rfl,fun _=>rfl,fun _ _=>.inl rfl⟩,⟨⟨rfl,rfl,rfl,rfl,fun _=>rfl,fun _ _=>.inl rfl⟩,⟨⟨rfl,rfl,rfl,rfl,fun _=>rfl,fun _ _=>.inl rfl⟩,⟨⟨rfl,rfl,rfl,rfl,fun _=>rfl,fun _ _=>.inl rfl⟩,⟨⟨rfl,rfl,rfl,rfl,fun _=>rfl,fun j hj=>.inl (appG2 nmC (fun _=>rfl) n0 R _ _ n j hn hj)⟩,trivial⟩⟩⟩⟩⟩⟩⟩,trivial⟩⟩
        ·(exfalso; omega)
       ·(exfalso; omega)
      ·conv=>whnf
       conv=>whnf
       (conv=>whnf); refine ifB_dec (fun w3=>?_) (fun w3=>?_)
       ·conv=>whnf
        conv=>whnf
        (conv=>whnf); refine ⟨⟨(by omega),(by omega)⟩,?_⟩
        conv=>whnf
        conv=>whnf
        (conv=>whnf); refine ⟨[],by kernel_rfl,?_⟩
        conv=>whnf
        conv=>whnf
        (conv=>whnf); refine ⟨⟨(by omega),(by omega)⟩,?_⟩
        conv=>whnf
        conv=>whnf
        (conv=>whnf); refine .inl ⟨_,_,byX rfl (Sound1.pl (c1) rfl),?_⟩
        conv=>whnf
        conv=>whnf
        (conv=>whnf); refine .inl ?_
        conv=>whnf
        conv=>whnf
        (conv=>whnf); refine ⟨(by show _ * (32 + 1) ≤ _; omega),?_⟩
        conv=>whnf
        conv=>whnf
        (conv=>whnf); refine ⟨inK64 (by omega) (by omega),?_⟩
        conv=>whnf
        conv=>whnf
        (conv=>whnf); refine ifB_dec (fun w4=>?_) (fun w4=>?_)
        ·(exfalso; omega)
        ·conv=>whnf
         conv=>whnf
         (conv=>whnf); refine ⟨inK64 (by omega) (by omega),?_⟩
         conv=>whnf
         conv=>whnf
         (conv=>whnf); refine ⟨_,_,⟨⟨k + 1,R ++ [btwN ((crvA t f).getD k p0) ((crvB t f).getD k p0) (crvP t f) (crvD t f)],n + 1,_,_,by omega,(by rw [rawN_1 hlt3,hR]),(by simp [hn]),rfl,rfl⟩,by omega⟩,⟨⟨.inl rfl,rfl,rfl,rfl⟩,⟨⟨rfl,rfl,rfl,rfl,fun _=>rfl,fun _ _=>.inl rfl⟩,⟨⟨rfl,rfl,rfl,rfl,fun _=>rfl,fun _ _=>.inl rfl⟩,⟨⟨rfl,rfl,rfl,rfl,fun _=>rfl,fun _ _=>.inl rfl⟩,⟨⟨rfl,rfl,rfl,rfl,fun _=>rfl,fun _ _=>.inl rfl⟩,⟨⟨rfl,rfl,rfl,rfl,fun _=>rfl,fun _ _=>.inl rfl⟩,⟨⟨rfl,rfl,rfl,rfl,fun _=>rfl,fun _ _=>.inl rfl⟩,⟨⟨rfl,rfl,rfl,rfl,fun _=>rfl,fun j hj=>.inl (appG nmC (fun _=>rfl) n0 R _ n j hn hj)⟩,trivial⟩⟩⟩⟩⟩⟩⟩,trivial⟩⟩
       ·(exfalso; omega)
     ·obtain rfl : k = (crvA t f).length := by omega
      have hR : R = crvR t f := hR
      have ec : crvN t f = compL R := by rw [hR]; rfl
      rw [ec]
      subst hn
      conv=>whnf
      conv=>whnf
      (conv=>whnf); refine ifB_dec (fun w3=>?_) (fun w3=>?_)
      ·(exfalso; omega)
      ·conv => whnf
       conv=>whnf
       (conv=>whnf); refine .inr (.inl ⟨[],?_⟩)
       conv=>whnf
       conv=>whnf
       (conv=>whnf); refine ifB_dec (fun w4=>?_) (fun w4=>?_)
       ·conv=>whnf
        conv=>whnf
        (conv=>whnf); refine ⟨?_,nofun⟩
        rw [compL_one (by omega)]
        exact ⟨rfl,rfl,fun _ _=>rfl⟩
       ·conv => whnf
        conv=>whnf
        (conv=>whnf); refine ⟨[.forget [107,69,6,7,10,11,66,67,68]],[0,3],fun st mq=>∃ (k : Nat) (F0 : Nat → List AV) (F1 : Nat → List AV) (F2 : Nat → List AV) (F3 : Nat → List AV) (F4 : Nat → List AV) (F5 : Nat → List AV),(1 ≤ k) ∧ (k ≤ R.length) ∧ (compL (R.take k) = R.take k) ∧ st = ⟨[(0,.oslice 6 0 0 R.length none),(3,i64 k)],⟨[⟨1,1,F0,0,false,true,false⟩,⟨2,1,F1,0,false,true,false⟩,⟨2,1,F2,0,false,true,false⟩,⟨2,1,F3,0,false,true,false⟩,⟨1,1,F4,0,false,true,false⟩,⟨1,1,F5,0,false,true,false⟩,⟨4,R.length,fun i=>nmC (R.getD i n0),0,false,true,false⟩],[],none,0⟩,[]⟩ ∧ mq = R.length - k,
         ⟨_,_,⟨1,_,_,_,_,_,_,by omega,by omega,compL_one (by rw [List.length_take]; omega),rfl,rfl⟩,⟨⟨.inl rfl,rfl,rfl,rfl⟩,⟨⟨rfl,rfl,rfl,rfl,fun _=>rfl,fun _ _=>.inl rfl⟩,⟨⟨rfl,rfl,rfl,rfl,fun _=>rfl,fun _ _=>.inl rfl⟩,⟨⟨rfl,rfl,rfl,rfl,fun _=>rfl,fun _ _=>.inl rfl⟩,⟨⟨rfl,rfl,rfl,rfl,fun _=>rfl,fun _ _=>.inl rfl⟩,⟨⟨rfl,rfl,rfl,rfl,fun _=>rfl,fun _ _=>.inl rfl⟩,⟨⟨rfl,rfl,rfl,rfl,fun _=>rfl,fun _ _=>.inl rfl⟩,⟨⟨rfl,rfl,rfl,rfl,fun _=>rfl,fun _ _=>.inl rfl⟩,trivial⟩⟩⟩⟩⟩⟩⟩,trivial⟩⟩,?_⟩
        rintro s0 m0 ⟨k,F0,F1,F2,F3,F4,F5,hk1,hk2,hc,rfl,hmeas⟩
        have ek : ((k : Int) - 1).toNat = k - 1 := by omega
        by_cases hlt : k < R.length
        ·have hv := nm_veq (R.getD (0 + (k : Int).toNat) n0) (R.getD (0 + ((k : Int) - 1).toNat) n0)
         have hz : 0 ≤ (k : Int) ∧ (k : Int) ≤ (R.length : Int) ∧ ((0 : Nat) : Int) + (R.length : Int) ≤ (R.length : Int) := ⟨by omega,by omega,by omega⟩
         by_cases he : R.getD k n0 = R.getD (k - 1) n0
         ·rw [decide_eq_true (by rw [ek, Nat.zero_add, Nat.zero_add]; exact he)] at hv
          conv=>whnf
          conv=>whnf
          conv=>whnf
          (conv=>whnf); refine ifB_dec (fun w5=>?_) (fun w5=>?_)
          ·conv => whnf
           conv=>whnf
           conv=>whnf
           (conv=>whnf); refine ⟨[],by kernel_rfl,?_⟩
           conv=>whnf
           conv=>whnf
           conv=>whnf
           (conv=>whnf); refine ⟨⟨(by omega),(by omega)⟩,?_⟩
           conv=>whnf
           conv=>whnf
           conv=>whnf
           (conv=>whnf); refine ⟨inK64 (by omega) (by omega),?_⟩
           conv=>whnf
           conv=>whnf
           conv=>whnf
           (conv=>whnf); refine ⟨⟨(by omega),(by omega)⟩,?_⟩
           conv=>whnf
           conv=>whnf
           conv=>whnf
           (conv=>whnf); refine ifB_intro (fun w6=>?_) (fun w6=>?_)
           ·conv=>whnf
            conv=>whnf
            conv=>whnf
            (conv=>whnf); refine ⟨by assumption,?_⟩
            conv=>whnf
            conv=>whnf
            conv=>whnf
            (conv=>whnf); refine ⟨[],[0,3,4,5],fun st mq=>∃ (k1 : Nat) (q : Nat) (a : List Nm) (F0 : Nat → List AV) (F1 : Nat → List AV) (F2 : Nat → List AV) (F3 : Nat → List AV) (F4 : Nat → List AV) (F5 : Nat → List AV),(1 ≤ q) ∧ (CmpI n0 R a k1 (k + q)) ∧ st = ⟨[(0,.oslice 6 0 0 R.length none),(3,i64 k1),(4,.oslice 6 0 (0 + (k : Int).toNat) ((R.length : Int) - (k : Int)).toNat none),(5,i64 q)],⟨[⟨1,1,F0,0,false,true,false⟩,⟨2,1,F1,0,false,true,false⟩,⟨2,1,F2,0,false,true,false⟩,⟨2,1,F3,0,false,true,false⟩,⟨1,1,F4,0,false,true,false⟩,⟨1,1,F5,0,false,true,false⟩,⟨4,R.length,fun i=>nmC (a.getD i n0),0,false,true,false⟩],[],none,0⟩,[]⟩ ∧ mq = R.length - k - q,
             ⟨_,_,⟨k,1,R,_,_,_,_,_,_,by omega,cmpI_start hk1 hlt hc he,rfl,rfl⟩,⟨⟨.inl rfl,rfl,rfl,rfl⟩,⟨⟨rfl,rfl,rfl,rfl,fun _=>rfl,fun _ _=>.inl rfl⟩,⟨⟨rfl,rfl,rfl,rfl,fun _=>rfl,fun _ _=>.inl rfl⟩,⟨⟨rfl,rfl,rfl,rfl,fun _=>rfl,fun _ _=>.inl rfl⟩,⟨⟨rfl,rfl,rfl,rfl,fun _=>rfl,fun _ _=>.inl rfl⟩,⟨⟨rfl,rfl,rfl,rfl,fun _=>rfl,fun _ _=>.inl rfl⟩,⟨⟨rfl,rfl,rfl,rfl,fun _=>rfl,fun _ _=>.inl rfl⟩,⟨⟨rfl,rfl,rfl,rfl,fun _=>rfl,fun _ _=>.inl rfl⟩,trivial⟩⟩⟩⟩⟩⟩⟩,trivial⟩⟩,?_⟩
            rintro s0 m0 ⟨k1,q,a,F0,F1,F2,F3,F4,F5,hq,hI,rfl,hmeas⟩
            have hkp := hI.kp
            have hal := hI.len
            by_cases hlt2 : k + q < R.length
            ·have hv2 := nm_veq (a.getD (0 + (k : Int).toNat + (q : Int).toNat) n0) (a.getD (0 + (k : Int).toNat + ((q : Int) - 1).toNat) n0)
             have ep : 0 + (k : Int).toNat + ((q : Int) - 1).toNat = k + q - 1 := by omega
             have eq0 : 0 + (k : Int).toNat + (q : Int).toNat = k + q := by omega
             by_cases he2 : a.getD (k + q) n0 = a.getD (k + q - 1) n0
             ·rw [decide_eq_true (by rw [ep,eq0]; exact he2)] at hv2
              conv=>whnf
              conv=>whnf
              conv=>whnf
              conv=>whnf
              (conv=>whnf); refine ifB_dec (fun w7=>?_) (fun w7=>?_)
              ·conv=>whnf
               conv=>whnf
               conv=>whnf
               conv=>whnf
               (conv=>whnf); refine ⟨[],by kernel_rfl,?_⟩
               conv=>whnf
               conv=>whnf
               conv=>whnf
               conv=>whnf
               (conv=>whnf); refine ⟨⟨(by omega),(by omega)⟩,?_⟩
               conv=>whnf
               conv=>whnf
               conv=>whnf
               conv=>whnf
               (conv=>whnf); refine ⟨inK64 (by omega) (by omega),?_⟩
               conv=>whnf
               conv=>whnf
               conv=>whnf
               conv=>whnf
               (conv=>whnf); refine ⟨⟨(by omega),(by omega)⟩,?_⟩
               conv=>whnf
               conv=>whnf
               conv=>whnf
               conv=>whnf
               (conv=>whnf); refine ifB_not ?_
               conv=>whnf
               conv=>whnf
               conv=>whnf
               conv=>whnf
               (conv=>whnf); refine ifB_intro (fun w8=>?_) (fun w8=>?_)
               ·conv=>whnf
                conv=>whnf
                conv=>whnf
                conv=>whnf
                (conv=>whnf); refine ⟨inK64 (by omega) (by omega),?_⟩
                conv=>whnf
                conv=>whnf
                conv=>whnf
                conv=>whnf
                (conv=>whnf); refine ⟨_,_,⟨⟨k1,q + 1,a,_,_,_,_,_,_,by omega,hI.same hlt2 he2,rfl,rfl⟩,by omega⟩,⟨⟨.inl rfl,rfl,rfl,rfl⟩,⟨⟨rfl,rfl,rfl,rfl,fun _=>rfl,fun _ _=>.inl rfl⟩,⟨⟨rfl,rfl,rfl,rfl,fun _=>rfl,fun _ _=>.inl rfl⟩,⟨⟨rfl,rfl,rfl,rfl,fun _=>rfl,fun _ _=>.inl rfl⟩,⟨⟨rfl,rfl,rfl,rfl,fun _=>rfl,fun _ _=>.inl rfl⟩,⟨⟨rfl,rfl,rfl,rfl,fun _=>rfl,fun _ _=>.inl rfl⟩,⟨⟨rfl,rfl,rfl,rfl,fun _=>rfl,fun _ _=>.inl rfl⟩,⟨⟨rfl,rfl,rfl,rfl,fun _=>rfl,fun _ _=>.inl rfl⟩,trivial⟩⟩⟩⟩⟩⟩⟩,trivial⟩⟩
               ·exact absurd (hv2.symm.trans w8) nofun
              ·(exfalso; omega)
             ·rw [decide_eq_false (by rw [ep,eq0]; exact he2)] at hv2
              have hrow := fun i : Nat=>rowG (n := 4) (fun e=>nmC e) (fun _=>rfl) n0 a (k1 : Int).toNat i (a.getD (0 + (k : Int).toNat + (q : Int).toNat) n0) (by omega)
              conv=>whnf
              conv=>whnf
              conv=>whnf
              conv=>whnf
              (conv=>whnf); refine ifB_dec (fun w7=>?_) (fun w7=>?_)
              ·conv=>whnf
               conv=>whnf
               conv=>whnf
               conv=>whnf
               (conv=>whnf); refine ⟨[],by kernel_rfl,?_⟩
               conv=>whnf
               conv=>whnf
               conv=>whnf
               conv=>whnf
               (conv=>whnf); refine ⟨⟨(by omega),(by omega)⟩,?_⟩
               conv=>whnf
               conv=>whnf
               conv=>whnf
               conv=>whnf
               (conv=>whnf); refine ⟨inK64 (by omega) (by omega),?_⟩
               conv=>whnf
               conv=>whnf
               conv=>whnf
               conv=>whnf
               (conv=>whnf); refine ⟨⟨(by omega),(by omega)⟩,?_⟩
               conv=>whnf
               conv=>whnf
               conv=>whnf
               conv=>whnf
               (conv=>whnf); refine ifB_not ?_
               conv=>whnf
               conv=>whnf
               conv=>whnf
               conv=>whnf
               (conv=>whnf); refine ifB_intro (fun w8=>?_) (fun w8=>?_)
               ·exact absurd (hv2.symm.trans w8) nofun
               ·conv=>whnf
                conv=>whnf
                conv=>whnf
                conv=>whnf
                (conv=>whnf); refine ⟨⟨(by omega),(by omega)⟩,?_⟩
                conv=>whnf
                conv=>whnf
                conv=>whnf
                conv=>whnf
                (conv=>whnf); refine ⟨⟨(by omega),(by omega)⟩,?_⟩
                refine ⟨_,fun i _=>hrow i,?_⟩
                conv=>whnf
                conv=>whnf
                conv=>whnf
                conv=>whnf
                (conv=>whnf); refine ⟨inK64 (by omega) (by omega),?_⟩
                conv=>whnf
                conv=>whnf
                conv=>whnf
                conv=>whnf
                (conv=>whnf); refine ⟨inK64 (by omega) (by omega),?_⟩
                conv=>whnf
                conv=>whnf
                conv=>whnf
                conv=>whnf
                (conv=>whnf); refine ⟨_,_,⟨⟨k1 + 1,q + 1,a.set k1 (a.getD (0 + (k : Int).toNat + (q : Int).toNat) n0),_,_,_,_,_,_,by omega,(by rw [eq0]; exact hI.put hlt2 he2),rfl,rfl⟩,by omega⟩,⟨⟨.inl rfl,rfl,rfl,rfl⟩,⟨⟨rfl,rfl,rfl,rfl,fun _=>rfl,fun _ _=>.inl rfl⟩,⟨⟨rfl,rfl,rfl,rfl,fun _=>rfl,fun _ _=>.inl rfl⟩,⟨⟨rfl,rfl,rfl,rfl,fun _=>rfl,fun _ _=>.inl rfl⟩,⟨⟨rfl,rfl,rfl,rfl,fun _=>rfl,fun _ _=>.inl rfl⟩,⟨⟨rfl,rfl,rfl,rfl,fun _=>rfl,fun _ _=>.inl rfl⟩,⟨⟨rfl,rfl,rfl,rfl,fun _=>rfl,fun _ _=>.inl rfl⟩,⟨⟨rfl,rfl,rfl,rfl,fun _=>rfl,fun _ _=>.inl rfl⟩,trivial⟩⟩⟩⟩⟩⟩⟩,trivial⟩⟩
              ·(exfalso; omega)
            ·have hf := hI.fin hlt2
             have hz2 : 0 ≤ (k1 : Int) ∧ (k1 : Int) ≤ (R.length : Int) ∧ ((0 : Nat) : Int) + (R.length : Int) ≤ (R.length : Int) := ⟨by omega,by omega,by omega⟩
             have hz3 : 0 ≤ (0 : Int) ∧ (0 : Int) ≤ (k1 : Int) ∧ ((0 : Nat) : Int) + (k1 : Int) ≤ (R.length : Int) := ⟨by omega,by omega,by omega⟩
             conv=>whnf
             conv=>whnf
             conv=>whnf
             conv=>whnf
             (conv=>whnf); refine ifB_dec (fun w7=>?_) (fun w7=>?_)
             ·(exfalso; omega)
             ·conv=>whnf
              conv=>whnf
              conv=>whnf
              conv=>whnf
              (conv=>whnf); refine ⟨by assumption,?_⟩
              conv=>whnf
              conv=>whnf
              conv=>whnf
              conv=>whnf
              (conv=>whnf); refine ⟨by assumption,?_⟩
              conv=>whnf
              conv=>whnf
              conv=>whnf
              conv=>whnf
              (conv=>whnf); refine ⟨?_,nofun⟩
              exact ⟨rfl,(by have := hf.1; omega),fun i hi=>(if_neg (by omega)).trans (congrArg (fun e=>nmC e) (hf.2 i (by omega)))⟩
           ·exact absurd (hv.symm.trans w6) nofun
          ·(exfalso; omega)
         ·rw [decide_eq_false (by rw [ek,Nat.zero_add,Nat.zero_add]; exact he)] at hv
          conv=>whnf
          conv=>whnf
          conv=>whnf
          (conv=>whnf); refine ifB_dec (fun w5=>?_) (fun w5=>?_)
          ·conv=>whnf
           conv=>whnf
           conv=>whnf
           (conv=>whnf); refine ⟨[],by kernel_rfl,?_⟩
           conv=>whnf
           conv=>whnf
           conv=>whnf
           (conv=>whnf); refine ⟨⟨(by omega),(by omega)⟩,?_⟩
           conv=>whnf
           conv=>whnf
           conv=>whnf
           (conv=>whnf); refine ⟨inK64 (by omega) (by omega),?_⟩
           conv=>whnf
           conv=>whnf
           conv=>whnf
           (conv=>whnf); refine ⟨⟨(by omega),(by omega)⟩,?_⟩
           conv=>whnf
           conv=>whnf
           conv=>whnf
           (conv=>whnf); refine ifB_intro (fun w6=>?_) (fun w6=>?_)
           ·exact absurd (hv.symm.trans w6) nofun
           ·conv=>whnf
            conv=>whnf
            conv=>whnf
            (conv=>whnf); refine ⟨inK64 (by omega) (by omega),?_⟩
            conv=>whnf
            conv=>whnf
            conv=>whnf
            (conv=>whnf); refine ⟨_,_,⟨⟨k + 1,_,_,_,_,_,_,by omega,by omega,comp_go hk1 hlt hc he,rfl,rfl⟩,by omega⟩,⟨⟨.inl rfl,rfl,rfl,rfl⟩,⟨⟨rfl,rfl,rfl,rfl,fun _=>rfl,fun _ _=>.inl rfl⟩,⟨⟨rfl,rfl,rfl,rfl,fun _=>rfl,fun _ _=>.inl rfl⟩,⟨⟨rfl,rfl,rfl,rfl,fun _=>rfl,fun _ _=>.inl rfl⟩,⟨⟨rfl,rfl,rfl,rfl,fun _=>rfl,fun _ _=>.inl rfl⟩,⟨⟨rfl,rfl,rfl,rfl,fun _=>rfl,fun _ _=>.inl rfl⟩,⟨⟨rfl,rfl,rfl,rfl,fun _=>rfl,fun _ _=>.inl rfl⟩,⟨⟨rfl,rfl,rfl,rfl,fun _=>rfl,fun _ _=>.inl rfl⟩,trivial⟩⟩⟩⟩⟩⟩⟩,trivial⟩⟩
          ·(exfalso; omega)
        ·obtain rfl : k = R.length := by omega
         rw [List.take_length] at hc
         rw [hc]
         conv=>whnf
         conv=>whnf
         conv=>whnf
         (conv=>whnf); refine ifB_dec (fun w5=>?_) (fun w5=>?_)
         ·(exfalso; omega)
         ·conv=>whnf
          conv=>whnf
          conv=>whnf
          (conv=>whnf); refine ⟨?_,nofun⟩
          exact ⟨rfl,rfl,fun _ _=>rfl⟩
   ·(exfalso; omega)
 ·rw [rwI_stop _ _ (fun e => hlt e.1)] at hr
  subst hr
  conv=>whnf
  (conv=>whnf); refine ⟨[],by kernel_rfl,?_⟩
  conv=>whnf
  (conv=>whnf); refine ⟨inK64 (by omega) (by omega),?_⟩
  conv=>whnf
  (conv=>whnf); refine ifB_dec (fun w1=>?_) (fun w1=>?_)
  ·(exfalso; omega)
  ·conv => whnf
   (conv=>whnf); refine ⟨[(6,13),(10,13)],by kernel_rfl,?_⟩
   conv=>whnf
   (conv=>whnf); refine ⟨⟨(by omega),(by omega)⟩,?_⟩
   conv=>whnf
   (conv=>whnf); refine ⟨inK64 (by omega) (by omega),?_⟩
   conv=>whnf
   (conv=>whnf); refine ⟨⟨(by omega),(by omega)⟩,?_⟩
   conv=>whnf
   (conv=>whnf); refine ⟨[(9,18),(11,18),(14,18)],by kernel_rfl,?_⟩
   conv=>whnf
   (conv=>whnf); refine ⟨by assumption,?_⟩
   conv=>whnf
   (conv=>whnf); refine ⟨by assumption,?_⟩
   conv=>whnf
   (conv=>whnf); refine ⟨by assumption,?_⟩
   conv=>whnf
   (conv=>whnf); refine ⟨by assumption,?_⟩
   conv=>whnf
   (conv=>whnf); refine ⟨[.slot 11 4],[6,7,10,11,66,67,68],fun st mq=>∃ (k : Nat) (R : List Nm) (n : Nat) (F0 : Nat → List AV) (F1 : Nat → List AV),(k ≤ (crvA t f).length) ∧ (R = rawN (crvA t f) (crvB t f) (crvP t f) (crvD t f) k) ∧ (R.length = n) ∧ st = ⟨[(6,.optr 2 0 0 0),(7,.optr 3 0 0 0),(10,.func (.func 77) 0 [.optr 5 0 0 0,.optr 4 0 0 0]),(11,.oslice 6 0 0 n none),(66,ptsA (crvA t f)),(67,i64 (crvA t f).length),(68,i64 k)],⟨[⟨1,1,F0,0,false,true,false⟩,⟨2,1,F1,0,false,true,false⟩,⟨2,1,fun _=>[i64 (t.getD (rwK t f) r0).o,ptsA (crvA t f)],0,false,true,true⟩,⟨2,1,fun _=>[i64 (t.getD (rwK t f + 1) r0).o,ptsA (crvB t f)],0,false,true,true⟩,⟨1,1,fun _=>[i64 (crvP t f)],0,false,true,true⟩,⟨1,1,fun _=>[i64 (crvD t f)],0,false,true,true⟩,⟨4,n,fun i=>nmC (R.getD i n0),0,false,true,false⟩],[],none,0⟩,[]⟩ ∧ mq = (crvA t f).length - k,
    ⟨_,_,⟨0,[],0,_,_,by omega,rfl,rfl,rfl,rfl⟩,⟨⟨.inl rfl,rfl,rfl,rfl⟩,⟨⟨rfl,rfl,rfl,rfl,fun _=>rfl,fun _ _=>.inl rfl⟩,⟨⟨rfl,rfl,rfl,rfl,fun _=>rfl,fun _ _=>.inl rfl⟩,⟨⟨rfl,rfl,rfl,rfl,fun _=>rfl,fun _ _=>.inl rfl⟩,⟨⟨rfl,rfl,rfl,rfl,fun _=>rfl,fun _ _=>.inl rfl⟩,⟨⟨rfl,rfl,rfl,rfl,fun _=>rfl,fun _ _=>.inl rfl⟩,⟨⟨rfl,rfl,rfl,rfl,fun _=>rfl,fun _ _=>.inl rfl⟩,⟨⟨rfl,rfl,rfl,rfl,fun _=>rfl,fun i h=>.inl (absurd h (Nat.not_lt_zero i))⟩,trivial⟩⟩⟩⟩⟩⟩⟩,trivial⟩⟩,?_⟩
   rintro s0 m0 ⟨k,R,n,F0,F1,hk,hR,hn,rfl,hmeas⟩
   have hpt := crv_pts hT hO k
   have hrl := rawN_len (crvA t f) (crvB t f) (crvP t f) (crvD t f) k
   rw [← hR] at hrl
   by_cases hlt2 : k < (crvA t f).length
   ·have c1 := S77 ((crvA t f).getD k p0) ((crvB t f).getD k p0) (crvP t f) (crvD t f) hpt.1 hpt.2 hcp hcd
    by_cases hlt3 : k + 1 < (crvA t f).length
    ·have c2 := S77 ((crvA t f).getD (k + 1) p0) ((crvB t f).getD k p0) (crvP t f) (crvD t f) (crv_pts hT hO (k + 1)).1 hpt.2 hcp hcd
     conv=>whnf
     conv=>whnf
     (conv=>whnf); refine ifB_dec (fun w2=>?_) (fun w2=>?_)
     ·conv=>whnf
      conv=>whnf
      (conv=>whnf); refine ⟨⟨(by omega),(by omega)⟩,?_⟩
      conv=>whnf
      conv=>whnf
      (conv=>whnf); refine ⟨[],by kernel_rfl,?_⟩
      conv=>whnf
      conv=>whnf
      (conv=>whnf); refine ⟨⟨(by omega),(by omega)⟩,?_⟩
      conv=>whnf
      conv=>whnf
      (conv=>whnf); refine .inl ⟨_,_,byX rfl (Sound1.pl (c1) rfl),?_⟩
      conv=>whnf
      conv=>whnf
      (conv=>whnf); refine .inl ?_
      conv=>whnf
      conv=>whnf
      (conv=>whnf); refine ⟨(by show _ * (32 + 1) ≤ _; omega),?_⟩
      conv=>whnf
      conv=>whnf
      (conv=>whnf); refine ⟨inK64 (by omega) (by omega),?_⟩
      conv=>whnf
      conv=>whnf
      (conv=>whnf); refine ifB_dec (fun w3=>?_) (fun w3=>?_)
      ·conv=>whnf
       conv=>whnf
       (conv=>whnf); refine ⟨[],by kernel_rfl,?_⟩
       conv=>whnf
       conv=>whnf
       (conv=>whnf); refine ⟨inK64 (by omega) (by omega),?_⟩
       conv=>whnf
       conv=>whnf
       (conv=>whnf); refine ⟨⟨(by omega),(by omega)⟩,?_⟩
       conv=>whnf
       conv=>whnf
       (conv=>whnf); refine ⟨⟨(by omega),(by omega)⟩,?_⟩
       conv=>whnf
       conv=>whnf
       (conv=>whnf); refine .inl ⟨_,_,byX rfl (Sound1.pl (c2) rfl),?_⟩
       conv=>whnf
       conv=>whnf
       (conv=>whnf); refine .inl ?_
       conv=>whnf
       conv=>whnf
       (conv=>whnf); refine ⟨(by show _ * (32 + 1) ≤ _; omega),?_⟩
       conv=>whnf
       conv=>whnf
       (conv=>whnf); refine ⟨inK64 (by omega) (by omega),?_⟩
       conv=>whnf
       conv=>whnf
       (conv=>whnf); refine ⟨_,_,⟨⟨k + 1,R ++ [btwN ((crvA t f).getD k p0) ((crvB t f).getD k p0) (crvP t f) (crvD t f)] ++ [btwN ((crvA t f).getD (k + 1) p0) ((crvB t f).getD k p0) (crvP t f) (crvD t f)],n + 1 + 1,_,_,by omega,(by rw [rawN_2 hlt3,hR]),(by simp [hn]),rfl,rfl⟩,by omega⟩,⟨⟨.inl rfl,rfl,rfl,rfl⟩,⟨⟨rfl,rfl,rfl,rfl,fun _=>rfl,fun _ _=>.inl rfl⟩,⟨⟨rfl,rfl,rfl,rfl,fun _=>rfl,fun _ _=>.inl rfl⟩,⟨⟨rfl,rfl,rfl,rfl,fun _=>rfl,fun _ _=>.inl rfl⟩,⟨⟨rfl,rfl,rfl,rfl,fun _=>rfl,fun _ _=>.inl rfl⟩,⟨⟨rfl,rfl,rfl,rfl,fun _=>rfl,fun _ _=>.inl rfl⟩,⟨⟨rfl,rfl,rfl,rfl,fun _=>rfl,fun _ _=>.inl rfl⟩,⟨⟨rfl,rfl,rfl,rfl,fun _=>rfl,fun j hj=>.inl (appG2 nmC (fun _=>rfl) n0 R _ _ n j hn hj)⟩,trivial⟩⟩⟩⟩⟩⟩⟩,trivial⟩⟩
      ·(exfalso; omega)
     ·(exfalso; omega)
    ·conv=>whnf
     conv=>whnf
     (conv=>whnf); refine ifB_dec (fun w2=>?_) (fun w2=>?_)
     ·conv=>whnf
      conv=>whnf
      (conv=>whnf); refine ⟨⟨(by omega),(by omega)⟩,?_⟩
      conv=>whnf
      conv=>whnf
      (conv=>whnf); refine ⟨[],by kernel_rfl,?_⟩
      conv=>whnf
      conv=>whnf
      (conv=>whnf); refine ⟨⟨(by omega),(by omega)⟩,?_⟩
      conv=>whnf
      conv=>whnf
      (conv=>whnf); refine .inl ⟨_,_,byX rfl (Sound1.pl (c1) rfl),?_⟩
      conv=>whnf
      conv=>whnf
      (conv=>whnf); refine .inl ?_
      conv=>whnf
      conv=>whnf
      (conv=>whnf); refine ⟨(by show _ * (32 + 1) ≤ _; omega),?_⟩
      conv=>whnf
      conv=>whnf
      (conv=>whnf); refine ⟨inK64 (by omega) (by omega),?_⟩
      conv=>whnf
      conv=>whnf
      (conv=>whnf); refine ifB_dec (fun w3=>?_) (fun w3=>?_)
      ·(exfalso; omega)
      ·conv=>whnf
       conv=>whnf
       (conv=>whnf); refine ⟨inK64 (by omega) (by omega),?_⟩
       conv=>whnf
       conv=>whnf
       (conv=>whnf); refine ⟨_,_,⟨⟨k + 1,R ++ [btwN ((crvA t f).getD k p0) ((crvB t f).getD k p0) (crvP t f) (crvD t f)],n + 1,_,_,by omega,(by rw [rawN_1 hlt3,hR]),(by simp [hn]),rfl,rfl⟩,by omega⟩,⟨⟨.inl rfl,rfl,rfl,rfl⟩,⟨⟨rfl,rfl,rfl,rfl,fun _=>rfl,fun _ _=>.inl rfl⟩,⟨⟨rfl,rfl,rfl,rfl,fun _=>rfl,fun _ _=>.inl rfl⟩,⟨⟨rfl,rfl,rfl,rfl,fun _=>rfl,fun _ _=>.inl rfl⟩,⟨⟨rfl,rfl,rfl,rfl,fun _=>rfl,fun _ _=>.inl rfl⟩,⟨⟨rfl,rfl,rfl,rfl,fun _=>rfl,fun _ _=>.inl rfl⟩,⟨⟨rfl,rfl,rfl,rfl,fun _=>rfl,fun _ _=>.inl rfl⟩,⟨⟨rfl,rfl,rfl,rfl,fun _=>rfl,fun j hj=>.inl (appG nmC (fun _=>rfl) n0 R _ n j hn hj)⟩,trivial⟩⟩⟩⟩⟩⟩⟩,trivial⟩⟩
     ·(exfalso; omega)
   ·obtain rfl : k = (crvA t f).length := by omega
    have hR : R = crvR t f := hR
    have ec : crvN t f = compL R := by rw [hR]; rfl
    rw [ec]
    subst hn
    conv=>whnf
    conv=>whnf
    (conv=>whnf); refine ifB_dec (fun w2=>?_) (fun w2=>?_)
    ·(exfalso; omega)
    ·conv => whnf
     conv=>whnf
     (conv=>whnf); refine .inr (.inl ⟨[],?_⟩)
     conv=>whnf
     conv=>whnf
     (conv=>whnf); refine ifB_dec (fun w3=>?_) (fun w3=>?_)
     ·conv=>whnf
      conv=>whnf
      (conv=>whnf); refine ⟨?_,nofun⟩
      rw [compL_one (by omega)]
      exact ⟨rfl,rfl,fun _ _=>rfl⟩
     ·conv => whnf
      conv=>whnf
      (conv=>whnf); refine ⟨[.forget [107,69,6,7,10,11,66,67,68]],[0,3],fun st mq=>∃ (k : Nat) (F0 : Nat → List AV) (F1 : Nat → List AV) (F2 : Nat → List AV) (F3 : Nat → List AV) (F4 : Nat → List AV) (F5 : Nat → List AV),(1 ≤ k) ∧ (k ≤ R.length) ∧ (compL (R.take k) = R.take k) ∧ st = ⟨[(0,.oslice 6 0 0 R.length none),(3,i64 k)],⟨[⟨1,1,F0,0,false,true,false⟩,⟨2,1,F1,0,false,true,false⟩,⟨2,1,F2,0,false,true,false⟩,⟨2,1,F3,0,false,true,false⟩,⟨1,1,F4,0,false,true,false⟩,⟨1,1,F5,0,false,true,false⟩,⟨4,R.length,fun i=>nmC (R.getD i n0),0,false,true,false⟩],[],none,0⟩,[]⟩ ∧ mq = R.length - k,
       ⟨_,_,⟨1,_,_,_,_,_,_,by omega,by omega,compL_one (by rw [List.length_take]; omega),rfl,rfl⟩,⟨⟨.inl rfl,rfl,rfl,rfl⟩,⟨⟨rfl,rfl,rfl,rfl,fun _=>rfl,fun _ _=>.inl rfl⟩,⟨⟨rfl,rfl,rfl,rfl,fun _=>rfl,fun _ _=>.inl rfl⟩,⟨⟨rfl,rfl,rfl,rfl,fun _=>rfl,fun _ _=>.inl rfl⟩,⟨⟨rfl,rfl,rfl,rfl,fun _=>rfl,fun _ _=>.inl rfl⟩,⟨⟨rfl,rfl,rfl,rfl,fun _=>rfl,fun _ _=>.inl rfl⟩,⟨⟨rfl,rfl,rfl,rfl,fun _=>rfl,fun _ _=>.inl rfl⟩,⟨⟨rfl,rfl,rfl,rfl,fun _=>rfl,fun _ _=>.inl rfl⟩,trivial⟩⟩⟩⟩⟩⟩⟩,trivial⟩⟩,?_⟩
      rintro s0 m0 ⟨k,F0,F1,F2,F3,F4,F5,hk1,hk2,hc,rfl,hmeas⟩
      have ek : ((k : Int) - 1).toNat = k - 1 := by omega
      by_cases hlt : k < R.length
      ·have hv := nm_veq (R.getD (0 + (k : Int).toNat) n0) (R.getD (0 + ((k : Int) - 1).toNat) n0)
       have hz : 0 ≤ (k : Int) ∧ (k : Int) ≤ (R.length : Int) ∧ ((0 : Nat) : Int) + (R.length : Int) ≤ (R.length : Int) := ⟨by omega,by omega,by omega⟩
       by_cases he : R.getD k n0 = R.getD (k - 1) n0
       ·rw [decide_eq_true (by rw [ek, Nat.zero_add, Nat.zero_add]; exact he)] at hv
        conv=>whnf
        conv=>whnf
        conv=>whnf
        (conv=>whnf); refine ifB_dec (fun w4=>?_) (fun w4=>?_)
        ·conv => whnf
         conv=>whnf
         conv=>whnf
         (conv=>whnf); refine ⟨[],by kernel_rfl,?_⟩
         conv=>whnf
         conv=>whnf
         conv=>whnf
         (conv=>whnf); refine ⟨⟨(by omega),(by omega)⟩,?_⟩
         conv=>whnf
         conv=>whnf
         conv=>whnf
         (conv=>whnf); refine ⟨inK64 (by omega) (by omega),?_⟩
         conv=>whnf
         conv=>whnf
         conv=>whnf
         (conv=>whnf); refine ⟨⟨(by omega),(by omega)⟩,?_⟩
         conv=>whnf
         conv=>whnf
         conv=>whnf
         (conv=>whnf); refine ifB_intro (fun w5=>?_) (fun w5=>?_)
         ·conv=>whnf
          conv=>whnf
          conv=>whnf
          (conv=>whnf); refine ⟨by assumption,?_⟩
          conv=>whnf
          conv=>whnf
          conv=>whnf
          (conv=>whnf); refine ⟨[],[0,3,4,5],fun st mq=>∃ (k1 : Nat) (q : Nat) (a : List Nm) (F0 : Nat → List AV) (F1 : Nat → List AV) (F2 : Nat → List AV) (F3 : Nat → List AV) (F4 : Nat → List AV) (F5 : Nat → List AV),(1 ≤ q) ∧ (CmpI n0 R a k1 (k + q)) ∧ st = ⟨[(0,.oslice 6 0 0 R.length none),(3,i64 k1),(4,.oslice 6 0 (0 + (k : Int).toNat) ((R.length : Int) - (k : Int)).toNat none),(5,i64 q)],⟨[⟨1,1,F0,0,false,true,false⟩,⟨2,1,F1,0,false,true,false⟩,⟨2,1,F2,0,false,true,false⟩,⟨2,1,F3,0,false,true,false⟩,⟨1,1,F4,0,false,true,false⟩,⟨1,1,F5,0,false,true,false⟩,⟨4,R.length,fun i=>nmC (a.getD i n0),0,false,true,false⟩],[],none,0⟩,[]⟩ ∧ mq = R.length - k - q,
           ⟨_,_,⟨k,1,R,_,_,_,_,_,_,by omega,cmpI_start hk1 hlt hc he,rfl,rfl⟩,⟨⟨.inl rfl,rfl,rfl,rfl⟩,⟨⟨rfl,rfl,rfl,rfl,fun _=>rfl,fun _ _=>.inl rfl⟩,⟨⟨rfl,rfl,rfl,rfl,fun _=>rfl,fun _ _=>.inl rfl⟩,⟨⟨rfl,rfl,rfl,rfl,fun _=>rfl,fun _ _=>.inl rfl⟩,⟨⟨rfl,rfl,rfl,rfl,fun _=>rfl,fun _ _=>.inl rfl⟩,⟨⟨rfl,rfl,rfl,rfl,fun _=>rfl,fun _ _=>.inl rfl⟩,⟨⟨rfl,rfl,rfl,rfl,fun _=>rfl,fun _ _=>.inl rfl⟩,⟨⟨rfl,rfl,rfl,rfl,fun _=>rfl,fun _ _=>.inl rfl⟩,trivial⟩⟩⟩⟩⟩⟩⟩,trivial⟩⟩,?_⟩
          rintro s0 m0 ⟨k1,q,a,F0,F1,F2,F3,F4,F5,hq,hI,rfl,hmeas⟩
          have hkp := hI.kp
          have hal := hI.len
          by_cases hlt2 : k + q < R.length
          ·have hv2 := nm_veq (a.getD (0 + (k : Int).toNat + (q : Int).toNat) n0) (a.getD (0 + (k : Int).toNat + ((q : Int) - 1).toNat) n0)
           have ep : 0 + (k : Int).toNat + ((q : Int) - 1).toNat = k + q - 1 := by omega
           have eq0 : 0 + (k : Int).toNat + (q : Int).toNat = k + q := by omega
           by_cases he2 : a.getD (k + q) n0 = a.getD (k + q - 1) n0
           ·rw [decide_eq_true (by rw [ep,eq0]; exact he2)] at hv2
            conv=>whnf
            conv=>whnf
            conv=>whnf
            conv=>whnf
            (conv=>whnf); refine ifB_dec (fun w6=>?_) (fun w6=>?_)
            ·conv=>whnf
             conv=>whnf
             conv=>whnf
             conv=>whnf
             (conv=>whnf); refine ⟨[],by kernel_rfl,?_⟩
             conv=>whnf
             conv=>whnf
             conv=>whnf
             conv=>whnf
             (conv=>whnf); refine ⟨⟨(by omega),(by omega)⟩,?_⟩
             conv=>whnf
             conv=>whnf
             conv=>whnf
             conv=>whnf
             (conv=>whnf); refine ⟨inK64 (by omega) (by omega),?_⟩
             conv=>whnf
             conv=>whnf
             conv=>whnf
             conv=>whnf
             (conv=>whnf); refine ⟨⟨(by omega),(by omega)⟩,?_⟩
             conv=>whnf
             conv=>whnf
             conv=>whnf
             conv=>whnf
             (conv=>whnf); refine ifB_not ?_
             conv=>whnf
             conv=>whnf
             conv=>whnf
             conv=>whnf
             (conv=>whnf); refine ifB_intro (fun w7=>?_) (fun w7=>?_)
             ·conv=>whnf
              conv=>whnf
              conv=>whnf
              conv=>whnf
              (conv=>whnf); refine ⟨inK64 (by omega) (by omega),?_⟩
              conv=>whnf
              conv=>whnf
              conv=>whnf
              conv=>whnf
              (conv=>whnf); refine ⟨_,_,⟨⟨k1,q + 1,a,_,_,_,_,_,_,by omega,hI.same hlt2 he2,rfl,rfl⟩,by omega⟩,⟨⟨.inl rfl,rfl,rfl,rfl⟩,⟨⟨rfl,rfl,rfl,rfl,fun _=>rfl,fun _ _=>.inl rfl⟩,⟨⟨rfl,rfl,rfl,rfl,fun _=>rfl,fun _ _=>.inl rfl⟩,⟨⟨rfl,rfl,rfl,rfl,fun _=>rfl,fun _ _=>.inl rfl⟩,⟨⟨rfl,rfl,rfl,rfl,fun _=>rfl,fun _ _=>.inl rfl⟩,⟨⟨rfl,rfl,rfl,rfl,fun _=>rfl,fun _ _=>.inl rfl⟩,⟨⟨rfl,rfl,rfl,rfl,fun _=>rfl,fun _ _=>.inl rfl⟩,⟨⟨rfl,rfl,rfl,rfl,fun _=>rfl,fun _ _=>.inl rfl⟩,trivial⟩⟩⟩⟩⟩⟩⟩,trivial⟩⟩
             ·exact absurd (hv2.symm.trans w7) nofun
            ·(exfalso; omega)
           ·rw [decide_eq_false (by rw [ep,eq0]; exact he2)] at hv2
            have hrow := fun i : Nat=>rowG (n := 4) (fun e=>nmC e) (fun _=>rfl) n0 a (k1 : Int).toNat i (a.getD (0 + (k : Int).toNat + (q : Int).toNat) n0) (by omega)
            conv=>whnf
            conv=>whnf
            conv=>whnf
            conv=>whnf
            (conv=>whnf); refine ifB_dec (fun w6=>?_) (fun w6=>?_)
            ·conv=>whnf
             conv=>whnf
             conv=>whnf
             conv=>whnf
             (conv=>whnf); refine ⟨[],by kernel_rfl,?_⟩
             conv=>whnf
             conv=>whnf
             conv=>whnf
             conv=>whnf
             (conv=>whnf); refine ⟨⟨(by omega),(by omega)⟩,?_⟩
             conv=>whnf
             conv=>whnf
             conv=>whnf
             conv=>whnf
             (conv=>whnf); refine ⟨inK64 (by omega) (by omega),?_⟩
             conv=>whnf
             conv=>whnf
             conv=>whnf
             conv=>whnf
             (conv=>whnf); refine ⟨⟨(by omega),(by omega)⟩,?_⟩
             conv=>whnf
             conv=>whnf
             conv=>whnf
             conv=>whnf
             (conv=>whnf); refine ifB_not ?_
             conv=>whnf
             conv=>whnf
             conv=>whnf
             conv=>whnf
             (conv=>whnf); refine ifB_intro (fun w7=>?_) (fun w7=>?_)
             ·exact absurd (hv2.symm.trans w7) nofun
             ·conv=>whnf
              conv=>whnf
              conv=>whnf
              conv=>whnf
              (conv=>whnf); refine ⟨⟨(by omega),(by omega)⟩,?_⟩
              conv=>whnf
              conv=>whnf
              conv=>whnf
              conv=>whnf
              (conv=>whnf); refine ⟨⟨(by omega),(by omega)⟩,?_⟩
              refine ⟨_,fun i _=>hrow i,?_⟩
              conv=>whnf
              conv=>whnf
              conv=>whnf
              conv=>whnf
              (conv=>whnf); refine ⟨inK64 (by omega) (by omega),?_⟩
              conv=>whnf
              conv=>whnf
              conv=>whnf
              conv=>whnf
              (conv=>whnf); refine ⟨inK64 (by omega) (by omega),?_⟩
              conv=>whnf
              conv=>whnf
              conv=>whnf
              conv=>whnf
              (conv=>whnf); refine ⟨_,_,⟨⟨k1 + 1,q + 1,a.set k1 (a.getD (0 + (k : Int).toNat + (q : Int).toNat) n0),_,_,_,_,_,_,by omega,(by rw [eq0]; exact hI.put hlt2 he2),rfl,rfl⟩,by omega⟩,⟨⟨.inl rfl,rfl,rfl,rfl⟩,⟨⟨rfl,rfl,rfl,rfl,fun _=>rfl,fun _ _=>.inl rfl⟩,⟨⟨rfl,rfl,rfl,rfl,fun _=>rfl,fun _ _=>.inl rfl⟩,⟨⟨rfl,rfl,rfl,rfl,fun _=>rfl,fun _ _=>.inl rfl⟩,⟨⟨rfl,rfl,rfl,rfl,fun _=>rfl,fun _ _=>.inl rfl⟩,⟨⟨rfl,rfl,rfl,rfl,fun _=>rfl,fun _ _=>.inl rfl⟩,⟨⟨rfl,rfl,rfl,rfl,fun _=>rfl,fun _ _=>.inl rfl⟩,⟨⟨rfl,rfl,rfl,rfl,fun _=>rfl,fun _ _=>.inl rfl⟩,trivial⟩⟩⟩⟩⟩⟩⟩,trivial⟩⟩
            ·(exfalso; omega)
          ·have hf := hI.fin hlt2
           have hz2 : 0 ≤ (k1 : Int) ∧ (k1 : Int) ≤ (R.length : Int) ∧ ((0 : Nat) : Int) + (R.length : Int) ≤ (R.length : Int) := ⟨by omega,by omega,by omega⟩
           have hz3 : 0 ≤ (0 : Int) ∧ (0 : Int) ≤ (k1 : Int) ∧ ((0 : Nat) : Int) + (k1 : Int) ≤ (R.length : Int) := ⟨by omega,by omega,by omega⟩
           conv=>whnf
           conv=>whnf
           conv=>whnf
           conv=>whnf
           (conv=>whnf); refine ifB_dec (fun w6=>?_) (fun w6=>?_)
           ·(exfalso; omega)
           ·conv=>whnf
            conv=>whnf
            conv=>whnf
            conv=>whnf
            (conv=>whnf); refine ⟨by assumption,?_⟩
            conv=>whnf
            conv=>whnf
            conv=>whnf
            conv=>whnf
            (conv=>whnf); refine ⟨by assumption,?_⟩
            conv=>whnf
            conv=>whnf
            conv=>whnf
            conv=>whnf
            (conv=>whnf); refine ⟨?_,nofun⟩
            exact ⟨rfl,(by have := hf.1; omega),fun i hi=>(if_neg (by omega)).trans (congrArg (fun e=>nmC e) (hf.2 i (by omega)))⟩
         ·exact absurd (hv.symm.trans w5) nofun
        ·(exfalso; omega)
       ·rw [decide_eq_false (by rw [ek,Nat.zero_add,Nat.zero_add]; exact he)] at hv
        conv=>whnf
        conv=>whnf
        conv=>whnf
        (conv=>whnf); refine ifB_dec (fun w4=>?_) (fun w4=>?_)
        ·conv=>whnf
         conv=>whnf
         conv=>whnf
         (conv=>whnf); refine ⟨[],by kernel_rfl,?_⟩
         conv=>whnf
         conv=>whnf
         conv=>whnf
         (conv=>whnf); refine ⟨⟨(by omega),(by omega)⟩,?_⟩
         conv=>whnf
         conv=>whnf
         conv=>whnf
         (conv=>whnf); refine ⟨inK64 (by omega) (by omega),?_⟩
         conv=>whnf
         conv=>whnf
         conv=>whnf
         (conv=>whnf); refine ⟨⟨(by omega),(by omega)⟩,?_⟩
         conv=>whnf
         conv=>whnf
         conv=>whnf
         (conv=>whnf); refine ifB_intro (fun w5=>?_) (fun w5=>?_)
         ·exact absurd (hv.symm.trans w5) nofun
         ·conv=>whnf
          conv=>whnf
          conv=>whnf
          (conv=>whnf); refine ⟨inK64 (by omega) (by omega),?_⟩
          conv=>whnf
          conv=>whnf
          conv=>whnf
          (conv=>whnf); refine ⟨_,_,⟨⟨k + 1,_,_,_,_,_,_,by omega,by omega,comp_go hk1 hlt hc he,rfl,rfl⟩,by omega⟩,⟨⟨.inl rfl,rfl,rfl,rfl⟩,⟨⟨rfl,rfl,rfl,rfl,fun _=>rfl,fun _ _=>.inl rfl⟩,⟨⟨rfl,rfl,rfl,rfl,fun _=>rfl,fun _ _=>.inl rfl⟩,⟨⟨rfl,rfl,rfl,rfl,fun _=>rfl,fun _ _=>.inl rfl⟩,⟨⟨rfl,rfl,rfl,rfl,fun _=>rfl,fun _ _=>.inl rfl⟩,⟨⟨rfl,rfl,rfl,rfl,fun _=>rfl,fun _ _=>.inl rfl⟩,⟨⟨rfl,rfl,rfl,rfl,fun _=>rfl,fun _ _=>.inl rfl⟩,⟨⟨rfl,rfl,rfl,rfl,fun _=>rfl,fun _ _=>.inl rfl⟩,trivial⟩⟩⟩⟩⟩⟩⟩,trivial⟩⟩
        ·(exfalso; omega)
      ·obtain rfl : k = R.length := by omega
       rw [List.take_length] at hc
       rw [hc]
       conv=>whnf
       conv=>whnf
       conv=>whnf
       (conv=>whnf); refine ifB_dec (fun w4=>?_) (fun w4=>?_)
       ·(exfalso; omega)
       ·conv=>whnf
        conv=>whnf
        conv=>whnf
        (conv=>whnf); refine ⟨?_,nofun⟩
        exact ⟨rfl,rfl,fun _ _=>rfl⟩
end Go.Tr

/- Contracts of chapter 5: the reference's spots, comparisons, openings. Conditions: none. -/
-- seat YtpojlhnhokbhkaaGreat
namespace Go.Tr
open Go Go.Proofs
set_option maxRecDepth 20000
set_option maxHeartbeats 8000000

def R3k (k : Nat) (q : Q3) : Prop := Rk k q.1 ∧ Rk k q.2.1 ∧ Rk k q.2.2
theorem R3k.mono {k l : Nat} {q : Q3} (h : R3k k q) (hl : k ≤ l) : R3k l q := ⟨h.1.mono hl,h.2.1.mono hl,h.2.2.mono hl⟩
theorem NmB.rk {d : Int} {n : Nm} (h : NmB d n) {k : Nat} (hd : (10000 * d).natAbs < 1000000000 ^ k) : R3k k (nmQ n) := by
 obtain ⟨h0,h1,h2,h3⟩ := h
 have z : ∀ x : Int,x.natAbs ≤ (10000 * d).natAbs → Zk k x := fun x hx=>Zk.small (Nat.lt_of_le_of_lt hx hd)
 exact ⟨Rk.divI (by omega) (z _ (by omega)) (z _ (by omega)),Rk.divI (by omega) (z _ (by omega)) (z _ (by omega)),Rk.divI (by omega) (z _ (by omega)) (z _ (by omega))⟩
theorem floor_eq (n : Int) {d : Int} (hd : 0 < d) : n / d = if n.tmod d < 0 then n.tdiv d - 1 else n.tdiv d := by
 have h1 := Int.tmod_add_mul_tdiv n d
 have h2 := Int.tmod_lt_of_pos n hd
 have h3 := Int.lt_tmod_of_pos n hd
 by_cases h : n.tmod d < 0
 ·rw [if_pos h]
  refine ((Int.ediv_emod_unique hd (q := n.tdiv d - 1) (r := n.tmod d + d)).2 ⟨?_,by omega,by omega⟩).1
  rw [Int.mul_sub,Int.mul_one]
  omega
 ·rw [if_neg h]
  exact ((Int.ediv_emod_unique hd (q := n.tdiv d) (r := n.tmod d)).2 ⟨h1,by omega,h2⟩).1
theorem S37 (n d : Int) (hn : -9223372036854775808 ≤ n ∧ n ≤ 9223372036854775807) (hd : 0 < d ∧ d ≤ 1000000000) : SP 37 [i64 n,i64 d] (i64 (n / d)) false := by
 have h4 : ((n.tdiv d).natAbs) ≤ n.natAbs := Int.natAbs_tdiv_le_natAbs _ _
 have h5 := Int.tmod_add_mul_tdiv n d
 have h6 : n.tmod d < 0 → -9223372036854775807 ≤ n.tdiv d := fun h=>by
  apply Classical.byContradiction
  intro e
  by_cases h1 : d = 1
  ·rw [h1,Int.tmod_one] at h; omega
  ·have e1 : n.tdiv d = -9223372036854775808 := by omega
   rw [e1] at h5
   have := Int.tmod_lt_of_pos n hd.1
   have := Int.lt_tmod_of_pos n hd.1
   omega
 have h7 : n.tdiv d ≤ 9223372036854775807 := by
  apply Classical.byContradiction
  intro e
  have e1 : n.tdiv d = 9223372036854775808 := by omega
  rw [e1] at h5
  have := Int.tmod_lt_of_pos n hd.1
  have := Int.lt_tmod_of_pos n hd.1
  omega
 have h8 : d ≠ 0 ∧ inK .i64 (n.tdiv d) := ⟨by omega,inK_of (by omega)⟩
 rw [floor_eq n hd.1]
 refine sound (d := 2) tok2 mixed2 Tryz.func37 (by kernel_rfl) (by kernel_rfl) ?_
 (conv=>whnf); refine ⟨⟨(by omega),inK64 (by omega) (by omega)⟩,?_⟩
 (conv=>whnf); refine ⟨(by omega),?_⟩
 (conv=>whnf); refine ifB_dec (fun w1=>?_) (fun w1=>?_)
 ·(conv=>whnf); refine ⟨inK64 (by omega) (by omega),?_⟩
  (conv=>whnf); refine ⟨?_,nofun⟩
  exact endi (if_pos w1).symm
 ·(conv=>whnf); refine ⟨?_,nofun⟩
  exact endi (if_neg w1).symm
theorem flo (n : Int) {d : Int} (hd : 0 < d) : n = n / d * d + n % d ∧ 0 ≤ n % d ∧ n % d < d := by
 have h1 := Int.emod_add_mul_ediv n d
 have h2 := Int.emod_nonneg n (show d ≠ 0 by omega)
 have h3 := Int.emod_lt_of_pos n hd
 refine ⟨?_,h2,h3⟩
 rw [Int.mul_comm (n / d) d]; omega
theorem sg_neg {z : Int} (h : z < 0) : sgI z = -1 := by have := sg_cases z; omega
theorem sg_pos {z : Int} (h : 0 < z) : sgI z = 1 := by have := sg_cases z; omega
theorem cmp_floor {n d m k : Int} (hd : 0 < d) (hk : 0 < k) : (n / d < m / k → sgI (n * k - m * d) = -1) ∧ (m / k < n / d → sgI (n * k - m * d) = 1) ∧ (n / d = m / k → n * k - m * d = n % d * k - m % k * d) := by
 obtain ⟨e1,a1,b1⟩ := flo n hd
 obtain ⟨e2,a2,b2⟩ := flo m hk
 generalize n / d = p at *
 generalize m / k = q at *
 generalize n % d = x at *
 generalize m % k = y at *
 have hdk := Int.mul_pos hd hk
 have e : n * k - m * d = (p - q) * (d * k) + (x * k - y * d) := by rw [e1,e2]; grind
 have c1 := Int.mul_nonneg (a := x) (b := k) (by omega) (by omega)
 have c2 := Int.mul_nonneg (a := y) (b := d) (by omega) (by omega)
 have c3 := Int.mul_pos (a := d - x) (b := k) (by omega) hk
 have c4 := Int.mul_pos (a := k - y) (b := d) (by omega) hd
 rw [Int.sub_mul] at c3 c4
 have c5 : k * d = d * k := Int.mul_comm _ _
 refine ⟨fun h=>sg_neg ?_,fun h=>sg_pos ?_,fun h=>?_⟩
 ·have := Int.mul_nonneg (a := q - p - 1) (b := d * k) (by omega) (by omega)
  have e3 : (p - q) * (d * k) = -((q - p - 1) * (d * k)) - d * k := by grind
  omega
 ·have := Int.mul_nonneg (a := p - q - 1) (b := d * k) (by omega) (by omega)
  have e3 : (p - q) * (d * k) = (p - q - 1) * (d * k) + d * k := by grind
  omega
 ·rw [e,h,Int.sub_self,Int.zero_mul]; omega
theorem S12 (n d m k : Int) (hn : -9223372036854775808 ≤ n ∧ n ≤ 9223372036854775807) (hd : 0 < d ∧ d ≤ 1000000000) (hm : -1000000000 ≤ m ∧ m ≤ 1000000000) (hk : 0 < k ∧ k ≤ 1000000000) :
  SP 12 [i64 n,i64 d,i64 m,i64 k] (i64 (sgI (n * k - m * d))) false := by
 refine sound (d := 2) tok2 mixed2 Tryz.func12 (by kernel_rfl) (by kernel_rfl) ?_
 (conv=>whnf); refine ⟨[],[0,1,2,3],fun st mq=>∃ (n1 : Int) (d1 : Int) (m1 : Int) (k1 : Int),(-9223372036854775808 ≤ n1 ∧ n1 ≤ 9223372036854775807) ∧ (0 < d1 ∧ d1 ≤ 1000000000) ∧ (-1000000000 ≤ m1 ∧ m1 ≤ 1000000000) ∧ (0 < k1 ∧ k1 ≤ 1000000000) ∧ (sgI (n1 * k1 - m1 * d1) = sgI (n * k - m * d)) ∧ st = ⟨[(0,i64 n1),(1,i64 d1),(2,i64 m1),(3,i64 k1)],⟨[],[],none,0⟩,[]⟩ ∧ mq = (d1 + k1).toNat,
  ⟨_,_,⟨n,d,m,k,hn,hd,hm,hk,rfl,rfl,rfl⟩,⟨⟨.inl rfl,rfl,rfl,rfl⟩,trivial,trivial⟩⟩,?_⟩
 rintro s0 m0 ⟨n1,d1,m1,k1,hn1,hd1,hm1,hk1,hs,rfl,hmeas⟩
 have h1 := S37 n1 d1 hn1 hd1
 have h2 := S37 m1 k1 (by omega) hk1
 obtain ⟨e1,a1,b1⟩ := flo n1 hd1.1
 obtain ⟨e2,a2,b2⟩ := flo m1 hk1.1
 obtain ⟨c1,c2,c3⟩ := cmp_floor (n := n1) (m := m1) hd1.1 hk1.1
 have hq := Int.natAbs_ediv_le_natAbs m1 k1
 rw [← hs]
 generalize n1 / d1 = p at *
 generalize m1 / k1 = q at *
 generalize n1 % d1 = x at *
 generalize m1 % k1 = y at *
 have f1 : n1 - p * d1 = x := by omega
 have f2 : m1 - q * k1 = y := by omega
 by_cases g1 : p < q
 ·rw [c1 g1]
  conv=>whnf
  (conv=>whnf); refine .inl ⟨_,_,byX rfl (Sound1.pl (h1) rfl),?_⟩
  conv=>whnf
  (conv=>whnf); refine .inl ⟨_,_,byX rfl (Sound1.pl (h2) rfl),?_⟩
  conv=>whnf
  (conv=>whnf); refine ifB_dec (fun w1=>?_) (fun w1=>?_)
  ·conv=>whnf
   (conv=>whnf); refine ⟨?_,nofun⟩
   (first | contradiction | rfl)
  ·(exfalso; omega)
 ·by_cases g2 : q < p
  ·rw [c2 g2]
   conv=>whnf
   (conv=>whnf); refine .inl ⟨_,_,byX rfl (Sound1.pl (h1) rfl),?_⟩
   conv=>whnf
   (conv=>whnf); refine .inl ⟨_,_,byX rfl (Sound1.pl (h2) rfl),?_⟩
   conv=>whnf
   (conv=>whnf); refine ifB_dec (fun w1=>?_) (fun w1=>?_)
   ·(exfalso; omega)
   ·conv=>whnf
    (conv=>whnf); refine ifB_dec (fun w2=>?_) (fun w2=>?_)
    ·conv=>whnf
     (conv=>whnf); refine ⟨?_,nofun⟩
     (first | contradiction | rfl | omega)
    ·(exfalso; omega)
  ·have g3 : p = q := by omega
   subst g3
   have c3 := c3 rfl
   rw [c3] at hs ⊢
   have hb := absM (show p.natAbs ≤ 1000000000 by omega) (show d1.natAbs ≤ 1000000000 by omega)
   have he : k1 * (n1 - p * d1) - d1 * (m1 - p * k1) = x * k1 - y * d1 := by rw [f1,f2,Int.mul_comm k1 x,Int.mul_comm d1 y]
   conv=>whnf
   (conv=>whnf); refine .inl ⟨_,_,byX rfl (Sound1.pl (h1) rfl),?_⟩
   conv=>whnf
   (conv=>whnf); refine .inl ⟨_,_,byX rfl (Sound1.pl (h2) rfl),?_⟩
   conv=>whnf
   (conv=>whnf); refine ifB_dec (fun w1=>?_) (fun w1=>?_)
   ·(exfalso; omega)
   ·conv=>whnf
    (conv=>whnf); refine ifB_dec (fun w2=>?_) (fun w2=>?_)
    ·(exfalso; omega)
    ·conv=>whnf
     (conv=>whnf); refine ⟨inK64 (by omega) (by omega),?_⟩
     conv=>whnf
     (conv=>whnf); refine ⟨inK64 (by omega) (by omega),?_⟩
     conv=>whnf
     (conv=>whnf); refine ⟨inK64 (by omega) (by omega),?_⟩
     conv=>whnf
     (conv=>whnf); refine ⟨inK64 (by omega) (by omega),?_⟩
     conv=>whnf
     (conv=>whnf); refine ifB_beq (fun w3=>?_) (fun w3=>?_)
     ·conv=>whnf
      (conv=>whnf); refine ifB_beq (fun w4=>?_) (fun w4=>?_)
      ·conv=>whnf
       (conv=>whnf); refine ⟨?_,nofun⟩
       have e1 : x = 0 := by omega
       have e2 : y = 0 := by omega
       exact endi (by rw [e1,e2,Int.zero_mul,Int.zero_mul]; rfl)
      ·conv=>whnf
       (conv=>whnf); refine ifB_beq (fun w5=>?_) (fun w5=>?_)
       ·conv=>whnf
        (conv=>whnf); refine ⟨?_,nofun⟩
        have e1 : x = 0 := by omega
        have := Int.mul_pos (a := y) (b := d1) (by omega) hd1.1
        exact endi (sg_neg (by rw [e1,Int.zero_mul]; omega)).symm
       ·(exfalso; omega)
     ·conv=>whnf
      (conv=>whnf); refine ifB_beq (fun w4=>?_) (fun w4=>?_)
      ·(exfalso; omega)
      ·conv=>whnf
       (conv=>whnf); refine ifB_beq (fun w5=>?_) (fun w5=>?_)
       ·conv=>whnf
        (conv=>whnf); refine ⟨?_,nofun⟩
        have e2 : y = 0 := by omega
        have := Int.mul_pos (a := x) (b := k1) (by omega) hk1.1
        exact endi (sg_pos (by rw [e2,Int.zero_mul]; omega)).symm
       ·conv=>whnf
        (conv=>whnf); refine ⟨_,_,⟨⟨k1,m1 - p * k1,d1,n1 - p * d1,by omega,by omega,by omega,by omega,congrArg sgI he,rfl,rfl⟩,by omega⟩,⟨⟨.inl rfl,rfl,rfl,rfl⟩,trivial,trivial⟩⟩
end Go.Tr

/- Contracts of chapter 5: what of a curve lies on a line; numbers as spots. Conditions: none. -/
-- seat YtpojlhnhokbhkaaGreat
namespace Go.Tr
open Go Go.Proofs
set_option maxRecDepth 20000
set_option maxHeartbeats 8000000

abbrev lnC (l : Ln) : List AV := [i64 l.1,i64 l.2.1,i64 l.2.2.1,i64 l.2.2.2]
abbrev lnA (l : Ln) : AV := .agg (lnC l)
theorem S66 (l : Ln) (n : Nm) (hl : LnOk l) (hn : NmB 200 n) : SP 66 [lnA l,.agg (nmC n)] (i64 (sideN l n)) false := by
 have h := side_b hl hn
 unfold sideN at *
 refine sound (d := 2) tok2 mixed2 Tryz.func66 (by kernel_rfl) (by kernel_rfl) ?_
 (conv=>whnf); refine ⟨⟨(by omega),(by omega)⟩,?_⟩
 (conv=>whnf); refine ⟨inK64 (by omega) (by omega),?_⟩
 (conv=>whnf); refine ⟨⟨(by omega),(by omega)⟩,?_⟩
 (conv=>whnf); refine ⟨inK64 (by omega) (by omega),?_⟩
 (conv=>whnf); refine ⟨inK64 (by omega) (by omega),?_⟩
 (conv=>whnf); refine ⟨⟨(by omega),(by omega)⟩,?_⟩
 (conv=>whnf); refine ⟨inK64 (by omega) (by omega),?_⟩
 (conv=>whnf); refine ⟨inK64 (by omega) (by omega),?_⟩
 (conv=>whnf); refine ⟨inK64 (by omega) (by omega),?_⟩
 (conv=>whnf); refine ⟨inK64 (by omega) (by omega),?_⟩
 (conv=>whnf); refine ⟨?_,nofun⟩
 (first | contradiction | rfl)
def crsJ (X : P3) (D : Int) (j : Nat) : List AV := [i64 (if 0 < j then X.1 else 0),i64 (if 1 < j then X.2.1 else 0),i64 (if 2 < j then X.2.2 else 0),i64 D]
def crsM (X : P3) (D : Int) (j : Nat) : List AV := [i64 (if 0 < j then -X.1 else X.1),i64 (if 1 < j then -X.2.1 else X.2.1),i64 (if 2 < j then -X.2.2 else X.2.2),i64 D]
def crsX (p q : Nm) (a b : Int) : P3 := (p.1.1 * (a - b) + (q.1.1 - p.1.1) * a,p.1.2.1 * (a - b) + (q.1.2.1 - p.1.2.1) * a,p.1.2.2 * (a - b) + (q.1.2.2 - p.1.2.2) * a)
theorem crsN_eq (p q : Nm) (a b : Int) : crsN p q a b = if p.2 * (a - b) < 0 then ((-(crsX p q a b).1,-(crsX p q a b).2.1,-(crsX p q a b).2.2),-(p.2 * (a - b))) else (crsX p q a b,p.2 * (a - b)) := rfl
set_option maxHeartbeats 8000000 in
theorem S67 (p q : Nm) (a b : Int) (hp : NmB 200 p) (hq : NmB 200 q) (ha : a.natAbs ≤ 440000000) (hb : b.natAbs ≤ 440000000) :
  SP 67 [.agg (nmC p),.agg (nmC q),i64 a,i64 b] (.agg (nmC (crsN p q a b))) false := by
 have hab : (a - b).natAbs ≤ 880000000 := by omega
 obtain ⟨d1,p1,p2,p3⟩ := hp
 obtain ⟨d2,q1,q2,q3⟩ := hq
 have md := absM (show p.2.natAbs ≤ 200 by omega) hab
 have m1 := absM (show p.1.1.natAbs ≤ 2000000 by omega) hab
 have m2 := absM (show p.1.2.1.natAbs ≤ 2000000 by omega) hab
 have m3 := absM (show p.1.2.2.natAbs ≤ 2000000 by omega) hab
 have k1 := absM (show (q.1.1 - p.1.1).natAbs ≤ 4000000 by omega) ha
 have k2 := absM (show (q.1.2.1 - p.1.2.1).natAbs ≤ 4000000 by omega) ha
 have k3 := absM (show (q.1.2.2 - p.1.2.2).natAbs ≤ 4000000 by omega) ha
 rw [crsN_eq]
 refine sound (d := 2) tok2 mixed2 Tryz.func67 (by kernel_rfl) (by kernel_rfl) ?_
 (conv=>whnf); refine ⟨inK64 (by omega) (by omega),?_⟩
 (conv=>whnf); refine ⟨inK64 (by omega) (by omega),?_⟩
 (conv=>whnf); refine ⟨[],[2,3,5,8,9,22,23],fun st mq=>∃ (j : Nat) (F0 : Nat → List AV),(j ≤ 3) ∧ st = ⟨[(2,i64 a),(3,i64 b),(5,.optr 1 0 0 0),(8,.optr 2 0 0 0),(9,.optr 3 0 0 0),(22,.agg [i64 p.1.1,i64 p.1.2.1,i64 p.1.2.2]),(23,i64 j)],⟨[⟨4,1,F0,0,false,true,false⟩,⟨4,1,fun _=>nmC q,0,false,true,true⟩,⟨4,1,fun _=>[i64 0,i64 0,i64 0,i64 0],0,false,true,true⟩,⟨4,1,fun _=>crsJ (crsX p q a b) (p.2 * (a - b)) j,0,false,true,true⟩],[],none,0⟩,[]⟩ ∧ mq = 3 - j,
  ⟨_,_,⟨0,_,by omega,rfl,rfl⟩,⟨⟨.inl rfl,rfl,rfl,rfl⟩,⟨⟨rfl,rfl,rfl,rfl,fun _=>rfl,fun _ _=>.inl rfl⟩,⟨⟨rfl,rfl,rfl,rfl,fun _=>rfl,fun _ _=>.inl rfl⟩,⟨⟨rfl,rfl,rfl,rfl,fun _=>rfl,fun _ _=>.inl rfl⟩,⟨⟨rfl,rfl,rfl,rfl,fun _=>rfl,fun _ _=>.inl rfl⟩,trivial⟩⟩⟩⟩,trivial⟩⟩,?_⟩
 rintro s0 m0 ⟨j,F0,hj,rfl,hmeas⟩
 have hj4 : j = 0 ∨ j = 1 ∨ j = 2 ∨ j = 3 := by omega
 rcases hj4 with rfl | rfl | rfl | rfl
 ·conv=>whnf
  (conv=>whnf); refine ⟨⟨(by omega),(by omega)⟩,?_⟩
  conv=>whnf
  (conv=>whnf); refine ⟨inK64 (by omega) (by omega),?_⟩
  conv=>whnf
  (conv=>whnf); refine ⟨inK64 (by omega) (by omega),?_⟩
  conv=>whnf
  (conv=>whnf); refine ⟨⟨(by omega),(by omega)⟩,?_⟩
  conv=>whnf
  (conv=>whnf); refine ⟨inK64 (by omega) (by omega),?_⟩
  conv=>whnf
  (conv=>whnf); refine ⟨inK64 (by omega) (by omega),?_⟩
  conv=>whnf
  (conv=>whnf); refine ⟨inK64 (by omega) (by omega),?_⟩
  conv=>whnf
  (conv=>whnf); refine ⟨⟨(by omega),(by omega)⟩,?_⟩
  conv=>whnf
  (conv=>whnf); refine ⟨inK64 (by omega) (by omega),?_⟩
  conv=>whnf
  (conv=>whnf); refine ⟨_,_,⟨⟨1,_,by omega,rfl,rfl⟩,by omega⟩,⟨⟨.inl rfl,rfl,rfl,rfl⟩,⟨⟨rfl,rfl,rfl,rfl,fun _=>rfl,fun _ _=>.inl rfl⟩,⟨⟨rfl,rfl,rfl,rfl,fun _=>rfl,fun _ _=>.inl rfl⟩,⟨⟨rfl,rfl,rfl,rfl,fun _=>rfl,fun _ _=>.inl rfl⟩,⟨⟨rfl,rfl,rfl,rfl,fun _=>rfl,fun _ _=>.inl rfl⟩,trivial⟩⟩⟩⟩,trivial⟩⟩
 ·conv=>whnf
  (conv=>whnf); refine ⟨⟨(by omega),(by omega)⟩,?_⟩
  conv=>whnf
  (conv=>whnf); refine ⟨inK64 (by omega) (by omega),?_⟩
  conv=>whnf
  (conv=>whnf); refine ⟨inK64 (by omega) (by omega),?_⟩
  conv=>whnf
  (conv=>whnf); refine ⟨⟨(by omega),(by omega)⟩,?_⟩
  conv=>whnf
  (conv=>whnf); refine ⟨inK64 (by omega) (by omega),?_⟩
  conv=>whnf
  (conv=>whnf); refine ⟨inK64 (by omega) (by omega),?_⟩
  conv=>whnf
  (conv=>whnf); refine ⟨inK64 (by omega) (by omega),?_⟩
  conv=>whnf
  (conv=>whnf); refine ⟨⟨(by omega),(by omega)⟩,?_⟩
  conv=>whnf
  (conv=>whnf); refine ⟨inK64 (by omega) (by omega),?_⟩
  conv=>whnf
  (conv=>whnf); refine ⟨_,_,⟨⟨2,_,by omega,rfl,rfl⟩,by omega⟩,⟨⟨.inl rfl,rfl,rfl,rfl⟩,⟨⟨rfl,rfl,rfl,rfl,fun _=>rfl,fun _ _=>.inl rfl⟩,⟨⟨rfl,rfl,rfl,rfl,fun _=>rfl,fun _ _=>.inl rfl⟩,⟨⟨rfl,rfl,rfl,rfl,fun _=>rfl,fun _ _=>.inl rfl⟩,⟨⟨rfl,rfl,rfl,rfl,fun _=>rfl,fun _ _=>.inl rfl⟩,trivial⟩⟩⟩⟩,trivial⟩⟩
 ·conv=>whnf
  (conv=>whnf); refine ⟨⟨(by omega),(by omega)⟩,?_⟩
  conv=>whnf
  (conv=>whnf); refine ⟨inK64 (by omega) (by omega),?_⟩
  conv=>whnf
  (conv=>whnf); refine ⟨inK64 (by omega) (by omega),?_⟩
  conv=>whnf
  (conv=>whnf); refine ⟨⟨(by omega),(by omega)⟩,?_⟩
  conv=>whnf
  (conv=>whnf); refine ⟨inK64 (by omega) (by omega),?_⟩
  conv=>whnf
  (conv=>whnf); refine ⟨inK64 (by omega) (by omega),?_⟩
  conv=>whnf
  (conv=>whnf); refine ⟨inK64 (by omega) (by omega),?_⟩
  conv=>whnf
  (conv=>whnf); refine ⟨⟨(by omega),(by omega)⟩,?_⟩
  conv=>whnf
  (conv=>whnf); refine ⟨inK64 (by omega) (by omega),?_⟩
  conv=>whnf
  (conv=>whnf); refine ⟨_,_,⟨⟨3,_,by omega,rfl,rfl⟩,by omega⟩,⟨⟨.inl rfl,rfl,rfl,rfl⟩,⟨⟨rfl,rfl,rfl,rfl,fun _=>rfl,fun _ _=>.inl rfl⟩,⟨⟨rfl,rfl,rfl,rfl,fun _=>rfl,fun _ _=>.inl rfl⟩,⟨⟨rfl,rfl,rfl,rfl,fun _=>rfl,fun _ _=>.inl rfl⟩,⟨⟨rfl,rfl,rfl,rfl,fun _=>rfl,fun _ _=>.inl rfl⟩,trivial⟩⟩⟩⟩,trivial⟩⟩
 ·have x1 : (crsX p q a b).1.natAbs ≤ 4000000000000000 := by unfold crsX; dsimp only; omega
  have x2 : (crsX p q a b).2.1.natAbs ≤ 4000000000000000 := by unfold crsX; dsimp only; omega
  have x3 : (crsX p q a b).2.2.natAbs ≤ 4000000000000000 := by unfold crsX; dsimp only; omega
  generalize crsX p q a b = X at *
  generalize p.2 * (a - b) = D at *
  by_cases hD : D < 0
  ·rw [if_pos hD]
   conv=>whnf
   (conv=>whnf); refine ifB_dec (fun w1=>?_) (fun w1=>?_)
   ·conv=>whnf
    (conv=>whnf); refine ⟨inK64 (by omega) (by omega),?_⟩
    conv=>whnf
    (conv=>whnf); refine ⟨[],[8,9,53,54],fun st mq=>∃ (j : Nat) (F0 : Nat → List AV) (F1 : Nat → List AV),(j ≤ 3) ∧ st = ⟨[(8,.optr 2 0 0 0),(9,.optr 3 0 0 0),(53,.agg [i64 X.1,i64 X.2.1,i64 X.2.2]),(54,i64 j)],⟨[⟨4,1,F0,0,false,true,false⟩,⟨4,1,F1,0,false,true,false⟩,⟨4,1,fun _=>[i64 0,i64 0,i64 0,i64 0],0,false,true,true⟩,⟨4,1,fun _=>crsM X (-D) j,0,false,true,true⟩],[],none,0⟩,[]⟩ ∧ mq = 3 - j,
     ⟨_,_,⟨0,_,_,by omega,rfl,rfl⟩,⟨⟨.inl rfl,rfl,rfl,rfl⟩,⟨⟨rfl,rfl,rfl,rfl,fun _=>rfl,fun _ _=>.inl rfl⟩,⟨⟨rfl,rfl,rfl,rfl,fun _=>rfl,fun _ _=>.inl rfl⟩,⟨⟨rfl,rfl,rfl,rfl,fun _=>rfl,fun _ _=>.inl rfl⟩,⟨⟨rfl,rfl,rfl,rfl,fun _=>rfl,fun _ _=>.inl rfl⟩,trivial⟩⟩⟩⟩,trivial⟩⟩,?_⟩
    rintro s0 m0 ⟨j,F0,F1,hj,rfl,hmeas⟩
    have hj4 : j = 0 ∨ j = 1 ∨ j = 2 ∨ j = 3 := by omega
    rcases hj4 with rfl | rfl | rfl | rfl
    ·conv=>whnf
     conv=>whnf
     (conv=>whnf); refine ⟨⟨(by omega),(by omega)⟩,?_⟩
     conv=>whnf
     conv=>whnf
     (conv=>whnf); refine ⟨inK64 (by omega) (by omega),?_⟩
     conv=>whnf
     conv=>whnf
     (conv=>whnf); refine ⟨⟨(by omega),(by omega)⟩,?_⟩
     conv=>whnf
     conv=>whnf
     (conv=>whnf); refine ⟨inK64 (by omega) (by omega),?_⟩
     conv=>whnf
     conv=>whnf
     (conv=>whnf); refine ⟨_,_,⟨⟨1,_,_,by omega,rfl,rfl⟩,by omega⟩,⟨⟨.inl rfl,rfl,rfl,rfl⟩,⟨⟨rfl,rfl,rfl,rfl,fun _=>rfl,fun _ _=>.inl rfl⟩,⟨⟨rfl,rfl,rfl,rfl,fun _=>rfl,fun _ _=>.inl rfl⟩,⟨⟨rfl,rfl,rfl,rfl,fun _=>rfl,fun _ _=>.inl rfl⟩,⟨⟨rfl,rfl,rfl,rfl,fun _=>rfl,fun _ _=>.inl rfl⟩,trivial⟩⟩⟩⟩,trivial⟩⟩
    ·conv=>whnf
     conv=>whnf
     (conv=>whnf); refine ⟨⟨(by omega),(by omega)⟩,?_⟩
     conv=>whnf
     conv=>whnf
     (conv=>whnf); refine ⟨inK64 (by omega) (by omega),?_⟩
     conv=>whnf
     conv=>whnf
     (conv=>whnf); refine ⟨⟨(by omega),(by omega)⟩,?_⟩
     conv=>whnf
     conv=>whnf
     (conv=>whnf); refine ⟨inK64 (by omega) (by omega),?_⟩
     conv=>whnf
     conv=>whnf
     (conv=>whnf); refine ⟨_,_,⟨⟨2,_,_,by omega,rfl,rfl⟩,by omega⟩,⟨⟨.inl rfl,rfl,rfl,rfl⟩,⟨⟨rfl,rfl,rfl,rfl,fun _=>rfl,fun _ _=>.inl rfl⟩,⟨⟨rfl,rfl,rfl,rfl,fun _=>rfl,fun _ _=>.inl rfl⟩,⟨⟨rfl,rfl,rfl,rfl,fun _=>rfl,fun _ _=>.inl rfl⟩,⟨⟨rfl,rfl,rfl,rfl,fun _=>rfl,fun _ _=>.inl rfl⟩,trivial⟩⟩⟩⟩,trivial⟩⟩
    ·conv=>whnf
     conv=>whnf
     (conv=>whnf); refine ⟨⟨(by omega),(by omega)⟩,?_⟩
     conv=>whnf
     conv=>whnf
     (conv=>whnf); refine ⟨inK64 (by omega) (by omega),?_⟩
     conv=>whnf
     conv=>whnf
     (conv=>whnf); refine ⟨⟨(by omega),(by omega)⟩,?_⟩
     conv=>whnf
     conv=>whnf
     (conv=>whnf); refine ⟨inK64 (by omega) (by omega),?_⟩
     conv=>whnf
     conv=>whnf
     (conv=>whnf); refine ⟨_,_,⟨⟨3,_,_,by omega,rfl,rfl⟩,by omega⟩,⟨⟨.inl rfl,rfl,rfl,rfl⟩,⟨⟨rfl,rfl,rfl,rfl,fun _=>rfl,fun _ _=>.inl rfl⟩,⟨⟨rfl,rfl,rfl,rfl,fun _=>rfl,fun _ _=>.inl rfl⟩,⟨⟨rfl,rfl,rfl,rfl,fun _=>rfl,fun _ _=>.inl rfl⟩,⟨⟨rfl,rfl,rfl,rfl,fun _=>rfl,fun _ _=>.inl rfl⟩,trivial⟩⟩⟩⟩,trivial⟩⟩
    ·conv=>whnf
     conv=>whnf
     (conv=>whnf); refine ⟨?_,nofun⟩
     exact ave_aggR (l := nmC ((-X.1,-X.2.1,-X.2.2),-D)) (by simp [AV.atom])
   ·(exfalso; omega)
  ·rw [if_neg hD]
   conv=>whnf
   (conv=>whnf); refine ifB_dec (fun w1=>?_) (fun w1=>?_)
   ·(exfalso; omega)
   ·conv=>whnf
    (conv=>whnf); refine ⟨?_,nofun⟩
    exact ave_aggR (l := nmC (X,D)) (by simp [AV.atom])
theorem onN_1 {L : List Nm} {l : Ln} {k : Nat} (h : sideN l (L.getD k n0) = 0) : onN L l (k + 1) = onN L l k ++ [L.getD k n0] := by
  rw [onN,if_pos h,if_neg (fun e=>by have := e.2; unfold crossB at this; omega)]; rfl
theorem onN_2 {L : List Nm} {l : Ln} {k : Nat} (h : ¬ sideN l (L.getD k n0) = 0) (h2 : k + 1 < L.length ∧ crossB (sideN l (L.getD k n0)) (sideN l (L.getD (k + 1) n0))) :
    onN L l (k + 1) = onN L l k ++ [crsN (L.getD k n0) (L.getD (k + 1) n0) (sideN l (L.getD k n0)) (sideN l (L.getD (k + 1) n0))] := by
  rw [onN,if_neg h,if_pos h2]; rfl
theorem onN_3 {L : List Nm} {l : Ln} {k : Nat} (h : ¬ sideN l (L.getD k n0) = 0) (h2 : ¬ (k + 1 < L.length ∧ crossB (sideN l (L.getD k n0)) (sideN l (L.getD (k + 1) n0)))) : onN L l (k + 1) = onN L l k := by
  rw [onN,if_neg h,if_neg h2]; simp
set_option maxHeartbeats 8000000 in
theorem S44 (L : List Nm) (l : Ln) (hL : CvOk L) (hl : LnOk l) : SP 44 [nms L, lnA l] (nms (onL L l)) false := by
 have hlen := hL.len
 refine sound (d := 2) tok2 mixed2 Tryz.func44 (by kernel_rfl) (by kernel_rfl) ?_
 (conv=>whnf); refine ⟨[.slot 5 4],[0,3,5,10,11,12],fun st mq=>∃ (k : Nat) (R : List Nm) (n : Nat),(k ≤ L.length) ∧ (R = onN L l k) ∧ (R.length = n) ∧ st = ⟨[(0,nms L),(3,.optr 0 0 0 0),(5,.oslice 1 0 0 n none),(10,nms L),(11,i64 L.length),(12,i64 k)],⟨[⟨4,1,fun _=>lnC l,0,false,true,true⟩,⟨4,n,fun i=>nmC (R.getD i n0),0,false,true,false⟩],[],none,0⟩,[]⟩ ∧ mq = L.length - k,
  ⟨_,_,⟨0,[],0,by omega,rfl,rfl,rfl,rfl⟩,⟨⟨.inl rfl,rfl,rfl,rfl⟩,⟨⟨rfl,rfl,rfl,rfl,fun _=>rfl,fun _ _=>.inl rfl⟩,⟨⟨rfl,rfl,rfl,rfl,fun _=>rfl,fun i h=>.inl (absurd h (Nat.not_lt_zero i))⟩,trivial⟩⟩,trivial⟩⟩,?_⟩
 rintro s0 m0 ⟨k,R,n,hk,hR,hn,rfl,hmeas⟩
 have hrl := onN_len L l k
 rw [← hR] at hrl
 by_cases hlt : k < L.length
 ·have b1 := hL.b _ (getD_memG (d := n0) hlt)
  have s1 := (side_b hl b1).2
  have c1 := S66 l _ hl b1
  by_cases hz : sideN l (L.getD k n0) = 0
  ·have eR := onN_1 hz
   rw [← hR] at eR
   by_cases hlt2 : k + 1 < L.length
   ·have b2 := hL.b _ (getD_memG (d := n0) hlt2)
    have c2 := S66 l _ hl b2
    rw [hz] at c1
    conv=>whnf
    (conv=>whnf); refine ifB_dec (fun w1=>?_) (fun w1=>?_)
    ·conv=>whnf
     (conv=>whnf); refine ⟨⟨(by omega),(by omega)⟩,?_⟩
     conv=>whnf
     (conv=>whnf); refine .inl ⟨_,_,byX rfl (Sound1.pl (c1) rfl),?_⟩
     conv=>whnf
     (conv=>whnf); refine .inl ?_
     conv=>whnf
     (conv=>whnf); refine ⟨(by show _ * (32 + 1) ≤ _; omega),?_⟩
     conv=>whnf
     (conv=>whnf); refine ⟨inK64 (by omega) (by omega),?_⟩
     conv=>whnf
     (conv=>whnf); refine ifB_dec (fun w2=>?_) (fun w2=>?_)
     ·conv=>whnf
      (conv=>whnf); refine ⟨[],by kernel_rfl,?_⟩
      conv=>whnf
      (conv=>whnf); refine ⟨inK64 (by omega) (by omega),?_⟩
      conv=>whnf
      (conv=>whnf); refine ⟨⟨(by omega),(by omega)⟩,?_⟩
      conv=>whnf
      (conv=>whnf); refine .inl ⟨_,_,byX rfl (Sound1.pl (c2) rfl),?_⟩
      conv=>whnf
      (conv=>whnf); refine ⟨inK64 (by omega) (by omega),?_⟩
      conv=>whnf
      (conv=>whnf); refine ⟨_,_,⟨⟨k + 1,R ++ [L.getD k n0],n + 1,by omega,eR.symm,(by simp [hn]),rfl,rfl⟩,by omega⟩,⟨⟨.inl rfl,rfl,rfl,rfl⟩,⟨⟨rfl,rfl,rfl,rfl,fun _=>rfl,fun _ _=>.inl rfl⟩,⟨⟨rfl,rfl,rfl,rfl,fun _=>rfl,fun j hj=>.inl (appG nmC (fun _=>rfl) n0 R _ n j hn hj)⟩,trivial⟩⟩,trivial⟩⟩
     ·(exfalso; omega)
    ·(exfalso; omega)
   ·rw [hz] at c1
    conv=>whnf
    (conv=>whnf); refine ifB_dec (fun w1=>?_) (fun w1=>?_)
    ·conv=>whnf
     (conv=>whnf); refine ⟨⟨(by omega),(by omega)⟩,?_⟩
     conv=>whnf
     (conv=>whnf); refine .inl ⟨_,_,byX rfl (Sound1.pl (c1) rfl),?_⟩
     conv=>whnf
     (conv=>whnf); refine .inl ?_
     conv=>whnf
     (conv=>whnf); refine ⟨(by show _ * (32 + 1) ≤ _; omega),?_⟩
     conv=>whnf
     (conv=>whnf); refine ⟨inK64 (by omega) (by omega),?_⟩
     conv=>whnf
     (conv=>whnf); refine ifB_dec (fun w2=>?_) (fun w2=>?_)
     ·(exfalso; omega)
     ·conv=>whnf
      (conv=>whnf); refine ⟨inK64 (by omega) (by omega),?_⟩
      conv=>whnf
      (conv=>whnf); refine ⟨_,_,⟨⟨k + 1,R ++ [L.getD k n0],n + 1,by omega,eR.symm,(by simp [hn]),rfl,rfl⟩,by omega⟩,⟨⟨.inl rfl,rfl,rfl,rfl⟩,⟨⟨rfl,rfl,rfl,rfl,fun _=>rfl,fun _ _=>.inl rfl⟩,⟨⟨rfl,rfl,rfl,rfl,fun _=>rfl,fun j hj=>.inl (appG nmC (fun _=>rfl) n0 R _ n j hn hj)⟩,trivial⟩⟩,trivial⟩⟩
    ·(exfalso; omega)
  ·by_cases hlt2 : k + 1 < L.length
   ·have b2 := hL.b _ (getD_memG (d := n0) hlt2)
    have s2 := (side_b hl b2).2
    have c2 := S66 l _ hl b2
    have c3 := S67 _ _ (sideN l (L.getD k n0)) (sideN l (L.getD (k + 1) n0)) b1 b2 s1 s2
    by_cases hc : crossB (sideN l (L.getD k n0)) (sideN l (L.getD (k + 1) n0))
    ·have eR := onN_2 hz ⟨hlt2, hc⟩
     rw [← hR] at eR
     unfold crossB at hc
     generalize sideN l (L.getD k n0) = A at *
     generalize sideN l (L.getD (k + 1) n0) = B at *
     rcases hc with hc | hc
     ·conv => whnf
      (conv=>whnf); refine ifB_dec (fun w1=>?_) (fun w1=>?_)
      ·conv=>whnf
       (conv=>whnf); refine ⟨⟨(by omega),(by omega)⟩,?_⟩
       conv=>whnf
       (conv=>whnf); refine .inl ⟨_,_,byX rfl (Sound1.pl (c1) rfl),?_⟩
       conv=>whnf
       (conv=>whnf); refine ifB_beq (fun w2=>?_) (fun w2=>?_)
       ·(exfalso; omega)
       ·conv=>whnf
        (conv=>whnf); refine ⟨inK64 (by omega) (by omega),?_⟩
        conv=>whnf
        (conv=>whnf); refine ifB_dec (fun w3=>?_) (fun w3=>?_)
        ·conv=>whnf
         (conv=>whnf); refine ⟨[],by kernel_rfl,?_⟩
         conv=>whnf
         (conv=>whnf); refine ⟨inK64 (by omega) (by omega),?_⟩
         conv=>whnf
         (conv=>whnf); refine ⟨⟨(by omega),(by omega)⟩,?_⟩
         conv=>whnf
         (conv=>whnf); refine .inl ⟨_,_,byX rfl (Sound1.pl (c2) rfl),?_⟩
         conv=>whnf
         (conv=>whnf); refine ifB_dec (fun w4=>?_) (fun w4=>?_)
         ·conv=>whnf
          (conv=>whnf); refine ifB_dec (fun w5=>?_) (fun w5=>?_)
          ·conv=>whnf
           (conv=>whnf); refine ⟨[],by kernel_rfl,?_⟩
           conv=>whnf
           (conv=>whnf); refine ⟨inK64 (by omega) (by omega),?_⟩
           conv=>whnf
           (conv=>whnf); refine ⟨⟨(by omega),(by omega)⟩,?_⟩
           conv=>whnf
           (conv=>whnf); refine .inl ⟨_,_,byX rfl (Sound1.pl (c3) rfl),?_⟩
           conv=>whnf
           (conv=>whnf); refine .inl ?_
           conv=>whnf
           (conv=>whnf); refine ⟨(by show _ * (32 + 1) ≤ _; omega),?_⟩
           conv=>whnf
           (conv=>whnf); refine ⟨inK64 (by omega) (by omega),?_⟩
           conv=>whnf
           (conv=>whnf); refine ⟨_,_,⟨⟨k + 1,R ++ [crsN (L.getD k n0) (L.getD (k + 1) n0) A B],n + 1,by omega,eR.symm,(by simp [hn]),rfl,rfl⟩,by omega⟩,⟨⟨.inl rfl,rfl,rfl,rfl⟩,⟨⟨rfl,rfl,rfl,rfl,fun _=>rfl,fun _ _=>.inl rfl⟩,⟨⟨rfl,rfl,rfl,rfl,fun _=>rfl,fun j hj=>.inl (appG nmC (fun _=>rfl) n0 R _ n j hn hj)⟩,trivial⟩⟩,trivial⟩⟩
          ·(exfalso; omega)
         ·(exfalso; omega)
        ·(exfalso; omega)
      ·(exfalso; omega)
     ·conv => whnf
      (conv=>whnf); refine ifB_dec (fun w1=>?_) (fun w1=>?_)
      ·conv => whnf
       (conv=>whnf); refine ⟨⟨(by omega),(by omega)⟩,?_⟩
       conv=>whnf
       (conv=>whnf); refine .inl ⟨_,_,byX rfl (Sound1.pl (c1) rfl),?_⟩
       conv=>whnf
       (conv=>whnf); refine ifB_beq (fun w2=>?_) (fun w2=>?_)
       ·(exfalso; omega)
       ·conv=>whnf
        (conv=>whnf); refine ⟨inK64 (by omega) (by omega),?_⟩
        conv=>whnf
        (conv=>whnf); refine ifB_dec (fun w3=>?_) (fun w3=>?_)
        ·conv=>whnf
         (conv=>whnf); refine ⟨[],by kernel_rfl,?_⟩
         conv=>whnf
         (conv=>whnf); refine ⟨inK64 (by omega) (by omega),?_⟩
         conv=>whnf
         (conv=>whnf); refine ⟨⟨(by omega),(by omega)⟩,?_⟩
         conv=>whnf
         (conv=>whnf); refine .inl ⟨_,_,byX rfl (Sound1.pl (c2) rfl),?_⟩
         conv=>whnf
         (conv=>whnf); refine ifB_dec (fun w4=>?_) (fun w4=>?_)
         ·(exfalso; omega)
         ·conv=>whnf
          (conv=>whnf); refine ifB_dec (fun w5=>?_) (fun w5=>?_)
          ·conv=>whnf
           (conv=>whnf); refine ifB_dec (fun w6=>?_) (fun w6=>?_)
           ·conv=>whnf
            (conv=>whnf); refine ⟨[],by kernel_rfl,?_⟩
            conv=>whnf
            (conv=>whnf); refine ⟨inK64 (by omega) (by omega),?_⟩
            conv=>whnf
            (conv=>whnf); refine ⟨⟨(by omega),(by omega)⟩,?_⟩
            conv=>whnf
            (conv=>whnf); refine .inl ⟨_,_,byX rfl (Sound1.pl (c3) rfl),?_⟩
            conv=>whnf
            (conv=>whnf); refine .inl ?_
            conv=>whnf
            (conv=>whnf); refine ⟨(by show _ * (32 + 1) ≤ _; omega),?_⟩
            conv=>whnf
            (conv=>whnf); refine ⟨inK64 (by omega) (by omega),?_⟩
            conv=>whnf
            (conv=>whnf); refine ⟨_,_,⟨⟨k + 1,R ++ [crsN (L.getD k n0) (L.getD (k + 1) n0) A B],n + 1,by omega,eR.symm,(by simp [hn]),rfl,rfl⟩,by omega⟩,⟨⟨.inl rfl,rfl,rfl,rfl⟩,⟨⟨rfl,rfl,rfl,rfl,fun _=>rfl,fun _ _=>.inl rfl⟩,⟨⟨rfl,rfl,rfl,rfl,fun _=>rfl,fun j hj=>.inl (appG nmC (fun _=>rfl) n0 R _ n j hn hj)⟩,trivial⟩⟩,trivial⟩⟩
           ·(exfalso; omega)
          ·(exfalso; omega)
        ·(exfalso; omega)
      ·(exfalso; omega)
    ·have eR := onN_3 hz (fun e => hc e.2)
     rw [← hR] at eR
     unfold crossB at hc
     generalize sideN l (L.getD k n0) = A at *
     generalize sideN l (L.getD (k + 1) n0) = B at *
     conv=>whnf
     (conv=>whnf); refine ifB_dec (fun w1=>?_) (fun w1=>?_)
     ·conv => whnf
      (conv=>whnf); refine ⟨⟨(by omega),(by omega)⟩,?_⟩
      conv=>whnf
      (conv=>whnf); refine .inl ⟨_,_,byX rfl (Sound1.pl (c1) rfl),?_⟩
      conv=>whnf
      (conv=>whnf); refine ifB_beq (fun w2=>?_) (fun w2=>?_)
      ·(exfalso; omega)
      ·conv=>whnf
       (conv=>whnf); refine ⟨inK64 (by omega) (by omega),?_⟩
       conv=>whnf
       (conv=>whnf); refine ifB_dec (fun w3=>?_) (fun w3=>?_)
       ·conv=>whnf
        (conv=>whnf); refine ⟨[],by kernel_rfl,?_⟩
        conv=>whnf
        (conv=>whnf); refine ⟨inK64 (by omega) (by omega),?_⟩
        conv=>whnf
        (conv=>whnf); refine ⟨⟨(by omega),(by omega)⟩,?_⟩
        conv=>whnf
        (conv=>whnf); refine .inl ⟨_,_,byX rfl (Sound1.pl (c2) rfl),?_⟩
        conv=>whnf
        (conv=>whnf); refine ifB_dec (fun w4=>?_) (fun w4=>?_)
        ·conv=>whnf
         (conv=>whnf); refine ifB_dec (fun w5=>?_) (fun w5=>?_)
         ·(exfalso; omega)
         ·conv=>whnf
          (conv=>whnf); refine ifB_dec (fun w6=>?_) (fun w6=>?_)
          ·(exfalso; omega)
          ·conv=>whnf
           (conv=>whnf); refine ⟨inK64 (by omega) (by omega),?_⟩
           conv=>whnf
           (conv=>whnf); refine ⟨_,_,⟨⟨k + 1,R,n,by omega,eR.symm,hn,rfl,rfl⟩,by omega⟩,⟨⟨.inl rfl,rfl,rfl,rfl⟩,⟨⟨rfl,rfl,rfl,rfl,fun _=>rfl,fun _ _=>.inl rfl⟩,⟨⟨rfl,rfl,rfl,rfl,fun _=>rfl,fun _ _=>.inl rfl⟩,trivial⟩⟩,trivial⟩⟩
        ·conv=>whnf
         (conv=>whnf); refine ifB_dec (fun w5=>?_) (fun w5=>?_)
         ·conv=>whnf
          (conv=>whnf); refine ifB_dec (fun w6=>?_) (fun w6=>?_)
          ·(exfalso; omega)
          ·conv=>whnf
           (conv=>whnf); refine ⟨inK64 (by omega) (by omega),?_⟩
           conv=>whnf
           (conv=>whnf); refine ⟨_,_,⟨⟨k + 1,R,n,by omega,eR.symm,hn,rfl,rfl⟩,by omega⟩,⟨⟨.inl rfl,rfl,rfl,rfl⟩,⟨⟨rfl,rfl,rfl,rfl,fun _=>rfl,fun _ _=>.inl rfl⟩,⟨⟨rfl,rfl,rfl,rfl,fun _=>rfl,fun _ _=>.inl rfl⟩,trivial⟩⟩,trivial⟩⟩
         ·(exfalso; omega)
       ·(exfalso; omega)
     ·(exfalso; omega)
   ·have eR := onN_3 hz (fun e=>hlt2 e.1)
    rw [← hR] at eR
    conv=>whnf
    (conv=>whnf); refine ifB_dec (fun w1=>?_) (fun w1=>?_)
    ·conv=>whnf
     (conv=>whnf); refine ⟨⟨(by omega),(by omega)⟩,?_⟩
     conv=>whnf
     (conv=>whnf); refine .inl ⟨_,_,byX rfl (Sound1.pl (c1) rfl),?_⟩
     conv=>whnf
     (conv=>whnf); refine ifB_beq (fun w2=>?_) (fun w2=>?_)
     ·(exfalso; omega)
     ·conv=>whnf
      (conv=>whnf); refine ⟨inK64 (by omega) (by omega),?_⟩
      conv=>whnf
      (conv=>whnf); refine ifB_dec (fun w3=>?_) (fun w3=>?_)
      ·(exfalso; omega)
      ·conv=>whnf
       (conv=>whnf); refine ⟨inK64 (by omega) (by omega),?_⟩
       conv=>whnf
       (conv=>whnf); refine ⟨_,_,⟨⟨k + 1,R,n,by omega,eR.symm,hn,rfl,rfl⟩,by omega⟩,⟨⟨.inl rfl,rfl,rfl,rfl⟩,⟨⟨rfl,rfl,rfl,rfl,fun _=>rfl,fun _ _=>.inl rfl⟩,⟨⟨rfl,rfl,rfl,rfl,fun _=>rfl,fun _ _=>.inl rfl⟩,trivial⟩⟩,trivial⟩⟩
    ·(exfalso; omega)
 ·obtain rfl : k = L.length := by omega
  have hR : R = onL L l := hR
  rw [← hR]
  conv=>whnf
  (conv=>whnf); refine ifB_dec (fun w1=>?_) (fun w1=>?_)
  ·(exfalso; omega)
  ·conv=>whnf
   (conv=>whnf); refine ⟨?_,nofun⟩
   exact ⟨rfl,hn.symm,fun _ _=>rfl⟩
def f30 : F3 := ((0,0),(0,0),(0,0))
def spJ (q : Q3) (j : Nat) : F3 := (if 0 < j then frI q.1 else (0,0),if 1 < j then frI q.2.1 else (0,0),if 2 < j then frI q.2.2 else (0,0))
theorem ave_spE {k : Nat} {s : F3} {e : Int} : AVE (k + 3) (.tuple [spA s,i64 e]) (.tuple [spA s,i64 e]) := ave_ok2 (by simp [AV.atom]) trivial
theorem S58 (n : Nm) (h : NmB 176000000000 n) : SP 58 [.agg (nmC n)] (.tuple [spA (if sm3 (nmQ n) then fr3 (nmQ n) else f30),i64 (if sm3 (nmQ n) then 0 else 8)]) false := by
 obtain ⟨d1,p1,p2,p3⟩ := h
 have c1 := S46p n.1.1 n.2 (by omega) (by omega)
 have c2 := S46p n.1.2.1 n.2 (by omega) (by omega)
 have c3 := S46p n.1.2.2 n.2 (by omega) (by omega)
 change SP 46 _ (.tuple [gaF (okR (nmQ n).1),i64 (if smR (nmQ n).1 then 0 else 8)]) false at c1
 change SP 46 _ (.tuple [gaF (okR (nmQ n).2.1),i64 (if smR (nmQ n).2.1 then 0 else 8)]) false at c2
 change SP 46 _ (.tuple [gaF (okR (nmQ n).2.2),i64 (if smR (nmQ n).2.2 then 0 else 8)]) false at c3
 generalize nmQ n = q at *
 unfold okR at c1 c2 c3
 refine sound (d := 2) tok2 mixed2 Tryz.func58 (by kernel_rfl) (by kernel_rfl) ?_
 (conv=>whnf); refine ⟨[],[1,2,4,10,11],fun st mq=>∃ (j : Nat),(j ≤ 3) ∧ (0 < j → smR q.1) ∧ (1 < j → smR q.2.1) ∧ (2 < j → smR q.2.2) ∧ st = ⟨[(1,.optr 0 0 0 0),(2,.optr 1 0 0 0),(4,.optr 2 0 0 0),(10,.agg [i64 n.1.1,i64 n.1.2.1,i64 n.1.2.2]),(11,i64 j)],⟨[⟨4,1,fun _=>nmC n,0,false,true,true⟩,⟨6,1,fun _=>spC f30,0,false,true,true⟩,⟨6,1,fun _=>spC (spJ q j),0,false,true,true⟩],[],none,0⟩,[]⟩ ∧ mq = 3 - j,
  ⟨_,_,⟨0,by omega,nofun,nofun,nofun,rfl,rfl⟩,⟨⟨.inl rfl,rfl,rfl,rfl⟩,⟨⟨rfl,rfl,rfl,rfl,fun _=>rfl,fun _ _=>.inl rfl⟩,⟨⟨rfl,rfl,rfl,rfl,fun _=>rfl,fun _ _=>.inl rfl⟩,⟨⟨rfl,rfl,rfl,rfl,fun _=>rfl,fun _ _=>.inl rfl⟩,trivial⟩⟩⟩,trivial⟩⟩,?_⟩
 rintro s0 m0 ⟨j,hj,h0,h1,h2,rfl,hmeas⟩
 have hj4 : j = 0 ∨ j = 1 ∨ j = 2 ∨ j = 3 := by omega
 rcases hj4 with rfl | rfl | rfl | rfl
 ·by_cases g : smR q.1
  ·rw [if_pos g,if_pos g] at c1
   conv=>whnf
   (conv=>whnf); refine ⟨⟨(by omega),(by omega)⟩,?_⟩
   conv=>whnf
   (conv=>whnf); refine .inl ⟨_,_,byX rfl (Sound1.pl (c1) rfl),?_⟩
   conv=>whnf
   (conv=>whnf); refine ⟨⟨(by omega),(by omega)⟩,?_⟩
   conv=>whnf
   (conv=>whnf); refine ⟨inK64 (by omega) (by omega),?_⟩
   conv=>whnf
   (conv=>whnf); refine ⟨_,_,⟨⟨1,by omega,(fun _=>g),(fun h=>absurd h (by decide)),(fun h=>absurd h (by decide)),rfl,rfl⟩,by omega⟩,⟨⟨.inl rfl,rfl,rfl,rfl⟩,⟨⟨rfl,rfl,rfl,rfl,fun _=>rfl,fun _ _=>.inl rfl⟩,⟨⟨rfl,rfl,rfl,rfl,fun _=>rfl,fun _ _=>.inl rfl⟩,⟨⟨rfl,rfl,rfl,rfl,fun _=>rfl,fun _ _=>.inl rfl⟩,trivial⟩⟩⟩,trivial⟩⟩
  ·rw [if_neg g,if_neg g] at c1
   have hn : ¬ sm3 q := fun e=>g e.1
   rw [if_neg hn,if_neg hn]
   conv=>whnf
   (conv=>whnf); refine ⟨⟨(by omega),(by omega)⟩,?_⟩
   conv=>whnf
   (conv=>whnf); refine .inl ⟨_,_,byX rfl (Sound1.pl (c1) rfl),?_⟩
   conv=>whnf
   (conv=>whnf); refine ⟨?_,nofun⟩
   (first | contradiction | omega | exact ave_spE (s := f30))
 ·by_cases g : smR q.2.1
  ·rw [if_pos g,if_pos g] at c2
   conv=>whnf
   (conv=>whnf); refine ⟨⟨(by omega),(by omega)⟩,?_⟩
   conv=>whnf
   (conv=>whnf); refine .inl ⟨_,_,byX rfl (Sound1.pl (c2) rfl),?_⟩
   conv=>whnf
   (conv=>whnf); refine ⟨⟨(by omega),(by omega)⟩,?_⟩
   conv=>whnf
   (conv=>whnf); refine ⟨inK64 (by omega) (by omega),?_⟩
   conv=>whnf
   (conv=>whnf); refine ⟨_,_,⟨⟨2,by omega,(fun _=>h0 (by decide)),(fun _=>g),(fun h=>absurd h (by decide)),rfl,rfl⟩,by omega⟩,⟨⟨.inl rfl,rfl,rfl,rfl⟩,⟨⟨rfl,rfl,rfl,rfl,fun _=>rfl,fun _ _=>.inl rfl⟩,⟨⟨rfl,rfl,rfl,rfl,fun _=>rfl,fun _ _=>.inl rfl⟩,⟨⟨rfl,rfl,rfl,rfl,fun _=>rfl,fun _ _=>.inl rfl⟩,trivial⟩⟩⟩,trivial⟩⟩
  ·rw [if_neg g,if_neg g] at c2
   have hn : ¬ sm3 q := fun e=>g e.2.1
   rw [if_neg hn,if_neg hn]
   conv=>whnf
   (conv=>whnf); refine ⟨⟨(by omega),(by omega)⟩,?_⟩
   conv=>whnf
   (conv=>whnf); refine .inl ⟨_,_,byX rfl (Sound1.pl (c2) rfl),?_⟩
   conv=>whnf
   (conv=>whnf); refine ⟨?_,nofun⟩
   (first | contradiction | omega | exact ave_spE (s := f30))
 ·by_cases g : smR q.2.2
  ·rw [if_pos g,if_pos g] at c3
   conv=>whnf
   (conv=>whnf); refine ⟨⟨(by omega),(by omega)⟩,?_⟩
   conv=>whnf
   (conv=>whnf); refine .inl ⟨_,_,byX rfl (Sound1.pl (c3) rfl),?_⟩
   conv=>whnf
   (conv=>whnf); refine ⟨⟨(by omega),(by omega)⟩,?_⟩
   conv=>whnf
   (conv=>whnf); refine ⟨inK64 (by omega) (by omega),?_⟩
   conv=>whnf
   (conv=>whnf); refine ⟨_,_,⟨⟨3,by omega,(fun _=>h0 (by decide)),(fun _=>h1 (by decide)),(fun _=>g),rfl,rfl⟩,by omega⟩,⟨⟨.inl rfl,rfl,rfl,rfl⟩,⟨⟨rfl,rfl,rfl,rfl,fun _=>rfl,fun _ _=>.inl rfl⟩,⟨⟨rfl,rfl,rfl,rfl,fun _=>rfl,fun _ _=>.inl rfl⟩,⟨⟨rfl,rfl,rfl,rfl,fun _=>rfl,fun _ _=>.inl rfl⟩,trivial⟩⟩⟩,trivial⟩⟩
  ·rw [if_neg g,if_neg g] at c3
   have hn : ¬ sm3 q := fun e=>g e.2.2
   rw [if_neg hn,if_neg hn]
   conv=>whnf
   (conv=>whnf); refine ⟨⟨(by omega),(by omega)⟩,?_⟩
   conv=>whnf
   (conv=>whnf); refine .inl ⟨_,_,byX rfl (Sound1.pl (c3) rfl),?_⟩
   conv=>whnf
   (conv=>whnf); refine ⟨?_,nofun⟩
   (first | contradiction | omega | exact ave_spE (s := f30))
 ·have hs : sm3 q := ⟨h0 (by decide),h1 (by decide),h2 (by decide)⟩
  rw [if_pos hs,if_pos hs]
  conv=>whnf
  (conv=>whnf); refine ⟨⟨(by omega),(by omega)⟩,?_⟩
  conv=>whnf
  (conv=>whnf); refine ⟨⟨(by omega),(by omega)⟩,?_⟩
  conv=>whnf
  (conv=>whnf); refine ⟨⟨(by omega),(by omega)⟩,?_⟩
  conv=>whnf
  (conv=>whnf); refine ⟨?_,nofun⟩
  (first | contradiction | omega | exact ave_spE (s := fr3 q))
theorem extG {α : Type} (g : α → List AV) {m : Nat} (hg : ∀ a,(g a).length = m) (f : Nat → α) (k i : Nat) (hi : i < k + 1) : g (f i) = if i < k then g (f (0 + i)) else List.take m (List.drop ((i - k) * m) (g (f k))) := by
 by_cases h : i < k
 ·rw [if_pos h,Nat.zero_add]
 ·obtain rfl : i = k := by omega
  rw [if_neg h,Nat.sub_self,Nat.zero_mul,List.drop_zero,List.take_of_length_le (by rw [hg]; exact Nat.le_refl _)]
theorem sp_val {s : F3} {x : AV} (hx : x ∈ spC s) : ∃ v,x = .val v := by
  simp only [List.mem_cons,List.not_mem_nil,or_false] at hx
  rcases hx with h | h | h | h | h | h <;> exact ⟨_,h⟩
def sps (L : List Q3) : AV := .rslice 6 L.length fun i=>spC (fr3 (L.getD i q0))
theorem S39 (L : List Nm) (hn : L.length ≤ 1000) (hL : ∀ n ∈ L,NmB 176000000000 n) : SP 39 [nms L] (.tuple [sps (smL (L.map nmQ)),i64 (smE (L.map nmQ))]) true := by
 refine sound (d := 2) tok2 mixed2 Tryz.func39 (by kernel_rfl) (by kernel_rfl) ?_
 (conv=>whnf); refine ⟨[.slot 4 6],[4,9,10,11],fun st mq=>∃ (k : Nat),(k ≤ L.length) ∧ (∀ j,j < k → sm3 ((L.map nmQ).getD j q0)) ∧ st = ⟨[(4,.oslice 0 0 0 k none),(9,nms L),(10,i64 L.length),(11,i64 k)],⟨[⟨6,k,fun i=>spC (fr3 ((L.map nmQ).getD i q0)),0,false,true,false⟩],[],none,0⟩,[]⟩ ∧ mq = L.length - k,
  ⟨_,_,⟨0,by omega,fun j h=>absurd h (Nat.not_lt_zero j),rfl,rfl⟩,⟨⟨.inl rfl,rfl,rfl,rfl⟩,⟨⟨rfl,rfl,rfl,rfl,fun _=>rfl,fun i h=>.inl (absurd h (Nat.not_lt_zero i))⟩,trivial⟩,trivial⟩⟩,?_⟩
 rintro s0 m0 ⟨k,hk,hs,rfl,hmeas⟩
 by_cases hlt : k < L.length
 ·have c1 := S58 _ (hL _ (getD_memG (d := n0) hlt))
  rw [← getD_mapG nmQ L k n0 q0 hlt] at c1
  by_cases g : sm3 ((L.map nmQ).getD k q0)
  ·rw [if_pos g,if_pos g] at c1
   conv=>whnf
   (conv=>whnf); refine ifB_dec (fun w1=>?_) (fun w1=>?_)
   ·conv=>whnf
    (conv=>whnf); refine ⟨⟨(by omega),(by omega)⟩,?_⟩
    conv=>whnf
    (conv=>whnf); refine .inl ⟨_,_,byX rfl (Sound1.pl (c1) rfl),?_⟩
    conv=>whnf
    (conv=>whnf); refine .inl ?_
    conv=>whnf
    (conv=>whnf); refine ⟨(by show _ * (48 + 1) ≤ _; omega),?_⟩
    conv=>whnf
    (conv=>whnf); refine ⟨inK64 (by omega) (by omega),?_⟩
    conv=>whnf
    (conv=>whnf); refine ⟨_,_,⟨⟨k + 1,by omega,(fun j hj=>by by_cases e : j = k; (rw [e]; exact g); exact hs j (by omega)),rfl,rfl⟩,by omega⟩,⟨⟨.inl rfl,rfl,rfl,rfl⟩,⟨⟨rfl,rfl,rfl,rfl,fun _=>rfl,fun i hi=>.inl (extG (fun q=>spC (fr3 q)) (m := 6) (fun _=>rfl) (fun i=>(L.map nmQ).getD i q0) k i hi)⟩,trivial⟩,trivial⟩⟩
   ·(exfalso; omega)
  ·rw [if_neg g,if_neg g] at c1
   have ha := allS_no (L := L.map nmQ) (by rw [List.length_map]; exact hlt) g
   unfold smL smE
   rw [ha]
   conv=>whnf
   (conv=>whnf); refine ifB_dec (fun w1=>?_) (fun w1=>?_)
   ·conv=>whnf
    (conv=>whnf); refine ⟨⟨(by omega),(by omega)⟩,?_⟩
    conv=>whnf
    (conv=>whnf); refine .inl ⟨_,_,byX rfl (Sound1.pl (c1) rfl),?_⟩
    conv=>whnf
    (conv=>whnf); refine ⟨?_,fun _=>⟨rfl,?_⟩⟩
    ·exact ave_tup2 rfl rfl
    ·exact ⟨fun i _ x hx=>sp_val hx,trivial⟩
   ·(exfalso; omega)
 ·obtain rfl : k = L.length := by omega
  have ha := allS_yes (L := L.map nmQ) (by rw [List.length_map]; exact hs)
  unfold smL smE
  rw [ha]
  conv=>whnf
  (conv=>whnf); refine ifB_dec (fun w1=>?_) (fun w1=>?_)
  ·(exfalso; omega)
  ·conv=>whnf
   (conv=>whnf); refine ⟨?_,fun _=>⟨rfl,?_⟩⟩
   ·exact ave_tup2 ⟨rfl,(List.length_map ..).symm,fun _ _=>rfl⟩ rfl
   ·exact ⟨fun i _ x hx=>sp_val hx,trivial⟩
end Go.Tr

/- Contracts of chapter 5: errors of openings; the curve as spots. Conditions: none. -/
-- seat YtpojlhnhokbhkaaGreat
namespace Go.Tr
open Go Go.Proofs
set_option maxRecDepth 20000
set_option maxHeartbeats 8000000

def opE (t : List MRow) (f : Int × Int) : Int :=
  if lowF f then (if f.2 ≤ 10 then (if (t.getD 0 r0).o * f.2 ≤ f.1 ∧ f.1 ≤ (t.getD (t.length - 1) r0).o * f.2 then 0 else 2) else 2) else 3
theorem opE_ok {t : List MRow} {f : Int × Int} (h : opE t f = 0) : lowF f ∧ OpOk t f := by
 unfold opE at h
 by_cases h1 : lowF f
 ·rw [if_pos h1] at h
  by_cases h2 : f.2 ≤ 10
  ·rw [if_pos h2] at h
   by_cases h3 : (t.getD 0 r0).o * f.2 ≤ f.1 ∧ f.1 ≤ (t.getD (t.length - 1) r0).o * f.2
   ·exact ⟨h1,⟨h1.1,h2⟩,h3.1,h3.2⟩
   ·rw [if_neg h3] at h; exact absurd h (by decide)
  ·rw [if_neg h2] at h; exact absurd h (by decide)
 ·rw [if_neg h1] at h; exact absurd h (by decide)
theorem op_mul {t : List MRow} (hT : TblOk t) {f : Int × Int} (h1 : 0 < f.2) (h2 : f.2 ≤ 10) (j : Nat) (hj : j < t.length) : ((t.getD j r0).o * f.2).natAbs ≤ 100 * 10 :=
  absM (by have := hT.op j hj; omega) (by omega)
theorem S56 (t : List MRow) (hT : TblOk t) (f : Int × Int) (hf : FrI f) : SP 56 [tblA t,gaF f] (i64 (opE t f)) false := by
 have h165 := S76 f hf
 have hn := hT.n
 unfold opE
 by_cases h1 : lowF f
 ·rw [decide_eq_true h1] at h165
  rw [if_pos h1]
  by_cases h2 : f.2 ≤ 10
  ·rw [if_pos h2]
   have m0 := op_mul hT h1.1 h2 0 (by omega)
   have m1 := op_mul hT h1.1 h2 (t.length - 1) (by omega)
   have e1 : ((t.length : Int) - 1).toNat = t.length - 1 := by omega
   have r0' : inK .i64 ((t.getD 0 r0).o * f.2) := inK_of (by omega)
   have r1' : inK .i64 ((t.getD ((t.length : Int) - 1).toNat r0).o * f.2) := inK_of (by rw [e1]; omega)
   have h75 := S30 f.1 ((t.getD 0 r0).o * f.2) ((t.getD ((t.length : Int) - 1).toNat r0).o * f.2)
   have h78 := S33 (win f.1 ((t.getD 0 r0).o * f.2) ((t.getD ((t.length : Int) - 1).toNat r0).o * f.2)) 2
   refine sound (d := 2) tok2 mixed2 Tryz.func56 (by kernel_rfl) (by kernel_rfl) ?_
   (conv=>whnf); refine .inl ⟨_,_,byX rfl (Sound1.pl (h165) rfl),?_⟩
   (conv=>whnf); refine ifB_dec (fun w1=>?_) (fun w1=>?_)
   ·(exfalso; omega)
   ·(conv=>whnf); refine ⟨[],by kernel_rfl,?_⟩
    (conv=>whnf); refine ⟨⟨(by omega),(by omega)⟩,?_⟩
    (conv=>whnf); refine ⟨by assumption,?_⟩
    (conv=>whnf); refine ⟨inK64 (by omega) (by omega),?_⟩
    (conv=>whnf); refine ⟨⟨(by omega),(by omega)⟩,?_⟩
    (conv=>whnf); refine ⟨by assumption,?_⟩
    (conv=>whnf); refine .inl ⟨_,_,byX rfl (Sound1.pl (h75) rfl),?_⟩
    (conv=>whnf); refine .inl ⟨_,_,byX rfl (Sound1.pl (h78) rfl),?_⟩
    (conv=>whnf); refine ⟨?_,nofun⟩
    exact endi (by rw [ifw,e1])
  ·rw [if_neg h2]
   refine sound (d := 2) tok2 mixed2 Tryz.func56 (by kernel_rfl) (by kernel_rfl) ?_
   (conv=>whnf); refine .inl ⟨_,_,byX rfl (Sound1.pl (h165) rfl),?_⟩
   (conv=>whnf); refine ifB_dec (fun w1=>?_) (fun w1=>?_)
   ·(conv=>whnf); refine ⟨?_,nofun⟩
    (first | contradiction | omega | rfl)
   ·(exfalso; omega)
 ·rw [decide_eq_false h1] at h165
  rw [if_neg h1]
  refine sound (d := 2) tok2 mixed2 Tryz.func56 (by kernel_rfl) (by kernel_rfl) ?_
  (conv=>whnf); refine .inl ⟨_,_,byX rfl (Sound1.pl (h165) rfl),?_⟩
  (conv=>whnf); refine ⟨?_,nofun⟩
  (first | contradiction | omega | rfl)
theorem sg_lt (z : Int) : sgI z < 0 ↔ z < 0 := by have := sg_cases z; omega
theorem sg_gt (z : Int) : sgI z > 0 ↔ z > 0 := by have := sg_cases z; omega
theorem S7 (t : List MRow) (hT : TblOk t) (f : Int × Int) (hf : FrI f) : SP 7 [tblA t,gaF f] (i64 (opE t f)) false := by
 have h130 := S26g f hf
 have hn := hT.n
 unfold opE
 by_cases h1 : lowF f
 ·rw [decide_eq_true h1] at h130
  rw [if_pos h1]
  by_cases h2 : f.2 ≤ 10
  ·rw [if_pos h2]
   have e1 : ((t.length : Int) - 1).toNat = t.length - 1 := by omega
   have o0 := hT.op 0 (by omega)
   have o1 := hT.op (t.length - 1) (by omega)
   have c0 := S12 f.1 f.2 (t.getD 0 r0).o 1 hf.1 ⟨h1.1,by omega⟩ (by omega) (by decide)
   have c1 := S12 f.1 f.2 (t.getD ((t.length : Int) - 1).toNat r0).o 1 hf.1 ⟨h1.1,by omega⟩ (by rw [e1]; omega) (by decide)
   have g0 := sg_lt (f.1 * 1 - (t.getD 0 r0).o * f.2)
   have g1 := sg_gt (f.1 * 1 - (t.getD ((t.length : Int) - 1).toNat r0).o * f.2)
   rw [Int.mul_one] at g0 g1 c0 c1
   rw [← e1]
   refine sound (d := 2) tok2 mixed2 Tryz.func7 (by kernel_rfl) (by kernel_rfl) ?_
   (conv=>whnf); refine .inl ⟨_,_,byX rfl (Sound1.pl (h130) rfl),?_⟩
   (conv=>whnf); refine ⟨inK64 (by omega) (by omega),?_⟩
   (conv=>whnf); refine ⟨⟨(by omega),(by omega)⟩,?_⟩
   (conv=>whnf); refine ⟨[],by kernel_rfl,?_⟩
   (conv=>whnf); refine ifB_dec (fun w1=>?_) (fun w1=>?_)
   ·(exfalso; omega)
   ·(conv=>whnf); refine ⟨⟨(by omega),(by omega)⟩,?_⟩
    (conv=>whnf); refine .inl ⟨_,_,byX rfl (Sound1.pl (c0) rfl),?_⟩
    (conv=>whnf); refine ifB_dec (fun w2=>?_) (fun w2=>?_)
    ·(conv=>whnf); refine ⟨?_,nofun⟩
     exact endi (if_neg (by omega)).symm
    ·(conv=>whnf); refine .inl ⟨_,_,byX rfl (Sound1.pl (c1) rfl),?_⟩
     (conv=>whnf); refine ifB_dec (fun w3=>?_) (fun w3=>?_)
     ·(conv=>whnf); refine ⟨?_,nofun⟩
      exact endi (if_neg (by omega)).symm
     ·(conv=>whnf); refine ⟨?_,nofun⟩
      exact endi (if_pos (by omega)).symm
  ·rw [if_neg h2]
   refine sound (d := 2) tok2 mixed2 Tryz.func7 (by kernel_rfl) (by kernel_rfl) ?_
   (conv=>whnf); refine .inl ⟨_,_,byX rfl (Sound1.pl (h130) rfl),?_⟩
   (conv=>whnf); refine ⟨inK64 (by omega) (by omega),?_⟩
   (conv=>whnf); refine ⟨⟨(by omega),(by omega)⟩,?_⟩
   (conv=>whnf); refine ⟨[],by kernel_rfl,?_⟩
   (conv=>whnf); refine ifB_dec (fun w1=>?_) (fun w1=>?_)
   ·(conv=>whnf); refine ⟨?_,nofun⟩
    (first | contradiction | omega | rfl)
   ·(exfalso; omega)
 ·rw [decide_eq_false h1] at h130
  rw [if_neg h1]
  refine sound (d := 2) tok2 mixed2 Tryz.func7 (by kernel_rfl) (by kernel_rfl) ?_
  (conv=>whnf); refine .inl ⟨_,_,byX rfl (Sound1.pl (h130) rfl),?_⟩
  (conv=>whnf); refine ⟨?_,nofun⟩
  (first | contradiction | omega | rfl)
def ocE (t : List MRow) (f : Int × Int) : Int := if (chkM t).2 ≠ 0 then (chkM t).2 else opE t f
theorem ocE_ok {t : List MRow} {f : Int × Int} (h : ocE t f = 0) : TblOk t ∧ lowF f ∧ OpOk t f := by
 unfold ocE at h
 by_cases h1 : (chkM t).2 = 0
 ·rw [if_neg (not_not_intro h1)] at h
  exact ⟨TblOk.of h1,opE_ok h⟩
 ·rw [if_pos h1] at h; exact absurd h h1
def ocL (t : List MRow) (f : Int × Int) : List Nm := if ocE t f = 0 then crvN t f else []
theorem S38 (t : List MRow) (ht : Fit t) (f : Int × Int) (hf : FrI f) : SP 38 [tblA t,gaF f] (.tuple [nms (ocL t f),i64 (ocE t f)]) false := by
 have h97 := S32 t ht
 unfold ocL
 by_cases h1 : (chkM t).2 = 0
 ·have h136 := S56 t (TblOk.of h1) f hf
  have eo : ocE t f = opE t f := if_neg (not_not_intro h1)
  rw [h1] at h97
  rw [eo]
  by_cases h2 : opE t f = 0
  ·have h137 := S57 t ht (TblOk.of h1) f (opE_ok h2).2
   rw [h2] at h136
   rw [if_pos h2,h2]
   refine sound (d := 2) tok2 mixed2 Tryz.func38 (by kernel_rfl) (by kernel_rfl) ?_
   (conv=>whnf); refine .inl ⟨_,_,byX rfl (Sound1.pl (h97) rfl),?_⟩
   (conv=>whnf); refine .inl ⟨_,_,byX rfl (Sound1.pl (h136) rfl),?_⟩
   (conv=>whnf); refine .inl ⟨_,_,byX rfl (h137),?_⟩
   (conv=>whnf); refine ⟨?_,nofun⟩
   exact ave_tup2 ⟨rfl,rfl,fun _ _=>rfl⟩ rfl
  ·rw [if_neg h2]
   refine sound (d := 2) tok2 mixed2 Tryz.func38 (by kernel_rfl) (by kernel_rfl) ?_
   (conv=>whnf); refine .inl ⟨_,_,byX rfl (Sound1.pl (h97) rfl),?_⟩
   (conv=>whnf); refine .inl ⟨_,_,byX rfl (Sound1.pl (h136) rfl),?_⟩
   (conv=>whnf); refine ifB_bne (fun w1=>?_) (fun w1=>?_)
   ·(conv=>whnf); refine ⟨?_,nofun⟩
    exact ave_tup2 rfl rfl
   ·(exfalso; omega)
 ·have eo : ocE t f = (chkM t).2 := if_pos h1
  rw [eo,if_neg h1]
  refine sound (d := 2) tok2 mixed2 Tryz.func38 (by kernel_rfl) (by kernel_rfl) ?_
  (conv=>whnf); refine .inl ⟨_,_,byX rfl (Sound1.pl (h97) rfl),?_⟩
  (conv=>whnf); refine ifB_beq (fun w1=>?_) (fun w1=>?_)
  ·(exfalso; omega)
  ·(conv=>whnf); refine ifB_bne (fun w2=>?_) (fun w2=>?_)
   ·(conv=>whnf); refine ⟨?_,nofun⟩
    exact ave_tup2 rfl rfl
   ·(exfalso; omega)
def cvS (t : List MRow) (f : Int × Int) : List Q3 := if ocE t f = 0 then smL (crvQ t f) else []
def cvE (t : List MRow) (f : Int × Int) : Int := if ocE t f = 0 then smE (crvQ t f) else ocE t f
theorem S13 (t : List MRow) (ht : Fit t) (f : Int × Int) (hf : FrI f) : SP 13 [tblA t,gaF f] (.tuple [sps (cvS t f),i64 (cvE t f)]) false := by
 have h74 := S38 t ht f hf
 unfold cvS cvE
 by_cases h1 : ocE t f = 0
 ·obtain ⟨hT,hl,hO⟩ := ocE_ok h1
  have h89 := S39 (crvN t f) (Nat.le_trans (crvN_len hT hO) (by decide)) (fun n hn=>(crvN_ok hT hO n hn).mono (by decide))
  rw [crv_map hT hO] at h89
  unfold ocL at h74
  rw [if_pos h1,h1] at h74
  rw [if_pos h1,if_pos h1]
  refine sound (d := 2) tok2 mixed2 Tryz.func13 (by kernel_rfl) (by kernel_rfl) ?_
  (conv=>whnf); refine .inl ⟨_,_,byX rfl (h74),?_⟩
  (conv=>whnf); refine .inl ⟨_,_,byX rfl (h89),?_⟩
  (conv=>whnf); refine ⟨?_,nofun⟩
  exact ave_tup2 ⟨rfl,rfl,fun _ _=>rfl⟩ rfl
 ·unfold ocL at h74
  rw [if_neg h1] at h74
  rw [if_neg h1,if_neg h1]
  refine sound (d := 2) tok2 mixed2 Tryz.func13 (by kernel_rfl) (by kernel_rfl) ?_
  (conv=>whnf); refine .inl ⟨_,_,byX rfl (h74),?_⟩
  (conv=>whnf); refine ifB_bne (fun w1=>?_) (fun w1=>?_)
  ·(conv=>whnf); refine ⟨?_,nofun⟩
   exact ave_tup2 rfl rfl
  ·(exfalso; omega)
end Go.Tr

/- Contracts of chapter 5: the reference's curve; spots compared; the law of curves. Conditions: none. -/
-- seat YtpojlhnhokbhkaaGreat
namespace Go.Tr
open Go Go.Proofs
set_option maxRecDepth 20000
set_option maxHeartbeats 8000000

theorem vEq6 (a b c d e f : Int) : vEqL [.int .i64 a,.int .i64 b,.int .i64 c,.int .i64 d,.int .i64 e,.int .i64 f] [.int .i64 a,.int .i64 b,.int .i64 c,.int .i64 d,.int .i64 e,.int .i64 f] = true := by
  simp [vEqL]
theorem S16 (L : List Q3) (hn : L.length ≤ 1000000) : SP 16 [sps L,sps L] (vb true) false := by
 refine sound (d := 2) tok2 mixed2 Tryz.func16 (by kernel_rfl) (by kernel_rfl) ?_
 (conv=>whnf); refine ifB_bne (fun w1=>?_) (fun w1=>?_)
 ·(exfalso; omega)
 ·(conv=>whnf); refine ⟨[],[0,1,5],fun st mq=>∃ (k : Nat),(k ≤ L.length) ∧ st = ⟨[(0,sps L),(1,sps L),(5,i64 k)],⟨[],[],none,0⟩,[]⟩ ∧ mq = L.length - k,
   ⟨_,_,⟨0,by omega,rfl,rfl⟩,⟨⟨.inl rfl,rfl,rfl,rfl⟩,trivial,trivial⟩⟩,?_⟩
  rintro s0 m0 ⟨k,hk,rfl,hmeas⟩
  by_cases hlt : k < L.length
  ·have hv := vEq6 (fr3 (L.getD (k : Int).toNat q0)).1.1 (fr3 (L.getD (k : Int).toNat q0)).1.2 (fr3 (L.getD (k : Int).toNat q0)).2.1.1 (fr3 (L.getD (k : Int).toNat q0)).2.1.2 (fr3 (L.getD (k : Int).toNat q0)).2.2.1 (fr3 (L.getD (k : Int).toNat q0)).2.2.2
   conv=>whnf
   (conv=>whnf); refine ifB_dec (fun w2=>?_) (fun w2=>?_)
   ·conv=>whnf
    (conv=>whnf); refine ⟨[],by kernel_rfl,?_⟩
    conv=>whnf
    (conv=>whnf); refine ⟨⟨(by omega),(by omega)⟩,?_⟩
    conv=>whnf
    (conv=>whnf); refine ⟨⟨(by omega),(by omega)⟩,?_⟩
    conv=>whnf
    (conv=>whnf); refine ifB_not ?_
    conv=>whnf
    (conv=>whnf); refine ifB_intro (fun w3=>?_) (fun w3=>?_)
    ·conv=>whnf
     (conv=>whnf); refine ⟨inK64 (by omega) (by omega),?_⟩
     conv=>whnf
     (conv=>whnf); refine ⟨_,_,⟨⟨k + 1,by omega,rfl,rfl⟩,by omega⟩,⟨⟨.inl rfl,rfl,rfl,rfl⟩,trivial,trivial⟩⟩
    ·exact absurd (hv.symm.trans w3) nofun
   ·(exfalso; omega)
  ·conv=>whnf
   (conv=>whnf); refine ifB_dec (fun w2=>?_) (fun w2=>?_)
   ·(exfalso; omega)
   ·conv=>whnf
    (conv=>whnf); refine ⟨?_,nofun⟩
    (first | contradiction | omega | rfl)
end Go.Tr

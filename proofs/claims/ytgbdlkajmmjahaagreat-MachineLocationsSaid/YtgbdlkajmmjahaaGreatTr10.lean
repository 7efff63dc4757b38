/- Contracts of chapter 5: copies of tables; the errors of the reference. Conditions: none. -/
import Derived.Test.YtgbdlkajmmjahaaGreatTr09
set_option linter.unusedSectionVars false
set_option linter.unnecessarySimpa false
set_option linter.unusedVariables false
set_option linter.unusedSimpArgs false

-- seat YtgbdlkajmmjahaaGreat
namespace Go.Tr
open Go Go.Proofs
set_option maxRecDepth 20000
set_option maxHeartbeats 8000000

theorem S97 (t : List MRow) (ht : Fit t) : SP 97 [tblA t] (i64 (chkM t).2) false := by
 have h := S154 t ht
 refine sound (d := 2) tok2 mixed2 Tryz.func97 (by kernel_rfl) (by kernel_rfl) ?_
 (conv=>whnf); refine .inl ⟨_,_,byX rfl (Sound1.pl (h) rfl),?_⟩
 (conv=>whnf); refine ⟨?_,nofun⟩
 (first | rfl)
theorem row_le {fl : Bool} (hf : fl = true) {a b x y : AV} (h1 : a = b) (h2 : AVE 5 x y) : RowLe fl [a,x] [b,y] :=
 ⟨hf,rfl,fun j u v hu hv=>by
  match j,hu,hv with
  | 0,hu,hv=>cases hu; cases hv; exact .inl h1
  | 1,hu,hv=>cases hu; cases hv; exact .inr h2⟩
theorem cp_row {o : Nat → Int} {P : Nat → List P3} {k i : Nat} (hi : i < k + 1) {bs : List Nat} {H : Hp} {x : AV} (hx : AVE 5 (fzIn bs H x) (ptsA (P k))) :
  RowLe true ((if i < k then [i64 (o (0 + i)),ptsA (P (0 + i))] else List.take 2 (List.drop ((i - k) * 2) [i64 (o k),x])).map (fzIn bs H)) [i64 (o i),ptsA (P i)] := by
 by_cases h : i < k
 ·rw [if_pos h,Nat.zero_add]
  exact row_le rfl rfl ⟨rfl,rfl,fun _ _=>rfl⟩
 ·obtain rfl : i = k := by omega
  rw [if_neg h,Nat.sub_self,Nat.zero_mul]
  exact row_le rfl rfl hx
theorem S71 (t : List MRow) (ht : Fit t) : SP 71 [rowsA t] (rowsA t) false := by
 have h1 := ht.1
 refine sound (d := 2) tok2 mixed2 Tryz.func71 (by kernel_rfl) (by kernel_rfl) ?_
 (conv=>whnf); refine ⟨[.slot 3 2,.fzl 0 [1,2,3]],[0,3,4],fun st mq=>∃ (k : Nat),(k ≤ t.length) ∧ st = ⟨[(0,rowsA t),(3,.oslice 0 0 0 k none),(4,i64 k)],⟨[⟨2,k,fun i=>[i64 (t.getD i r0).o,ptsA (t.getD i r0).ps],0,false,true,false⟩],[],none,0⟩,[]⟩ ∧ mq = t.length - k,
  ⟨_,_,⟨0,by omega,rfl,rfl⟩,⟨⟨.inl rfl,rfl,rfl,rfl⟩,⟨⟨rfl,rfl,rfl,rfl,fun _=>rfl,fun i h=>.inl (absurd h (Nat.not_lt_zero i))⟩,trivial⟩,trivial⟩⟩,?_⟩
 rintro s0 m0 ⟨k,hk,rfl,hmeas⟩
 by_cases hlt : k < t.length
 ·have hl := ht.2 k
  have hb : Tryz.prog.types[152].bytes = 24 := by kernel_rfl
  have hneed : (0 < 0 + (t.getD (k : Int).toNat r0).ps.length ∨ (t.getD (k : Int).toNat r0).ps.length = 0 ∧ 0 = 0) ∧ (0 + (t.getD (k : Int).toNat r0).ps.length) * (Tryz.prog.types[152].bytes + 1) ≤ 1000000000000 := by
   rw [hb]
   show (0 < 0 + (t.getD k r0).ps.length ∨ (t.getD k r0).ps.length = 0 ∧ 0 = 0) ∧ (0 + (t.getD k r0).ps.length) * (24 + 1) ≤ 1000000000000
   omega
  conv=>whnf
  (conv=>whnf); refine ifB_dec (fun w1=>?_) (fun w1=>?_)
  ·conv=>whnf
   (conv=>whnf); refine ⟨[],by kernel_rfl,?_⟩
   conv=>whnf
   (conv=>whnf); refine ⟨⟨(by omega),(by omega)⟩,?_⟩
   conv=>whnf
   (conv=>whnf); refine ⟨⟨(by omega),(by omega)⟩,?_⟩
   conv=>whnf
   (conv=>whnf); refine .inl ?_
   conv=>whnf
   (conv=>whnf); refine ⟨by assumption,?_⟩
   conv=>whnf
   (conv=>whnf); refine .inl ?_
   conv=>whnf
   (conv=>whnf); refine ⟨(by show _ * (32 + 1) ≤ _; omega),?_⟩
   conv=>whnf
   (conv=>whnf); refine ⟨inK64 (by omega) (by omega),?_⟩
   conv=>whnf
   (conv=>whnf); refine ⟨_,_,⟨⟨k + 1,by omega,rfl,rfl⟩,by omega⟩,⟨⟨.inl rfl,rfl,rfl,rfl⟩,⟨⟨rfl,rfl,rfl,rfl,fun _=>rfl,fun i hi=>.inr (cp_row (o := fun i=>(t.getD i r0).o) (P := fun i=>(t.getD i r0).ps) hi ⟨rfl,Nat.zero_add _,fun j hj=>rfl⟩)⟩,trivial⟩,trivial⟩⟩
  ·(exfalso; omega)
 ·have e : k = t.length := by omega
  subst e
  conv=>whnf
  (conv=>whnf); refine ifB_dec (fun w1=>?_) (fun w1=>?_)
  ·(exfalso; omega)
  ·conv=>whnf
   (conv=>whnf); refine ⟨?_,nofun⟩
   exact ⟨rfl,rfl,fun _ _=>rfl⟩
theorem S17 (t : List MRow) (ht : Fit t) : SP 17 [tblA t] (tblA t) false := by
 have h := S71 t ht
 refine sound (d := 2) tok2 mixed2 Tryz.func17 (by kernel_rfl) (by kernel_rfl) ?_
 (conv=>whnf); refine .inl ⟨_,_,byX rfl (h),?_⟩
 (conv=>whnf); refine ⟨?_,nofun⟩
 exact ave_aggR (l := [rowsA t]) (by simp [AV.atom,rowsA])
def fewT (t : List MRow) : Bool := decide (t.length ≤ 8) && t.all fun r=>decide (r.ps.length ≤ 8)
theorem S15 (t : List MRow) (h1 : t.length ≤ 9223372036854775807) : SP 15 [tblA t] (vb (fewT t)) false := by
 unfold fewT
 by_cases h8 : t.length ≤ 8
 ·rw [decide_eq_true h8, Bool.true_and]
  refine sound (d := 2) tok2 mixed2 Tryz.func15 (by kernel_rfl) (by kernel_rfl) ?_
  (conv=>whnf); refine ifB_dec (fun w1=>?_) (fun w1=>?_)
  ·(exfalso; omega)
  ·(conv=>whnf); refine ⟨[],[1,3],fun st mq=>∃ (k : Nat),(k ≤ t.length) ∧ (∀ j,j < k → (t.getD j r0).ps.length ≤ 8) ∧ st = ⟨[(1,.optr 0 0 0 0),(3,i64 k)],⟨[⟨1,1,fun _=>[rowsA t],0,false,true,true⟩],[],none,0⟩,[]⟩ ∧ mq = t.length - k,
    ⟨_,_,⟨0,by omega,fun j h=>absurd h (Nat.not_lt_zero j),rfl,rfl⟩,⟨⟨.inl rfl,rfl,rfl,rfl⟩,⟨⟨rfl,rfl,rfl,rfl,fun _=>rfl,fun _ _=>.inl rfl⟩,trivial⟩,trivial⟩⟩,?_⟩
   rintro s0 m0 ⟨k,hk,hq,rfl,hmeas⟩
   by_cases hlt : k < t.length
   ·conv=>whnf
    (conv=>whnf); refine ifB_dec (fun w2=>?_) (fun w2=>?_)
    ·conv=>whnf
     (conv=>whnf); refine ⟨⟨(by omega),(by omega)⟩,?_⟩
     conv=>whnf
     (conv=>whnf); refine ifB_dec (fun w3=>?_) (fun w3=>?_)
     ·conv=>whnf
      (conv=>whnf); refine ⟨?_,nofun⟩
      refine endb ?_
      have hw : ((t.getD k r0).ps.length : Int) > 8 := by assumption
      have hm : t.getD k r0 ∈ t := by rw [List.getD_eq_getElem?_getD,List.getElem?_eq_getElem hlt]; exact List.getElem_mem hlt
      symm
      rw [List.all_eq_false]
      exact ⟨_,hm,by simp only [decide_eq_true_eq]; omega⟩
     ·conv=>whnf
      (conv=>whnf); refine ⟨inK64 (by omega) (by omega),?_⟩
      have hw : ¬ ((t.getD k r0).ps.length : Int) > 8 := by assumption
      conv=>whnf
      (conv=>whnf); refine ⟨_,_,⟨⟨k + 1,by omega,(fun j hj=>by by_cases e : j = k; (rw [e]; omega); exact hq j (by omega)),rfl,rfl⟩,by omega⟩,⟨⟨.inl rfl,rfl,rfl,rfl⟩,⟨⟨rfl,rfl,rfl,rfl,fun _=>rfl,fun _ _=>.inl rfl⟩,trivial⟩,trivial⟩⟩
    ·(exfalso; omega)
   ·have e : k = t.length := by omega
    subst e
    conv=>whnf
    (conv=>whnf); refine ifB_dec (fun w2=>?_) (fun w2=>?_)
    ·(exfalso; omega)
    ·conv=>whnf
     (conv=>whnf); refine ⟨?_,nofun⟩
     refine endb ?_
     symm
     rw [List.all_eq_true]
     intro r hr
     obtain ⟨j,hj,e⟩ := List.getElem_of_mem hr
     have := hq j hj
     rw [List.getD_eq_getElem?_getD,List.getElem?_eq_getElem hj] at this
     rw [← e]
     exact decide_eq_true this
 ·rw [decide_eq_false h8,Bool.false_and]
  refine sound (d := 2) tok2 mixed2 Tryz.func15 (by kernel_rfl) (by kernel_rfl) ?_
  (conv=>whnf); refine ifB_dec (fun w1=>?_) (fun w1=>?_)
  ·(conv=>whnf); refine ⟨?_,nofun⟩
   (first | contradiction | omega | rfl)
  ·(exfalso; omega)
theorem few_fit {t : List MRow} (h : fewT t = true) : Fit t := by
 unfold fewT at h
 rw [Bool.and_eq_true,decide_eq_true_iff,List.all_eq_true] at h
 refine ⟨by omega,fun i=>?_⟩
 by_cases hi : i < t.length
 ·have hm : t.getD i r0 ∈ t := by rw [List.getD_eq_getElem?_getD,List.getElem?_eq_getElem hi]; exact List.getElem_mem hi
  have := of_decide_eq_true (h.2 _ hm)
  omega
 ·have : t.getD i r0 = r0 := by rw [List.getD_eq_getElem?_getD,List.getElem?_eq_none (by omega)]; rfl
  rw [this]; decide
theorem S29 (n : Int) : SP 29 [i64 n] (i64 (if -1000 ≤ n ∧ n ≤ 1000 then 0 else 2)) false := by
 have h := S36 n (-1000) 1000
 refine sound (d := 2) tok2 mixed2 Tryz.func29 (by kernel_rfl) (by kernel_rfl) ?_
 (conv=>whnf); refine .inl ⟨_,_,byX rfl (Sound1.pl (h) rfl),?_⟩
 (conv=>whnf); refine ifB_not ?_
 (conv=>whnf); refine ifB_dec (fun w1=>?_) (fun w1=>?_)
 ·(conv=>whnf); refine ⟨?_,nofun⟩
  exact endi (if_pos (by assumption)).symm
 ·(conv=>whnf); refine ⟨?_,nofun⟩
  exact endi (if_neg (by assumption)).symm
theorem S194 (n : Int) : SP 194 [i64 n] (i64 (if -10000 ≤ n ∧ n ≤ 10000 then 0 else 2)) false := by
 have h := S36 n (-10000) 10000
 refine sound (d := 2) tok2 mixed2 Tryz.func194 (by kernel_rfl) (by kernel_rfl) ?_
 (conv=>whnf); refine .inl ⟨_,_,byX rfl (Sound1.pl (h) rfl),?_⟩
 (conv=>whnf); refine ifB_not ?_
 (conv=>whnf); refine ifB_dec (fun w1=>?_) (fun w1=>?_)
 ·(conv=>whnf); refine ⟨?_,nofun⟩
  exact endi (if_pos (by assumption)).symm
 ·(conv=>whnf); refine ⟨?_,nofun⟩
  exact endi (if_neg (by assumption)).symm
theorem S117 (a b c : P3) (ha : PtOk a) (hb : PtOk b) (hc : PtOk c) : SP 117 [.agg [i64 a.1,i64 a.2.1,i64 a.2.2],.agg [i64 b.1,i64 b.2.1,i64 b.2.2],.agg [i64 c.1,i64 c.2.1,i64 c.2.2]] (i64 (turnI a b c)) false := by
 have h1 := mul2 (a := b.1 - a.1) (b := c.2.1 - a.2.1) (by unfold PtOk at *; omega) (by unfold PtOk at *; omega)
 have h2 := mul2 (a := c.1 - a.1) (b := b.2.1 - a.2.1) (by unfold PtOk at *; omega) (by unfold PtOk at *; omega)
 unfold PtOk at *
 unfold turnI
 refine sound (d := 2) tok2 mixed2 Tryz.func117 (by kernel_rfl) (by kernel_rfl) ?_
 (conv=>whnf); refine ⟨inK64 (by omega) (by omega),?_⟩
 (conv=>whnf); refine ⟨inK64 (by omega) (by omega),?_⟩
 (conv=>whnf); refine ⟨inK64 (by omega) (by omega),?_⟩
 (conv=>whnf); refine ⟨inK64 (by omega) (by omega),?_⟩
 (conv=>whnf); refine ⟨inK64 (by omega) (by omega),?_⟩
 (conv=>whnf); refine ⟨inK64 (by omega) (by omega),?_⟩
 (conv=>whnf); refine ⟨inK64 (by omega) (by omega),?_⟩
 (conv=>whnf); refine ⟨?_,nofun⟩
 (first | rfl | contradiction)
theorem pnt_ifs (p : P3) : (pntE p = 0) ↔ ((-1000 ≤ p.1 ∧ p.1 ≤ 1000) ∧ (-1000 ≤ p.2.1 ∧ p.2.1 ≤ 1000) ∧ -10000 ≤ p.2.2 ∧ p.2.2 ≤ 10000) := ⟨pntE_ok,fun h=>if_pos h⟩
theorem ptsP_two (l : List P3) : ∀ k,ptsP l k = 0 ∨ ptsP l k = 2
 | 0=>.inl rfl
 | k + 1 => by
  rw [ptsP_succ]
  by_cases h : ptsP l k = 0
  ·rw [if_neg (not_not_intro h)]
   unfold pntE
   split
   ·exact .inl rfl
   ·exact .inr rfl
  ·rw [if_pos h]; exact ptsP_two l k
theorem ptsP_mono {l : List P3} {k : Nat} (h : ptsP l k ≠ 0) : ∀ j,k ≤ j → ptsP l j = ptsP l k := fun j hj=>by
 induction j with
 | zero=>rw [show k = 0 by omega]
 | succ j ih =>
  by_cases e : k = j + 1
  ·rw [e]
  ·have := ih (by omega)
   rw [ptsP_succ,this,if_pos h]
theorem S158 (t : List MRow) (ht : Fit t) (i : Nat) (hi : i < t.length) : SP 158 [tblA t, i64 i] (i64 (rowA t i)) false := by
 have h36 := S36 (t.getD i r0).o 0 100
 have hl := ht.2 i
 unfold rowA
 by_cases g1 : 0 ≤ (t.getD i r0).o ∧ (t.getD i r0).o ≤ 100
 ·rw [if_neg (not_not_intro g1)]
  rw [show win (t.getD i r0).o 0 100 = true from decide_eq_true g1] at h36
  by_cases g2 : 2 ≤ (t.getD i r0).ps.length ∧ (t.getD i r0).ps.length = npT t
  ·have g2a : ¬ (((t.getD (i : Int).toNat r0).ps.length : Int) < 2) := by show ¬ (((t.getD i r0).ps.length : Int) < 2); omega
   have g2b : ((t.getD (i : Int).toNat r0).ps.length : Int) = ((t.getD (0 : Int).toNat r0).ps.length : Int) := by
    show ((t.getD i r0).ps.length : Int) = ((t.getD 0 r0).ps.length : Int)
    have := g2.2
    unfold npT at this
    omega
   rw [if_neg (not_not_intro g2)]
   by_cases g3 : 6 < (t.getD i r0).ps.length
   ·rw [if_pos g3]
    have g3a : ((t.getD (i : Int).toNat r0).ps.length : Int) > 6 := by show ((t.getD i r0).ps.length : Int) > 6; omega
    refine sound (d := 2) tok2 mixed2 Tryz.func158 (by kernel_rfl) (by kernel_rfl) ?_
    (conv=>whnf); refine ⟨⟨(by omega),(by omega)⟩,?_⟩
    (conv=>whnf); refine .inl ⟨_,_,byX rfl (Sound1.pl (h36) rfl),?_⟩
    (conv=>whnf); refine ⟨[],by kernel_rfl,?_⟩
    (conv=>whnf); refine ifB_dec (fun w1=>?_) (fun w1=>?_)
    ·(exfalso; omega)
    ·(conv=>whnf); refine ⟨⟨(by omega),(by omega)⟩,?_⟩
     (conv=>whnf); refine ifB_bne (fun w2=>?_) (fun w2=>?_)
     ·(exfalso; omega)
     ·(conv=>whnf); refine ifB_dec (fun w3=>?_) (fun w3=>?_)
      ·(conv=>whnf); refine ⟨?_,nofun⟩
       (first | contradiction | rfl)
      ·(exfalso; omega)
   ·rw [if_neg g3]
    have g3a : ¬ ((t.getD (i : Int).toNat r0).ps.length : Int) > 6 := by show ¬ ((t.getD i r0).ps.length : Int) > 6; omega
    refine sound (d := 2) tok2 mixed2 Tryz.func158 (by kernel_rfl) (by kernel_rfl) ?_
    (conv=>whnf); refine ⟨⟨(by omega),(by omega)⟩,?_⟩
    (conv=>whnf); refine .inl ⟨_,_,byX rfl (Sound1.pl (h36) rfl),?_⟩
    (conv=>whnf); refine ⟨[],by kernel_rfl,?_⟩
    (conv=>whnf); refine ifB_dec (fun w1=>?_) (fun w1=>?_)
    ·(exfalso; omega)
    ·(conv => whnf); refine ⟨⟨(by omega), (by omega)⟩, ?_⟩
     (conv=>whnf); refine ifB_bne (fun w2=>?_) (fun w2=>?_)
     ·(exfalso; omega)
     ·(conv => whnf); refine ifB_dec (fun w3 => ?_) (fun w3 => ?_)
      ·(exfalso; omega)
      ·(conv=>whnf); refine ⟨[],[5,6],fun st mq=>∃ (k : Nat),(k ≤ (t.getD i r0).ps.length) ∧ (ptsP (t.getD i r0).ps k = 0) ∧ st = ⟨[(5,.optr 1 0 0 0),(6,i64 k)],⟨[⟨1,1,fun _=>[rowsA t],0,false,true,true⟩,⟨2,1,fun _=>[i64 (t.getD i r0).o,ptsA (t.getD i r0).ps],0,false,true,true⟩],[],none,0⟩,[]⟩ ∧ mq = (t.getD i r0).ps.length - k,
        ⟨_,_,⟨0,by omega,rfl,rfl,rfl⟩,⟨⟨.inl rfl,rfl,rfl,rfl⟩,⟨⟨rfl,rfl,rfl,rfl,fun _=>rfl,fun _ _=>.inl rfl⟩,⟨⟨rfl,rfl,rfl,rfl,fun _=>rfl,fun _ _=>.inl rfl⟩,trivial⟩⟩,trivial⟩⟩,?_⟩
       rintro s0 m0 ⟨k,hk,hz,rfl,hmeas⟩
       by_cases hlt : k < (t.getD i r0).ps.length
       ·have c1 := S29 ((t.getD i r0).ps.getD k p0).1
        have c2 := S29 ((t.getD i r0).ps.getD k p0).2.1
        have c3 := S194 ((t.getD i r0).ps.getD k p0).2.2
        have hs := ptsP_succ (t.getD i r0).ps k
        rw [if_neg (not_not_intro hz)] at hs
        by_cases hp : pntE ((t.getD i r0).ps.getD k p0) = 0
        ·have hb := pntE_ok hp
         rw [if_pos hb.1] at c1
         rw [if_pos hb.2.1] at c2
         rw [if_pos hb.2.2] at c3
         rw [hp] at hs
         conv=>whnf
         (conv=>whnf); refine ifB_dec (fun w4=>?_) (fun w4=>?_)
         ·conv=>whnf
          (conv=>whnf); refine ⟨⟨(by omega),(by omega)⟩,?_⟩
          conv=>whnf
          (conv=>whnf); refine .inl ⟨_,_,byX rfl (Sound1.pl (c1) rfl),?_⟩
          conv=>whnf
          (conv=>whnf); refine .inl ⟨_,_,byX rfl (Sound1.pl (c2) rfl),?_⟩
          conv=>whnf
          (conv=>whnf); refine .inl ⟨_,_,byX rfl (Sound1.pl (c3) rfl),?_⟩
          conv=>whnf
          (conv=>whnf); refine ⟨inK64 (by omega) (by omega),?_⟩
          conv=>whnf
          (conv=>whnf); refine ⟨_,_,⟨⟨k + 1,by omega,hs,rfl,rfl⟩,by omega⟩,⟨⟨.inl rfl,rfl,rfl,rfl⟩,⟨⟨rfl,rfl,rfl,rfl,fun _=>rfl,fun _ _=>.inl rfl⟩,⟨⟨rfl,rfl,rfl,rfl,fun _=>rfl,fun _ _=>.inl rfl⟩,trivial⟩⟩,trivial⟩⟩
         ·(exfalso; omega)
        ·have hn : ¬ ptsP (t.getD i r0).ps (k + 1) = 0 := by rw [hs]; exact hp
         have h2 : pntsE (t.getD i r0).ps = 2 := by
          have := ptsP_mono hn (t.getD i r0).ps.length (by omega)
          have h3 := (ptsP_two (t.getD i r0).ps (k + 1)).resolve_left hn
          show ptsP (t.getD i r0).ps (t.getD i r0).ps.length = 2
          rw [this,h3]
         rw [h2]
         by_cases b1 : -1000 ≤ ((t.getD i r0).ps.getD k p0).1 ∧ ((t.getD i r0).ps.getD k p0).1 ≤ 1000
         ·rw [if_pos b1] at c1
          by_cases b2 : -1000 ≤ ((t.getD i r0).ps.getD k p0).2.1 ∧ ((t.getD i r0).ps.getD k p0).2.1 ≤ 1000
          ·rw [if_pos b2] at c2
           rw [if_neg (fun e=>hp ((pnt_ifs _).2 ⟨b1,b2,e⟩))] at c3
           conv=>whnf
           (conv=>whnf); refine ifB_dec (fun w4=>?_) (fun w4=>?_)
           ·conv=>whnf
            (conv=>whnf); refine ⟨⟨(by omega),(by omega)⟩,?_⟩
            conv=>whnf
            (conv=>whnf); refine .inl ⟨_,_,byX rfl (Sound1.pl (c1) rfl),?_⟩
            conv=>whnf
            (conv=>whnf); refine .inl ⟨_,_,byX rfl (Sound1.pl (c2) rfl),?_⟩
            conv=>whnf
            (conv=>whnf); refine .inl ⟨_,_,byX rfl (Sound1.pl (c3) rfl),?_⟩
            conv=>whnf
            (conv=>whnf); refine ⟨?_,nofun⟩
            (first | contradiction | rfl)
           ·(exfalso; omega)
          ·rw [if_neg b2] at c2
           conv=>whnf
           (conv=>whnf); refine ifB_dec (fun w4=>?_) (fun w4=>?_)
           ·conv=>whnf
            (conv=>whnf); refine ⟨⟨(by omega),(by omega)⟩,?_⟩
            conv=>whnf
            (conv=>whnf); refine .inl ⟨_,_,byX rfl (Sound1.pl (c1) rfl),?_⟩
            conv=>whnf
            (conv=>whnf); refine .inl ⟨_,_,byX rfl (Sound1.pl (c2) rfl),?_⟩
            conv=>whnf
            (conv=>whnf); refine ⟨?_,nofun⟩
            (first | contradiction | rfl)
           ·(exfalso; omega)
         ·rw [if_neg b1] at c1
          conv=>whnf
          (conv=>whnf); refine ifB_dec (fun w4=>?_) (fun w4=>?_)
          ·conv=>whnf
           (conv=>whnf); refine ⟨⟨(by omega),(by omega)⟩,?_⟩
           conv=>whnf
           (conv=>whnf); refine .inl ⟨_,_,byX rfl (Sound1.pl (c1) rfl),?_⟩
           conv=>whnf
           (conv=>whnf); refine ⟨?_,nofun⟩
           (first | contradiction | rfl)
          ·(exfalso; omega)
       ·have e : k = (t.getD i r0).ps.length := by omega
        subst e
        have e : pntsE (t.getD i r0).ps = 0 := hz
        rw [e]
        conv=>whnf
        (conv=>whnf); refine ifB_dec (fun w4=>?_) (fun w4=>?_)
        ·(exfalso; omega)
        ·conv=>whnf
         (conv=>whnf); refine ⟨?_,nofun⟩
         (first | contradiction | rfl)
  ·rw [if_pos g2]
   have g2' : ¬ (¬ (((t.getD (i : Int).toNat r0).ps.length : Int) < 2) ∧ ((t.getD (i : Int).toNat r0).ps.length : Int) = ((t.getD (0 : Int).toNat r0).ps.length : Int)) := by
    show ¬ (¬ (((t.getD i r0).ps.length : Int) < 2) ∧ ((t.getD i r0).ps.length : Int) = ((t.getD 0 r0).ps.length : Int))
    unfold npT at g2
    omega
   refine sound (d := 2) tok2 mixed2 Tryz.func158 (by kernel_rfl) (by kernel_rfl) ?_
   (conv=>whnf); refine ⟨⟨(by omega),(by omega)⟩,?_⟩
   (conv=>whnf); refine .inl ⟨_,_,byX rfl (Sound1.pl (h36) rfl),?_⟩
   (conv=>whnf); refine ⟨[],by kernel_rfl,?_⟩
   (conv=>whnf); refine ifB_dec (fun w1=>?_) (fun w1=>?_)
   ·(conv=>whnf); refine ⟨?_,nofun⟩
    (first | contradiction | rfl | (exfalso; exact g2' ⟨by assumption,by assumption⟩))
   ·(conv=>whnf); refine ⟨⟨(by omega),(by omega)⟩,?_⟩
    (conv=>whnf); refine ifB_bne (fun w2=>?_) (fun w2=>?_)
    ·(conv=>whnf); refine ⟨?_,nofun⟩
     (first | contradiction | rfl | (exfalso; exact g2' ⟨by assumption,by assumption⟩))
    ·(exfalso; omega)
 ·rw [if_pos g1]
  rw [show win (t.getD i r0).o 0 100 = false from decide_eq_false g1] at h36
  refine sound (d := 2) tok2 mixed2 Tryz.func158 (by kernel_rfl) (by kernel_rfl) ?_
  (conv=>whnf); refine ⟨⟨(by omega),(by omega)⟩,?_⟩
  (conv=>whnf); refine .inl ⟨_,_,byX rfl (Sound1.pl (h36) rfl),?_⟩
  (conv=>whnf); refine ⟨?_,nofun⟩
  (first | contradiction | rfl)
end Go.Tr

/- Contracts of chapter 5: the reference's triangles and its check of a table. Conditions: none. -/
-- seat YtgbdlkajmmjahaaGreat
namespace Go.Tr
open Go Go.Proofs
set_option maxRecDepth 20000
set_option maxHeartbeats 8000000

def tri0 : Tri := ((p0,0),(p0,0),p0,0)
abbrev rtC (x : Tri) : List AV := [i64 x.1.1.1,i64 x.1.1.2.1,i64 x.1.1.2.2,i64 x.2.1.1.1,i64 x.2.1.1.2.1,i64 x.2.1.1.2.2,i64 x.2.2.1.1,i64 x.2.2.1.2.1,i64 x.2.2.1.2.2,i64 x.1.2,i64 x.2.1.2,i64 x.2.2.2]
def tris (L : List Tri) : AV := .rslice 12 L.length fun j=>rtC (L.getD j tri0)
def triU (t : List MRow) (i k : Nat) : Tri := ((ptT t i k,(t.getD i r0).o),(ptT t i (k + 1),(t.getD i r0).o),ptT t (i + 1) k,(t.getD (i + 1) r0).o)
def triD (t : List MRow) (i k : Nat) : Tri := ((ptT t i (k + 1),(t.getD i r0).o),(ptT t (i + 1) (k + 1),(t.getD (i + 1) r0).o),ptT t (i + 1) k,(t.getD (i + 1) r0).o)
def triK (t : List MRow) (i : Nat) : Nat → List Tri
  | 0=>[]
  | k + 1=>triK t i k ++ [triU t i k] ++ [triD t i k]
theorem triK_len (t : List MRow) (i : Nat) : ∀ k,(triK t i k).length = 2 * k
 | 0=>rfl
 | k + 1=>by
  unfold triK
  rw [List.length_append,List.length_append,triK_len t i k]
  simp
  omega
theorem app_tri (L : List Tri) (x : Tri) (n j : Nat) (hn : L.length = n) (hj : j < n + 1) : rtC ((L ++ [x]).getD j tri0) = if j < n then rtC (L.getD (0 + j) tri0) else List.take 12 (List.drop ((j - n) * 12) (rtC x)) := by
 subst hn
 rw [Nat.zero_add]
 by_cases h : j < L.length
 ·rw [if_pos h]; simp [List.getD_eq_getElem?_getD,h,List.getElem?_append_left h]
 ·have : j = L.length := by omega
  subst this
  rw [if_neg h]; simp [List.getD_eq_getElem?_getD]
theorem app_tri2 (L : List Tri) (x y : Tri) (n j : Nat) (hn : L.length = n) (hj : j < n + 1 + 1) : rtC ((L ++ [x] ++ [y]).getD j tri0) = if j < n + 1 then (if 0 + j < n then rtC (L.getD (0 + (0 + j)) tri0) else List.take 12 (List.drop ((0 + j - n) * 12) (rtC x))) else List.take 12 (List.drop ((j - (n + 1)) * 12) (rtC y)) := by
 rw [app_tri (L ++ [x]) y (n + 1) j (by simp [hn]) hj]
 by_cases h : j < n + 1
 ·rw [if_pos h,if_pos h,app_tri L x n (0 + j) hn (by omega)]
 ·rw [if_neg h,if_neg h]
theorem S159 (t : List MRow) (hR : RwOk t) (i : Nat) (hi : i + 1 < t.length) : SP 159 [tblA t,i64 i] (tris (triK t i (npT t - 1))) false := by
 have hl1 : (t.getD i r0).ps.length = npT t := hR.len i (by omega)
 have hl2 : (t.getD (i + 1) r0).ps.length = npT t := hR.len (i + 1) (by omega)
 have hnp := hR.np
 have hn := hR.n
 refine sound (d := 2) tok2 mixed2 Tryz.func159 (by kernel_rfl) (by kernel_rfl) ?_
 (conv=>whnf); refine ⟨[(6,13),(10,13)],by kernel_rfl,?_⟩
 (conv=>whnf); refine ⟨⟨(by omega),(by omega)⟩,?_⟩
 (conv=>whnf); refine ⟨inK64 (by omega) (by omega),?_⟩
 (conv=>whnf); refine ⟨⟨(by omega),(by omega)⟩,?_⟩
 (conv=>whnf); refine ⟨[.slot 7 12],[5,6,7,8],fun st mq=>∃ (k : Nat) (L : List Tri),(k + 1 ≤ npT t) ∧ (L = triK t i k) ∧ (L.length = 2 * k) ∧ st = ⟨[(5,.optr 1 0 0 0),(6,.optr 2 0 0 0),(7,.oslice 3 0 0 (2 * k) none),(8,i64 k)],⟨[⟨1,1,fun _=>[rowsA t],0,false,true,true⟩,⟨2,1,fun _=>[i64 (t.getD i r0).o,ptsA (t.getD i r0).ps],0,false,true,true⟩,⟨2,1,fun _=>[i64 (t.getD (i + 1) r0).o,ptsA (t.getD (i + 1) r0).ps],0,false,true,true⟩,⟨12,2 * k,fun j=>rtC (L.getD j tri0),0,false,true,false⟩],[],none,0⟩,[]⟩ ∧ mq = npT t - k,
  ⟨_,_,⟨0,[],by omega,rfl,rfl,rfl,rfl⟩,⟨⟨.inl rfl,rfl,rfl,rfl⟩,⟨⟨rfl,rfl,rfl,rfl,fun _=>rfl,fun _ _=>.inl rfl⟩,⟨⟨rfl,rfl,rfl,rfl,fun _=>rfl,fun _ _=>.inl rfl⟩,⟨⟨rfl,rfl,rfl,rfl,fun _=>rfl,fun _ _=>.inl rfl⟩,⟨⟨rfl,rfl,rfl,rfl,fun _=>rfl,fun i h=>.inl (absurd h (Nat.not_lt_zero i))⟩,trivial⟩⟩⟩⟩,trivial⟩⟩,?_⟩
 rintro s0 m0 ⟨k,L,hk,hL,hln,rfl,hmeas⟩
 by_cases hlt : k + 1 < npT t
 ·conv=>whnf
  (conv=>whnf); refine ⟨inK64 (by omega) (by omega),?_⟩
  conv=>whnf
  (conv=>whnf); refine ifB_dec (fun w1=>?_) (fun w1=>?_)
  ·conv=>whnf
   (conv=>whnf); refine ⟨[],by kernel_rfl,?_⟩
   conv=>whnf
   (conv=>whnf); refine ⟨⟨(by omega),(by omega)⟩,?_⟩
   conv=>whnf
   (conv=>whnf); refine ⟨inK64 (by omega) (by omega),?_⟩
   conv=>whnf
   (conv=>whnf); refine ⟨⟨(by omega),(by omega)⟩,?_⟩
   conv=>whnf
   (conv=>whnf); refine ⟨⟨(by omega),(by omega)⟩,?_⟩
   conv=>whnf
   (conv=>whnf); refine .inl ?_
   conv=>whnf
   (conv=>whnf); refine ⟨(by show _ * (96 + 1) ≤ _; omega),?_⟩
   conv=>whnf
   (conv=>whnf); refine ⟨[],by kernel_rfl,?_⟩
   conv=>whnf
   (conv=>whnf); refine ⟨inK64 (by omega) (by omega),?_⟩
   conv=>whnf
   (conv=>whnf); refine ⟨⟨(by omega),(by omega)⟩,?_⟩
   conv=>whnf
   (conv=>whnf); refine ⟨inK64 (by omega) (by omega),?_⟩
   conv=>whnf
   (conv=>whnf); refine ⟨⟨(by omega),(by omega)⟩,?_⟩
   conv=>whnf
   (conv=>whnf); refine ⟨⟨(by omega),(by omega)⟩,?_⟩
   conv=>whnf
   (conv=>whnf); refine .inl ?_
   conv=>whnf
   (conv=>whnf); refine ⟨(by show _ * (96 + 1) ≤ _; omega),?_⟩
   conv=>whnf
   (conv=>whnf); refine ⟨inK64 (by omega) (by omega),?_⟩
   conv=>whnf
   (conv=>whnf); refine ⟨_,_,⟨⟨k + 1,L ++ [triU t i k] ++ [triD t i k],by omega,(by rw [hL]; rfl),(by simp [hln]; omega),rfl,rfl⟩,by omega⟩,⟨⟨.inl rfl,rfl,rfl,rfl⟩,⟨⟨rfl,rfl,rfl,rfl,fun _=>rfl,fun _ _=>.inl rfl⟩,⟨⟨rfl,rfl,rfl,rfl,fun _=>rfl,fun _ _=>.inl rfl⟩,⟨⟨rfl,rfl,rfl,rfl,fun _=>rfl,fun _ _=>.inl rfl⟩,⟨⟨rfl,rfl,rfl,rfl,fun _=>rfl,fun j hj=>.inl (app_tri2 L (triU t i k) (triD t i k) (2 * k) j hln hj)⟩,trivial⟩⟩⟩⟩,trivial⟩⟩
  ·(exfalso; omega)
 ·have e : k = npT t - 1 := by omega
  rw [← e,← hL]
  conv=>whnf
  (conv=>whnf); refine ⟨inK64 (by omega) (by omega),?_⟩
  conv=>whnf
  (conv=>whnf); refine ifB_dec (fun w1=>?_) (fun w1=>?_)
  ·(exfalso; omega)
  ·conv=>whnf
   (conv=>whnf); refine ⟨?_,nofun⟩
   exact ⟨rfl,hln.symm,fun _ _=>rfl⟩
def trE (L : List Tri) (j : Nat) : Int := if turnI (L.getD j tri0).1.1 (L.getD j tri0).2.1.1 (L.getD j tri0).2.2.1 ≤ 0 then 13 else 0
theorem triK_get (t : List MRow) (i : Nat) : ∀ (n k : Nat),k < n → (triK t i n).getD (2 * k) tri0 = triU t i k ∧ (triK t i n).getD (2 * k + 1) tri0 = triD t i k
 | 0,k,h=>absurd h (Nat.not_lt_zero k)
 | n + 1, k, h => by
  have hl := triK_len t i n
  unfold triK
  by_cases e : k < n
  ·have ih := triK_get t i n k e
   rw [← ih.1,← ih.2]
   constructor
   ·rw [List.getD_eq_getElem?_getD,List.append_assoc,List.getElem?_append_left (by omega),List.getD_eq_getElem?_getD]
   ·rw [List.getD_eq_getElem?_getD,List.append_assoc,List.getElem?_append_left (by omega),List.getD_eq_getElem?_getD]
  ·obtain rfl : k = n := by omega
   constructor
   ·rw [List.getD_eq_getElem?_getD,List.append_assoc,List.getElem?_append_right (by omega),hl,Nat.sub_self]; rfl
   ·rw [List.getD_eq_getElem?_getD,List.append_assoc,List.getElem?_append_right (by omega),hl,show 2 * k + 1 - 2 * k = 1 by omega]; rfl
theorem trE_strip (t : List MRow) (i : Nat) : ∀ (n k : Nat),k ≤ n → ((fstE (trE (triK t i n)) (2 * n - 2 * k) (2 * k)).2 = (fstE (quadE t i) (n - k) k).2)
 | n, k, h => by
  induction hm : n - k generalizing k with
  | zero =>
   rw [show 2 * n - 2 * k = 0 by omega]; rfl
  | succ m ih =>
   have hlt : k < n := by omega
   have hg := triK_get t i n k hlt
   have e1 : trE (triK t i n) (2 * k) = if tri1 t i k ≤ 0 then 13 else 0 := by unfold trE; rw [hg.1]; rfl
   have e2 : trE (triK t i n) (2 * k + 1) = if tri2 t i k ≤ 0 then 13 else 0 := by unfold trE; rw [hg.2]; rfl
   have ih := ih (k + 1) (by omega) (by omega)
   have n13 : (13 : Int) ≠ 0 := by decide
   have n0 : ¬ (0 : Int) ≠ 0 := by decide
   rw [show 2 * n - 2 * k = (2 * n - 2 * (k + 1)) + 1 + 1 by omega]
   by_cases g1 : tri1 t i k ≤ 0
   ·have e3 : quadE t i k = 13 := if_pos g1
    rw [fstE,e1,if_pos g1,if_pos n13,fstE,e3,if_pos n13]
   ·by_cases g2 : tri2 t i k ≤ 0
    ·have e3 : quadE t i k = 13 := by unfold quadE; rw [if_neg g1,if_pos g2]
     rw [fstE,e1,if_neg g1,if_neg n0,fstE,e2,if_pos g2,if_pos n13,fstE,e3,if_pos n13]
    ·have e3 : quadE t i k = 0 := by unfold quadE; rw [if_neg g1,if_neg g2]
     rw [fstE,e1,if_neg g1,if_neg n0,fstE,e2,if_neg g2,if_neg n0,show fstE (quadE t i) (m + 1) k = fstE (quadE t i) m (k + 1) by rw [fstE,e3,if_neg n0]]
     exact ih
end Go.Tr

/- Contracts of chapter 5: the reference's check of a table. Conditions: none. -/
-- seat YtgbdlkajmmjahaaGreat
namespace Go.Tr
open Go Go.Proofs
set_option maxRecDepth 20000
set_option maxHeartbeats 8000000

theorem triK_ok {t : List MRow} (hR : RwOk t) {i : Nat} (hi : i + 1 < t.length) {j : Nat} (hj : j < 2 * (npT t - 1)) :
  PtOk ((triK t i (npT t - 1)).getD j tri0).1.1 ∧ PtOk ((triK t i (npT t - 1)).getD j tri0).2.1.1 ∧ PtOk ((triK t i (npT t - 1)).getD j tri0).2.2.1 := by
 obtain ⟨k,e | e⟩ : ∃ k,j = 2 * k ∨ j = 2 * k + 1 := ⟨j / 2,by omega⟩
 ·subst e
  rw [(triK_get t i (npT t - 1) k (by omega)).1]
  exact ⟨hR.pts i k (by omega) (by omega),hR.pts i (k + 1) (by omega) (by omega),hR.pts (i + 1) k (by omega) (by omega)⟩
 ·subst e
  rw [(triK_get t i (npT t - 1) k (by omega)).2]
  exact ⟨hR.pts i (k + 1) (by omega) (by omega),hR.pts (i + 1) (k + 1) (by omega) (by omega),hR.pts (i + 1) k (by omega) (by omega)⟩
set_option maxHeartbeats 8000000 in
theorem S107 (t : List MRow) (ht : Fit t) : SP 107 [tblA t] (.tuple [i64 (chkM t).1, i64 (chkM t).2]) false := by
 have h1 := ht.1
 unfold chkM
 by_cases g1 : t.length < 2
 ·rw [if_pos g1]
  refine sound (d := 2) tok2 mixed2 Tryz.func107 (by kernel_rfl) (by kernel_rfl) ?_
  (conv=>whnf); refine ifB_dec (fun w1=>?_) (fun w1=>?_)
  ·(conv=>whnf); refine ⟨?_,nofun⟩
   (first | contradiction | omega | exact ave_tup2 rfl rfl)
  ·(exfalso; omega)
 ·rw [if_neg g1]
  by_cases g2 : t.length > 6
  ·rw [if_pos g2]
   refine sound (d := 2) tok2 mixed2 Tryz.func107 (by kernel_rfl) (by kernel_rfl) ?_
   (conv=>whnf); refine ifB_dec (fun w1=>?_) (fun w1=>?_)
   ·(exfalso; omega)
   ·(conv=>whnf); refine ifB_dec (fun w2=>?_) (fun w2=>?_)
    ·(conv=>whnf); refine ⟨?_,nofun⟩
     (first | contradiction | omega | exact ave_tup2 rfl rfl)
    ·(exfalso; omega)
  ·rw [if_neg g2]
   refine sound (d := 2) tok2 mixed2 Tryz.func107 (by kernel_rfl) (by kernel_rfl) ?_
   (conv=>whnf); refine ifB_dec (fun w1=>?_) (fun w1=>?_)
   ·(exfalso; omega)
   ·(conv => whnf); refine ifB_dec (fun w2 => ?_) (fun w2 => ?_)
    ·(exfalso; omega)
    ·(conv => whnf); refine ⟨[], [1, 4], fun st mq => ∃ (i : Nat), (i ≤ t.length) ∧ (fstE (rowX t) (t.length - i) i = fstE (rowX t) t.length 0) ∧ (∀ j, j < i → rowX t j = 0) ∧ st = ⟨[(1, .optr 0 0 0 0), (4, i64 i)], ⟨[⟨1, 1, fun _ => [rowsA t], 0, false, true, true⟩], [], none, 0⟩, []⟩ ∧ mq = t.length - i,
      ⟨_,_,⟨0,by omega,rfl,fun j h=>absurd h (Nat.not_lt_zero j),rfl,rfl⟩,⟨⟨.inl rfl,rfl,rfl,rfl⟩,⟨⟨rfl,rfl,rfl,rfl,fun _=>rfl,fun _ _=>.inl rfl⟩,trivial⟩,trivial⟩⟩,?_⟩
     rintro s0 m0 ⟨i,hi,he,hz,rfl,hmeas⟩
     by_cases hlt : i < t.length
     ·have h158 := S158 t ht i hlt
      rw [fstE_step _ hlt] at he
      by_cases hA : rowA t i = 0
      ·have ho := (rowA_ok hA).1
       have hX : rowX t i = rowO t i := if_neg (not_not_intro hA)
       rw [hA] at h158
       rw [hX] at he
       by_cases hi0 : i = 0
       ·subst hi0
        have hO : rowO t 0 = 0 := if_pos rfl
        rw [hO,if_neg (by decide)] at he
        conv=>whnf
        (conv=>whnf); refine ifB_dec (fun w3=>?_) (fun w3=>?_)
        ·conv=>whnf
         (conv=>whnf); refine .inl ⟨_,_,byX rfl (Sound1.pl (h158) rfl),?_⟩
         conv=>whnf
         (conv=>whnf); refine ⟨[],by kernel_rfl,?_⟩
         conv=>whnf
         (conv=>whnf); refine ⟨[],by kernel_rfl,?_⟩
         conv=>whnf
         (conv=>whnf); refine ⟨inK64 (by omega) (by omega),?_⟩
         conv=>whnf
         (conv=>whnf); refine ⟨_,_,⟨⟨1,by omega,he,(fun j hj=>by rw [show j = 0 by omega,hX,hO]),rfl,rfl⟩,by omega⟩,⟨⟨.inl rfl,rfl,rfl,rfl⟩,⟨⟨rfl,rfl,rfl,rfl,fun _=>rfl,fun _ _=>.inl rfl⟩,trivial⟩,trivial⟩⟩
        ·(exfalso; omega)
       ·have hpv : 0 ≤ (t.getD (i - 1) r0).o ∧ (t.getD (i - 1) r0).o ≤ 100 := by
         have h2 := hz (i - 1) (by omega)
         unfold rowX at h2
         by_cases e2 : rowA t (i - 1) = 0
         ·exact (rowA_ok e2).1
         ·rw [if_pos e2] at h2; exact absurd h2 e2
        have ei : ((i : Int) - 1).toNat = i - 1 := by omega
        have hmx : IntKind.max .i64 = 9223372036854775807 := by decide
        have hmn : IntKind.min .i64 = -9223372036854775808 := by decide
        have hpv' : 0 ≤ (t.getD ((i : Int) - 1).toNat r0).o ∧ (t.getD ((i : Int) - 1).toNat r0).o ≤ 100 := by rw [ei]; exact hpv
        have ho' : 0 ≤ (t.getD (i : Int).toNat r0).o ∧ (t.getD (i : Int).toNat r0).o ≤ 100 := ho
        have hd : inK .i64 ((t.getD (i : Int).toNat r0).o - (t.getD ((i : Int) - 1).toNat r0).o) := ⟨by omega,by omega⟩
        have hi1 : inK .i64 ((i : Int) - 1) := ⟨by omega,by omega⟩
        have hip : (i : Int) > 0 := by omega
        by_cases c1 : (t.getD i r0).o ≤ (t.getD (i - 1) r0).o
        ·have hO : rowO t i = 9 := by unfold rowO; rw [if_neg hi0,if_pos c1]
         rw [hO,if_pos (by decide)] at he
         rw [← he,if_pos (show (9 : Int) ≠ 0 by decide)]
         have c1' : (t.getD (i : Int).toNat r0).o ≤ (t.getD ((i : Int) - 1).toNat r0).o := by rw [ei]; exact c1
         conv=>whnf
         (conv=>whnf); refine ifB_dec (fun w3=>?_) (fun w3=>?_)
         ·conv=>whnf
          (conv=>whnf); refine .inl ⟨_,_,byX rfl (Sound1.pl (h158) rfl),?_⟩
          conv=>whnf
          (conv=>whnf); refine ⟨[],by kernel_rfl,?_⟩
          conv=>whnf
          (conv=>whnf); refine ifB_dec (fun w4=>?_) (fun w4=>?_)
          ·conv=>whnf
           (conv=>whnf); refine ⟨⟨(by omega),(by omega)⟩,?_⟩
           conv=>whnf
           (conv=>whnf); refine ⟨inK64 (by omega) (by omega),?_⟩
           conv=>whnf
           (conv=>whnf); refine ⟨⟨(by omega),(by omega)⟩,?_⟩
           conv=>whnf
           (conv=>whnf); refine ifB_dec (fun w5=>?_) (fun w5=>?_)
           ·conv=>whnf
            (conv=>whnf); refine ⟨?_,nofun⟩
            (first | contradiction | exact hi1 | exact hd | omega | exact ave_tup2 rfl rfl)
           ·(exfalso; omega)
          ·(exfalso; omega)
         ·(exfalso; omega)
        ·have c1' : ¬ (t.getD (i : Int).toNat r0).o ≤ (t.getD ((i : Int) - 1).toNat r0).o := by rw [ei]; exact c1
         by_cases c2 : (t.getD i r0).o - (t.getD (i - 1) r0).o > 20
         ·have hO : rowO t i = 22 := by unfold rowO; rw [if_neg hi0, if_neg c1, if_pos c2]
          rw [hO,if_pos (by decide)] at he
          rw [← he,if_pos (show (22 : Int) ≠ 0 by decide)]
          have c2' : (t.getD (i : Int).toNat r0).o - (t.getD ((i : Int) - 1).toNat r0).o > 20 := by rw [ei]; exact c2
          conv=>whnf
          (conv=>whnf); refine ifB_dec (fun w3=>?_) (fun w3=>?_)
          ·conv=>whnf
           (conv=>whnf); refine .inl ⟨_,_,byX rfl (Sound1.pl (h158) rfl),?_⟩
           conv=>whnf
           (conv=>whnf); refine ⟨[],by kernel_rfl,?_⟩
           conv=>whnf
           (conv=>whnf); refine ifB_dec (fun w4=>?_) (fun w4=>?_)
           ·conv=>whnf
            (conv=>whnf); refine ⟨⟨(by omega),(by omega)⟩,?_⟩
            conv=>whnf
            (conv=>whnf); refine ⟨inK64 (by omega) (by omega),?_⟩
            conv=>whnf
            (conv=>whnf); refine ⟨⟨(by omega),(by omega)⟩,?_⟩
            conv=>whnf
            (conv=>whnf); refine ifB_dec (fun w5=>?_) (fun w5=>?_)
            ·(exfalso; omega)
            ·conv=>whnf
             (conv=>whnf); refine ⟨[],by kernel_rfl,?_⟩
             conv=>whnf
             (conv=>whnf); refine ifB_dec (fun w6=>?_) (fun w6=>?_)
             ·conv=>whnf
              (conv=>whnf); refine ⟨⟨(by omega),(by omega)⟩,?_⟩
              conv=>whnf
              (conv=>whnf); refine ⟨inK64 (by omega) (by omega),?_⟩
              conv=>whnf
              (conv=>whnf); refine ⟨⟨(by omega),(by omega)⟩,?_⟩
              conv=>whnf
              (conv=>whnf); refine ⟨inK64 (by omega) (by omega),?_⟩
              conv=>whnf
              (conv=>whnf); refine ifB_dec (fun w7=>?_) (fun w7=>?_)
              ·conv=>whnf
               (conv=>whnf); refine ⟨?_,nofun⟩
               (first | contradiction | exact hi1 | exact hd | omega | exact ave_tup2 rfl rfl)
              ·(exfalso; omega)
             ·(exfalso; omega)
           ·(exfalso; omega)
          ·(exfalso; omega)
         ·have hO : rowO t i = 0 := by unfold rowO; rw [if_neg hi0, if_neg c1, if_neg c2]
          rw [hO,if_neg (by decide)] at he
          have c2' : ¬ (t.getD (i : Int).toNat r0).o - (t.getD ((i : Int) - 1).toNat r0).o > 20 := by rw [ei]; exact c2
          conv=>whnf
          (conv=>whnf); refine ifB_dec (fun w3=>?_) (fun w3=>?_)
          ·conv=>whnf
           (conv=>whnf); refine .inl ⟨_,_,byX rfl (Sound1.pl (h158) rfl),?_⟩
           conv=>whnf
           (conv=>whnf); refine ⟨[],by kernel_rfl,?_⟩
           conv=>whnf
           (conv=>whnf); refine ifB_dec (fun w4=>?_) (fun w4=>?_)
           ·conv=>whnf
            (conv=>whnf); refine ⟨⟨(by omega),(by omega)⟩,?_⟩
            conv=>whnf
            (conv=>whnf); refine ⟨inK64 (by omega) (by omega),?_⟩
            conv=>whnf
            (conv=>whnf); refine ⟨⟨(by omega),(by omega)⟩,?_⟩
            conv=>whnf
            (conv=>whnf); refine ifB_dec (fun w5=>?_) (fun w5=>?_)
            ·(exfalso; omega)
            ·conv=>whnf
             (conv=>whnf); refine ⟨[],by kernel_rfl,?_⟩
             conv=>whnf
             (conv=>whnf); refine ifB_dec (fun w6=>?_) (fun w6=>?_)
             ·conv=>whnf
              (conv=>whnf); refine ⟨⟨(by omega),(by omega)⟩,?_⟩
              conv=>whnf
              (conv=>whnf); refine ⟨inK64 (by omega) (by omega),?_⟩
              conv=>whnf
              (conv=>whnf); refine ⟨⟨(by omega),(by omega)⟩,?_⟩
              conv=>whnf
              (conv=>whnf); refine ⟨inK64 (by omega) (by omega),?_⟩
              conv=>whnf
              (conv=>whnf); refine ifB_dec (fun w7=>?_) (fun w7=>?_)
              ·(exfalso; omega)
              ·conv=>whnf
               (conv=>whnf); refine ⟨inK64 (by omega) (by omega),?_⟩
               conv=>whnf
               (conv=>whnf); refine ⟨_,_,⟨⟨i + 1,by omega,he,(fun j hj=>by by_cases e : j = i; (rw [e,hX,hO]); exact hz j (by omega)),rfl,rfl⟩,by omega⟩,⟨⟨.inl rfl,rfl,rfl,rfl⟩,⟨⟨rfl,rfl,rfl,rfl,fun _=>rfl,fun _ _=>.inl rfl⟩,trivial⟩,trivial⟩⟩
             ·(exfalso; omega)
           ·(exfalso; omega)
          ·(exfalso; omega)
      ·have hX : rowX t i = rowA t i := if_pos hA
       rw [hX,if_pos hA] at he
       rw [← he,if_pos hA]
       conv=>whnf
       (conv=>whnf); refine ifB_dec (fun w3=>?_) (fun w3=>?_)
       ·conv=>whnf
        (conv=>whnf); refine .inl ⟨_,_,byX rfl (Sound1.pl (h158) rfl),?_⟩
        conv=>whnf
        (conv=>whnf); refine ifB_bne (fun w4=>?_) (fun w4=>?_)
        ·conv=>whnf
         (conv=>whnf); refine ⟨?_,nofun⟩
         (first | contradiction | exact ave_tup2 rfl rfl)
        ·(exfalso; omega)
       ·(exfalso; omega)
     ·rw [fstE_end _ hlt] at he
      have hE : (fstE (rowX t) t.length 0).2 = 0 := by rw [← he]
      have hR := RwOk.of ⟨by omega,by omega⟩ hE
      rw [if_neg (not_not_intro hE)]
      conv=>whnf
      (conv=>whnf); refine ifB_dec (fun w3=>?_) (fun w3=>?_)
      ·(exfalso; omega)
      ·conv => whnf
       (conv=>whnf); refine ⟨[],[1,6],fun st mq=>∃ (i : Nat),(i + 1 ≤ t.length) ∧ (fstE (stripE t) (t.length - 1 - i) i = fstE (stripE t) (t.length - 1) 0) ∧ st = ⟨[(1,.optr 0 0 0 0),(6,i64 i)],⟨[⟨1,1,fun _=>[rowsA t],0,false,true,true⟩],[],none,0⟩,[]⟩ ∧ mq = t.length - i,
        ⟨_,_,⟨0,by omega,rfl,rfl,rfl⟩,⟨⟨.inl rfl,rfl,rfl,rfl⟩,⟨⟨rfl,rfl,rfl,rfl,fun _=>rfl,fun _ _=>.inl rfl⟩,trivial⟩,trivial⟩⟩,?_⟩
       rintro s0 m0 ⟨i,hi,hs,rfl,hmeas⟩
       by_cases hlt2 : i + 1 < t.length
       ·have hl1 : (t.getD i r0).ps.length = npT t := hR.len i (by omega)
        have hnp := hR.np
        have h159 := S159 t hR i hlt2
        have hlen := triK_len t i (npT t - 1)
        have hok := fun j hj=>triK_ok hR hlt2 (j := j) hj
        have hst := trE_strip t i (npT t - 1) 0 (Nat.zero_le _)
        rw [Nat.mul_zero,Nat.sub_zero,Nat.sub_zero] at hst
        have hse : stripE t i = (fstE (quadE t i) (npT t - 1) 0).2 := by unfold stripE; rw [hl1]
        rw [← hst] at hse
        generalize triK t i (npT t - 1) = L at h159 hlen hok hse
        rw [fstE_step _ (show i < t.length - 1 by omega)] at hs
        conv=>whnf
        conv=>whnf
        (conv=>whnf); refine ⟨inK64 (by omega) (by omega),?_⟩
        conv=>whnf
        conv=>whnf
        (conv=>whnf); refine ifB_dec (fun w4=>?_) (fun w4=>?_)
        ·conv=>whnf
         conv=>whnf
         (conv=>whnf); refine .inl ⟨_,_,byX rfl (h159),?_⟩
         conv=>whnf
         conv=>whnf
         (conv=>whnf); refine ⟨[],[1,6,7,8],fun st mq=>∃ (j : Nat),(j ≤ L.length) ∧ (fstE (trE L) (L.length - j) j = fstE (trE L) L.length 0) ∧ st = ⟨[(1,.optr 0 0 0 0),(6,i64 i),(7,tris L),(8,i64 j)],⟨[⟨1,1,fun _=>[rowsA t],0,false,true,true⟩],[],none,0⟩,[]⟩ ∧ mq = L.length - j,
          ⟨_,_,⟨0,by omega,rfl,rfl,rfl⟩,⟨⟨.inl rfl,rfl,rfl,rfl⟩,⟨⟨rfl,rfl,rfl,rfl,fun _=>rfl,fun _ _=>.inl rfl⟩,trivial⟩,trivial⟩⟩,?_⟩
         rintro s0 m0 ⟨j,hj,hq,rfl,hmeas⟩
         rw [← hlen] at hse
         by_cases hlt3 : j < L.length
         ·obtain ⟨o1,o2,o3⟩ := hok j (by omega)
          have h117 := S117 _ _ _ o1 o2 o3
          rw [fstE_step _ hlt3] at hq
          by_cases g : turnI (L.getD j tri0).1.1 (L.getD j tri0).2.1.1 (L.getD j tri0).2.2.1 ≤ 0
          ·have e1 : trE L j = 13 := if_pos g
           rw [e1,if_pos (by decide)] at hq
           have e2 : stripE t i = 13 := by rw [hse,← hq]
           rw [e2,if_pos (by decide)] at hs
           rw [← hs]
           conv=>whnf
           conv=>whnf
           conv=>whnf
           (conv=>whnf); refine ifB_dec (fun w5=>?_) (fun w5=>?_)
           ·conv=>whnf
            conv=>whnf
            conv=>whnf
            (conv=>whnf); refine ⟨[],by kernel_rfl,?_⟩
            conv=>whnf
            conv=>whnf
            conv=>whnf
            (conv=>whnf); refine ⟨⟨(by omega),(by omega)⟩,?_⟩
            conv=>whnf
            conv=>whnf
            conv=>whnf
            (conv=>whnf); refine ⟨⟨(by omega),(by omega)⟩,?_⟩
            conv=>whnf
            conv=>whnf
            conv=>whnf
            (conv=>whnf); refine ⟨⟨(by omega),(by omega)⟩,?_⟩
            conv=>whnf
            conv=>whnf
            conv=>whnf
            (conv=>whnf); refine ⟨⟨(by omega),(by omega)⟩,?_⟩
            conv=>whnf
            conv=>whnf
            conv=>whnf
            (conv=>whnf); refine ⟨⟨(by omega),(by omega)⟩,?_⟩
            conv=>whnf
            conv=>whnf
            conv=>whnf
            (conv=>whnf); refine ⟨⟨(by omega),(by omega)⟩,?_⟩
            conv=>whnf
            conv=>whnf
            conv=>whnf
            (conv=>whnf); refine .inl ⟨_,_,byX rfl (Sound1.pl (h117) rfl),?_⟩
            conv=>whnf
            conv=>whnf
            conv=>whnf
            (conv=>whnf); refine ifB_dec (fun w6=>?_) (fun w6=>?_)
            ·conv=>whnf
             conv=>whnf
             conv=>whnf
             (conv=>whnf); refine ⟨?_,nofun⟩
             (first | contradiction | omega | exact ave_tup2 rfl rfl)
            ·(exfalso; omega)
           ·(exfalso; omega)
          ·have e1 : trE L j = 0 := if_neg g
           rw [e1,if_neg (by decide)] at hq
           conv=>whnf
           conv=>whnf
           conv=>whnf
           (conv=>whnf); refine ifB_dec (fun w5=>?_) (fun w5=>?_)
           ·conv=>whnf
            conv=>whnf
            conv=>whnf
            (conv=>whnf); refine ⟨[],by kernel_rfl,?_⟩
            conv=>whnf
            conv=>whnf
            conv=>whnf
            (conv=>whnf); refine ⟨⟨(by omega),(by omega)⟩,?_⟩
            conv=>whnf
            conv=>whnf
            conv=>whnf
            (conv=>whnf); refine ⟨⟨(by omega),(by omega)⟩,?_⟩
            conv=>whnf
            conv=>whnf
            conv=>whnf
            (conv=>whnf); refine ⟨⟨(by omega),(by omega)⟩,?_⟩
            conv=>whnf
            conv=>whnf
            conv=>whnf
            (conv=>whnf); refine ⟨⟨(by omega),(by omega)⟩,?_⟩
            conv=>whnf
            conv=>whnf
            conv=>whnf
            (conv=>whnf); refine ⟨⟨(by omega),(by omega)⟩,?_⟩
            conv=>whnf
            conv=>whnf
            conv=>whnf
            (conv=>whnf); refine ⟨⟨(by omega),(by omega)⟩,?_⟩
            conv=>whnf
            conv=>whnf
            conv=>whnf
            (conv=>whnf); refine .inl ⟨_,_,byX rfl (Sound1.pl (h117) rfl),?_⟩
            conv=>whnf
            conv=>whnf
            conv=>whnf
            (conv=>whnf); refine ifB_dec (fun w6=>?_) (fun w6=>?_)
            ·(exfalso; omega)
            ·conv=>whnf
             conv=>whnf
             conv=>whnf
             (conv=>whnf); refine ⟨inK64 (by omega) (by omega),?_⟩
             conv=>whnf
             conv=>whnf
             conv=>whnf
             (conv=>whnf); refine ⟨_,_,⟨⟨j + 1,by omega,hq,rfl,rfl⟩,by omega⟩,⟨⟨.inl rfl,rfl,rfl,rfl⟩,⟨⟨rfl,rfl,rfl,rfl,fun _=>rfl,fun _ _=>.inl rfl⟩,trivial⟩,trivial⟩⟩
           ·(exfalso; omega)
         ·rw [fstE_end _ hlt3] at hq
          have e2 : stripE t i = 0 := by rw [hse,← hq]
          rw [e2,if_neg (by decide)] at hs
          conv=>whnf
          conv=>whnf
          conv=>whnf
          (conv=>whnf); refine ifB_dec (fun w5=>?_) (fun w5=>?_)
          ·(exfalso; omega)
          ·conv=>whnf
           conv=>whnf
           conv=>whnf
           (conv=>whnf); refine ⟨inK64 (by omega) (by omega),?_⟩
           conv=>whnf
           conv=>whnf
           conv=>whnf
           (conv=>whnf); refine ⟨_,_,⟨⟨i + 1,by omega,hs,rfl,rfl⟩,by omega⟩,⟨⟨.inl rfl,rfl,rfl,rfl⟩,⟨⟨rfl,rfl,rfl,rfl,fun _=>rfl,fun _ _=>.inl rfl⟩,trivial⟩,trivial⟩⟩
        ·(exfalso; omega)
       ·rw [fstE_end _ (show ¬ i < t.length - 1 by omega)] at hs
        rw [← hs]
        conv=>whnf
        conv=>whnf
        (conv=>whnf); refine ⟨inK64 (by omega) (by omega),?_⟩
        conv=>whnf
        conv=>whnf
        (conv=>whnf); refine ifB_dec (fun w4=>?_) (fun w4=>?_)
        ·(exfalso; omega)
        ·conv=>whnf
         conv=>whnf
         (conv=>whnf); refine ⟨?_,nofun⟩
         (first | contradiction | omega | exact ave_tup2 rfl rfl)
theorem S39 (t : List MRow) (ht : Fit t) : SP 39 [tblA t] (i64 (chkM t).2) false := by
 have h := S107 t ht
 refine sound (d := 2) tok2 mixed2 Tryz.func39 (by kernel_rfl) (by kernel_rfl) ?_
 (conv=>whnf); refine .inl ⟨_,_,byX rfl (Sound1.pl (h) rfl),?_⟩
 (conv=>whnf); refine ⟨?_,nofun⟩
 (first | rfl)
end Go.Tr

/- Contracts of chapter 5: areas of tables. Conditions: none. -/
-- seat YtgbdlkajmmjahaaGreat
namespace Go.Tr
open Go Go.Proofs
set_option maxRecDepth 20000
set_option maxHeartbeats 8000000

theorem RwOk.ofT {t : List MRow} (h : TblOk t) : RwOk t := ⟨h.n,h.np,h.len,h.pts⟩
end Go.Tr

/- Contracts of chapter 5: the reference's area of a table. Conditions: none. -/
-- seat YtgbdlkajmmjahaaGreat
namespace Go.Tr
open Go Go.Proofs
set_option maxRecDepth 20000
set_option maxHeartbeats 8000000

def triT (t : List MRow) : Nat → List Tri
  | 0=>[]
  | i + 1=>triT t i ++ triK t i (npT t - 1)
theorem triT_len (t : List MRow) : ∀ i,(triT t i).length = i * (2 * (npT t - 1))
 | 0=>by simp [triT]
 | i + 1=>by
  unfold triT
  rw [List.length_append,triT_len t i,triK_len]
  generalize 2 * (npT t - 1) = X
  rw [Nat.add_mul,Nat.one_mul]
theorem app_trs (L M : List Tri) (n m j : Nat) (hn : L.length = n) (hm : M.length = m) (hj : j < n + m) : rtC ((L ++ M).getD j tri0) = if j < n then rtC (L.getD (0 + j) tri0) else rtC (M.getD (j - n) tri0) := by
 subst hn hm
 rw [Nat.zero_add]
 by_cases h : j < L.length
 ·rw [if_pos h]; simp [List.getD_eq_getElem?_getD,List.getElem?_append_left h]
 ·rw [if_neg h]; simp [List.getD_eq_getElem?_getD,List.getElem?_append_right (show L.length ≤ j by omega)]
theorem S108 (t : List MRow) (hR : RwOk t) : SP 108 [tblA t] (tris (triT t (t.length - 1))) false := by
 have hn := hR.n
 have hnp := hR.np
 have hb : Tryz.prog.types[186].bytes = 96 := by kernel_rfl
 refine sound (d := 2) tok2 mixed2 Tryz.func108 (by kernel_rfl) (by kernel_rfl) ?_
 (conv=>whnf); refine ⟨[.slot 3 12],[1,3,4],fun st mq=>∃ (i : Nat) (L : List Tri) (m : Nat),(i + 1 ≤ t.length) ∧ (L = triT t i) ∧ (L.length = m) ∧ (m ≤ 6 * 10) ∧ st = ⟨[(1,.optr 0 0 0 0),(3,.oslice 1 0 0 m none),(4,i64 i)],⟨[⟨1,1,fun _=>[rowsA t],0,false,true,true⟩,⟨12,m,fun j=>rtC (L.getD j tri0),0,false,true,false⟩],[],none,0⟩,[]⟩ ∧ mq = t.length - i,
  ⟨_,_,⟨0,[],0,by omega,rfl,rfl,by omega,rfl,rfl⟩,⟨⟨.inl rfl,rfl,rfl,rfl⟩,⟨⟨rfl,rfl,rfl,rfl,fun _=>rfl,fun _ _=>.inl rfl⟩,⟨⟨rfl,rfl,rfl,rfl,fun _=>rfl,fun i h=>.inl (absurd h (Nat.not_lt_zero i))⟩,trivial⟩⟩,trivial⟩⟩,?_⟩
 rintro s0 m0 ⟨i,L,m,hi,hL,hm,hm6,rfl,hmeas⟩
 by_cases hlt : i + 1 < t.length
 ·have h159 := S159 t hR i hlt
  have hkl := triK_len t i (npT t - 1)
  have hneed : (m + (triK t i (npT t - 1)).length) * (Tryz.prog.types[186].bytes + 1) ≤ 1000000000000 := by rw [hb]; omega
  have hl2 : (L ++ triK t i (npT t - 1)).length = m + (triK t i (npT t - 1)).length := by rw [List.length_append,hm]
  have hl3 := triT_len t (i + 1)
  have hl4 : (i + 1) * (2 * (npT t - 1)) ≤ 5 * 10 := Nat.mul_le_mul (by omega) (by omega)
  conv=>whnf
  (conv=>whnf); refine ⟨inK64 (by omega) (by omega),?_⟩
  conv=>whnf
  (conv=>whnf); refine ifB_dec (fun w1=>?_) (fun w1=>?_)
  ·conv=>whnf
   (conv=>whnf); refine .inl ⟨_,_,byX rfl (h159),?_⟩
   conv=>whnf
   (conv=>whnf); refine .inl ?_
   conv=>whnf
   (conv=>whnf); refine ⟨(by show _ * (96 + 1) ≤ _; omega),?_⟩
   conv=>whnf
   (conv=>whnf); refine ⟨inK64 (by omega) (by omega),?_⟩
   conv=>whnf
   (conv=>whnf); refine ⟨_,_,⟨⟨i + 1,L ++ triK t i (npT t - 1),m + (triK t i (npT t - 1)).length,by omega,(by rw [hL]; rfl),hl2,(by rw [← hl2,hL,show triT t i ++ triK t i (npT t - 1) = triT t (i + 1) from rfl]; omega),rfl,rfl⟩,by omega⟩,⟨⟨.inl rfl,rfl,rfl,rfl⟩,⟨⟨rfl,rfl,rfl,rfl,fun _=>rfl,fun _ _=>.inl rfl⟩,⟨⟨rfl,rfl,rfl,rfl,fun _=>rfl,fun j hj=>.inl (app_trs L _ m _ j hm rfl hj)⟩,trivial⟩⟩,trivial⟩⟩
  ·(exfalso; omega)
 ·have e : i = t.length - 1 := by omega
  rw [← e,← hL]
  conv=>whnf
  (conv=>whnf); refine ⟨inK64 (by omega) (by omega),?_⟩
  conv=>whnf
  (conv=>whnf); refine ifB_dec (fun w1=>?_) (fun w1=>?_)
  ·(exfalso; omega)
  ·conv=>whnf
   (conv=>whnf); refine ⟨?_,nofun⟩
   exact ⟨rfl,hm.symm,fun _ _=>rfl⟩
end Go.Tr

/- Contracts of chapter 5: the bounds of a table. Conditions: none. -/
/- Contracts of chapter 5: the curve of an opening. Conditions: none. -/
-- seat YtgbdlkajmmjahaaGreat
namespace Go.Tr
open Go Go.Proofs
set_option maxRecDepth 20000
set_option maxHeartbeats 8000000

theorem inK_of {n : Int} (h : -9223372036854775808 ≤ n ∧ n ≤ 9223372036854775807) : inK .i64 n := inK64 h.1 h.2
end Go.Tr

/- Contracts of chapter 5: the reference's spots, comparisons, openings. Conditions: none. -/
-- seat YtgbdlkajmmjahaaGreat
namespace Go.Tr
open Go Go.Proofs
set_option maxRecDepth 20000
set_option maxHeartbeats 8000000

def R3k (k : Nat) (q : Q3) : Prop := Rk k q.1 ∧ Rk k q.2.1 ∧ Rk k q.2.2
theorem R3k.mono {k l : Nat} {q : Q3} (h : R3k k q) (hl : k ≤ l) : R3k l q := ⟨h.1.mono hl,h.2.1.mono hl,h.2.2.mono hl⟩
theorem NmB.rk {d : Int} {n : Nm} (h : NmB d n) {k : Nat} (hd : (10000 * d).natAbs < 1000000000 ^ k) : R3k k (nmQ n) := by
 obtain ⟨h0,h1,h2,h3⟩ := h
 have z : ∀ x : Int,x.natAbs ≤ (10000 * d).natAbs → Zk k x := fun x hx=>Zk.small (Nat.lt_of_le_of_lt hx hd)
 exact ⟨Rk.divI (by omega) (z _ (by omega)) (z _ (by omega)),Rk.divI (by omega) (z _ (by omega)) (z _ (by omega)),Rk.divI (by omega) (z _ (by omega)) (z _ (by omega))⟩
theorem sg_neg {z : Int} (h : z < 0) : sgI z = -1 := by have := sg_cases z; omega
theorem sg_pos {z : Int} (h : 0 < z) : sgI z = 1 := by have := sg_cases z; omega
end Go.Tr

/- Contracts of chapter 5: what of a curve lies on a line; numbers as spots. Conditions: none. -/
-- seat YtgbdlkajmmjahaaGreat
namespace Go.Tr
open Go Go.Proofs
set_option maxRecDepth 20000
set_option maxHeartbeats 8000000

theorem extG {α : Type} (g : α → List AV) {m : Nat} (hg : ∀ a,(g a).length = m) (f : Nat → α) (k i : Nat) (hi : i < k + 1) : g (f i) = if i < k then g (f (0 + i)) else List.take m (List.drop ((i - k) * m) (g (f k))) := by
 by_cases h : i < k
 ·rw [if_pos h,Nat.zero_add]
 ·obtain rfl : i = k := by omega
  rw [if_neg h,Nat.sub_self,Nat.zero_mul,List.drop_zero,List.take_of_length_le (by rw [hg]; exact Nat.le_refl _)]
end Go.Tr

/- Contracts of chapter 5: errors of openings; the curve as spots. Conditions: none. -/
/- Contracts of chapter 5: the reference's curve; spots compared; the law of curves. Conditions: none. -/
/-! ### The reference's curve -/
/- Contracts of chapter 5: spots compared and sorted; spots on a line. Conditions: none. -/
-- seat YtgbdlkajmmjahaaGreat
namespace Go.Tr
open Go Go.Proofs
set_option maxRecDepth 20000
set_option maxHeartbeats 8000000

theorem S157 (x : Int) : SP 157 [i64 x] (vb false) false := by
 refine sound (d := 2) tok2 mixed2 Tryz.func157 (by kernel_rfl) (by kernel_rfl) ?_
 (conv=>whnf); refine ⟨?_,nofun⟩
 exact endb (by simp)
theorem S105 (a b : Int) : SP 105 [i64 a,i64 b] (i64 (sgI (a - b))) false := by
 have h1 := S157 a
 have h2 := S157 b
 refine sound (d := 2) tok2 mixed2 Tryz.func105 (by kernel_rfl) (by kernel_rfl) ?_
 (conv=>whnf); refine .inl ⟨_,_,byX rfl (Sound1.pl (h1) rfl),?_⟩
 (conv=>whnf); refine .inl ⟨_,_,byX rfl (Sound1.pl (h2) rfl),?_⟩
 (conv=>whnf); refine ifB_dec (fun w1=>?_) (fun w1=>?_)
 ·(conv=>whnf); refine ⟨?_,nofun⟩
  exact endi (sg_neg (by omega)).symm
 ·(conv=>whnf); refine ifB_dec (fun w2=>?_) (fun w2=>?_)
  ·(conv=>whnf); refine ⟨?_,nofun⟩
   exact endi (sg_pos (by omega)).symm
  ·(conv=>whnf); refine ⟨?_,nofun⟩
   exact endi (by rw [show a - b = 0 by omega]; rfl)
theorem S94 (p q : Rat) (hp : smR p) (hq : smR q) : SP 94 [gaF (frI p),gaF (frI q)] (i64 (cmpR p q)) false := by
 have h := S105 (p.num * (q.den : Nat)) (q.num * (p.den : Nat))
 unfold smR at hp hq
 have e0 : cmpR p q = sgI ((frI p).1 * (frI q).2 - (frI q).1 * (frI p).2) := rfl
 have m1 := absM (a := p.num) (b := (q.den : Nat)) (A := 1000000000) (B := 1000000000) (by omega) (by omega)
 have m2 := absM (a := q.num) (b := (p.den : Nat)) (A := 1000000000) (B := 1000000000) (by omega) (by omega)
 have i1 : inK .i64 ((frI p).1 * (frI q).2) := inK_of (by show _ ≤ p.num * (q.den : Nat) ∧ p.num * (q.den : Nat) ≤ _; omega)
 have i2 : inK .i64 ((frI q).1 * (frI p).2) := inK_of (by show _ ≤ q.num * (p.den : Nat) ∧ q.num * (p.den : Nat) ≤ _; omega)
 rw [e0]
 refine sound (d := 2) tok2 mixed2 Tryz.func94 (by kernel_rfl) (by kernel_rfl) ?_
 (conv=>whnf); refine ⟨by assumption,?_⟩
 (conv=>whnf); refine ⟨by assumption,?_⟩
 (conv=>whnf); refine .inl ⟨_,_,byX rfl (Sound1.pl (h) rfl),?_⟩
 (conv=>whnf); refine ⟨?_,nofun⟩
 (first | contradiction | rfl)
theorem S115 (l : List Int) (hl : l.length ≤ 1000000000) : SP 115 [ints l] (i64 (firstOf l)) false := by
 refine sound (d := 2) tok2 mixed2 Tryz.func115 (by kernel_rfl) (by kernel_rfl) ?_
 (conv=>whnf); refine ⟨[],[3,6,7,8],fun st mq=>∃ (k : Nat),(k ≤ l.length) ∧ (firstOf (l.drop k) = firstOf l) ∧ st = ⟨[(3,i64 0),(6,ints l),(7,i64 l.length),(8,i64 k)],⟨[],[],none,0⟩,[]⟩ ∧ mq = l.length - k,
  ⟨_,_,⟨0,by omega,rfl,rfl,rfl⟩,⟨⟨.inl rfl,rfl,rfl,rfl⟩,trivial,trivial⟩⟩,?_⟩
 rintro s0 m0 ⟨k,hk,hf,rfl,hmeas⟩
 by_cases hlt : k < l.length
 ·have hd := firstOf_drop l k hlt
  conv=>whnf
  (conv=>whnf); refine ifB_dec (fun w1=>?_) (fun w1=>?_)
  ·conv=>whnf
   (conv=>whnf); refine ⟨⟨(by omega),(by omega)⟩,?_⟩
   conv=>whnf
   (conv=>whnf); refine ifB_bne (fun w2=>?_) (fun w2=>?_)
   ·conv=>whnf
    (conv=>whnf); refine ⟨?_,nofun⟩
    rw [if_neg (show ¬ l.getD k 0 = 0 from w2)] at hd
    show i64 _ = i64 _
    rw [← hf,hd]; rfl
   ·conv=>whnf
    (conv=>whnf); refine ⟨inK64 (by omega) (by omega),?_⟩
    rw [if_pos (show l.getD k 0 = 0 from w2)] at hd
    conv=>whnf
    (conv=>whnf); refine ⟨_,_,⟨⟨k + 1,by omega,hd.symm.trans hf,rfl,rfl⟩,by omega⟩,⟨⟨.inl rfl,rfl,rfl,rfl⟩,trivial,trivial⟩⟩
  ·(exfalso; omega)
 ·have e : k = l.length := by omega
  subst e
  conv=>whnf
  (conv=>whnf); refine ifB_dec (fun w1=>?_) (fun w1=>?_)
  ·(exfalso; omega)
  ·conv=>whnf
   (conv=>whnf); refine ⟨?_,nofun⟩
   simp [firstOf] at hf
   show i64 _ = i64 _
   rw [← hf]
theorem S153 (n : Nat) (h : n ≤ 12) : ∃ r,SP 153 [.val (.int .u64 n)] (i64 r) false := by
 have : n = 0 ∨ n = 1 ∨ n = 2 ∨ n = 3 ∨ n = 4 ∨ n = 5 ∨ n = 6 ∨ n = 7 ∨ n = 8 ∨ n = 9 ∨ n = 10 ∨ n = 11 ∨ n = 12 := by omega
 rcases this with rfl | rfl | rfl | rfl | rfl | rfl | rfl | rfl | rfl | rfl | rfl | rfl | rfl
 ·exact ⟨_,run_ok mixed2 (l := []) (by simp) 1000 60 (y := i64 0) (by kernel_rfl)⟩
 ·exact ⟨_,run_ok mixed2 (l := []) (by simp) 1000 60 (y := i64 1) (by kernel_rfl)⟩
 ·exact ⟨_,run_ok mixed2 (l := []) (by simp) 1000 60 (y := i64 2) (by kernel_rfl)⟩
 ·exact ⟨_,run_ok mixed2 (l := []) (by simp) 1000 60 (y := i64 2) (by kernel_rfl)⟩
 ·exact ⟨_,run_ok mixed2 (l := []) (by simp) 1000 60 (y := i64 3) (by kernel_rfl)⟩
 ·exact ⟨_,run_ok mixed2 (l := []) (by simp) 1000 60 (y := i64 3) (by kernel_rfl)⟩
 ·exact ⟨_,run_ok mixed2 (l := []) (by simp) 1000 60 (y := i64 3) (by kernel_rfl)⟩
 ·exact ⟨_,run_ok mixed2 (l := []) (by simp) 1000 60 (y := i64 3) (by kernel_rfl)⟩
 ·exact ⟨_,run_ok mixed2 (l := []) (by simp) 1000 60 (y := i64 4) (by kernel_rfl)⟩
 ·exact ⟨_,run_ok mixed2 (l := []) (by simp) 1000 60 (y := i64 4) (by kernel_rfl)⟩
 ·exact ⟨_,run_ok mixed2 (l := []) (by simp) 1000 60 (y := i64 4) (by kernel_rfl)⟩
 ·exact ⟨_,run_ok mixed2 (l := []) (by simp) 1000 60 (y := i64 4) (by kernel_rfl)⟩
 ·exact ⟨_,run_ok mixed2 (l := []) (by simp) 1000 60 (y := i64 4) (by kernel_rfl)⟩
theorem u64_in {n : Nat} (h : n ≤ 12) : inK .u64 (n : Int) := ⟨by
 have : IntKind.min .u64 = 0 := by decide
 omega,by
 have : IntKind.max .u64 = 18446744073709551615 := by decide
 omega⟩
end Go.Tr

/- Contracts of chapter 5: lines; the reference's spots on a line. Conditions: none. -/
-- seat YtgbdlkajmmjahaaGreat
namespace Go.Tr
open Go Go.Proofs
set_option maxRecDepth 20000
set_option maxHeartbeats 8000000

theorem rk_mil {x : Int} (hx : x.natAbs ≤ 1000000) : Rk 1 (x : Rat) := ⟨by rw [Rat.num_intCast]; exact digs_len 1 _ (Nat.lt_of_le_of_lt hx (by decide)),by rw [Rat.den_intCast]; exact digs_len 1 _ (by decide)⟩
theorem put_get {α : Type} (g : α → List AV) {m : Nat} (hg : ∀ a,(g a).length = m) (d : α) (L : List α) (x : α) (k i : Nat) (hk : k ≤ L.length) :
  g ((L.take k ++ [x] ++ L.drop k).getD i d) = if i < k then g (L.getD i d) else if i = k then g x else g (L.getD (i - 1) d) := by
 have h1 : (L.take k).length = k := by rw [List.length_take]; omega
 by_cases h : i < k
 ·rw [if_pos h,List.getD_eq_getElem?_getD,List.append_assoc,List.getElem?_append_left (by omega),List.getElem?_take,if_pos h,List.getD_eq_getElem?_getD]
 ·rw [if_neg h]
  by_cases e : i = k
  ·rw [if_pos e,List.getD_eq_getElem?_getD,List.append_assoc,List.getElem?_append_right (by omega),h1,e,Nat.sub_self]; rfl
  ·rw [if_neg e,List.getD_eq_getElem?_getD,List.append_assoc,List.getElem?_append_right (by omega),h1,List.singleton_append,show i - k = (i - k - 1) + 1 by omega,List.getElem?_cons_succ,List.getElem?_drop,List.getD_eq_getElem?_getD,show k + (i - k - 1) = i - 1 by omega]
theorem take_row {α : Type} (g : α → List AV) {m : Nat} (hg : ∀ a,(g a).length = m) (a : α) : List.take m (g a) = g a := List.take_of_length_le (by rw [hg]; exact Nat.le_refl _)
end Go.Tr

/- Contracts of chapter 5: the reference's spots on a line; the law of lines. Conditions: none. -/
-- seat YtgbdlkajmmjahaaGreat
namespace Go.Tr
open Go Go.Proofs
set_option maxRecDepth 20000
set_option maxHeartbeats 8000000

structure QOk (Q : List Q3) (l : Ln) : Prop where
 len : Q.length ≤ 12
 rk : ∀ k,k < Q.length → R3k 1 (Q.getD k q0)
 side : ∀ k,k < Q.length → Rk 1 (sideQ l (Q.getD k q0))
 ne : ∀ k,k + 1 < Q.length → sgR (sideQ l (Q.getD k q0)) * sgR (sideQ l (Q.getD (k + 1) q0)) < 0 → sideQ l (Q.getD k q0) - sideQ l (Q.getD (k + 1) q0) ≠ 0
 part : ∀ k,k + 1 < Q.length → Rk 1 (sideQ l (Q.getD k q0) / (sideQ l (Q.getD k q0) - sideQ l (Q.getD (k + 1) q0)))
 on : ∀ k,k ≤ Q.length → ∀ q ∈ onQ Q l k,R3k 2 q
theorem sgR_mul {a b : Rat} (h : sgR a * sgR b < 0) : a - b ≠ 0 := fun e=>by
 have e : a = b := by grind
 subst e
 rcases sgR_cases a with ⟨_,g⟩ | ⟨_,g⟩ | ⟨_,g⟩ <;> rw [g] at h <;> exact absurd h (by decide)
theorem CvOk.q {N : List Nm} (hN : CvOk N) {l : Ln} (hl : LnOk l) : QOk (N.map nmQ) l := by
  have hg : ∀ k,k < N.length → (N.map nmQ).getD k q0 = nmQ (N.getD k n0) := fun k hk=>getD_mapG nmQ N k n0 q0 hk
  have hb : ∀ k,k < N.length → NmB 200 (N.getD k n0) := fun k hk=>hN.b _ (getD_memG hk)
  have z : ∀ x : Int,x.natAbs ≤ 880000000 → Zk 1 x := fun x hx=>Zk.small (Nat.lt_of_le_of_lt hx (by decide))
  have hs : ∀ k,k < N.length → sideQ l ((N.map nmQ).getD k q0) = Rat.divInt (sideN l (N.getD k n0)) (N.getD k n0).2 := fun k hk=>by
    rw [hg k hk,side_eq l (by have := (hb k hk).d; omega)]
  refine ⟨by rw [List.length_map]; exact hN.len,fun k hk=>?_,fun k hk=>?_,fun k hk h=>sgR_mul h,fun k hk=>?_,fun k hk q hq=>?_⟩
  · rw [List.length_map] at hk
    rw [hg k hk]
    exact (hb k hk).rk (Nat.lt_of_le_of_lt (show _ ≤ 2000000 by omega) (by decide))
  · rw [List.length_map] at hk
    have hbk := hb k hk
    rw [hs k hk]
    exact Rk.divI (by have := hbk.d; omega) (z _ (by have := (side_b hl hbk).2; omega)) (z _ (by have := hbk.d; omega))
  · rw [List.length_map] at hk
    have hb1 := hb k (by omega)
    have hb2 := hb (k + 1) hk
    have hd : (N.getD k n0).2 = (N.getD (k + 1) n0).2 := hN.d _ (getD_memG (by omega)) _ (getD_memG hk)
    rw [hs k (by omega),hs (k + 1) hk,← hd,frac_of_parts (by have := hb1.d; omega)]
    have s1 := (side_b hl hb1).2
    have s2 := (side_b hl hb2).2
    by_cases e : sideN l (N.getD k n0) - sideN l (N.getD (k + 1) n0) = 0
    · rw [e,Rat.divInt_zero]
      exact rk_mil (x := 0) (by decide)
    · exact Rk.divI e (z _ (by omega)) (z _ (by omega))
  · rw [List.length_map] at hk
    cases h : N with
    | nil => rw [h] at hk; have : k = 0 := by simpa using hk
             rw [this] at hq; cases hq
    | cons y r =>
      have hy : y ∈ N := by rw [h]; simp
      rw [← on_map N l (hN.b y hy).d.1 (fun n hn=>hN.d n hn y hy) k hk] at hq
      obtain ⟨n,hn,e⟩ := List.mem_map.1 hq
      rw [← e]
      exact (onN_ok hN hl k hk n hn).rk (Nat.lt_of_le_of_lt (show _ ≤ 1760000000000000 by decide) (by decide))
end Go.Tr

/- Contracts of chapter 5: spots on lines, operating points, runaway. Conditions: none. -/
-- seat YtgbdlkajmmjahaaGreat
namespace Go.Tr
open Go Go.Proofs
set_option maxRecDepth 20000
set_option maxHeartbeats 8000000

def szE (n : Int) : Int := if -1000 ≤ n ∧ n ≤ 1000 then 0 else 2
def badI : List Int → Nat → Int
  | [],_=>-1
  | x :: r,k=>if -1000 ≤ x ∧ x ≤ 1000 then badI r (k + 1) else (k : Int)
theorem badI_drop (l : List Int) (k : Nat) (h : k < l.length) : badI (l.drop k) k = if -1000 ≤ l.getD k 0 ∧ l.getD k 0 ≤ 1000 then badI (l.drop (k + 1)) (k + 1) else (k : Int) := by
  rw [List.drop_eq_getElem_cons h]
  simp [badI,List.getD_eq_getElem?_getD,h]
theorem S139 (n : Int) : SP 139 [i64 n] (vb (!win n (-1000) 1000)) false := by
 have h := S140 n 1000 (by decide)
 refine sound (d := 2) tok2 mixed2 Tryz.func139 (by kernel_rfl) (by kernel_rfl) ?_
 (conv=>whnf); refine .inl ⟨_,_,byX rfl (Sound1.pl (h) rfl),?_⟩
 (conv=>whnf); refine ⟨?_,nofun⟩
 (first | contradiction | rfl)
theorem S170 (l : List Int) (hl : l.length ≤ 1000) : SP 170 [ints l,.func (.func 139) 0 []] (i64 (badI l 0)) false := by
 refine sound (d := 2) tok2 mixed2 Tryz.func170 (by kernel_rfl) (by kernel_rfl) ?_
 (conv=>whnf); refine ⟨[],[0,1,7,8],fun st mq=>∃ (k : Nat),(k ≤ l.length) ∧ (badI (l.drop k) k = badI l 0) ∧ st = ⟨[(0,ints l),(1,.func (.func 139) 0 []),(7,i64 l.length),(8,i64 k)],⟨[],[],none,0⟩,[]⟩ ∧ mq = l.length - k,
  ⟨_,_,⟨0,by omega,rfl,rfl,rfl⟩,⟨⟨.inl rfl,rfl,rfl,rfl⟩,trivial,trivial⟩⟩,?_⟩
 rintro s0 m0 ⟨k,hk,he,rfl,hmeas⟩
 by_cases hlt : k < l.length
 ·have hd := badI_drop l k hlt
  have c1 := S139 (l.getD k 0)
  unfold win at c1
  by_cases g : -1000 ≤ l.getD k 0 ∧ l.getD k 0 ≤ 1000
  ·rw [if_pos g] at hd
   rw [decide_eq_true g] at c1
   conv=>whnf
   (conv=>whnf); refine ifB_dec (fun w1=>?_) (fun w1=>?_)
   ·conv=>whnf
    (conv=>whnf); refine ⟨⟨(by omega),(by omega)⟩,?_⟩
    conv=>whnf
    (conv=>whnf); refine .inl ⟨_,_,byX rfl (Sound1.pl (c1) rfl),?_⟩
    conv=>whnf
    (conv=>whnf); refine ⟨inK64 (by omega) (by omega),?_⟩
    conv=>whnf
    (conv=>whnf); refine ⟨_,_,⟨⟨k + 1,by omega,hd.symm.trans he,rfl,rfl⟩,by omega⟩,⟨⟨.inl rfl,rfl,rfl,rfl⟩,trivial,trivial⟩⟩
   ·(exfalso; omega)
  ·rw [if_neg g] at hd
   rw [decide_eq_false g] at c1
   conv=>whnf
   (conv=>whnf); refine ifB_dec (fun w1=>?_) (fun w1=>?_)
   ·conv=>whnf
    (conv=>whnf); refine ⟨⟨(by omega),(by omega)⟩,?_⟩
    conv=>whnf
    (conv=>whnf); refine .inl ⟨_,_,byX rfl (Sound1.pl (c1) rfl),?_⟩
    conv=>whnf
    (conv=>whnf); refine ⟨?_,nofun⟩
    exact endi (hd.symm.trans he)
   ·(exfalso; omega)
 ·obtain rfl : k = l.length := by omega
  rw [List.drop_length] at he
  conv=>whnf
  (conv=>whnf); refine ifB_dec (fun w1=>?_) (fun w1=>?_)
  ·(exfalso; omega)
  ·conv=>whnf
   (conv=>whnf); refine ⟨?_,nofun⟩
   exact endi he
theorem S138 (l : List Int) (hl : l.length ≤ 1000) : SP 138 [ints l,.func (.func 139) 0 []] (vb (decide (badI l 0 ≥ 0))) false := by
 have h := S170 l hl
 refine sound (d := 2) tok2 mixed2 Tryz.func138 (by kernel_rfl) (by kernel_rfl) ?_
 (conv=>whnf); refine .inl ⟨_,_,byX rfl (Sound1.pl (h) rfl),?_⟩
 (conv=>whnf); refine ⟨?_,nofun⟩
 (first | contradiction | rfl)
theorem S77 (l : List Int) (hl : l.length ≤ 1000) : SP 77 [ints l] (i64 (if badI l 0 ≥ 0 then 2 else 0)) false := by
 have h := S138 l hl
 have h78 := S78
 by_cases g : badI l 0 ≥ 0
 ·rw [decide_eq_true g] at h
  rw [if_pos g]
  refine sound (d := 2) tok2 mixed2 Tryz.func77 (by kernel_rfl) (by kernel_rfl) ?_
  (conv=>whnf); refine .inl ⟨_,_,byX rfl (Sound1.pl (h) rfl),?_⟩
  (conv=>whnf); refine .inl ⟨_,_,byX rfl (Sound1.pl (h78 _ _) rfl),?_⟩
  (conv=>whnf); refine ⟨?_,nofun⟩
  (first | contradiction | rfl)
 ·rw [decide_eq_false g] at h
  rw [if_neg g]
  refine sound (d := 2) tok2 mixed2 Tryz.func77 (by kernel_rfl) (by kernel_rfl) ?_
  (conv=>whnf); refine .inl ⟨_,_,byX rfl (Sound1.pl (h) rfl),?_⟩
  (conv=>whnf); refine .inl ⟨_,_,byX rfl (Sound1.pl (h78 _ _) rfl),?_⟩
  (conv=>whnf); refine ⟨?_,nofun⟩
  (first | contradiction | rfl)
theorem S77_2 (a b : Int) {f : Nat → List AV} (h : f 0 = [i64 a] ∧ f 1 = [i64 b]) : SP 77 [.rslice 1 2 f] (i64 (if szE a ≠ 0 then szE a else szE b)) false := by
 have key : ∀ i,i < 2 → f i = [i64 (([a,b] : List Int).getD i 0)] := fun i hi=>by
  match i,hi with
  | 0,_=>exact h.1
  | 1,_=>exact h.2
 have e : (if badI [a,b] 0 ≥ 0 then (2 : Int) else 0) = if szE a ≠ 0 then szE a else szE b := by
  unfold szE badI badI badI
  by_cases g : -1000 ≤ a ∧ a ≤ 1000
  ·rw [if_pos g,if_pos g]
   by_cases g2 : -1000 ≤ b ∧ b ≤ 1000
   ·rw [if_pos g2,if_pos g2]; rfl
   ·rw [if_neg g2,if_neg g2]; rfl
  ·rw [if_neg g,if_neg g]; rfl
 have h77 := S77 [a,b] (by simp)
 rw [e] at h77
 refine h77.argsD rfl fun i y x hy hx=>?_
 match i,hy,hx with
 | 0,hy,hx=>cases hy; cases hx; exact .inr ⟨1,AVF_rows rfl key 0⟩
end Go.Tr

/- Plain laws of chapter 5: what lies on a line; flows at a head. Conditions: none. -/
/- Plain laws of chapter 5: the powers around a triangle; the greatest of numbers. Conditions: none. -/
-- seat YtgbdlkajmmjahaaGreat
namespace Go.Tr
open Go Go.Proofs
set_option maxRecDepth 20000
set_option maxHeartbeats 8000000

def TriP (x : Tri) : Prop := PtOk x.1.1 ∧ PtOk x.2.1.1 ∧ PtOk x.2.2.1
end Go.Tr

/- Contracts of chapter 5: flows at a head, points of runaway. Conditions: none. -/
/- Contracts of chapter 5: the maximum power at a head. Conditions: none. -/
-- seat YtgbdlkajmmjahaaGreat
namespace Go.Tr
open Go Go.Proofs
set_option maxRecDepth 20000
set_option maxHeartbeats 8000000

theorem extE {α : Type} (g : α → List AV) {m : Nat} (hg : ∀ a,(g a).length = m) (f : Nat → α) (k i : Nat) (hi : i < k + 1) (r : List AV) (e : r = g (f k)) : g (f i) = if i < k then g (f (0 + i)) else List.take m (List.drop ((i - k) * m) r) := by
  rw [e]; exact extG g hg f k i hi
end Go.Tr

/- Plain laws of chapter 5: a part of a table has the whole one's curves and powers. Conditions: none. -/
-- seat YtgbdlkajmmjahaaGreat
namespace Go.Tr
open Go Go.Proofs
set_option maxRecDepth 20000
set_option maxHeartbeats 8000000

def sub (t : List MRow) (a n : Nat) : List MRow := (t.drop a).take n
theorem fstE_none {f : Nat → Int} : ∀ {n k : Nat},(∀ i,k ≤ i → i < k + n → f i = 0) → fstE f n k = (0,0)
 | 0,_,_=>rfl
 | n + 1,k,h=>by
  unfold fstE
  rw [if_neg (not_not_intro (h k (Nat.le_refl _) (by omega)))]
  exact fstE_none fun i h1 h2=>h i (by omega) (by omega)
theorem pntE_0 {p : P3} (h : (-1000 ≤ p.1 ∧ p.1 ≤ 1000) ∧ (-1000 ≤ p.2.1 ∧ p.2.1 ≤ 1000) ∧ -10000 ≤ p.2.2 ∧ p.2.2 ≤ 10000) : pntE p = 0 := if_pos h
theorem chk_ok {t : List MRow} (hT : TblOk t) : chkM t = (0,0) := by
 have hn := hT.n
 have hnp := hT.np
 have hA : ∀ i,i < t.length → rowA t i = 0 := fun i hi=>by
  have h1 := hT.op i hi
  have h2 := hT.len i hi
  unfold rowA
  rw [if_neg (not_not_intro h1),if_neg (not_not_intro ⟨by omega,h2⟩),if_neg (by omega)]
  have hz : fstE (fun k=>pntE ((t.getD i r0).ps.getD k p0)) (t.getD i r0).ps.length 0 = (0,0) := fstE_none fun k _ hk=>pntE_0 (hT.pts i k hi (by omega))
  unfold pntsE
  rw [hz]
 have hO : ∀ i,i < t.length → rowO t i = 0 := fun i hi=>by
  unfold rowO
  by_cases h0 : i = 0
  ·rw [if_pos h0]
  ·obtain ⟨j,rfl⟩ : ∃ j,i = j + 1 := ⟨i - 1,by omega⟩
   have := hT.ord j hi
   rw [if_neg h0,Nat.add_sub_cancel,if_neg (by omega),if_neg (by omega)]
 have hX : fstE (rowX t) t.length 0 = (0,0) := fstE_none fun i _ hi=>by
  unfold rowX
  rw [if_neg (not_not_intro (hA i (by omega)))]; exact hO i (by omega)
 have hS : fstE (stripE t) (t.length - 1) 0 = (0,0) := fstE_none fun i _ hi=>by
  unfold stripE
  rw [fstE_none fun k _ hk=>?_]
  have hl := hT.len i (by omega)
  have := hT.ar i k (by omega) (by omega)
  unfold quadE
  rw [if_neg (by omega),if_neg (by omega)]
 unfold chkM
 rw [if_neg (by omega),if_neg (by omega),hX,hS]
 rfl
end Go.Tr

/- Plain laws of chapter 5: the locations of a point. Conditions: none. -/
-- seat YtgbdlkajmmjahaaGreat
namespace Go.Tr
open Go Go.Proofs
set_option maxRecDepth 20000
set_option maxHeartbeats 8000000

def lw (x : Tri) (p : P3) : Nat → Int
 | 0=>turnI p x.2.1.1 x.2.2.1
 | 1=>turnI p x.2.2.1 x.1.1
 | _=>turnI p x.1.1 x.2.1.1
def lo (x : Tri) : Nat → Int
 | 0=>x.1.2
 | 1=>x.2.1.2
 | _=>x.2.2.2
def lp (x : Tri) : Nat → Int
 | 0=>x.1.1.2.2
 | 1=>x.2.1.1.2.2
 | _=>x.2.2.1.2.2
def lar (x : Tri) : Int := turnI x.1.1 x.2.1.1 x.2.2.1
theorem lw_sum (x : Tri) (p : P3) : lw x p 0 + lw x p 1 + lw x p 2 = lar x := by
  unfold lw lar turnI
  grind
def sumW (x : Tri) (p : P3) (f : Nat → Int) : Nat → Int
  | 0=>0
  | k + 1=>sumW x p f k + lw x p k * f k
def lin (x : Tri) (p : P3) : Prop := 0 ≤ lw x p 0 ∧ 0 ≤ lw x p 1 ∧ 0 ≤ lw x p 2
instance (x : Tri) (p : P3) : Decidable (lin x p) := inferInstanceAs (Decidable (_ ∧ _ ∧ _))
def lcQ (x : Tri) (p : P3) : Q2 := (Rat.divInt (sumW x p (lo x) 3) (lar x),Rat.divInt (sumW x p (lp x) 3) (lar x))
def sm2 (q : Q2) : Prop := smR q.1 ∧ smR q.2
instance (q : Q2) : Decidable (sm2 q) := inferInstanceAs (Decidable (smR q.1 ∧ smR q.2))
structure TriL (x : Tri) : Prop where
 p : TriP x
 o : ∀ k,0 ≤ lo x k ∧ lo x k ≤ 100
 a : 0 < lar x
theorem turn_n {a b c : P3} (ha : PtOk a) (hb : PtOk b) (hc : PtOk c) : (turnI a b c).natAbs ≤ 8000000 := by
  have := turn_b ha hb hc
  omega
theorem lw_b {x : Tri} (hx : TriP x) {p : P3} (hp : PtOk p) (k : Nat) : (lw x p k).natAbs ≤ 8000000 := by
 unfold TriP at hx
 match k with
 | 0=>exact turn_n hp hx.2.1 hx.2.2
 | 1=>exact turn_n hp hx.2.2 hx.1
 | k + 2=>exact turn_n hp hx.1 hx.2.1
theorem lp_b {x : Tri} (hx : TriP x) (k : Nat) : (lp x k).natAbs ≤ 10000 := by
 unfold TriP PtOk at hx
 match k with
 | 0=>show x.1.1.2.2.natAbs ≤ _; omega
 | 1=>show x.2.1.1.2.2.natAbs ≤ _; omega
 | k + 2=>show x.2.2.1.2.2.natAbs ≤ _; omega
theorem sumW_b {x : Tri} (hx : TriP x) {p : P3} (hp : PtOk p) {f : Nat → Int} {A : Nat} (hf : ∀ k,(f k).natAbs ≤ A) : ∀ k,(sumW x p f k).natAbs ≤ k * (8000000 * A)
 | 0=>by simp [sumW]
 | k + 1=>by
  have h1 := sumW_b hx hp hf k
  have h2 := absM (lw_b hx hp k) (hf k)
  unfold sumW
  rw [Nat.add_mul,Nat.one_mul]
  omega
def lcs (p : P3) (L : List Tri) : List Q2 := (L.filter fun x=>decide (lin x p)).map fun x=>lcQ x p
theorem lcs_app (p : P3) (L M : List Tri) : lcs p (L ++ M) = lcs p L ++ lcs p M := by unfold lcs; rw [List.filter_append,List.map_append]
theorem lcs_yes {p : P3} {x : Tri} (h : lin x p) : lcs p [x] = [lcQ x p] := by unfold lcs; rw [List.filter_cons,if_pos (decide_eq_true h)]; rfl
theorem lcs_no {p : P3} {x : Tri} (h : ¬ lin x p) : lcs p [x] = [] := by unfold lcs; rw [List.filter_cons,if_neg (by simpa using h)]; rfl
theorem lcs_len (p : P3) (L : List Tri) : (lcs p L).length ≤ L.length := by
 unfold lcs
 rw [List.length_map]
 exact List.length_filter_le ..
def allS2 (L : List Q2) : Bool := L.all fun q=>decide (sm2 q)
theorem allS2_mem {L M : List Q2} (h : ∀ x,x ∈ L ↔ x ∈ M) : allS2 L = allS2 M := by
 rw [Bool.eq_iff_iff]
 unfold allS2
 rw [List.all_eq_true,List.all_eq_true]
 exact ⟨fun g x hx=>g x ((h x).2 hx),fun g x hx=>g x ((h x).1 hx)⟩
theorem allS2_app (L M : List Q2) : allS2 (L ++ M) = (allS2 L && allS2 M) := by unfold allS2; rw [List.all_append]
def lcS (t : List MRow) (p : P3) : List Q2 := putAll lt2 (lcs p (triT t (t.length - 1)))
theorem triT_L {t : List MRow} (hT : TblOk t) : ∀ i,i ≤ t.length - 1 → ∀ x ∈ triT t i,TriL x
 | 0,_,_,hx=>by cases hx
 | i + 1, hi, x, hx => by
  unfold triT at hx
  rcases List.mem_append.1 hx with hx | hx
  ·exact triT_L hT i (by omega) x hx
  ·have key : ∀ k,k + 1 ≤ npT t → ∀ x ∈ triK t i k,TriL x := fun k=>by
    induction k with
    | zero=>intro _ x hx; cases hx
    | succ k ih =>
     intro hk x hx
     have p1 := hT.pt i k (by omega)
     have p2 := hT.pt i (k + 1) (by omega)
     have p3 := hT.pt (i + 1) k (by omega)
     have p4 := hT.pt (i + 1) (k + 1) (by omega)
     have o1 := hT.op i (by omega)
     have o2 := hT.op (i + 1) (by omega)
     have ha := hT.ar i k (by omega) (by omega)
     unfold triK at hx
     rcases List.mem_append.1 hx with hx | hx
     ·rcases List.mem_append.1 hx with hx | hx
      ·exact ih (by omega) x hx
      ·rw [List.mem_singleton.1 hx]
       refine ⟨⟨p1,p2,p3⟩,fun j=>?_,ha.1⟩
       match j with
       | 0=>exact o1
       | 1=>exact o1
       | j + 2=>exact o2
     ·rw [List.mem_singleton.1 hx]
      refine ⟨⟨p2,p4,p3⟩,fun j=>?_,ha.2⟩
      match j with
      | 0=>exact o1
      | 1=>exact o2
      | j + 2=>exact o2
   have hnp := hT.np
   exact key (npT t - 1) (by omega) x hx
theorem loc_sort {L s : List Q2} (hp : s.Perm L) (hs : s.Pairwise fun a b=>¬ lt2 b a) : compL s = putAll lt2 L := sort_put lt2_irr lt2_tr lt2_tri hp hs
end Go.Tr

/- Contracts of chapter 5: the location in a triangle; locations compared. Conditions: none. -/
-- seat YtgbdlkajmmjahaaGreat
namespace Go.Tr
open Go Go.Proofs
set_option maxRecDepth 20000
set_option maxHeartbeats 8000000

def fr2 (q : Q2) : (Int × Int) × Int × Int := (frI q.1,frI q.2)
abbrev lcC (s : (Int × Int) × Int × Int) : List AV := [i64 s.1.1,i64 s.1.2,i64 s.2.1,i64 s.2.2]
abbrev lcA (s : (Int × Int) × Int × Int) : AV := .agg (lcC s)
theorem ave_lc {k : Nat} {s : (Int × Int) × Int × Int} : AVE (k + 2) (lcA s) (lcA s) := ave_aggR (by simp [AV.atom])
theorem S115_2 (a b : Int) {f : Nat → List AV} (h : f 0 = [i64 a] ∧ f 1 = [i64 b]) : SP 115 [.rslice 1 2 f] (i64 (firstOf [a,b])) false := by
 have key : ∀ i,i < 2 → f i = [i64 (([a,b] : List Int).getD i 0)] := fun i hi=>by
  match i,hi with
  | 0,_=>exact h.1
  | 1,_=>exact h.2
 refine (S115 [a,b] (by simp)).argsD rfl fun i y x hy hx=>?_
 match i,hy,hx with
 | 0,hy,hx=>cases hy; cases hx; exact .inr ⟨1,AVF_rows rfl key 0⟩
theorem S114 (p q : Q2) (hp : sm2 p) (hq : sm2 q) : SP 114 [lcA (fr2 p),lcA (fr2 q)] (i64 (cmp2 p q)) false := by
 have h1 := S94 p.1 q.1 hp.1 hq.1
 have h2 := S94 p.2 q.2 hp.2 hq.2
 have h4 := @S115_2 (cmpR p.1 q.1) (cmpR p.2 q.2)
 have e : firstOf [cmpR p.1 q.1,cmpR p.2 q.2] = cmp2 p q := by rw [first2]; rfl
 rw [e] at h4
 refine sound (d := 2) tok2 mixed2 Tryz.func114 (by kernel_rfl) (by kernel_rfl) ?_
 (conv=>whnf); refine ⟨[],by kernel_rfl,?_⟩
 (conv=>whnf); refine .inl ⟨_,_,byX rfl (Sound1.pl (h1) rfl),?_⟩
 (conv=>whnf); refine .inl ⟨_,_,byX rfl (Sound1.pl (h2) rfl),?_⟩
 (conv=>whnf); refine .inl ⟨_,_,byX rfl (Sound1.pl (h4 ⟨rfl,rfl⟩) rfl),?_⟩
 (conv=>whnf); refine ⟨?_,nofun⟩
 (first | contradiction | rfl)
def lcR (x : Tri) (p : P3) : ((Int × Int) × Int × Int) × Bool × Int :=
  if lin x p then ((okR (lcQ x p).1,okR (lcQ x p).2),true,if smR (lcQ x p).1 then (if smR (lcQ x p).2 then 0 else 8) else 8) else (((0,0),0,0),false,0)
theorem lcR_no {x : Tri} {p : P3} (h : ¬ lin x p) : lcR x p = (((0,0),0,0),false,0) := if_neg h
theorem lcR_yes {x : Tri} {p : P3} (h : lin x p) : lcR x p = ((okR (lcQ x p).1,okR (lcQ x p).2),true,if smR (lcQ x p).1 then (if smR (lcQ x p).2 then 0 else 8) else 8) := if_pos h
theorem first_sm (a b : Rat) : firstOf [if smR a then 0 else 8,if smR b then 0 else 8] = if smR a then (if smR b then 0 else 8) else 8 := by
 rw [first2]
 by_cases h : smR a
 ·rw [if_pos h,if_neg (by decide),if_pos h]
 ·rw [if_neg h,if_pos (by decide),if_neg h]
set_option maxHeartbeats 8000000 in
theorem S112 (x : Tri) (hx : TriL x) (p : P3) (hp : PtOk p) : SP 112 [triA x,.agg (ptC p)] (.tuple [lcA (lcR x p).1,vb (lcR x p).2.1,i64 (lcR x p).2.2]) false := by
 obtain ⟨q1,q2,q3⟩ := hx.p
 have ha := hx.a
 have hab := turn_n q1 q2 q3
 have b0 := lw_b hx.p hp 0
 have b1 := lw_b hx.p hp 1
 have b2 := lw_b hx.p hp 2
 have ho := hx.o
 have s1 := sumW_b hx.p hp (f := lo x) (A := 100) (fun k=>by have := ho k; omega)
 have s2 := sumW_b hx.p hp (f := lp x) (A := 10000) (fun k=>lp_b hx.p k)
 have m1 := fun k=>absM (lw_b hx.p hp k) (show (lo x k).natAbs ≤ 100 by have := ho k; omega)
 have m2 := fun k=>absM (lw_b hx.p hp k) (lp_b hx.p k)
 have c0 := S161 p _ _ hp q2 q3
 have c1 := S161 p _ _ hp q3 q1
 have c2 := S161 p _ _ hp q1 q2
 have c135 := S135 x q1 q2 q3
 have a1 := s1 3
 have a2 := s2 3
 have hla : lar x = turnI x.1.1 x.2.1.1 x.2.2.1 := rfl
 have c92a := S92p (sumW x p (lo x) 3) (lar x) (by omega) (by omega)
 have c92b := S92p (sumW x p (lp x) 3) (lar x) (by omega) (by omega)
 have h76 := @S76_2 (if smR (lcQ x p).1 then 0 else 8) (if smR (lcQ x p).2 then 0 else 8)
 rw [first_sm] at h76
 refine sound (d := 2) tok2 mixed2 Tryz.func112 (by kernel_rfl) (by kernel_rfl) ?_
 (conv=>whnf); refine ⟨[],[2,3,4,16,17,7,8],fun st mq=>∃ (k : Nat) (u : Int) (v : Int),(k ≤ 3) ∧ (u = sumW x p (lo x) k) ∧ (v = sumW x p (lp x) k) ∧ (∀ j,j < k → 0 ≤ lw x p j) ∧ st = ⟨[(2,.optr 0 0 0 0),(3,.optr 1 0 0 0),(4,.optr 2 0 0 0),(16,triA x),(17,i64 k),(7,i64 u),(8,i64 v)],⟨[⟨12,1,fun _=>triC x,0,false,true,true⟩,⟨3,1,fun _=>ptC p,0,false,true,true⟩,⟨4,1,fun _=>lcC ((0,0),0,0),0,false,true,true⟩],[],none,0⟩,[]⟩ ∧ mq = 3 - k,
  ⟨_,_,⟨0,0,0,by omega,rfl,rfl,(fun j h=>absurd h (Nat.not_lt_zero j)),rfl,rfl⟩,⟨⟨.inl rfl,rfl,rfl,rfl⟩,⟨⟨rfl,rfl,rfl,rfl,fun _=>rfl,fun _ _=>.inl rfl⟩,⟨⟨rfl,rfl,rfl,rfl,fun _=>rfl,fun _ _=>.inl rfl⟩,⟨⟨rfl,rfl,rfl,rfl,fun _=>rfl,fun _ _=>.inl rfl⟩,trivial⟩⟩⟩,trivial⟩⟩,?_⟩
 rintro s0 m0 ⟨k,u,v,hk,hu,hv,hw,rfl,hmeas⟩
 by_cases e0 : k = 0
 ·subst e0
  have g0 : (turnI p x.2.1.1 x.2.2.1).natAbs ≤ 8000000 := b0
  have g1 : (turnI p x.2.1.1 x.2.2.1 * x.1.2).natAbs ≤ 8000000 * 100 := m1 0
  have g2 : (turnI p x.2.1.1 x.2.2.1 * x.1.1.2.2).natAbs ≤ 8000000 * 10000 := m2 0
  have g3 : (u + turnI p x.2.1.1 x.2.2.1 * x.1.2).natAbs ≤ 1 * (8000000 * 100) := by rw [hu]; exact s1 1
  have g4 : (v + turnI p x.2.1.1 x.2.2.1 * x.1.1.2.2).natAbs ≤ 1 * (8000000 * 10000) := by rw [hv]; exact s2 1
  have hno : turnI p x.2.1.1 x.2.2.1 < 0 → ¬ lin x p := fun h e=>by
   have : 0 ≤ turnI p x.2.1.1 x.2.2.1 := e.1
   omega
  have hyes : 0 ≤ turnI p x.2.1.1 x.2.2.1 → ∀ j,j < 0 + 1 → 0 ≤ lw x p j := fun h j hj=>by
   by_cases e : j = 0
   ·rw [e]; exact h
   ·exact hw j (by omega)
  have t1 : 0 ≤ (((0 : Nat) : Int) + 1).tmod 3 ∧ (((0 : Nat) : Int) + 1).tmod 3 < ((3 : Nat) : Int) := by decide
  have t2 : 0 ≤ (((0 : Nat) : Int) + 2).tmod 3 ∧ (((0 : Nat) : Int) + 2).tmod 3 < ((3 : Nat) : Int) := by decide
  conv=>whnf
  (conv=>whnf); refine ⟨⟨(by omega),(by omega)⟩,?_⟩
  conv=>whnf
  (conv=>whnf); refine ⟨[],by kernel_rfl,?_⟩
  conv=>whnf
  (conv=>whnf); refine ⟨inK64 (by omega) (by omega),?_⟩
  conv=>whnf
  (conv=>whnf); refine ⟨(by omega),?_⟩
  conv=>whnf
  (conv=>whnf); refine ⟨⟨(by omega),(by omega)⟩,?_⟩
  conv=>whnf
  (conv=>whnf); refine ⟨inK64 (by omega) (by omega),?_⟩
  conv=>whnf
  (conv=>whnf); refine ⟨(by omega),?_⟩
  conv=>whnf
  (conv=>whnf); refine ⟨⟨(by omega),(by omega)⟩,?_⟩
  conv=>whnf
  (conv=>whnf); refine .inl ⟨_,_,byX rfl (Sound1.pl (c0) rfl),?_⟩
  conv=>whnf
  (conv=>whnf); refine ifB_dec (fun w1=>?_) (fun w1=>?_)
  ·conv=>whnf
   (conv=>whnf); refine ⟨?_,nofun⟩
   have hn := lcR_no (hno (by assumption))
   exact ave_tup3 (by rw [hn]; exact ave_lc (s := ((0,0),0,0))) (by rw [hn]; rfl) (by rw [hn]; rfl)
  ·conv=>whnf
   (conv=>whnf); refine ⟨inK64 (by omega) (by omega),?_⟩
   conv=>whnf
   (conv=>whnf); refine ⟨inK64 (by omega) (by omega),?_⟩
   conv=>whnf
   (conv=>whnf); refine ⟨inK64 (by omega) (by omega),?_⟩
   conv=>whnf
   (conv=>whnf); refine ⟨inK64 (by omega) (by omega),?_⟩
   conv=>whnf
   (conv=>whnf); refine ⟨inK64 (by omega) (by omega),?_⟩
   conv=>whnf
   (conv=>whnf); refine ⟨_,_,⟨⟨1,u + turnI p x.2.1.1 x.2.2.1 * x.1.2,v + turnI p x.2.1.1 x.2.2.1 * x.1.1.2.2,by omega,(by rw [hu]; rfl),(by rw [hv]; rfl),hyes (by omega),rfl,rfl⟩,by omega⟩,⟨⟨.inl rfl,rfl,rfl,rfl⟩,⟨⟨rfl,rfl,rfl,rfl,fun _=>rfl,fun _ _=>.inl rfl⟩,⟨⟨rfl,rfl,rfl,rfl,fun _=>rfl,fun _ _=>.inl rfl⟩,⟨⟨rfl,rfl,rfl,rfl,fun _=>rfl,fun _ _=>.inl rfl⟩,trivial⟩⟩⟩,trivial⟩⟩
 by_cases e1 : k = 1
 ·subst e1
  have g0 : (turnI p x.2.2.1 x.1.1).natAbs ≤ 8000000 := b1
  have g1 : (turnI p x.2.2.1 x.1.1 * x.2.1.2).natAbs ≤ 8000000 * 100 := m1 1
  have g2 : (turnI p x.2.2.1 x.1.1 * x.2.1.1.2.2).natAbs ≤ 8000000 * 10000 := m2 1
  have g3 : (u + turnI p x.2.2.1 x.1.1 * x.2.1.2).natAbs ≤ 2 * (8000000 * 100) := by rw [hu]; exact s1 2
  have g4 : (v + turnI p x.2.2.1 x.1.1 * x.2.1.1.2.2).natAbs ≤ 2 * (8000000 * 10000) := by rw [hv]; exact s2 2
  have hno : turnI p x.2.2.1 x.1.1 < 0 → ¬ lin x p := fun h e=>by
   have : 0 ≤ turnI p x.2.2.1 x.1.1 := e.2.1
   omega
  have hyes : 0 ≤ turnI p x.2.2.1 x.1.1 → ∀ j,j < 1 + 1 → 0 ≤ lw x p j := fun h j hj=>by
   by_cases e : j = 1
   ·rw [e]; exact h
   ·exact hw j (by omega)
  have t1 : 0 ≤ (((1 : Nat) : Int) + 1).tmod 3 ∧ (((1 : Nat) : Int) + 1).tmod 3 < ((3 : Nat) : Int) := by decide
  have t2 : 0 ≤ (((1 : Nat) : Int) + 2).tmod 3 ∧ (((1 : Nat) : Int) + 2).tmod 3 < ((3 : Nat) : Int) := by decide
  conv=>whnf
  (conv=>whnf); refine ⟨⟨(by omega),(by omega)⟩,?_⟩
  conv=>whnf
  (conv=>whnf); refine ⟨[],by kernel_rfl,?_⟩
  conv=>whnf
  (conv=>whnf); refine ⟨inK64 (by omega) (by omega),?_⟩
  conv=>whnf
  (conv=>whnf); refine ⟨(by omega),?_⟩
  conv=>whnf
  (conv=>whnf); refine ⟨⟨(by omega),(by omega)⟩,?_⟩
  conv=>whnf
  (conv=>whnf); refine ⟨inK64 (by omega) (by omega),?_⟩
  conv=>whnf
  (conv=>whnf); refine ⟨(by omega),?_⟩
  conv=>whnf
  (conv=>whnf); refine ⟨⟨(by omega),(by omega)⟩,?_⟩
  conv=>whnf
  (conv=>whnf); refine .inl ⟨_,_,byX rfl (Sound1.pl (c1) rfl),?_⟩
  conv=>whnf
  (conv=>whnf); refine ifB_dec (fun w1=>?_) (fun w1=>?_)
  ·conv=>whnf
   (conv=>whnf); refine ⟨?_,nofun⟩
   have hn := lcR_no (hno (by assumption))
   exact ave_tup3 (by rw [hn]; exact ave_lc (s := ((0,0),0,0))) (by rw [hn]; rfl) (by rw [hn]; rfl)
  ·conv=>whnf
   (conv=>whnf); refine ⟨inK64 (by omega) (by omega),?_⟩
   conv=>whnf
   (conv=>whnf); refine ⟨inK64 (by omega) (by omega),?_⟩
   conv=>whnf
   (conv=>whnf); refine ⟨inK64 (by omega) (by omega),?_⟩
   conv=>whnf
   (conv=>whnf); refine ⟨inK64 (by omega) (by omega),?_⟩
   conv=>whnf
   (conv=>whnf); refine ⟨inK64 (by omega) (by omega),?_⟩
   conv=>whnf
   (conv=>whnf); refine ⟨_,_,⟨⟨2,u + turnI p x.2.2.1 x.1.1 * x.2.1.2,v + turnI p x.2.2.1 x.1.1 * x.2.1.1.2.2,by omega,(by rw [hu]; rfl),(by rw [hv]; rfl),hyes (by omega),rfl,rfl⟩,by omega⟩,⟨⟨.inl rfl,rfl,rfl,rfl⟩,⟨⟨rfl,rfl,rfl,rfl,fun _=>rfl,fun _ _=>.inl rfl⟩,⟨⟨rfl,rfl,rfl,rfl,fun _=>rfl,fun _ _=>.inl rfl⟩,⟨⟨rfl,rfl,rfl,rfl,fun _=>rfl,fun _ _=>.inl rfl⟩,trivial⟩⟩⟩,trivial⟩⟩
 by_cases e2 : k = 2
 ·subst e2
  have g0 : (turnI p x.1.1 x.2.1.1).natAbs ≤ 8000000 := b2
  have g1 : (turnI p x.1.1 x.2.1.1 * x.2.2.2).natAbs ≤ 8000000 * 100 := m1 2
  have g2 : (turnI p x.1.1 x.2.1.1 * x.2.2.1.2.2).natAbs ≤ 8000000 * 10000 := m2 2
  have g3 : (u + turnI p x.1.1 x.2.1.1 * x.2.2.2).natAbs ≤ 3 * (8000000 * 100) := by rw [hu]; exact s1 3
  have g4 : (v + turnI p x.1.1 x.2.1.1 * x.2.2.1.2.2).natAbs ≤ 3 * (8000000 * 10000) := by rw [hv]; exact s2 3
  have hno : turnI p x.1.1 x.2.1.1 < 0 → ¬ lin x p := fun h e=>by
   have : 0 ≤ turnI p x.1.1 x.2.1.1 := e.2.2
   omega
  have hyes : 0 ≤ turnI p x.1.1 x.2.1.1 → ∀ j,j < 2 + 1 → 0 ≤ lw x p j := fun h j hj=>by
   by_cases e : j = 2
   ·rw [e]; exact h
   ·exact hw j (by omega)
  have t1 : 0 ≤ (((2 : Nat) : Int) + 1).tmod 3 ∧ (((2 : Nat) : Int) + 1).tmod 3 < ((3 : Nat) : Int) := by decide
  have t2 : 0 ≤ (((2 : Nat) : Int) + 2).tmod 3 ∧ (((2 : Nat) : Int) + 2).tmod 3 < ((3 : Nat) : Int) := by decide
  conv=>whnf
  (conv=>whnf); refine ⟨⟨(by omega),(by omega)⟩,?_⟩
  conv=>whnf
  (conv=>whnf); refine ⟨[],by kernel_rfl,?_⟩
  conv=>whnf
  (conv=>whnf); refine ⟨inK64 (by omega) (by omega),?_⟩
  conv=>whnf
  (conv=>whnf); refine ⟨(by omega),?_⟩
  conv=>whnf
  (conv=>whnf); refine ⟨⟨(by omega),(by omega)⟩,?_⟩
  conv=>whnf
  (conv=>whnf); refine ⟨inK64 (by omega) (by omega),?_⟩
  conv=>whnf
  (conv=>whnf); refine ⟨(by omega),?_⟩
  conv=>whnf
  (conv=>whnf); refine ⟨⟨(by omega),(by omega)⟩,?_⟩
  conv=>whnf
  (conv=>whnf); refine .inl ⟨_,_,byX rfl (Sound1.pl (c2) rfl),?_⟩
  conv=>whnf
  (conv=>whnf); refine ifB_dec (fun w1=>?_) (fun w1=>?_)
  ·conv=>whnf
   (conv=>whnf); refine ⟨?_,nofun⟩
   have hn := lcR_no (hno (by assumption))
   exact ave_tup3 (by rw [hn]; exact ave_lc (s := ((0,0),0,0))) (by rw [hn]; rfl) (by rw [hn]; rfl)
  ·conv=>whnf
   (conv=>whnf); refine ⟨inK64 (by omega) (by omega),?_⟩
   conv=>whnf
   (conv=>whnf); refine ⟨inK64 (by omega) (by omega),?_⟩
   conv=>whnf
   (conv=>whnf); refine ⟨inK64 (by omega) (by omega),?_⟩
   conv=>whnf
   (conv=>whnf); refine ⟨inK64 (by omega) (by omega),?_⟩
   conv=>whnf
   (conv=>whnf); refine ⟨inK64 (by omega) (by omega),?_⟩
   conv=>whnf
   (conv=>whnf); refine ⟨_,_,⟨⟨3,u + turnI p x.1.1 x.2.1.1 * x.2.2.2,v + turnI p x.1.1 x.2.1.1 * x.2.2.1.2.2,by omega,(by rw [hu]; rfl),(by rw [hv]; rfl),hyes (by omega),rfl,rfl⟩,by omega⟩,⟨⟨.inl rfl,rfl,rfl,rfl⟩,⟨⟨rfl,rfl,rfl,rfl,fun _=>rfl,fun _ _=>.inl rfl⟩,⟨⟨rfl,rfl,rfl,rfl,fun _=>rfl,fun _ _=>.inl rfl⟩,⟨⟨rfl,rfl,rfl,rfl,fun _=>rfl,fun _ _=>.inl rfl⟩,trivial⟩⟩⟩,trivial⟩⟩
 ·obtain rfl : k = 3 := by omega
  have hin : lin x p := ⟨hw 0 (by omega),hw 1 (by omega),hw 2 (by omega)⟩
  have hn := lcR_yes hin
  change SP 92 [i64 (sumW x p (lo x) 3),i64 (lar x)] (.tuple [gaF (okR (lcQ x p).1),i64 (if smR (lcQ x p).1 then 0 else 8)]) false at c92a
  change SP 92 [i64 (sumW x p (lp x) 3),i64 (lar x)] (.tuple [gaF (okR (lcQ x p).2),i64 (if smR (lcQ x p).2 then 0 else 8)]) false at c92b
  rw [← hu] at c92a
  rw [← hv] at c92b
  conv=>whnf
  (conv=>whnf); refine .inl ⟨_,_,byX rfl (Sound1.pl (c135) rfl),?_⟩
  conv=>whnf
  (conv=>whnf); refine .inl ⟨_,_,byX rfl (Sound1.pl (c92a) rfl),?_⟩
  conv=>whnf
  (conv=>whnf); refine .inl ⟨_,_,byX rfl (Sound1.pl (c135) rfl),?_⟩
  conv=>whnf
  (conv=>whnf); refine .inl ⟨_,_,byX rfl (Sound1.pl (c92b) rfl),?_⟩
  conv=>whnf
  (conv=>whnf); refine ⟨[],by kernel_rfl,?_⟩
  conv=>whnf
  (conv=>whnf); refine .inl ⟨_,_,byX rfl (Sound1.pl (h76 ⟨rfl,rfl⟩) rfl),?_⟩
  conv=>whnf
  (conv=>whnf); refine ⟨?_,nofun⟩
  exact ave_tup3 (by rw [hn]; exact ave_lc (s := (okR (lcQ x p).1,okR (lcQ x p).2))) (by rw [hn]; rfl) (by rw [hn]; rfl)
end Go.Tr

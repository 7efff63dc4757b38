/- Contracts of chapter 7: traps, ranks, the longest way home. Conditions: none. -/
import Derived.Test.YtinfmponjglalaaGreatDoorTr10
import Derived.Test.YtinfmponjglalaaGreatDoorTr06
import Derived.ProofKit
set_option linter.unusedSectionVars false
set_option linter.unnecessarySimpa false
set_option linter.unusedVariables false
set_option linter.unusedSimpArgs false

-- seat YtinfmponjglalaaGreatDoor
namespace Go.Tr
open Go Go.Proofs
set_option maxRecDepth 20000
set_option maxHeartbeats 8000000

abbrev rkA (r : Rnk) : AV := .agg (rkC r)
theorem ave_rk {k : Nat} (r : Rnk) : AVE (k + 2) (rkA r) (rkA r) := ⟨rfl,fun i x y hx hy=>by
 match i,hx,hy with
 | 0,hx,hy=>cases hx; cases hy; exact rfl
 | 1,hx,hy=>cases hx; cases hy; exact rfl
 | 2,hx,hy=>cases hx; cases hy; exact rfl
 | 3,hx,hy=>cases hx; cases hy; exact rfl
 | 4,hx,hy=>cases hx; cases hy; exact rfl⟩
noncomputable def trapR (p : Pln) : AV := match trapO p with | some q=>.tuple [rkA (q,0),i64 0] | none=>.tuple [rkA rk0,i64 12]
theorem trap_f1 {p : Pln} {q : Plc} (h : trapO p = some q) : AVE 5 (.tuple [rkA (q,0),i64 0]) (trapR p) := by
 unfold trapR
 rw [h]
 exact ave_tup2 (k := 4) (ave_rk _) rfl
theorem trap_f0 {p : Pln} (h : trapO p = none) : AVE 5 (.tuple [rkA rk0,i64 12]) (trapR p) := by
 unfold trapR
 rw [h]
 exact ave_tup2 (k := 4) (ave_rk _) rfl
noncomputable def rkL (p : Pln) : List Rnk := (plL p).map (rnk p)
noncomputable def ranksR (p : Pln) : AV := match trapO p with | some _=>.tuple [.eslice,i64 13] | none=>.tuple [ranksA (rkL p),i64 0]
theorem rank_f1 {p : Pln} {q : Plc} (h : trapO p = some q) : AVE 5 (.tuple [.eslice,i64 13]) (ranksR p) := by
 unfold ranksR
 rw [h]
 exact ave_tup2 (k := 4) rfl rfl
theorem rank_f0 {p : Pln} (h : trapO p = none) {n : Nat} {F : Nat → List AV} (hn : n = (rkL p).length) (hF : ∀ i,i < n → F i = rkC ((rkL p).getD i rk0)) : AVE 5 (.tuple [.rslice 5 n F,i64 0]) (ranksR p) := by
 unfold ranksR
 rw [h]
 exact ave_tup2 (k := 4) ⟨rfl,hn,hF⟩ rfl
theorem rk_row {l : List Rnk} {n : Nat} (hn : l.length = n) (x : Rnk) (i : Nat) (h : i < n + 1) : rkC ((l ++ [x]).getD i rk0) = if i < n then rkC (l.getD (0 + i) rk0) else List.take 5 (List.drop ((i - n) * 5) (rkC x)) := by
 subst hn
 rw [Nat.zero_add]
 by_cases hi : i < l.length
 ·rw [if_pos hi,List.getD_eq_getElem?_getD,List.getD_eq_getElem?_getD,List.getElem?_append_left hi]
 ·obtain rfl : i = l.length := by omega
  rw [if_neg hi,Nat.sub_self,List.getD_eq_getElem?_getD,List.getElem?_append_right (Nat.le_refl _),Nat.sub_self]; rfl
noncomputable def longR (p : Pln) : AV := match trapO p with | some _=>.tuple [i64 0,i64 13] | none=>.tuple [i64 (lngL p (plL p)),i64 0]
theorem long_f1 {p : Pln} {q : Plc} (h : trapO p = some q) : AVE 5 (.tuple [i64 0,i64 13]) (longR p) := by
 unfold longR
 rw [h]
 exact ave_tup2 (k := 4) rfl rfl
theorem long_f0 {p : Pln} (h : trapO p = none) {m : Int} (hm : m = lngL p (plL p)) : AVE 5 (.tuple [i64 m,i64 0]) (longR p) := by
 unfold longR
 rw [h,hm]
 exact ave_tup2 (k := 4) rfl rfl
set_option maxHeartbeats 8000000 in
theorem S19 (p : Pln) (hp : FewP p) (hc : (checkP p).2 = 0) : SP 19 [planA p] (trapR p) false := by
 have hg := Good.of hp hc
 have h36 := S36 p hp
 rw [hc] at h36
 have h81 := S81 p (by have := hp.sig; omega)
 have h45 := S45
 have hnF : nF p = 2 * p.sig.length + 1 := rfl
 have hsg := hp.sig
 refine sound (d := 2) tok2 mixed2 Tryz.func19 (by kernel_rfl) (by kernel_rfl) ?_
 (conv=>whnf); refine .inl ⟨_,_,byX rfl (h36),?_⟩
 (conv=>whnf); refine .inr (.inl ⟨[],?_⟩)
 (conv=>whnf); refine .inl ⟨_,_,byX rfl (h81),?_⟩
 (conv=>whnf); refine ⟨[.forget [0,1,3,4,5,8,9,10,11,12,13,14,17,18]],[1,2,12,13,14],fun st mq=>∃ (i : Nat) (F0 : Nat → List AV) (F2 : Nat → List AV),(i ≤ nF p) ∧ (AllH p (pre p i 0)) ∧ st = ⟨[(1,.func (.func 49) 0 [.optr 3 0 0 0,.optr 4 0 0 0]),(2,.optr 5 0 0 0),(12,fts p.sig.length),(13,i64 (2 * p.sig.length + 1 : Nat)),(14,i64 i)],⟨[⟨3,1,F0,0,false,true,false⟩,⟨5,1,fun _=>rkC rk0,0,false,true,true⟩,⟨3,1,F2,0,false,true,false⟩,⟨5,1,fun _=>rkC rk0,0,false,true,true⟩,⟨1,1,fun _=>[vb false],0,false,true,true⟩,⟨3,1,fun _=>planC p,0,false,true,true⟩],[],none,0⟩,[(7,.optr 4 0 0 0),(6,.optr 3 0 0 0),(2,.optr 1 0 0 0)]⟩ ∧ mq = nF p - i,
  ⟨_,_,⟨0,_,_,by omega,(fun q hq=>by cases hq),rfl,rfl⟩,⟨⟨.inl rfl,rfl,rfl,rfl⟩,⟨bA,⟨bA,⟨bA,⟨bA,⟨bA,⟨bA,trivial⟩⟩⟩⟩⟩⟩,trivial⟩⟩,?_⟩
 rintro s0 m0 ⟨i,F0,F2,hi,ha,rfl,hmeas⟩
 by_cases hlt : i < nF p
 ·have h38 := S38 p hg (fltAt (i : Int).toNat)
  have hrl := rch_len hg i
  conv=>whnf
  (conv=>whnf); refine ifB_dec (fun w1=>?_) (fun w1=>?_)
  ·conv=>whnf
   (conv=>whnf); refine ⟨⟨(by omega),(by omega)⟩,?_⟩
   conv=>whnf
   (conv=>whnf); refine .inl ⟨_,_,byX rfl (h38),?_⟩
   conv=>whnf
   (conv=>whnf); refine ⟨[],[1,2,5,12,13,14,20,21,22],fun st mq=>∃ (j : Nat) (F0 : Nat → List AV) (F2 : Nat → List AV),(j ≤ (rch p i).length) ∧ (AllH p (pre p i j)) ∧ st = ⟨[(1,.func (.func 49) 0 [.optr 3 0 0 0,.optr 4 0 0 0]),(2,.optr 5 0 0 0),(5,.optr 6 0 0 0),(12,fts p.sig.length),(13,i64 (2 * p.sig.length + 1 : Nat)),(14,i64 i),(20,sts (rch p i)),(21,i64 (rch p i).length),(22,i64 j)],⟨[⟨3,1,F0,0,false,true,false⟩,⟨5,1,fun _=>rkC rk0,0,false,true,true⟩,⟨3,1,F2,0,false,true,false⟩,⟨5,1,fun _=>rkC rk0,0,false,true,true⟩,⟨1,1,fun _=>[vb false],0,false,true,true⟩,⟨3,1,fun _=>planC p,0,false,true,true⟩,⟨2,1,fun _=>fltC (fltAt i),0,false,true,true⟩],[],none,0⟩,[(7,.optr 4 0 0 0),(6,.optr 3 0 0 0),(2,.optr 1 0 0 0)]⟩ ∧ mq = (rch p i).length - j,
    ⟨_,_,⟨0,_,_,by omega,ha,rfl,rfl⟩,⟨⟨.inl rfl,rfl,rfl,rfl⟩,⟨bA,⟨bA,⟨bA,⟨bA,⟨bA,⟨bA,⟨bA,trivial⟩⟩⟩⟩⟩⟩⟩,trivial⟩⟩,?_⟩
   rintro s0 m0 ⟨j,F0,F2,hj,ha,rfl,hmeas⟩
   by_cases hlj : j < (rch p i).length
   ·have hso := rch_ok hg hlj
    have h61 := S61 p hg (fltAt i) ((rch p i).getD (j : Int).toNat (0,0)) hso
    have hps := pre_s hlj
    cases hx : homeF p (fltAt i) ((rch p i).getD (j : Int).toNat (0,0)) with
    | none =>
     have hT := trap_some hlt hlj ha hx
     rw [hx] at h61
     have hend := trap_f1 hT
     conv=>whnf
     conv=>whnf
     (conv=>whnf); refine ifB_dec (fun w2=>?_) (fun w2=>?_)
     ·conv=>whnf
      conv=>whnf
      (conv=>whnf); refine ⟨⟨(by omega),(by omega)⟩,?_⟩
      conv=>whnf
      conv=>whnf
      (conv=>whnf); refine .inl ⟨_,_,byX rfl (h61),?_⟩
      conv=>whnf
      conv=>whnf
      (conv=>whnf); refine .inr (.inl ⟨[],?_⟩)
      conv=>whnf
      conv=>whnf
      (conv=>whnf); refine ⟨[],by kernel_rfl,?_⟩
      conv=>whnf
      conv=>whnf
      (conv=>whnf); refine .inl ⟨_,_,byX rfl (Sound1.pl (h45 _ _) rfl),?_⟩
      conv=>whnf
      conv=>whnf
      (conv=>whnf); refine ⟨?_,nofun⟩
      (first | contradiction | omega | exact hend)
     ·(exfalso; omega)
    | some r =>
     rw [hx] at h61
     have ha2 : AllH p (pre p i (j + 1)) := by rw [hps]; exact ha.snoc (q := ((rch p i).getD j (0,0),fltAt i)) hx
     conv=>whnf
     conv=>whnf
     (conv=>whnf); refine ifB_dec (fun w2=>?_) (fun w2=>?_)
     ·conv=>whnf
      conv=>whnf
      (conv=>whnf); refine ⟨⟨(by omega),(by omega)⟩,?_⟩
      conv=>whnf
      conv=>whnf
      (conv=>whnf); refine .inl ⟨_,_,byX rfl (h61),?_⟩
      conv=>whnf
      conv=>whnf
      (conv=>whnf); refine .inr (.inl ⟨[],?_⟩)
      conv=>whnf
      conv=>whnf
      (conv=>whnf); refine ⟨inK64 (by omega) (by omega),?_⟩
      conv=>whnf
      conv=>whnf
      (conv=>whnf); refine ⟨_,_,⟨⟨j + 1,_,_,by omega,ha2,rfl,rfl⟩,by omega⟩,⟨⟨.inl rfl,rfl,rfl,rfl⟩,⟨bA,⟨bA,⟨bA,⟨bA,⟨bA,⟨bA,⟨bA,trivial⟩⟩⟩⟩⟩⟩⟩,trivial⟩⟩
     ·(exfalso; omega)
   ·have hje : j = (rch p i).length := by omega
    have ha2 : AllH p (pre p (i + 1) 0) := by rw [← pre_n,← hje]; exact ha
    conv=>whnf
    conv=>whnf
    (conv=>whnf); refine ifB_dec (fun w2=>?_) (fun w2=>?_)
    ·(exfalso; omega)
    ·conv=>whnf
     conv=>whnf
     (conv=>whnf); refine ⟨inK64 (by omega) (by omega),?_⟩
     conv=>whnf
     conv=>whnf
     (conv=>whnf); refine ⟨_,_,⟨⟨i + 1,_,_,by omega,ha2,rfl,rfl⟩,by omega⟩,⟨⟨.inl rfl,rfl,rfl,rfl⟩,⟨bA,⟨bA,⟨bA,⟨bA,⟨bA,⟨bA,trivial⟩⟩⟩⟩⟩⟩,trivial⟩⟩
  ·(exfalso; omega)
 ·have hie : i = nF p := by omega
  have hT : trapO p = none := trap_none (by rw [← pre_e,← hie]; exact ha)
  have hend := trap_f0 hT
  conv=>whnf
  (conv=>whnf); refine ifB_dec (fun w1=>?_) (fun w1=>?_)
  ·(exfalso; omega)
  ·conv=>whnf
   (conv=>whnf); refine ⟨[],by kernel_rfl,?_⟩
   conv=>whnf
   (conv=>whnf); refine .inl ⟨_,_,byX rfl (Sound1.pl (h45 _ _) rfl),?_⟩
   conv=>whnf
   (conv=>whnf); refine ⟨?_,nofun⟩
   (first | contradiction | omega | exact hend)
set_option maxHeartbeats 8000000 in
theorem S20 (p : Pln) (hp : FewP p) (hc : (checkP p).2 = 0) : SP 20 [planA p] (ranksR p) false := by
 have hg := Good.of hp hc
 have h36 := S36 p hp
 rw [hc] at h36
 have h81 := S81 p (by have := hp.sig; omega)
 have h45 := S45
 have hnF : nF p = 2 * p.sig.length + 1 := rfl
 have hsg := hp.sig
 have hb50 : Tryz.prog.types[50].bytes = 40 := by kernel_rfl
 refine sound (d := 2) tok2 mixed2 Tryz.func20 (by kernel_rfl) (by kernel_rfl) ?_
 (conv=>whnf); refine .inl ⟨_,_,byX rfl (h36),?_⟩
 (conv=>whnf); refine .inr (.inl ⟨[],?_⟩)
 (conv=>whnf); refine .inl ⟨_,_,byX rfl (h81),?_⟩
 (conv=>whnf); refine ⟨[.forget [0,1,2,3,4,5,8,9,10,11,12,13,14,15,16,17],.cell 2 0 5],[1,2,12,13,14],fun st mq=>∃ (i : Nat) (m : Nat) (L : List Rnk) (F0 : Nat → List AV) (F1 : Nat → List AV),(i ≤ nF p) ∧ (AllH p (pre p i 0)) ∧ (L = (pre p i 0).map (rnk p)) ∧ (L.length = m) ∧ st = ⟨[(1,.func (.func 50) 0 [.optr 2 0 0 0,.optr 3 0 0 0]),(2,.optr 4 0 0 0),(12,fts p.sig.length),(13,i64 (2 * p.sig.length + 1 : Nat)),(14,i64 i)],⟨[⟨3,1,F0,0,false,true,false⟩,⟨3,1,F1,0,false,true,false⟩,⟨1,1,fun _=>[.oslice 5 0 0 m none],0,false,false,true⟩,⟨1,1,fun _=>[vb true],0,false,true,true⟩,⟨3,1,fun _=>planC p,0,false,true,true⟩,⟨5,m,fun k=>rkC (L.getD k rk0),0,false,true,false⟩],[],none,0⟩,[(7,.optr 3 0 0 0),(6,.optr 2 0 0 0)]⟩ ∧ mq = nF p - i,
  ⟨_,_,⟨0,0,[],_,_,by omega,(fun q hq=>by cases hq),rfl,rfl,rfl,rfl⟩,⟨⟨.inl rfl,rfl,rfl,rfl⟩,⟨bA,⟨bA,⟨⟨rfl,rfl,rfl,rfl,nofun,fun _ _=>.inl rfl⟩,⟨bA,⟨bA,⟨⟨rfl,rfl,rfl,rfl,fun _=>rfl,fun i h=>.inl (absurd h (Nat.not_lt_zero i))⟩,trivial⟩⟩⟩⟩⟩⟩,trivial⟩⟩,?_⟩
 rintro s0 m0 ⟨i,m,L,F0,F1,hi,ha,hL,hm,rfl,hmeas⟩
 by_cases hlt : i < nF p
 ·have h38 := S38 p hg (fltAt (i : Int).toNat)
  have hrl := rch_len hg i
  conv=>whnf
  (conv=>whnf); refine ifB_dec (fun w1=>?_) (fun w1=>?_)
  ·conv=>whnf
   (conv=>whnf); refine ⟨⟨(by omega),(by omega)⟩,?_⟩
   conv=>whnf
   (conv=>whnf); refine .inl ⟨_,_,byX rfl (h38),?_⟩
   conv=>whnf
   (conv=>whnf); refine ⟨[],[1,2,5,12,13,14,20,21,22],fun st mq=>∃ (j : Nat) (m : Nat) (L : List Rnk) (F0 : Nat → List AV) (F1 : Nat → List AV),(j ≤ (rch p i).length) ∧ (AllH p (pre p i j)) ∧ (L = (pre p i j).map (rnk p)) ∧ (L.length = m) ∧ st = ⟨[(1,.func (.func 50) 0 [.optr 2 0 0 0,.optr 3 0 0 0]),(2,.optr 4 0 0 0),(5,.optr 6 0 0 0),(12,fts p.sig.length),(13,i64 (2 * p.sig.length + 1 : Nat)),(14,i64 i),(20,sts (rch p i)),(21,i64 (rch p i).length),(22,i64 j)],⟨[⟨3,1,F0,0,false,true,false⟩,⟨3,1,F1,0,false,true,false⟩,⟨1,1,fun _=>[.oslice 5 0 0 m none],0,false,false,true⟩,⟨1,1,fun _=>[vb true],0,false,true,true⟩,⟨3,1,fun _=>planC p,0,false,true,true⟩,⟨5,m,fun k=>rkC (L.getD k rk0),0,false,true,false⟩,⟨2,1,fun _=>fltC (fltAt i),0,false,true,true⟩],[],none,0⟩,[(7,.optr 3 0 0 0),(6,.optr 2 0 0 0)]⟩ ∧ mq = (rch p i).length - j,
    ⟨_,_,⟨0,m,L,_,_,by omega,ha,hL,hm,rfl,rfl⟩,⟨⟨.inl rfl,rfl,rfl,rfl⟩,⟨bA,⟨bA,⟨⟨rfl,rfl,rfl,rfl,nofun,fun _ _=>.inl rfl⟩,⟨bA,⟨bA,⟨bA,⟨bA,trivial⟩⟩⟩⟩⟩⟩⟩,trivial⟩⟩,?_⟩
   rintro s0 m0 ⟨j,m,L,F0,F1,hj,ha,hL,hm,rfl,hmeas⟩
   by_cases hlj : j < (rch p i).length
   ·have hso := rch_ok hg hlj
    have h61 := S61 p hg (fltAt i) ((rch p i).getD (j : Int).toNat (0,0)) hso
    have hps := pre_s hlj
    have hpl := pre_len hg i j (by omega)
    have hml : m = (pre p i j).length := by rw [← hm,hL,List.length_map]
    have hneed2 : (m + 1) * (Tryz.prog.types[50].bytes + 1) ≤ 1000000000000 := by rw [hb50]; omega
    cases hx : homeF p (fltAt i) ((rch p i).getD (j : Int).toNat (0,0)) with
    | none =>
     have hT := trap_some hlt hlj ha hx
     rw [hx] at h61
     have hend := rank_f1 hT
     conv=>whnf
     conv=>whnf
     (conv=>whnf); refine ifB_dec (fun w2=>?_) (fun w2=>?_)
     ·conv=>whnf
      conv=>whnf
      (conv=>whnf); refine ⟨⟨(by omega),(by omega)⟩,?_⟩
      conv=>whnf
      conv=>whnf
      (conv=>whnf); refine .inl ⟨_,_,byX rfl (h61),?_⟩
      conv=>whnf
      conv=>whnf
      (conv=>whnf); refine .inr (.inl ⟨[],?_⟩)
      conv=>whnf
      conv=>whnf
      (conv=>whnf); refine .inl ?_
      conv=>whnf
      conv=>whnf
      (conv=>whnf); refine ⟨(by show _ * (40 + 1) ≤ _; omega),?_⟩
      conv=>whnf
      conv=>whnf
      (conv=>whnf); refine ⟨?_,nofun⟩
      (first | contradiction | omega | exact hend | exact hneed2)
     ·(exfalso; omega)
    | some r =>
     rw [hx] at h61
     have ha2 : AllH p (pre p i (j + 1)) := by rw [hps]; exact ha.snoc (q := ((rch p i).getD j (0,0),fltAt i)) hx
     have hL2 : L ++ [(((rch p i).getD j (0,0),fltAt i),(r.1.length : Int))] = (pre p i (j + 1)).map (rnk p) := by
      rw [hps,List.map_append,hL]
      have hk := rnk_some (q := ((rch p i).getD j (0,0),fltAt i)) hx
      rw [List.map_cons,List.map_nil,hk]
     conv=>whnf
     conv=>whnf
     (conv=>whnf); refine ifB_dec (fun w2=>?_) (fun w2=>?_)
     ·conv=>whnf
      conv=>whnf
      (conv=>whnf); refine ⟨⟨(by omega),(by omega)⟩,?_⟩
      conv=>whnf
      conv=>whnf
      (conv=>whnf); refine .inl ⟨_,_,byX rfl (h61),?_⟩
      conv=>whnf
      conv=>whnf
      (conv=>whnf); refine .inr (.inl ⟨[],?_⟩)
      conv=>whnf
      conv=>whnf
      (conv=>whnf); refine .inl ?_
      conv=>whnf
      conv=>whnf
      (conv=>whnf); refine ⟨(by show _ * (40 + 1) ≤ _; omega),?_⟩
      conv=>whnf
      conv=>whnf
      (conv=>whnf); refine ⟨inK64 (by omega) (by omega),?_⟩
      conv=>whnf
      conv=>whnf
      (conv=>whnf); refine ⟨_,_,⟨⟨j + 1,m + 1,L ++ [(((rch p i).getD j (0,0),fltAt i),(r.1.length : Int))],_,_,by omega,ha2,hL2,(by rw [List.length_append,hm]; rfl),rfl,rfl⟩,by omega⟩,⟨⟨.inl rfl,rfl,rfl,rfl⟩,⟨bA,⟨bA,⟨⟨rfl,rfl,rfl,rfl,nofun,fun _ _=>.inl rfl⟩,⟨bA,⟨bA,⟨⟨rfl,rfl,rfl,rfl,fun _=>rfl,fun k hk=>.inl (rk_row hm _ k hk)⟩,⟨bA,trivial⟩⟩⟩⟩⟩⟩⟩,trivial⟩⟩
     ·(exfalso; omega)
   ·have hje : j = (rch p i).length := by omega
    have ha2 : AllH p (pre p (i + 1) 0) := by rw [← pre_n,← hje]; exact ha
    rw [hje,pre_n] at hL
    conv=>whnf
    conv=>whnf
    (conv=>whnf); refine ifB_dec (fun w2=>?_) (fun w2=>?_)
    ·(exfalso; omega)
    ·conv=>whnf
     conv=>whnf
     (conv=>whnf); refine ⟨inK64 (by omega) (by omega),?_⟩
     conv=>whnf
     conv=>whnf
     (conv=>whnf); refine ⟨_,_,⟨⟨i + 1,m,L,_,_,by omega,ha2,hL,hm,rfl,rfl⟩,by omega⟩,⟨⟨.inl rfl,rfl,rfl,rfl⟩,⟨bA,⟨bA,⟨⟨rfl,rfl,rfl,rfl,nofun,fun _ _=>.inl rfl⟩,⟨bA,⟨bA,⟨bA,trivial⟩⟩⟩⟩⟩⟩,trivial⟩⟩
  ·(exfalso; omega)
 ·have hie : i = nF p := by omega
  have hT : trapO p = none := trap_none (by rw [← pre_e,← hie]; exact ha)
  have hE : L = rkL p := by rw [hL,hie,pre_e]; rfl
  subst hE
  conv=>whnf
  (conv=>whnf); refine ifB_dec (fun w1=>?_) (fun w1=>?_)
  ·(exfalso; omega)
  ·conv=>whnf
   (conv=>whnf); refine ⟨?_,nofun⟩
   (first | contradiction | omega | exact rank_f0 hT hm.symm (fun i hi=>rfl))
set_option maxHeartbeats 8000000 in
theorem S21 (p : Pln) (hp : FewP p) (hc : (checkP p).2 = 0) : SP 21 [planA p] (longR p) false := by
 have hg := Good.of hp hc
 have h36 := S36 p hp
 rw [hc] at h36
 have h81 := S81 p (by have := hp.sig; omega)
 have h45 := S45
 have hnF : nF p = 2 * p.sig.length + 1 := rfl
 have hsg := hp.sig
 have hb50 : Tryz.prog.types[50].bytes = 40 := by kernel_rfl
 refine sound (d := 2) tok2 mixed2 Tryz.func21 (by kernel_rfl) (by kernel_rfl) ?_
 (conv=>whnf); refine .inl ⟨_,_,byX rfl (h36),?_⟩
 (conv=>whnf); refine .inr (.inl ⟨[],?_⟩)
 (conv=>whnf); refine .inl ⟨_,_,byX rfl (h81),?_⟩
 (conv=>whnf); refine ⟨[.forget [0,1,2,3,4,5,8,9,10,11,12,13,14,15,16,17]],[1,2,12,13,14],fun st mq=>∃ (i : Nat) (m : Int) (F0 : Nat → List AV) (F1 : Nat → List AV),(i ≤ nF p) ∧ (AllH p (pre p i 0)) ∧ (m = lngL p (pre p i 0)) ∧ st = ⟨[(1,.func (.func 51) 0 [.optr 2 0 0 0,.optr 3 0 0 0]),(2,.optr 4 0 0 0),(12,fts p.sig.length),(13,i64 (2 * p.sig.length + 1 : Nat)),(14,i64 i)],⟨[⟨3,1,F0,0,false,true,false⟩,⟨3,1,F1,0,false,true,false⟩,⟨1,1,fun _=>[i64 m],0,false,true,true⟩,⟨1,1,fun _=>[vb true],0,false,true,true⟩,⟨3,1,fun _=>planC p,0,false,true,true⟩],[],none,0⟩,[(7,.optr 3 0 0 0),(6,.optr 2 0 0 0)]⟩ ∧ mq = nF p - i,
  ⟨_,_,⟨0,0,_,_,by omega,(fun q hq=>by cases hq),rfl,rfl,rfl⟩,⟨⟨.inl rfl,rfl,rfl,rfl⟩,⟨bA,⟨bA,⟨bA,⟨bA,⟨bA,trivial⟩⟩⟩⟩⟩,trivial⟩⟩,?_⟩
 rintro s0 m0 ⟨i,m,F0,F1,hi,ha,hm,rfl,hmeas⟩
 by_cases hlt : i < nF p
 ·have h38 := S38 p hg (fltAt (i : Int).toNat)
  have hrl := rch_len hg i
  conv=>whnf
  (conv=>whnf); refine ifB_dec (fun w1=>?_) (fun w1=>?_)
  ·conv=>whnf
   (conv=>whnf); refine ⟨⟨(by omega),(by omega)⟩,?_⟩
   conv=>whnf
   (conv=>whnf); refine .inl ⟨_,_,byX rfl (h38),?_⟩
   conv=>whnf
   (conv=>whnf); refine ⟨[],[1,2,5,12,13,14,20,21,22],fun st mq=>∃ (j : Nat) (m : Int) (F0 : Nat → List AV) (F1 : Nat → List AV),(j ≤ (rch p i).length) ∧ (AllH p (pre p i j)) ∧ (m = lngL p (pre p i j)) ∧ st = ⟨[(1,.func (.func 51) 0 [.optr 2 0 0 0,.optr 3 0 0 0]),(2,.optr 4 0 0 0),(5,.optr 5 0 0 0),(12,fts p.sig.length),(13,i64 (2 * p.sig.length + 1 : Nat)),(14,i64 i),(20,sts (rch p i)),(21,i64 (rch p i).length),(22,i64 j)],⟨[⟨3,1,F0,0,false,true,false⟩,⟨3,1,F1,0,false,true,false⟩,⟨1,1,fun _=>[i64 m],0,false,true,true⟩,⟨1,1,fun _=>[vb true],0,false,true,true⟩,⟨3,1,fun _=>planC p,0,false,true,true⟩,⟨2,1,fun _=>fltC (fltAt i),0,false,true,true⟩],[],none,0⟩,[(7,.optr 3 0 0 0),(6,.optr 2 0 0 0)]⟩ ∧ mq = (rch p i).length - j,
    ⟨_,_,⟨0,m,_,_,by omega,ha,hm,rfl,rfl⟩,⟨⟨.inl rfl,rfl,rfl,rfl⟩,⟨bA,⟨bA,⟨bA,⟨bA,⟨bA,⟨bA,trivial⟩⟩⟩⟩⟩⟩,trivial⟩⟩,?_⟩
   rintro s0 m0 ⟨j,m,F0,F1,hj,ha,hm,rfl,hmeas⟩
   by_cases hlj : j < (rch p i).length
   ·have hso := rch_ok hg hlj
    have h61 := S61 p hg (fltAt i) ((rch p i).getD (j : Int).toNat (0,0)) hso
    have hps := pre_s hlj
    cases hx : homeF p (fltAt i) ((rch p i).getD (j : Int).toNat (0,0)) with
    | none =>
     have hT := trap_some hlt hlj ha hx
     rw [hx] at h61
     have hend := long_f1 hT
     conv=>whnf
     conv=>whnf
     (conv=>whnf); refine ifB_dec (fun w2=>?_) (fun w2=>?_)
     ·conv=>whnf
      conv=>whnf
      (conv=>whnf); refine ⟨⟨(by omega),(by omega)⟩,?_⟩
      conv=>whnf
      conv=>whnf
      (conv=>whnf); refine .inl ⟨_,_,byX rfl (h61),?_⟩
      conv=>whnf
      conv=>whnf
      (conv=>whnf); refine .inr (.inl ⟨[],?_⟩)
      conv=>whnf
      conv=>whnf
      (conv=>whnf); refine ⟨?_,nofun⟩
      (first | contradiction | omega | exact hend)
     ·(exfalso; omega)
    | some r =>
     rw [hx] at h61
     have ha2 : AllH p (pre p i (j + 1)) := by rw [hps]; exact ha.snoc (q := ((rch p i).getD j (0,0),fltAt i)) hx
     have hm2 : (if r.2 > m then r.2 else m) = lngL p (pre p i (j + 1)) := by
      rw [hps,lng_snoc,tik_some (q := ((rch p i).getD j (0,0),fltAt i)) hx,← hm]
      split <;> omega
     conv=>whnf
     conv=>whnf
     (conv=>whnf); refine ifB_dec (fun w2=>?_) (fun w2=>?_)
     ·conv=>whnf
      conv=>whnf
      (conv=>whnf); refine ⟨⟨(by omega),(by omega)⟩,?_⟩
      conv=>whnf
      conv=>whnf
      (conv=>whnf); refine .inl ⟨_,_,byX rfl (h61),?_⟩
      conv=>whnf
      conv=>whnf
      (conv=>whnf); refine .inr (.inl ⟨[],?_⟩)
      conv=>whnf
      conv=>whnf
      (conv=>whnf); refine ⟨inK64 (by omega) (by omega),?_⟩
      conv=>whnf
      conv=>whnf
      (conv=>whnf); refine ⟨_,_,⟨⟨j + 1,(if r.2 > m then r.2 else m),_,_,by omega,ha2,hm2,rfl,rfl⟩,by omega⟩,⟨⟨.inl rfl,rfl,rfl,rfl⟩,⟨bA,⟨bA,⟨bA,⟨bA,⟨bA,⟨bA,trivial⟩⟩⟩⟩⟩⟩,trivial⟩⟩
     ·(exfalso; omega)
   ·have hje : j = (rch p i).length := by omega
    have ha2 : AllH p (pre p (i + 1) 0) := by rw [← pre_n,← hje]; exact ha
    rw [hje,pre_n] at hm
    conv=>whnf
    conv=>whnf
    (conv=>whnf); refine ifB_dec (fun w2=>?_) (fun w2=>?_)
    ·(exfalso; omega)
    ·conv=>whnf
     conv=>whnf
     (conv=>whnf); refine ⟨inK64 (by omega) (by omega),?_⟩
     conv=>whnf
     conv=>whnf
     (conv=>whnf); refine ⟨_,_,⟨⟨i + 1,m,_,_,by omega,ha2,hm,rfl,rfl⟩,by omega⟩,⟨⟨.inl rfl,rfl,rfl,rfl⟩,⟨bA,⟨bA,⟨bA,⟨bA,⟨bA,trivial⟩⟩⟩⟩⟩,trivial⟩⟩
  ·(exfalso; omega)
 ·have hie : i = nF p := by omega
  have hT : trapO p = none := trap_none (by rw [← pre_e,← hie]; exact ha)
  have hE : m = lngL p (plL p) := by rw [hm,hie,pre_e]
  conv=>whnf
  (conv=>whnf); refine ifB_dec (fun w1=>?_) (fun w1=>?_)
  ·(exfalso; omega)
  ·conv=>whnf
   (conv=>whnf); refine ⟨?_,nofun⟩
   (first | contradiction | omega | exact long_f0 hT hE)
end Go.Tr

/- Contracts of chapter 7: the reference's ranks; the law SequenceTraps. Conditions: none. -/
-- seat YtinfmponjglalaaGreatDoor
namespace Go.Tr
open Go Go.Proofs
set_option maxRecDepth 20000
set_option maxHeartbeats 8000000

theorem flt_ok {p : Pln} {i : Nat} (h : i < nF p) : OkF p (fltAt i) := by
 have h : i < 2 * p.sig.length + 1 := h
 unfold fltAt
 split
 ·exact ⟨Int.le_refl _,by show (-1 : Int) < _; omega⟩
 ·refine ⟨?_,?_⟩
  ·show (-1 : Int) ≤ (((i - 1) / 2 : Nat) : Int); omega
  ·show (((i - 1) / 2 : Nat) : Int) < _; omega
theorem flt_neg {i : Nat} (h : (fltAt i).1 < 0) : fltAt i = noF := by
 unfold fltAt at *
 split
 ·rfl
 ·rename_i hi
  rw [if_neg hi] at h
  have h : (((i - 1) / 2 : Nat) : Int) < 0 := h
  omega
noncomputable def refR (p : Pln) : AV := match trapO p with | some q=>.tuple [ranksA [(q,0)],i64 0,vb false] | none=>.tuple [ranksA (rkL p),i64 (lngL p (plL p)),vb true]
theorem ref_f1 {p : Pln} {q : Plc} (h : trapO p = some q) {F : Nat → List AV} (hF : F 0 = rkC (q,0)) : AVE 5 (.tuple [.rslice 5 1 F,i64 0,vb false]) (refR p) := by
  unfold refR
  rw [h]
  exact ave_tup3 (k := 4) ⟨rfl, rfl, fun i hi => by obtain rfl : i = 0 := by omega
                                                    exact hF⟩ rfl rfl
theorem ref_f0 {p : Pln} (h : trapO p = none) {n : Nat} {F : Nat → List AV} (hn : n = (rkL p).length) (hF : ∀ i,i < n → F i = rkC ((rkL p).getD i rk0)) {m : Int} (hm : m = lngL p (plL p)) : AVE 5 (.tuple [.rslice 5 n F,i64 m,vb true]) (refR p) := by
 unfold refR
 rw [h,hm]
 exact ave_tup3 (k := 4) ⟨rfl,hn,hF⟩ rfl rfl
set_option maxHeartbeats 8000000 in
theorem S22 (p : Pln) (hp : FewP p) (hc : (checkP p).2 = 0) : SP 22 [planA p] (refR p) false := by
 have hg := Good.of hp hc
 have h52 := S52 p (by have := hp.sig; omega)
 have hnF : nF p = 2 * p.sig.length + 1 := rfl
 have hsg := hp.sig
 have hb50 : Tryz.prog.types[50].bytes = 40 := by kernel_rfl
 refine sound (d := 2) tok2 mixed2 Tryz.func22 (by kernel_rfl) (by kernel_rfl) ?_
 (conv=>whnf); refine .inl ⟨_,_,byX rfl (h52),?_⟩
 (conv=>whnf); refine ⟨[.slot 5 5],[1,5,6,7,8],fun st mq=>∃ (i : Nat) (n : Nat) (L : List Rnk) (m : Int),(i ≤ nF p) ∧ (AllH p (pre p i 0)) ∧ (L = (pre p i 0).map (rnk p)) ∧ (L.length = n) ∧ (m = lngL p (pre p i 0)) ∧ st = ⟨[(1,.optr 0 0 0 0),(5,.oslice 1 0 0 n none),(6,i64 m),(7,fts p.sig.length),(8,i64 i)],⟨[⟨3,1,fun _=>planC p,0,false,true,true⟩,⟨5,n,fun k=>rkC (L.getD k rk0),0,false,true,false⟩],[],none,0⟩,[]⟩ ∧ mq = nF p - i,
  ⟨_,_,⟨0,0,[],0,by omega,(fun q hq=>by cases hq),rfl,rfl,rfl,rfl,rfl⟩,⟨⟨.inl rfl,rfl,rfl,rfl⟩,⟨bA,⟨⟨rfl,rfl,rfl,rfl,fun _=>rfl,fun i h=>.inl (absurd h (Nat.not_lt_zero i))⟩,trivial⟩⟩,trivial⟩⟩,?_⟩
 rintro s0 m0 ⟨i,n,L,m,hi,ha,hL,hn,hm,rfl,hmeas⟩
 by_cases hlt : i < nF p
 ·have h13 := S13 p hg (fltAt (i : Int).toNat) (flt_ok hlt) flt_neg
  have hrl := rch_len hg i
  conv=>whnf
  (conv=>whnf); refine ifB_dec (fun w1=>?_) (fun w1=>?_)
  ·conv=>whnf
   (conv=>whnf); refine ⟨[],by kernel_rfl,?_⟩
   conv=>whnf
   (conv=>whnf); refine ⟨⟨(by omega),(by omega)⟩,?_⟩
   conv=>whnf
   (conv=>whnf); refine .inl ⟨_,_,byX rfl (h13),?_⟩
   conv=>whnf
   (conv=>whnf); refine ⟨[],[1,5,6,7,8,9,10],fun st mq=>∃ (j : Nat) (n : Nat) (L : List Rnk) (m : Int),(j ≤ (rch p i).length) ∧ (AllH p (pre p i j)) ∧ (L = (pre p i j).map (rnk p)) ∧ (L.length = n) ∧ (m = lngL p (pre p i j)) ∧ st = ⟨[(1,.optr 0 0 0 0),(5,.oslice 1 0 0 n none),(6,i64 m),(7,fts p.sig.length),(8,i64 i),(9,sts (rch p i)),(10,i64 j)],⟨[⟨3,1,fun _=>planC p,0,false,true,true⟩,⟨5,n,fun k=>rkC (L.getD k rk0),0,false,true,false⟩],[],none,0⟩,[]⟩ ∧ mq = (rch p i).length - j,
    ⟨_,_,⟨0,n,L,m,by omega,ha,hL,hn,hm,rfl,rfl⟩,⟨⟨.inl rfl,rfl,rfl,rfl⟩,⟨bA,⟨bA,trivial⟩⟩,trivial⟩⟩,?_⟩
   rintro s0 m0 ⟨j,n,L,m,hj,ha,hL,hn,hm,rfl,hmeas⟩
   by_cases hlj : j < (rch p i).length
   ·have hso := rch_ok hg hlj
    have h53 := S53 p hg (fltAt (i : Int).toNat) ((rch p i).getD (j : Int).toNat (0,0)) hso (flt_ok hlt)
    have hps := pre_s hlj
    have hpl := pre_len hg i j (by omega)
    have hnl : n = (pre p i j).length := by rw [← hn,hL,List.length_map]
    have hneed2 : (n + 1) * (Tryz.prog.types[50].bytes + 1) ≤ 1000000000000 := by rw [hb50]; omega
    cases hx : homeF p (fltAt (i : Int).toNat) ((rch p i).getD (j : Int).toNat (0,0)) with
    | none =>
     have hT := trap_some hlt hlj ha hx
     rw [hx] at h53
     conv=>whnf
     conv=>whnf
     (conv=>whnf); refine ifB_dec (fun w2=>?_) (fun w2=>?_)
     ·conv=>whnf
      conv=>whnf
      (conv=>whnf); refine ⟨[],by kernel_rfl,?_⟩
      conv=>whnf
      conv=>whnf
      (conv=>whnf); refine ⟨⟨(by omega),(by omega)⟩,?_⟩
      conv=>whnf
      conv=>whnf
      (conv=>whnf); refine ⟨⟨(by omega),(by omega)⟩,?_⟩
      conv=>whnf
      conv=>whnf
      (conv=>whnf); refine .inl ⟨_,_,byX rfl (h53),?_⟩
      conv=>whnf
      conv=>whnf
      (conv=>whnf); refine ⟨[],by kernel_rfl,?_⟩
      conv=>whnf
      conv=>whnf
      (conv=>whnf); refine ⟨⟨(by omega),(by omega)⟩,?_⟩
      conv=>whnf
      conv=>whnf
      (conv=>whnf); refine ⟨⟨(by omega),(by omega)⟩,?_⟩
      conv=>whnf
      conv=>whnf
      (conv=>whnf); refine ⟨?_,nofun⟩
      (first | contradiction | omega | exact hneed2 | exact ref_f1 hT rfl)
     ·(exfalso; omega)
    | some r =>
     rw [hx] at h53
     have ha2 : AllH p (pre p i (j + 1)) := by rw [hps]; exact ha.snoc (q := ((rch p i).getD j (0,0),fltAt i)) hx
     have hm2 : (if r.2 > m then r.2 else m) = lngL p (pre p i (j + 1)) := by
      rw [hps,lng_snoc,tik_some (q := ((rch p i).getD j (0,0),fltAt i)) hx,← hm]
      split <;> omega
     have hL2 : L ++ [(((rch p i).getD j (0,0),fltAt i),(r.1.length : Int))] = (pre p i (j + 1)).map (rnk p) := by
      rw [hps,List.map_append,hL]
      have hk := rnk_some (q := ((rch p i).getD j (0,0),fltAt i)) hx
      rw [List.map_cons,List.map_nil,hk]
     conv=>whnf
     conv=>whnf
     (conv=>whnf); refine ifB_dec (fun w2=>?_) (fun w2=>?_)
     ·conv=>whnf
      conv=>whnf
      (conv=>whnf); refine ⟨[],by kernel_rfl,?_⟩
      conv=>whnf
      conv=>whnf
      (conv=>whnf); refine ⟨⟨(by omega),(by omega)⟩,?_⟩
      conv=>whnf
      conv=>whnf
      (conv=>whnf); refine ⟨⟨(by omega),(by omega)⟩,?_⟩
      conv=>whnf
      conv=>whnf
      (conv=>whnf); refine .inl ⟨_,_,byX rfl (h53),?_⟩
      conv=>whnf
      conv=>whnf
      (conv=>whnf); refine ⟨[],by kernel_rfl,?_⟩
      conv=>whnf
      conv=>whnf
      (conv=>whnf); refine ⟨⟨(by omega),(by omega)⟩,?_⟩
      conv=>whnf
      conv=>whnf
      (conv=>whnf); refine ⟨⟨(by omega),(by omega)⟩,?_⟩
      conv=>whnf
      conv=>whnf
      (conv=>whnf); refine .inl ?_
      conv=>whnf
      conv=>whnf
      (conv=>whnf); refine ⟨(by show _ * (40 + 1) ≤ _; omega),?_⟩
      conv=>whnf
      conv=>whnf
      (conv=>whnf); refine ⟨inK64 (by omega) (by omega),?_⟩
      conv=>whnf
      conv=>whnf
      (conv=>whnf); refine ⟨_,_,⟨⟨j + 1,n + 1,L ++ [(((rch p i).getD j (0,0),fltAt i),(r.1.length : Int))],(if r.2 > m then r.2 else m),by omega,ha2,hL2,(by rw [List.length_append,hn]; rfl),hm2,rfl,rfl⟩,by omega⟩,⟨⟨.inl rfl,rfl,rfl,rfl⟩,⟨bA,⟨⟨rfl,rfl,rfl,rfl,fun _=>rfl,fun k hk=>.inl (rk_row hn _ k hk)⟩,trivial⟩⟩,trivial⟩⟩
     ·(exfalso; omega)
   ·have hje : j = (rch p i).length := by omega
    have ha2 : AllH p (pre p (i + 1) 0) := by rw [← pre_n,← hje]; exact ha
    rw [hje,pre_n] at hL
    rw [hje,pre_n] at hm
    conv=>whnf
    conv=>whnf
    (conv=>whnf); refine ifB_dec (fun w2=>?_) (fun w2=>?_)
    ·(exfalso; omega)
    ·conv=>whnf
     conv=>whnf
     (conv=>whnf); refine ⟨inK64 (by omega) (by omega),?_⟩
     conv=>whnf
     conv=>whnf
     (conv=>whnf); refine ⟨_,_,⟨⟨i + 1,n,L,m,by omega,ha2,hL,hn,hm,rfl,rfl⟩,by omega⟩,⟨⟨.inl rfl,rfl,rfl,rfl⟩,⟨bA,⟨bA,trivial⟩⟩,trivial⟩⟩
  ·(exfalso; omega)
 ·have hie : i = nF p := by omega
  have hT : trapO p = none := trap_none (by rw [← pre_e,← hie]; exact ha)
  have hE : L = rkL p := by rw [hL,hie,pre_e]; rfl
  have hM : m = lngL p (plL p) := by rw [hm,hie,pre_e]
  subst hE
  conv=>whnf
  (conv=>whnf); refine ifB_dec (fun w1=>?_) (fun w1=>?_)
  ·(exfalso; omega)
  ·conv=>whnf
   (conv=>whnf); refine ⟨?_,nofun⟩
   (first | contradiction | omega | exact ref_f0 hT hn.symm (fun i hi=>rfl) hM)
theorem S23 (l : List Rnk) (hl : l.length ≤ 1000000000) : SP 23 [ranksA l,ranksA l] (vb true) false := by
 refine sound (d := 2) tok2 mixed2 Tryz.func23 (by kernel_rfl) (by kernel_rfl) ?_
 (conv=>whnf); refine ifB_bne (fun w1=>?_) (fun w1=>?_)
 ·(exfalso; omega)
 ·(conv=>whnf); refine ⟨[],[0,1,5],fun st mq=>∃ (k : Nat),(k ≤ l.length) ∧ st = ⟨[(0,ranksA l),(1,ranksA l),(5,i64 k)],⟨[],[],none,0⟩,[]⟩ ∧ mq = l.length - k,
   ⟨_,_,⟨0,by omega,rfl,rfl⟩,⟨⟨.inl rfl,rfl,rfl,rfl⟩,trivial,trivial⟩⟩,?_⟩
  rintro s0 m0 ⟨k,hk,rfl,hmeas⟩
  have hv : vEqL [.int .i64 (l.getD (k : Int).toNat rk0).1.1.1,.int .i64 (l.getD (k : Int).toNat rk0).1.1.2,.int .i64 (l.getD (k : Int).toNat rk0).1.2.1,.bool (l.getD (k : Int).toNat rk0).1.2.2,.int .i64 (l.getD (k : Int).toNat rk0).2]
   [.int .i64 (l.getD (k : Int).toNat rk0).1.1.1,.int .i64 (l.getD (k : Int).toNat rk0).1.1.2,.int .i64 (l.getD (k : Int).toNat rk0).1.2.1,.bool (l.getD (k : Int).toNat rk0).1.2.2,.int .i64 (l.getD (k : Int).toNat rk0).2] = true := by simp [vEqL]
  conv=>whnf
  (conv=>whnf); refine ifB_dec (fun w2=>?_) (fun w2=>?_)
  ·conv=>whnf
   (conv=>whnf); refine ⟨[],by kernel_rfl,?_⟩
   conv=>whnf
   (conv=>whnf); refine ⟨⟨(by omega),(by omega)⟩,?_⟩
   conv=>whnf
   (conv=>whnf); refine ⟨⟨(by omega),(by omega)⟩,?_⟩
   conv=>whnf
   (conv=>whnf); refine ifB_not ?_
   conv=>whnf
   (conv=>whnf); refine ifB_intro (fun w3=>?_) (fun w3=>?_)
   ·conv=>whnf
    (conv=>whnf); refine ⟨inK64 (by omega) (by omega),?_⟩
    conv=>whnf
    (conv=>whnf); refine ⟨_,_,⟨⟨k + 1,by omega,rfl,rfl⟩,by omega⟩,⟨⟨.inl rfl,rfl,rfl,rfl⟩,trivial,trivial⟩⟩
   ·exact absurd (hv.symm.trans w3) nofun
  ·conv=>whnf
   (conv=>whnf); refine ⟨?_,nofun⟩
   rfl
def lightB (p : Pln) : Bool := decide (p.sig.length ≤ 3) && decide (p.steps.length ≤ 6)
theorem S18 (p : Pln) : SP 18 [planA p] (vb (lightB p)) false := by
 unfold lightB
 refine sound (d := 2) tok2 mixed2 Tryz.func18 (by kernel_rfl) (by kernel_rfl) ?_
 (conv=>whnf); refine ifB_dec (fun w1=>?_) (fun w1=>?_)
 ·(conv=>whnf); refine ⟨?_,nofun⟩
  exact endb (by rw [decide_eq_true (show p.sig.length ≤ 3 by omega),Bool.true_and]; exact decide_eq_decide.2 (by omega))
 ·(conv=>whnf); refine ⟨?_,nofun⟩
  exact endb (by rw [decide_eq_false (show ¬ p.sig.length ≤ 3 by omega)]; rfl)

theorem S19e (p : Pln) (hp : FewP p) (hc : (checkP p).2 ≠ 0) : SP 19 [planA p] (.tuple [rkA rk0,i64 (checkP p).2]) false := by
 have h36 := S36 p hp
 refine sound (d := 2) tok2 mixed2 Tryz.func19 (by kernel_rfl) (by kernel_rfl) ?_
 (conv=>whnf); refine .inl ⟨_,_,byX rfl (h36),?_⟩
 (conv=>whnf); refine ifB_bne (fun w1=>?_) (fun w1=>?_)
 ·(conv=>whnf); refine ⟨?_,nofun⟩
  (first | contradiction | omega | exact ave_tup2 (k := 4) (ave_rk _) rfl)
 ·(exfalso; omega)
theorem S20e (p : Pln) (hp : FewP p) (hc : (checkP p).2 ≠ 0) : SP 20 [planA p] (.tuple [.eslice,i64 (checkP p).2]) false := by
 have h36 := S36 p hp
 refine sound (d := 2) tok2 mixed2 Tryz.func20 (by kernel_rfl) (by kernel_rfl) ?_
 (conv=>whnf); refine .inl ⟨_,_,byX rfl (h36),?_⟩
 (conv=>whnf); refine ifB_bne (fun w1=>?_) (fun w1=>?_)
 ·(conv=>whnf); refine ⟨?_,nofun⟩
  (first | contradiction | omega | exact ave_tup2 (k := 4) rfl rfl)
 ·(exfalso; omega)
theorem S21e (p : Pln) (hp : FewP p) (hc : (checkP p).2 ≠ 0) : SP 21 [planA p] (.tuple [i64 0,i64 (checkP p).2]) false := by
 have h36 := S36 p hp
 refine sound (d := 2) tok2 mixed2 Tryz.func21 (by kernel_rfl) (by kernel_rfl) ?_
 (conv=>whnf); refine .inl ⟨_,_,byX rfl (h36),?_⟩
 (conv=>whnf); refine ifB_bne (fun w1=>?_) (fun w1=>?_)
 ·(conv=>whnf); refine ⟨?_,nofun⟩
  (first | contradiction | omega | exact ave_tup2 (k := 4) rfl rfl)
 ·(exfalso; omega)

set_option maxHeartbeats 8000000 in
theorem S4 (p : Pln) (hl : p.sig.length ≤ 9223372036854775807 ∧ p.steps.length ≤ 9223372036854775807) : SP 4 [planA p] (vb true) false := by
 have h6 := S6
 have h7 := S7 p hl
 cases hfw : fewB p with
 | false =>
  rw [hfw] at h7
  refine sound (d := 2) tok2 mixed2 Tryz.func4 (by kernel_rfl) (by kernel_rfl) ?_
  (conv=>whnf); refine .inl ⟨_,_,byX rfl (Sound1.pl (h6) rfl),?_⟩
  (conv=>whnf); refine .inl ⟨_,_,byX rfl (Sound1.pl (h7) rfl),?_⟩
  (conv=>whnf); refine ⟨?_,nofun⟩
  (first | contradiction | omega | rfl)
 | true =>
  rw [hfw] at h7
  have hp := FewP.of hfw
  have h8 := S8 p hp
  have h10 := S10 p hp
  have h18 := S18 p
  have hv0 : vEqL [.int .i64 0,.int .i64 0,.int .i64 0,.bool false,.int .i64 0] [.int .i64 0,.int .i64 0,.int .i64 0,.bool false,.int .i64 0] = true := by simp [vEqL]
  by_cases hc : (checkP p).2 = 0
  ·have hg := Good.of hp hc
   rw [hc] at h8
   cases hlt : lightB p with
   | false =>
    rw [hlt] at h18
    refine sound (d := 2) tok2 mixed2 Tryz.func4 (by kernel_rfl) (by kernel_rfl) ?_
    (conv=>whnf); refine .inl ⟨_,_,byX rfl (Sound1.pl (h6) rfl),?_⟩
    (conv=>whnf); refine .inl ⟨_,_,byX rfl (Sound1.pl (h7) rfl),?_⟩
    (conv=>whnf); refine .inl ⟨_,_,byX rfl (Sound1.pl (h8) rfl),?_⟩
    (conv=>whnf); refine .inl ⟨_,_,byX rfl (Sound1.pl (h18) rfl),?_⟩
    (conv=>whnf); refine ⟨?_,nofun⟩
    (first | contradiction | omega | rfl)
   | true =>
    rw [hlt] at h18
    have h19 := S19 p hp hc
    have h20 := S20 p hp hc
    have h21 := S21 p hp hc
    have h22 := S22 p hp hc
    have hkl : (rkL p).length ≤ 1000000 := by
     have := pre_len hg (nF p) 0 (by omega)
     have hs := hp.sig
     have hnF : nF p = 2 * p.sig.length + 1 := rfl
     rw [pre_e] at this
     unfold rkL
     rw [List.length_map]
     omega
    have h23 := S23 (rkL p) (by omega)
    unfold trapR at h19
    unfold ranksR at h20
    unfold longR at h21
    unfold refR at h22
    cases hT : trapO p with
    | some q =>
     rw [hT] at h19 h20 h21 h22
     have hv1 : vEqL [.int .i64 q.1.1,.int .i64 q.1.2,.int .i64 q.2.1,.bool q.2.2,.int .i64 0] [.int .i64 q.1.1,.int .i64 q.1.2,.int .i64 q.2.1,.bool q.2.2,.int .i64 0] = true := by simp [vEqL]
     refine sound (d := 2) tok2 mixed2 Tryz.func4 (by kernel_rfl) (by kernel_rfl) ?_
     have hn0 : (0 : Int) ≤ 0 ∧ (0 : Int) < (([(q,(0 : Int))] : List Rnk).length : Int) := ⟨by omega,by simp⟩
     (conv=>whnf); refine .inl ⟨_,_,byX rfl (Sound1.pl (h6) rfl),?_⟩
     (conv=>whnf); refine .inl ⟨_,_,byX rfl (Sound1.pl (h7) rfl),?_⟩
     (conv=>whnf); refine .inl ⟨_,_,byX rfl (Sound1.pl (h8) rfl),?_⟩
     (conv=>whnf); refine .inl ⟨_,_,byX rfl (Sound1.pl (h18) rfl),?_⟩
     (conv=>whnf); refine .inl ⟨_,_,byX rfl (h10),?_⟩
     (conv=>whnf); refine .inl ⟨_,_,byX rfl (Sound1.pl (h19) rfl),?_⟩
     (conv=>whnf); refine .inl ⟨_,_,byX rfl (h10),?_⟩
     (conv=>whnf); refine .inl ⟨_,_,byX rfl (h20),?_⟩
     (conv=>whnf); refine .inl ⟨_,_,byX rfl (h10),?_⟩
     (conv=>whnf); refine .inl ⟨_,_,byX rfl (Sound1.pl (h21) rfl),?_⟩
     (conv=>whnf); refine .inl ⟨_,_,byX rfl (Sound1.pl (h8) rfl),?_⟩
     (conv=>whnf); refine .inl ⟨_,_,byX rfl (h22),?_⟩
     (conv=>whnf); refine ⟨[],by kernel_rfl,?_⟩
     (conv=>whnf); refine ⟨⟨(by omega),(by omega)⟩,?_⟩
     (conv=>whnf); refine ifB_intro (fun w1=>?_) (fun w1=>?_)
     ·(conv=>whnf); refine ⟨?_,nofun⟩
      (first | contradiction | omega | exact hn0 | rfl)
     ·(conv=>whnf); refine ⟨?_,nofun⟩
      exact absurd (hv1.symm.trans w1) nofun
    | none =>
     rw [hT] at h19 h20 h21 h22
     refine sound (d := 2) tok2 mixed2 Tryz.func4 (by kernel_rfl) (by kernel_rfl) ?_
     have hbe : vb (lngL p (plL p) == lngL p (plL p)) = vb true := endb (by simp)
     (conv=>whnf); refine .inl ⟨_,_,byX rfl (Sound1.pl (h6) rfl),?_⟩
     (conv=>whnf); refine .inl ⟨_,_,byX rfl (Sound1.pl (h7) rfl),?_⟩
     (conv=>whnf); refine .inl ⟨_,_,byX rfl (Sound1.pl (h8) rfl),?_⟩
     (conv=>whnf); refine .inl ⟨_,_,byX rfl (Sound1.pl (h18) rfl),?_⟩
     (conv=>whnf); refine .inl ⟨_,_,byX rfl (h10),?_⟩
     (conv=>whnf); refine .inl ⟨_,_,byX rfl (Sound1.pl (h19) rfl),?_⟩
     (conv=>whnf); refine .inl ⟨_,_,byX rfl (h10),?_⟩
     (conv=>whnf); refine .inl ⟨_,_,byX rfl (h20),?_⟩
     (conv=>whnf); refine .inl ⟨_,_,byX rfl (h10),?_⟩
     (conv=>whnf); refine .inl ⟨_,_,byX rfl (Sound1.pl (h21) rfl),?_⟩
     (conv=>whnf); refine .inl ⟨_,_,byX rfl (Sound1.pl (h8) rfl),?_⟩
     (conv=>whnf); refine .inl ⟨_,_,byX rfl (h22),?_⟩
     (conv=>whnf); refine .inl ⟨_,_,byX rfl (Sound1.pl (h23) rfl),?_⟩
     (conv=>whnf); refine ⟨?_,nofun⟩
     (first | contradiction | omega | exact hbe | rfl)
  ·have h19 := S19e p hp hc
   have h20 := S20e p hp hc
   have h21 := S21e p hp hc
   refine sound (d := 2) tok2 mixed2 Tryz.func4 (by kernel_rfl) (by kernel_rfl) ?_
   (conv=>whnf); refine .inl ⟨_,_,byX rfl (Sound1.pl (h6) rfl),?_⟩
   (conv=>whnf); refine .inl ⟨_,_,byX rfl (Sound1.pl (h7) rfl),?_⟩
   (conv=>whnf); refine .inl ⟨_,_,byX rfl (Sound1.pl (h8) rfl),?_⟩
   (conv=>whnf); refine ifB_beq (fun w1=>?_) (fun w1=>?_)
   ·(exfalso; omega)
   ·(conv=>whnf); refine .inl ⟨_,_,byX rfl (h10),?_⟩
    (conv=>whnf); refine .inl ⟨_,_,byX rfl (Sound1.pl (h19) rfl),?_⟩
    (conv=>whnf); refine .inl ⟨_,_,byX rfl (h10),?_⟩
    (conv=>whnf); refine .inl ⟨_,_,byX rfl (h20),?_⟩
    (conv=>whnf); refine .inl ⟨_,_,byX rfl (h10),?_⟩
    (conv=>whnf); refine .inl ⟨_,_,byX rfl (Sound1.pl (h21) rfl),?_⟩
    (conv=>whnf); refine .inl ⟨_,_,byX rfl (Sound1.pl (h8) rfl),?_⟩
    (conv=>whnf); refine ifB_bne (fun w2=>?_) (fun w2=>?_)
    ·(conv=>whnf); refine ifB_beq (fun w3=>?_) (fun w3=>?_)
     ·(conv=>whnf); refine ifB_beq (fun w4=>?_) (fun w4=>?_)
      ·(conv=>whnf); refine ifB_beq (fun w5=>?_) (fun w5=>?_)
       ·(conv=>whnf); refine ⟨?_,nofun⟩
        (first | contradiction | omega | rfl)
       ·(exfalso; omega)
      ·(exfalso; omega)
     ·(exfalso; omega)
    ·(exfalso; omega)
end Go.Tr

/- The opening of a law: what an argument reads as, as abstract values, with its shape. Conditions: types of numbers, truth values, strings, slices, structs and arrays. -/
namespace Go.Tr
open Go Go.RowKit

def V2 (P : Program) (w : World) (q : Nat → Prop) : List AV → List Value → Prop
 | [],[]=>True
 | x :: xs,v :: vs=>(VT P w q x v ∧ v.oneCell' = true) ∧ V2 P w q xs vs
 | _,_=>False

def All2 {α β : Type} (p : α → β → Prop) : List α → List β → Prop
 | [],[]=>True
 | x :: xs,y :: ys=>p x y ∧ All2 p xs ys
 | _,_=>False

def TyC (P : Program) : Nat → TypeId → List AV → Prop
 | 0,_,_=>True
 | m + 1,t,xs=>match P.underlying t with
  | some .bool=>∃ b,xs = [.val (.bool b)]
  | some (.int k)=>∃ n,xs = [.val (.int k n)] ∧ inK k n
  | some .string=>∃ s : ByteArray,xs = [.val (.string s)] ∧ s.size ≤ 9223372036854775807
  | some (.slice e)=>∃ len f,xs = [.rslice (P.cellsOf e) len f] ∧ len ≤ 9223372036854775807 ∧ ∀ i,i < len → TyC P m e (f i)
  | some (.struct fs)=>∃ ps : List (List AV),xs = ps.flatten ∧ All2 (fun f p=>TyC P m f.type p) fs.toList ps
  | some (.array n e)=>∃ ps : List (List AV),xs = ps.flatten ∧ ps.length = n ∧ ∀ p ∈ ps,TyC P m e p
  | _=>False

def layF (P : Program) (g : TypeId → Bool) : List Field → Nat → Nat → Bool
 | [],off,tot=>Nat.beq off tot
 | f :: r,off,tot=>Nat.beq f.offset off && g f.type && layF P g r (off + P.cellsOf f.type) tot

def lay (P : Program) : Nat → TypeId → Bool
 | 0,_=>false
 | m + 1,t=>match P.underlying t with
  | some .bool | some (.int _) | some .string=>true
  | some (.slice e)=>Nat.blt 0 (P.cellsOf e) && lay P m e
  | some (.struct fs)=>layF P (lay P m) fs.toList 0 (P.cellsOf t)
  | some (.array n e)=>Nat.beq (P.cellsOf t) (n * P.cellsOf e) && lay P m e
  | _=>false

section
variable {H : Type} {enc : TypeId × Value → H} {P : Program} {w : World} {spare : Nat → Bool} {held : Bool} {q : Nat → Prop}

theorem V2_len : ∀ {xs : List AV} {vs : List Value},V2 P w q xs vs → xs.length = vs.length
 | [],[],_=>rfl
 | x :: xs,v :: vs,h=>by simp [V2_len h.2]
 | [],_ :: _,h=>h.elim
 | _ :: _,[],h=>h.elim

theorem V2_append : ∀ {xs : List AV} {vs : List Value} {ys : List AV} {us : List Value},V2 P w q xs vs → V2 P w q ys us → V2 P w q (xs ++ ys) (vs ++ us)
 | [],[],_,_,_,h=>h
 | _ :: _,_ :: _,_,_,h,h'=>⟨h.1,V2_append h.2 h'⟩
 | [],_ :: _,_,_,h,_=>h.elim
 | _ :: _,[],_,_,h,_=>h.elim

theorem V2_get : ∀ {xs : List AV} {vs : List Value},V2 P w q xs vs → ∀ (i : Nat) x,xs[i]? = some x → VT P w q x (vs.getD i undef) ∧ (vs.getD i undef).oneCell' = true
 | [],[],_,i,x,hx=>by simp at hx
 | y :: ys,v :: vs,h,0,x,hx=>by
  simp at hx
  subst hx
  simpa using h.1
 | y :: ys,v :: vs,h,i + 1,x,hx=>by
  have := V2_get h.2 i x (by simpa using hx)
  simpa using this
 | [],_ :: _,h,_,_,_=>h.elim
 | _ :: _,[],h,_,_,_=>h.elim

theorem mapM_cons_some {α β : Type} {f : α → Option β} {a : α} {l : List α} {r : List β} (h : (a :: l).mapM f = some r) : ∃ b bs,f a = some b ∧ l.mapM f = some bs ∧ r = b :: bs := by
 rw [List.mapM_cons] at h
 cases ha : f a with
 | none=>simp [ha] at h
 | some b =>
  cases hl : l.mapM f with
  | none=>simp [ha,hl] at h
  | some bs=>simp [ha,hl] at h; exact ⟨b,bs,rfl,rfl,h.symm⟩

theorem mapM_get {α β : Type} {f : α → Option β} : ∀ {l : List α} {r : List β},l.mapM f = some r → r.length = l.length ∧ ∀ (i : Nat) x,l[i]? = some x → ∃ y,f x = some y ∧ r[i]? = some y
 | [],r,h=>by simp at h; subst h; exact ⟨rfl,fun i x hx=>by simp at hx⟩
 | a :: l,r,h=>by
  obtain ⟨b,bs,h1,h2,rfl⟩ := mapM_cons_some h
  obtain ⟨g1,g2⟩ := mapM_get h2
  refine ⟨by simp [g1],fun i x hx=>?_⟩
  cases i with
  | zero=>simp at hx; subst hx; exact ⟨b,h1,rfl⟩
  | succ i=>simpa using g2 i x (by simpa using hx)

theorem cells_some {a : Addr} {n : Nat} {cs : List Value} (h : w.cells? 0 a n = some cs) : cs.length = n ∧ ∀ j,j < n → w.cell? (a.add j) = some (cs.getD j undef) := by
 unfold World.cells? at h
 rw [if_pos (Nat.zero_le _)] at h
 obtain ⟨h1,h2⟩ := mapM_get h
 refine ⟨by simpa using h1,fun j hj=>?_⟩
 obtain ⟨y,h3,h4⟩ := h2 j j (by simp [hj])
 rw [h3,List.getD_eq_getElem?_getD,h4]
 rfl

theorem cell_spot {a : Addr} {v : Value} (h : w.cell? a = some v) : a.spot = none ∧ a.block < w.heap.size := by
 unfold World.cell? at h
 split at h
 ·rename_i c t fr hb
  refine ⟨?_,?_⟩
  ·cases hs : a.spot with
   | none=>rfl
   | some s=>simp [hs] at h
  ·exact (Array.getElem?_eq_some_iff.1 hb).1
 ·cases h

theorem addr_add2 (blk off u j : Nat) : ((⟨blk,off,none⟩ : Addr).add u).add j = ⟨blk,off + (u + j),none⟩ := by
 unfold Addr.add
 by_cases h1 : u = 0
 ·subst h1
  by_cases h2 : j = 0
  ·subst h2; rfl
  ·simp [h2]
 ·by_cases h2 : j = 0
  ·subst h2; simp [h1]
  ·simp [h1,h2,Nat.add_assoc]

theorem fields_av {g : TypeId → List Value → Option (DataW H × List MemPlace)} {T : TypeId → List AV → Prop} {ly : TypeId → Bool}
  (ih : ∀ t,ly t = true → ∀ cs x,g t cs = some x → ∃ xs,V2 P w q xs cs ∧ T t xs) (cs : List Value) : ∀ (fs : List Field) (off : Nat) (r : List (DataW H × List MemPlace)),layF P ly fs off cs.length = true →
  (fs.mapM fun f=>g f.type ((cs.drop f.offset).take (P.cellsOf f.type))) = some r → ∃ ps : List (List AV),V2 P w q ps.flatten (cs.drop off) ∧ All2 (fun f p=>T f.type p) fs ps
 | [],off,r,hl,h=>by
  have := Nat.eq_of_beq_eq_true hl
  subst this
  exact ⟨[],by simp [V2],trivial⟩
 | f :: fs, off, r, hl, h => by
  simp only [layF,Bool.and_eq_true] at hl
  obtain ⟨⟨h1,h2⟩,h3⟩ := hl
  have e := Nat.eq_of_beq_eq_true h1
  obtain ⟨b,bs,g1,g2,rfl⟩ := mapM_cons_some h
  obtain ⟨p,p1,p2⟩ := ih _ h2 _ _ g1
  obtain ⟨ps,r1,r2⟩ := fields_av ih cs fs _ _ h3 g2
  refine ⟨p :: ps,?_,p2,r2⟩
  rw [List.flatten_cons]
  have : cs.drop off = (cs.drop f.offset).take (P.cellsOf f.type) ++ cs.drop (off + P.cellsOf f.type) := by
   rw [e,← List.drop_drop]
   exact (List.take_append_drop _ _).symm
  rw [this]
  exact V2_append p1 r1

theorem items_av {g : List Value → Option (DataW H × List MemPlace)} {T : List AV → Prop} (ih : ∀ cs x,g cs = some x → ∃ xs,V2 P w q xs cs ∧ T xs) (cs : List Value) (s n : Nat) (hn : cs.length = n * s)
  (h : ∀ i,i < n → ∃ x,g ((cs.drop (i * s)).take s) = some x) : ∀ (k i : Nat),i + k = n → ∃ ps : List (List AV),V2 P w q ps.flatten (cs.drop (i * s)) ∧ ps.length = k ∧ ∀ p ∈ ps,T p
 | 0,i,hi=>by
  have : i = n := by omega
  subst this
  refine ⟨[],?_,rfl,nofun⟩
  rw [List.drop_eq_nil_of_le (by omega)]
  exact trivial
 | k + 1, i, hi => by
  obtain ⟨x,hx⟩ := h i (by omega)
  obtain ⟨p,p1,p2⟩ := ih _ _ hx
  obtain ⟨ps,r1,r2,r3⟩ := items_av ih cs s n hn h k (i + 1) (by omega)
  refine ⟨p :: ps,?_,by simp [r2],fun y hy=>?_⟩
  ·rw [List.flatten_cons]
   have : cs.drop (i * s) = (cs.drop (i * s)).take s ++ cs.drop ((i + 1) * s) := by
    rw [Nat.succ_mul,← List.drop_drop]
    exact (List.take_append_drop _ _).symm
   rw [this]
   exact V2_append p1 r1
  ·rcases List.mem_cons.1 hy with rfl | hy
   ·exact p2
   ·exact r3 y hy

theorem trod_av (hq : ∀ b, b < w.heap.size → q b) : ∀ (m : Nat) (t : TypeId), lay P m t = true → ∀ (fuel : Nat) (cs : List Value) (x : DataW H × List MemPlace), DataW.trod enc P w 0 spare held fuel t cs = some x → ∃ xs, V2 P w q xs cs ∧ TyC P m t xs
 | 0,t,hl,_,_,_,_=>by simp [lay] at hl
 | m + 1,t,hl,0,cs,x,h=>by simp [DataW.trod] at h
 | m + 1, t, hl, fuel + 1, cs, x, h => by
  unfold lay at hl
  unfold TyC
  unfold DataW.trod at h
  cases hu : P.underlying t with
  | none=>simp [hu] at hl
  | some d =>
   simp only [hu] at hl h ⊢
   cases d with
   | bool =>
    split at h <;> first | (cases h; done) | (rename_i e; cases e; done) | skip
    cases h
    exact ⟨[.val (.bool _)],⟨⟨.val _,rfl⟩,trivial⟩,_,rfl⟩
   | int k =>
    split at h <;> first | (cases h; done) | (rename_i e; cases e; done) | skip
    rename_i e
    cases e
    split at h
    ·rename_i hk
     obtain ⟨rfl,hw⟩ := hk
     simp only [Lit.wf,Bool.and_eq_true,decide_eq_true_eq] at hw
     exact ⟨[.val (.int _ _)],⟨⟨.val _,rfl⟩,trivial⟩,_,rfl,hw⟩
    ·cases h
   | string =>
    split at h <;> first | (cases h; done) | (rename_i e; cases e; done) | skip
    split at h
    ·rename_i hs
     exact ⟨[.val (.string _)],⟨⟨.val _,rfl⟩,trivial⟩,_,rfl,hs⟩
    ·cases h
   | slice e =>
    simp only [Bool.and_eq_true] at hl
    split at h <;> first | (cases h; done) | (rename_i e; cases e; done) | skip
    ·exact ⟨[.rslice (P.cellsOf e) 0 fun _=>[]],⟨⟨.rslice0 _ _ _ _,rfl⟩,trivial⟩,_,_,rfl,by omega,fun i hi=>absurd hi (Nat.not_lt_zero i)⟩
    ·rename_i e0 a len cap e1
     cases e1
     split at h
     case isFalse=>cases h
     rename_i hb
     have hes : 0 < P.cellsOf e := Nat.le_of_ble_eq_true hl.1
     cases hM : (List.range len).mapM fun i=>(w.cells? 0 (a.add (i * P.cellsOf e)) (P.cellsOf e)).bind (DataW.trod enc P w 0 spare held fuel e) with
     | none=>rw [hM] at h; cases h
     | some elems =>
      obtain ⟨_,g2⟩ := mapM_get hM
      have hx : ∀ i,∃ xs : List AV,i < len → ∃ cs,(cs.length = P.cellsOf e ∧ ∀ j,j < P.cellsOf e → w.cell? ((a.add (i * P.cellsOf e)).add j) = some (cs.getD j undef)) ∧ V2 P w q xs cs ∧ TyC P m e xs := fun i=>by
       by_cases hi : i < len
       ·obtain ⟨y,y1,_⟩ := g2 i i (by simp [hi])
        cases hc : w.cells? 0 (a.add (i * P.cellsOf e)) (P.cellsOf e) with
        | none=>rw [hc] at y1; cases y1
        | some cs1 =>
         rw [hc] at y1
         obtain ⟨xs,x1,x2⟩ := trod_av hq m e hl.2 _ _ _ y1
         exact ⟨xs,fun _=>⟨cs1,cells_some hc,x1,x2⟩⟩
       ·exact ⟨[],fun h=>absurd h hi⟩
      have hf := fun i=>(Classical.choose_spec (hx i))
      generalize hF : (fun i=>Classical.choose (hx i)) = F
      have hf : ∀ i,i < len → ∃ cs,(cs.length = P.cellsOf e ∧ ∀ j,j < P.cellsOf e → w.cell? ((a.add (i * P.cellsOf e)).add j) = some (cs.getD j undef)) ∧ V2 P w q (F i) cs ∧ TyC P m e (F i) := fun i hi=>by
       have := Classical.choose_spec (hx i) hi
       rw [← hF]
       exact this
      refine ⟨[.rslice (P.cellsOf e) len F],⟨⟨?_,rfl⟩,trivial⟩,len,F,rfl,?_,fun i hi=>?_⟩
      ·rcases Nat.eq_zero_or_pos len with rfl | hp
       ·exact .rslice0 _ _ _ _
       ·obtain ⟨cs0,c1,_,_⟩ := hf 0 hp
        have hc0 := c1.2 0 hes
        have e0 : ((a.add (0 * P.cellsOf e)).add 0) = a := by simp [Addr.add]
        rw [e0] at hc0
        obtain ⟨s1,s2⟩ := cell_spot hc0
        obtain ⟨blk,off,spot⟩ := a
        simp only at s1 s2
        subst s1
        have hG : ∀ i,∃ cs : List Value,i < len → (cs.length = P.cellsOf e ∧ ∀ j,j < P.cellsOf e → w.cell? (((⟨blk,off,none⟩ : Addr).add (i * P.cellsOf e)).add j) = some (cs.getD j undef)) ∧ V2 P w q (F i) cs := fun i=>by
         by_cases hi : i < len
         ·obtain ⟨cs,c1,c2,_⟩ := hf i hi
          exact ⟨cs,fun _=>⟨c1,c2⟩⟩
         ·exact ⟨[],fun h=>absurd h hi⟩
        refine .rslice _ _ _ blk off cap (fun i j=>(Classical.choose (hG i)).getD j undef) hb.2.1 (hq _ s2) (fun i hi=>?_) (fun i j hi hj=>?_) (fun i j x hi hx=>?_)
        ·obtain ⟨c1,c2⟩ := Classical.choose_spec (hG i) hi
         rw [V2_len c2,c1.1]
        ·obtain ⟨c1,c2⟩ := Classical.choose_spec (hG i) hi
         have hc := c1.2 j hj
         have ea : ((⟨blk,off,none⟩ : Addr).add (i * P.cellsOf e)).add j = ⟨blk,off + (i * P.cellsOf e + j),none⟩ := by
          exact addr_add2 blk off _ j
         rw [ea] at hc
         refine ⟨hc,?_⟩
         have hlt : j < (F i).length := by rw [V2_len c2,c1.1]; exact hj
         exact (V2_get c2 j _ (List.getElem?_eq_getElem hlt)).2
        ·obtain ⟨c1,c2⟩ := Classical.choose_spec (hG i) hi
         exact (V2_get c2 j x hx).1
      ·have := hb.2.2
       unfold maxLen at this
       omega
      ·obtain ⟨_,_,_,h3⟩ := hf i hi
       exact h3
   | struct fs =>
    replace h : (if cs.length = P.cellsOf t then (fs.toList.mapM fun f=>DataW.trod enc P w 0 spare held fuel f.type ((cs.drop f.offset).take (P.cellsOf f.type))).map fun xs=>(.agg (xs.map (·.1)),xs.flatMap (·.2)) else none) = some x := h
    split at h
    case isFalse=>cases h
    rename_i hc
    cases hM : fs.toList.mapM fun f=>DataW.trod enc P w 0 spare held fuel f.type ((cs.drop f.offset).take (P.cellsOf f.type)) with
    | none=>rw [hM] at h; cases h
    | some r =>
     obtain ⟨ps,p1,p2⟩ := fields_av (T := TyC P m) (ly := lay P m) (fun t ht cs x hx=>trod_av hq m t ht fuel cs x hx) cs fs.toList 0 r (by rw [hc]; exact hl) hM
     exact ⟨ps.flatten,by simpa using p1,ps,rfl,p2⟩
   | array n e =>
    simp only [Bool.and_eq_true] at hl
    replace h : (if cs.length = P.cellsOf t then ((List.range n).mapM fun i=>DataW.trod enc P w 0 spare held fuel e ((cs.drop (i * P.cellsOf e)).take (P.cellsOf e))).map fun xs=>(.agg (xs.map (·.1)),xs.flatMap (·.2)) else none) = some x := h
    split at h
    case isFalse=>cases h
    rename_i hc
    cases hM : (List.range n).mapM fun i=>DataW.trod enc P w 0 spare held fuel e ((cs.drop (i * P.cellsOf e)).take (P.cellsOf e)) with
    | none=>rw [hM] at h; cases h
    | some r =>
     obtain ⟨_,g2⟩ := mapM_get hM
     obtain ⟨ps,p1,p2,p3⟩ := items_av (T := TyC P m e) (fun cs x hx=>trod_av hq m e hl.2 fuel cs x hx) cs (P.cellsOf e) n (by rw [hc]; exact Nat.eq_of_beq_eq_true hl.1)
      (fun i hi=>by obtain ⟨y,y1,_⟩ := g2 i i (by simp [hi]); exact ⟨y,y1⟩) n 0 (by omega)
     exact ⟨ps.flatten,by simpa using p1,ps,rfl,p2,p3⟩
   | _=>simp at hl

def TyA (P : Program) (m : Nat) (t : TypeId) (x : AV) : Prop :=
 match P.underlying t with
 | some (.struct _) | some (.array _ _)=>∃ xs,x = .agg xs ∧ TyC P m t xs
 | _=>TyC P m t [x]

theorem open_av {r : Reach} {b0 : Nat} {t : TypeId} {v : Value} {d : DataW H} {ps : List MemPlace} {m : Nat} (hl : lay P m t = true) (hq : ∀ b,b < w.heap.size → q b)
  (hv : Value.okWide P w r b0 t v) (hd : DataW.Trod enc P w 0 spare held t v d ps) : ∃ x,VT P w q x v ∧ TyA P m t x := by
 obtain ⟨fuel,hf⟩ := hd
 obtain ⟨xs,h1,h2⟩ := trod_av hq m t hl fuel _ _ hf
 have agg : ∀ cs,v = .agg cs → VT P w q (.agg xs) v := by
  rintro cs rfl
  have hlen := V2_len h1
  refine .agg xs cs (by rw [hlen]; simp [Value.cells]) (fun u hu=>?_) (fun i x hx=>?_)
  ·obtain ⟨i,hi,rfl⟩ := List.getElem_of_mem hu
   have hx : i < xs.length := by rw [hlen]; simpa [Value.cells] using hi
   have := (V2_get h1 i _ (List.getElem?_eq_getElem hx)).2
   have hi' : i < cs.size := by simpa using hi
   simpa [Value.cells,List.getD_eq_getElem?_getD,hi'] using this
  ·have := (V2_get h1 i x hx).1
   simpa [Value.cells,List.getD_eq_getElem?_getD,Array.getD_eq_getD_getElem?] using this
 have one : ∀ u,v.cells.toList = [u] → v = u → ∃ x,VT P w q x v ∧ TyC P m t [x] := by
  rintro u e rfl
  rw [e] at h1
  match xs,h1,h2 with
  | [x],h1,h2=>exact ⟨x,h1.1.1,h2⟩
 unfold TyA
 unfold Value.okWide at hv
 split
 ·rename_i fs hu
  simp only [hu] at hv
  obtain ⟨cs,e,_,_⟩ := hv
  exact ⟨_,agg cs e,xs,rfl,h2⟩
 ·rename_i n e hu
  simp only [hu] at hv
  obtain ⟨cs,e,_,_⟩ := hv
  exact ⟨_,agg cs e,xs,rfl,h2⟩
 ·rename_i n1 n2
  have hc : Cell.okWide P w r b0 t v := by
   split at hv
   ·rename_i hu; exact absurd hu (n1 _)
   ·rename_i hu; exact absurd hu (n2 _ _)
   ·exact hv
  cases v with
  | agg cs =>
   simp only [Cell.okWide] at hc
   split at hc <;> first | (rename_i e _; cases e; done) | (rename_i e; cases e; done) | (simp [Cell.ok] at hc)
  | tuple cs =>
   simp only [Cell.okWide] at hc
   split at hc <;> first | (rename_i e _; cases e; done) | (rename_i e; cases e; done) | (simp [Cell.ok] at hc)
  | _=>exact one _ rfl rfl
end
end Go.Tr

/- Contracts of chapter 5: spots compared and sorted; spots on a line. Conditions: none. -/
import Derived.Test.YtpojlhnhokbhkaaGreatTr10
set_option linter.unusedSectionVars false
set_option linter.unnecessarySimpa false
set_option linter.unusedVariables false
set_option linter.unusedSimpArgs false

-- seat YtpojlhnhokbhkaaGreat
namespace Go.Tr
open Go Go.Proofs
set_option maxRecDepth 20000
set_option maxHeartbeats 8000000

theorem S82 (x : Int) : SP 82 [i64 x] (vb false) false := by
 refine sound (d := 2) tok2 mixed2 Tryz.func82 (by kernel_rfl) (by kernel_rfl) ?_
 (conv=>whnf); refine ⟨?_,nofun⟩
 exact endb (by simp)
theorem S69 (a b : Int) : SP 69 [i64 a,i64 b] (i64 (sgI (a - b))) false := by
 have h1 := S82 a
 have h2 := S82 b
 refine sound (d := 2) tok2 mixed2 Tryz.func69 (by kernel_rfl) (by kernel_rfl) ?_
 (conv=>whnf); refine .inl ⟨_,_,byX rfl (Sound1.pl (h1) rfl),?_⟩
 (conv=>whnf); refine .inl ⟨_,_,byX rfl (Sound1.pl (h2) rfl),?_⟩
 (conv=>whnf); refine ifB_dec (fun w1=>?_) (fun w1=>?_)
 ·(conv=>whnf); refine ⟨?_,nofun⟩
  exact endi (sg_neg (by omega)).symm
 ·(conv=>whnf); refine ifB_dec (fun w2=>?_) (fun w2=>?_)
  ·(conv=>whnf); refine ⟨?_,nofun⟩
   exact endi (sg_pos (by omega)).symm
  ·(conv=>whnf); refine ⟨?_,nofun⟩
   exact endi (by rw [show a - b = 0 by omega]; rfl)
theorem S47 (p q : Rat) (hp : smR p) (hq : smR q) : SP 47 [gaF (frI p),gaF (frI q)] (i64 (cmpR p q)) false := by
 have h := S69 (p.num * (q.den : Nat)) (q.num * (p.den : Nat))
 unfold smR at hp hq
 have e0 : cmpR p q = sgI ((frI p).1 * (frI q).2 - (frI q).1 * (frI p).2) := rfl
 have m1 := absM (a := p.num) (b := (q.den : Nat)) (A := 1000000000) (B := 1000000000) (by omega) (by omega)
 have m2 := absM (a := q.num) (b := (p.den : Nat)) (A := 1000000000) (B := 1000000000) (by omega) (by omega)
 have i1 : inK .i64 ((frI p).1 * (frI q).2) := inK_of (by show _ ≤ p.num * (q.den : Nat) ∧ p.num * (q.den : Nat) ≤ _; omega)
 have i2 : inK .i64 ((frI q).1 * (frI p).2) := inK_of (by show _ ≤ q.num * (p.den : Nat) ∧ q.num * (p.den : Nat) ≤ _; omega)
 rw [e0]
 refine sound (d := 2) tok2 mixed2 Tryz.func47 (by kernel_rfl) (by kernel_rfl) ?_
 (conv=>whnf); refine ⟨by assumption,?_⟩
 (conv=>whnf); refine ⟨by assumption,?_⟩
 (conv=>whnf); refine .inl ⟨_,_,byX rfl (Sound1.pl (h) rfl),?_⟩
 (conv=>whnf); refine ⟨?_,nofun⟩
 (first | contradiction | rfl)
theorem S81 (l : List Int) (hl : l.length ≤ 1000000000) : SP 81 [ints l] (i64 (firstOf l)) false := by
 refine sound (d := 2) tok2 mixed2 Tryz.func81 (by kernel_rfl) (by kernel_rfl) ?_
 (conv=>whnf); refine ⟨[],[3,6,7,8],fun st mq=>∃ (k : Nat),(k ≤ l.length) ∧ (firstOf (l.drop k) = firstOf l) ∧ st = ⟨[(3,i64 0),(6,ints l),(7,i64 l.length),(8,i64 k)],⟨[],[],none,0⟩,[]⟩ ∧ mq = l.length - k,
  ⟨_,_,⟨0,by omega,rfl,rfl,rfl⟩,⟨⟨.inl rfl,rfl,rfl,rfl⟩,trivial,trivial⟩⟩,?_⟩
 rintro s0 m0 ⟨k,hk,hf,rfl,hmeas⟩
 by_cases hlt : k < l.length
 ·have hd := firstOf_drop l k hlt
  conv=>whnf
  (conv=>whnf); refine ifB_dec (fun w1=>?_) (fun w1=>?_)
  ·conv=>whnf
   (conv=>whnf); refine ⟨⟨(by omega),(by omega)⟩,?_⟩
   conv=>whnf
   (conv=>whnf); refine ifB_bne (fun w2=>?_) (fun w2=>?_)
   ·conv=>whnf
    (conv=>whnf); refine ⟨?_,nofun⟩
    rw [if_neg (show ¬ l.getD k 0 = 0 from w2)] at hd
    show i64 _ = i64 _
    rw [← hf,hd]; rfl
   ·conv=>whnf
    (conv=>whnf); refine ⟨inK64 (by omega) (by omega),?_⟩
    rw [if_pos (show l.getD k 0 = 0 from w2)] at hd
    conv=>whnf
    (conv=>whnf); refine ⟨_,_,⟨⟨k + 1,by omega,hd.symm.trans hf,rfl,rfl⟩,by omega⟩,⟨⟨.inl rfl,rfl,rfl,rfl⟩,trivial,trivial⟩⟩
  ·(exfalso; omega)
 ·have e : k = l.length := by omega
  subst e
  conv=>whnf
  (conv=>whnf); refine ifB_dec (fun w1=>?_) (fun w1=>?_)
  ·(exfalso; omega)
  ·conv=>whnf
   (conv=>whnf); refine ⟨?_,nofun⟩
   simp [firstOf] at hf
   show i64 _ = i64 _
   rw [← hf]
theorem S81_3 (a b c : Int) {f : Nat → List AV} (h : f 0 = [i64 a] ∧ f 1 = [i64 b] ∧ f 2 = [i64 c]) : SP 81 [.rslice 1 3 f] (i64 (firstOf [a,b,c])) false := by
 have key : ∀ i,i < 3 → f i = [i64 (([a,b,c] : List Int).getD i 0)] := fun i hi=>by
  match i,hi with
  | 0,_=>exact h.1
  | 1,_=>exact h.2.1
  | 2,_=>exact h.2.2
 refine (S81 [a,b,c] (by simp)).argsD rfl fun i y x hy hx=>?_
 match i,hy,hx with
 | 0,hy,hx=>cases hy; cases hx; exact .inr ⟨1,AVF_rows rfl key 0⟩
theorem S63 (p q : Q3) (hp : sm3 p) (hq : sm3 q) : SP 63 [spA (fr3 p),spA (fr3 q)] (i64 (cmp3 p q)) false := by
 have h1 := S47 p.1 q.1 hp.1 hq.1
 have h2 := S47 p.2.1 q.2.1 hp.2.1 hq.2.1
 have h3 := S47 p.2.2 q.2.2 hp.2.2 hq.2.2
 have h4 := @S81_3 (cmpR p.1 q.1) (cmpR p.2.1 q.2.1) (cmpR p.2.2 q.2.2)
 have e : firstOf [cmpR p.1 q.1,cmpR p.2.1 q.2.1,cmpR p.2.2 q.2.2] = cmp3 p q := by rw [first3]; rfl
 rw [e] at h4
 refine sound (d := 2) tok2 mixed2 Tryz.func63 (by kernel_rfl) (by kernel_rfl) ?_
 (conv=>whnf); refine ⟨[],by kernel_rfl,?_⟩
 (conv=>whnf); refine .inl ⟨_,_,byX rfl (Sound1.pl (h1) rfl),?_⟩
 (conv=>whnf); refine .inl ⟨_,_,byX rfl (Sound1.pl (h2) rfl),?_⟩
 (conv=>whnf); refine .inl ⟨_,_,byX rfl (Sound1.pl (h3) rfl),?_⟩
 (conv=>whnf); refine .inl ⟨_,_,byX rfl (Sound1.pl (h4 ⟨rfl,rfl,rfl⟩) rfl),?_⟩
 (conv=>whnf); refine ⟨?_,nofun⟩
 (first | contradiction | rfl)
theorem S71 (n : Nat) (h : n ≤ 12) : ∃ r,SP 71 [.val (.int .u64 n)] (i64 r) false := by
 have : n = 0 ∨ n = 1 ∨ n = 2 ∨ n = 3 ∨ n = 4 ∨ n = 5 ∨ n = 6 ∨ n = 7 ∨ n = 8 ∨ n = 9 ∨ n = 10 ∨ n = 11 ∨ n = 12 := by omega
 rcases this with rfl | rfl | rfl | rfl | rfl | rfl | rfl | rfl | rfl | rfl | rfl | rfl | rfl
 ·exact ⟨_,run_ok mixed2 (l := []) (by simp) 1000 60 (y := i64 0) (by kernel_rfl)⟩
 ·exact ⟨_,run_ok mixed2 (l := []) (by simp) 1000 60 (y := i64 1) (by kernel_rfl)⟩
 ·exact ⟨_,run_ok mixed2 (l := []) (by simp) 1000 60 (y := i64 2) (by kernel_rfl)⟩
 ·exact ⟨_,run_ok mixed2 (l := []) (by simp) 1000 60 (y := i64 2) (by kernel_rfl)⟩
 ·exact ⟨_,run_ok mixed2 (l := []) (by simp) 1000 60 (y := i64 3) (by kernel_rfl)⟩
 ·exact ⟨_,run_ok mixed2 (l := []) (by simp) 1000 60 (y := i64 3) (by kernel_rfl)⟩
 ·exact ⟨_,run_ok mixed2 (l := []) (by simp) 1000 60 (y := i64 3) (by kernel_rfl)⟩
 ·exact ⟨_,run_ok mixed2 (l := []) (by simp) 1000 60 (y := i64 3) (by kernel_rfl)⟩
 ·exact ⟨_,run_ok mixed2 (l := []) (by simp) 1000 60 (y := i64 4) (by kernel_rfl)⟩
 ·exact ⟨_,run_ok mixed2 (l := []) (by simp) 1000 60 (y := i64 4) (by kernel_rfl)⟩
 ·exact ⟨_,run_ok mixed2 (l := []) (by simp) 1000 60 (y := i64 4) (by kernel_rfl)⟩
 ·exact ⟨_,run_ok mixed2 (l := []) (by simp) 1000 60 (y := i64 4) (by kernel_rfl)⟩
 ·exact ⟨_,run_ok mixed2 (l := []) (by simp) 1000 60 (y := i64 4) (by kernel_rfl)⟩
theorem u64_in {n : Nat} (h : n ≤ 12) : inK .u64 (n : Int) := ⟨by
 have : IntKind.min .u64 = 0 := by decide
 omega,by
 have : IntKind.max .u64 = 18446744073709551615 := by decide
 omega⟩
abbrev le3 (a b : Q3) : Prop := ¬ lt3 b a
theorem le3_tr (a b c : Q3) (h1 : le3 a b) (h2 : le3 b c) : le3 a c := fun h=>by
 rcases lt3_tri b c with g | g | g
 ·exact h1 (lt3_tr _ _ _ g h)
 ·subst g; exact h1 h
 ·exact h2 g
theorem le3_of {a b : Q3} (h : cmp3 a b < 0) : le3 a b := fun g=>lt3_irr _ (lt3_tr _ _ _ g ((cmp3_neg _ _).1 h))
theorem ge3_of {a b : Q3} (h : ¬ cmp3 a b < 0) : le3 b a := fun g=>h ((cmp3_neg _ _).2 g)
theorem sm3_0 : sm3 q0 := by unfold sm3 smR q0; decide
theorem sp_veq (a b : Q3) : vEqL [.int .i64 (fr3 a).1.1,.int .i64 (fr3 a).1.2,.int .i64 (fr3 a).2.1.1,.int .i64 (fr3 a).2.1.2,.int .i64 (fr3 a).2.2.1,.int .i64 (fr3 a).2.2.2]
  [.int .i64 (fr3 b).1.1,.int .i64 (fr3 b).1.2,.int .i64 (fr3 b).2.1.1,.int .i64 (fr3 b).2.1.2,.int .i64 (fr3 b).2.2.1,.int .i64 (fr3 b).2.2.2] = decide (a = b) := by
 rw [Bool.eq_iff_iff,decide_eq_true_iff]
 constructor
 ·intro h
  refine fr3_inj ?_
  simp only [vEqL,Bool.and_eq_true,beq_iff_eq,and_true,true_and] at h
  exact Prod.ext (Prod.ext h.1 h.2.1) (Prod.ext (Prod.ext h.2.2.1 h.2.2.2.1) (Prod.ext h.2.2.2.2.1 h.2.2.2.2.2))
 ·intro h
  subst h
  exact vEq6 _ _ _ _ _ _
def slL (L : List Q3) (l : Ln) : List Q3 := smL (spL L l)
def slE (L : List Q3) (l : Ln) : Int := smE (spL L l)
set_option maxHeartbeats 16000000 in
theorem S41 (L : List Nm) (l : Ln) (hL : CvOk L) (hl : LnOk l) : SP 41 [nms L, lnA l] (.tuple [sps (slL (L.map nmQ) l), i64 (slE (L.map nmQ) l)]) false := by
 have h90 := S44 L l hL hl
 have h89 := S39 (onL L l) (Nat.le_trans (onL_len hL l) (by decide)) (onL_ok hL hl)
 rw [onL_map hL] at h89
 have hlen : (onS (L.map nmQ) l).length ≤ 12 := by rw [← onL_map hL,List.length_map]; exact onL_len hL l
 have hfin : ∀ s : List Q3,s.Perm (smL (onS (L.map nmQ) l)) → s.Pairwise le3 → compL s = slL (L.map nmQ) l := fun s hp hs=>by
  unfold slL
  unfold smL at hp ⊢
  rw [spL_all]
  by_cases g : allS (onS (L.map nmQ) l) = true
  ·rw [if_pos g] at hp ⊢
   exact spL_sort hp hs
  ·rw [if_neg g] at hp ⊢
   rw [List.perm_nil.1 hp]; rfl
 have hE : slE (L.map nmQ) l = smE (onS (L.map nmQ) l) := by unfold slE smE; rw [spL_all]
 have hsm : ∀ x ∈ smL (onS (L.map nmQ) l),sm3 x := fun x hx=>by
  unfold smL at hx
  by_cases g : allS (onS (L.map nmQ) l) = true
  ·rw [if_pos g] at hx
   exact of_decide_eq_true (List.all_eq_true.1 g x hx)
  ·rw [if_neg g] at hx; cases hx
 have hO : (smL (onS (L.map nmQ) l)).length ≤ 12 := by
  unfold smL
  split
  ·exact hlen
  ·exact Nat.zero_le _
 rw [hE]
 generalize smL (onS (L.map nmQ) l) = O at *
 generalize smE (onS (L.map nmQ) l) = E at *
 generalize slL (L.map nmQ) l = G at *
 have hcmp : ∀ b : List Q3,b.Perm O → ∀ i j,SP 63 [spA (fr3 (b.getD i q0)),spA (fr3 (b.getD j q0))] (i64 (cmp3 (b.getD i q0) (b.getD j q0))) false := fun b hb i j=>by
  have h1 : ∀ i,sm3 (b.getD i q0) := fun i=>by
   by_cases hi : i < b.length
   ·exact hsm _ (hb.subset (getD_memG hi))
   ·rw [List.getD_eq_getElem?_getD,List.getElem?_eq_none (by omega)]; exact sm3_0
  exact S63 _ _ (h1 i) (h1 j)
 obtain ⟨n,hON⟩ : ∃ n,O.length = n := ⟨_,rfl⟩
 rw [hON] at hO
 unfold sps at h89
 rw [hON] at h89
 have hu := u64_in hO
 obtain ⟨rl,h153⟩ := S71 n hO
 refine sound (d := 5) tok2 mixed2 Tryz.func41 (by kernel_rfl) (by kernel_rfl) ?_
 (conv=>whnf); refine .inl ⟨_,_,byX rfl (h90),?_⟩
 (conv=>whnf); refine .inl ⟨_,_,byX rfl (h89),?_⟩
 (conv=>whnf); refine .inr (.inl ⟨[],?_⟩)
 (conv=>whnf); refine ⟨by assumption,?_⟩
 (conv=>whnf); refine .inl ⟨_,_,byX rfl (Sound1.pl (h153) rfl),?_⟩
 (conv=>whnf); refine .inr (.inl ⟨[],?_⟩)
 (conv=>whnf); refine ⟨[.forget [0,1,2,3,4,5,6,7,8,9,10,11,12,13,14,15,16,17,18,19,22,23,24,25,26,27,28,29,30,31,32,33,34,35,36,37,38,39,40,41,42,43,44,45,46,47,48,49,50,51,52,53,54,55,56,57,58,59,60,61,62,63]],[0,1,2,3,4],fun st mq=>∃ (F0 : Nat → List AV),st = ⟨[(0,.oslice 1 0 0 n none),(1,i64 0),(2,i64 n),(3,i64 rl),(4,.func (.func 63) 0 [])],⟨[⟨4,1,F0,0,false,true,false⟩,⟨6,n,fun i=>spC (fr3 (O.getD i q0)),0,false,true,false⟩],[],none,0⟩,[(21,i64 E),(20,.oslice 1 0 0 n none)]⟩ ∧ mq = 0,
  ⟨_,_,⟨_,rfl,rfl⟩,⟨⟨.inl rfl,rfl,rfl,rfl⟩,⟨⟨rfl,rfl,rfl,rfl,fun _=>rfl,fun _ _=>.inl rfl⟩,⟨⟨rfl,rfl,rfl,rfl,fun _=>rfl,fun _ _=>.inl rfl⟩,trivial⟩⟩,trivial⟩⟩,?_⟩
 rintro s0 m0 ⟨F0,rfl,hmeas⟩
 conv=>whnf
 (conv=>whnf); refine ⟨inK64 (by omega) (by omega),?_⟩
 conv=>whnf
 (conv=>whnf); refine ifB_dec (fun w1=>?_) (fun w1=>?_)
 ·conv => whnf
  (conv=>whnf); refine .inr (.inl ⟨[],?_⟩)
  conv=>whnf
  (conv=>whnf); refine ⟨inK64 (by omega) (by omega),?_⟩
  conv=>whnf
  (conv=>whnf); refine ⟨[.forget [0,1,2,3,4,5,6,7,8,9,10,11,12,13,14,15,16,17,18,19,20,21,22,23,24,25,26,27,28,29,30,31,32,33,34,35,36,37,38,39,40,41,42,43,44,45,46,47,48,49,50,51,52,53,54,55,56,57,58,59,60,61,62,63]],[0,1,2,3,8],fun st mq=>∃ (i : Nat) (a : List Q3) (F0 : Nat → List AV),(1 ≤ i) ∧ (i ≤ n ∨ i = 1) ∧ (a.length = n) ∧ (a.Perm O) ∧ (SortG le3 q0 a i) ∧ st = ⟨[(0,.oslice 1 0 0 n none),(1,i64 0),(2,i64 n),(3,.func (.func 63) 0 []),(8,i64 i)],⟨[⟨4,1,F0,0,false,true,false⟩,⟨6,n,fun i=>spC (fr3 (a.getD i q0)),0,false,true,false⟩],[],none,0⟩,[(169,i64 E),(168,.oslice 1 0 0 n none)]⟩ ∧ mq = n - i,
   ⟨_,_,⟨1,O,_,by omega,by omega,hON,List.Perm.refl _,fun p q h1 h2=>by omega,rfl,rfl⟩,⟨⟨.inl rfl,rfl,rfl,rfl⟩,⟨⟨rfl,rfl,rfl,rfl,fun _=>rfl,fun _ _=>.inl rfl⟩,⟨⟨rfl,rfl,rfl,rfl,fun _=>rfl,fun _ _=>.inl rfl⟩,trivial⟩⟩,trivial⟩⟩,?_⟩
  rintro s0 m0 ⟨i,a,F0,hi1,hi2,hal,hp,hs,rfl,hmeas⟩
  by_cases hil : i < n
  ·conv => whnf
   conv=>whnf
   (conv=>whnf); refine ifB_dec (fun w2=>?_) (fun w2=>?_)
   ·conv=>whnf
    conv=>whnf
    (conv=>whnf); refine ⟨[],[0,1,2,3,8,9],fun st mq=>∃ (j : Nat) (z : Int) (b : List Q3) (F0 : Nat → List AV),(z = (j : Int)) ∧ (j ≤ i) ∧ (b.length = n) ∧ (b.Perm O) ∧ (SinkG le3 q0 b j (i + 1)) ∧ st = ⟨[(0,.oslice 1 0 0 n none),(1,i64 0),(2,i64 n),(3,.func (.func 63) 0 []),(8,i64 i),(9,i64 z)],⟨[⟨4,1,F0,0,false,true,false⟩,⟨6,n,fun i=>spC (fr3 (b.getD i q0)),0,false,true,false⟩],[],none,0⟩,[(169,i64 E),(168,.oslice 1 0 0 n none)]⟩ ∧ mq = j,
     ⟨_,_,⟨i,(i : Int),a,_,rfl,by omega,hal,hp,sinkG_start hs,rfl,rfl⟩,⟨⟨.inl rfl,rfl,rfl,rfl⟩,⟨⟨rfl,rfl,rfl,rfl,fun _=>rfl,fun _ _=>.inl rfl⟩,⟨⟨rfl,rfl,rfl,rfl,fun _=>rfl,fun _ _=>.inl rfl⟩,trivial⟩⟩,trivial⟩⟩,?_⟩
    rintro s0 m0 ⟨j,z,b,F0,hz,hj,hbl,hpb,hsb,rfl,hmeas⟩
    subst hz
    have hcm := hcmp b hpb
    by_cases hj0 : j = 0
    ·subst hj0
     conv=>whnf
     conv=>whnf
     conv=>whnf
     (conv=>whnf); refine ⟨[],by kernel_rfl,?_⟩
     conv=>whnf
     conv=>whnf
     conv=>whnf
     (conv=>whnf); refine ⟨inK64 (by omega) (by omega),?_⟩
     conv=>whnf
     conv=>whnf
     conv=>whnf
     (conv=>whnf); refine ⟨_,_,⟨⟨i + 1,b,_,by omega,by omega,hbl,hpb,sinkG_end le3_tr hsb (.inl rfl),rfl,rfl⟩,by omega⟩,⟨⟨.inl rfl,rfl,rfl,rfl⟩,⟨⟨rfl,rfl,rfl,rfl,fun _=>rfl,fun _ _=>.inl rfl⟩,⟨⟨rfl,rfl,rfl,rfl,fun _=>rfl,fun _ _=>.inl rfl⟩,trivial⟩⟩,trivial⟩⟩
    ·obtain ⟨j,rfl⟩ : ∃ k,j = k + 1 := ⟨j - 1,by omega⟩
     have e1 : (((j + 1 : Nat) : Int) - 1).toNat = j := by omega
     have hr1 := fun x : Nat=>rowG (n := 6) (fun e=>spC (fr3 e)) (fun _=>rfl) q0 b ((j + 1 : Nat) : Int).toNat x (b.getD (0 + (((j + 1 : Nat) : Int) - 1).toNat) q0) (by omega)
     have hr2 := fun x : Nat=>rowG (n := 6) (fun e=>spC (fr3 e)) (fun _=>rfl) q0 (b.set ((j + 1 : Nat) : Int).toNat (b.getD (0 + (((j + 1 : Nat) : Int) - 1).toNat) q0)) (((j + 1 : Nat) : Int) - 1).toNat x (b.getD (0 + ((j + 1 : Nat) : Int).toNat) q0) (by rw [List.length_set]; omega)
     have hsw : ∀ x,spC (fr3 ((swapG q0 b (j + 1)).getD x q0)) = spC (fr3 (((b.set ((j + 1 : Nat) : Int).toNat (b.getD (0 + (((j + 1 : Nat) : Int) - 1).toNat) q0)).set (((j + 1 : Nat) : Int) - 1).toNat (b.getD (0 + ((j + 1 : Nat) : Int).toNat) q0)).getD x q0)) := fun x=>by
      rw [e1,Nat.zero_add,Nat.zero_add]; rfl
     conv=>whnf
     conv=>whnf
     conv=>whnf
     (conv=>whnf); refine ⟨[],by kernel_rfl,?_⟩
     conv=>whnf
     conv=>whnf
     conv=>whnf
     (conv=>whnf); refine ifB_dec (fun w3=>?_) (fun w3=>?_)
     ·conv=>whnf
      conv=>whnf
      conv=>whnf
      (conv=>whnf); refine ⟨⟨(by omega),(by omega)⟩,?_⟩
      conv=>whnf
      conv=>whnf
      conv=>whnf
      (conv=>whnf); refine ⟨inK64 (by omega) (by omega),?_⟩
      conv=>whnf
      conv=>whnf
      conv=>whnf
      (conv=>whnf); refine ⟨⟨(by omega),(by omega)⟩,?_⟩
      conv=>whnf
      conv=>whnf
      conv=>whnf
      (conv=>whnf); refine .inl ⟨_,_,byX rfl (Sound1.pl (hcm _ _) rfl),?_⟩
      conv=>whnf
      conv=>whnf
      conv=>whnf
      (conv=>whnf); refine ifB_dec (fun w4=>?_) (fun w4=>?_)
      ·conv=>whnf
       conv=>whnf
       conv=>whnf
       (conv=>whnf); refine ⟨[],by kernel_rfl,?_⟩
       conv=>whnf
       conv=>whnf
       conv=>whnf
       (conv=>whnf); refine ⟨inK64 (by omega) (by omega),?_⟩
       conv=>whnf
       conv=>whnf
       conv=>whnf
       (conv=>whnf); refine ⟨inK64 (by omega) (by omega),?_⟩
       conv=>whnf
       conv=>whnf
       conv=>whnf
       (conv=>whnf); refine ⟨⟨(by omega),(by omega)⟩,?_⟩
       conv=>whnf
       conv=>whnf
       conv=>whnf
       (conv=>whnf); refine ⟨⟨(by omega),(by omega)⟩,?_⟩
       conv=>whnf
       conv=>whnf
       conv=>whnf
       (conv=>whnf); refine ⟨⟨(by omega),(by omega)⟩,?_⟩
       refine ⟨_,fun i _=>hr1 i,?_⟩
       conv=>whnf
       conv=>whnf
       conv=>whnf
       (conv=>whnf); refine ⟨⟨(by omega),(by omega)⟩,?_⟩
       refine ⟨_,fun i _=>hr2 i,?_⟩
       conv=>whnf
       conv=>whnf
       conv=>whnf
       (conv=>whnf); refine ⟨inK64 (by omega) (by omega),?_⟩
       have hlt : cmp3 (b.getD (j + 1) q0) (b.getD (j + 1 - 1) q0) < 0 := by
        have e : cmp3 (b.getD (0 + ((j + 1 : Nat) : Int).toNat) q0) (b.getD (0 + (((j + 1 : Nat) : Int) - 1).toNat) q0) < 0 := by assumption
        rw [e1,Nat.zero_add,Nat.zero_add] at e
        exact e
       conv=>whnf
       conv=>whnf
       conv=>whnf
       (conv=>whnf); refine ⟨_,_,⟨⟨j,((j + 1 : Nat) : Int) - 1,swapG q0 b (j + 1),_,by omega,by omega,(by rw [swapG_len]; exact hbl),(swapG_perm (by omega)).trans hpb,sinkG_swap (by omega) (by omega) hsb (le3_of hlt),rfl,rfl⟩,by omega⟩,⟨⟨.inl rfl,rfl,rfl,rfl⟩,⟨⟨rfl,rfl,rfl,rfl,fun _=>rfl,fun _ _=>.inl rfl⟩,⟨⟨rfl,rfl,rfl,rfl,fun _=>rfl,fun x _=>.inl (hsw x)⟩,trivial⟩⟩,trivial⟩⟩
      ·conv=>whnf
       conv=>whnf
       conv=>whnf
       (conv=>whnf); refine ⟨inK64 (by omega) (by omega),?_⟩
       have hge : ¬ cmp3 (b.getD (j + 1) q0) (b.getD (j + 1 - 1) q0) < 0 := by
        have e : ¬ cmp3 (b.getD (0 + ((j + 1 : Nat) : Int).toNat) q0) (b.getD (0 + (((j + 1 : Nat) : Int) - 1).toNat) q0) < 0 := by assumption
        rw [e1,Nat.zero_add,Nat.zero_add] at e
        exact e
       conv=>whnf
       conv=>whnf
       conv=>whnf
       (conv=>whnf); refine ⟨_,_,⟨⟨i + 1,b,_,by omega,by omega,hbl,hpb,sinkG_end le3_tr hsb (.inr (ge3_of hge)),rfl,rfl⟩,by omega⟩,⟨⟨.inl rfl,rfl,rfl,rfl⟩,⟨⟨rfl,rfl,rfl,rfl,fun _=>rfl,fun _ _=>.inl rfl⟩,⟨⟨rfl,rfl,rfl,rfl,fun _=>rfl,fun _ _=>.inl rfl⟩,trivial⟩⟩,trivial⟩⟩
     ·(exfalso; omega)
   ·(exfalso; omega)
  ·have hsa : SortG le3 q0 a a.length := fun p q h1 h2 => hs p q h1 (by omega)
   have hG := hfin a hp (sortG_pair hsa)
   rw [← hG]
   subst hal
   conv=>whnf
   conv=>whnf
   (conv=>whnf); refine ifB_dec (fun w2=>?_) (fun w2=>?_)
   ·(exfalso; omega)
   ·conv => whnf
    conv=>whnf
    (conv=>whnf); refine .inr (.inl ⟨[],?_⟩)
    conv=>whnf
    conv=>whnf
    (conv=>whnf); refine ifB_dec (fun w3=>?_) (fun w3=>?_)
    ·conv=>whnf
     conv=>whnf
     (conv=>whnf); refine ⟨?_,nofun⟩
     rw [compL_one (by omega)]
     exact ave_tup2 ⟨rfl,rfl,fun _ _=>rfl⟩ rfl
    ·conv => whnf
     conv=>whnf
     (conv=>whnf); refine ⟨[.forget [0,1,2,3,4,5,6,8,9,10,11,12,13,14,15,16,17,18,19,20,21,22,23,24,25,26,27,28,29,30,31,32,33,34,35,36,37,38,39,40,41,42,43,44,45,46,47,48,49,50,51,52,53,54,55,56,57,58,59,60,61,62,63]],[0,3],fun st mq=>∃ (k : Nat) (F0 : Nat → List AV),(1 ≤ k) ∧ (k ≤ a.length) ∧ (compL (a.take k) = a.take k) ∧ st = ⟨[(0,.oslice 1 0 0 a.length none),(3,i64 k)],⟨[⟨4,1,F0,0,false,true,false⟩,⟨6,a.length,fun i=>spC (fr3 (a.getD i q0)),0,false,true,false⟩],[],none,0⟩,[(7,i64 E)]⟩ ∧ mq = a.length - k,
      ⟨_,_,⟨1,_,by omega,by omega,compL_one (by rw [List.length_take]; omega),rfl,rfl⟩,⟨⟨.inl rfl,rfl,rfl,rfl⟩,⟨⟨rfl,rfl,rfl,rfl,fun _=>rfl,fun _ _=>.inl rfl⟩,⟨⟨rfl,rfl,rfl,rfl,fun _=>rfl,fun _ _=>.inl rfl⟩,trivial⟩⟩,trivial⟩⟩,?_⟩
     rintro s0 m0 ⟨k,F0,hk1,hk2,hc,rfl,hmeas⟩
     have ek : ((k : Int) - 1).toNat = k - 1 := by omega
     by_cases hlt : k < a.length
     ·have hv := sp_veq (a.getD (0 + (k : Int).toNat) q0) (a.getD (0 + ((k : Int) - 1).toNat) q0)
      have hz : 0 ≤ (k : Int) ∧ (k : Int) ≤ (a.length : Int) ∧ ((0 : Nat) : Int) + (a.length : Int) ≤ (a.length : Int) := ⟨by omega,by omega,by omega⟩
      by_cases he : a.getD k q0 = a.getD (k - 1) q0
      ·rw [decide_eq_true (by rw [ek, Nat.zero_add, Nat.zero_add]; exact he)] at hv
       conv=>whnf
       conv=>whnf
       conv=>whnf
       (conv=>whnf); refine ifB_dec (fun w4=>?_) (fun w4=>?_)
       ·conv => whnf
        conv=>whnf
        conv=>whnf
        (conv=>whnf); refine ⟨[],by kernel_rfl,?_⟩
        conv=>whnf
        conv=>whnf
        conv=>whnf
        (conv=>whnf); refine ⟨⟨(by omega),(by omega)⟩,?_⟩
        conv=>whnf
        conv=>whnf
        conv=>whnf
        (conv=>whnf); refine ⟨inK64 (by omega) (by omega),?_⟩
        conv=>whnf
        conv=>whnf
        conv=>whnf
        (conv=>whnf); refine ⟨⟨(by omega),(by omega)⟩,?_⟩
        conv=>whnf
        conv=>whnf
        conv=>whnf
        (conv=>whnf); refine ifB_intro (fun w5=>?_) (fun w5=>?_)
        ·conv=>whnf
         conv=>whnf
         conv=>whnf
         (conv=>whnf); refine ⟨by assumption,?_⟩
         conv=>whnf
         conv=>whnf
         conv=>whnf
         (conv=>whnf); refine ⟨[],[0,3,4,5],fun st mq=>∃ (k1 : Nat) (q : Nat) (a1 : List Q3) (F0 : Nat → List AV),(1 ≤ q) ∧ (CmpI q0 a a1 k1 (k + q)) ∧ st = ⟨[(0,.oslice 1 0 0 a.length none),(3,i64 k1),(4,.oslice 1 0 (0 + (k : Int).toNat) ((a.length : Int) - (k : Int)).toNat none),(5,i64 q)],⟨[⟨4,1,F0,0,false,true,false⟩,⟨6,a.length,fun i=>spC (fr3 (a1.getD i q0)),0,false,true,false⟩],[],none,0⟩,[(7,i64 E)]⟩ ∧ mq = a.length - k - q,
          ⟨_,_,⟨k,1,a,_,by omega,cmpI_start hk1 hlt hc he,rfl,rfl⟩,⟨⟨.inl rfl,rfl,rfl,rfl⟩,⟨⟨rfl,rfl,rfl,rfl,fun _=>rfl,fun _ _=>.inl rfl⟩,⟨⟨rfl,rfl,rfl,rfl,fun _=>rfl,fun _ _=>.inl rfl⟩,trivial⟩⟩,trivial⟩⟩,?_⟩
         rintro s0 m0 ⟨k1,q,a1,F0,hq,hI,rfl,hmeas⟩
         have hkp := hI.kp
         have hal1 := hI.len
         by_cases hlt2 : k + q < a.length
         ·have hv2 := sp_veq (a1.getD (0 + (k : Int).toNat + (q : Int).toNat) q0) (a1.getD (0 + (k : Int).toNat + ((q : Int) - 1).toNat) q0)
          have ep : 0 + (k : Int).toNat + ((q : Int) - 1).toNat = k + q - 1 := by omega
          have eq0 : 0 + (k : Int).toNat + (q : Int).toNat = k + q := by omega
          by_cases he2 : a1.getD (k + q) q0 = a1.getD (k + q - 1) q0
          ·rw [decide_eq_true (by rw [ep,eq0]; exact he2)] at hv2
           conv=>whnf
           conv=>whnf
           conv=>whnf
           conv=>whnf
           (conv=>whnf); refine ifB_dec (fun w6=>?_) (fun w6=>?_)
           ·conv=>whnf
            conv=>whnf
            conv=>whnf
            conv=>whnf
            (conv=>whnf); refine ⟨[],by kernel_rfl,?_⟩
            conv=>whnf
            conv=>whnf
            conv=>whnf
            conv=>whnf
            (conv=>whnf); refine ⟨⟨(by omega),(by omega)⟩,?_⟩
            conv=>whnf
            conv=>whnf
            conv=>whnf
            conv=>whnf
            (conv=>whnf); refine ⟨inK64 (by omega) (by omega),?_⟩
            conv=>whnf
            conv=>whnf
            conv=>whnf
            conv=>whnf
            (conv=>whnf); refine ⟨⟨(by omega),(by omega)⟩,?_⟩
            conv=>whnf
            conv=>whnf
            conv=>whnf
            conv=>whnf
            (conv=>whnf); refine ifB_not ?_
            conv=>whnf
            conv=>whnf
            conv=>whnf
            conv=>whnf
            (conv=>whnf); refine ifB_intro (fun w7=>?_) (fun w7=>?_)
            ·conv=>whnf
             conv=>whnf
             conv=>whnf
             conv=>whnf
             (conv=>whnf); refine ⟨inK64 (by omega) (by omega),?_⟩
             conv=>whnf
             conv=>whnf
             conv=>whnf
             conv=>whnf
             (conv=>whnf); refine ⟨_,_,⟨⟨k1,q + 1,a1,_,by omega,hI.same hlt2 he2,rfl,rfl⟩,by omega⟩,⟨⟨.inl rfl,rfl,rfl,rfl⟩,⟨⟨rfl,rfl,rfl,rfl,fun _=>rfl,fun _ _=>.inl rfl⟩,⟨⟨rfl,rfl,rfl,rfl,fun _=>rfl,fun _ _=>.inl rfl⟩,trivial⟩⟩,trivial⟩⟩
            ·exact absurd (hv2.symm.trans w7) nofun
           ·(exfalso; omega)
          ·rw [decide_eq_false (by rw [ep,eq0]; exact he2)] at hv2
           have hrow := fun i : Nat=>rowG (n := 6) (fun e=>spC (fr3 e)) (fun _=>rfl) q0 a1 (k1 : Int).toNat i (a1.getD (0 + (k : Int).toNat + (q : Int).toNat) q0) (by omega)
           conv=>whnf
           conv=>whnf
           conv=>whnf
           conv=>whnf
           (conv=>whnf); refine ifB_dec (fun w6=>?_) (fun w6=>?_)
           ·conv=>whnf
            conv=>whnf
            conv=>whnf
            conv=>whnf
            (conv=>whnf); refine ⟨[],by kernel_rfl,?_⟩
            conv=>whnf
            conv=>whnf
            conv=>whnf
            conv=>whnf
            (conv=>whnf); refine ⟨⟨(by omega),(by omega)⟩,?_⟩
            conv=>whnf
            conv=>whnf
            conv=>whnf
            conv=>whnf
            (conv=>whnf); refine ⟨inK64 (by omega) (by omega),?_⟩
            conv=>whnf
            conv=>whnf
            conv=>whnf
            conv=>whnf
            (conv=>whnf); refine ⟨⟨(by omega),(by omega)⟩,?_⟩
            conv=>whnf
            conv=>whnf
            conv=>whnf
            conv=>whnf
            (conv=>whnf); refine ifB_not ?_
            conv=>whnf
            conv=>whnf
            conv=>whnf
            conv=>whnf
            (conv=>whnf); refine ifB_intro (fun w7=>?_) (fun w7=>?_)
            ·exact absurd (hv2.symm.trans w7) nofun
            ·conv=>whnf
             conv=>whnf
             conv=>whnf
             conv=>whnf
             (conv=>whnf); refine ⟨⟨(by omega),(by omega)⟩,?_⟩
             conv=>whnf
             conv=>whnf
             conv=>whnf
             conv=>whnf
             (conv=>whnf); refine ⟨⟨(by omega),(by omega)⟩,?_⟩
             refine ⟨_,fun i _=>hrow i,?_⟩
             conv=>whnf
             conv=>whnf
             conv=>whnf
             conv=>whnf
             (conv=>whnf); refine ⟨inK64 (by omega) (by omega),?_⟩
             conv=>whnf
             conv=>whnf
             conv=>whnf
             conv=>whnf
             (conv=>whnf); refine ⟨inK64 (by omega) (by omega),?_⟩
             conv=>whnf
             conv=>whnf
             conv=>whnf
             conv=>whnf
             (conv=>whnf); refine ⟨_,_,⟨⟨k1 + 1,q + 1,a1.set k1 (a1.getD (0 + (k : Int).toNat + (q : Int).toNat) q0),_,by omega,(by rw [eq0]; exact hI.put hlt2 he2),rfl,rfl⟩,by omega⟩,⟨⟨.inl rfl,rfl,rfl,rfl⟩,⟨⟨rfl,rfl,rfl,rfl,fun _=>rfl,fun _ _=>.inl rfl⟩,⟨⟨rfl,rfl,rfl,rfl,fun _=>rfl,fun _ _=>.inl rfl⟩,trivial⟩⟩,trivial⟩⟩
           ·(exfalso; omega)
         ·have hf := hI.fin hlt2
          have hz2 : 0 ≤ (k1 : Int) ∧ (k1 : Int) ≤ (a.length : Int) ∧ ((0 : Nat) : Int) + (a.length : Int) ≤ (a.length : Int) := ⟨by omega,by omega,by omega⟩
          have hz3 : 0 ≤ (0 : Int) ∧ (0 : Int) ≤ (k1 : Int) ∧ ((0 : Nat) : Int) + (k1 : Int) ≤ (a.length : Int) := ⟨by omega,by omega,by omega⟩
          conv=>whnf
          conv=>whnf
          conv=>whnf
          conv=>whnf
          (conv=>whnf); refine ifB_dec (fun w6=>?_) (fun w6=>?_)
          ·(exfalso; omega)
          ·conv=>whnf
           conv=>whnf
           conv=>whnf
           conv=>whnf
           (conv=>whnf); refine ⟨by assumption,?_⟩
           conv=>whnf
           conv=>whnf
           conv=>whnf
           conv=>whnf
           (conv=>whnf); refine ⟨by assumption,?_⟩
           conv=>whnf
           conv=>whnf
           conv=>whnf
           conv=>whnf
           (conv=>whnf); refine ⟨?_,nofun⟩
           exact (ave_tup2 ⟨rfl,(by have := hf.1; omega),fun i hi=>(if_neg (by omega)).trans (congrArg (fun e=>spC (fr3 e)) (hf.2 i (by omega)))⟩ rfl)
        ·exact absurd (hv.symm.trans w5) nofun
       ·(exfalso; omega)
      ·rw [decide_eq_false (by rw [ek,Nat.zero_add,Nat.zero_add]; exact he)] at hv
       conv=>whnf
       conv=>whnf
       conv=>whnf
       (conv=>whnf); refine ifB_dec (fun w4=>?_) (fun w4=>?_)
       ·conv=>whnf
        conv=>whnf
        conv=>whnf
        (conv=>whnf); refine ⟨[],by kernel_rfl,?_⟩
        conv=>whnf
        conv=>whnf
        conv=>whnf
        (conv=>whnf); refine ⟨⟨(by omega),(by omega)⟩,?_⟩
        conv=>whnf
        conv=>whnf
        conv=>whnf
        (conv=>whnf); refine ⟨inK64 (by omega) (by omega),?_⟩
        conv=>whnf
        conv=>whnf
        conv=>whnf
        (conv=>whnf); refine ⟨⟨(by omega),(by omega)⟩,?_⟩
        conv=>whnf
        conv=>whnf
        conv=>whnf
        (conv=>whnf); refine ifB_intro (fun w5=>?_) (fun w5=>?_)
        ·exact absurd (hv.symm.trans w5) nofun
        ·conv=>whnf
         conv=>whnf
         conv=>whnf
         (conv=>whnf); refine ⟨inK64 (by omega) (by omega),?_⟩
         conv=>whnf
         conv=>whnf
         conv=>whnf
         (conv=>whnf); refine ⟨_,_,⟨⟨k + 1,_,by omega,by omega,comp_go hk1 hlt hc he,rfl,rfl⟩,by omega⟩,⟨⟨.inl rfl,rfl,rfl,rfl⟩,⟨⟨rfl,rfl,rfl,rfl,fun _=>rfl,fun _ _=>.inl rfl⟩,⟨⟨rfl,rfl,rfl,rfl,fun _=>rfl,fun _ _=>.inl rfl⟩,trivial⟩⟩,trivial⟩⟩
       ·(exfalso; omega)
     ·obtain rfl : k = a.length := by omega
      rw [List.take_length] at hc
      rw [hc]
      conv=>whnf
      conv=>whnf
      conv=>whnf
      (conv=>whnf); refine ifB_dec (fun w4=>?_) (fun w4=>?_)
      ·(exfalso; omega)
      ·conv=>whnf
       conv=>whnf
       conv=>whnf
       (conv=>whnf); refine ⟨?_,nofun⟩
       exact (ave_tup2 ⟨rfl,rfl,fun _ _=>rfl⟩ rfl)
 ·(exfalso; omega)
end Go.Tr

/- Contracts of chapter 5: lines; the reference's spots on a line. Conditions: none. -/
-- seat YtpojlhnhokbhkaaGreat
namespace Go.Tr
open Go Go.Proofs
set_option maxRecDepth 20000
set_option maxHeartbeats 8000000

theorem rk_mil {x : Int} (hx : x.natAbs ≤ 1000000) : Rk 1 (x : Rat) := ⟨by rw [Rat.num_intCast]; exact digs_len 1 _ (Nat.lt_of_le_of_lt hx (by decide)),by rw [Rat.den_intCast]; exact digs_len 1 _ (by decide)⟩
end Go.Tr

/- Contracts of chapter 5: the reference's spots on a line; the law of lines. Conditions: none. -/
-- seat YtpojlhnhokbhkaaGreat
namespace Go.Tr
open Go Go.Proofs
set_option maxRecDepth 20000
set_option maxHeartbeats 8000000

structure QOk (Q : List Q3) (l : Ln) : Prop where
 len : Q.length ≤ 12
 rk : ∀ k,k < Q.length → R3k 1 (Q.getD k q0)
 side : ∀ k,k < Q.length → Rk 1 (sideQ l (Q.getD k q0))
 ne : ∀ k,k + 1 < Q.length → sgR (sideQ l (Q.getD k q0)) * sgR (sideQ l (Q.getD (k + 1) q0)) < 0 → sideQ l (Q.getD k q0) - sideQ l (Q.getD (k + 1) q0) ≠ 0
 part : ∀ k,k + 1 < Q.length → Rk 1 (sideQ l (Q.getD k q0) / (sideQ l (Q.getD k q0) - sideQ l (Q.getD (k + 1) q0)))
 on : ∀ k,k ≤ Q.length → ∀ q ∈ onQ Q l k,R3k 2 q
theorem sgR_mul {a b : Rat} (h : sgR a * sgR b < 0) : a - b ≠ 0 := fun e=>by
 have e : a = b := by grind
 subst e
 rcases sgR_cases a with ⟨_,g⟩ | ⟨_,g⟩ | ⟨_,g⟩ <;> rw [g] at h <;> exact absurd h (by decide)
theorem CvOk.q {N : List Nm} (hN : CvOk N) {l : Ln} (hl : LnOk l) : QOk (N.map nmQ) l := by
  have hg : ∀ k,k < N.length → (N.map nmQ).getD k q0 = nmQ (N.getD k n0) := fun k hk=>getD_mapG nmQ N k n0 q0 hk
  have hb : ∀ k,k < N.length → NmB 200 (N.getD k n0) := fun k hk=>hN.b _ (getD_memG hk)
  have z : ∀ x : Int,x.natAbs ≤ 880000000 → Zk 1 x := fun x hx=>Zk.small (Nat.lt_of_le_of_lt hx (by decide))
  have hs : ∀ k,k < N.length → sideQ l ((N.map nmQ).getD k q0) = Rat.divInt (sideN l (N.getD k n0)) (N.getD k n0).2 := fun k hk=>by
    rw [hg k hk,side_eq l (by have := (hb k hk).d; omega)]
  refine ⟨by rw [List.length_map]; exact hN.len,fun k hk=>?_,fun k hk=>?_,fun k hk h=>sgR_mul h,fun k hk=>?_,fun k hk q hq=>?_⟩
  · rw [List.length_map] at hk
    rw [hg k hk]
    exact (hb k hk).rk (Nat.lt_of_le_of_lt (show _ ≤ 2000000 by omega) (by decide))
  · rw [List.length_map] at hk
    have hbk := hb k hk
    rw [hs k hk]
    exact Rk.divI (by have := hbk.d; omega) (z _ (by have := (side_b hl hbk).2; omega)) (z _ (by have := hbk.d; omega))
  · rw [List.length_map] at hk
    have hb1 := hb k (by omega)
    have hb2 := hb (k + 1) hk
    have hd : (N.getD k n0).2 = (N.getD (k + 1) n0).2 := hN.d _ (getD_memG (by omega)) _ (getD_memG hk)
    rw [hs k (by omega),hs (k + 1) hk,← hd,frac_of_parts (by have := hb1.d; omega)]
    have s1 := (side_b hl hb1).2
    have s2 := (side_b hl hb2).2
    by_cases e : sideN l (N.getD k n0) - sideN l (N.getD (k + 1) n0) = 0
    · rw [e,Rat.divInt_zero]
      exact rk_mil (x := 0) (by decide)
    · exact Rk.divI e (z _ (by omega)) (z _ (by omega))
  · rw [List.length_map] at hk
    cases h : N with
    | nil => rw [h] at hk; have : k = 0 := by simpa using hk
             rw [this] at hq; cases hq
    | cons y r =>
      have hy : y ∈ N := by rw [h]; simp
      rw [← on_map N l (hN.b y hy).d.1 (fun n hn=>hN.d n hn y hy) k hk] at hq
      obtain ⟨n,hn,e⟩ := List.mem_map.1 hq
      rw [← e]
      exact (onN_ok hN hl k hk n hn).rk (Nat.lt_of_le_of_lt (show _ ≤ 1760000000000000 by decide) (by decide))
theorem onQ_len (Q : List Q3) (l : Ln) : ∀ k,(onQ Q l k).length ≤ 2 * k
 | 0=>Nat.le_refl _
 | k + 1=>by
  unfold onQ
  have := onQ_len Q l k
  rw [List.length_append,List.length_append]
  have h1 : (if sideQ l (Q.getD k q0) = 0 then [Q.getD k q0] else []).length ≤ 1 := by split <;> simp
  have h2 : (if k + 1 < Q.length ∧ sgR (sideQ l (Q.getD k q0)) * sgR (sideQ l (Q.getD (k + 1) q0)) < 0 then [mixQ (Q.getD k q0) (Q.getD (k + 1) q0) (sideQ l (Q.getD k q0) / (sideQ l (Q.getD k q0) - sideQ l (Q.getD (k + 1) q0)))] else []).length ≤ 1 := by split <;> simp
  omega
theorem putL_len (l : List Q3) (x : Q3) : (putL lt3 l x).length ≤ l.length + 1 := by
 induction l with
 | nil=>simp [putL]
 | cons y l ih =>
  unfold putL
  split
  ·simpa using ih
  ·split <;> simp
theorem putAll_len (l : List Q3) : (putAll lt3 l).length ≤ l.length := by
 induction l using snoc_ind with
 | h0=>exact Nat.le_refl _
 | hs l x ih =>
  rw [putAll_snoc]
  have := putL_len (putAll lt3 l) x
  rw [List.length_append]
  simp
  omega
end Go.Tr

/- Contracts of chapter 5: spots on lines, operating points, runaway. Conditions: none. -/
-- seat YtpojlhnhokbhkaaGreat
namespace Go.Tr
open Go Go.Proofs
set_option maxRecDepth 20000
set_option maxHeartbeats 8000000

theorem crvQ_len {t : List MRow} {f : Int × Int} (hT : TblOk t) (hO : OpOk t f) : (crvQ t f).length ≤ 12 := by
  rw [← crv_map hT hO,List.length_map]; exact crvN_len hT hO
theorem smL_len (L : List Q3) : (smL L).length ≤ L.length := by
 unfold smL
 split
 ·exact Nat.le_refl _
 ·exact Nat.zero_le _
theorem S41c {t : List MRow} {f : Int × Int} (hT : TblOk t) (hO : OpOk t f) {l : Ln} (hl : LnOk l) : SP 41 [nms (crvN t f),lnA l] (.tuple [sps (slL (crvQ t f) l),i64 (slE (crvQ t f) l)]) false := by
  have h := S41 (crvN t f) l (crv_ok hT hO) hl
  rwa [crv_map hT hO] at h
def szE (n : Int) : Int := if -1000 ≤ n ∧ n ≤ 1000 then 0 else 2
def badI : List Int → Nat → Int
  | [],_=>-1
  | x :: r,k=>if -1000 ≤ x ∧ x ≤ 1000 then badI r (k + 1) else (k : Int)
theorem badI_drop (l : List Int) (k : Nat) (h : k < l.length) : badI (l.drop k) k = if -1000 ≤ l.getD k 0 ∧ l.getD k 0 ≤ 1000 then badI (l.drop (k + 1)) (k + 1) else (k : Int) := by
  rw [List.drop_eq_getElem_cons h]
  simp [badI,List.getD_eq_getElem?_getD,h]
theorem S60 (n : Int) : SP 60 [i64 n] (vb (!win n (-1000) 1000)) false := by
 have h := S61 n 1000 (by decide)
 refine sound (d := 2) tok2 mixed2 Tryz.func60 (by kernel_rfl) (by kernel_rfl) ?_
 (conv=>whnf); refine .inl ⟨_,_,byX rfl (Sound1.pl (h) rfl),?_⟩
 (conv=>whnf); refine ⟨?_,nofun⟩
 (first | contradiction | rfl)
theorem S79 (l : List Int) (hl : l.length ≤ 1000) : SP 79 [ints l,.func (.func 60) 0 []] (i64 (badI l 0)) false := by
 refine sound (d := 2) tok2 mixed2 Tryz.func79 (by kernel_rfl) (by kernel_rfl) ?_
 (conv=>whnf); refine ⟨[],[0,1,7,8],fun st mq=>∃ (k : Nat),(k ≤ l.length) ∧ (badI (l.drop k) k = badI l 0) ∧ st = ⟨[(0,ints l),(1,.func (.func 60) 0 []),(7,i64 l.length),(8,i64 k)],⟨[],[],none,0⟩,[]⟩ ∧ mq = l.length - k,
  ⟨_,_,⟨0,by omega,rfl,rfl,rfl⟩,⟨⟨.inl rfl,rfl,rfl,rfl⟩,trivial,trivial⟩⟩,?_⟩
 rintro s0 m0 ⟨k,hk,he,rfl,hmeas⟩
 by_cases hlt : k < l.length
 ·have hd := badI_drop l k hlt
  have c1 := S60 (l.getD k 0)
  unfold win at c1
  by_cases g : -1000 ≤ l.getD k 0 ∧ l.getD k 0 ≤ 1000
  ·rw [if_pos g] at hd
   rw [decide_eq_true g] at c1
   conv=>whnf
   (conv=>whnf); refine ifB_dec (fun w1=>?_) (fun w1=>?_)
   ·conv=>whnf
    (conv=>whnf); refine ⟨⟨(by omega),(by omega)⟩,?_⟩
    conv=>whnf
    (conv=>whnf); refine .inl ⟨_,_,byX rfl (Sound1.pl (c1) rfl),?_⟩
    conv=>whnf
    (conv=>whnf); refine ⟨inK64 (by omega) (by omega),?_⟩
    conv=>whnf
    (conv=>whnf); refine ⟨_,_,⟨⟨k + 1,by omega,hd.symm.trans he,rfl,rfl⟩,by omega⟩,⟨⟨.inl rfl,rfl,rfl,rfl⟩,trivial,trivial⟩⟩
   ·(exfalso; omega)
  ·rw [if_neg g] at hd
   rw [decide_eq_false g] at c1
   conv=>whnf
   (conv=>whnf); refine ifB_dec (fun w1=>?_) (fun w1=>?_)
   ·conv=>whnf
    (conv=>whnf); refine ⟨⟨(by omega),(by omega)⟩,?_⟩
    conv=>whnf
    (conv=>whnf); refine .inl ⟨_,_,byX rfl (Sound1.pl (c1) rfl),?_⟩
    conv=>whnf
    (conv=>whnf); refine ⟨?_,nofun⟩
    exact endi (hd.symm.trans he)
   ·(exfalso; omega)
 ·obtain rfl : k = l.length := by omega
  rw [List.drop_length] at he
  conv=>whnf
  (conv=>whnf); refine ifB_dec (fun w1=>?_) (fun w1=>?_)
  ·(exfalso; omega)
  ·conv=>whnf
   (conv=>whnf); refine ⟨?_,nofun⟩
   exact endi he
theorem S59 (l : List Int) (hl : l.length ≤ 1000) : SP 59 [ints l,.func (.func 60) 0 []] (vb (decide (badI l 0 ≥ 0))) false := by
 have h := S79 l hl
 refine sound (d := 2) tok2 mixed2 Tryz.func59 (by kernel_rfl) (by kernel_rfl) ?_
 (conv=>whnf); refine .inl ⟨_,_,byX rfl (Sound1.pl (h) rfl),?_⟩
 (conv=>whnf); refine ⟨?_,nofun⟩
 (first | contradiction | rfl)
theorem S40 (l : List Int) (hl : l.length ≤ 1000) : SP 40 [ints l] (i64 (if badI l 0 ≥ 0 then 2 else 0)) false := by
 have h := S59 l hl
 have h78 := S33
 by_cases g : badI l 0 ≥ 0
 ·rw [decide_eq_true g] at h
  rw [if_pos g]
  refine sound (d := 2) tok2 mixed2 Tryz.func40 (by kernel_rfl) (by kernel_rfl) ?_
  (conv=>whnf); refine .inl ⟨_,_,byX rfl (Sound1.pl (h) rfl),?_⟩
  (conv=>whnf); refine .inl ⟨_,_,byX rfl (Sound1.pl (h78 _ _) rfl),?_⟩
  (conv=>whnf); refine ⟨?_,nofun⟩
  (first | contradiction | rfl)
 ·rw [decide_eq_false g] at h
  rw [if_neg g]
  refine sound (d := 2) tok2 mixed2 Tryz.func40 (by kernel_rfl) (by kernel_rfl) ?_
  (conv=>whnf); refine .inl ⟨_,_,byX rfl (Sound1.pl (h) rfl),?_⟩
  (conv=>whnf); refine .inl ⟨_,_,byX rfl (Sound1.pl (h78 _ _) rfl),?_⟩
  (conv=>whnf); refine ⟨?_,nofun⟩
  (first | contradiction | rfl)
theorem S40_1 (a : Int) {f : Nat → List AV} (h : f 0 = [i64 a]) : SP 40 [.rslice 1 1 f] (i64 (szE a)) false := by
 have key : ∀ i,i < 1 → f i = [i64 (([a] : List Int).getD i 0)] := fun i hi=>by
  match i,hi with
  | 0,_=>exact h
 have e : (if badI [a] 0 ≥ 0 then (2 : Int) else 0) = szE a := by
  unfold szE badI badI
  by_cases g : -1000 ≤ a ∧ a ≤ 1000
  ·rw [if_pos g,if_pos g]; rfl
  ·rw [if_neg g,if_neg g]; rfl
 have h77 := S40 [a] (by simp)
 rw [e] at h77
 refine h77.argsD rfl fun i y x hy hx=>?_
 match i,hy,hx with
 | 0,hy,hx=>cases hy; cases hx; exact .inr ⟨1,AVF_rows rfl key 0⟩
abbrev wtA (w : Int × Int × Int) : AV := .agg [i64 w.1,i64 w.2.1,i64 w.2.2]
def waE (w : Int × Int × Int) : Int := if (-1000 ≤ w.1 ∧ w.1 ≤ 1000) ∧ (0 ≤ w.2.1 ∧ w.2.1 ≤ 20) ∧ 1 ≤ w.2.2 ∧ w.2.2 ≤ 5 then 0 else 2
def wlE (t : List MRow) (f : Int × Int) (w : Int × Int × Int) : Int := if ocE t f ≠ 0 then ocE t f else waE w
def wtL (w : Int × Int × Int) : Ln := (100,w.2.1 * w.2.2,0,100 * w.1)
theorem waE_ok {w : Int × Int × Int} (h : waE w = 0) : (-1000 ≤ w.1 ∧ w.1 ≤ 1000) ∧ (0 ≤ w.2.1 ∧ w.2.1 ≤ 20) ∧ 1 ≤ w.2.2 ∧ w.2.2 ≤ 5 := by
 unfold waE at h
 split at h
 ·assumption
 ·exact absurd h (by decide)
theorem wtL_ok {w : Int × Int × Int} (h : waE w = 0) : LnOk (wtL w) ∧ (w.2.1 * w.2.2).natAbs ≤ 20 * 5 := by
 have h := waE_ok h
 have h1 := absM (a := w.2.1) (b := w.2.2) (A := 20) (B := 5) (by omega) (by omega)
 refine ⟨?_,h1⟩
 unfold LnOk wtL
 dsimp only
 omega
theorem wlE_ok {t : List MRow} {f : Int × Int} {w : Int × Int × Int} (h : wlE t f w = 0) : ocE t f = 0 ∧ waE w = 0 := by
 unfold wlE at h
 by_cases h1 : ocE t f = 0
 ·rw [if_neg (not_not_intro h1)] at h; exact ⟨h1,h⟩
 ·rw [if_pos h1] at h; exact absurd h h1
set_option maxHeartbeats 4000000 in
theorem S14 (t : List MRow) (ht : Fit t) (f : Int × Int) (hf : FrI f) (w : Int × Int × Int) : SP 14 [tblA t,gaF f,wtA w] (.tuple [sps (if wlE t f w = 0 then slL (crvQ t f) (wtL w) else []),i64 (if wlE t f w = 0 then slE (crvQ t f) (wtL w) else wlE t f w)]) false := by
 have h74 := S38 t ht f hf
 have h75a := S30 w.2.1 0 20
 have h75b := S30 w.2.2 1 5
 have h77 := fun a=>@S40_1 a
 have h78 := S33
 have key : ∀ b : Int,b = (if (0 ≤ w.2.1 ∧ w.2.1 ≤ 20) ∧ 1 ≤ w.2.2 ∧ w.2.2 ≤ 5 then 0 else 2) → firstOf [ocE t f,szE w.1,b] = wlE t f w := fun b hb=>by
  rw [first3,hb]
  unfold wlE
  by_cases g : ocE t f = 0
  ·rw [if_neg (not_not_intro g),if_neg (not_not_intro g)]
   unfold szE waE
   by_cases g1 : -1000 ≤ w.1 ∧ w.1 ≤ 1000
   ·rw [if_pos g1,if_neg (by decide)]
    by_cases g2 : (0 ≤ w.2.1 ∧ w.2.1 ≤ 20) ∧ 1 ≤ w.2.2 ∧ w.2.2 ≤ 5
    ·rw [if_pos g2,if_pos ⟨g1,g2⟩]
    ·rw [if_neg g2,if_neg (fun e=>g2 e.2)]
   ·rw [if_neg g1,if_pos (by decide),if_neg (fun e=>g1 e.1)]
  ·rw [if_pos g,if_pos g]
 by_cases g : 0 ≤ w.2.1 ∧ w.2.1 ≤ 20
 ·rw [show win w.2.1 0 20 = true from decide_eq_true g] at h75a
  have k1 := @S31_3 (ocE t f) (szE w.1) (if win w.2.2 1 5 = true then 0 else 2)
  rw [key _ (by unfold win; by_cases g2 : 1 ≤ w.2.2 ∧ w.2.2 ≤ 5; (rw [if_pos (decide_eq_true g2),if_pos ⟨g,g2⟩]); (rw [if_neg (by simpa using g2),if_neg (fun e=>g2 e.2)]))] at k1
  by_cases h0 : wlE t f w = 0
  ·obtain ⟨h1,h2⟩ := wlE_ok h0
   obtain ⟨hT,_,hO⟩ := ocE_ok h1
   have hl := wtL_ok h2
   have hw := waE_ok h2
   have h79 := S41c hT hO hl.1
   rw [h0] at k1
   unfold ocL at h74
   rw [if_pos h1] at h74
   rw [if_pos h0,if_pos h0]
   refine sound (d := 2) tok2 mixed2 Tryz.func14 (by kernel_rfl) (by kernel_rfl) ?_
   (conv=>whnf); refine .inl ⟨_,_,byX rfl (h74),?_⟩
   (conv=>whnf); refine .inl ⟨_,_,byX rfl (Sound1.pl (h75a) rfl),?_⟩
   (conv=>whnf); refine .inl ⟨_,_,byX rfl (Sound1.pl (h75b) rfl),?_⟩
   (conv=>whnf); refine .inl ⟨_,_,byX rfl (Sound1.pl (h77 _ rfl) rfl),?_⟩
   (conv=>whnf); refine .inl ⟨_,_,byX rfl (Sound1.pl (h78 _ _) rfl),?_⟩
   (conv=>whnf); refine .inl ⟨_,_,byX rfl (Sound1.pl (k1 ⟨rfl,rfl,rfl⟩) rfl),?_⟩
   (conv=>whnf); refine ⟨inK64 (by omega) (by omega),?_⟩
   (conv=>whnf); refine ⟨inK64 (by omega) (by omega),?_⟩
   (conv=>whnf); refine .inl ⟨_,_,byX rfl (h79),?_⟩
   (conv=>whnf); refine ⟨?_,nofun⟩
   exact ave_tup2 ⟨rfl,rfl,fun _ _=>rfl⟩ rfl
  ·rw [if_neg h0,if_neg h0]
   refine sound (d := 2) tok2 mixed2 Tryz.func14 (by kernel_rfl) (by kernel_rfl) ?_
   (conv=>whnf); refine .inl ⟨_,_,byX rfl (h74),?_⟩
   (conv=>whnf); refine .inl ⟨_,_,byX rfl (Sound1.pl (h75a) rfl),?_⟩
   (conv=>whnf); refine .inl ⟨_,_,byX rfl (Sound1.pl (h75b) rfl),?_⟩
   (conv=>whnf); refine .inl ⟨_,_,byX rfl (Sound1.pl (h77 _ rfl) rfl),?_⟩
   (conv=>whnf); refine .inl ⟨_,_,byX rfl (Sound1.pl (h78 _ _) rfl),?_⟩
   (conv=>whnf); refine .inl ⟨_,_,byX rfl (Sound1.pl (k1 ⟨rfl,rfl,rfl⟩) rfl),?_⟩
   (conv=>whnf); refine ifB_bne (fun w1=>?_) (fun w1=>?_)
   ·(conv=>whnf); refine ⟨?_,nofun⟩
    exact ave_tup2 rfl rfl
   ·(exfalso; omega)
 ·rw [show win w.2.1 0 20 = false from decide_eq_false g] at h75a
  have k1 := @S31_3 (ocE t f) (szE w.1) (if false = true then 0 else 2)
  rw [key _ (by rw [if_neg (by decide),if_neg (fun e=>g e.1)])] at k1
  have h0 : ¬ wlE t f w = 0 := fun e=>g (waE_ok (wlE_ok e).2).2.1
  rw [if_neg h0,if_neg h0]
  refine sound (d := 2) tok2 mixed2 Tryz.func14 (by kernel_rfl) (by kernel_rfl) ?_
  (conv=>whnf); refine .inl ⟨_,_,byX rfl (h74),?_⟩
  (conv=>whnf); refine .inl ⟨_,_,byX rfl (Sound1.pl (h75a) rfl),?_⟩
  (conv=>whnf); refine .inl ⟨_,_,byX rfl (Sound1.pl (h77 _ rfl) rfl),?_⟩
  (conv=>whnf); refine .inl ⟨_,_,byX rfl (Sound1.pl (h78 _ _) rfl),?_⟩
  (conv=>whnf); refine .inl ⟨_,_,byX rfl (Sound1.pl (k1 ⟨rfl,rfl,rfl⟩) rfl),?_⟩
  (conv=>whnf); refine ifB_bne (fun w1=>?_) (fun w1=>?_)
  ·(conv=>whnf); refine ⟨?_,nofun⟩
   exact ave_tup2 rfl rfl
  ·(exfalso; omega)
theorem S8 (w : Int × Int × Int) : SP 8 [wtA w] (i64 (waE w)) false := by
 have h29 := S27 w.1
 have h1 := S28 w.2.1 0 20
 have h2 := S28 w.2.2 1 5
 unfold waE
 by_cases g : -1000 ≤ w.1 ∧ w.1 ≤ 1000
 ·rw [if_pos g] at h29
  refine sound (d := 2) tok2 mixed2 Tryz.func8 (by kernel_rfl) (by kernel_rfl) ?_
  (conv=>whnf); refine .inl ⟨_,_,byX rfl (Sound1.pl (h29) rfl),?_⟩
  (conv=>whnf); refine .inl ⟨_,_,byX rfl (Sound1.pl (h1) rfl),?_⟩
  (conv=>whnf); refine ifB_not ?_
  (conv=>whnf); refine ifB_dec (fun w1=>?_) (fun w1=>?_)
  ·(conv=>whnf); refine .inl ⟨_,_,byX rfl (Sound1.pl (h2) rfl),?_⟩
   (conv=>whnf); refine ifB_not ?_
   (conv=>whnf); refine ifB_dec (fun w2=>?_) (fun w2=>?_)
   ·(conv=>whnf); refine ⟨?_,nofun⟩
    (first | contradiction | exact endi (if_pos (by omega)).symm | exact endi (if_neg (by omega)).symm)
   ·(conv=>whnf); refine ⟨?_,nofun⟩
    (first | contradiction | exact endi (if_pos (by omega)).symm | exact endi (if_neg (by omega)).symm)
  ·(conv=>whnf); refine ⟨?_,nofun⟩
   (first | contradiction | exact endi (if_pos (by omega)).symm | exact endi (if_neg (by omega)).symm)
 ·rw [if_neg g] at h29
  rw [if_neg (fun e=>g e.1)]
  refine sound (d := 2) tok2 mixed2 Tryz.func8 (by kernel_rfl) (by kernel_rfl) ?_
  (conv=>whnf); refine .inl ⟨_,_,byX rfl (Sound1.pl (h29) rfl),?_⟩
  (conv=>whnf); refine ⟨?_,nofun⟩
  (first | contradiction | rfl)
theorem ave_ln {k : Nat} {l : Ln} : AVE (k + 2) (lnA l) (lnA l) := ave_aggR (by simp [AV.atom])
theorem spL_len {Q : List Q3} {l : Ln} (h : Q.length ≤ 12) : (spL Q l).length ≤ 24 := by
 have h1 := putAll_len (onQ Q l Q.length)
 have h2 := onQ_len Q l Q.length
 show (putAll lt3 (onQ Q l Q.length)).length ≤ 24
 omega
end Go.Tr

/- Plain laws of chapter 5: what lies on a line; flows at a head. Conditions: none. -/
-- seat YtpojlhnhokbhkaaGreat
namespace Go.Tr
open Go Go.Proofs
set_option maxRecDepth 20000
set_option maxHeartbeats 8000000

def hdL (h : Int) : Ln := (1,0,0,h)
theorem hdL_ok {h : Int} (hs : szE h = 0) : LnOk (hdL h) := by
 unfold szE at hs
 unfold LnOk hdL
 dsimp only
 split at hs
 ·omega
 ·exact absurd hs (by decide)
abbrev ltR (a b : Rat) : Prop := a < b
instance : DecidableRel ltR := fun a b=>inferInstanceAs (Decidable (a < b))
end Go.Tr

/- Plain laws of chapter 5: the powers around a triangle; the greatest of numbers. Conditions: none. -/
-- seat YtpojlhnhokbhkaaGreat
namespace Go.Tr
open Go Go.Proofs
set_option maxRecDepth 20000
set_option maxHeartbeats 8000000

def stO (o : Option Rat) (p : Rat) : Option Rat := match o with | none=>some p | some b=>if b < p then some p else some b
def mxO (o : Option Rat) (L : List Rat) : Option Rat := L.foldl stO o
theorem mxO_take (o : Option Rat) (L : List Rat) (j : Nat) (h : j < L.length) : mxO o (L.take (j + 1)) = stO (mxO o (L.take j)) (L.getD j 0) := by
  unfold mxO
  rw [take_succG (d := (0 : Rat)) h,List.foldl_append]; rfl
theorem mxO_app (o : Option Rat) (L M : List Rat) : mxO o (L ++ M) = mxO (mxO o L) M := by unfold mxO; rw [List.foldl_append]
structure IsMx (o : Option Rat) (L : List Rat) : Prop where
 none : o = none ↔ L = []
 mem : ∀ m,o = some m → m ∈ L
 top : ∀ m,o = some m → ∀ x ∈ L,¬ m < x
theorem IsMx.uniq {o o' : Option Rat} {L M : List Rat} (h : IsMx o L) (h' : IsMx o' M) (hm : ∀ x,x ∈ L ↔ x ∈ M) : o = o' := by
 cases o with
 | none =>
  have hL := h.none.1 rfl
  have hM : M = [] := List.eq_nil_iff_forall_not_mem.2 fun x hx=>by
   have := (hm x).2 hx
   rw [hL] at this; cases this
  exact (h'.none.2 hM).symm
 | some m =>
  cases o' with
  | none =>
   have hM := h'.none.1 rfl
   have := (hm m).1 (h.mem m rfl)
   rw [hM] at this; cases this
  | some m' =>
   have h1 := h.top m rfl m' ((hm m').2 (h'.mem m' rfl))
   have h2 := h'.top m' rfl m ((hm m).1 (h.mem m rfl))
   rcases rlt_tri m m' with g | g | g
   ·exact absurd g h1
   ·rw [g]
   ·exact absurd g h2
theorem mx_is (L : List Rat) : IsMx (mxO none L) L := by
 induction L using snoc_ind with
 | h0=>exact ⟨⟨fun _=>rfl,fun _=>rfl⟩,(fun m h=>by cases h),(fun m h=>by cases h)⟩
 | hs l x ih =>
  have e : mxO none (l ++ [x]) = stO (mxO none l) x := by rw [mxO_app]; rfl
  rw [e]
  cases ho : mxO none l with
  | none =>
   have hl := ih.none.1 ho
   subst hl
   refine ⟨⟨(fun h=>by cases h),(fun h=>by simp at h)⟩,fun m h=>?_,fun m h y hy=>?_⟩
   ·cases h; simp
   ·cases h
    have : y = x := by simpa using hy
    rw [this]; exact rlt_irr _
  | some b =>
   have hb := ih.mem b ho
   have ht := ih.top b ho
   have e2 : stO (some b) x = if b < x then some x else some b := rfl
   rw [e2]
   by_cases g : b < x
   ·rw [if_pos g]
    refine ⟨⟨(fun h=>by cases h),(fun h=>by simp at h)⟩,fun m h=>?_,fun m h y hy=>?_⟩
    ·cases h; simp
    ·cases h
     rcases List.mem_append.1 hy with hy | hy
     ·intro h2; exact ht y hy (rlt_tr g h2)
     ·rw [List.mem_singleton.1 hy]; exact rlt_irr _
   ·rw [if_neg g]
    refine ⟨⟨(fun h=>by cases h),(fun h=>by simp at h)⟩,fun m h=>?_,fun m h y hy=>?_⟩
    ·cases h; exact List.mem_append_left _ hb
    ·cases h
     rcases List.mem_append.1 hy with hy | hy
     ·exact ht y hy
     ·rw [List.mem_singleton.1 hy]; exact g
def arnd (x : Tri) : List Nm := [(x.1.1,1),(x.2.1.1,1),(x.2.2.1,1),(x.1.1,1)]
def TriP (x : Tri) : Prop := PtOk x.1.1 ∧ PtOk x.2.1.1 ∧ PtOk x.2.2.1
theorem nm1_ok {p : P3} (h : PtOk p) : NmB 200 (p,1) := by
  unfold PtOk at h
  exact ⟨⟨by show (0 : Int) < 1; decide,by show (1 : Int) ≤ 200; decide⟩,by show -(1000 * 1) ≤ p.1 ∧ p.1 ≤ 1000 * 1; omega,by show -(1000 * 1) ≤ p.2.1 ∧ p.2.1 ≤ 1000 * 1; omega,by show -(10000 * 1) ≤ p.2.2 ∧ p.2.2 ≤ 10000 * 1; omega⟩
theorem arnd_ok {x : Tri} (h : TriP x) : CvOk (arnd x) := by
 refine ⟨by show 4 ≤ 12; decide,fun n hn=>?_,fun n hn m hm=>?_⟩
 ·simp only [arnd,List.mem_cons,List.not_mem_nil,or_false] at hn
  rcases hn with e | e | e | e <;> rw [e]
  ·exact nm1_ok h.1
  ·exact nm1_ok h.2.1
  ·exact nm1_ok h.2.2
  ·exact nm1_ok h.1
 ·simp only [arnd,List.mem_cons,List.not_mem_nil,or_false] at hn hm
  rcases hn with e | e | e | e <;> rcases hm with g | g | g | g <;> rw [e,g]
def One (L : List Nm) : Prop := ∀ n ∈ L,n.2 = 1 ∧ NmB 200 n
theorem one_on {L : List Nm} (hL : One L) {h : Int} (hs : -1000 ≤ h ∧ h ≤ 1000) : ∀ k,k ≤ L.length → ∀ n ∈ onN L (hdL h) k,NmB 4000 n
 | 0,_,n,hn=>by cases hn
 | k + 1, hk, n, hn => by
  have g1 := hL _ (getD_memG (d := n0) (show k < L.length by omega))
  unfold onN at hn
  rcases List.mem_append.1 hn with hn | hn
  ·exact one_on hL hs k (by omega) n hn
  ·rcases List.mem_append.1 hn with hn | hn
   ·split at hn
    ·rw [List.mem_singleton.1 hn]; exact g1.2.mono (by decide)
    ·cases hn
   ·split at hn
    ·rename_i hc
     have g2 := hL _ (getD_memG (d := n0) hc.1)
     rw [List.mem_singleton.1 hn]
     have b1 := g1.2.h
     have b2 := g2.2.h
     rw [g1.1] at b1
     rw [g2.1] at b2
     refine crsN_b g1.2 g2.2 (g1.1.trans g2.1.symm) hc.2 ?_
     rw [g1.1,Int.one_mul]
     unfold sideN hdL
     dsimp only
     rw [g1.1,g2.1]
     omega
    ·cases hn
theorem arnd_one {x : Tri} (h : TriP x) : One (arnd x) := fun n hn=>by
 refine ⟨?_,(arnd_ok h).b n hn⟩
 simp only [arnd,List.mem_cons,List.not_mem_nil,or_false] at hn
 rcases hn with e | e | e | e <;> rw [e]
theorem smR_of {a b : Int} (ha : -1000000000 ≤ a ∧ a ≤ 1000000000) (hb : 0 < b ∧ b ≤ 1000000000) : smR (Rat.divInt a b) := by
 have hf := frac_eq (a := a) hb.1
 have h1 : a.tdiv (gcdI a b) = (Rat.divInt a b).num := congrArg Prod.fst hf
 have h2 : b.tdiv (gcdI a b) = ((Rat.divInt a b).den : Nat) := congrArg Prod.snd hf
 have b1 : ((a.tdiv (gcdI a b)).natAbs) ≤ a.natAbs := Int.natAbs_tdiv_le_natAbs _ _
 have b2 : ((b.tdiv (gcdI a b)).natAbs) ≤ b.natAbs := Int.natAbs_tdiv_le_natAbs _ _
 unfold smR
 omega
theorem nm_pow {n : Nm} (h : NmB 4000 n) : smR (nmQ n).2.2 := by
 have := h.d
 have := h.w
 exact smR_of (by omega) (by omega)
def pws (h : Int) (x : Tri) : List Rat := (onL (arnd x) (hdL h)).map fun n=>(nmQ n).2.2
theorem pws_sm {h : Int} (hs : -1000 ≤ h ∧ h ≤ 1000) {x : Tri} (hx : TriP x) : ∀ p ∈ pws h x,smR p := fun p hp=>by
 obtain ⟨n,hn,e⟩ := List.mem_map.1 hp
 rw [← e]
 exact nm_pow (one_on (arnd_one hx) hs _ (Nat.le_refl _) n hn)
def mxT (h : Int) (o : Option Rat) (L : List Tri) : Option Rat := L.foldl (fun o x=>mxO o (pws h x)) o
theorem mxT_app (h : Int) (o : Option Rat) (L M : List Tri) : mxT h o (L ++ M) = mxT h (mxT h o L) M := by unfold mxT; rw [List.foldl_append]
theorem mxT_flat (h : Int) : ∀ (L : List Tri) (o : Option Rat),mxT h o L = mxO o (L.flatMap (pws h))
 | [],_=>rfl
 | x :: r,o=>by
  show mxT h (mxO o (pws h x)) r = _
  rw [mxT_flat h r,List.flatMap_cons,mxO_app]
theorem mx_sm {o : Option Rat} {L : List Rat} (ho : ∀ m,o = some m → smR m) (hL : ∀ p ∈ L,smR p) : ∀ m,mxO o L = some m → smR m := by
 induction L using snoc_ind with
 | h0=>exact ho
 | hs l x ih =>
  intro m hm
  rw [mxO_app] at hm
  have ih := ih fun p hp=>hL p (by simp [hp])
  have hx := hL x (by simp)
  have hm : stO (mxO o l) x = some m := hm
  cases hq : mxO o l with
  | none=>rw [hq] at hm; cases hm; exact hx
  | some b =>
   rw [hq] at hm
   have e2 : stO (some b) x = if b < x then some x else some b := rfl
   rw [e2] at hm
   split at hm
   ·cases hm; exact hx
   ·cases hm; exact ih _ hq
def frO (o : Option Rat) : Int × Int := match o with | none=>(0,0) | some q=>frI q
end Go.Tr

/- Contracts of chapter 5: flows at a head, points of runaway. Conditions: none. -/
-- seat YtpojlhnhokbhkaaGreat
namespace Go.Tr
open Go Go.Proofs
set_option maxRecDepth 20000
set_option maxHeartbeats 8000000

theorem S45 (h : Int) : SP 45 [i64 h] (lnA (hdL h)) false := by
 refine sound (d := 2) tok2 mixed2 Tryz.func45 (by kernel_rfl) (by kernel_rfl) ?_
 (conv=>whnf); refine ⟨?_,nofun⟩
 (first | contradiction | exact ave_ln (l := hdL h))
def zrL : Ln := (0,0,1,0)
theorem zrL_ok : LnOk zrL := by unfold LnOk zrL; decide
theorem S15 (t : List MRow) (ht : Fit t) (f : Int × Int) (hf : FrI f) : SP 15 [tblA t,gaF f] (.tuple [sps (if ocE t f = 0 then slL (crvQ t f) zrL else []),i64 (if ocE t f = 0 then slE (crvQ t f) zrL else ocE t f)]) false := by
 have h74 := S38 t ht f hf
 by_cases h1 : ocE t f = 0
 ·obtain ⟨hT,_,hO⟩ := ocE_ok h1
  have h79 := S41c hT hO zrL_ok
  unfold ocL at h74
  rw [if_pos h1,h1] at h74
  rw [if_pos h1,if_pos h1]
  refine sound (d := 2) tok2 mixed2 Tryz.func15 (by kernel_rfl) (by kernel_rfl) ?_
  (conv=>whnf); refine .inl ⟨_,_,byX rfl (h74),?_⟩
  (conv=>whnf); refine .inl ⟨_,_,byX rfl (h79),?_⟩
  (conv=>whnf); refine ⟨?_,nofun⟩
  exact ave_tup2 ⟨rfl,rfl,fun _ _=>rfl⟩ rfl
 ·rw [if_neg h1,if_neg h1]
  refine sound (d := 2) tok2 mixed2 Tryz.func15 (by kernel_rfl) (by kernel_rfl) ?_
  (conv=>whnf); refine .inl ⟨_,_,byX rfl (h74),?_⟩
  (conv=>whnf); refine ifB_bne (fun w1=>?_) (fun w1=>?_)
  ·(conv=>whnf); refine ⟨?_,nofun⟩
   exact ave_tup2 rfl rfl
  ·(exfalso; omega)
end Go.Tr

/- Contracts of chapter 5: the maximum power at a head. Conditions: none. -/
-- seat YtpojlhnhokbhkaaGreat
namespace Go.Tr
open Go Go.Proofs
set_option maxRecDepth 20000
set_option maxHeartbeats 8000000

def mpE (t : List MRow) (h : Int) : Int := if (chkM t).2 ≠ 0 then (chkM t).2 else szE h
def mpO (t : List MRow) (h : Int) : Option Rat := mxT h none (triT t (t.length - 1))
theorem mpE_ok {t : List MRow} {h : Int} (g : mpE t h = 0) : TblOk t ∧ szE h = 0 := by
 unfold mpE at g
 by_cases h1 : (chkM t).2 = 0
 ·rw [if_neg (not_not_intro h1)] at g; exact ⟨TblOk.of h1,g⟩
 ·rw [if_pos h1] at g; exact absurd g h1
def mpR1 (t : List MRow) (h : Int) : Int := if mpE t h = 0 then (if (mpO t h).isSome = true then 0 else 12) else mpE t h
theorem extE {α : Type} (g : α → List AV) {m : Nat} (hg : ∀ a,(g a).length = m) (f : Nat → α) (k i : Nat) (hi : i < k + 1) (r : List AV) (e : r = g (f k)) : g (f i) = if i < k then g (f (0 + i)) else List.take m (List.drop ((i - k) * m) r) := by
  rw [e]; exact extG g hg f k i hi
def crO (x : Tri) (j : Nat) : Int := [x.1.2,x.2.1.2,x.2.2.2,x.1.2].getD j 0
def crR (x : Tri) (A : List Nm) (j : Nat) : List AV := [i64 (A.getD j n0).1.1,i64 (A.getD j n0).1.2.1,i64 (A.getD j n0).1.2.2,i64 (crO x j)]
theorem crn4 {x : Tri} {A : List Nm} (hA : A = arnd x) {f : Nat → List AV} (h0 : crR x (arnd x) 0 = f 0) (h1 : crR x (arnd x) 1 = f 1) (h2 : crR x (arnd x) 2 = f 2) (h3 : crR x (arnd x) 3 = f 3) : ∀ i,i < 4 → [i64 (A.getD i n0).1.1,i64 (A.getD i n0).1.2.1,i64 (A.getD i n0).1.2.2,i64 (crO x i)] = f i := fun i h=>by
 subst hA
 show crR x (arnd x) i = f i
 rcases (show i = 0 ∨ i = 1 ∨ i = 2 ∨ i = 3 by omega) with e | e | e | e <;> rw [e] <;> assumption
theorem arn_row {x : Tri} {A : List Nm} (hA : A = arnd x) {k : Nat} (hk : k < 4) {j : Nat} (hj : j = k) : [i64 (A.getD j n0).1.1,i64 (A.getD j n0).1.2.1,i64 (A.getD j n0).1.2.2,i64 1] = nmC (A.getD k n0) := by
 subst hA
 subst hj
 rcases (show j = 0 ∨ j = 1 ∨ j = 2 ∨ j = 3 by omega) with e | e | e | e <;> rw [e] <;> rfl
theorem st_none {o : Option Rat} (p : Rat) (h : ¬ o.isSome = true) : stO o p = some p := by
 cases o with
 | none=>rfl
 | some b=>exact absurd rfl h
theorem st_gt {o : Option Rat} {p : Rat} (h : o.isSome = true) (g : 0 < cmpR p (o.getD 0)) : stO o p = some p := by
 cases o with
 | none=>cases h
 | some b=>exact if_pos ((cmpR_pos p b).1 g)
theorem st_le {o : Option Rat} {p : Rat} (h : o.isSome = true) (g : ¬ 0 < cmpR p (o.getD 0)) : stO o p = o := by
 cases o with
 | none=>cases h
 | some b=>exact if_neg (fun e=>g ((cmpR_pos p b).2 e))
theorem c94_o {o : Option Rat} {p : Rat} (h : o.isSome = true) (ho : ∀ m,o = some m → smR m) (hp : smR p) : SP 47 [gaF (frI p),gaF (frO o)] (i64 (cmpR p (o.getD 0))) false := by
 cases o with
 | none=>cases h
 | some b=>exact S47 p b hp (ho b rfl)
theorem mp_end {o o' : Option Rat} {P : List Rat} {b : Nat} (h : o' = mxO o (P.take b)) (hb : P.length ≤ b) : o' = mxO o P := by
  rw [h,List.take_of_length_le hb]
theorem mp_step {h : Int} {o u d : Option Rat} {T K : List Tri} {x y : Tri} {P R : List Rat} (ho : o = mxT h none (T ++ K)) (hP : P = pws h x) (hR : R = pws h y) (hu : u = mxO o P) (hd : d = mxO u R) : d = mxT h none (T ++ (K ++ [x] ++ [y])) := by
 subst hP hR
 rw [hd,hu,ho]
 show mxT h (mxT h (mxT h none (T ++ K)) [x]) [y] = _
 rw [← mxT_app,← mxT_app]
 simp only [List.append_assoc]
theorem mp_x (h : Int) (hl : LnOk (hdL h)) (hs : -1000 ≤ h ∧ h ≤ 1000) (x : Tri) (hx : TriP x) : ∃ (A L : List Nm) (P : List Rat),A = arnd x ∧ P = pws h x ∧ L.length ≤ 12 ∧ P.length = L.length ∧ (∀ k,k < L.length → smR (P.getD k 0)) ∧
  (∀ n,n = 4 → SP 44 [.rslice 4 n fun j=>nmC (A.getD j n0),lnA (hdL h)] (nms L) false) ∧
  ∀ k,k < L.length → SP 46 [i64 (L.getD k n0).1.2.2,i64 (L.getD k n0).2] (.tuple [gaF (frI (P.getD k 0)),i64 0]) false := by
 have hc := arnd_ok hx
 have hPl : (pws h x).length = (onL (arnd x) (hdL h)).length := List.length_map _
 refine ⟨arnd x,onL (arnd x) (hdL h),pws h x,rfl,rfl,onL_len hc _,hPl,fun k hk=>pws_sm hs hx _ (getD_memG (d := (0 : Rat)) (by omega)),(fun n e=>by subst e; exact S44 _ _ hc hl),fun k hk=>?_⟩
 have hb := onL_ok hc hl _ (getD_memG (d := n0) hk)
 have b1 := hb.d
 have b2 := hb.w
 have c := S46p ((onL (arnd x) (hdL h)).getD k n0).1.2.2 ((onL (arnd x) (hdL h)).getD k n0).2 (by omega) (by omega)
 have e : (pws h x).getD k 0 = Rat.divInt ((onL (arnd x) (hdL h)).getD k n0).1.2.2 ((onL (arnd x) (hdL h)).getD k n0).2 := getD_mapG _ _ k n0 0 hk
 have g : smR (Rat.divInt ((onL (arnd x) (hdL h)).getD k n0).1.2.2 ((onL (arnd x) (hdL h)).getD k n0).2) := by
  rw [← e]; exact pws_sm hs hx _ (getD_memG (d := (0 : Rat)) (by omega))
 unfold okR at c
 rw [if_pos g,if_pos g,← e] at c
 exact c
set_option maxHeartbeats 16000000 in
theorem S17 (t : List MRow) (ht : Fit t) (h : Int) : SP 17 [tblA t, i64 h] (.tuple [gaF (if mpE t h = 0 then frO (mpO t h) else (0, 0)), i64 (mpR1 t h)]) false := by
 have h97 := S32 t ht
 have h77 := fun a=>@S40_1 a
 have h76 := @S31_2 (chkM t).2 (szE h)
 rw [first2] at h76
 change ∀ {f' : Nat → List AV},_ → SP 31 _ (i64 (mpE t h)) false at h76
 unfold mpR1
 by_cases h0 : mpE t h = 0
 ·obtain ⟨hT, hs⟩ := mpE_ok h0
  have hR := RwOk.ofT hT
  have hn := hR.n
  have hnp := hR.np
  have hhb : -1000 ≤ h ∧ h ≤ 1000 := by
   unfold szE at hs
   split at hs
   ·assumption
   ·exact absurd hs (by decide)
  rw [h0] at h76
  rw [if_pos h0,if_pos h0]
  refine sound (d := 2) tok2 mixed2 Tryz.func17 (by kernel_rfl) (by kernel_rfl) ?_
  have hln := hdL_ok hs
  have h91 := S45 h
  (conv=>whnf); refine ⟨[],by kernel_rfl,?_⟩
  (conv=>whnf); refine .inl ⟨_,_,byX rfl (Sound1.pl (h97) rfl),?_⟩
  (conv=>whnf); refine .inl ⟨_,_,byX rfl (Sound1.pl (h77 _ rfl) rfl),?_⟩
  (conv=>whnf); refine .inl ⟨_,_,byX rfl (Sound1.pl (h76 ⟨rfl,rfl⟩) rfl),?_⟩
  (conv=>whnf); refine .inr (.inl ⟨[],?_⟩)
  (conv=>whnf); refine ⟨(by first | rfl | assumption),?_⟩
  refine ⟨_,keep_ok [2,3,4,5,7,8,30] _,?_⟩
  (conv=>whnf); refine ⟨inK64 (by omega) (by omega),?_⟩
  (conv=>whnf); refine ⟨[],[0,1,14,15],fun st mq=>∃ (i : Nat) (o : Option Rat) (F4 : Nat → List AV) (F5 : Nat → List AV),(i ≤ t.length - 1) ∧ (o = mxT h none (triT t i)) ∧ (∀ m,o = some m → smR m) ∧ st = ⟨[(0,.yld 0),(1,.optr 8 0 0 0),(14,i64 ((t.length : Int) - 1)),(15,i64 i)],⟨[⟨1,1,fun _=>[rowsA t],0,false,true,true⟩,⟨1,1,fun _=>[i64 h],0,false,true,true⟩,⟨2,1,fun _=>[i64 0,i64 0],0,false,true,true⟩,⟨1,1,fun _=>[i64 0],0,false,true,true⟩,⟨1,1,F4,0,false,true,false⟩,⟨1,2,F5,0,false,true,false⟩,⟨2,1,fun _=>[i64 (frO o).1,i64 (frO o).2],0,false,true,true⟩,⟨1,1,fun _=>[vb o.isSome],0,false,true,true⟩,⟨1,1,fun _=>[rowsA t],0,false,true,true⟩],[],none,1⟩,[(2,.optr 0 0 0 0),(3,.optr 1 0 0 0),(4,.optr 2 0 0 0),(5,.optr 3 0 0 0),(7,.optr 6 0 0 0),(8,.optr 7 0 0 0),(30,.func (.func 65) 0 [.optr 8 0 0 0])]⟩ ∧ mq = t.length - 1 - i,
   ⟨_,_,⟨0,none,_,_,by omega,rfl,nofun,rfl,rfl⟩,⟨⟨.inl rfl,rfl,rfl,rfl⟩,⟨⟨rfl,rfl,rfl,rfl,fun _=>rfl,fun _ _=>.inl rfl⟩,⟨⟨rfl,rfl,rfl,rfl,fun _=>rfl,fun _ _=>.inl rfl⟩,⟨⟨rfl,rfl,rfl,rfl,fun _=>rfl,fun _ _=>.inl rfl⟩,⟨⟨rfl,rfl,rfl,rfl,fun _=>rfl,fun _ _=>.inl rfl⟩,⟨⟨rfl,rfl,rfl,rfl,fun _=>rfl,fun _ _=>.inl rfl⟩,⟨⟨rfl,rfl,rfl,rfl,fun _=>rfl,fun _ _=>.inl rfl⟩,⟨⟨rfl,rfl,rfl,rfl,fun _=>rfl,fun _ _=>.inl rfl⟩,⟨⟨rfl,rfl,rfl,rfl,fun _=>rfl,fun _ _=>.inl rfl⟩,⟨⟨rfl,rfl,rfl,rfl,fun _=>rfl,fun _ _=>.inl rfl⟩,trivial⟩⟩⟩⟩⟩⟩⟩⟩⟩,trivial⟩⟩,?_⟩
  rintro s0 m0 ⟨i,o,F4,F5,hi,ho,hom,rfl,hmeas⟩
  by_cases hlt2 : i < t.length - 1
  ·have hl1 : (t.getD i r0).ps.length = npT t := hR.len i (by omega)
   have hl2 : (t.getD (i + 1) r0).ps.length = npT t := hR.len (i + 1) (by omega)
   have q1 : inK .i64 (((t.getD i r0).ps.length : Int) - 1) := inK_of (by omega)
   conv=>whnf
   (conv=>whnf); refine ifB_dec (fun w1=>?_) (fun w1=>?_)
   ·conv => whnf
    (conv=>whnf); refine ⟨[(6,13),(10,13)],by kernel_rfl,?_⟩
    conv=>whnf
    (conv=>whnf); refine ⟨⟨(by omega),(by omega)⟩,?_⟩
    conv=>whnf
    (conv=>whnf); refine ⟨inK64 (by omega) (by omega),?_⟩
    conv=>whnf
    (conv=>whnf); refine ⟨⟨(by omega),(by omega)⟩,?_⟩
    conv=>whnf
    (conv=>whnf); refine ⟨by assumption,?_⟩
    conv=>whnf
    (conv=>whnf); refine ⟨[],[0,1,3,4,5,14,15,32,33],fun st mq=>∃ (k : Nat) (o : Option Rat) (F4 : Nat → List AV) (F5 : Nat → List AV),(k ≤ npT t - 1) ∧ (o = mxT h none (triT t i ++ triK t i k)) ∧ (∀ m,o = some m → smR m) ∧ st = ⟨[(0,.yld 0),(1,.optr 8 0 0 0),(3,i64 i),(4,.optr 9 0 0 0),(5,.optr 10 0 0 0),(14,i64 ((t.length : Int) - 1)),(15,i64 i),(32,i64 (((t.getD i r0).ps.length : Int) - 1)),(33,i64 k)],⟨[⟨1,1,fun _=>[rowsA t],0,false,true,true⟩,⟨1,1,fun _=>[i64 h],0,false,true,true⟩,⟨2,1,fun _=>[i64 0,i64 0],0,false,true,true⟩,⟨1,1,fun _=>[i64 0],0,false,true,true⟩,⟨1,1,F4,0,false,true,false⟩,⟨1,2,F5,0,false,true,false⟩,⟨2,1,fun _=>[i64 (frO o).1,i64 (frO o).2],0,false,true,true⟩,⟨1,1,fun _=>[vb o.isSome],0,false,true,true⟩,⟨1,1,fun _=>[rowsA t],0,false,true,true⟩,⟨2,1,fun _=>[i64 (t.getD i r0).o,ptsA (t.getD i r0).ps],0,false,true,true⟩,⟨2,1,fun _=>[i64 (t.getD (i + 1) r0).o,ptsA (t.getD (i + 1) r0).ps],0,false,true,true⟩],[],none,1⟩,[(2,.optr 0 0 0 0),(3,.optr 1 0 0 0),(4,.optr 2 0 0 0),(5,.optr 3 0 0 0),(7,.optr 6 0 0 0),(8,.optr 7 0 0 0),(30,.func (.func 65) 0 [.optr 8 0 0 0])]⟩ ∧ mq = npT t - 1 - k,
     ⟨_,_,⟨0,o,_,_,by omega,(by rw [ho]; congr 1; exact (List.append_nil _).symm),hom,rfl,rfl⟩,⟨⟨.inl rfl,rfl,rfl,rfl⟩,⟨⟨rfl,rfl,rfl,rfl,fun _=>rfl,fun _ _=>.inl rfl⟩,⟨⟨rfl,rfl,rfl,rfl,fun _=>rfl,fun _ _=>.inl rfl⟩,⟨⟨rfl,rfl,rfl,rfl,fun _=>rfl,fun _ _=>.inl rfl⟩,⟨⟨rfl,rfl,rfl,rfl,fun _=>rfl,fun _ _=>.inl rfl⟩,⟨⟨rfl,rfl,rfl,rfl,fun _=>rfl,fun _ _=>.inl rfl⟩,⟨⟨rfl,rfl,rfl,rfl,fun _=>rfl,fun _ _=>.inl rfl⟩,⟨⟨rfl,rfl,rfl,rfl,fun _=>rfl,fun _ _=>.inl rfl⟩,⟨⟨rfl,rfl,rfl,rfl,fun _=>rfl,fun _ _=>.inl rfl⟩,⟨⟨rfl,rfl,rfl,rfl,fun _=>rfl,fun _ _=>.inl rfl⟩,⟨⟨rfl,rfl,rfl,rfl,fun _=>rfl,fun _ _=>.inl rfl⟩,⟨⟨rfl,rfl,rfl,rfl,fun _=>rfl,fun _ _=>.inl rfl⟩,trivial⟩⟩⟩⟩⟩⟩⟩⟩⟩⟩⟩,trivial⟩⟩,?_⟩
    rintro s0 m0 ⟨k,o,F4,F5,hk,ho,hom,rfl,hmeas⟩
    by_cases hlt3 : k < npT t - 1
    ·have p1 := hR.pts i k (by omega) (by omega)
     have p2 := hR.pts i (k + 1) (by omega) (by omega)
     have p3 := hR.pts (i + 1) k (by omega) (by omega)
     have p4 := hR.pts (i + 1) (k + 1) (by omega) (by omega)
     obtain ⟨AU,LU,PU,hAU,hPU,hLU,hPlU,hPsU,h90U,h92U⟩ := mp_x h hln hhb (triU t i k) ⟨p1,p2,p3⟩
     obtain ⟨AD,LD,PD,hAD,hPD,hLD,hPlD,hPsD,h90D,h92D⟩ := mp_x h hln hhb (triD t i k) ⟨p2,p4,p3⟩
     conv=>whnf
     conv=>whnf
     (conv=>whnf); refine ifB_dec (fun w2=>?_) (fun w2=>?_)
     ·conv => whnf
      conv=>whnf
      (conv=>whnf); refine ⟨[(9,19),(13,19),(15,19)],by kernel_rfl,?_⟩
      conv=>whnf
      conv=>whnf
      (conv=>whnf); refine ⟨⟨(by omega),(by omega)⟩,?_⟩
      conv=>whnf
      conv=>whnf
      (conv=>whnf); refine ⟨inK64 (by omega) (by omega),?_⟩
      conv=>whnf
      conv=>whnf
      (conv=>whnf); refine ⟨⟨(by omega),(by omega)⟩,?_⟩
      conv=>whnf
      conv=>whnf
      (conv=>whnf); refine ⟨[(9,19),(13,19),(15,19)],by kernel_rfl,?_⟩
      conv=>whnf
      conv=>whnf
      (conv=>whnf); refine ⟨⟨(by omega),(by omega)⟩,?_⟩
      conv=>whnf
      conv=>whnf
      (conv=>whnf); refine ⟨inK64 (by omega) (by omega),?_⟩
      conv=>whnf
      conv=>whnf
      (conv=>whnf); refine ⟨⟨(by omega),(by omega)⟩,?_⟩
      conv=>whnf
      conv=>whnf
      (conv=>whnf); refine ⟨(by first | rfl | assumption),?_⟩
      conv=>whnf
      conv=>whnf
      (conv=>whnf); refine ⟨[],by kernel_rfl,?_⟩
      conv=>whnf
      conv=>whnf
      (conv=>whnf); refine ⟨⟨(by omega),(by omega)⟩,?_⟩
      conv=>whnf
      conv=>whnf
      (conv=>whnf); refine ⟨⟨(by omega),(by show _ * (32 + 1) ≤ _; omega)⟩,?_⟩
      conv=>whnf
      conv=>whnf
      (conv=>whnf); refine ⟨[.slot 11 4,.forget [2,6,11,12,13,16,17,18,19,20,21,22,23,24,25,26,27,28,29,30,31,34,35,36,37,38,39,40,41,42,43,44,45,46,47,48,49,50,51,52,53,54,55,56,57,58,59,60,61,62,63,64,65,66,67,68,69,70,71,72,73,74,75,76,77,78,79,80,81,82,83,84,85,86,87,88,89,90,91,96,99,100,101,102,103,104,105,106,107,108,109,110,111,112,113,114,115,116,117,118,119,121,122,123,124,125,126,127,128,129,130,131,132,133,134,135,136,137,138,139,140,141,142,143,144,145,146,147,148,149,150,151,152,153,154,155,156,157,158,159,160,161,162,163,164,165,166,167,168,169,170,171,172,173,174,175,176,177,178,179,180,181,182,183,184,185,186,187,188,189,190,191,192,193,194,195,196,197,198,199,200,201,202,203,204,205,206,207,208,209,210,211,212,213,214,215,216,217,218,219,220,221,222,223,224,225,226,227,228,229]],[39,38,37,11,3,4,5,7,8],fun st mq=>∃ (aU : Nat) (F4 : Nat → List AV) (F5 : Nat → List AV) (F15 : Nat → List AV) (F16 : Nat → List AV),(aU ≤ 4) ∧ st = ⟨[(39,i64 aU),(38,i64 4),(37,.oslice 17 0 0 4 none),(11,.oslice 18 0 0 aU none),(3,.optr 1 0 0 0),(4,.optr 2 0 0 0),(5,.optr 3 0 0 0),(7,.optr 6 0 0 0),(8,.optr 7 0 0 0)],⟨[⟨1,1,fun _=>[rowsA t],0,false,true,true⟩,⟨1,1,fun _=>[i64 h],0,false,true,true⟩,⟨2,1,fun _=>[i64 0,i64 0],0,false,true,true⟩,⟨1,1,fun _=>[i64 0],0,false,true,true⟩,⟨1,1,F4,0,false,true,false⟩,⟨1,2,F5,0,false,true,false⟩,⟨2,1,fun _=>[i64 (frO o).1,i64 (frO o).2],0,false,true,true⟩,⟨1,1,fun _=>[vb o.isSome],0,false,true,true⟩,⟨1,1,fun _=>[rowsA t],0,false,true,true⟩,⟨2,1,fun _=>[i64 (t.getD i r0).o,ptsA (t.getD i r0).ps],0,false,true,true⟩,⟨2,1,fun _=>[i64 (t.getD (i + 1) r0).o,ptsA (t.getD (i + 1) r0).ps],0,false,true,true⟩,⟨4,1,fun _=>[i64 (ptT t (i) (k)).1,i64 (ptT t (i) (k)).2.1,i64 (ptT t (i) (k)).2.2,i64 (t.getD (i) r0).o],0,false,true,true⟩,⟨4,1,fun _=>[i64 (ptT t (i) (k + 1)).1,i64 (ptT t (i) (k + 1)).2.1,i64 (ptT t (i) (k + 1)).2.2,i64 (t.getD (i) r0).o],0,false,true,true⟩,⟨4,1,fun _=>[i64 (ptT t (i + 1) (k)).1,i64 (ptT t (i + 1) (k)).2.1,i64 (ptT t (i + 1) (k)).2.2,i64 (t.getD (i + 1) r0).o],0,false,true,true⟩,⟨4,1,fun _=>[i64 (ptT t (i + 1) (k + 1)).1,i64 (ptT t (i + 1) (k + 1)).2.1,i64 (ptT t (i + 1) (k + 1)).2.2,i64 (t.getD (i + 1) r0).o],0,false,true,true⟩,⟨12,1,F15,0,false,true,false⟩,⟨4,1,F16,0,false,true,false⟩,⟨4,4,fun j=>[i64 (AU.getD j n0).1.1,i64 (AU.getD j n0).1.2.1,i64 (AU.getD j n0).1.2.2,i64 (crO (triU t i k) j)],0,false,true,false⟩,⟨4,aU,fun j=>nmC (AU.getD j n0),0,false,true,false⟩],[],none,1⟩,[(10,.optr 14 0 0 0),(9,.optr 13 0 0 0),(8,.optr 12 0 0 0),(7,.optr 11 0 0 0),(0,.yld 0),(1,.optr 8 0 0 0),(3,i64 i),(4,.optr 9 0 0 0),(5,.optr 10 0 0 0),(14,i64 ((t.length : Int) - 1)),(15,i64 i),(32,i64 (((t.getD i r0).ps.length : Int) - 1)),(33,i64 k),(92,.optr 0 0 0 0),(93,.optr 1 0 0 0),(94,.optr 2 0 0 0),(95,.optr 3 0 0 0),(97,.optr 6 0 0 0),(98,.optr 7 0 0 0),(120,.func (.func 65) 0 [.optr 8 0 0 0])]⟩ ∧ mq = 4 - aU,
       ⟨_,_,⟨0,_,_,_,_,by omega,rfl,rfl⟩,⟨⟨.inl rfl,rfl,rfl,rfl⟩,⟨⟨rfl,rfl,rfl,rfl,fun _=>rfl,fun _ _=>.inl rfl⟩,⟨⟨rfl,rfl,rfl,rfl,fun _=>rfl,fun _ _=>.inl rfl⟩,⟨⟨rfl,rfl,rfl,rfl,fun _=>rfl,fun _ _=>.inl rfl⟩,⟨⟨rfl,rfl,rfl,rfl,fun _=>rfl,fun _ _=>.inl rfl⟩,⟨⟨rfl,rfl,rfl,rfl,fun _=>rfl,fun _ _=>.inl rfl⟩,⟨⟨rfl,rfl,rfl,rfl,fun _=>rfl,fun _ _=>.inl rfl⟩,⟨⟨rfl,rfl,rfl,rfl,fun _=>rfl,fun _ _=>.inl rfl⟩,⟨⟨rfl,rfl,rfl,rfl,fun _=>rfl,fun _ _=>.inl rfl⟩,⟨⟨rfl,rfl,rfl,rfl,fun _=>rfl,fun _ _=>.inl rfl⟩,⟨⟨rfl,rfl,rfl,rfl,fun _=>rfl,fun _ _=>.inl rfl⟩,⟨⟨rfl,rfl,rfl,rfl,fun _=>rfl,fun _ _=>.inl rfl⟩,⟨⟨rfl,rfl,rfl,rfl,fun _=>rfl,fun _ _=>.inl rfl⟩,⟨⟨rfl,rfl,rfl,rfl,fun _=>rfl,fun _ _=>.inl rfl⟩,⟨⟨rfl,rfl,rfl,rfl,fun _=>rfl,fun _ _=>.inl rfl⟩,⟨⟨rfl,rfl,rfl,rfl,fun _=>rfl,fun _ _=>.inl rfl⟩,⟨⟨rfl,rfl,rfl,rfl,fun _=>rfl,fun _ _=>.inl rfl⟩,⟨⟨rfl,rfl,rfl,rfl,fun _=>rfl,fun _ _=>.inl rfl⟩,⟨⟨rfl,rfl,rfl,rfl,fun _=>rfl,fun i hi=>.inl (crn4 hAU (by rfl) (by rfl) (by rfl) (by rfl) i hi)⟩,⟨⟨rfl,rfl,rfl,rfl,fun _=>rfl,fun i h=>.inl (absurd h (Nat.not_lt_zero i))⟩,trivial⟩⟩⟩⟩⟩⟩⟩⟩⟩⟩⟩⟩⟩⟩⟩⟩⟩⟩⟩,trivial⟩⟩,?_⟩
      rintro s0 m0 ⟨aU,F4,F5,F15,F16,haU,rfl,hmeas⟩
      by_cases hltU : aU < 4
      ·have c101 := S43 (AU.getD aU n0).1
       conv=>whnf
       conv=>whnf
       conv=>whnf
       (conv=>whnf); refine ifB_dec (fun w3=>?_) (fun w3=>?_)
       ·conv=>whnf
        conv=>whnf
        conv=>whnf
        (conv=>whnf); refine ⟨⟨(by omega),(by omega)⟩,?_⟩
        conv=>whnf
        conv=>whnf
        conv=>whnf
        (conv=>whnf); refine .inl ⟨_,_,byX rfl (Sound1.pl (S43 _) rfl),?_⟩
        conv=>whnf
        conv=>whnf
        conv=>whnf
        (conv=>whnf); refine .inl ?_
        conv=>whnf
        conv=>whnf
        conv=>whnf
        (conv=>whnf); refine ⟨(by show _ * (32 + 1) ≤ _; omega),?_⟩
        conv=>whnf
        conv=>whnf
        conv=>whnf
        (conv=>whnf); refine ⟨inK64 (by omega) (by omega),?_⟩
        conv=>whnf
        conv=>whnf
        conv=>whnf
        (conv=>whnf); refine ⟨_,_,⟨⟨aU + 1,_,_,_,_,by omega,rfl,rfl⟩,by omega⟩,⟨⟨.inl rfl,rfl,rfl,rfl⟩,⟨⟨rfl,rfl,rfl,rfl,fun _=>rfl,fun _ _=>.inl rfl⟩,⟨⟨rfl,rfl,rfl,rfl,fun _=>rfl,fun _ _=>.inl rfl⟩,⟨⟨rfl,rfl,rfl,rfl,fun _=>rfl,fun _ _=>.inl rfl⟩,⟨⟨rfl,rfl,rfl,rfl,fun _=>rfl,fun _ _=>.inl rfl⟩,⟨⟨rfl,rfl,rfl,rfl,fun _=>rfl,fun _ _=>.inl rfl⟩,⟨⟨rfl,rfl,rfl,rfl,fun _=>rfl,fun _ _=>.inl rfl⟩,⟨⟨rfl,rfl,rfl,rfl,fun _=>rfl,fun _ _=>.inl rfl⟩,⟨⟨rfl,rfl,rfl,rfl,fun _=>rfl,fun _ _=>.inl rfl⟩,⟨⟨rfl,rfl,rfl,rfl,fun _=>rfl,fun _ _=>.inl rfl⟩,⟨⟨rfl,rfl,rfl,rfl,fun _=>rfl,fun _ _=>.inl rfl⟩,⟨⟨rfl,rfl,rfl,rfl,fun _=>rfl,fun _ _=>.inl rfl⟩,⟨⟨rfl,rfl,rfl,rfl,fun _=>rfl,fun _ _=>.inl rfl⟩,⟨⟨rfl,rfl,rfl,rfl,fun _=>rfl,fun _ _=>.inl rfl⟩,⟨⟨rfl,rfl,rfl,rfl,fun _=>rfl,fun _ _=>.inl rfl⟩,⟨⟨rfl,rfl,rfl,rfl,fun _=>rfl,fun _ _=>.inl rfl⟩,⟨⟨rfl,rfl,rfl,rfl,fun _=>rfl,fun _ _=>.inl rfl⟩,⟨⟨rfl,rfl,rfl,rfl,fun _=>rfl,fun _ _=>.inl rfl⟩,⟨⟨rfl,rfl,rfl,rfl,fun _=>rfl,fun _ _=>.inl rfl⟩,⟨⟨rfl,rfl,rfl,rfl,fun _=>rfl,fun i hi=>.inl (extE nmC (m := 4) (fun _=>rfl) (fun i=>AU.getD i n0) aU i hi _ (arn_row hAU hltU (Nat.zero_add aU)))⟩,trivial⟩⟩⟩⟩⟩⟩⟩⟩⟩⟩⟩⟩⟩⟩⟩⟩⟩⟩⟩,trivial⟩⟩
       ·(exfalso; omega)
      ·have h90 := h90U aU (by omega)
       conv=>whnf
       conv=>whnf
       conv=>whnf
       (conv=>whnf); refine ifB_dec (fun w3=>?_) (fun w3=>?_)
       ·(exfalso; omega)
       ·conv => whnf
        conv=>whnf
        conv=>whnf
        (conv=>whnf); refine .inl ⟨_,_,byX rfl (Sound1.pl (h91) rfl),?_⟩
        conv=>whnf
        conv=>whnf
        conv=>whnf
        (conv=>whnf); refine .inl ⟨_,_,byX rfl (h90),?_⟩
        conv=>whnf
        conv=>whnf
        conv=>whnf
        (conv=>whnf); refine ⟨[],[56,55,54,3,4,5,7,8],fun st mq=>∃ (bU : Nat) (oU : Option Rat) (F4 : Nat → List AV) (F5 : Nat → List AV) (F15 : Nat → List AV) (F16 : Nat → List AV) (F17 : Nat → List AV),(bU ≤ LU.length) ∧ (oU = mxO o (PU.take bU)) ∧ (∀ m,oU = some m → smR m) ∧ st = ⟨[(56,i64 bU),(55,i64 LU.length),(54,nms LU),(3,.optr 1 0 0 0),(4,.optr 2 0 0 0),(5,.optr 3 0 0 0),(7,.optr 6 0 0 0),(8,.optr 7 0 0 0)],⟨[⟨1,1,fun _=>[rowsA t],0,false,true,true⟩,⟨1,1,fun _=>[i64 h],0,false,true,true⟩,⟨2,1,fun _=>[i64 0,i64 0],0,false,true,true⟩,⟨1,1,fun _=>[i64 0],0,false,true,true⟩,⟨1,1,F4,0,false,true,false⟩,⟨1,2,F5,0,false,true,false⟩,⟨2,1,fun _=>[i64 (frO oU).1,i64 (frO oU).2],0,false,true,true⟩,⟨1,1,fun _=>[vb oU.isSome],0,false,true,true⟩,⟨1,1,fun _=>[rowsA t],0,false,true,true⟩,⟨2,1,fun _=>[i64 (t.getD i r0).o,ptsA (t.getD i r0).ps],0,false,true,true⟩,⟨2,1,fun _=>[i64 (t.getD (i + 1) r0).o,ptsA (t.getD (i + 1) r0).ps],0,false,true,true⟩,⟨4,1,fun _=>[i64 (ptT t (i) (k)).1,i64 (ptT t (i) (k)).2.1,i64 (ptT t (i) (k)).2.2,i64 (t.getD (i) r0).o],0,false,true,true⟩,⟨4,1,fun _=>[i64 (ptT t (i) (k + 1)).1,i64 (ptT t (i) (k + 1)).2.1,i64 (ptT t (i) (k + 1)).2.2,i64 (t.getD (i) r0).o],0,false,true,true⟩,⟨4,1,fun _=>[i64 (ptT t (i + 1) (k)).1,i64 (ptT t (i + 1) (k)).2.1,i64 (ptT t (i + 1) (k)).2.2,i64 (t.getD (i + 1) r0).o],0,false,true,true⟩,⟨4,1,fun _=>[i64 (ptT t (i + 1) (k + 1)).1,i64 (ptT t (i + 1) (k + 1)).2.1,i64 (ptT t (i + 1) (k + 1)).2.2,i64 (t.getD (i + 1) r0).o],0,false,true,true⟩,⟨12,1,F15,0,false,true,false⟩,⟨4,1,F16,0,false,true,false⟩,⟨4,4,F17,0,false,true,false⟩,⟨4,aU,fun j=>nmC (AU.getD j n0),0,true,true,false⟩],[],none,1⟩,[(10,.optr 14 0 0 0),(9,.optr 13 0 0 0),(8,.optr 12 0 0 0),(7,.optr 11 0 0 0),(0,.yld 0),(1,.optr 8 0 0 0),(3,i64 i),(4,.optr 9 0 0 0),(5,.optr 10 0 0 0),(14,i64 ((t.length : Int) - 1)),(15,i64 i),(32,i64 (((t.getD i r0).ps.length : Int) - 1)),(33,i64 k),(92,.optr 0 0 0 0),(93,.optr 1 0 0 0),(94,.optr 2 0 0 0),(95,.optr 3 0 0 0),(97,.optr 6 0 0 0),(98,.optr 7 0 0 0),(120,.func (.func 65) 0 [.optr 8 0 0 0])]⟩ ∧ mq = LU.length - bU,
         ⟨_,_,⟨0,o,_,_,_,_,_,by omega,rfl,hom,rfl,rfl⟩,⟨⟨.inl rfl,rfl,rfl,rfl⟩,⟨⟨rfl,rfl,rfl,rfl,fun _=>rfl,fun _ _=>.inl rfl⟩,⟨⟨rfl,rfl,rfl,rfl,fun _=>rfl,fun _ _=>.inl rfl⟩,⟨⟨rfl,rfl,rfl,rfl,fun _=>rfl,fun _ _=>.inl rfl⟩,⟨⟨rfl,rfl,rfl,rfl,fun _=>rfl,fun _ _=>.inl rfl⟩,⟨⟨rfl,rfl,rfl,rfl,fun _=>rfl,fun _ _=>.inl rfl⟩,⟨⟨rfl,rfl,rfl,rfl,fun _=>rfl,fun _ _=>.inl rfl⟩,⟨⟨rfl,rfl,rfl,rfl,fun _=>rfl,fun _ _=>.inl rfl⟩,⟨⟨rfl,rfl,rfl,rfl,fun _=>rfl,fun _ _=>.inl rfl⟩,⟨⟨rfl,rfl,rfl,rfl,fun _=>rfl,fun _ _=>.inl rfl⟩,⟨⟨rfl,rfl,rfl,rfl,fun _=>rfl,fun _ _=>.inl rfl⟩,⟨⟨rfl,rfl,rfl,rfl,fun _=>rfl,fun _ _=>.inl rfl⟩,⟨⟨rfl,rfl,rfl,rfl,fun _=>rfl,fun _ _=>.inl rfl⟩,⟨⟨rfl,rfl,rfl,rfl,fun _=>rfl,fun _ _=>.inl rfl⟩,⟨⟨rfl,rfl,rfl,rfl,fun _=>rfl,fun _ _=>.inl rfl⟩,⟨⟨rfl,rfl,rfl,rfl,fun _=>rfl,fun _ _=>.inl rfl⟩,⟨⟨rfl,rfl,rfl,rfl,fun _=>rfl,fun _ _=>.inl rfl⟩,⟨⟨rfl,rfl,rfl,rfl,fun _=>rfl,fun _ _=>.inl rfl⟩,⟨⟨rfl,rfl,rfl,rfl,fun _=>rfl,fun _ _=>.inl rfl⟩,⟨⟨rfl,rfl,rfl,rfl,fun _=>rfl,fun _ _=>.inl rfl⟩,trivial⟩⟩⟩⟩⟩⟩⟩⟩⟩⟩⟩⟩⟩⟩⟩⟩⟩⟩⟩,trivial⟩⟩,?_⟩
        rintro s0 m0 ⟨bU,oU,F4,F5,F15,F16,F17,hbU,hoU,hmU,rfl,hmeas⟩
        by_cases hlU : bU < LU.length
        ·have c92 := h92U bU hlU
         have hps := hPsU bU hlU
         have e1 : mxO o (PU.take (bU + 1)) = stO oU (PU.getD bU 0) := by rw [mxO_take _ _ _ (by omega),← hoU]
         by_cases g1 : oU.isSome = true
         ·have c94 := c94_o g1 hmU hps
          by_cases g2 : 0 < cmpR (PU.getD bU 0) (oU.getD 0)
          ·conv=>whnf
           conv=>whnf
           conv=>whnf
           conv=>whnf
           (conv=>whnf); refine ifB_dec (fun w4=>?_) (fun w4=>?_)
           ·conv=>whnf
            conv=>whnf
            conv=>whnf
            conv=>whnf
            (conv=>whnf); refine ⟨⟨(by omega),(by omega)⟩,?_⟩
            conv=>whnf
            conv=>whnf
            conv=>whnf
            conv=>whnf
            (conv=>whnf); refine ⟨⟨(by omega),(by omega)⟩,?_⟩
            conv=>whnf
            conv=>whnf
            conv=>whnf
            conv=>whnf
            (conv=>whnf); refine .inl ⟨_,_,byX rfl (Sound1.pl (c92) rfl),?_⟩
            conv=>whnf
            conv=>whnf
            conv=>whnf
            conv=>whnf
            (conv=>whnf); refine ifB_not ?_
            conv=>whnf
            conv=>whnf
            conv=>whnf
            conv=>whnf
            (conv=>whnf); refine ifB_intro (fun w5=>?_) (fun w5=>?_)
            ·conv=>whnf
             conv=>whnf
             conv=>whnf
             conv=>whnf
             (conv=>whnf); refine .inl ⟨_,_,byX rfl (Sound1.pl (c94) rfl),?_⟩
             conv=>whnf
             conv=>whnf
             conv=>whnf
             conv=>whnf
             (conv=>whnf); refine ifB_dec (fun w6=>?_) (fun w6=>?_)
             ·conv=>whnf
              conv=>whnf
              conv=>whnf
              conv=>whnf
              (conv=>whnf); refine ⟨inK64 (by omega) (by omega),?_⟩
              conv=>whnf
              conv=>whnf
              conv=>whnf
              conv=>whnf
              (conv=>whnf); refine ⟨_,_,⟨⟨bU + 1,some (PU.getD bU 0),_,_,_,_,_,by omega,(by rw [e1,st_gt g1 g2]),(fun m e=>by cases e; exact hps),rfl,rfl⟩,by omega⟩,⟨⟨.inl rfl,rfl,rfl,rfl⟩,⟨⟨rfl,rfl,rfl,rfl,fun _=>rfl,fun _ _=>.inl rfl⟩,⟨⟨rfl,rfl,rfl,rfl,fun _=>rfl,fun _ _=>.inl rfl⟩,⟨⟨rfl,rfl,rfl,rfl,fun _=>rfl,fun _ _=>.inl rfl⟩,⟨⟨rfl,rfl,rfl,rfl,fun _=>rfl,fun _ _=>.inl rfl⟩,⟨⟨rfl,rfl,rfl,rfl,fun _=>rfl,fun _ _=>.inl rfl⟩,⟨⟨rfl,rfl,rfl,rfl,fun _=>rfl,fun _ _=>.inl rfl⟩,⟨⟨rfl,rfl,rfl,rfl,fun _=>rfl,fun _ _=>.inl rfl⟩,⟨⟨rfl,rfl,rfl,rfl,fun _=>rfl,fun _ _=>.inl rfl⟩,⟨⟨rfl,rfl,rfl,rfl,fun _=>rfl,fun _ _=>.inl rfl⟩,⟨⟨rfl,rfl,rfl,rfl,fun _=>rfl,fun _ _=>.inl rfl⟩,⟨⟨rfl,rfl,rfl,rfl,fun _=>rfl,fun _ _=>.inl rfl⟩,⟨⟨rfl,rfl,rfl,rfl,fun _=>rfl,fun _ _=>.inl rfl⟩,⟨⟨rfl,rfl,rfl,rfl,fun _=>rfl,fun _ _=>.inl rfl⟩,⟨⟨rfl,rfl,rfl,rfl,fun _=>rfl,fun _ _=>.inl rfl⟩,⟨⟨rfl,rfl,rfl,rfl,fun _=>rfl,fun _ _=>.inl rfl⟩,⟨⟨rfl,rfl,rfl,rfl,fun _=>rfl,fun _ _=>.inl rfl⟩,⟨⟨rfl,rfl,rfl,rfl,fun _=>rfl,fun _ _=>.inl rfl⟩,⟨⟨rfl,rfl,rfl,rfl,fun _=>rfl,fun _ _=>.inl rfl⟩,⟨⟨rfl,rfl,rfl,rfl,fun _=>rfl,fun _ _=>.inl rfl⟩,trivial⟩⟩⟩⟩⟩⟩⟩⟩⟩⟩⟩⟩⟩⟩⟩⟩⟩⟩⟩,trivial⟩⟩
             ·(exfalso; omega)
            ·exact absurd (g1.symm.trans w5) nofun
           ·(exfalso; omega)
          ·conv=>whnf
           conv=>whnf
           conv=>whnf
           conv=>whnf
           (conv=>whnf); refine ifB_dec (fun w4=>?_) (fun w4=>?_)
           ·conv=>whnf
            conv=>whnf
            conv=>whnf
            conv=>whnf
            (conv=>whnf); refine ⟨⟨(by omega),(by omega)⟩,?_⟩
            conv=>whnf
            conv=>whnf
            conv=>whnf
            conv=>whnf
            (conv=>whnf); refine ⟨⟨(by omega),(by omega)⟩,?_⟩
            conv=>whnf
            conv=>whnf
            conv=>whnf
            conv=>whnf
            (conv=>whnf); refine .inl ⟨_,_,byX rfl (Sound1.pl (c92) rfl),?_⟩
            conv=>whnf
            conv=>whnf
            conv=>whnf
            conv=>whnf
            (conv=>whnf); refine ifB_not ?_
            conv=>whnf
            conv=>whnf
            conv=>whnf
            conv=>whnf
            (conv=>whnf); refine ifB_intro (fun w5=>?_) (fun w5=>?_)
            ·conv=>whnf
             conv=>whnf
             conv=>whnf
             conv=>whnf
             (conv=>whnf); refine .inl ⟨_,_,byX rfl (Sound1.pl (c94) rfl),?_⟩
             conv=>whnf
             conv=>whnf
             conv=>whnf
             conv=>whnf
             (conv=>whnf); refine ifB_dec (fun w6=>?_) (fun w6=>?_)
             ·(exfalso; omega)
             ·conv=>whnf
              conv=>whnf
              conv=>whnf
              conv=>whnf
              (conv=>whnf); refine ⟨inK64 (by omega) (by omega),?_⟩
              conv=>whnf
              conv=>whnf
              conv=>whnf
              conv=>whnf
              (conv=>whnf); refine ⟨_,_,⟨⟨bU + 1,oU,_,_,_,_,_,by omega,(by rw [e1,st_le g1 g2]),hmU,rfl,rfl⟩,by omega⟩,⟨⟨.inl rfl,rfl,rfl,rfl⟩,⟨⟨rfl,rfl,rfl,rfl,fun _=>rfl,fun _ _=>.inl rfl⟩,⟨⟨rfl,rfl,rfl,rfl,fun _=>rfl,fun _ _=>.inl rfl⟩,⟨⟨rfl,rfl,rfl,rfl,fun _=>rfl,fun _ _=>.inl rfl⟩,⟨⟨rfl,rfl,rfl,rfl,fun _=>rfl,fun _ _=>.inl rfl⟩,⟨⟨rfl,rfl,rfl,rfl,fun _=>rfl,fun _ _=>.inl rfl⟩,⟨⟨rfl,rfl,rfl,rfl,fun _=>rfl,fun _ _=>.inl rfl⟩,⟨⟨rfl,rfl,rfl,rfl,fun _=>rfl,fun _ _=>.inl rfl⟩,⟨⟨rfl,rfl,rfl,rfl,fun _=>rfl,fun _ _=>.inl rfl⟩,⟨⟨rfl,rfl,rfl,rfl,fun _=>rfl,fun _ _=>.inl rfl⟩,⟨⟨rfl,rfl,rfl,rfl,fun _=>rfl,fun _ _=>.inl rfl⟩,⟨⟨rfl,rfl,rfl,rfl,fun _=>rfl,fun _ _=>.inl rfl⟩,⟨⟨rfl,rfl,rfl,rfl,fun _=>rfl,fun _ _=>.inl rfl⟩,⟨⟨rfl,rfl,rfl,rfl,fun _=>rfl,fun _ _=>.inl rfl⟩,⟨⟨rfl,rfl,rfl,rfl,fun _=>rfl,fun _ _=>.inl rfl⟩,⟨⟨rfl,rfl,rfl,rfl,fun _=>rfl,fun _ _=>.inl rfl⟩,⟨⟨rfl,rfl,rfl,rfl,fun _=>rfl,fun _ _=>.inl rfl⟩,⟨⟨rfl,rfl,rfl,rfl,fun _=>rfl,fun _ _=>.inl rfl⟩,⟨⟨rfl,rfl,rfl,rfl,fun _=>rfl,fun _ _=>.inl rfl⟩,⟨⟨rfl,rfl,rfl,rfl,fun _=>rfl,fun _ _=>.inl rfl⟩,trivial⟩⟩⟩⟩⟩⟩⟩⟩⟩⟩⟩⟩⟩⟩⟩⟩⟩⟩⟩,trivial⟩⟩
            ·exact absurd (g1.symm.trans w5) nofun
           ·(exfalso; omega)
         ·conv=>whnf
          conv=>whnf
          conv=>whnf
          conv=>whnf
          (conv=>whnf); refine ifB_dec (fun w4=>?_) (fun w4=>?_)
          ·conv=>whnf
           conv=>whnf
           conv=>whnf
           conv=>whnf
           (conv=>whnf); refine ⟨⟨(by omega),(by omega)⟩,?_⟩
           conv=>whnf
           conv=>whnf
           conv=>whnf
           conv=>whnf
           (conv=>whnf); refine ⟨⟨(by omega),(by omega)⟩,?_⟩
           conv=>whnf
           conv=>whnf
           conv=>whnf
           conv=>whnf
           (conv=>whnf); refine .inl ⟨_,_,byX rfl (Sound1.pl (c92) rfl),?_⟩
           conv=>whnf
           conv=>whnf
           conv=>whnf
           conv=>whnf
           (conv=>whnf); refine ifB_not ?_
           conv=>whnf
           conv=>whnf
           conv=>whnf
           conv=>whnf
           (conv=>whnf); refine ifB_intro (fun w5=>?_) (fun w5=>?_)
           ·(first | contradiction | omega)
           ·conv=>whnf
            conv=>whnf
            conv=>whnf
            conv=>whnf
            (conv=>whnf); refine ⟨inK64 (by omega) (by omega),?_⟩
            conv=>whnf
            conv=>whnf
            conv=>whnf
            conv=>whnf
            (conv=>whnf); refine ⟨_,_,⟨⟨bU + 1,some (PU.getD bU 0),_,_,_,_,_,by omega,(by rw [e1,st_none _ g1]),(fun m e=>by cases e; exact hps),rfl,rfl⟩,by omega⟩,⟨⟨.inl rfl,rfl,rfl,rfl⟩,⟨⟨rfl,rfl,rfl,rfl,fun _=>rfl,fun _ _=>.inl rfl⟩,⟨⟨rfl,rfl,rfl,rfl,fun _=>rfl,fun _ _=>.inl rfl⟩,⟨⟨rfl,rfl,rfl,rfl,fun _=>rfl,fun _ _=>.inl rfl⟩,⟨⟨rfl,rfl,rfl,rfl,fun _=>rfl,fun _ _=>.inl rfl⟩,⟨⟨rfl,rfl,rfl,rfl,fun _=>rfl,fun _ _=>.inl rfl⟩,⟨⟨rfl,rfl,rfl,rfl,fun _=>rfl,fun _ _=>.inl rfl⟩,⟨⟨rfl,rfl,rfl,rfl,fun _=>rfl,fun _ _=>.inl rfl⟩,⟨⟨rfl,rfl,rfl,rfl,fun _=>rfl,fun _ _=>.inl rfl⟩,⟨⟨rfl,rfl,rfl,rfl,fun _=>rfl,fun _ _=>.inl rfl⟩,⟨⟨rfl,rfl,rfl,rfl,fun _=>rfl,fun _ _=>.inl rfl⟩,⟨⟨rfl,rfl,rfl,rfl,fun _=>rfl,fun _ _=>.inl rfl⟩,⟨⟨rfl,rfl,rfl,rfl,fun _=>rfl,fun _ _=>.inl rfl⟩,⟨⟨rfl,rfl,rfl,rfl,fun _=>rfl,fun _ _=>.inl rfl⟩,⟨⟨rfl,rfl,rfl,rfl,fun _=>rfl,fun _ _=>.inl rfl⟩,⟨⟨rfl,rfl,rfl,rfl,fun _=>rfl,fun _ _=>.inl rfl⟩,⟨⟨rfl,rfl,rfl,rfl,fun _=>rfl,fun _ _=>.inl rfl⟩,⟨⟨rfl,rfl,rfl,rfl,fun _=>rfl,fun _ _=>.inl rfl⟩,⟨⟨rfl,rfl,rfl,rfl,fun _=>rfl,fun _ _=>.inl rfl⟩,⟨⟨rfl,rfl,rfl,rfl,fun _=>rfl,fun _ _=>.inl rfl⟩,trivial⟩⟩⟩⟩⟩⟩⟩⟩⟩⟩⟩⟩⟩⟩⟩⟩⟩⟩⟩,trivial⟩⟩
          ·(exfalso; omega)
        ·have heU := mp_end hoU (by omega)
         conv=>whnf
         conv=>whnf
         conv=>whnf
         conv=>whnf
         (conv=>whnf); refine ifB_dec (fun w4=>?_) (fun w4=>?_)
         ·(exfalso; omega)
         ·conv => whnf
          conv=>whnf
          conv=>whnf
          conv=>whnf
          (conv=>whnf); refine ⟨(by first | rfl | assumption),?_⟩
          conv=>whnf
          conv=>whnf
          conv=>whnf
          conv=>whnf
          (conv=>whnf); refine ⟨[],by kernel_rfl,?_⟩
          conv=>whnf
          conv=>whnf
          conv=>whnf
          conv=>whnf
          (conv=>whnf); refine ⟨⟨(by omega),(by omega)⟩,?_⟩
          conv=>whnf
          conv=>whnf
          conv=>whnf
          conv=>whnf
          (conv=>whnf); refine ⟨⟨(by omega),(by show _ * (32 + 1) ≤ _; omega)⟩,?_⟩
          conv=>whnf
          conv=>whnf
          conv=>whnf
          conv=>whnf
          (conv=>whnf); refine ⟨[.slot 11 4,.forget [2,6,11,12,13,16,17,18,19,20,21,22,23,24,25,26,27,28,29,30,31,34,35,36,37,38,39,40,41,42,43,44,45,46,47,48,49,50,51,52,53,54,55,56,57,58,59,60,61,62,63,64,65,66,67,68,69,70,71,72,73,74,75,76,77,79,80,81,82,83,84,85,86,87,88,89,90,91,96,99,100,101,102,103,104,105,106,107,108,109,110,111,112,113,114,115,116,117,118,119,121,122,123,124,125,126,127,128,129,130,131,132,133,134,135,136,137,138,139,140,141,142,143,144,145,146,147,148,149,150,151,152,153,154,155,156,157,158,159,160,161,162,163,164,165,166,167,168,169,170,171,172,173,174,175,176,177,178,179,180,181,182,183,184,185,186,187,188,189,190,191,192,193,194,195,196,197,198,199,200,201,202,203,204,205,206,207,208,209,210,211,212,213,214,215,216,217,218,219,220,221,222,223,224,225,226,227,228,229]],[39,38,37,11,3,4,5,7,8],fun st mq=>∃ (aD : Nat) (F4 : Nat → List AV) (F5 : Nat → List AV) (F15 : Nat → List AV) (F16 : Nat → List AV) (F17 : Nat → List AV) (F19 : Nat → List AV) (F20 : Nat → List AV),(aD ≤ 4) ∧ st = ⟨[(39,i64 aD),(38,i64 4),(37,.oslice 21 0 0 4 none),(11,.oslice 22 0 0 aD none),(3,.optr 1 0 0 0),(4,.optr 2 0 0 0),(5,.optr 3 0 0 0),(7,.optr 6 0 0 0),(8,.optr 7 0 0 0)],⟨[⟨1,1,fun _=>[rowsA t],0,false,true,true⟩,⟨1,1,fun _=>[i64 h],0,false,true,true⟩,⟨2,1,fun _=>[i64 0,i64 0],0,false,true,true⟩,⟨1,1,fun _=>[i64 0],0,false,true,true⟩,⟨1,1,F4,0,false,true,false⟩,⟨1,2,F5,0,false,true,false⟩,⟨2,1,fun _=>[i64 (frO oU).1,i64 (frO oU).2],0,false,true,true⟩,⟨1,1,fun _=>[vb oU.isSome],0,false,true,true⟩,⟨1,1,fun _=>[rowsA t],0,false,true,true⟩,⟨2,1,fun _=>[i64 (t.getD i r0).o,ptsA (t.getD i r0).ps],0,false,true,true⟩,⟨2,1,fun _=>[i64 (t.getD (i + 1) r0).o,ptsA (t.getD (i + 1) r0).ps],0,false,true,true⟩,⟨4,1,fun _=>[i64 (ptT t (i) (k)).1,i64 (ptT t (i) (k)).2.1,i64 (ptT t (i) (k)).2.2,i64 (t.getD (i) r0).o],0,false,true,true⟩,⟨4,1,fun _=>[i64 (ptT t (i) (k + 1)).1,i64 (ptT t (i) (k + 1)).2.1,i64 (ptT t (i) (k + 1)).2.2,i64 (t.getD (i) r0).o],0,false,true,true⟩,⟨4,1,fun _=>[i64 (ptT t (i + 1) (k)).1,i64 (ptT t (i + 1) (k)).2.1,i64 (ptT t (i + 1) (k)).2.2,i64 (t.getD (i + 1) r0).o],0,false,true,true⟩,⟨4,1,fun _=>[i64 (ptT t (i + 1) (k + 1)).1,i64 (ptT t (i + 1) (k + 1)).2.1,i64 (ptT t (i + 1) (k + 1)).2.2,i64 (t.getD (i + 1) r0).o],0,false,true,true⟩,⟨12,1,F15,0,false,true,false⟩,⟨4,1,F16,0,false,true,false⟩,⟨4,4,F17,0,false,true,false⟩,⟨4,aU,fun j=>nmC (AU.getD j n0),0,true,true,false⟩,⟨12,1,F19,0,false,true,false⟩,⟨4,1,F20,0,false,true,false⟩,⟨4,4,fun j=>[i64 (AD.getD j n0).1.1,i64 (AD.getD j n0).1.2.1,i64 (AD.getD j n0).1.2.2,i64 (crO (triD t i k) j)],0,false,true,false⟩,⟨4,aD,fun j=>nmC (AD.getD j n0),0,false,true,false⟩],[],none,1⟩,[(78,vb false),(78,vb false),(78,vb false),(78,vb false),(78,vb false),(78,vb false),(78,vb false),(78,vb false),(10,.optr 14 0 0 0),(9,.optr 13 0 0 0),(8,.optr 12 0 0 0),(7,.optr 11 0 0 0),(0,.yld 0),(1,.optr 8 0 0 0),(3,i64 i),(4,.optr 9 0 0 0),(5,.optr 10 0 0 0),(14,i64 ((t.length : Int) - 1)),(15,i64 i),(32,i64 (((t.getD i r0).ps.length : Int) - 1)),(33,i64 k),(92,.optr 0 0 0 0),(93,.optr 1 0 0 0),(94,.optr 2 0 0 0),(95,.optr 3 0 0 0),(97,.optr 6 0 0 0),(98,.optr 7 0 0 0),(120,.func (.func 65) 0 [.optr 8 0 0 0])]⟩ ∧ mq = 4 - aD,
           ⟨_,_,⟨0,_,_,_,_,_,_,_,by omega,rfl,rfl⟩,⟨⟨.inl rfl,rfl,rfl,rfl⟩,⟨⟨rfl,rfl,rfl,rfl,fun _=>rfl,fun _ _=>.inl rfl⟩,⟨⟨rfl,rfl,rfl,rfl,fun _=>rfl,fun _ _=>.inl rfl⟩,⟨⟨rfl,rfl,rfl,rfl,fun _=>rfl,fun _ _=>.inl rfl⟩,⟨⟨rfl,rfl,rfl,rfl,fun _=>rfl,fun _ _=>.inl rfl⟩,⟨⟨rfl,rfl,rfl,rfl,fun _=>rfl,fun _ _=>.inl rfl⟩,⟨⟨rfl,rfl,rfl,rfl,fun _=>rfl,fun _ _=>.inl rfl⟩,⟨⟨rfl,rfl,rfl,rfl,fun _=>rfl,fun _ _=>.inl rfl⟩,⟨⟨rfl,rfl,rfl,rfl,fun _=>rfl,fun _ _=>.inl rfl⟩,⟨⟨rfl,rfl,rfl,rfl,fun _=>rfl,fun _ _=>.inl rfl⟩,⟨⟨rfl,rfl,rfl,rfl,fun _=>rfl,fun _ _=>.inl rfl⟩,⟨⟨rfl,rfl,rfl,rfl,fun _=>rfl,fun _ _=>.inl rfl⟩,⟨⟨rfl,rfl,rfl,rfl,fun _=>rfl,fun _ _=>.inl rfl⟩,⟨⟨rfl,rfl,rfl,rfl,fun _=>rfl,fun _ _=>.inl rfl⟩,⟨⟨rfl,rfl,rfl,rfl,fun _=>rfl,fun _ _=>.inl rfl⟩,⟨⟨rfl,rfl,rfl,rfl,fun _=>rfl,fun _ _=>.inl rfl⟩,⟨⟨rfl,rfl,rfl,rfl,fun _=>rfl,fun _ _=>.inl rfl⟩,⟨⟨rfl,rfl,rfl,rfl,fun _=>rfl,fun _ _=>.inl rfl⟩,⟨⟨rfl,rfl,rfl,rfl,fun _=>rfl,fun _ _=>.inl rfl⟩,⟨⟨rfl,rfl,rfl,rfl,fun _=>rfl,fun _ _=>.inl rfl⟩,⟨⟨rfl,rfl,rfl,rfl,fun _=>rfl,fun _ _=>.inl rfl⟩,⟨⟨rfl,rfl,rfl,rfl,fun _=>rfl,fun _ _=>.inl rfl⟩,⟨⟨rfl,rfl,rfl,rfl,fun _=>rfl,fun i hi=>.inl (crn4 hAD (by rfl) (by rfl) (by rfl) (by rfl) i hi)⟩,⟨⟨rfl,rfl,rfl,rfl,fun _=>rfl,fun i h=>.inl (absurd h (Nat.not_lt_zero i))⟩,trivial⟩⟩⟩⟩⟩⟩⟩⟩⟩⟩⟩⟩⟩⟩⟩⟩⟩⟩⟩⟩⟩⟩⟩,trivial⟩⟩,?_⟩
          rintro s0 m0 ⟨aD,F4,F5,F15,F16,F17,F19,F20,haD,rfl,hmeas⟩
          by_cases hltD : aD < 4
          ·have c101 := S43 (AD.getD aD n0).1
           conv=>whnf
           conv=>whnf
           conv=>whnf
           conv=>whnf
           conv=>whnf
           (conv=>whnf); refine ifB_dec (fun w5=>?_) (fun w5=>?_)
           ·conv=>whnf
            conv=>whnf
            conv=>whnf
            conv=>whnf
            conv=>whnf
            (conv=>whnf); refine ⟨⟨(by omega),(by omega)⟩,?_⟩
            conv=>whnf
            conv=>whnf
            conv=>whnf
            conv=>whnf
            conv=>whnf
            (conv=>whnf); refine .inl ⟨_,_,byX rfl (Sound1.pl (S43 _) rfl),?_⟩
            conv=>whnf
            conv=>whnf
            conv=>whnf
            conv=>whnf
            conv=>whnf
            (conv=>whnf); refine .inl ?_
            conv=>whnf
            conv=>whnf
            conv=>whnf
            conv=>whnf
            conv=>whnf
            (conv=>whnf); refine ⟨(by show _ * (32 + 1) ≤ _; omega),?_⟩
            conv=>whnf
            conv=>whnf
            conv=>whnf
            conv=>whnf
            conv=>whnf
            (conv=>whnf); refine ⟨inK64 (by omega) (by omega),?_⟩
            conv=>whnf
            conv=>whnf
            conv=>whnf
            conv=>whnf
            conv=>whnf
            (conv=>whnf); refine ⟨_,_,⟨⟨aD + 1,_,_,_,_,_,_,_,by omega,rfl,rfl⟩,by omega⟩,⟨⟨.inl rfl,rfl,rfl,rfl⟩,⟨⟨rfl,rfl,rfl,rfl,fun _=>rfl,fun _ _=>.inl rfl⟩,⟨⟨rfl,rfl,rfl,rfl,fun _=>rfl,fun _ _=>.inl rfl⟩,⟨⟨rfl,rfl,rfl,rfl,fun _=>rfl,fun _ _=>.inl rfl⟩,⟨⟨rfl,rfl,rfl,rfl,fun _=>rfl,fun _ _=>.inl rfl⟩,⟨⟨rfl,rfl,rfl,rfl,fun _=>rfl,fun _ _=>.inl rfl⟩,⟨⟨rfl,rfl,rfl,rfl,fun _=>rfl,fun _ _=>.inl rfl⟩,⟨⟨rfl,rfl,rfl,rfl,fun _=>rfl,fun _ _=>.inl rfl⟩,⟨⟨rfl,rfl,rfl,rfl,fun _=>rfl,fun _ _=>.inl rfl⟩,⟨⟨rfl,rfl,rfl,rfl,fun _=>rfl,fun _ _=>.inl rfl⟩,⟨⟨rfl,rfl,rfl,rfl,fun _=>rfl,fun _ _=>.inl rfl⟩,⟨⟨rfl,rfl,rfl,rfl,fun _=>rfl,fun _ _=>.inl rfl⟩,⟨⟨rfl,rfl,rfl,rfl,fun _=>rfl,fun _ _=>.inl rfl⟩,⟨⟨rfl,rfl,rfl,rfl,fun _=>rfl,fun _ _=>.inl rfl⟩,⟨⟨rfl,rfl,rfl,rfl,fun _=>rfl,fun _ _=>.inl rfl⟩,⟨⟨rfl,rfl,rfl,rfl,fun _=>rfl,fun _ _=>.inl rfl⟩,⟨⟨rfl,rfl,rfl,rfl,fun _=>rfl,fun _ _=>.inl rfl⟩,⟨⟨rfl,rfl,rfl,rfl,fun _=>rfl,fun _ _=>.inl rfl⟩,⟨⟨rfl,rfl,rfl,rfl,fun _=>rfl,fun _ _=>.inl rfl⟩,⟨⟨rfl,rfl,rfl,rfl,fun _=>rfl,fun _ _=>.inl rfl⟩,⟨⟨rfl,rfl,rfl,rfl,fun _=>rfl,fun _ _=>.inl rfl⟩,⟨⟨rfl,rfl,rfl,rfl,fun _=>rfl,fun _ _=>.inl rfl⟩,⟨⟨rfl,rfl,rfl,rfl,fun _=>rfl,fun _ _=>.inl rfl⟩,⟨⟨rfl,rfl,rfl,rfl,fun _=>rfl,fun i hi=>.inl (extE nmC (m := 4) (fun _=>rfl) (fun i=>AD.getD i n0) aD i hi _ (arn_row hAD hltD (Nat.zero_add aD)))⟩,trivial⟩⟩⟩⟩⟩⟩⟩⟩⟩⟩⟩⟩⟩⟩⟩⟩⟩⟩⟩⟩⟩⟩⟩,trivial⟩⟩
           ·(exfalso; omega)
          ·have h90 := h90D aD (by omega)
           conv=>whnf
           conv=>whnf
           conv=>whnf
           conv=>whnf
           conv=>whnf
           (conv=>whnf); refine ifB_dec (fun w5=>?_) (fun w5=>?_)
           ·(exfalso; omega)
           ·conv => whnf
            conv=>whnf
            conv=>whnf
            conv=>whnf
            conv=>whnf
            (conv=>whnf); refine .inl ⟨_,_,byX rfl (Sound1.pl (h91) rfl),?_⟩
            conv=>whnf
            conv=>whnf
            conv=>whnf
            conv=>whnf
            conv=>whnf
            (conv=>whnf); refine .inl ⟨_,_,byX rfl (h90),?_⟩
            conv=>whnf
            conv=>whnf
            conv=>whnf
            conv=>whnf
            conv=>whnf
            (conv=>whnf); refine ⟨[],[56,55,54,3,4,5,7,8],fun st mq=>∃ (bD : Nat) (oD : Option Rat) (F4 : Nat → List AV) (F5 : Nat → List AV) (F15 : Nat → List AV) (F16 : Nat → List AV) (F17 : Nat → List AV) (F19 : Nat → List AV) (F20 : Nat → List AV) (F21 : Nat → List AV),(bD ≤ LD.length) ∧ (oD = mxO oU (PD.take bD)) ∧ (∀ m,oD = some m → smR m) ∧ st = ⟨[(56,i64 bD),(55,i64 LD.length),(54,nms LD),(3,.optr 1 0 0 0),(4,.optr 2 0 0 0),(5,.optr 3 0 0 0),(7,.optr 6 0 0 0),(8,.optr 7 0 0 0)],⟨[⟨1,1,fun _=>[rowsA t],0,false,true,true⟩,⟨1,1,fun _=>[i64 h],0,false,true,true⟩,⟨2,1,fun _=>[i64 0,i64 0],0,false,true,true⟩,⟨1,1,fun _=>[i64 0],0,false,true,true⟩,⟨1,1,F4,0,false,true,false⟩,⟨1,2,F5,0,false,true,false⟩,⟨2,1,fun _=>[i64 (frO oD).1,i64 (frO oD).2],0,false,true,true⟩,⟨1,1,fun _=>[vb oD.isSome],0,false,true,true⟩,⟨1,1,fun _=>[rowsA t],0,false,true,true⟩,⟨2,1,fun _=>[i64 (t.getD i r0).o,ptsA (t.getD i r0).ps],0,false,true,true⟩,⟨2,1,fun _=>[i64 (t.getD (i + 1) r0).o,ptsA (t.getD (i + 1) r0).ps],0,false,true,true⟩,⟨4,1,fun _=>[i64 (ptT t (i) (k)).1,i64 (ptT t (i) (k)).2.1,i64 (ptT t (i) (k)).2.2,i64 (t.getD (i) r0).o],0,false,true,true⟩,⟨4,1,fun _=>[i64 (ptT t (i) (k + 1)).1,i64 (ptT t (i) (k + 1)).2.1,i64 (ptT t (i) (k + 1)).2.2,i64 (t.getD (i) r0).o],0,false,true,true⟩,⟨4,1,fun _=>[i64 (ptT t (i + 1) (k)).1,i64 (ptT t (i + 1) (k)).2.1,i64 (ptT t (i + 1) (k)).2.2,i64 (t.getD (i + 1) r0).o],0,false,true,true⟩,⟨4,1,fun _=>[i64 (ptT t (i + 1) (k + 1)).1,i64 (ptT t (i + 1) (k + 1)).2.1,i64 (ptT t (i + 1) (k + 1)).2.2,i64 (t.getD (i + 1) r0).o],0,false,true,true⟩,⟨12,1,F15,0,false,true,false⟩,⟨4,1,F16,0,false,true,false⟩,⟨4,4,F17,0,false,true,false⟩,⟨4,aU,fun j=>nmC (AU.getD j n0),0,true,true,false⟩,⟨12,1,F19,0,false,true,false⟩,⟨4,1,F20,0,false,true,false⟩,⟨4,4,F21,0,false,true,false⟩,⟨4,aD,fun j=>nmC (AD.getD j n0),0,true,true,false⟩],[],none,1⟩,[(78,vb false),(78,vb false),(78,vb false),(78,vb false),(78,vb false),(78,vb false),(78,vb false),(78,vb false),(10,.optr 14 0 0 0),(9,.optr 13 0 0 0),(8,.optr 12 0 0 0),(7,.optr 11 0 0 0),(0,.yld 0),(1,.optr 8 0 0 0),(3,i64 i),(4,.optr 9 0 0 0),(5,.optr 10 0 0 0),(14,i64 ((t.length : Int) - 1)),(15,i64 i),(32,i64 (((t.getD i r0).ps.length : Int) - 1)),(33,i64 k),(92,.optr 0 0 0 0),(93,.optr 1 0 0 0),(94,.optr 2 0 0 0),(95,.optr 3 0 0 0),(97,.optr 6 0 0 0),(98,.optr 7 0 0 0),(120,.func (.func 65) 0 [.optr 8 0 0 0])]⟩ ∧ mq = LD.length - bD,
             ⟨_,_,⟨0,oU,_,_,_,_,_,_,_,_,by omega,rfl,hmU,rfl,rfl⟩,⟨⟨.inl rfl,rfl,rfl,rfl⟩,⟨⟨rfl,rfl,rfl,rfl,fun _=>rfl,fun _ _=>.inl rfl⟩,⟨⟨rfl,rfl,rfl,rfl,fun _=>rfl,fun _ _=>.inl rfl⟩,⟨⟨rfl,rfl,rfl,rfl,fun _=>rfl,fun _ _=>.inl rfl⟩,⟨⟨rfl,rfl,rfl,rfl,fun _=>rfl,fun _ _=>.inl rfl⟩,⟨⟨rfl,rfl,rfl,rfl,fun _=>rfl,fun _ _=>.inl rfl⟩,⟨⟨rfl,rfl,rfl,rfl,fun _=>rfl,fun _ _=>.inl rfl⟩,⟨⟨rfl,rfl,rfl,rfl,fun _=>rfl,fun _ _=>.inl rfl⟩,⟨⟨rfl,rfl,rfl,rfl,fun _=>rfl,fun _ _=>.inl rfl⟩,⟨⟨rfl,rfl,rfl,rfl,fun _=>rfl,fun _ _=>.inl rfl⟩,⟨⟨rfl,rfl,rfl,rfl,fun _=>rfl,fun _ _=>.inl rfl⟩,⟨⟨rfl,rfl,rfl,rfl,fun _=>rfl,fun _ _=>.inl rfl⟩,⟨⟨rfl,rfl,rfl,rfl,fun _=>rfl,fun _ _=>.inl rfl⟩,⟨⟨rfl,rfl,rfl,rfl,fun _=>rfl,fun _ _=>.inl rfl⟩,⟨⟨rfl,rfl,rfl,rfl,fun _=>rfl,fun _ _=>.inl rfl⟩,⟨⟨rfl,rfl,rfl,rfl,fun _=>rfl,fun _ _=>.inl rfl⟩,⟨⟨rfl,rfl,rfl,rfl,fun _=>rfl,fun _ _=>.inl rfl⟩,⟨⟨rfl,rfl,rfl,rfl,fun _=>rfl,fun _ _=>.inl rfl⟩,⟨⟨rfl,rfl,rfl,rfl,fun _=>rfl,fun _ _=>.inl rfl⟩,⟨⟨rfl,rfl,rfl,rfl,fun _=>rfl,fun _ _=>.inl rfl⟩,⟨⟨rfl,rfl,rfl,rfl,fun _=>rfl,fun _ _=>.inl rfl⟩,⟨⟨rfl,rfl,rfl,rfl,fun _=>rfl,fun _ _=>.inl rfl⟩,⟨⟨rfl,rfl,rfl,rfl,fun _=>rfl,fun _ _=>.inl rfl⟩,⟨⟨rfl,rfl,rfl,rfl,fun _=>rfl,fun _ _=>.inl rfl⟩,trivial⟩⟩⟩⟩⟩⟩⟩⟩⟩⟩⟩⟩⟩⟩⟩⟩⟩⟩⟩⟩⟩⟩⟩,trivial⟩⟩,?_⟩
            rintro s0 m0 ⟨bD,oD,F4,F5,F15,F16,F17,F19,F20,F21,hbD,hoD,hmD,rfl,hmeas⟩
            by_cases hlD : bD < LD.length
            ·have c92 := h92D bD hlD
             have hps := hPsD bD hlD
             have e1 : mxO oU (PD.take (bD + 1)) = stO oD (PD.getD bD 0) := by rw [mxO_take _ _ _ (by omega),← hoD]
             by_cases g1 : oD.isSome = true
             ·have c94 := c94_o g1 hmD hps
              by_cases g2 : 0 < cmpR (PD.getD bD 0) (oD.getD 0)
              ·conv=>whnf
               conv=>whnf
               conv=>whnf
               conv=>whnf
               conv=>whnf
               conv=>whnf
               (conv=>whnf); refine ifB_dec (fun w6=>?_) (fun w6=>?_)
               ·conv=>whnf
                conv=>whnf
                conv=>whnf
                conv=>whnf
                conv=>whnf
                conv=>whnf
                (conv=>whnf); refine ⟨⟨(by omega),(by omega)⟩,?_⟩
                conv=>whnf
                conv=>whnf
                conv=>whnf
                conv=>whnf
                conv=>whnf
                conv=>whnf
                (conv=>whnf); refine ⟨⟨(by omega),(by omega)⟩,?_⟩
                conv=>whnf
                conv=>whnf
                conv=>whnf
                conv=>whnf
                conv=>whnf
                conv=>whnf
                (conv=>whnf); refine .inl ⟨_,_,byX rfl (Sound1.pl (c92) rfl),?_⟩
                conv=>whnf
                conv=>whnf
                conv=>whnf
                conv=>whnf
                conv=>whnf
                conv=>whnf
                (conv=>whnf); refine ifB_not ?_
                conv=>whnf
                conv=>whnf
                conv=>whnf
                conv=>whnf
                conv=>whnf
                conv=>whnf
                (conv=>whnf); refine ifB_intro (fun w7=>?_) (fun w7=>?_)
                ·conv=>whnf
                 conv=>whnf
                 conv=>whnf
                 conv=>whnf
                 conv=>whnf
                 conv=>whnf
                 (conv=>whnf); refine .inl ⟨_,_,byX rfl (Sound1.pl (c94) rfl),?_⟩
                 conv=>whnf
                 conv=>whnf
                 conv=>whnf
                 conv=>whnf
                 conv=>whnf
                 conv=>whnf
                 (conv=>whnf); refine ifB_dec (fun w8=>?_) (fun w8=>?_)
                 ·conv=>whnf
                  conv=>whnf
                  conv=>whnf
                  conv=>whnf
                  conv=>whnf
                  conv=>whnf
                  (conv=>whnf); refine ⟨inK64 (by omega) (by omega),?_⟩
                  conv=>whnf
                  conv=>whnf
                  conv=>whnf
                  conv=>whnf
                  conv=>whnf
                  conv=>whnf
                  (conv=>whnf); refine ⟨_,_,⟨⟨bD + 1,some (PD.getD bD 0),_,_,_,_,_,_,_,_,by omega,(by rw [e1,st_gt g1 g2]),(fun m e=>by cases e; exact hps),rfl,rfl⟩,by omega⟩,⟨⟨.inl rfl,rfl,rfl,rfl⟩,⟨⟨rfl,rfl,rfl,rfl,fun _=>rfl,fun _ _=>.inl rfl⟩,⟨⟨rfl,rfl,rfl,rfl,fun _=>rfl,fun _ _=>.inl rfl⟩,⟨⟨rfl,rfl,rfl,rfl,fun _=>rfl,fun _ _=>.inl rfl⟩,⟨⟨rfl,rfl,rfl,rfl,fun _=>rfl,fun _ _=>.inl rfl⟩,⟨⟨rfl,rfl,rfl,rfl,fun _=>rfl,fun _ _=>.inl rfl⟩,⟨⟨rfl,rfl,rfl,rfl,fun _=>rfl,fun _ _=>.inl rfl⟩,⟨⟨rfl,rfl,rfl,rfl,fun _=>rfl,fun _ _=>.inl rfl⟩,⟨⟨rfl,rfl,rfl,rfl,fun _=>rfl,fun _ _=>.inl rfl⟩,⟨⟨rfl,rfl,rfl,rfl,fun _=>rfl,fun _ _=>.inl rfl⟩,⟨⟨rfl,rfl,rfl,rfl,fun _=>rfl,fun _ _=>.inl rfl⟩,⟨⟨rfl,rfl,rfl,rfl,fun _=>rfl,fun _ _=>.inl rfl⟩,⟨⟨rfl,rfl,rfl,rfl,fun _=>rfl,fun _ _=>.inl rfl⟩,⟨⟨rfl,rfl,rfl,rfl,fun _=>rfl,fun _ _=>.inl rfl⟩,⟨⟨rfl,rfl,rfl,rfl,fun _=>rfl,fun _ _=>.inl rfl⟩,⟨⟨rfl,rfl,rfl,rfl,fun _=>rfl,fun _ _=>.inl rfl⟩,⟨⟨rfl,rfl,rfl,rfl,fun _=>rfl,fun _ _=>.inl rfl⟩,⟨⟨rfl,rfl,rfl,rfl,fun _=>rfl,fun _ _=>.inl rfl⟩,⟨⟨rfl,rfl,rfl,rfl,fun _=>rfl,fun _ _=>.inl rfl⟩,⟨⟨rfl,rfl,rfl,rfl,fun _=>rfl,fun _ _=>.inl rfl⟩,⟨⟨rfl,rfl,rfl,rfl,fun _=>rfl,fun _ _=>.inl rfl⟩,⟨⟨rfl,rfl,rfl,rfl,fun _=>rfl,fun _ _=>.inl rfl⟩,⟨⟨rfl,rfl,rfl,rfl,fun _=>rfl,fun _ _=>.inl rfl⟩,⟨⟨rfl,rfl,rfl,rfl,fun _=>rfl,fun _ _=>.inl rfl⟩,trivial⟩⟩⟩⟩⟩⟩⟩⟩⟩⟩⟩⟩⟩⟩⟩⟩⟩⟩⟩⟩⟩⟩⟩,trivial⟩⟩
                 ·(exfalso; omega)
                ·exact absurd (g1.symm.trans w7) nofun
               ·(exfalso; omega)
              ·conv=>whnf
               conv=>whnf
               conv=>whnf
               conv=>whnf
               conv=>whnf
               conv=>whnf
               (conv=>whnf); refine ifB_dec (fun w6=>?_) (fun w6=>?_)
               ·conv=>whnf
                conv=>whnf
                conv=>whnf
                conv=>whnf
                conv=>whnf
                conv=>whnf
                (conv=>whnf); refine ⟨⟨(by omega),(by omega)⟩,?_⟩
                conv=>whnf
                conv=>whnf
                conv=>whnf
                conv=>whnf
                conv=>whnf
                conv=>whnf
                (conv=>whnf); refine ⟨⟨(by omega),(by omega)⟩,?_⟩
                conv=>whnf
                conv=>whnf
                conv=>whnf
                conv=>whnf
                conv=>whnf
                conv=>whnf
                (conv=>whnf); refine .inl ⟨_,_,byX rfl (Sound1.pl (c92) rfl),?_⟩
                conv=>whnf
                conv=>whnf
                conv=>whnf
                conv=>whnf
                conv=>whnf
                conv=>whnf
                (conv=>whnf); refine ifB_not ?_
                conv=>whnf
                conv=>whnf
                conv=>whnf
                conv=>whnf
                conv=>whnf
                conv=>whnf
                (conv=>whnf); refine ifB_intro (fun w7=>?_) (fun w7=>?_)
                ·conv=>whnf
                 conv=>whnf
                 conv=>whnf
                 conv=>whnf
                 conv=>whnf
                 conv=>whnf
                 (conv=>whnf); refine .inl ⟨_,_,byX rfl (Sound1.pl (c94) rfl),?_⟩
                 conv=>whnf
                 conv=>whnf
                 conv=>whnf
                 conv=>whnf
                 conv=>whnf
                 conv=>whnf
                 (conv=>whnf); refine ifB_dec (fun w8=>?_) (fun w8=>?_)
                 ·(exfalso; omega)
                 ·conv=>whnf
                  conv=>whnf
                  conv=>whnf
                  conv=>whnf
                  conv=>whnf
                  conv=>whnf
                  (conv=>whnf); refine ⟨inK64 (by omega) (by omega),?_⟩
                  conv=>whnf
                  conv=>whnf
                  conv=>whnf
                  conv=>whnf
                  conv=>whnf
                  conv=>whnf
                  (conv=>whnf); refine ⟨_,_,⟨⟨bD + 1,oD,_,_,_,_,_,_,_,_,by omega,(by rw [e1,st_le g1 g2]),hmD,rfl,rfl⟩,by omega⟩,⟨⟨.inl rfl,rfl,rfl,rfl⟩,⟨⟨rfl,rfl,rfl,rfl,fun _=>rfl,fun _ _=>.inl rfl⟩,⟨⟨rfl,rfl,rfl,rfl,fun _=>rfl,fun _ _=>.inl rfl⟩,⟨⟨rfl,rfl,rfl,rfl,fun _=>rfl,fun _ _=>.inl rfl⟩,⟨⟨rfl,rfl,rfl,rfl,fun _=>rfl,fun _ _=>.inl rfl⟩,⟨⟨rfl,rfl,rfl,rfl,fun _=>rfl,fun _ _=>.inl rfl⟩,⟨⟨rfl,rfl,rfl,rfl,fun _=>rfl,fun _ _=>.inl rfl⟩,⟨⟨rfl,rfl,rfl,rfl,fun _=>rfl,fun _ _=>.inl rfl⟩,⟨⟨rfl,rfl,rfl,rfl,fun _=>rfl,fun _ _=>.inl rfl⟩,⟨⟨rfl,rfl,rfl,rfl,fun _=>rfl,fun _ _=>.inl rfl⟩,⟨⟨rfl,rfl,rfl,rfl,fun _=>rfl,fun _ _=>.inl rfl⟩,⟨⟨rfl,rfl,rfl,rfl,fun _=>rfl,fun _ _=>.inl rfl⟩,⟨⟨rfl,rfl,rfl,rfl,fun _=>rfl,fun _ _=>.inl rfl⟩,⟨⟨rfl,rfl,rfl,rfl,fun _=>rfl,fun _ _=>.inl rfl⟩,⟨⟨rfl,rfl,rfl,rfl,fun _=>rfl,fun _ _=>.inl rfl⟩,⟨⟨rfl,rfl,rfl,rfl,fun _=>rfl,fun _ _=>.inl rfl⟩,⟨⟨rfl,rfl,rfl,rfl,fun _=>rfl,fun _ _=>.inl rfl⟩,⟨⟨rfl,rfl,rfl,rfl,fun _=>rfl,fun _ _=>.inl rfl⟩,⟨⟨rfl,rfl,rfl,rfl,fun _=>rfl,fun _ _=>.inl rfl⟩,⟨⟨rfl,rfl,rfl,rfl,fun _=>rfl,fun _ _=>.inl rfl⟩,⟨⟨rfl,rfl,rfl,rfl,fun _=>rfl,fun _ _=>.inl rfl⟩,⟨⟨rfl,rfl,rfl,rfl,fun _=>rfl,fun _ _=>.inl rfl⟩,⟨⟨rfl,rfl,rfl,rfl,fun _=>rfl,fun _ _=>.inl rfl⟩,⟨⟨rfl,rfl,rfl,rfl,fun _=>rfl,fun _ _=>.inl rfl⟩,trivial⟩⟩⟩⟩⟩⟩⟩⟩⟩⟩⟩⟩⟩⟩⟩⟩⟩⟩⟩⟩⟩⟩⟩,trivial⟩⟩
                ·exact absurd (g1.symm.trans w7) nofun
               ·(exfalso; omega)
             ·conv=>whnf
              conv=>whnf
              conv=>whnf
              conv=>whnf
              conv=>whnf
              conv=>whnf
              (conv=>whnf); refine ifB_dec (fun w6=>?_) (fun w6=>?_)
              ·conv=>whnf
               conv=>whnf
               conv=>whnf
               conv=>whnf
               conv=>whnf
               conv=>whnf
               (conv=>whnf); refine ⟨⟨(by omega),(by omega)⟩,?_⟩
               conv=>whnf
               conv=>whnf
               conv=>whnf
               conv=>whnf
               conv=>whnf
               conv=>whnf
               (conv=>whnf); refine ⟨⟨(by omega),(by omega)⟩,?_⟩
               conv=>whnf
               conv=>whnf
               conv=>whnf
               conv=>whnf
               conv=>whnf
               conv=>whnf
               (conv=>whnf); refine .inl ⟨_,_,byX rfl (Sound1.pl (c92) rfl),?_⟩
               conv=>whnf
               conv=>whnf
               conv=>whnf
               conv=>whnf
               conv=>whnf
               conv=>whnf
               (conv=>whnf); refine ifB_not ?_
               conv=>whnf
               conv=>whnf
               conv=>whnf
               conv=>whnf
               conv=>whnf
               conv=>whnf
               (conv=>whnf); refine ifB_intro (fun w7=>?_) (fun w7=>?_)
               ·(first | contradiction | omega)
               ·conv=>whnf
                conv=>whnf
                conv=>whnf
                conv=>whnf
                conv=>whnf
                conv=>whnf
                (conv=>whnf); refine ⟨inK64 (by omega) (by omega),?_⟩
                conv=>whnf
                conv=>whnf
                conv=>whnf
                conv=>whnf
                conv=>whnf
                conv=>whnf
                (conv=>whnf); refine ⟨_,_,⟨⟨bD + 1,some (PD.getD bD 0),_,_,_,_,_,_,_,_,by omega,(by rw [e1,st_none _ g1]),(fun m e=>by cases e; exact hps),rfl,rfl⟩,by omega⟩,⟨⟨.inl rfl,rfl,rfl,rfl⟩,⟨⟨rfl,rfl,rfl,rfl,fun _=>rfl,fun _ _=>.inl rfl⟩,⟨⟨rfl,rfl,rfl,rfl,fun _=>rfl,fun _ _=>.inl rfl⟩,⟨⟨rfl,rfl,rfl,rfl,fun _=>rfl,fun _ _=>.inl rfl⟩,⟨⟨rfl,rfl,rfl,rfl,fun _=>rfl,fun _ _=>.inl rfl⟩,⟨⟨rfl,rfl,rfl,rfl,fun _=>rfl,fun _ _=>.inl rfl⟩,⟨⟨rfl,rfl,rfl,rfl,fun _=>rfl,fun _ _=>.inl rfl⟩,⟨⟨rfl,rfl,rfl,rfl,fun _=>rfl,fun _ _=>.inl rfl⟩,⟨⟨rfl,rfl,rfl,rfl,fun _=>rfl,fun _ _=>.inl rfl⟩,⟨⟨rfl,rfl,rfl,rfl,fun _=>rfl,fun _ _=>.inl rfl⟩,⟨⟨rfl,rfl,rfl,rfl,fun _=>rfl,fun _ _=>.inl rfl⟩,⟨⟨rfl,rfl,rfl,rfl,fun _=>rfl,fun _ _=>.inl rfl⟩,⟨⟨rfl,rfl,rfl,rfl,fun _=>rfl,fun _ _=>.inl rfl⟩,⟨⟨rfl,rfl,rfl,rfl,fun _=>rfl,fun _ _=>.inl rfl⟩,⟨⟨rfl,rfl,rfl,rfl,fun _=>rfl,fun _ _=>.inl rfl⟩,⟨⟨rfl,rfl,rfl,rfl,fun _=>rfl,fun _ _=>.inl rfl⟩,⟨⟨rfl,rfl,rfl,rfl,fun _=>rfl,fun _ _=>.inl rfl⟩,⟨⟨rfl,rfl,rfl,rfl,fun _=>rfl,fun _ _=>.inl rfl⟩,⟨⟨rfl,rfl,rfl,rfl,fun _=>rfl,fun _ _=>.inl rfl⟩,⟨⟨rfl,rfl,rfl,rfl,fun _=>rfl,fun _ _=>.inl rfl⟩,⟨⟨rfl,rfl,rfl,rfl,fun _=>rfl,fun _ _=>.inl rfl⟩,⟨⟨rfl,rfl,rfl,rfl,fun _=>rfl,fun _ _=>.inl rfl⟩,⟨⟨rfl,rfl,rfl,rfl,fun _=>rfl,fun _ _=>.inl rfl⟩,⟨⟨rfl,rfl,rfl,rfl,fun _=>rfl,fun _ _=>.inl rfl⟩,trivial⟩⟩⟩⟩⟩⟩⟩⟩⟩⟩⟩⟩⟩⟩⟩⟩⟩⟩⟩⟩⟩⟩⟩,trivial⟩⟩
              ·(exfalso; omega)
            ·have heD := mp_end hoD (by omega)
             conv=>whnf
             conv=>whnf
             conv=>whnf
             conv=>whnf
             conv=>whnf
             conv=>whnf
             (conv=>whnf); refine ifB_dec (fun w6=>?_) (fun w6=>?_)
             ·(exfalso; omega)
             ·conv=>whnf
              conv=>whnf
              conv=>whnf
              conv=>whnf
              conv=>whnf
              conv=>whnf
              (conv=>whnf); refine ⟨inK64 (by omega) (by omega),?_⟩
              conv=>whnf
              conv=>whnf
              conv=>whnf
              conv=>whnf
              conv=>whnf
              conv=>whnf
              (conv=>whnf); refine ⟨_,_,⟨⟨k + 1,oD,_,_,by omega,mp_step ho hPU hPD heU heD,hmD,rfl,rfl⟩,by omega⟩,⟨⟨.inl rfl,rfl,rfl,rfl⟩,⟨⟨rfl,rfl,rfl,rfl,fun _=>rfl,fun _ _=>.inl rfl⟩,⟨⟨rfl,rfl,rfl,rfl,fun _=>rfl,fun _ _=>.inl rfl⟩,⟨⟨rfl,rfl,rfl,rfl,fun _=>rfl,fun _ _=>.inl rfl⟩,⟨⟨rfl,rfl,rfl,rfl,fun _=>rfl,fun _ _=>.inl rfl⟩,⟨⟨rfl,rfl,rfl,rfl,fun _=>rfl,fun _ _=>.inl rfl⟩,⟨⟨rfl,rfl,rfl,rfl,fun _=>rfl,fun _ _=>.inl rfl⟩,⟨⟨rfl,rfl,rfl,rfl,fun _=>rfl,fun _ _=>.inl rfl⟩,⟨⟨rfl,rfl,rfl,rfl,fun _=>rfl,fun _ _=>.inl rfl⟩,⟨⟨rfl,rfl,rfl,rfl,fun _=>rfl,fun _ _=>.inl rfl⟩,⟨⟨rfl,rfl,rfl,rfl,fun _=>rfl,fun _ _=>.inl rfl⟩,⟨⟨rfl,rfl,rfl,rfl,fun _=>rfl,fun _ _=>.inl rfl⟩,trivial⟩⟩⟩⟩⟩⟩⟩⟩⟩⟩⟩,trivial⟩⟩
     ·(exfalso; omega)
    ·conv=>whnf
     conv=>whnf
     (conv=>whnf); refine ifB_dec (fun w2=>?_) (fun w2=>?_)
     ·(exfalso; omega)
     ·conv=>whnf
      conv=>whnf
      (conv=>whnf); refine ⟨inK64 (by omega) (by omega),?_⟩
      conv=>whnf
      conv=>whnf
      (conv=>whnf); refine ⟨_,_,⟨⟨i + 1,o,_,_,by omega,(by rw [ho,show k = npT t - 1 by omega]; rfl),hom,rfl,rfl⟩,by omega⟩,⟨⟨.inl rfl,rfl,rfl,rfl⟩,⟨⟨rfl,rfl,rfl,rfl,fun _=>rfl,fun _ _=>.inl rfl⟩,⟨⟨rfl,rfl,rfl,rfl,fun _=>rfl,fun _ _=>.inl rfl⟩,⟨⟨rfl,rfl,rfl,rfl,fun _=>rfl,fun _ _=>.inl rfl⟩,⟨⟨rfl,rfl,rfl,rfl,fun _=>rfl,fun _ _=>.inl rfl⟩,⟨⟨rfl,rfl,rfl,rfl,fun _=>rfl,fun _ _=>.inl rfl⟩,⟨⟨rfl,rfl,rfl,rfl,fun _=>rfl,fun _ _=>.inl rfl⟩,⟨⟨rfl,rfl,rfl,rfl,fun _=>rfl,fun _ _=>.inl rfl⟩,⟨⟨rfl,rfl,rfl,rfl,fun _=>rfl,fun _ _=>.inl rfl⟩,⟨⟨rfl,rfl,rfl,rfl,fun _=>rfl,fun _ _=>.inl rfl⟩,trivial⟩⟩⟩⟩⟩⟩⟩⟩⟩,trivial⟩⟩
   ·(exfalso; omega)
  ·have e : o = mpO t h := by rw [ho,show i = t.length - 1 by omega]; rfl
   conv=>whnf
   (conv=>whnf); refine ifB_dec (fun w1=>?_) (fun w1=>?_)
   ·(exfalso; omega)
   ·conv=>whnf
    (conv=>whnf); refine ⟨[],by kernel_rfl,?_⟩
    conv=>whnf
    (conv=>whnf); refine .inl ⟨_,_,byX rfl (Sound1.pl (S33 _ _) rfl),?_⟩
    conv=>whnf
    (conv=>whnf); refine ⟨?_,nofun⟩
    exact ave_tup2 (ave_agg2 (congrArg (fun q : Option Rat=>i64 (frO q).1) e) (congrArg (fun q : Option Rat=>i64 (frO q).2) e)) (congrArg (fun q : Option Rat=>i64 (if q.isSome = true then 0 else 12)) e)
 ·rw [if_neg h0,if_neg h0]
  refine sound (d := 2) tok2 mixed2 Tryz.func17 (by kernel_rfl) (by kernel_rfl) ?_
  (conv=>whnf); refine ⟨[],by kernel_rfl,?_⟩
  (conv=>whnf); refine .inl ⟨_,_,byX rfl (Sound1.pl (h97) rfl),?_⟩
  (conv=>whnf); refine .inl ⟨_,_,byX rfl (Sound1.pl (h77 _ rfl) rfl),?_⟩
  (conv=>whnf); refine .inl ⟨_,_,byX rfl (Sound1.pl (h76 ⟨rfl,rfl⟩) rfl),?_⟩
  (conv=>whnf); refine ifB_bne (fun w1=>?_) (fun w1=>?_)
  ·(conv=>whnf); refine ⟨?_,nofun⟩
   exact ave_tup2 (ave_agg2 rfl rfl) rfl
  ·(exfalso; omega)
end Go.Tr

/- Contracts of chapter 5: the best point for a head and a flow. Conditions: none. -/
import Derived.Test.YtgbdlkajmmjahaaGreatTr12
import Derived.Test.YtgbdlkajmmjahaaGreatTr13
import Derived.Test.YtgbdlkajmmjahaaGreatTr06
import Derived.ProofKit
set_option linter.unusedSectionVars false
set_option linter.unnecessarySimpa false
set_option linter.unusedVariables false
set_option linter.unusedSimpArgs false

-- seat YtgbdlkajmmjahaaGreat
namespace Go.Tr
open Go Go.Proofs
set_option maxRecDepth 20000
set_option maxHeartbeats 8000000

theorem rwB_take {f x : Int} {o : Option (Int × Nm)} {L : List Nm} {k : Nat} (hk : k < L.length) : rwB f x o (L.take (k + 1)) = stB f x (rwB f x o (L.take k)) (L.getD k n0) := by
  unfold rwB
  rw [take_succG (d := n0) hk,List.foldl_append]; rfl
theorem bst_in {n : Nm} {u : Option (Int × Nm)} {f : Int} (hn : NmB 4000 n) (hu : OkO u) (hf1 : 1 ≤ f) (hf2 : f ≤ 10000) :
  inK .i64 (f * n.2) ∧ inK .i64 (n.1.2.2 * (bo u).2.1.2.1) ∧ inK .i64 ((bo u).2.1.2.2 * n.1.2.1) ∧ True := by
 have d1 := hn.d
 have q1 := hn.q
 have p1 := hn.w
 have hb : (-4000000 ≤ (bo u).2.1.2.1 ∧ (bo u).2.1.2.1 ≤ 4000000) ∧ -40000000 ≤ (bo u).2.1.2.2 ∧ (bo u).2.1.2.2 ≤ 40000000 := by
  cases u with
  | none=>exact ⟨⟨by decide,by decide⟩,by decide,by decide⟩
  | some b =>
   have hb := (hu b rfl).1
   have := hb.d
   have := hb.q
   have := hb.w
   show (-4000000 ≤ b.2.1.2.1 ∧ b.2.1.2.1 ≤ 4000000) ∧ -40000000 ≤ b.2.1.2.2 ∧ b.2.1.2.2 ≤ 40000000
   omega
 have m1 := absM (a := f) (b := n.2) (A := 10000) (B := 4000) (by omega) (by omega)
 have m2 := absM (a := n.1.2.2) (b := (bo u).2.1.2.1) (A := 40000000) (B := 4000000) (by omega) (by omega)
 have m3 := absM (a := (bo u).2.1.2.2) (b := n.1.2.1) (A := 40000000) (B := 4000000) (by omega) (by omega)
 exact ⟨inK_of (by omega),inK_of (by omega),inK_of (by omega),trivial⟩
theorem stB_cases (f x : Int) (u : Option (Int × Nm)) (n : Nm) : (¬ (0 < n.1.2.1 ∧ f * n.2 ≤ n.1.2.2) → stB f x u n = u) ∧ (0 < n.1.2.1 → f * n.2 ≤ n.1.2.2 → (u.isSome = true → n.1.2.2 * (bo u).2.1.2.1 > (bo u).2.1.2.2 * n.1.2.1) → stB f x u n = some (x,n)) ∧ (u.isSome = true → ¬ n.1.2.2 * (bo u).2.1.2.1 > (bo u).2.1.2.2 * n.1.2.1 → stB f x u n = u) := by
 have e : okB f n = true ↔ 0 < n.1.2.1 ∧ f * n.2 ≤ n.1.2.2 := by unfold okB; rw [Bool.and_eq_true,decide_eq_true_iff,decide_eq_true_iff]
 have e2 : ∀ b : Nm,pasB n b = true ↔ n.1.2.2 * b.1.2.1 > b.1.2.2 * n.1.2.1 := fun b=>decide_eq_true_iff
 unfold stB
 refine ⟨fun h=>if_neg fun g=>h (e.1 g.1),fun h1 h2 h3=>if_pos ⟨e.2 ⟨h1,h2⟩,fun g=>(e2 _).2 (h3 g)⟩,fun h1 h2=>if_neg fun g=>h2 ((e2 _).1 (g.2 h1))⟩
def bsA (b : Int × F3) : AV := .agg (i64 b.1 :: spC b.2)
def bfQ (o : Option (Int × Q3)) : Int × F3 := match o with | some b=>if sm3 b.2 then (b.1,fr3 b.2) else (0,f30) | none=>(0,f30)
def bfR (o : Option (Int × Q3)) : Int := match o with | some b=>if sm3 b.2 then 0 else 8 | none=>12
theorem ave_bsA {k : Nat} {b : Int × F3} : AVE (k + 2) (bsA b) (bsA b) := ave_aggR (by simp [AV.atom])
theorem bfE_0 {t : List MRow} {h f : Int} (e : (chkM t).2 = 0) (w1 : win h 1 1000 = true) (w2 : win f 1 10000 = true) : bfE t h f = 0 := by
 have w1 := of_decide_eq_true w1
 have w2 := of_decide_eq_true w2
 unfold bfE bfS
 rw [if_neg (not_not_intro e),if_pos ⟨w1.1,w1.2,w2.1,w2.2⟩]
theorem bfE_2 {t : List MRow} {h f : Int} (w : ¬ win h 1 1000 = true ∨ ¬ win f 1 10000 = true) : bfE t h f = if (chkM t).2 ≠ 0 then (chkM t).2 else 2 := by
 have e : bfS h f = 2 := if_neg fun g=>by
  rcases w with w | w
  ·exact w (decide_eq_true ⟨g.1,g.2.1⟩)
  ·exact w (decide_eq_true ⟨g.2.2.1,g.2.2.2⟩)
 unfold bfE
 rw [e]
set_option maxHeartbeats 16000000 in
theorem S38 (t : List MRow) (ht : Fit t) (h f : Int) : SP 38 [tblA t, i64 h, i64 f] (.tuple [bsA (if bfE t h f = 0 then bfQ (bsT h f t t.length) else (0, f30)), i64 (if bfE t h f = 0 then bfR (bsT h f t t.length) else bfE t h f)]) false := by
 have h97 := S97 t ht
 have h76 := @S76_2 (chkM t).2 (if win f 1 10000 = true then 0 else 2)
 rw [first2] at h76
 by_cases h0 : bfE t h f = 0
 ·obtain ⟨hT, ec, hh1, hh2, hf1, hf2⟩ := bfE_ok h0
  have hR := RwOk.ofT hT
  have hn := hR.n
  have hnp := hR.np
  have eb : bfS h f = 0 := if_pos ⟨hh1,hh2,hf1,hf2⟩
  rw [if_pos h0,if_pos h0]
  obtain ⟨M,hM⟩ : ∃ M,M = bsT h f t t.length := ⟨_,rfl⟩
  rw [← hM]
  have w1 : win h 1 1000 = true := by unfold win; simp; omega
  have w2 : win f 1 10000 = true := by unfold win; simp; omega
  have e76 : (if (chkM t).2 ≠ 0 then (chkM t).2 else if win f 1 10000 = true then 0 else 2) = 0 := by rw [if_neg (not_not_intro ec),if_pos w2]
  rw [e76] at h76
  refine sound (d := 5) tok2 mixed2 Tryz.func38 (by kernel_rfl) (by kernel_rfl) ?_
  (conv=>whnf); refine .inl ⟨_,_,byX rfl (Sound1.pl (S75 _ _ _) rfl),?_⟩
  (conv=>whnf); refine ifB_dec (fun w3=>?_) (fun w3=>?_)
  ·(conv => whnf); refine .inl ⟨_, _, byX rfl (Sound1.pl (S75 _ _ _) rfl), ?_⟩
   (conv=>whnf); refine .inl ⟨_,_,byX rfl (Sound1.pl (h97) rfl),?_⟩
   (conv=>whnf); refine .inl ⟨_,_,byX rfl (Sound1.pl (S78 _ _) rfl),?_⟩
   (conv=>whnf); refine .inl ⟨_,_,byX rfl (Sound1.pl (h76 ⟨rfl,rfl⟩) rfl),?_⟩
   (conv=>whnf); refine ⟨[],[44,43,42,13,12,11,10,6,1,2],fun st mq=>∃ (i : Nat) (o : Option (Int × Nm)) (F2 : Nat → List AV),(i ≤ t.length) ∧ (BstT h f t i o) ∧ st = ⟨[(44,i64 i),(43,i64 t.length),(42,rowsA t),(13,.func (.func 102) 0 [.optr 3 0 0 0]),(12,vb o.isSome),(11,i64 (bo o).1),(10,.optr 3 0 0 0),(6,.optr 1 0 0 0),(1,i64 h),(2,i64 f)],⟨[⟨1,1,fun _=>[rowsA t],0,false,true,true⟩,⟨7,1,fun _=>[i64 0,i64 0,i64 0,i64 0,i64 0,i64 0,i64 0],0,false,true,true⟩,⟨1,2,F2,0,false,true,false⟩,⟨4,1,fun _=>nmC (bo o).2,0,false,true,true⟩],[],none,0⟩,[]⟩ ∧ mq = t.length - i,
    ⟨_,_,⟨0,none,_,by omega,.zero,rfl,rfl⟩,⟨⟨.inl rfl,rfl,rfl,rfl⟩,⟨⟨rfl,rfl,rfl,rfl,fun _=>rfl,fun _ _=>.inl rfl⟩,⟨⟨rfl,rfl,rfl,rfl,fun _=>rfl,fun _ _=>.inl rfl⟩,⟨⟨rfl,rfl,rfl,rfl,fun _=>rfl,fun _ _=>.inl rfl⟩,⟨⟨rfl,rfl,rfl,rfl,fun _=>rfl,fun _ _=>.inl rfl⟩,trivial⟩⟩⟩⟩,trivial⟩⟩,?_⟩
   rintro s0 m0 ⟨i,o,F2,hi,ho,rfl,hmeas⟩
   by_cases hlt : i < t.length
   ·have hl1 : (t.getD i r0).ps.length = npT t := hR.len i hlt
    have hh : LnOk (hdL h) := by unfold LnOk hdL; dsimp only; omega
    have h90 := S90t (wN (t.getD i r0)) (hdL h) (wN_ok hR hlt) hh
    have hLn := onL_len (wN_ok hR hlt) (hdL h)
    have hLb : True := trivial
    obtain ⟨Q,hQ⟩ : ∃ Q,Q = onL (wN (t.getD i r0)) (hdL h) := ⟨_,rfl⟩
    rw [← hQ] at h90 hLn
    have h90 : ∀ n,n = (t.getD i r0).ps.length → SP 90 [.rslice 4 n fun j=>nmC ((wN (t.getD i r0)).getD j n0),lnA (hdL h)] (nms Q) true := fun n e=>by
     rw [e,← wN_len]; exact h90
    have h91 := S91 h
    have hQp : ∀ n ∈ Q,NmB 4000 n := fun n hn=>by rw [hQ] at hn; exact one_on (wN_one hR hlt) (by omega) _ (Nat.le_refl _) n hn
    have hON : Q.length = Q.length := rfl
    have hcmp : ∀ b : List Nm,b.Perm Q → ∀ i j,i < b.length → j < b.length → SP 104 [.agg (nmC (b.getD i n0)),.agg (nmC (b.getD j n0))] (i64 (cmpF (b.getD i n0) (b.getD j n0))) false := fun b hb i j hi hj=>S104 _ _ (perm_pos hb hQp hi) (perm_pos hb hQp hj)
    have hu := u64_in hLn
    obtain ⟨rl,h153⟩ := S153 Q.length hLn
    conv=>whnf
    (conv=>whnf); refine ifB_dec (fun w4=>?_) (fun w4=>?_)
    ·conv => whnf
     (conv=>whnf); refine ⟨⟨(by omega),(by omega)⟩,?_⟩
     conv=>whnf
     (conv=>whnf); refine ⟨[.slot 16 4],[51,50,49,16,15,44,43,42,13,12,11,10,6,1,2],fun st mq=>∃ (k : Nat) (F2 : Nat → List AV),(k ≤ (t.getD i r0).ps.length) ∧ st = ⟨[(51,i64 k),(50,i64 (t.getD i r0).ps.length),(49,ptsA (t.getD i r0).ps),(16,.oslice 5 0 0 k none),(15,.optr 4 0 0 0),(44,i64 i),(43,i64 t.length),(42,rowsA t),(13,.func (.func 102) 0 [.optr 3 0 0 0]),(12,vb o.isSome),(11,i64 (bo o).1),(10,.optr 3 0 0 0),(6,.optr 1 0 0 0),(1,i64 h),(2,i64 f)],⟨[⟨1,1,fun _=>[rowsA t],0,false,true,true⟩,⟨7,1,fun _=>[i64 0,i64 0,i64 0,i64 0,i64 0,i64 0,i64 0],0,false,true,true⟩,⟨1,2,F2,0,false,true,false⟩,⟨4,1,fun _=>nmC (bo o).2,0,false,true,true⟩,⟨2,1,fun _=>[i64 (t.getD i r0).o,ptsA (t.getD i r0).ps],0,false,true,true⟩,⟨4,k,fun j=>nmC ((wN (t.getD i r0)).getD j n0),0,false,true,false⟩],[],none,0⟩,[]⟩ ∧ mq = (t.getD i r0).ps.length - k,
      ⟨_,_,⟨0,_,by omega,rfl,rfl⟩,⟨⟨.inl rfl,rfl,rfl,rfl⟩,⟨⟨rfl,rfl,rfl,rfl,fun _=>rfl,fun _ _=>.inl rfl⟩,⟨⟨rfl,rfl,rfl,rfl,fun _=>rfl,fun _ _=>.inl rfl⟩,⟨⟨rfl,rfl,rfl,rfl,fun _=>rfl,fun _ _=>.inl rfl⟩,⟨⟨rfl,rfl,rfl,rfl,fun _=>rfl,fun _ _=>.inl rfl⟩,⟨⟨rfl,rfl,rfl,rfl,fun _=>rfl,fun _ _=>.inl rfl⟩,⟨⟨rfl,rfl,rfl,rfl,fun _=>rfl,fun i h=>.inl (absurd h (Nat.not_lt_zero i))⟩,trivial⟩⟩⟩⟩⟩⟩,trivial⟩⟩,?_⟩
     rintro s0 m0 ⟨k,F2,hk,rfl,hmeas⟩
     by_cases hlt2 : k < (t.getD i r0).ps.length
     ·have c101 := S101 ((t.getD i r0).ps.getD k p0)
      conv=>whnf
      conv=>whnf
      (conv=>whnf); refine ifB_dec (fun w5=>?_) (fun w5=>?_)
      ·conv=>whnf
       conv=>whnf
       (conv=>whnf); refine ⟨⟨(by omega),(by omega)⟩,?_⟩
       conv=>whnf
       conv=>whnf
       (conv=>whnf); refine .inl ⟨_,_,byX rfl (Sound1.pl (c101) rfl),?_⟩
       conv=>whnf
       conv=>whnf
       (conv=>whnf); refine .inl ?_
       conv=>whnf
       conv=>whnf
       (conv=>whnf); refine ⟨(by show _ * (32 + 1) ≤ _; omega),?_⟩
       conv=>whnf
       conv=>whnf
       (conv=>whnf); refine ⟨inK64 (by omega) (by omega),?_⟩
       conv=>whnf
       conv=>whnf
       (conv=>whnf); refine ⟨_,_,⟨⟨k + 1,_,by omega,rfl,rfl⟩,by omega⟩,⟨⟨.inl rfl,rfl,rfl,rfl⟩,⟨⟨rfl,rfl,rfl,rfl,fun _=>rfl,fun _ _=>.inl rfl⟩,⟨⟨rfl,rfl,rfl,rfl,fun _=>rfl,fun _ _=>.inl rfl⟩,⟨⟨rfl,rfl,rfl,rfl,fun _=>rfl,fun _ _=>.inl rfl⟩,⟨⟨rfl,rfl,rfl,rfl,fun _=>rfl,fun _ _=>.inl rfl⟩,⟨⟨rfl,rfl,rfl,rfl,fun _=>rfl,fun _ _=>.inl rfl⟩,⟨⟨rfl,rfl,rfl,rfl,fun _=>rfl,fun j hj=>.inl (extE nmC (m := 4) (fun _=>rfl) (fun j=>(wN (t.getD i r0)).getD j n0) k j hj _ (wN_row (t.getD i r0) hlt2 rfl))⟩,trivial⟩⟩⟩⟩⟩⟩,trivial⟩⟩
      ·(exfalso; omega)
     ·have h90 := h90 k (by omega)
      conv=>whnf
      conv=>whnf
      (conv=>whnf); refine ifB_dec (fun w5=>?_) (fun w5=>?_)
      ·(exfalso; omega)
      ·conv => whnf
       conv=>whnf
       (conv=>whnf); refine .inl ⟨_,_,byX rfl (Sound1.pl (h91) rfl),?_⟩
       conv=>whnf
       conv=>whnf
       (conv=>whnf); refine .inl ⟨_,_,byX rfl (h90),?_⟩
       conv=>whnf
       conv=>whnf
       (conv=>whnf); refine .inr (.inl ⟨[],?_⟩)
       conv=>whnf
       conv=>whnf
       (conv=>whnf); refine ⟨by assumption,?_⟩
       conv=>whnf
       conv=>whnf
       (conv=>whnf); refine .inl ⟨_,_,byX rfl (Sound1.pl (h153) rfl),?_⟩
       conv=>whnf
       conv=>whnf
       (conv=>whnf); refine .inr (.inl ⟨[],?_⟩)
       conv=>whnf
       conv=>whnf
       (conv=>whnf); refine ⟨[.forget [0,1,2,3,4,5,6,7,8,9,10,11,12,13,14,17,18,19,21,22,23,28,30,31,32,34,35,36,37,38,39,40,41,42,43,44,45,46,47,48,49,50,51,52,53,54,55,59,60,61,62,63,64,65,66,67,68,69,70,71,72,73,74,75,76,77,78,79,80,81,82,83,84,85,86,87,88,89,90,91,92,93,94,95,96,97,98,99,100,101,102,103,104,105,106,107,108,109,110,111,112,113,114,115,116,117,118,119,120,121,122,123,124,125,126,127,128,129,130,131,132,133,134,135,136,137,138,139,140,141,142,143,144,145,146,147,148,149,150,151,152,153,154,155,156,157,158,159,160,161,162,163,164,165,166,167,168,169,170,171,172,173,174,175,176,177,178,179,180,181,182,183,184,185,186,187,188,189,190,191,192,193,194,195,196,197,198,199,200,201,202,203,204,205,206,207,208,209,210,211,212,213,214,215,216,217,218,219,220,221,222,223,224,225,226,227,228,229,230,231,232,233,234,235,236,237,238,239,240,241,242,243,244,245,246,247,248,249,250,251,252,253,254,255,256,257,258,259,260,261,262,263,264,265,266,267,268,269,270,271,272,273,274,275,276,277,278,279,280,281,282,283,284,285,286,287,288,289,290,291,292,293,294,295,296,297,298,299]],[0,1,2,3,4],fun st mq=>∃ (F2 : Nat → List AV) (F5 : Nat → List AV),st = ⟨[(0,.oslice 6 0 0 Q.length none),(1,i64 0),(2,i64 Q.length),(3,i64 rl),(4,.func (.func 104) 0 [])],⟨[⟨1,1,fun _=>[rowsA t],0,false,true,true⟩,⟨7,1,fun _=>[i64 0,i64 0,i64 0,i64 0,i64 0,i64 0,i64 0],0,false,true,true⟩,⟨1,2,F2,0,false,true,false⟩,⟨4,1,fun _=>nmC (bo o).2,0,false,true,true⟩,⟨2,1,fun _=>[i64 (t.getD i r0).o,ptsA (t.getD i r0).ps],0,false,true,true⟩,⟨4,k,F5,0,false,true,false⟩,⟨4,Q.length,fun i=>nmC (Q.getD i n0),0,false,true,false⟩],[],none,0⟩,[(33,.oslice 6 0 0 Q.length none),(29,.optr 4 0 0 0),(58,i64 i),(57,i64 t.length),(56,rowsA t),(27,.func (.func 102) 0 [.optr 3 0 0 0]),(26,vb o.isSome),(25,i64 (bo o).1),(24,.optr 3 0 0 0),(20,.optr 1 0 0 0),(15,i64 h),(16,i64 f)]⟩ ∧ mq = 0,
        ⟨_,_,⟨_,_,rfl,rfl⟩,⟨⟨.inl rfl,rfl,rfl,rfl⟩,⟨⟨rfl,rfl,rfl,rfl,fun _=>rfl,fun _ _=>.inl rfl⟩,⟨⟨rfl,rfl,rfl,rfl,fun _=>rfl,fun _ _=>.inl rfl⟩,⟨⟨rfl,rfl,rfl,rfl,fun _=>rfl,fun _ _=>.inl rfl⟩,⟨⟨rfl,rfl,rfl,rfl,fun _=>rfl,fun _ _=>.inl rfl⟩,⟨⟨rfl,rfl,rfl,rfl,fun _=>rfl,fun _ _=>.inl rfl⟩,⟨⟨rfl,rfl,rfl,rfl,fun _=>rfl,fun _ _=>.inl rfl⟩,⟨⟨rfl,rfl,rfl,rfl,fun _=>rfl,fun _ _=>.inl rfl⟩,trivial⟩⟩⟩⟩⟩⟩⟩,trivial⟩⟩,?_⟩
       rintro s0 m0 ⟨F2,F5,rfl,hmeas⟩
       conv=>whnf
       conv=>whnf
       conv=>whnf
       (conv=>whnf); refine ⟨inK64 (by omega) (by omega),?_⟩
       conv=>whnf
       conv=>whnf
       conv=>whnf
       (conv=>whnf); refine ifB_dec (fun w6=>?_) (fun w6=>?_)
       ·conv => whnf
        conv=>whnf
        conv=>whnf
        (conv=>whnf); refine .inr (.inl ⟨[],?_⟩)
        conv=>whnf
        conv=>whnf
        conv=>whnf
        (conv=>whnf); refine ⟨inK64 (by omega) (by omega),?_⟩
        conv=>whnf
        conv=>whnf
        conv=>whnf
        (conv=>whnf); refine ⟨[.forget [0,1,2,3,4,5,6,7,8,9,10,11,12,13,14,15,16,17,18,19,20,21,22,23,24,25,26,27,28,29,30,31,32,33,34,35,36,37,38,39,40,41,42,43,44,45,46,47,48,49,50,51,52,53,54,55,56,57,58,59,60,61,62,63,64,65,66,67,68,69,70,71,72,73,74,75,76,77,78,79,80,81,82,83,84,85,86,87,88,89,90,91,92,93,94,95,96,97,98,99,100,101,102,103,104,105,106,107,108,109,110,111,112,113,114,115,116,117,118,119,120,121,122,123,124,125,126,127,128,129,130,131,132,133,134,135,136,137,138,139,140,141,142,143,144,145,146,147,148,149,150,151,152,153,154,155,156,157,158,159,160,161,162,165,166,167,169,170,171,176,178,179,180,182,183,184,185,186,187,188,189,190,191,192,193,194,195,196,197,198,199,200,201,202,203,207,208,209,210,211,212,213,214,215,216,217,218,219,220,221,222,223,224,225,226,227,228,229,230,231,232,233,234,235,236,237,238,239,240,241,242,243,244,245,246,247,248,249,250,251,252,253,254,255,256,257,258,259,260,261,262,263,264,265,266,267,268,269,270,271,272,273,274,275,276,277,278,279,280,281,282,283,284,285,286,287,288,289,290,291,292,293,294,295,296,297,298,299]],[0,1,2,3,8],fun st mq=>∃ (i2 : Nat) (a : List Nm) (F2 : Nat → List AV) (F5 : Nat → List AV),(1 ≤ i2) ∧ (i2 ≤ Q.length ∨ i2 = 1) ∧ (a.length = Q.length) ∧ (a.Perm Q) ∧ (SortG leF n0 a i2) ∧ st = ⟨[(0,.oslice 6 0 0 Q.length none),(1,i64 0),(2,i64 Q.length),(3,.func (.func 104) 0 []),(8,i64 i2)],⟨[⟨1,1,fun _=>[rowsA t],0,false,true,true⟩,⟨7,1,fun _=>[i64 0,i64 0,i64 0,i64 0,i64 0,i64 0,i64 0],0,false,true,true⟩,⟨1,2,F2,0,false,true,false⟩,⟨4,1,fun _=>nmC (bo o).2,0,false,true,true⟩,⟨2,1,fun _=>[i64 (t.getD i r0).o,ptsA (t.getD i r0).ps],0,false,true,true⟩,⟨4,k,F5,0,false,true,false⟩,⟨4,Q.length,fun i=>nmC (a.getD i n0),0,false,true,false⟩],[],none,0⟩,[(181,.oslice 6 0 0 Q.length none),(177,.optr 4 0 0 0),(206,i64 i),(205,i64 t.length),(204,rowsA t),(175,.func (.func 102) 0 [.optr 3 0 0 0]),(174,vb o.isSome),(173,i64 (bo o).1),(172,.optr 3 0 0 0),(168,.optr 1 0 0 0),(163,i64 h),(164,i64 f)]⟩ ∧ mq = Q.length - i2,
         ⟨_,_,⟨1,Q,_,_,by omega,by omega,hON,List.Perm.refl _,fun p q h1 h2=>by omega,rfl,rfl⟩,⟨⟨.inl rfl,rfl,rfl,rfl⟩,⟨⟨rfl,rfl,rfl,rfl,fun _=>rfl,fun _ _=>.inl rfl⟩,⟨⟨rfl,rfl,rfl,rfl,fun _=>rfl,fun _ _=>.inl rfl⟩,⟨⟨rfl,rfl,rfl,rfl,fun _=>rfl,fun _ _=>.inl rfl⟩,⟨⟨rfl,rfl,rfl,rfl,fun _=>rfl,fun _ _=>.inl rfl⟩,⟨⟨rfl,rfl,rfl,rfl,fun _=>rfl,fun _ _=>.inl rfl⟩,⟨⟨rfl,rfl,rfl,rfl,fun _=>rfl,fun _ _=>.inl rfl⟩,⟨⟨rfl,rfl,rfl,rfl,fun _=>rfl,fun _ _=>.inl rfl⟩,trivial⟩⟩⟩⟩⟩⟩⟩,trivial⟩⟩,?_⟩
        rintro s0 m0 ⟨i2,a,F2,F5,hi1,hi2,hal,hp,hs,rfl,hmeas⟩
        by_cases hil : i2 < Q.length
        ·conv => whnf
         conv=>whnf
         conv=>whnf
         conv=>whnf
         (conv=>whnf); refine ifB_dec (fun w7=>?_) (fun w7=>?_)
         ·conv=>whnf
          conv=>whnf
          conv=>whnf
          conv=>whnf
          (conv=>whnf); refine ⟨[],[0,1,2,3,8,9],fun st mq=>∃ (j : Nat) (z : Int) (b : List Nm) (F2 : Nat → List AV) (F5 : Nat → List AV),(z = (j : Int)) ∧ (j ≤ i2) ∧ (b.length = Q.length) ∧ (b.Perm Q) ∧ (SinkG leF n0 b j (i2 + 1)) ∧ st = ⟨[(0,.oslice 6 0 0 Q.length none),(1,i64 0),(2,i64 Q.length),(3,.func (.func 104) 0 []),(8,i64 i2),(9,i64 z)],⟨[⟨1,1,fun _=>[rowsA t],0,false,true,true⟩,⟨7,1,fun _=>[i64 0,i64 0,i64 0,i64 0,i64 0,i64 0,i64 0],0,false,true,true⟩,⟨1,2,F2,0,false,true,false⟩,⟨4,1,fun _=>nmC (bo o).2,0,false,true,true⟩,⟨2,1,fun _=>[i64 (t.getD i r0).o,ptsA (t.getD i r0).ps],0,false,true,true⟩,⟨4,k,F5,0,false,true,false⟩,⟨4,Q.length,fun i=>nmC (b.getD i n0),0,false,true,false⟩],[],none,0⟩,[(181,.oslice 6 0 0 Q.length none),(177,.optr 4 0 0 0),(206,i64 i),(205,i64 t.length),(204,rowsA t),(175,.func (.func 102) 0 [.optr 3 0 0 0]),(174,vb o.isSome),(173,i64 (bo o).1),(172,.optr 3 0 0 0),(168,.optr 1 0 0 0),(163,i64 h),(164,i64 f)]⟩ ∧ mq = j,
           ⟨_,_,⟨i2,(i2 : Int),a,_,_,rfl,by omega,hal,hp,sinkG_start hs,rfl,rfl⟩,⟨⟨.inl rfl,rfl,rfl,rfl⟩,⟨⟨rfl,rfl,rfl,rfl,fun _=>rfl,fun _ _=>.inl rfl⟩,⟨⟨rfl,rfl,rfl,rfl,fun _=>rfl,fun _ _=>.inl rfl⟩,⟨⟨rfl,rfl,rfl,rfl,fun _=>rfl,fun _ _=>.inl rfl⟩,⟨⟨rfl,rfl,rfl,rfl,fun _=>rfl,fun _ _=>.inl rfl⟩,⟨⟨rfl,rfl,rfl,rfl,fun _=>rfl,fun _ _=>.inl rfl⟩,⟨⟨rfl,rfl,rfl,rfl,fun _=>rfl,fun _ _=>.inl rfl⟩,⟨⟨rfl,rfl,rfl,rfl,fun _=>rfl,fun _ _=>.inl rfl⟩,trivial⟩⟩⟩⟩⟩⟩⟩,trivial⟩⟩,?_⟩
          rintro s0 m0 ⟨j,z,b,F2,F5,hz,hj,hbl,hpb,hsb,rfl,hmeas⟩
          subst hz
          have hcm := hcmp b hpb
          by_cases hj0 : j = 0
          ·subst hj0
           conv=>whnf
           conv=>whnf
           conv=>whnf
           conv=>whnf
           conv=>whnf
           (conv=>whnf); refine ⟨[],by kernel_rfl,?_⟩
           conv=>whnf
           conv=>whnf
           conv=>whnf
           conv=>whnf
           conv=>whnf
           (conv=>whnf); refine ⟨inK64 (by omega) (by omega),?_⟩
           conv=>whnf
           conv=>whnf
           conv=>whnf
           conv=>whnf
           conv=>whnf
           (conv=>whnf); refine ⟨_,_,⟨⟨i2 + 1,b,_,_,by omega,by omega,hbl,hpb,sinkG_end leF_tr hsb (.inl rfl),rfl,rfl⟩,by omega⟩,⟨⟨.inl rfl,rfl,rfl,rfl⟩,⟨⟨rfl,rfl,rfl,rfl,fun _=>rfl,fun _ _=>.inl rfl⟩,⟨⟨rfl,rfl,rfl,rfl,fun _=>rfl,fun _ _=>.inl rfl⟩,⟨⟨rfl,rfl,rfl,rfl,fun _=>rfl,fun _ _=>.inl rfl⟩,⟨⟨rfl,rfl,rfl,rfl,fun _=>rfl,fun _ _=>.inl rfl⟩,⟨⟨rfl,rfl,rfl,rfl,fun _=>rfl,fun _ _=>.inl rfl⟩,⟨⟨rfl,rfl,rfl,rfl,fun _=>rfl,fun _ _=>.inl rfl⟩,⟨⟨rfl,rfl,rfl,rfl,fun _=>rfl,fun _ _=>.inl rfl⟩,trivial⟩⟩⟩⟩⟩⟩⟩,trivial⟩⟩
          ·obtain ⟨j,rfl⟩ : ∃ k,j = k + 1 := ⟨j - 1,by omega⟩
           have e1 : (((j + 1 : Nat) : Int) - 1).toNat = j := by omega
           have hr1 := fun x : Nat=>rowG (n := 4) (fun e=>nmC e) (fun _=>rfl) n0 b ((j + 1 : Nat) : Int).toNat x (b.getD (0 + (((j + 1 : Nat) : Int) - 1).toNat) n0) (by omega)
           have hr2 := fun x : Nat=>rowG (n := 4) (fun e=>nmC e) (fun _=>rfl) n0 (b.set ((j + 1 : Nat) : Int).toNat (b.getD (0 + (((j + 1 : Nat) : Int) - 1).toNat) n0)) (((j + 1 : Nat) : Int) - 1).toNat x (b.getD (0 + ((j + 1 : Nat) : Int).toNat) n0) (by rw [List.length_set]; omega)
           have hsw : ∀ x,nmC ((swapG n0 b (j + 1)).getD x n0) = nmC (((b.set ((j + 1 : Nat) : Int).toNat (b.getD (0 + (((j + 1 : Nat) : Int) - 1).toNat) n0)).set (((j + 1 : Nat) : Int) - 1).toNat (b.getD (0 + ((j + 1 : Nat) : Int).toNat) n0)).getD x n0) := fun x=>by
            rw [e1,Nat.zero_add,Nat.zero_add]; rfl
           conv=>whnf
           conv=>whnf
           conv=>whnf
           conv=>whnf
           conv=>whnf
           (conv=>whnf); refine ⟨[],by kernel_rfl,?_⟩
           conv=>whnf
           conv=>whnf
           conv=>whnf
           conv=>whnf
           conv=>whnf
           (conv=>whnf); refine ifB_dec (fun w8=>?_) (fun w8=>?_)
           ·conv=>whnf
            conv=>whnf
            conv=>whnf
            conv=>whnf
            conv=>whnf
            (conv=>whnf); refine ⟨⟨(by omega),(by omega)⟩,?_⟩
            conv=>whnf
            conv=>whnf
            conv=>whnf
            conv=>whnf
            conv=>whnf
            (conv=>whnf); refine ⟨inK64 (by omega) (by omega),?_⟩
            conv=>whnf
            conv=>whnf
            conv=>whnf
            conv=>whnf
            conv=>whnf
            (conv=>whnf); refine ⟨⟨(by omega),(by omega)⟩,?_⟩
            conv=>whnf
            conv=>whnf
            conv=>whnf
            conv=>whnf
            conv=>whnf
            (conv=>whnf); refine .inl ⟨_,_,byX rfl (Sound1.pl (hcm _ _ (by omega) (by omega)) rfl),?_⟩
            conv=>whnf
            conv=>whnf
            conv=>whnf
            conv=>whnf
            conv=>whnf
            (conv=>whnf); refine ifB_dec (fun w9=>?_) (fun w9=>?_)
            ·conv=>whnf
             conv=>whnf
             conv=>whnf
             conv=>whnf
             conv=>whnf
             (conv=>whnf); refine ⟨[],by kernel_rfl,?_⟩
             conv=>whnf
             conv=>whnf
             conv=>whnf
             conv=>whnf
             conv=>whnf
             (conv=>whnf); refine ⟨inK64 (by omega) (by omega),?_⟩
             conv=>whnf
             conv=>whnf
             conv=>whnf
             conv=>whnf
             conv=>whnf
             (conv=>whnf); refine ⟨inK64 (by omega) (by omega),?_⟩
             conv=>whnf
             conv=>whnf
             conv=>whnf
             conv=>whnf
             conv=>whnf
             (conv=>whnf); refine ⟨⟨(by omega),(by omega)⟩,?_⟩
             conv=>whnf
             conv=>whnf
             conv=>whnf
             conv=>whnf
             conv=>whnf
             (conv=>whnf); refine ⟨⟨(by omega),(by omega)⟩,?_⟩
             conv=>whnf
             conv=>whnf
             conv=>whnf
             conv=>whnf
             conv=>whnf
             (conv=>whnf); refine ⟨⟨(by omega),(by omega)⟩,?_⟩
             refine ⟨_,fun i _=>hr1 i,?_⟩
             conv=>whnf
             conv=>whnf
             conv=>whnf
             conv=>whnf
             conv=>whnf
             (conv=>whnf); refine ⟨⟨(by omega),(by omega)⟩,?_⟩
             refine ⟨_,fun i _=>hr2 i,?_⟩
             conv=>whnf
             conv=>whnf
             conv=>whnf
             conv=>whnf
             conv=>whnf
             (conv=>whnf); refine ⟨inK64 (by omega) (by omega),?_⟩
             have hlt : cmpF (b.getD (j + 1) n0) (b.getD (j + 1 - 1) n0) < 0 := by
              have e : cmpF (b.getD (0 + ((j + 1 : Nat) : Int).toNat) n0) (b.getD (0 + (((j + 1 : Nat) : Int) - 1).toNat) n0) < 0 := by assumption
              rw [e1,Nat.zero_add,Nat.zero_add] at e
              exact e
             conv=>whnf
             conv=>whnf
             conv=>whnf
             conv=>whnf
             conv=>whnf
             (conv=>whnf); refine ⟨_,_,⟨⟨j,((j + 1 : Nat) : Int) - 1,swapG n0 b (j + 1),_,_,by omega,by omega,(by rw [swapG_len]; exact hbl),(swapG_perm (by omega)).trans hpb,sinkG_swap (by omega) (by omega) hsb (leF_of b hpb hQp (by omega) (by omega) hlt),rfl,rfl⟩,by omega⟩,⟨⟨.inl rfl,rfl,rfl,rfl⟩,⟨⟨rfl,rfl,rfl,rfl,fun _=>rfl,fun _ _=>.inl rfl⟩,⟨⟨rfl,rfl,rfl,rfl,fun _=>rfl,fun _ _=>.inl rfl⟩,⟨⟨rfl,rfl,rfl,rfl,fun _=>rfl,fun _ _=>.inl rfl⟩,⟨⟨rfl,rfl,rfl,rfl,fun _=>rfl,fun _ _=>.inl rfl⟩,⟨⟨rfl,rfl,rfl,rfl,fun _=>rfl,fun _ _=>.inl rfl⟩,⟨⟨rfl,rfl,rfl,rfl,fun _=>rfl,fun _ _=>.inl rfl⟩,⟨⟨rfl,rfl,rfl,rfl,fun _=>rfl,fun x _=>.inl (hsw x)⟩,trivial⟩⟩⟩⟩⟩⟩⟩,trivial⟩⟩
            ·conv=>whnf
             conv=>whnf
             conv=>whnf
             conv=>whnf
             conv=>whnf
             (conv=>whnf); refine ⟨inK64 (by omega) (by omega),?_⟩
             have hge : ¬ cmpF (b.getD (j + 1) n0) (b.getD (j + 1 - 1) n0) < 0 := by
              have e : ¬ cmpF (b.getD (0 + ((j + 1 : Nat) : Int).toNat) n0) (b.getD (0 + (((j + 1 : Nat) : Int) - 1).toNat) n0) < 0 := by assumption
              rw [e1,Nat.zero_add,Nat.zero_add] at e
              exact e
             conv=>whnf
             conv=>whnf
             conv=>whnf
             conv=>whnf
             conv=>whnf
             (conv=>whnf); refine ⟨_,_,⟨⟨i2 + 1,b,_,_,by omega,by omega,hbl,hpb,sinkG_end leF_tr hsb (.inr (geF_of b hpb hQp (by omega) (by omega) hge)),rfl,rfl⟩,by omega⟩,⟨⟨.inl rfl,rfl,rfl,rfl⟩,⟨⟨rfl,rfl,rfl,rfl,fun _=>rfl,fun _ _=>.inl rfl⟩,⟨⟨rfl,rfl,rfl,rfl,fun _=>rfl,fun _ _=>.inl rfl⟩,⟨⟨rfl,rfl,rfl,rfl,fun _=>rfl,fun _ _=>.inl rfl⟩,⟨⟨rfl,rfl,rfl,rfl,fun _=>rfl,fun _ _=>.inl rfl⟩,⟨⟨rfl,rfl,rfl,rfl,fun _=>rfl,fun _ _=>.inl rfl⟩,⟨⟨rfl,rfl,rfl,rfl,fun _=>rfl,fun _ _=>.inl rfl⟩,⟨⟨rfl,rfl,rfl,rfl,fun _=>rfl,fun _ _=>.inl rfl⟩,trivial⟩⟩⟩⟩⟩⟩⟩,trivial⟩⟩
           ·(exfalso; omega)
         ·(exfalso; omega)
        ·have hsa : SortG leF n0 a a.length := fun p q h1 h2 => hs p q h1 (by omega)
         have hal2 : a.length = Q.length := hal
         conv=>whnf
         conv=>whnf
         conv=>whnf
         conv=>whnf
         (conv=>whnf); refine ifB_dec (fun w7=>?_) (fun w7=>?_)
         ·(exfalso; omega)
         ·conv => whnf
          conv=>whnf
          conv=>whnf
          conv=>whnf
          (conv=>whnf); refine ⟨[],[70,69,68,15,44,43,42,13,12,11,10,6,1,2],fun st mq=>∃ (j : Nat) (u : Option (Int × Nm)) (F2 : Nat → List AV) (F5 : Nat → List AV),(j ≤ Q.length) ∧ (u = rwB f (t.getD i r0).o o (a.take j)) ∧ st = ⟨[(70,i64 j),(69,i64 Q.length),(68,.oslice 6 0 0 Q.length none),(15,.optr 4 0 0 0),(44,i64 i),(43,i64 t.length),(42,rowsA t),(13,.func (.func 102) 0 [.optr 3 0 0 0]),(12,vb u.isSome),(11,i64 (bo u).1),(10,.optr 3 0 0 0),(6,.optr 1 0 0 0),(1,i64 h),(2,i64 f)],⟨[⟨1,1,fun _=>[rowsA t],0,false,true,true⟩,⟨7,1,fun _=>[i64 0,i64 0,i64 0,i64 0,i64 0,i64 0,i64 0],0,false,true,true⟩,⟨1,2,F2,0,false,true,false⟩,⟨4,1,fun _=>nmC (bo u).2,0,false,true,true⟩,⟨2,1,fun _=>[i64 (t.getD i r0).o,ptsA (t.getD i r0).ps],0,false,true,true⟩,⟨4,k,F5,0,false,true,false⟩,⟨4,Q.length,fun i=>nmC (a.getD i n0),0,false,true,false⟩],[],none,0⟩,[]⟩ ∧ mq = Q.length - j,
           ⟨_,_,⟨0,o,_,_,by omega,rfl,rfl,rfl⟩,⟨⟨.inl rfl,rfl,rfl,rfl⟩,⟨⟨rfl,rfl,rfl,rfl,fun _=>rfl,fun _ _=>.inl rfl⟩,⟨⟨rfl,rfl,rfl,rfl,fun _=>rfl,fun _ _=>.inl rfl⟩,⟨⟨rfl,rfl,rfl,rfl,fun _=>rfl,fun _ _=>.inl rfl⟩,⟨⟨rfl,rfl,rfl,rfl,fun _=>rfl,fun _ _=>.inl rfl⟩,⟨⟨rfl,rfl,rfl,rfl,fun _=>rfl,fun _ _=>.inl rfl⟩,⟨⟨rfl,rfl,rfl,rfl,fun _=>rfl,fun _ _=>.inl rfl⟩,⟨⟨rfl,rfl,rfl,rfl,fun _=>rfl,fun _ _=>.inl rfl⟩,trivial⟩⟩⟩⟩⟩⟩⟩,trivial⟩⟩,?_⟩
          rintro s0 m0 ⟨j,u,F2,F5,hj,hu,rfl,hmeas⟩
          have ej : 0 + (j : Int).toNat = j := by omega
          by_cases hlj : j < Q.length
          ·have hn1 := perm_pos hp hQp (i := 0 + (j : Int).toNat) (by omega)
           have hok := rwB_q (f := f) (x := (t.getD i r0).o) (a.take j) (BstT.q hR (szE_of hh1 hh2) hi ho).1 (fun n hn=>hQp n (hp.subset (List.mem_of_mem_take hn)))
           rw [← hu] at hok
           have hst : rwB f (t.getD i r0).o o (a.take (j + 1)) = stB f (t.getD i r0).o u (a.getD (0 + (j : Int).toNat) n0) := by rw [ej,rwB_take (by omega),← hu]
           obtain ⟨w1,w2,w3,w4⟩ := bst_in hn1 hok.1 hf1 hf2
           obtain ⟨c1,c2,c3⟩ := stB_cases f (t.getD i r0).o u (a.getD (0 + (j : Int).toNat) n0)
           cases u with
           | none =>
            conv=>whnf
            conv=>whnf
            conv=>whnf
            conv=>whnf
            conv=>whnf
            (conv=>whnf); refine ifB_dec (fun w8=>?_) (fun w8=>?_)
            ·conv=>whnf
             conv=>whnf
             conv=>whnf
             conv=>whnf
             conv=>whnf
             (conv=>whnf); refine ⟨⟨(by omega),(by omega)⟩,?_⟩
             conv=>whnf
             conv=>whnf
             conv=>whnf
             conv=>whnf
             conv=>whnf
             (conv=>whnf); refine ⟨⟨(by omega),(by omega)⟩,?_⟩
             conv=>whnf
             conv=>whnf
             conv=>whnf
             conv=>whnf
             conv=>whnf
             (conv=>whnf); refine ifB_dec (fun w9=>?_) (fun w9=>?_)
             ·conv=>whnf
              conv=>whnf
              conv=>whnf
              conv=>whnf
              conv=>whnf
              (conv=>whnf); refine ⟨⟨(by omega),(by omega)⟩,?_⟩
              conv=>whnf
              conv=>whnf
              conv=>whnf
              conv=>whnf
              conv=>whnf
              (conv=>whnf); refine ⟨by assumption,?_⟩
              conv=>whnf
              conv=>whnf
              conv=>whnf
              conv=>whnf
              conv=>whnf
              (conv=>whnf); refine ifB_dec (fun w10=>?_) (fun w10=>?_)
              ·conv=>whnf
               conv=>whnf
               conv=>whnf
               conv=>whnf
               conv=>whnf
               (conv=>whnf); refine ⟨[(2,3)],by kernel_rfl,?_⟩
               conv=>whnf
               conv=>whnf
               conv=>whnf
               conv=>whnf
               conv=>whnf
               (conv=>whnf); refine ⟨inK64 (by omega) (by omega),?_⟩
               conv=>whnf
               conv=>whnf
               conv=>whnf
               conv=>whnf
               conv=>whnf
               (conv=>whnf); refine ⟨_,_,⟨⟨j + 1,some ((t.getD i r0).o,a.getD (0 + (j : Int).toNat) n0),_,_,by omega,(hst.trans (c2 (by assumption) (by assumption) (fun g=>by cases g))).symm,rfl,rfl⟩,by omega⟩,⟨⟨.inl rfl,rfl,rfl,rfl⟩,⟨⟨rfl,rfl,rfl,rfl,fun _=>rfl,fun _ _=>.inl rfl⟩,⟨⟨rfl,rfl,rfl,rfl,fun _=>rfl,fun _ _=>.inl rfl⟩,⟨⟨rfl,rfl,rfl,rfl,fun _=>rfl,fun _ _=>.inl rfl⟩,⟨⟨rfl,rfl,rfl,rfl,fun _=>rfl,fun _ _=>.inl rfl⟩,⟨⟨rfl,rfl,rfl,rfl,fun _=>rfl,fun _ _=>.inl rfl⟩,⟨⟨rfl,rfl,rfl,rfl,fun _=>rfl,fun _ _=>.inl rfl⟩,⟨⟨rfl,rfl,rfl,rfl,fun _=>rfl,fun _ _=>.inl rfl⟩,trivial⟩⟩⟩⟩⟩⟩⟩,trivial⟩⟩
              ·conv=>whnf
               conv=>whnf
               conv=>whnf
               conv=>whnf
               conv=>whnf
               (conv=>whnf); refine ⟨inK64 (by omega) (by omega),?_⟩
               conv=>whnf
               conv=>whnf
               conv=>whnf
               conv=>whnf
               conv=>whnf
               (conv=>whnf); refine ⟨_,_,⟨⟨j + 1,none,_,_,by omega,(hst.trans (c1 (fun g=>absurd g.2 (by assumption)))).symm,rfl,rfl⟩,by omega⟩,⟨⟨.inl rfl,rfl,rfl,rfl⟩,⟨⟨rfl,rfl,rfl,rfl,fun _=>rfl,fun _ _=>.inl rfl⟩,⟨⟨rfl,rfl,rfl,rfl,fun _=>rfl,fun _ _=>.inl rfl⟩,⟨⟨rfl,rfl,rfl,rfl,fun _=>rfl,fun _ _=>.inl rfl⟩,⟨⟨rfl,rfl,rfl,rfl,fun _=>rfl,fun _ _=>.inl rfl⟩,⟨⟨rfl,rfl,rfl,rfl,fun _=>rfl,fun _ _=>.inl rfl⟩,⟨⟨rfl,rfl,rfl,rfl,fun _=>rfl,fun _ _=>.inl rfl⟩,⟨⟨rfl,rfl,rfl,rfl,fun _=>rfl,fun _ _=>.inl rfl⟩,trivial⟩⟩⟩⟩⟩⟩⟩,trivial⟩⟩
             ·conv=>whnf
              conv=>whnf
              conv=>whnf
              conv=>whnf
              conv=>whnf
              (conv=>whnf); refine ⟨inK64 (by omega) (by omega),?_⟩
              conv=>whnf
              conv=>whnf
              conv=>whnf
              conv=>whnf
              conv=>whnf
              (conv=>whnf); refine ⟨_,_,⟨⟨j + 1,none,_,_,by omega,(hst.trans (c1 (fun g=>absurd g.1 (by assumption)))).symm,rfl,rfl⟩,by omega⟩,⟨⟨.inl rfl,rfl,rfl,rfl⟩,⟨⟨rfl,rfl,rfl,rfl,fun _=>rfl,fun _ _=>.inl rfl⟩,⟨⟨rfl,rfl,rfl,rfl,fun _=>rfl,fun _ _=>.inl rfl⟩,⟨⟨rfl,rfl,rfl,rfl,fun _=>rfl,fun _ _=>.inl rfl⟩,⟨⟨rfl,rfl,rfl,rfl,fun _=>rfl,fun _ _=>.inl rfl⟩,⟨⟨rfl,rfl,rfl,rfl,fun _=>rfl,fun _ _=>.inl rfl⟩,⟨⟨rfl,rfl,rfl,rfl,fun _=>rfl,fun _ _=>.inl rfl⟩,⟨⟨rfl,rfl,rfl,rfl,fun _=>rfl,fun _ _=>.inl rfl⟩,trivial⟩⟩⟩⟩⟩⟩⟩,trivial⟩⟩
            ·(exfalso; omega)
           | some b =>
            conv=>whnf
            conv=>whnf
            conv=>whnf
            conv=>whnf
            conv=>whnf
            (conv=>whnf); refine ifB_dec (fun w8=>?_) (fun w8=>?_)
            ·conv=>whnf
             conv=>whnf
             conv=>whnf
             conv=>whnf
             conv=>whnf
             (conv=>whnf); refine ⟨⟨(by omega),(by omega)⟩,?_⟩
             conv=>whnf
             conv=>whnf
             conv=>whnf
             conv=>whnf
             conv=>whnf
             (conv=>whnf); refine ⟨⟨(by omega),(by omega)⟩,?_⟩
             conv=>whnf
             conv=>whnf
             conv=>whnf
             conv=>whnf
             conv=>whnf
             (conv=>whnf); refine ifB_dec (fun w9=>?_) (fun w9=>?_)
             ·conv=>whnf
              conv=>whnf
              conv=>whnf
              conv=>whnf
              conv=>whnf
              (conv=>whnf); refine ⟨⟨(by omega),(by omega)⟩,?_⟩
              conv=>whnf
              conv=>whnf
              conv=>whnf
              conv=>whnf
              conv=>whnf
              (conv=>whnf); refine ⟨by assumption,?_⟩
              conv=>whnf
              conv=>whnf
              conv=>whnf
              conv=>whnf
              conv=>whnf
              (conv=>whnf); refine ifB_dec (fun w10=>?_) (fun w10=>?_)
              ·conv=>whnf
               conv=>whnf
               conv=>whnf
               conv=>whnf
               conv=>whnf
               (conv=>whnf); refine .inr (.inl ⟨[],?_⟩)
               conv=>whnf
               conv=>whnf
               conv=>whnf
               conv=>whnf
               conv=>whnf
               (conv=>whnf); refine ⟨⟨(by omega),(by omega)⟩,?_⟩
               conv=>whnf
               conv=>whnf
               conv=>whnf
               conv=>whnf
               conv=>whnf
               (conv=>whnf); refine ⟨⟨(by omega),(by omega)⟩,?_⟩
               conv=>whnf
               conv=>whnf
               conv=>whnf
               conv=>whnf
               conv=>whnf
               (conv=>whnf); refine ⟨by assumption,?_⟩
               conv=>whnf
               conv=>whnf
               conv=>whnf
               conv=>whnf
               conv=>whnf
               (conv=>whnf); refine ⟨⟨(by omega),(by omega)⟩,?_⟩
               conv=>whnf
               conv=>whnf
               conv=>whnf
               conv=>whnf
               conv=>whnf
               (conv=>whnf); refine ⟨⟨(by omega),(by omega)⟩,?_⟩
               conv=>whnf
               conv=>whnf
               conv=>whnf
               conv=>whnf
               conv=>whnf
               (conv=>whnf); refine ⟨by assumption,?_⟩
               conv=>whnf
               conv=>whnf
               conv=>whnf
               conv=>whnf
               conv=>whnf
               (conv=>whnf); refine ifB_dec (fun w11=>?_) (fun w11=>?_)
               ·conv=>whnf
                conv=>whnf
                conv=>whnf
                conv=>whnf
                conv=>whnf
                (conv=>whnf); refine ⟨[(2,3)],by kernel_rfl,?_⟩
                conv=>whnf
                conv=>whnf
                conv=>whnf
                conv=>whnf
                conv=>whnf
                (conv=>whnf); refine ⟨inK64 (by omega) (by omega),?_⟩
                conv=>whnf
                conv=>whnf
                conv=>whnf
                conv=>whnf
                conv=>whnf
                (conv=>whnf); refine ⟨_,_,⟨⟨j + 1,some ((t.getD i r0).o,a.getD (0 + (j : Int).toNat) n0),_,_,by omega,(hst.trans (c2 (by assumption) (by assumption) (fun _=>by assumption))).symm,rfl,rfl⟩,by omega⟩,⟨⟨.inl rfl,rfl,rfl,rfl⟩,⟨⟨rfl,rfl,rfl,rfl,fun _=>rfl,fun _ _=>.inl rfl⟩,⟨⟨rfl,rfl,rfl,rfl,fun _=>rfl,fun _ _=>.inl rfl⟩,⟨⟨rfl,rfl,rfl,rfl,fun _=>rfl,fun _ _=>.inl rfl⟩,⟨⟨rfl,rfl,rfl,rfl,fun _=>rfl,fun _ _=>.inl rfl⟩,⟨⟨rfl,rfl,rfl,rfl,fun _=>rfl,fun _ _=>.inl rfl⟩,⟨⟨rfl,rfl,rfl,rfl,fun _=>rfl,fun _ _=>.inl rfl⟩,⟨⟨rfl,rfl,rfl,rfl,fun _=>rfl,fun _ _=>.inl rfl⟩,trivial⟩⟩⟩⟩⟩⟩⟩,trivial⟩⟩
               ·conv=>whnf
                conv=>whnf
                conv=>whnf
                conv=>whnf
                conv=>whnf
                (conv=>whnf); refine ⟨inK64 (by omega) (by omega),?_⟩
                conv=>whnf
                conv=>whnf
                conv=>whnf
                conv=>whnf
                conv=>whnf
                (conv=>whnf); refine ⟨_,_,⟨⟨j + 1,some b,_,_,by omega,(hst.trans (c3 rfl (by assumption))).symm,rfl,rfl⟩,by omega⟩,⟨⟨.inl rfl,rfl,rfl,rfl⟩,⟨⟨rfl,rfl,rfl,rfl,fun _=>rfl,fun _ _=>.inl rfl⟩,⟨⟨rfl,rfl,rfl,rfl,fun _=>rfl,fun _ _=>.inl rfl⟩,⟨⟨rfl,rfl,rfl,rfl,fun _=>rfl,fun _ _=>.inl rfl⟩,⟨⟨rfl,rfl,rfl,rfl,fun _=>rfl,fun _ _=>.inl rfl⟩,⟨⟨rfl,rfl,rfl,rfl,fun _=>rfl,fun _ _=>.inl rfl⟩,⟨⟨rfl,rfl,rfl,rfl,fun _=>rfl,fun _ _=>.inl rfl⟩,⟨⟨rfl,rfl,rfl,rfl,fun _=>rfl,fun _ _=>.inl rfl⟩,trivial⟩⟩⟩⟩⟩⟩⟩,trivial⟩⟩
              ·conv=>whnf
               conv=>whnf
               conv=>whnf
               conv=>whnf
               conv=>whnf
               (conv=>whnf); refine ⟨inK64 (by omega) (by omega),?_⟩
               conv=>whnf
               conv=>whnf
               conv=>whnf
               conv=>whnf
               conv=>whnf
               (conv=>whnf); refine ⟨_,_,⟨⟨j + 1,some b,_,_,by omega,(hst.trans (c1 (fun g=>absurd g.2 (by assumption)))).symm,rfl,rfl⟩,by omega⟩,⟨⟨.inl rfl,rfl,rfl,rfl⟩,⟨⟨rfl,rfl,rfl,rfl,fun _=>rfl,fun _ _=>.inl rfl⟩,⟨⟨rfl,rfl,rfl,rfl,fun _=>rfl,fun _ _=>.inl rfl⟩,⟨⟨rfl,rfl,rfl,rfl,fun _=>rfl,fun _ _=>.inl rfl⟩,⟨⟨rfl,rfl,rfl,rfl,fun _=>rfl,fun _ _=>.inl rfl⟩,⟨⟨rfl,rfl,rfl,rfl,fun _=>rfl,fun _ _=>.inl rfl⟩,⟨⟨rfl,rfl,rfl,rfl,fun _=>rfl,fun _ _=>.inl rfl⟩,⟨⟨rfl,rfl,rfl,rfl,fun _=>rfl,fun _ _=>.inl rfl⟩,trivial⟩⟩⟩⟩⟩⟩⟩,trivial⟩⟩
             ·conv=>whnf
              conv=>whnf
              conv=>whnf
              conv=>whnf
              conv=>whnf
              (conv=>whnf); refine ⟨inK64 (by omega) (by omega),?_⟩
              conv=>whnf
              conv=>whnf
              conv=>whnf
              conv=>whnf
              conv=>whnf
              (conv=>whnf); refine ⟨_,_,⟨⟨j + 1,some b,_,_,by omega,(hst.trans (c1 (fun g=>absurd g.1 (by assumption)))).symm,rfl,rfl⟩,by omega⟩,⟨⟨.inl rfl,rfl,rfl,rfl⟩,⟨⟨rfl,rfl,rfl,rfl,fun _=>rfl,fun _ _=>.inl rfl⟩,⟨⟨rfl,rfl,rfl,rfl,fun _=>rfl,fun _ _=>.inl rfl⟩,⟨⟨rfl,rfl,rfl,rfl,fun _=>rfl,fun _ _=>.inl rfl⟩,⟨⟨rfl,rfl,rfl,rfl,fun _=>rfl,fun _ _=>.inl rfl⟩,⟨⟨rfl,rfl,rfl,rfl,fun _=>rfl,fun _ _=>.inl rfl⟩,⟨⟨rfl,rfl,rfl,rfl,fun _=>rfl,fun _ _=>.inl rfl⟩,⟨⟨rfl,rfl,rfl,rfl,fun _=>rfl,fun _ _=>.inl rfl⟩,trivial⟩⟩⟩⟩⟩⟩⟩,trivial⟩⟩
            ·(exfalso; omega)
          ·have ea : a.take j = a := List.take_of_length_le (by omega)
           rw [ea] at hu
           conv=>whnf
           conv=>whnf
           conv=>whnf
           conv=>whnf
           conv=>whnf
           (conv=>whnf); refine ifB_dec (fun w8=>?_) (fun w8=>?_)
           ·(exfalso; omega)
           ·conv=>whnf
            conv=>whnf
            conv=>whnf
            conv=>whnf
            conv=>whnf
            (conv=>whnf); refine ⟨inK64 (by omega) (by omega),?_⟩
            conv=>whnf
            conv=>whnf
            conv=>whnf
            conv=>whnf
            conv=>whnf
            (conv=>whnf); refine ⟨_,_,⟨⟨i + 1,u,_,by omega,(by rw [hu]; exact ho.row (by rw [← hQ]; exact hp) (sortG_pair hsa)),rfl,rfl⟩,by omega⟩,⟨⟨.inl rfl,rfl,rfl,rfl⟩,⟨⟨rfl,rfl,rfl,rfl,fun _=>rfl,fun _ _=>.inl rfl⟩,⟨⟨rfl,rfl,rfl,rfl,fun _=>rfl,fun _ _=>.inl rfl⟩,⟨⟨rfl,rfl,rfl,rfl,fun _=>rfl,fun _ _=>.inl rfl⟩,⟨⟨rfl,rfl,rfl,rfl,fun _=>rfl,fun _ _=>.inl rfl⟩,trivial⟩⟩⟩⟩,trivial⟩⟩
       ·(exfalso; omega)
    ·(exfalso; omega)
   ·obtain ⟨hk,hq⟩ := BstT.q hR (szE_of hh1 hh2) hi ho
    rw [show i = t.length by omega,← hM] at hq
    cases o with
    | none =>
     have e1 : M = none := hq.symm
     conv=>whnf
     (conv=>whnf); refine ifB_dec (fun w4=>?_) (fun w4=>?_)
     ·(exfalso; omega)
     ·conv=>whnf
      (conv=>whnf); refine ⟨?_,nofun⟩
      exact ave_tup2 (by rw [e1]; exact ave_bsA (b := (0,f30))) (by rw [e1]; rfl)
    | some b =>
     have e1 : M = some (b.1,nmQ b.2) := hq.symm
     have c106 := S106 b.2 ((hk b rfl).1.mono (by decide))
     by_cases g : sm3 (nmQ b.2)
     ·rw [if_pos g,if_pos g] at c106
      have e2 : bfQ M = (b.1,fr3 (nmQ b.2)) := by rw [e1]; exact if_pos g
      have e3 : bfR M = 0 := by rw [e1]; exact if_pos g
      conv=>whnf
      (conv=>whnf); refine ifB_dec (fun w4=>?_) (fun w4=>?_)
      ·(exfalso; omega)
      ·conv=>whnf
       (conv=>whnf); refine .inl ⟨_,_,byX rfl (Sound1.pl (c106) rfl),?_⟩
       conv=>whnf
       (conv=>whnf); refine ⟨?_,nofun⟩
       exact ave_tup2 (by rw [e2]; exact ave_bsA (b := (b.1,fr3 (nmQ b.2)))) (by rw [e3]; rfl)
     ·rw [if_neg g,if_neg g] at c106
      have e2 : bfQ M = (0,f30) := by rw [e1]; exact if_neg g
      have e3 : bfR M = 8 := by rw [e1]; exact if_neg g
      conv=>whnf
      (conv=>whnf); refine ifB_dec (fun w4=>?_) (fun w4=>?_)
      ·(exfalso; omega)
      ·conv=>whnf
       (conv=>whnf); refine .inl ⟨_,_,byX rfl (Sound1.pl (c106) rfl),?_⟩
       conv=>whnf
       (conv=>whnf); refine ⟨?_,nofun⟩
       exact ave_tup2 (by rw [e2]; exact ave_bsA (b := (0,f30))) (by rw [e3]; rfl)
  ·(exfalso; omega)
 ·rw [if_neg h0, if_neg h0]
  by_cases w1 : win h 1 1000 = true
  ·by_cases w2 : win f 1 10000 = true
   ·have ec : (chkM t).2 ≠ 0 := fun e=>h0 (bfE_0 e w1 w2)
    have eb : bfE t h f = (chkM t).2 := if_pos ec
    have h76 := @S76_2 (chkM t).2 0
    rw [first2,if_pos ec] at h76
    rw [eb]
    have c75a := S75 h 1 1000
    have c75b := S75 f 1 10000
    rw [w1] at c75a
    rw [w2] at c75b
    refine sound (d := 2) tok2 mixed2 Tryz.func38 (by kernel_rfl) (by kernel_rfl) ?_
    (conv=>whnf); refine .inl ⟨_,_,byX rfl (Sound1.pl (c75a) rfl),?_⟩
    (conv=>whnf); refine .inl ⟨_,_,byX rfl (Sound1.pl (c75b) rfl),?_⟩
    (conv=>whnf); refine .inl ⟨_,_,byX rfl (Sound1.pl (h97) rfl),?_⟩
    (conv=>whnf); refine .inl ⟨_,_,byX rfl (Sound1.pl (S78 _ _) rfl),?_⟩
    (conv=>whnf); refine .inl ⟨_,_,byX rfl (Sound1.pl (h76 ⟨rfl,rfl⟩) rfl),?_⟩
    (conv=>whnf); refine ifB_bne (fun w3=>?_) (fun w3=>?_)
    ·(conv=>whnf); refine ⟨?_,nofun⟩
     exact ave_tup2 (ave_bsA (b := (0,f30))) rfl
    ·(exfalso; omega)
   ·have eb : bfE t h f = if (chkM t).2 ≠ 0 then (chkM t).2 else 2 := bfE_2 (.inr w2)
    have h76 := @S76_2 (chkM t).2 2
    rw [first2,← eb] at h76
    have c75a := S75 h 1 1000
    have c75b := S75 f 1 10000
    rw [w1] at c75a
    rw [Bool.eq_false_iff.2 w2] at c75b
    refine sound (d := 2) tok2 mixed2 Tryz.func38 (by kernel_rfl) (by kernel_rfl) ?_
    (conv=>whnf); refine .inl ⟨_,_,byX rfl (Sound1.pl (c75a) rfl),?_⟩
    (conv=>whnf); refine .inl ⟨_,_,byX rfl (Sound1.pl (c75b) rfl),?_⟩
    (conv=>whnf); refine .inl ⟨_,_,byX rfl (Sound1.pl (h97) rfl),?_⟩
    (conv=>whnf); refine .inl ⟨_,_,byX rfl (Sound1.pl (S78 _ _) rfl),?_⟩
    (conv=>whnf); refine .inl ⟨_,_,byX rfl (Sound1.pl (h76 ⟨rfl,rfl⟩) rfl),?_⟩
    (conv=>whnf); refine ifB_bne (fun w3=>?_) (fun w3=>?_)
    ·(conv=>whnf); refine ⟨?_,nofun⟩
     exact ave_tup2 (ave_bsA (b := (0,f30))) rfl
    ·(exfalso; omega)
  ·have eb : bfE t h f = if (chkM t).2 ≠ 0 then (chkM t).2 else 2 := bfE_2 (.inl w1)
   have h76 := @S76_2 (chkM t).2 2
   rw [first2,← eb] at h76
   have c75a := S75 h 1 1000
   rw [Bool.eq_false_iff.2 w1] at c75a
   refine sound (d := 2) tok2 mixed2 Tryz.func38 (by kernel_rfl) (by kernel_rfl) ?_
   (conv=>whnf); refine .inl ⟨_,_,byX rfl (Sound1.pl (c75a) rfl),?_⟩
   (conv=>whnf); refine .inl ⟨_,_,byX rfl (Sound1.pl (h97) rfl),?_⟩
   (conv=>whnf); refine .inl ⟨_,_,byX rfl (Sound1.pl (S78 _ _) rfl),?_⟩
   (conv=>whnf); refine .inl ⟨_,_,byX rfl (Sound1.pl (h76 ⟨rfl,rfl⟩) rfl),?_⟩
   (conv=>whnf); refine ifB_bne (fun w2=>?_) (fun w2=>?_)
   ·(conv=>whnf); refine ⟨?_,nofun⟩
    exact ave_tup2 (ave_bsA (b := (0,f30))) rfl
   ·(exfalso; omega)
end Go.Tr

/- The law of chapter 5: the maximum power at a head, and the best point. Conditions: none. -/
-- seat YtgbdlkajmmjahaaGreat
namespace Go.Tr
open Go Go.Proofs
set_option maxRecDepth 20000
set_option maxHeartbeats 8000000

theorem vEq2 (a b : Int) : vEqL [.int .i64 a,.int .i64 b] [.int .i64 a,.int .i64 b] = true := by simp [vEqL]
theorem vEq7 (a b c d e f g : Int) : vEqL [.int .i64 a,.int .i64 b,.int .i64 c,.int .i64 d,.int .i64 e,.int .i64 f,.int .i64 g] [.int .i64 a,.int .i64 b,.int .i64 c,.int .i64 d,.int .i64 e,.int .i64 f,.int .i64 g] = true := by simp [vEqL]
theorem mpO_sm {t : List MRow} (hR : RwOk t) {h : Int} (hs : szE h = 0) : ∀ q,mpO t h = some q → smR q := by
 have hr : -1000 ≤ h ∧ h ≤ 1000 := by
  unfold szE at hs
  split at hs
  ·assumption
  ·cases hs
 unfold mpO
 rw [mxT_flat]
 refine mx_sm nofun fun p hp=>?_
 obtain ⟨x,hx,hpx⟩ := List.mem_flatMap.1 hp
 exact pws_sm hr (triT_P hR _ (Nat.le_refl _) x hx) p hpx
theorem bsT_1 {h f : Int} {t : List MRow} {b : Int × Q3} (hb : bsT h f t t.length = some b) (g : sm3 b.2) : bfQ (bsT h f t t.length) = (b.1,fr3 b.2) ∧ bfR (bsT h f t t.length) = 0 := by rw [hb]; exact ⟨if_pos g,if_pos g⟩
theorem bsT_2 {h f : Int} {t : List MRow} {b : Int × Q3} (hb : bsT h f t t.length = some b) (g : ¬ sm3 b.2) : bfQ (bsT h f t t.length) = (0,f30) ∧ bfR (bsT h f t t.length) = 8 := by rw [hb]; exact ⟨if_neg g,if_neg g⟩
set_option maxHeartbeats 16000000 in
theorem S8 (t : List MRow) (h1 : t.length ≤ 9223372036854775807) (h f : Int) : SP 8 [tblA t, i64 h, i64 f] (vb true) false := by
 have h14 := S14
 have h15 := S15 t h1
 by_cases hw : fewT t = true
 ·rw [hw] at h15
  have ht := few_fit hw
  have h17 := S17 t ht
  have h37 := S37 t ht h
  have h38 := S38 t ht h f
  have h39 := S39 t ht
  have h29 := S29 h
  change SP 29 _ (i64 (szE h)) false at h29
  have h36a := S36 h 1 1000
  have h36b := S36 f 1 10000
  by_cases ec : (chkM t).2 = 0
  ·have hT := TblOk.of ec
   have hR := RwOk.ofT hT
   rw [ec] at h39
   by_cases hs : szE h = 0
   ·have em : mpE t h = 0 := by unfold mpE; rw [if_neg (not_not_intro ec)]; exact hs
    have h40 := S40 t hR h hs
    rw [rx_mx (triT_P hR _ (Nat.le_refl _))] at h40
    change SP 40 _ (.tuple [rA2 (prO (mpO t h)).1 (prO (mpO t h)).2,vb (mpO t h).isSome]) false at h40
    unfold mpR1 at h37
    rw [if_pos em,if_pos em] at h37
    rw [hs] at h29
    cases hm : mpO t h with
    | none =>
     rw [hm] at h37 h40
     change SP 37 _ (.tuple [gaF (0,0),i64 12]) false at h37
     change SP 40 _ (.tuple [rA2 0 0,vb false]) false at h40
     by_cases g2 : win h 1 1000 = true ∧ win f 1 10000 = true
     ·have eb : bfE t h f = 0 := bfE_0 ec g2.1 g2.2
      have w1 := of_decide_eq_true g2.1
      have w2 := of_decide_eq_true g2.2
      have h42 := S42 t ht hT h f w1 w2
      rw [if_pos eb,if_pos eb] at h38
      rw [g2.1] at h36a
      rw [g2.2] at h36b
      cases hb : bsT h f t t.length with
      | none =>
       rw [hb] at h38 h42
       change SP 38 _ (.tuple [bsA (0,f30),i64 12]) false at h38
       change SP 42 _ (.tuple [i64 0,.agg (bgO none),vb false]) false at h42
       refine sound (d := 2) tok2 mixed2 Tryz.func8 (by kernel_rfl) (by kernel_rfl) ?_
       (conv=>whnf); refine .inl ⟨_,_,byX rfl (Sound1.pl (h14) rfl),?_⟩
       (conv=>whnf); refine .inl ⟨_,_,byX rfl (Sound1.pl (h15) rfl),?_⟩
       (conv=>whnf); refine .inl ⟨_,_,byX rfl (h17),?_⟩
       (conv=>whnf); refine .inl ⟨_,_,byX rfl (Sound1.pl (h37) rfl),?_⟩
       (conv=>whnf); refine .inl ⟨_,_,byX rfl (h17),?_⟩
       (conv=>whnf); refine .inl ⟨_,_,byX rfl (Sound1.pl (h38) rfl),?_⟩
       (conv=>whnf); refine .inl ⟨_,_,byX rfl (Sound1.pl (h39) rfl),?_⟩
       (conv=>whnf); refine .inl ⟨_,_,byX rfl (Sound1.pl (h29) rfl),?_⟩
       (conv=>whnf); refine .inl ⟨_,_,byX rfl (h40),?_⟩
       (conv=>whnf); refine .inl ⟨_,_,byX rfl (Sound1.pl (h36a) rfl),?_⟩
       (conv=>whnf); refine .inl ⟨_,_,byX rfl (Sound1.pl (h36b) rfl),?_⟩
       (conv=>whnf); refine .inl ⟨_,_,byX rfl (h42),?_⟩
       (conv=>whnf); refine ⟨?_,nofun⟩
       (first | contradiction | rfl | omega)
      | some b =>
       rw [hb] at h42
       change SP 42 _ (.tuple [i64 b.1,bgA b.2,vb true]) false at h42
       have h43 := S43 b.2
       by_cases g3 : sm3 b.2
       ·rw [(bsT_1 hb g3).1,(bsT_1 hb g3).2] at h38
        rw [okR_sm g3,decide_eq_true g3] at h43
        have hv7 := vEq7 b.1 (fr3 b.2).1.1 (fr3 b.2).1.2 (fr3 b.2).2.1.1 (fr3 b.2).2.1.2 (fr3 b.2).2.2.1 (fr3 b.2).2.2.2
        refine sound (d := 2) tok2 mixed2 Tryz.func8 (by kernel_rfl) (by kernel_rfl) ?_
        (conv=>whnf); refine .inl ⟨_,_,byX rfl (Sound1.pl (h14) rfl),?_⟩
        (conv=>whnf); refine .inl ⟨_,_,byX rfl (Sound1.pl (h15) rfl),?_⟩
        (conv=>whnf); refine .inl ⟨_,_,byX rfl (h17),?_⟩
        (conv=>whnf); refine .inl ⟨_,_,byX rfl (Sound1.pl (h37) rfl),?_⟩
        (conv=>whnf); refine .inl ⟨_,_,byX rfl (h17),?_⟩
        (conv=>whnf); refine .inl ⟨_,_,byX rfl (Sound1.pl (h38) rfl),?_⟩
        (conv=>whnf); refine .inl ⟨_,_,byX rfl (Sound1.pl (h39) rfl),?_⟩
        (conv=>whnf); refine .inl ⟨_,_,byX rfl (Sound1.pl (h29) rfl),?_⟩
        (conv=>whnf); refine .inl ⟨_,_,byX rfl (h40),?_⟩
        (conv=>whnf); refine .inl ⟨_,_,byX rfl (Sound1.pl (h36a) rfl),?_⟩
        (conv=>whnf); refine .inl ⟨_,_,byX rfl (Sound1.pl (h36b) rfl),?_⟩
        (conv=>whnf); refine .inl ⟨_,_,byX rfl (h42),?_⟩
        (conv=>whnf); refine .inl ⟨_,_,byX rfl (Sound1.pl (h43) rfl),?_⟩
        (conv=>whnf); refine ⟨?_,nofun⟩
        (first | contradiction | rfl | exact congrArg vb hv7 | omega)
       ·rw [(bsT_2 hb g3).1,(bsT_2 hb g3).2] at h38
        rw [decide_eq_false g3] at h43
        refine sound (d := 2) tok2 mixed2 Tryz.func8 (by kernel_rfl) (by kernel_rfl) ?_
        (conv=>whnf); refine .inl ⟨_,_,byX rfl (Sound1.pl (h14) rfl),?_⟩
        (conv=>whnf); refine .inl ⟨_,_,byX rfl (Sound1.pl (h15) rfl),?_⟩
        (conv=>whnf); refine .inl ⟨_,_,byX rfl (h17),?_⟩
        (conv=>whnf); refine .inl ⟨_,_,byX rfl (Sound1.pl (h37) rfl),?_⟩
        (conv=>whnf); refine .inl ⟨_,_,byX rfl (h17),?_⟩
        (conv=>whnf); refine .inl ⟨_,_,byX rfl (Sound1.pl (h38) rfl),?_⟩
        (conv=>whnf); refine .inl ⟨_,_,byX rfl (Sound1.pl (h39) rfl),?_⟩
        (conv=>whnf); refine .inl ⟨_,_,byX rfl (Sound1.pl (h29) rfl),?_⟩
        (conv=>whnf); refine .inl ⟨_,_,byX rfl (h40),?_⟩
        (conv=>whnf); refine .inl ⟨_,_,byX rfl (Sound1.pl (h36a) rfl),?_⟩
        (conv=>whnf); refine .inl ⟨_,_,byX rfl (Sound1.pl (h36b) rfl),?_⟩
        (conv=>whnf); refine .inl ⟨_,_,byX rfl (h42),?_⟩
        (conv=>whnf); refine .inl ⟨_,_,byX rfl (Sound1.pl (h43) rfl),?_⟩
        (conv=>whnf); refine ⟨?_,nofun⟩
        (first | contradiction | rfl | omega)
     ·have eb : bfE t h f = 2 := by
       rw [bfE_2 (t := t) (h := h) (f := f) (by
        by_cases w : win h 1 1000 = true
        ·exact .inr fun e=>g2 ⟨w,e⟩
        ·exact .inl w),if_neg (not_not_intro ec)]
      rw [if_neg (by omega),if_neg (by omega),eb] at h38
      by_cases g4 : win h 1 1000 = true
      ·rw [g4] at h36a
       rw [Bool.eq_false_iff.2 fun e=>g2 ⟨g4,e⟩] at h36b
       refine sound (d := 2) tok2 mixed2 Tryz.func8 (by kernel_rfl) (by kernel_rfl) ?_
       (conv=>whnf); refine .inl ⟨_,_,byX rfl (Sound1.pl (h14) rfl),?_⟩
       (conv=>whnf); refine .inl ⟨_,_,byX rfl (Sound1.pl (h15) rfl),?_⟩
       (conv=>whnf); refine .inl ⟨_,_,byX rfl (h17),?_⟩
       (conv=>whnf); refine .inl ⟨_,_,byX rfl (Sound1.pl (h37) rfl),?_⟩
       (conv=>whnf); refine .inl ⟨_,_,byX rfl (h17),?_⟩
       (conv=>whnf); refine .inl ⟨_,_,byX rfl (Sound1.pl (h38) rfl),?_⟩
       (conv=>whnf); refine .inl ⟨_,_,byX rfl (Sound1.pl (h39) rfl),?_⟩
       (conv=>whnf); refine .inl ⟨_,_,byX rfl (Sound1.pl (h29) rfl),?_⟩
       (conv=>whnf); refine .inl ⟨_,_,byX rfl (h40),?_⟩
       (conv=>whnf); refine .inl ⟨_,_,byX rfl (Sound1.pl (h36a) rfl),?_⟩
       (conv=>whnf); refine .inl ⟨_,_,byX rfl (Sound1.pl (h36b) rfl),?_⟩
       (conv=>whnf); refine ⟨?_,nofun⟩
       (first | contradiction | rfl | omega)
      ·rw [Bool.eq_false_iff.2 g4] at h36a
       refine sound (d := 2) tok2 mixed2 Tryz.func8 (by kernel_rfl) (by kernel_rfl) ?_
       (conv=>whnf); refine .inl ⟨_,_,byX rfl (Sound1.pl (h14) rfl),?_⟩
       (conv=>whnf); refine .inl ⟨_,_,byX rfl (Sound1.pl (h15) rfl),?_⟩
       (conv=>whnf); refine .inl ⟨_,_,byX rfl (h17),?_⟩
       (conv=>whnf); refine .inl ⟨_,_,byX rfl (Sound1.pl (h37) rfl),?_⟩
       (conv=>whnf); refine .inl ⟨_,_,byX rfl (h17),?_⟩
       (conv=>whnf); refine .inl ⟨_,_,byX rfl (Sound1.pl (h38) rfl),?_⟩
       (conv=>whnf); refine .inl ⟨_,_,byX rfl (Sound1.pl (h39) rfl),?_⟩
       (conv=>whnf); refine .inl ⟨_,_,byX rfl (Sound1.pl (h29) rfl),?_⟩
       (conv=>whnf); refine .inl ⟨_,_,byX rfl (h40),?_⟩
       (conv=>whnf); refine .inl ⟨_,_,byX rfl (Sound1.pl (h36a) rfl),?_⟩
       (conv=>whnf); refine ⟨?_,nofun⟩
       (first | contradiction | rfl | omega)
    | some q =>
     rw [hm] at h37 h40
     change SP 37 _ (.tuple [gaF (frI q),i64 0]) false at h37
     change SP 40 _ (.tuple [rA q,vb true]) false at h40
     have h41 := S41 q
     have hq := mpO_sm hR hs q hm
     unfold okR at h41
     rw [if_pos hq,decide_eq_true hq] at h41
     have hv2 := vEq2 (frI q).1 (frI q).2
     by_cases g2 : win h 1 1000 = true ∧ win f 1 10000 = true
     ·have eb : bfE t h f = 0 := bfE_0 ec g2.1 g2.2
      have w1 := of_decide_eq_true g2.1
      have w2 := of_decide_eq_true g2.2
      have h42 := S42 t ht hT h f w1 w2
      rw [if_pos eb,if_pos eb] at h38
      rw [g2.1] at h36a
      rw [g2.2] at h36b
      cases hb : bsT h f t t.length with
      | none =>
       rw [hb] at h38 h42
       change SP 38 _ (.tuple [bsA (0,f30),i64 12]) false at h38
       change SP 42 _ (.tuple [i64 0,.agg (bgO none),vb false]) false at h42
       refine sound (d := 2) tok2 mixed2 Tryz.func8 (by kernel_rfl) (by kernel_rfl) ?_
       (conv=>whnf); refine .inl ⟨_,_,byX rfl (Sound1.pl (h14) rfl),?_⟩
       (conv=>whnf); refine .inl ⟨_,_,byX rfl (Sound1.pl (h15) rfl),?_⟩
       (conv=>whnf); refine .inl ⟨_,_,byX rfl (h17),?_⟩
       (conv=>whnf); refine .inl ⟨_,_,byX rfl (Sound1.pl (h37) rfl),?_⟩
       (conv=>whnf); refine .inl ⟨_,_,byX rfl (h17),?_⟩
       (conv=>whnf); refine .inl ⟨_,_,byX rfl (Sound1.pl (h38) rfl),?_⟩
       (conv=>whnf); refine .inl ⟨_,_,byX rfl (Sound1.pl (h39) rfl),?_⟩
       (conv=>whnf); refine .inl ⟨_,_,byX rfl (Sound1.pl (h29) rfl),?_⟩
       (conv=>whnf); refine .inl ⟨_,_,byX rfl (h40),?_⟩
       (conv=>whnf); refine .inl ⟨_,_,byX rfl (Sound1.pl (h41) rfl),?_⟩
       (conv=>whnf); refine ifB_not ?_
       (conv=>whnf); refine ifB_veq2 (fun w3=>?_) (fun w3=>?_)
       ·(conv=>whnf); refine .inl ⟨_,_,byX rfl (Sound1.pl (h36a) rfl),?_⟩
        (conv=>whnf); refine .inl ⟨_,_,byX rfl (Sound1.pl (h36b) rfl),?_⟩
        (conv=>whnf); refine .inl ⟨_,_,byX rfl (h42),?_⟩
        (conv=>whnf); refine ⟨?_,nofun⟩
        (first | contradiction | rfl | omega)
       ·(exfalso; omega)
      | some b =>
       rw [hb] at h42
       change SP 42 _ (.tuple [i64 b.1,bgA b.2,vb true]) false at h42
       have h43 := S43 b.2
       by_cases g3 : sm3 b.2
       ·rw [(bsT_1 hb g3).1,(bsT_1 hb g3).2] at h38
        rw [okR_sm g3,decide_eq_true g3] at h43
        have hv7 := vEq7 b.1 (fr3 b.2).1.1 (fr3 b.2).1.2 (fr3 b.2).2.1.1 (fr3 b.2).2.1.2 (fr3 b.2).2.2.1 (fr3 b.2).2.2.2
        refine sound (d := 2) tok2 mixed2 Tryz.func8 (by kernel_rfl) (by kernel_rfl) ?_
        (conv=>whnf); refine .inl ⟨_,_,byX rfl (Sound1.pl (h14) rfl),?_⟩
        (conv=>whnf); refine .inl ⟨_,_,byX rfl (Sound1.pl (h15) rfl),?_⟩
        (conv=>whnf); refine .inl ⟨_,_,byX rfl (h17),?_⟩
        (conv=>whnf); refine .inl ⟨_,_,byX rfl (Sound1.pl (h37) rfl),?_⟩
        (conv=>whnf); refine .inl ⟨_,_,byX rfl (h17),?_⟩
        (conv=>whnf); refine .inl ⟨_,_,byX rfl (Sound1.pl (h38) rfl),?_⟩
        (conv=>whnf); refine .inl ⟨_,_,byX rfl (Sound1.pl (h39) rfl),?_⟩
        (conv=>whnf); refine .inl ⟨_,_,byX rfl (Sound1.pl (h29) rfl),?_⟩
        (conv=>whnf); refine .inl ⟨_,_,byX rfl (h40),?_⟩
        (conv=>whnf); refine .inl ⟨_,_,byX rfl (Sound1.pl (h41) rfl),?_⟩
        (conv=>whnf); refine ifB_not ?_
        (conv=>whnf); refine ifB_veq2 (fun w3=>?_) (fun w3=>?_)
        ·(conv=>whnf); refine .inl ⟨_,_,byX rfl (Sound1.pl (h36a) rfl),?_⟩
         (conv=>whnf); refine .inl ⟨_,_,byX rfl (Sound1.pl (h36b) rfl),?_⟩
         (conv=>whnf); refine .inl ⟨_,_,byX rfl (h42),?_⟩
         (conv=>whnf); refine .inl ⟨_,_,byX rfl (Sound1.pl (h43) rfl),?_⟩
         (conv=>whnf); refine ⟨?_,nofun⟩
         (first | contradiction | rfl | exact congrArg vb hv7 | omega)
        ·(exfalso; omega)
       ·rw [(bsT_2 hb g3).1,(bsT_2 hb g3).2] at h38
        rw [decide_eq_false g3] at h43
        refine sound (d := 2) tok2 mixed2 Tryz.func8 (by kernel_rfl) (by kernel_rfl) ?_
        (conv=>whnf); refine .inl ⟨_,_,byX rfl (Sound1.pl (h14) rfl),?_⟩
        (conv=>whnf); refine .inl ⟨_,_,byX rfl (Sound1.pl (h15) rfl),?_⟩
        (conv=>whnf); refine .inl ⟨_,_,byX rfl (h17),?_⟩
        (conv=>whnf); refine .inl ⟨_,_,byX rfl (Sound1.pl (h37) rfl),?_⟩
        (conv=>whnf); refine .inl ⟨_,_,byX rfl (h17),?_⟩
        (conv=>whnf); refine .inl ⟨_,_,byX rfl (Sound1.pl (h38) rfl),?_⟩
        (conv=>whnf); refine .inl ⟨_,_,byX rfl (Sound1.pl (h39) rfl),?_⟩
        (conv=>whnf); refine .inl ⟨_,_,byX rfl (Sound1.pl (h29) rfl),?_⟩
        (conv=>whnf); refine .inl ⟨_,_,byX rfl (h40),?_⟩
        (conv=>whnf); refine .inl ⟨_,_,byX rfl (Sound1.pl (h41) rfl),?_⟩
        (conv=>whnf); refine ifB_not ?_
        (conv=>whnf); refine ifB_veq2 (fun w3=>?_) (fun w3=>?_)
        ·(conv=>whnf); refine .inl ⟨_,_,byX rfl (Sound1.pl (h36a) rfl),?_⟩
         (conv=>whnf); refine .inl ⟨_,_,byX rfl (Sound1.pl (h36b) rfl),?_⟩
         (conv=>whnf); refine .inl ⟨_,_,byX rfl (h42),?_⟩
         (conv=>whnf); refine .inl ⟨_,_,byX rfl (Sound1.pl (h43) rfl),?_⟩
         (conv=>whnf); refine ⟨?_,nofun⟩
         (first | contradiction | rfl | omega)
        ·(exfalso; omega)
     ·have eb : bfE t h f = 2 := by
       rw [bfE_2 (t := t) (h := h) (f := f) (by
        by_cases w : win h 1 1000 = true
        ·exact .inr fun e=>g2 ⟨w,e⟩
        ·exact .inl w),if_neg (not_not_intro ec)]
      rw [if_neg (by omega),if_neg (by omega),eb] at h38
      by_cases g4 : win h 1 1000 = true
      ·rw [g4] at h36a
       rw [Bool.eq_false_iff.2 fun e=>g2 ⟨g4,e⟩] at h36b
       refine sound (d := 2) tok2 mixed2 Tryz.func8 (by kernel_rfl) (by kernel_rfl) ?_
       (conv=>whnf); refine .inl ⟨_,_,byX rfl (Sound1.pl (h14) rfl),?_⟩
       (conv=>whnf); refine .inl ⟨_,_,byX rfl (Sound1.pl (h15) rfl),?_⟩
       (conv=>whnf); refine .inl ⟨_,_,byX rfl (h17),?_⟩
       (conv=>whnf); refine .inl ⟨_,_,byX rfl (Sound1.pl (h37) rfl),?_⟩
       (conv=>whnf); refine .inl ⟨_,_,byX rfl (h17),?_⟩
       (conv=>whnf); refine .inl ⟨_,_,byX rfl (Sound1.pl (h38) rfl),?_⟩
       (conv=>whnf); refine .inl ⟨_,_,byX rfl (Sound1.pl (h39) rfl),?_⟩
       (conv=>whnf); refine .inl ⟨_,_,byX rfl (Sound1.pl (h29) rfl),?_⟩
       (conv=>whnf); refine .inl ⟨_,_,byX rfl (h40),?_⟩
       (conv=>whnf); refine .inl ⟨_,_,byX rfl (Sound1.pl (h41) rfl),?_⟩
       (conv=>whnf); refine ifB_not ?_
       (conv=>whnf); refine ifB_veq2 (fun w1=>?_) (fun w1=>?_)
       ·(conv=>whnf); refine .inl ⟨_,_,byX rfl (Sound1.pl (h36a) rfl),?_⟩
        (conv=>whnf); refine .inl ⟨_,_,byX rfl (Sound1.pl (h36b) rfl),?_⟩
        (conv=>whnf); refine ⟨?_,nofun⟩
        (first | contradiction | rfl | omega)
       ·(exfalso; omega)
      ·rw [Bool.eq_false_iff.2 g4] at h36a
       refine sound (d := 2) tok2 mixed2 Tryz.func8 (by kernel_rfl) (by kernel_rfl) ?_
       (conv=>whnf); refine .inl ⟨_,_,byX rfl (Sound1.pl (h14) rfl),?_⟩
       (conv=>whnf); refine .inl ⟨_,_,byX rfl (Sound1.pl (h15) rfl),?_⟩
       (conv=>whnf); refine .inl ⟨_,_,byX rfl (h17),?_⟩
       (conv=>whnf); refine .inl ⟨_,_,byX rfl (Sound1.pl (h37) rfl),?_⟩
       (conv=>whnf); refine .inl ⟨_,_,byX rfl (h17),?_⟩
       (conv=>whnf); refine .inl ⟨_,_,byX rfl (Sound1.pl (h38) rfl),?_⟩
       (conv=>whnf); refine .inl ⟨_,_,byX rfl (Sound1.pl (h39) rfl),?_⟩
       (conv=>whnf); refine .inl ⟨_,_,byX rfl (Sound1.pl (h29) rfl),?_⟩
       (conv=>whnf); refine .inl ⟨_,_,byX rfl (h40),?_⟩
       (conv=>whnf); refine .inl ⟨_,_,byX rfl (Sound1.pl (h41) rfl),?_⟩
       (conv=>whnf); refine ifB_not ?_
       (conv=>whnf); refine ifB_veq2 (fun w1=>?_) (fun w1=>?_)
       ·(conv=>whnf); refine .inl ⟨_,_,byX rfl (Sound1.pl (h36a) rfl),?_⟩
        (conv=>whnf); refine ⟨?_,nofun⟩
        (first | contradiction | rfl | omega)
       ·(exfalso; omega)
   ·have em : mpE t h = 2 := by
     unfold mpE
     rw [if_neg (not_not_intro ec)]
     unfold szE at hs ⊢
     split at hs
     ·exact absurd rfl hs
     ·rw [if_neg (by assumption)]
    have es : szE h = 2 := by
     unfold mpE at em
     rwa [if_neg (not_not_intro ec)] at em
    have g4 : win h 1 1000 = false := decide_eq_false fun g=>hs (if_pos ⟨by omega,g.2⟩)
    unfold mpR1 at h37
    rw [if_neg (by omega),if_neg (by omega),em] at h37
    rw [es] at h29
    have eb : bfE t h f = 2 := by rw [bfE_2 (.inl (by rw [g4]; decide)),if_neg (not_not_intro ec)]
    rw [if_neg (by omega),if_neg (by omega),eb] at h38
    rw [g4] at h36a
    refine sound (d := 2) tok2 mixed2 Tryz.func8 (by kernel_rfl) (by kernel_rfl) ?_
    (conv=>whnf); refine .inl ⟨_,_,byX rfl (Sound1.pl (h14) rfl),?_⟩
    (conv=>whnf); refine .inl ⟨_,_,byX rfl (Sound1.pl (h15) rfl),?_⟩
    (conv=>whnf); refine .inl ⟨_,_,byX rfl (h17),?_⟩
    (conv=>whnf); refine .inl ⟨_,_,byX rfl (Sound1.pl (h37) rfl),?_⟩
    (conv=>whnf); refine .inl ⟨_,_,byX rfl (h17),?_⟩
    (conv=>whnf); refine .inl ⟨_,_,byX rfl (Sound1.pl (h38) rfl),?_⟩
    (conv=>whnf); refine .inl ⟨_,_,byX rfl (Sound1.pl (h39) rfl),?_⟩
    (conv=>whnf); refine .inl ⟨_,_,byX rfl (Sound1.pl (h29) rfl),?_⟩
    (conv=>whnf); refine .inl ⟨_,_,byX rfl (Sound1.pl (h36a) rfl),?_⟩
    (conv=>whnf); refine ⟨?_,nofun⟩
    (first | contradiction | rfl | omega)
  ·have em : mpE t h = (chkM t).2 := if_pos ec
   have eb : bfE t h f = (chkM t).2 := if_pos ec
   unfold mpR1 at h37
   rw [if_neg (by omega),if_neg (by omega),em] at h37
   rw [if_neg (by omega),if_neg (by omega),eb] at h38
   refine sound (d := 2) tok2 mixed2 Tryz.func8 (by kernel_rfl) (by kernel_rfl) ?_
   (conv=>whnf); refine .inl ⟨_,_,byX rfl (Sound1.pl (h14) rfl),?_⟩
   (conv=>whnf); refine .inl ⟨_,_,byX rfl (Sound1.pl (h15) rfl),?_⟩
   (conv=>whnf); refine .inl ⟨_,_,byX rfl (h17),?_⟩
   (conv=>whnf); refine .inl ⟨_,_,byX rfl (Sound1.pl (h37) rfl),?_⟩
   (conv=>whnf); refine .inl ⟨_,_,byX rfl (h17),?_⟩
   (conv=>whnf); refine .inl ⟨_,_,byX rfl (Sound1.pl (h38) rfl),?_⟩
   (conv=>whnf); refine .inl ⟨_,_,byX rfl (Sound1.pl (h39) rfl),?_⟩
   (conv=>whnf); refine ifB_bne (fun w1=>?_) (fun w1=>?_)
   ·(conv=>whnf); refine ifB_beq (fun w2=>?_) (fun w2=>?_)
    ·(conv=>whnf); refine ifB_beq (fun w3=>?_) (fun w3=>?_)
     ·(conv=>whnf); refine ⟨?_,nofun⟩
      (first | contradiction | rfl | omega)
     ·(exfalso; omega)
    ·(exfalso; omega)
   ·(exfalso; omega)
 ·have hw2 : fewT t = false := Bool.eq_false_iff.2 hw
  rw [hw2] at h15
  refine sound (d := 2) tok2 mixed2 Tryz.func8 (by kernel_rfl) (by kernel_rfl) ?_
  (conv=>whnf); refine .inl ⟨_,_,byX rfl (Sound1.pl (h14) rfl),?_⟩
  (conv=>whnf); refine .inl ⟨_,_,byX rfl (Sound1.pl (h15) rfl),?_⟩
  (conv=>whnf); refine ⟨?_,nofun⟩
  (first | contradiction | rfl | omega)
end Go.Tr

/- The opening of a law: what an argument reads as, as abstract values, with its shape. Conditions: types of numbers, truth values, strings, slices, structs and arrays. -/
namespace Go.Tr
open Go Go.RowKit

def V2 (P : Program) (w : World) (q : Nat → Prop) : List AV → List Value → Prop
 | [],[]=>True
 | x :: xs,v :: vs=>(VT P w q x v ∧ v.oneCell' = true) ∧ V2 P w q xs vs
 | _,_=>False

def All2 {α β : Type} (p : α → β → Prop) : List α → List β → Prop
 | [],[]=>True
 | x :: xs,y :: ys=>p x y ∧ All2 p xs ys
 | _,_=>False

def TyC (P : Program) : Nat → TypeId → List AV → Prop
 | 0,_,_=>True
 | m + 1,t,xs=>match P.underlying t with
  | some .bool=>∃ b,xs = [.val (.bool b)]
  | some (.int k)=>∃ n,xs = [.val (.int k n)] ∧ inK k n
  | some .string=>∃ s : ByteArray,xs = [.val (.string s)] ∧ s.size ≤ 9223372036854775807
  | some (.slice e)=>∃ len f,xs = [.rslice (P.cellsOf e) len f] ∧ len ≤ 9223372036854775807 ∧ ∀ i,i < len → TyC P m e (f i)
  | some (.struct fs)=>∃ ps : List (List AV),xs = ps.flatten ∧ All2 (fun f p=>TyC P m f.type p) fs.toList ps
  | some (.array n e)=>∃ ps : List (List AV),xs = ps.flatten ∧ ps.length = n ∧ ∀ p ∈ ps,TyC P m e p
  | _=>False

def layF (P : Program) (g : TypeId → Bool) : List Field → Nat → Nat → Bool
 | [],off,tot=>Nat.beq off tot
 | f :: r,off,tot=>Nat.beq f.offset off && g f.type && layF P g r (off + P.cellsOf f.type) tot

def lay (P : Program) : Nat → TypeId → Bool
 | 0,_=>false
 | m + 1,t=>match P.underlying t with
  | some .bool | some (.int _) | some .string=>true
  | some (.slice e)=>Nat.blt 0 (P.cellsOf e) && lay P m e
  | some (.struct fs)=>layF P (lay P m) fs.toList 0 (P.cellsOf t)
  | some (.array n e)=>Nat.beq (P.cellsOf t) (n * P.cellsOf e) && lay P m e
  | _=>false

section
variable {H : Type} {enc : TypeId × Value → H} {P : Program} {w : World} {spare : Nat → Bool} {held : Bool} {q : Nat → Prop}

theorem V2_len : ∀ {xs : List AV} {vs : List Value},V2 P w q xs vs → xs.length = vs.length
 | [],[],_=>rfl
 | x :: xs,v :: vs,h=>by simp [V2_len h.2]
 | [],_ :: _,h=>h.elim
 | _ :: _,[],h=>h.elim

theorem V2_append : ∀ {xs : List AV} {vs : List Value} {ys : List AV} {us : List Value},V2 P w q xs vs → V2 P w q ys us → V2 P w q (xs ++ ys) (vs ++ us)
 | [],[],_,_,_,h=>h
 | _ :: _,_ :: _,_,_,h,h'=>⟨h.1,V2_append h.2 h'⟩
 | [],_ :: _,_,_,h,_=>h.elim
 | _ :: _,[],_,_,h,_=>h.elim

theorem V2_get : ∀ {xs : List AV} {vs : List Value},V2 P w q xs vs → ∀ (i : Nat) x,xs[i]? = some x → VT P w q x (vs.getD i undef) ∧ (vs.getD i undef).oneCell' = true
 | [],[],_,i,x,hx=>by simp at hx
 | y :: ys,v :: vs,h,0,x,hx=>by
  simp at hx
  subst hx
  simpa using h.1
 | y :: ys,v :: vs,h,i + 1,x,hx=>by
  have := V2_get h.2 i x (by simpa using hx)
  simpa using this
 | [],_ :: _,h,_,_,_=>h.elim
 | _ :: _,[],h,_,_,_=>h.elim

theorem mapM_cons_some {α β : Type} {f : α → Option β} {a : α} {l : List α} {r : List β} (h : (a :: l).mapM f = some r) : ∃ b bs,f a = some b ∧ l.mapM f = some bs ∧ r = b :: bs := by
 rw [List.mapM_cons] at h
 cases ha : f a with
 | none=>simp [ha] at h
 | some b =>
  cases hl : l.mapM f with
  | none=>simp [ha,hl] at h
  | some bs=>simp [ha,hl] at h; exact ⟨b,bs,rfl,rfl,h.symm⟩

theorem mapM_get {α β : Type} {f : α → Option β} : ∀ {l : List α} {r : List β},l.mapM f = some r → r.length = l.length ∧ ∀ (i : Nat) x,l[i]? = some x → ∃ y,f x = some y ∧ r[i]? = some y
 | [],r,h=>by simp at h; subst h; exact ⟨rfl,fun i x hx=>by simp at hx⟩
 | a :: l,r,h=>by
  obtain ⟨b,bs,h1,h2,rfl⟩ := mapM_cons_some h
  obtain ⟨g1,g2⟩ := mapM_get h2
  refine ⟨by simp [g1],fun i x hx=>?_⟩
  cases i with
  | zero=>simp at hx; subst hx; exact ⟨b,h1,rfl⟩
  | succ i=>simpa using g2 i x (by simpa using hx)

theorem cells_some {a : Addr} {n : Nat} {cs : List Value} (h : w.cells? 0 a n = some cs) : cs.length = n ∧ ∀ j,j < n → w.cell? (a.add j) = some (cs.getD j undef) := by
 unfold World.cells? at h
 rw [if_pos (Nat.zero_le _)] at h
 obtain ⟨h1,h2⟩ := mapM_get h
 refine ⟨by simpa using h1,fun j hj=>?_⟩
 obtain ⟨y,h3,h4⟩ := h2 j j (by simp [hj])
 rw [h3,List.getD_eq_getElem?_getD,h4]
 rfl

theorem cell_spot {a : Addr} {v : Value} (h : w.cell? a = some v) : a.spot = none ∧ a.block < w.heap.size := by
 unfold World.cell? at h
 split at h
 ·rename_i c t fr hb
  refine ⟨?_,?_⟩
  ·cases hs : a.spot with
   | none=>rfl
   | some s=>simp [hs] at h
  ·exact (Array.getElem?_eq_some_iff.1 hb).1
 ·cases h

theorem addr_add2 (blk off u j : Nat) : ((⟨blk,off,none⟩ : Addr).add u).add j = ⟨blk,off + (u + j),none⟩ := by
 unfold Addr.add
 by_cases h1 : u = 0
 ·subst h1
  by_cases h2 : j = 0
  ·subst h2; rfl
  ·simp [h2]
 ·by_cases h2 : j = 0
  ·subst h2; simp [h1]
  ·simp [h1,h2,Nat.add_assoc]

theorem fields_av {g : TypeId → List Value → Option (DataW H × List MemPlace)} {T : TypeId → List AV → Prop} {ly : TypeId → Bool}
  (ih : ∀ t,ly t = true → ∀ cs x,g t cs = some x → ∃ xs,V2 P w q xs cs ∧ T t xs) (cs : List Value) : ∀ (fs : List Field) (off : Nat) (r : List (DataW H × List MemPlace)),layF P ly fs off cs.length = true →
  (fs.mapM fun f=>g f.type ((cs.drop f.offset).take (P.cellsOf f.type))) = some r → ∃ ps : List (List AV),V2 P w q ps.flatten (cs.drop off) ∧ All2 (fun f p=>T f.type p) fs ps
 | [],off,r,hl,h=>by
  have := Nat.eq_of_beq_eq_true hl
  subst this
  exact ⟨[],by simp [V2],trivial⟩
 | f :: fs, off, r, hl, h => by
  simp only [layF,Bool.and_eq_true] at hl
  obtain ⟨⟨h1,h2⟩,h3⟩ := hl
  have e := Nat.eq_of_beq_eq_true h1
  obtain ⟨b,bs,g1,g2,rfl⟩ := mapM_cons_some h
  obtain ⟨p,p1,p2⟩ := ih _ h2 _ _ g1
  obtain ⟨ps,r1,r2⟩ := fields_av ih cs fs _ _ h3 g2
  refine ⟨p :: ps,?_,p2,r2⟩
  rw [List.flatten_cons]
  have : cs.drop off = (cs.drop f.offset).take (P.cellsOf f.type) ++ cs.drop (off + P.cellsOf f.type) := by
   rw [e,← List.drop_drop]
   exact (List.take_append_drop _ _).symm
  rw [this]
  exact V2_append p1 r1

theorem items_av {g : List Value → Option (DataW H × List MemPlace)} {T : List AV → Prop} (ih : ∀ cs x,g cs = some x → ∃ xs,V2 P w q xs cs ∧ T xs) (cs : List Value) (s n : Nat) (hn : cs.length = n * s)
  (h : ∀ i,i < n → ∃ x,g ((cs.drop (i * s)).take s) = some x) : ∀ (k i : Nat),i + k = n → ∃ ps : List (List AV),V2 P w q ps.flatten (cs.drop (i * s)) ∧ ps.length = k ∧ ∀ p ∈ ps,T p
 | 0,i,hi=>by
  have : i = n := by omega
  subst this
  refine ⟨[],?_,rfl,nofun⟩
  rw [List.drop_eq_nil_of_le (by omega)]
  exact trivial
 | k + 1, i, hi => by
  obtain ⟨x,hx⟩ := h i (by omega)
  obtain ⟨p,p1,p2⟩ := ih _ _ hx
  obtain ⟨ps,r1,r2,r3⟩ := items_av ih cs s n hn h k (i + 1) (by omega)
  refine ⟨p :: ps,?_,by simp [r2],fun y hy=>?_⟩
  ·rw [List.flatten_cons]
   have : cs.drop (i * s) = (cs.drop (i * s)).take s ++ cs.drop ((i + 1) * s) := by
    rw [Nat.succ_mul,← List.drop_drop]
    exact (List.take_append_drop _ _).symm
   rw [this]
   exact V2_append p1 r1
  ·rcases List.mem_cons.1 hy with rfl | hy
   ·exact p2
   ·exact r3 y hy

theorem trod_av (hq : ∀ b, b < w.heap.size → q b) : ∀ (m : Nat) (t : TypeId), lay P m t = true → ∀ (fuel : Nat) (cs : List Value) (x : DataW H × List MemPlace), DataW.trod enc P w 0 spare held fuel t cs = some x → ∃ xs, V2 P w q xs cs ∧ TyC P m t xs
 | 0,t,hl,_,_,_,_=>by simp [lay] at hl
 | m + 1,t,hl,0,cs,x,h=>by simp [DataW.trod] at h
 | m + 1, t, hl, fuel + 1, cs, x, h => by
  unfold lay at hl
  unfold TyC
  unfold DataW.trod at h
  cases hu : P.underlying t with
  | none=>simp [hu] at hl
  | some d =>
   simp only [hu] at hl h ⊢
   cases d with
   | bool =>
    split at h <;> first | (cases h; done) | (rename_i e; cases e; done) | skip
    cases h
    exact ⟨[.val (.bool _)],⟨⟨.val _,rfl⟩,trivial⟩,_,rfl⟩
   | int k =>
    split at h <;> first | (cases h; done) | (rename_i e; cases e; done) | skip
    rename_i e
    cases e
    split at h
    ·rename_i hk
     obtain ⟨rfl,hw⟩ := hk
     simp only [Lit.wf,Bool.and_eq_true,decide_eq_true_eq] at hw
     exact ⟨[.val (.int _ _)],⟨⟨.val _,rfl⟩,trivial⟩,_,rfl,hw⟩
    ·cases h
   | string =>
    split at h <;> first | (cases h; done) | (rename_i e; cases e; done) | skip
    split at h
    ·rename_i hs
     exact ⟨[.val (.string _)],⟨⟨.val _,rfl⟩,trivial⟩,_,rfl,hs⟩
    ·cases h
   | slice e =>
    simp only [Bool.and_eq_true] at hl
    split at h <;> first | (cases h; done) | (rename_i e; cases e; done) | skip
    ·exact ⟨[.rslice (P.cellsOf e) 0 fun _=>[]],⟨⟨.rslice0 _ _ _ _,rfl⟩,trivial⟩,_,_,rfl,by omega,fun i hi=>absurd hi (Nat.not_lt_zero i)⟩
    ·rename_i e0 a len cap e1
     cases e1
     split at h
     case isFalse=>cases h
     rename_i hb
     have hes : 0 < P.cellsOf e := Nat.le_of_ble_eq_true hl.1
     cases hM : (List.range len).mapM fun i=>(w.cells? 0 (a.add (i * P.cellsOf e)) (P.cellsOf e)).bind (DataW.trod enc P w 0 spare held fuel e) with
     | none=>rw [hM] at h; cases h
     | some elems =>
      obtain ⟨_,g2⟩ := mapM_get hM
      have hx : ∀ i,∃ xs : List AV,i < len → ∃ cs,(cs.length = P.cellsOf e ∧ ∀ j,j < P.cellsOf e → w.cell? ((a.add (i * P.cellsOf e)).add j) = some (cs.getD j undef)) ∧ V2 P w q xs cs ∧ TyC P m e xs := fun i=>by
       by_cases hi : i < len
       ·obtain ⟨y,y1,_⟩ := g2 i i (by simp [hi])
        cases hc : w.cells? 0 (a.add (i * P.cellsOf e)) (P.cellsOf e) with
        | none=>rw [hc] at y1; cases y1
        | some cs1 =>
         rw [hc] at y1
         obtain ⟨xs,x1,x2⟩ := trod_av hq m e hl.2 _ _ _ y1
         exact ⟨xs,fun _=>⟨cs1,cells_some hc,x1,x2⟩⟩
       ·exact ⟨[],fun h=>absurd h hi⟩
      have hf := fun i=>(Classical.choose_spec (hx i))
      generalize hF : (fun i=>Classical.choose (hx i)) = F
      have hf : ∀ i,i < len → ∃ cs,(cs.length = P.cellsOf e ∧ ∀ j,j < P.cellsOf e → w.cell? ((a.add (i * P.cellsOf e)).add j) = some (cs.getD j undef)) ∧ V2 P w q (F i) cs ∧ TyC P m e (F i) := fun i hi=>by
       have := Classical.choose_spec (hx i) hi
       rw [← hF]
       exact this
      refine ⟨[.rslice (P.cellsOf e) len F],⟨⟨?_,rfl⟩,trivial⟩,len,F,rfl,?_,fun i hi=>?_⟩
      ·rcases Nat.eq_zero_or_pos len with rfl | hp
       ·exact .rslice0 _ _ _ _
       ·obtain ⟨cs0,c1,_,_⟩ := hf 0 hp
        have hc0 := c1.2 0 hes
        have e0 : ((a.add (0 * P.cellsOf e)).add 0) = a := by simp [Addr.add]
        rw [e0] at hc0
        obtain ⟨s1,s2⟩ := cell_spot hc0
        obtain ⟨blk,off,spot⟩ := a
        simp only at s1 s2
        subst s1
        have hG : ∀ i,∃ cs : List Value,i < len → (cs.length = P.cellsOf e ∧ ∀ j,j < P.cellsOf e → w.cell? (((⟨blk,off,none⟩ : Addr).add (i * P.cellsOf e)).add j) = some (cs.getD j undef)) ∧ V2 P w q (F i) cs := fun i=>by
         by_cases hi : i < len
         ·obtain ⟨cs,c1,c2,_⟩ := hf i hi
          exact ⟨cs,fun _=>⟨c1,c2⟩⟩
         ·exact ⟨[],fun h=>absurd h hi⟩
        refine .rslice _ _ _ blk off cap (fun i j=>(Classical.choose (hG i)).getD j undef) hb.2.1 (hq _ s2) (fun i hi=>?_) (fun i j hi hj=>?_) (fun i j x hi hx=>?_)
        ·obtain ⟨c1,c2⟩ := Classical.choose_spec (hG i) hi
         rw [V2_len c2,c1.1]
        ·obtain ⟨c1,c2⟩ := Classical.choose_spec (hG i) hi
         have hc := c1.2 j hj
         have ea : ((⟨blk,off,none⟩ : Addr).add (i * P.cellsOf e)).add j = ⟨blk,off + (i * P.cellsOf e + j),none⟩ := by
          exact addr_add2 blk off _ j
         rw [ea] at hc
         refine ⟨hc,?_⟩
         have hlt : j < (F i).length := by rw [V2_len c2,c1.1]; exact hj
         exact (V2_get c2 j _ (List.getElem?_eq_getElem hlt)).2
        ·obtain ⟨c1,c2⟩ := Classical.choose_spec (hG i) hi
         exact (V2_get c2 j x hx).1
      ·have := hb.2.2
       unfold maxLen at this
       omega
      ·obtain ⟨_,_,_,h3⟩ := hf i hi
       exact h3
   | struct fs =>
    replace h : (if cs.length = P.cellsOf t then (fs.toList.mapM fun f=>DataW.trod enc P w 0 spare held fuel f.type ((cs.drop f.offset).take (P.cellsOf f.type))).map fun xs=>(.agg (xs.map (·.1)),xs.flatMap (·.2)) else none) = some x := h
    split at h
    case isFalse=>cases h
    rename_i hc
    cases hM : fs.toList.mapM fun f=>DataW.trod enc P w 0 spare held fuel f.type ((cs.drop f.offset).take (P.cellsOf f.type)) with
    | none=>rw [hM] at h; cases h
    | some r =>
     obtain ⟨ps,p1,p2⟩ := fields_av (T := TyC P m) (ly := lay P m) (fun t ht cs x hx=>trod_av hq m t ht fuel cs x hx) cs fs.toList 0 r (by rw [hc]; exact hl) hM
     exact ⟨ps.flatten,by simpa using p1,ps,rfl,p2⟩
   | array n e =>
    simp only [Bool.and_eq_true] at hl
    replace h : (if cs.length = P.cellsOf t then ((List.range n).mapM fun i=>DataW.trod enc P w 0 spare held fuel e ((cs.drop (i * P.cellsOf e)).take (P.cellsOf e))).map fun xs=>(.agg (xs.map (·.1)),xs.flatMap (·.2)) else none) = some x := h
    split at h
    case isFalse=>cases h
    rename_i hc
    cases hM : (List.range n).mapM fun i=>DataW.trod enc P w 0 spare held fuel e ((cs.drop (i * P.cellsOf e)).take (P.cellsOf e)) with
    | none=>rw [hM] at h; cases h
    | some r =>
     obtain ⟨_,g2⟩ := mapM_get hM
     obtain ⟨ps,p1,p2,p3⟩ := items_av (T := TyC P m e) (fun cs x hx=>trod_av hq m e hl.2 fuel cs x hx) cs (P.cellsOf e) n (by rw [hc]; exact Nat.eq_of_beq_eq_true hl.1)
      (fun i hi=>by obtain ⟨y,y1,_⟩ := g2 i i (by simp [hi]); exact ⟨y,y1⟩) n 0 (by omega)
     exact ⟨ps.flatten,by simpa using p1,ps,rfl,p2,p3⟩
   | _=>simp at hl

def TyA (P : Program) (m : Nat) (t : TypeId) (x : AV) : Prop :=
 match P.underlying t with
 | some (.struct _) | some (.array _ _)=>∃ xs,x = .agg xs ∧ TyC P m t xs
 | _=>TyC P m t [x]

theorem open_av {r : Reach} {b0 : Nat} {t : TypeId} {v : Value} {d : DataW H} {ps : List MemPlace} {m : Nat} (hl : lay P m t = true) (hq : ∀ b,b < w.heap.size → q b)
  (hv : Value.okWide P w r b0 t v) (hd : DataW.Trod enc P w 0 spare held t v d ps) : ∃ x,VT P w q x v ∧ TyA P m t x := by
 obtain ⟨fuel,hf⟩ := hd
 obtain ⟨xs,h1,h2⟩ := trod_av hq m t hl fuel _ _ hf
 have agg : ∀ cs,v = .agg cs → VT P w q (.agg xs) v := by
  rintro cs rfl
  have hlen := V2_len h1
  refine .agg xs cs (by rw [hlen]; simp [Value.cells]) (fun u hu=>?_) (fun i x hx=>?_)
  ·obtain ⟨i,hi,rfl⟩ := List.getElem_of_mem hu
   have hx : i < xs.length := by rw [hlen]; simpa [Value.cells] using hi
   have := (V2_get h1 i _ (List.getElem?_eq_getElem hx)).2
   have hi' : i < cs.size := by simpa using hi
   simpa [Value.cells,List.getD_eq_getElem?_getD,hi'] using this
  ·have := (V2_get h1 i x hx).1
   simpa [Value.cells,List.getD_eq_getElem?_getD,Array.getD_eq_getD_getElem?] using this
 have one : ∀ u,v.cells.toList = [u] → v = u → ∃ x,VT P w q x v ∧ TyC P m t [x] := by
  rintro u e rfl
  rw [e] at h1
  match xs,h1,h2 with
  | [x],h1,h2=>exact ⟨x,h1.1.1,h2⟩
 unfold TyA
 unfold Value.okWide at hv
 split
 ·rename_i fs hu
  simp only [hu] at hv
  obtain ⟨cs,e,_,_⟩ := hv
  exact ⟨_,agg cs e,xs,rfl,h2⟩
 ·rename_i n e hu
  simp only [hu] at hv
  obtain ⟨cs,e,_,_⟩ := hv
  exact ⟨_,agg cs e,xs,rfl,h2⟩
 ·rename_i n1 n2
  have hc : Cell.okWide P w r b0 t v := by
   split at hv
   ·rename_i hu; exact absurd hu (n1 _)
   ·rename_i hu; exact absurd hu (n2 _ _)
   ·exact hv
  cases v with
  | agg cs =>
   simp only [Cell.okWide] at hc
   split at hc <;> first | (rename_i e _; cases e; done) | (rename_i e; cases e; done) | (simp [Cell.ok] at hc)
  | tuple cs =>
   simp only [Cell.okWide] at hc
   split at hc <;> first | (rename_i e _; cases e; done) | (rename_i e; cases e; done) | (simp [Cell.ok] at hc)
  | _=>exact one _ rfl rfl
end
end Go.Tr

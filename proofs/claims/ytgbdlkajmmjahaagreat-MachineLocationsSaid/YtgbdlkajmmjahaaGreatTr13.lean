/- Contracts of chapter 5: the reference's locations compared and put into their place. Conditions: none. -/
import Derived.Test.YtgbdlkajmmjahaaGreatTr11
import Derived.Test.YtgbdlkajmmjahaaGreatTr10
import Derived.Test.YtgbdlkajmmjahaaGreatTr12
import Derived.Test.YtgbdlkajmmjahaaGreatTr06
import Derived.ProofKit
set_option linter.unusedSectionVars false
set_option linter.unnecessarySimpa false
set_option linter.unusedVariables false
set_option linter.unusedSimpArgs false

-- seat YtgbdlkajmmjahaaGreat
namespace Go.Tr
open Go Go.Proofs
set_option maxRecDepth 20000
set_option maxHeartbeats 8000000

abbrev lgC (q : Q2) : List AV := [i64 (sgI q.1.num),ints (digs q.1.num.natAbs),i64 (sgI (q.1.den : Nat)),ints (digs ((q.1.den : Nat) : Int).natAbs),i64 (sgI q.2.num),ints (digs q.2.num.natAbs),i64 (sgI (q.2.den : Nat)),ints (digs ((q.2.den : Nat) : Int).natAbs)]
abbrev lgA (q : Q2) : AV := .agg (lgC q)
def lgs (L : List Q2) : AV := .rslice 8 L.length fun i=>lgC (L.getD i q2z)
def R2k (k : Nat) (q : Q2) : Prop := Rk k q.1 ∧ Rk k q.2
theorem S163 {k : Nat} (p q : Q2) (hp : R2k k p) (hq : R2k k q) (hk : k ≤ 20) : SP 163 [lgA p,lgA q] (i64 (cmp2 p q)) false := by
 have h1 := S109 p.1 q.1 hp.1 hq.1 (by omega)
 have h2 := S109 p.2 q.2 hp.2 hq.2 (by omega)
 unfold cmp2
 refine sound (d := 2) tok2 mixed2 Tryz.func163 (by kernel_rfl) (by kernel_rfl) ?_
 (conv=>whnf); refine .inl ⟨_,_,byX rfl (Sound1.pl (h1) rfl),?_⟩
 (conv=>whnf); refine ifB_bne (fun w1=>?_) (fun w1=>?_)
 ·(conv=>whnf); refine ⟨?_,nofun⟩
  exact endi (if_pos w1).symm
 ·(conv=>whnf); refine .inl ⟨_,_,byX rfl (Sound1.pl (h2) rfl),?_⟩
  (conv=>whnf); refine ⟨?_,nofun⟩
  exact endi (if_neg (not_not_intro w1)).symm
theorem putL_at2 {L : List Q2} {x : Q2} : ∀ {k : Nat},(∀ j,j < k → lt2 (L.getD j q2z) x) → k ≤ L.length → (k < L.length → ¬ lt2 (L.getD k q2z) x) → putL lt2 L x = if k < L.length ∧ L.getD k q2z = x then L else L.take k ++ [x] ++ L.drop k := by
 induction L with
 | nil =>
  intro k h1 h2 h3
  have : k = 0 := by simpa using h2
  subst this
  rfl
 | cons y L ih =>
  intro k h1 h2 h3
  cases k with
  | zero =>
   have h : ¬ lt2 y x := h3 (by simp)
   unfold putL
   rw [if_neg h]
   by_cases e : y = x
   ·rw [if_pos e,if_pos ⟨by simp,e⟩]
   ·rw [if_neg e,if_neg (fun g=>e g.2)]; rfl
  | succ k =>
   have h0 : lt2 y x := h1 0 (by omega)
   have ih := ih (k := k) (fun j hj=>h1 (j + 1) (by omega)) (by simpa using h2) (fun hk=>h3 (by simpa using hk))
   unfold putL
   rw [if_pos h0,ih]
   have e : (y :: L).getD (k + 1) q2z = L.getD k q2z := rfl
   rw [e,List.length_cons]
   by_cases g : k < L.length ∧ L.getD k q2z = x
   ·rw [if_pos g,if_pos ⟨by omega,g.2⟩]
   ·rw [if_neg g,if_neg (fun h=>g ⟨by omega,h.2⟩)]; rfl
theorem put_rows2 {L : List Q2} {x : Q2} {k : Nat} (hk : k ≤ L.length) {i : Nat} {f : List AV} (h1 : i < k → f = lgC (L.getD (0 + (0 + i) - 0) q2z)) (h2 : i = k → f = List.take 8 (List.drop ((0 + i - (0 + ((k : Int) - 0).toNat)) * 8) (lgC x)))
  (h3 : k < i → f = shiftF (k : Int).toNat (fun j=>lgC (L.getD j q2z)) (i - (0 + ((k : Int) - 0).toNat + 1))) : f = lgC ((L.take k ++ [x] ++ L.drop k).getD i q2z) := by
 rw [put_get lgC (m := 8) (fun _=>rfl) q2z L x k i hk]
 by_cases g : i < k
 ·rw [if_pos g,h1 g,show 0 + (0 + i) - 0 = i by omega]
 ·rw [if_neg g]
  by_cases e : i = k
  ·rw [if_pos e,h2 e,show 0 + i - (0 + ((k : Int) - 0).toNat) = 0 by omega,Nat.zero_mul,List.drop_zero]
   exact take_row lgC (fun _=>rfl) x
  ·rw [if_neg e,h3 (by omega),shiftF_eq]
   show lgC (L.getD ((k : Int).toNat + (i - (0 + ((k : Int) - 0).toNat + 1))) q2z) = _
   rw [show (k : Int).toNat + (i - (0 + ((k : Int) - 0).toNat + 1)) = i - 1 by omega]
set_option maxHeartbeats 4000000 in
theorem S118 (L : List Q2) (x : Q2) (hl : L.length ≤ 1000000) (hL : ∀ i, R2k 2 (L.getD i q2z)) (hx : R2k 2 x) : SP 118 [lgs L, lgA x] (lgs (putL lt2 L x)) false := by
 have hc := fun i=>S163 (L.getD i q2z) x (hL i) hx (by decide)
 have hneg := fun i=>cmp2_neg (L.getD i q2z) x
 have hzer := fun i=>cmp2_zero (L.getD i q2z) x
 refine sound (d := 2) tok2 mixed2 Tryz.func118 (by kernel_rfl) (by kernel_rfl) ?_
 (conv=>whnf); refine ⟨[],[0,3,5],fun st mq=>∃ (k : Nat),(k ≤ L.length) ∧ (∀ j,j < k → lt2 (L.getD j q2z) x) ∧ st = ⟨[(0,lgs L),(3,.optr 0 0 0 0),(5,i64 k)],⟨[⟨8,1,fun _=>lgC x,0,false,true,true⟩],[],none,0⟩,[]⟩ ∧ mq = L.length - k,
  ⟨_,_,⟨0,by omega,fun j h=>absurd h (Nat.not_lt_zero j),rfl,rfl⟩,⟨⟨.inl rfl,rfl,rfl,rfl⟩,⟨⟨rfl,rfl,rfl,rfl,fun _=>rfl,fun _ _=>.inl rfl⟩,trivial⟩,trivial⟩⟩,?_⟩
 rintro s0 m0 ⟨k,hk,hs,rfl,hmeas⟩
 by_cases hlt : k < L.length
 ·have hn := hneg k
  have hz := hzer k
  have c1 := hc k
  by_cases g1 : lt2 (L.getD k q2z) x
  ·have g1' := hn.2 g1
   generalize cmp2 (L.getD k q2z) x = z at *
   conv=>whnf
   (conv=>whnf); refine ⟨[],by kernel_rfl,?_⟩
   conv=>whnf
   (conv=>whnf); refine ifB_dec (fun w1=>?_) (fun w1=>?_)
   ·conv=>whnf
    (conv=>whnf); refine ⟨⟨(by omega),(by omega)⟩,?_⟩
    conv=>whnf
    (conv=>whnf); refine .inl ⟨_,_,byX rfl (Sound1.pl (c1) rfl),?_⟩
    conv=>whnf
    (conv=>whnf); refine ifB_dec (fun w2=>?_) (fun w2=>?_)
    ·conv=>whnf
     (conv=>whnf); refine ⟨inK64 (by omega) (by omega),?_⟩
     conv=>whnf
     (conv=>whnf); refine ⟨_,_,⟨⟨k + 1,by omega,(fun j hj=>by by_cases e : j = k; (rw [e]; exact g1); exact hs j (by omega)),rfl,rfl⟩,by omega⟩,⟨⟨.inl rfl,rfl,rfl,rfl⟩,⟨⟨rfl,rfl,rfl,rfl,fun _=>rfl,fun _ _=>.inl rfl⟩,trivial⟩,trivial⟩⟩
    ·(exfalso; omega)
   ·(exfalso; omega)
  ·have g1' : ¬ cmp2 (L.getD k q2z) x < 0 := fun e => g1 (hn.1 e)
   have hp := putL_at2 hs (by omega) (fun _=>g1)
   by_cases g2 : L.getD k q2z = x
   ·rw [if_pos ⟨hlt, g2⟩] at hp
    have g2' := hz.2 g2
    rw [hp]
    generalize cmp2 (L.getD k q2z) x = z at *
    conv=>whnf
    (conv=>whnf); refine ⟨[],by kernel_rfl,?_⟩
    conv=>whnf
    (conv=>whnf); refine ifB_dec (fun w1=>?_) (fun w1=>?_)
    ·conv=>whnf
     (conv=>whnf); refine ⟨⟨(by omega),(by omega)⟩,?_⟩
     conv=>whnf
     (conv=>whnf); refine .inl ⟨_,_,byX rfl (Sound1.pl (c1) rfl),?_⟩
     conv=>whnf
     (conv=>whnf); refine ifB_dec (fun w2=>?_) (fun w2=>?_)
     ·(exfalso; omega)
     ·conv=>whnf
      (conv=>whnf); refine ⟨[],by kernel_rfl,?_⟩
      conv=>whnf
      (conv=>whnf); refine ifB_dec (fun w3=>?_) (fun w3=>?_)
      ·conv=>whnf
       (conv=>whnf); refine ⟨⟨(by omega),(by omega)⟩,?_⟩
       conv=>whnf
       (conv=>whnf); refine .inl ⟨_,_,byX rfl (Sound1.pl (c1) rfl),?_⟩
       conv=>whnf
       (conv=>whnf); refine ifB_beq (fun w4=>?_) (fun w4=>?_)
       ·conv=>whnf
        (conv=>whnf); refine ⟨?_,nofun⟩
        exact ⟨rfl,rfl,fun _ _=>rfl⟩
       ·(exfalso; omega)
      ·(exfalso; omega)
    ·(exfalso; omega)
   ·rw [if_neg (fun e => g2 e.2)] at hp
    have g2' : ¬ cmp2 (L.getD k q2z) x = 0 := fun e=>g2 (hz.1 e)
    rw [hp]
    generalize cmp2 (L.getD k q2z) x = z at *
    conv=>whnf
    (conv=>whnf); refine ⟨[],by kernel_rfl,?_⟩
    conv=>whnf
    (conv=>whnf); refine ifB_dec (fun w1=>?_) (fun w1=>?_)
    ·conv=>whnf
     (conv=>whnf); refine ⟨⟨(by omega),(by omega)⟩,?_⟩
     conv=>whnf
     (conv=>whnf); refine .inl ⟨_,_,byX rfl (Sound1.pl (c1) rfl),?_⟩
     conv=>whnf
     (conv=>whnf); refine ifB_dec (fun w2=>?_) (fun w2=>?_)
     ·(exfalso; omega)
     ·conv=>whnf
      (conv=>whnf); refine ⟨[],by kernel_rfl,?_⟩
      conv=>whnf
      (conv=>whnf); refine ifB_dec (fun w3=>?_) (fun w3=>?_)
      ·conv=>whnf
       (conv=>whnf); refine ⟨⟨(by omega),(by omega)⟩,?_⟩
       conv=>whnf
       (conv=>whnf); refine .inl ⟨_,_,byX rfl (Sound1.pl (c1) rfl),?_⟩
       conv=>whnf
       (conv=>whnf); refine ifB_beq (fun w4=>?_) (fun w4=>?_)
       ·(exfalso; omega)
       ·conv=>whnf
        (conv=>whnf); refine ⟨⟨(by omega),⟨(by omega),(by omega)⟩⟩,?_⟩
        conv=>whnf
        (conv=>whnf); refine .inl ?_
        conv=>whnf
        (conv=>whnf); refine ⟨⟨(by omega),(by show _ * (128 + 1) ≤ _; omega)⟩,?_⟩
        conv=>whnf
        (conv=>whnf); refine .inl ?_
        conv=>whnf
        (conv=>whnf); refine ⟨(by show _ * (128 + 1) ≤ _; omega),?_⟩
        conv=>whnf
        (conv=>whnf); refine ⟨⟨(by omega),⟨(by omega),(by omega)⟩⟩,?_⟩
        conv=>whnf
        (conv=>whnf); refine .inl ?_
        conv=>whnf
        (conv=>whnf); refine ⟨(by show _ * (128 + 1) ≤ _; omega),?_⟩
        conv=>whnf
        (conv=>whnf); refine ⟨?_,nofun⟩
        exact ⟨rfl,(by simp; omega),fun i hi=>put_rows2 hk (fun g=>(if_pos (by omega)).trans ((if_pos (by omega)).trans (if_neg (by omega)))) (fun g=>(if_pos (by omega)).trans (if_neg (by omega))) (fun g=>if_neg (by omega))⟩
      ·(exfalso; omega)
    ·(exfalso; omega)
 ·have hp := putL_at2 hs (by omega) (fun e=>absurd e hlt)
  rw [if_neg (fun e=>hlt e.1)] at hp
  rw [hp]
  conv=>whnf
  (conv=>whnf); refine ⟨[],by kernel_rfl,?_⟩
  conv=>whnf
  (conv=>whnf); refine ifB_dec (fun w1=>?_) (fun w1=>?_)
  ·(exfalso; omega)
  ·conv=>whnf
   (conv=>whnf); refine ⟨[],by kernel_rfl,?_⟩
   conv=>whnf
   (conv=>whnf); refine ifB_dec (fun w2=>?_) (fun w2=>?_)
   ·(exfalso; omega)
   ·conv=>whnf
    (conv=>whnf); refine ⟨⟨(by omega),⟨(by omega),(by omega)⟩⟩,?_⟩
    conv=>whnf
    (conv=>whnf); refine .inl ?_
    conv=>whnf
    (conv=>whnf); refine ⟨⟨(by omega),(by show _ * (128 + 1) ≤ _; omega)⟩,?_⟩
    conv=>whnf
    (conv=>whnf); refine .inl ?_
    conv=>whnf
    (conv=>whnf); refine ⟨(by show _ * (128 + 1) ≤ _; omega),?_⟩
    conv=>whnf
    (conv=>whnf); refine ⟨⟨(by omega),⟨(by omega),(by omega)⟩⟩,?_⟩
    conv=>whnf
    (conv=>whnf); refine .inl ?_
    conv=>whnf
    (conv=>whnf); refine ⟨(by show _ * (128 + 1) ≤ _; omega),?_⟩
    conv=>whnf
    (conv=>whnf); refine ⟨?_,nofun⟩
    exact ⟨rfl,(by simp; omega),fun i hi=>put_rows2 hk (fun g=>(if_pos (by omega)).trans ((if_pos (by omega)).trans (if_neg (by omega)))) (fun g=>(if_pos (by omega)).trans (if_neg (by omega))) (fun g=>if_neg (by omega))⟩
end Go.Tr

/- Contracts of chapter 5: the reference's locations of a point. Conditions: none. -/
-- seat YtgbdlkajmmjahaaGreat
namespace Go.Tr
open Go Go.Proofs
set_option maxRecDepth 20000
set_option maxHeartbeats 8000000

theorem putL_len2 (l : List Q2) (x : Q2) : (putL lt2 l x).length ≤ l.length + 1 := by
 induction l with
 | nil=>simp [putL]
 | cons y l ih =>
  unfold putL
  split
  ·simp; omega
  ·split <;> simp
theorem turn_cyc (a b c : P3) : turnI a b c = turnI b c a := by unfold turnI; grind
theorem rk_0 {k : Nat} : Rk (k + 1) 0 := (show Rk 1 ((0 : Int) : Rat) from rk_mil (by decide)).mono (by omega)
theorem lcQ_rk {x : Tri} (hx : TriL x) {p : P3} (hp : PtOk p) : R2k 2 (lcQ x p) := by
 have ha := hx.a
 obtain ⟨q1,q2,q3⟩ := hx.p
 have hab := turn_n q1 q2 q3
 have ho := hx.o
 have s1 := sumW_b hx.p hp (f := lo x) (A := 100) (fun k=>by have := ho k; omega) 3
 have s2 := sumW_b hx.p hp (f := lp x) (A := 10000) (fun k=>lp_b hx.p k) 3
 have hla : lar x = turnI x.1.1 x.2.1.1 x.2.2.1 := rfl
 exact ⟨Rk.of (by omega) (digs_len 2 _ (by omega)) (digs_len 2 _ (by omega)),Rk.of (by omega) (digs_len 2 _ (by omega)) (digs_len 2 _ (by omega))⟩
theorem lcs_rk {T : List Tri} (hT : ∀ x ∈ T,TriL x) {p : P3} (hp : PtOk p) {q : Q2} (hq : q ∈ lcs p T) : R2k 2 q := by
  obtain ⟨x,hx,rfl⟩ := List.mem_map.1 hq
  exact lcQ_rk (hT x (List.mem_filter.1 hx).1) hp
theorem lcs_take {T : List Tri} (p : P3) {k : Nat} (hk : k < T.length) : lcs p (T.take (k + 1)) = lcs p (T.take k) ++ lcs p [T.getD k tri0] := by
  rw [← lcs_app,List.take_add_one,List.getD_eq_getElem?_getD,List.getElem?_eq_getElem hk]; rfl
set_option maxHeartbeats 16000000 in
theorem S45 (t : List MRow) (hT : TblOk t) (h f : Int) (hh : -1000 ≤ h ∧ h ≤ 1000) (hf : -1000 ≤ f ∧ f ≤ 1000) : SP 45 [tblA t,i64 h,i64 f] (lgs (lcS t (h,f,0))) false := by
 have hR := RwOk.ofT hT
 have h108 := S108 t hR
 have hpt : PtOk (h,f,0) := ⟨hh,hf,⟨by show (-10000 : Int) ≤ 0; decide,by show (0 : Int) ≤ 10000; decide⟩⟩
 have hP := triT_L hT (t.length - 1) (Nat.le_refl _)
 have hTl := triT_len t (t.length - 1)
 have hn := hR.n
 have hnp := hR.np
 have hTl2 : (triT t (t.length - 1)).length ≤ 60 := by
  rw [hTl]
  have := Nat.mul_le_mul (show t.length - 1 ≤ 5 by omega) (show 2 * (npT t - 1) ≤ 10 by omega)
  omega
 unfold lcS
 generalize triT t (t.length - 1) = T at *
 obtain ⟨M,hM⟩ : ∃ M,M = putAll lt2 (lcs (h,f,0) T) := ⟨_,rfl⟩
 rw [← hM]
 have hq0 : R2k 2 q2z := ⟨rk_0,rk_0⟩
 refine sound (d := 2) tok2 mixed2 Tryz.func45 (by kernel_rfl) (by kernel_rfl) ?_
 (conv=>whnf); refine .inl ⟨_,_,byX rfl (h108),?_⟩
 (conv=>whnf); refine ⟨[],[7,8,9,10],fun st mq=>∃ (k : Nat) (L : List Q2) (F0 : Nat → List AV),(k ≤ T.length) ∧ (L = putAll lt2 (lcs (h,f,0) (T.take k))) ∧ (L.length ≤ k) ∧ st = ⟨[(7,lgs L),(8,tris T),(9,.optr 1 0 0 0),(10,i64 k)],⟨[⟨1,1,F0,0,false,true,false⟩,⟨3,1,fun _=>ptC (h,f,0),0,false,true,true⟩],[],none,0⟩,[]⟩ ∧ mq = T.length - k,
  ⟨_,_,⟨0,[],_,by omega,rfl,by exact Nat.le_refl 0,rfl,rfl⟩,⟨⟨.inr ⟨rfl,.inr (rfl),⟨rfl,.inl rfl,⟨rfl,.inl rfl,⟨rfl,.inl rfl,trivial⟩⟩⟩⟩,rfl,rfl,rfl⟩,⟨⟨rfl,rfl,rfl,rfl,fun _=>rfl,fun _ _=>.inl rfl⟩,⟨⟨rfl,rfl,rfl,rfl,fun _=>rfl,fun _ _=>.inl rfl⟩,trivial⟩⟩,trivial⟩⟩,?_⟩
 rintro s0 m0 ⟨k,L,F0,hk,hL,hLn,rfl,hmeas⟩
 by_cases hlt : k < T.length
 ·have hx := hP _ (getD_memG (d := tri0) hlt)
  have hTk := lcs_take (T := T) (h,f,0) hlt
  have hLr : ∀ i,R2k 2 (L.getD i q2z) := fun i=>by
   by_cases hi : i < L.length
   ·exact lcs_rk hP hpt (by
     have h1 := getD_memG (d := q2z) hi
     generalize L.getD i q2z = z at *
     rw [hL] at h1
     have := (putAll_mem _ _).1 h1
     obtain ⟨x,hx,e⟩ := List.mem_map.1 this
     exact List.mem_map.2 ⟨x,List.mem_filter.2 ⟨List.mem_of_mem_take (List.mem_filter.1 hx).1,(List.mem_filter.1 hx).2⟩,e⟩)
   ·rw [List.getD_eq_getElem?_getD,List.getElem?_eq_none (by omega)]; exact hq0
  obtain ⟨q1,q2,q3⟩ := hx.p
  have ha := hx.a
  have b0 := lw_b hx.p hpt 0
  have b1 := lw_b hx.p hpt 1
  have b2 := lw_b hx.p hpt 2
  have ho := hx.o
  have s1 := sumW_b hx.p hpt (f := lo (T.getD k tri0)) (A := 100) (fun z=>by have := ho z; omega)
  have s2 := sumW_b hx.p hpt (f := lp (T.getD k tri0)) (A := 10000) (fun z=>lp_b hx.p z)
  have m1 := fun z=>absM (lw_b hx.p hpt z) (show (lo (T.getD k tri0) z).natAbs ≤ 100 by have := ho z; omega)
  have m2 := fun z=>absM (lw_b hx.p hpt z) (lp_b hx.p z)
  have c0 : SP 117 _ (i64 (lw (T.getD k tri0) (h,f,0) 0)) false := S117 (h,f,0) _ _ hpt q2 q3
  have c1 := S117 _ (h,f,0) _ q1 hpt q3
  rw [turn_cyc,show turnI (h,f,0) (T.getD k tri0).2.2.1 (T.getD k tri0).1.1 = lw (T.getD k tri0) (h,f,0) 1 from rfl] at c1
  have c2 := S117 _ _ (h,f,0) q1 q2 hpt
  rw [← turn_cyc,show turnI (h,f,0) (T.getD k tri0).1.1 (T.getD k tri0).2.1.1 = lw (T.getD k tri0) (h,f,0) 2 from rfl] at c2
  have hsum := lw_sum (T.getD k tri0) (h,f,0)
  have hskip : ¬ lin (T.getD k tri0) (h,f,0) → L = putAll lt2 (lcs (h,f,0) (T.take (k + 1))) := fun g=>by rw [hTk,lcs_no g,List.append_nil]; exact hL
  conv=>whnf
  (conv=>whnf); refine ifB_dec (fun w1=>?_) (fun w1=>?_)
  ·conv=>whnf
   (conv=>whnf); refine ⟨⟨(by omega),(by omega)⟩,?_⟩
   conv=>whnf
   (conv=>whnf); refine ⟨[],by kernel_rfl,?_⟩
   conv=>whnf
   (conv=>whnf); refine ⟨⟨(by omega),(by omega)⟩,?_⟩
   conv=>whnf
   (conv=>whnf); refine ⟨⟨(by omega),(by omega)⟩,?_⟩
   conv=>whnf
   (conv=>whnf); refine .inl ⟨_,_,byX rfl (Sound1.pl (c0) rfl),?_⟩
   conv=>whnf
   (conv=>whnf); refine ⟨⟨(by omega),(by omega)⟩,?_⟩
   conv=>whnf
   (conv=>whnf); refine ⟨⟨(by omega),(by omega)⟩,?_⟩
   conv=>whnf
   (conv=>whnf); refine .inl ⟨_,_,byX rfl (Sound1.pl (c1) rfl),?_⟩
   conv=>whnf
   (conv=>whnf); refine ⟨⟨(by omega),(by omega)⟩,?_⟩
   conv=>whnf
   (conv=>whnf); refine ⟨⟨(by omega),(by omega)⟩,?_⟩
   conv=>whnf
   (conv=>whnf); refine .inl ⟨_,_,byX rfl (Sound1.pl (c2) rfl),?_⟩
   conv=>whnf
   (conv=>whnf); refine ⟨⟨(by omega),(by omega)⟩,?_⟩
   conv=>whnf
   (conv=>whnf); refine ifB_dec (fun w2=>?_) (fun w2=>?_)
   ·conv=>whnf
    (conv=>whnf); refine ⟨inK64 (by omega) (by omega),?_⟩
    have g0 : lw (T.getD k tri0) (h,f,0) 0 < 0 := by assumption
    conv=>whnf
    (conv=>whnf); refine ⟨_,_,⟨⟨k + 1,L,_,by omega,hskip (fun e=>by have := e.1; omega),by omega,rfl,rfl⟩,by omega⟩,⟨⟨.inl rfl,rfl,rfl,rfl⟩,⟨⟨rfl,rfl,rfl,rfl,fun _=>rfl,fun _ _=>.inl rfl⟩,⟨⟨rfl,rfl,rfl,rfl,fun _=>rfl,fun _ _=>.inl rfl⟩,trivial⟩⟩,trivial⟩⟩
   ·conv=>whnf
    (conv=>whnf); refine ⟨⟨(by omega),(by omega)⟩,?_⟩
    conv=>whnf
    (conv=>whnf); refine ifB_dec (fun w3=>?_) (fun w3=>?_)
    ·conv=>whnf
     (conv=>whnf); refine ⟨inK64 (by omega) (by omega),?_⟩
     have g0 : lw (T.getD k tri0) (h,f,0) 1 < 0 := by assumption
     conv=>whnf
     (conv=>whnf); refine ⟨_,_,⟨⟨k + 1,L,_,by omega,hskip (fun e=>by have := e.2.1; omega),by omega,rfl,rfl⟩,by omega⟩,⟨⟨.inl rfl,rfl,rfl,rfl⟩,⟨⟨rfl,rfl,rfl,rfl,fun _=>rfl,fun _ _=>.inl rfl⟩,⟨⟨rfl,rfl,rfl,rfl,fun _=>rfl,fun _ _=>.inl rfl⟩,trivial⟩⟩,trivial⟩⟩
    ·conv=>whnf
     (conv=>whnf); refine ⟨⟨(by omega),(by omega)⟩,?_⟩
     conv=>whnf
     (conv=>whnf); refine ifB_dec (fun w4=>?_) (fun w4=>?_)
     ·conv=>whnf
      (conv=>whnf); refine ⟨inK64 (by omega) (by omega),?_⟩
      have g0 : lw (T.getD k tri0) (h,f,0) 2 < 0 := by assumption
      conv=>whnf
      (conv=>whnf); refine ⟨_,_,⟨⟨k + 1,L,_,by omega,hskip (fun e=>by have := e.2.2; omega),by omega,rfl,rfl⟩,by omega⟩,⟨⟨.inl rfl,rfl,rfl,rfl⟩,⟨⟨rfl,rfl,rfl,rfl,fun _=>rfl,fun _ _=>.inl rfl⟩,⟨⟨rfl,rfl,rfl,rfl,fun _=>rfl,fun _ _=>.inl rfl⟩,trivial⟩⟩,trivial⟩⟩
     ·have hin : lin (T.getD k tri0) (h,f,0) := ⟨by omega,by omega,by omega⟩
      conv=>whnf
      (conv=>whnf); refine ⟨[],[7,8,9,10,11,12,13,14,15],fun st mq=>∃ (j : Nat) (u : Int) (v : Int) (F0 : Nat → List AV),(j ≤ 3) ∧ (u = sumW (T.getD k tri0) (h,f,0) (lo (T.getD k tri0)) j) ∧ (v = sumW (T.getD k tri0) (h,f,0) (lp (T.getD k tri0)) j) ∧ st = ⟨[(7,lgs L),(8,tris T),(9,.optr 1 0 0 0),(10,i64 k),(11,.optr 2 0 0 0),(12,.optr 3 0 0 0),(13,i64 u),(14,i64 v),(15,i64 j)],⟨[⟨1,1,F0,0,false,true,false⟩,⟨3,1,fun _=>ptC (h,f,0),0,false,true,true⟩,⟨9,1,fun _=>[i64 (T.getD k tri0).1.1.1,i64 (T.getD k tri0).1.1.2.1,i64 (T.getD k tri0).1.1.2.2,i64 (T.getD k tri0).2.1.1.1,i64 (T.getD k tri0).2.1.1.2.1,i64 (T.getD k tri0).2.1.1.2.2,i64 (T.getD k tri0).2.2.1.1,i64 (T.getD k tri0).2.2.1.2.1,i64 (T.getD k tri0).2.2.1.2.2],0,false,true,true⟩,⟨3,1,fun _=>[i64 (lw (T.getD k tri0) (h,f,0) 0),i64 (lw (T.getD k tri0) (h,f,0) 1),i64 (lw (T.getD k tri0) (h,f,0) 2)],0,false,true,true⟩],[],none,0⟩,[]⟩ ∧ mq = 3 - j,
       ⟨_,_,⟨0,0,0,_,by omega,rfl,rfl,rfl,rfl⟩,⟨⟨.inl rfl,rfl,rfl,rfl⟩,⟨⟨rfl,rfl,rfl,rfl,fun _=>rfl,fun _ _=>.inl rfl⟩,⟨⟨rfl,rfl,rfl,rfl,fun _=>rfl,fun _ _=>.inl rfl⟩,⟨⟨rfl,rfl,rfl,rfl,fun _=>rfl,fun _ _=>.inl rfl⟩,⟨⟨rfl,rfl,rfl,rfl,fun _=>rfl,fun _ _=>.inl rfl⟩,trivial⟩⟩⟩⟩,trivial⟩⟩,?_⟩
      rintro s0 m0 ⟨j,u,v,F0,hj,hu,hv,rfl,hmeas⟩
      by_cases e0 : j = 0
      ·subst e0
       have g0 : (lw (T.getD k tri0) (h,f,0) 0).natAbs ≤ 8000000 := b0
       have g1 : (lw (T.getD k tri0) (h,f,0) 0 * (T.getD (k : Int).toNat tri0).1.2).natAbs ≤ 8000000 * 100 := m1 0
       have g2 : (lw (T.getD k tri0) (h,f,0) 0 * (T.getD k tri0).1.1.2.2).natAbs ≤ 8000000 * 10000 := m2 0
       have g3 : (u + lw (T.getD k tri0) (h,f,0) 0 * (T.getD (k : Int).toNat tri0).1.2).natAbs ≤ (0 + 1) * (8000000 * 100) := by rw [hu]; exact s1 (0 + 1)
       have g4 : (v + lw (T.getD k tri0) (h,f,0) 0 * (T.getD k tri0).1.1.2.2).natAbs ≤ (0 + 1) * (8000000 * 10000) := by rw [hv]; exact s2 (0 + 1)
       conv=>whnf
       conv=>whnf
       (conv=>whnf); refine ⟨[],by kernel_rfl,?_⟩
       conv=>whnf
       conv=>whnf
       (conv=>whnf); refine ⟨⟨(by omega),(by omega)⟩,?_⟩
       conv=>whnf
       conv=>whnf
       (conv=>whnf); refine ⟨⟨(by omega),(by omega)⟩,?_⟩
       conv=>whnf
       conv=>whnf
       (conv=>whnf); refine ⟨⟨(by omega),(by omega)⟩,?_⟩
       conv=>whnf
       conv=>whnf
       (conv=>whnf); refine ⟨inK64 (by omega) (by omega),?_⟩
       conv=>whnf
       conv=>whnf
       (conv=>whnf); refine ⟨inK64 (by omega) (by omega),?_⟩
       conv=>whnf
       conv=>whnf
       (conv=>whnf); refine ⟨⟨(by omega),(by omega)⟩,?_⟩
       conv=>whnf
       conv=>whnf
       (conv=>whnf); refine ⟨⟨(by omega),(by omega)⟩,?_⟩
       conv=>whnf
       conv=>whnf
       (conv=>whnf); refine ⟨inK64 (by omega) (by omega),?_⟩
       conv=>whnf
       conv=>whnf
       (conv=>whnf); refine ⟨inK64 (by omega) (by omega),?_⟩
       conv=>whnf
       conv=>whnf
       (conv=>whnf); refine ⟨inK64 (by omega) (by omega),?_⟩
       conv=>whnf
       conv=>whnf
       (conv=>whnf); refine ⟨_,_,⟨⟨0 + 1,u + lw (T.getD k tri0) (h,f,0) 0 * (T.getD k tri0).1.2,v + lw (T.getD k tri0) (h,f,0) 0 * (T.getD k tri0).1.1.2.2,_,by omega,(by rw [hu]; rfl),(by rw [hv]; rfl),rfl,rfl⟩,by omega⟩,⟨⟨.inl rfl,rfl,rfl,rfl⟩,⟨⟨rfl,rfl,rfl,rfl,fun _=>rfl,fun _ _=>.inl rfl⟩,⟨⟨rfl,rfl,rfl,rfl,fun _=>rfl,fun _ _=>.inl rfl⟩,⟨⟨rfl,rfl,rfl,rfl,fun _=>rfl,fun _ _=>.inl rfl⟩,⟨⟨rfl,rfl,rfl,rfl,fun _=>rfl,fun _ _=>.inl rfl⟩,trivial⟩⟩⟩⟩,trivial⟩⟩
      by_cases e1 : j = 1
      ·subst e1
       have g0 : (lw (T.getD k tri0) (h,f,0) 1).natAbs ≤ 8000000 := b1
       have g1 : (lw (T.getD k tri0) (h,f,0) 1 * (T.getD (k : Int).toNat tri0).2.1.2).natAbs ≤ 8000000 * 100 := m1 1
       have g2 : (lw (T.getD k tri0) (h,f,0) 1 * (T.getD k tri0).2.1.1.2.2).natAbs ≤ 8000000 * 10000 := m2 1
       have g3 : (u + lw (T.getD k tri0) (h,f,0) 1 * (T.getD (k : Int).toNat tri0).2.1.2).natAbs ≤ (1 + 1) * (8000000 * 100) := by rw [hu]; exact s1 (1 + 1)
       have g4 : (v + lw (T.getD k tri0) (h,f,0) 1 * (T.getD k tri0).2.1.1.2.2).natAbs ≤ (1 + 1) * (8000000 * 10000) := by rw [hv]; exact s2 (1 + 1)
       conv=>whnf
       conv=>whnf
       (conv=>whnf); refine ⟨[],by kernel_rfl,?_⟩
       conv=>whnf
       conv=>whnf
       (conv=>whnf); refine ⟨⟨(by omega),(by omega)⟩,?_⟩
       conv=>whnf
       conv=>whnf
       (conv=>whnf); refine ⟨⟨(by omega),(by omega)⟩,?_⟩
       conv=>whnf
       conv=>whnf
       (conv=>whnf); refine ⟨⟨(by omega),(by omega)⟩,?_⟩
       conv=>whnf
       conv=>whnf
       (conv=>whnf); refine ⟨inK64 (by omega) (by omega),?_⟩
       conv=>whnf
       conv=>whnf
       (conv=>whnf); refine ⟨inK64 (by omega) (by omega),?_⟩
       conv=>whnf
       conv=>whnf
       (conv=>whnf); refine ⟨⟨(by omega),(by omega)⟩,?_⟩
       conv=>whnf
       conv=>whnf
       (conv=>whnf); refine ⟨⟨(by omega),(by omega)⟩,?_⟩
       conv=>whnf
       conv=>whnf
       (conv=>whnf); refine ⟨inK64 (by omega) (by omega),?_⟩
       conv=>whnf
       conv=>whnf
       (conv=>whnf); refine ⟨inK64 (by omega) (by omega),?_⟩
       conv=>whnf
       conv=>whnf
       (conv=>whnf); refine ⟨inK64 (by omega) (by omega),?_⟩
       conv=>whnf
       conv=>whnf
       (conv=>whnf); refine ⟨_,_,⟨⟨1 + 1,u + lw (T.getD k tri0) (h,f,0) 1 * (T.getD k tri0).2.1.2,v + lw (T.getD k tri0) (h,f,0) 1 * (T.getD k tri0).2.1.1.2.2,_,by omega,(by rw [hu]; rfl),(by rw [hv]; rfl),rfl,rfl⟩,by omega⟩,⟨⟨.inl rfl,rfl,rfl,rfl⟩,⟨⟨rfl,rfl,rfl,rfl,fun _=>rfl,fun _ _=>.inl rfl⟩,⟨⟨rfl,rfl,rfl,rfl,fun _=>rfl,fun _ _=>.inl rfl⟩,⟨⟨rfl,rfl,rfl,rfl,fun _=>rfl,fun _ _=>.inl rfl⟩,⟨⟨rfl,rfl,rfl,rfl,fun _=>rfl,fun _ _=>.inl rfl⟩,trivial⟩⟩⟩⟩,trivial⟩⟩
      by_cases e2 : j = 2
      ·subst e2
       have g0 : (lw (T.getD k tri0) (h,f,0) 2).natAbs ≤ 8000000 := b2
       have g1 : (lw (T.getD k tri0) (h,f,0) 2 * (T.getD (k : Int).toNat tri0).2.2.2).natAbs ≤ 8000000 * 100 := m1 2
       have g2 : (lw (T.getD k tri0) (h,f,0) 2 * (T.getD k tri0).2.2.1.2.2).natAbs ≤ 8000000 * 10000 := m2 2
       have g3 : (u + lw (T.getD k tri0) (h,f,0) 2 * (T.getD (k : Int).toNat tri0).2.2.2).natAbs ≤ (2 + 1) * (8000000 * 100) := by rw [hu]; exact s1 (2 + 1)
       have g4 : (v + lw (T.getD k tri0) (h,f,0) 2 * (T.getD k tri0).2.2.1.2.2).natAbs ≤ (2 + 1) * (8000000 * 10000) := by rw [hv]; exact s2 (2 + 1)
       conv=>whnf
       conv=>whnf
       (conv=>whnf); refine ⟨[],by kernel_rfl,?_⟩
       conv=>whnf
       conv=>whnf
       (conv=>whnf); refine ⟨⟨(by omega),(by omega)⟩,?_⟩
       conv=>whnf
       conv=>whnf
       (conv=>whnf); refine ⟨⟨(by omega),(by omega)⟩,?_⟩
       conv=>whnf
       conv=>whnf
       (conv=>whnf); refine ⟨⟨(by omega),(by omega)⟩,?_⟩
       conv=>whnf
       conv=>whnf
       (conv=>whnf); refine ⟨inK64 (by omega) (by omega),?_⟩
       conv=>whnf
       conv=>whnf
       (conv=>whnf); refine ⟨inK64 (by omega) (by omega),?_⟩
       conv=>whnf
       conv=>whnf
       (conv=>whnf); refine ⟨⟨(by omega),(by omega)⟩,?_⟩
       conv=>whnf
       conv=>whnf
       (conv=>whnf); refine ⟨⟨(by omega),(by omega)⟩,?_⟩
       conv=>whnf
       conv=>whnf
       (conv=>whnf); refine ⟨inK64 (by omega) (by omega),?_⟩
       conv=>whnf
       conv=>whnf
       (conv=>whnf); refine ⟨inK64 (by omega) (by omega),?_⟩
       conv=>whnf
       conv=>whnf
       (conv=>whnf); refine ⟨inK64 (by omega) (by omega),?_⟩
       conv=>whnf
       conv=>whnf
       (conv=>whnf); refine ⟨_,_,⟨⟨2 + 1,u + lw (T.getD k tri0) (h,f,0) 2 * (T.getD k tri0).2.2.2,v + lw (T.getD k tri0) (h,f,0) 2 * (T.getD k tri0).2.2.1.2.2,_,by omega,(by rw [hu]; rfl),(by rw [hv]; rfl),rfl,rfl⟩,by omega⟩,⟨⟨.inl rfl,rfl,rfl,rfl⟩,⟨⟨rfl,rfl,rfl,rfl,fun _=>rfl,fun _ _=>.inl rfl⟩,⟨⟨rfl,rfl,rfl,rfl,fun _=>rfl,fun _ _=>.inl rfl⟩,⟨⟨rfl,rfl,rfl,rfl,fun _=>rfl,fun _ _=>.inl rfl⟩,⟨⟨rfl,rfl,rfl,rfl,fun _=>rfl,fun _ _=>.inl rfl⟩,trivial⟩⟩⟩⟩,trivial⟩⟩
      obtain rfl : j = 3 := by omega
      have a1 := s1 3
      have a2 := s2 3
      have c119a := S119 u (lw (T.getD k tri0) (h,f,0) 0 + lw (T.getD k tri0) (h,f,0) 1 + lw (T.getD k tri0) (h,f,0) 2) (by omega) (by omega) (by omega)
      have c119b := S119 v (lw (T.getD k tri0) (h,f,0) 0 + lw (T.getD k tri0) (h,f,0) 1 + lw (T.getD k tri0) (h,f,0) 2) (by omega) (by omega) (by omega)
      rw [show Rat.divInt u (lw (T.getD k tri0) (h,f,0) 0 + lw (T.getD k tri0) (h,f,0) 1 + lw (T.getD k tri0) (h,f,0) 2) = (lcQ (T.getD k tri0) (h,f,0)).1 by rw [hsum,hu]; rfl] at c119a
      rw [show Rat.divInt v (lw (T.getD k tri0) (h,f,0) 0 + lw (T.getD k tri0) (h,f,0) 1 + lw (T.getD k tri0) (h,f,0) 2) = (lcQ (T.getD k tri0) (h,f,0)).2 by rw [hsum,hv]; rfl] at c119b
      have c118 := S118 L (lcQ (T.getD k tri0) (h,f,0)) (by omega) hLr (lcQ_rk hx hpt)
      conv=>whnf
      conv=>whnf
      (conv=>whnf); refine ⟨⟨(by omega),(by omega)⟩,?_⟩
      conv=>whnf
      conv=>whnf
      (conv=>whnf); refine ⟨⟨(by omega),(by omega)⟩,?_⟩
      conv=>whnf
      conv=>whnf
      (conv=>whnf); refine ⟨inK64 (by omega) (by omega),?_⟩
      conv=>whnf
      conv=>whnf
      (conv=>whnf); refine ⟨⟨(by omega),(by omega)⟩,?_⟩
      conv=>whnf
      conv=>whnf
      (conv=>whnf); refine ⟨inK64 (by omega) (by omega),?_⟩
      conv=>whnf
      conv=>whnf
      (conv=>whnf); refine .inl ⟨_,_,byX rfl (c119a),?_⟩
      conv=>whnf
      conv=>whnf
      (conv=>whnf); refine .inl ⟨_,_,byX rfl (c119b),?_⟩
      conv=>whnf
      conv=>whnf
      (conv=>whnf); refine .inl ⟨_,_,byX rfl (c118),?_⟩
      conv=>whnf
      conv=>whnf
      (conv=>whnf); refine ⟨inK64 (by omega) (by omega),?_⟩
      conv=>whnf
      conv=>whnf
      (conv=>whnf); refine ⟨_,_,⟨⟨k + 1,putL lt2 L (lcQ (T.getD k tri0) (h,f,0)),_,by omega,(by rw [hTk,lcs_yes hin,putAll_snoc,← hL]),(by have := putL_len2 L (lcQ (T.getD k tri0) (h,f,0)); omega),rfl,rfl⟩,by omega⟩,⟨⟨.inl rfl,rfl,rfl,rfl⟩,⟨⟨rfl,rfl,rfl,rfl,fun _=>rfl,fun _ _=>.inl rfl⟩,⟨⟨rfl,rfl,rfl,rfl,fun _=>rfl,fun _ _=>.inl rfl⟩,trivial⟩⟩,trivial⟩⟩
  ·(exfalso; omega)
 ·have e : L = M := by rw [hL,hM,List.take_of_length_le (by omega)]
  rw [← e]
  conv=>whnf
  (conv=>whnf); refine ifB_dec (fun w1=>?_) (fun w1=>?_)
  ·(exfalso; omega)
  ·conv=>whnf
   (conv=>whnf); refine ⟨?_,nofun⟩
   exact ⟨rfl,rfl,fun _ _=>rfl⟩
end Go.Tr

/- The law of the locations: MachineLocations. Conditions: none. -/
-- seat YtgbdlkajmmjahaaGreat
namespace Go.Tr
open Go Go.Proofs
set_option maxRecDepth 20000
set_option maxHeartbeats 8000000

theorem putAll_len2 (l : List Q2) : (putAll lt2 l).length ≤ l.length := by
 induction l using snoc_ind with
 | h0=>exact Nat.le_refl _
 | hs l x ih =>
  rw [putAll_snoc]
  have := putL_len2 (putAll lt2 l) x
  rw [List.length_append]
  simp only [List.length_cons,List.length_nil]
  omega
theorem lcS_mem {t : List MRow} {h f : Int} (x : Q2) : x ∈ lcS t (h,f,0) ↔ x ∈ locL t h f := putAll_mem _ _
theorem lcS_all {t : List MRow} {h f : Int} : allS2 (locL t h f) = allS2 (lcS t (h,f,0)) := allS2_mem fun x=>(lcS_mem x).symm
theorem len_pos {α : Type} {L M : List α} (h : ∀ x,x ∈ L ↔ x ∈ M) : 0 < L.length ↔ 0 < M.length := by
  rw [List.length_pos_iff_exists_mem,List.length_pos_iff_exists_mem]
  exact ⟨fun ⟨x,hx⟩=>⟨x,(h x).1 hx⟩,fun ⟨x,hx⟩=>⟨x,(h x).2 hx⟩⟩
theorem locA_eq {t : List MRow} {h f : Int} (h0 : locE t h f = 0) : (allS2 (lcS t (h,f,0)) = true → locA t h f = lcS t (h,f,0) ∧ locR t h f = if 0 < (lcS t (h,f,0)).length then 0 else 12) ∧ (¬ allS2 (lcS t (h,f,0)) = true → locA t h f = [] ∧ locR t h f = 8) := by
 unfold locA locR
 rw [if_pos h0,if_pos h0,lcS_all]
 refine ⟨fun g=>?_,fun g=>?_⟩
 ·rw [if_pos g,if_pos g]
  have e : (0 < (locL t h f).length) = (0 < (lcS t (h,f,0)).length) := propext (len_pos fun x=>(lcS_mem x).symm)
  refine ⟨rfl,?_⟩
  simp only [e]
 ·rw [if_neg g,if_neg g]; exact ⟨rfl,rfl⟩
theorem all_of {L : List Q2} (h : ∀ j,j < L.length → sm2 (L.getD j q2z)) : allS2 L = true := by
 unfold allS2
 rw [List.all_eq_true]
 intro x hx
 obtain ⟨j,hj,e⟩ := List.getElem_of_mem hx
 have := h j hj
 rw [List.getD_eq_getElem?_getD,List.getElem?_eq_getElem hj,Option.getD_some,e] at this
 exact decide_eq_true this
theorem all_at {L : List Q2} (h : allS2 L = true) {j : Nat} (hj : j < L.length) : sm2 (L.getD j q2z) := of_decide_eq_true (List.all_eq_true.1 h _ (getD_memG hj))
theorem okR_1 {q : Rat} (h : smR q) : okR q = frI q := if_pos h
set_option maxHeartbeats 16000000 in
theorem S9 (t : List MRow) (h1 : t.length ≤ 9223372036854775807) (h f : Int) : SP 9 [tblA t, i64 h, i64 f] (vb true) false := by
 have h14 := S14
 have h15 := S15 t h1
 by_cases hw : fewT t = true
 ·rw [hw] at h15
  have ht := few_fit hw
  have h17 := S17 t ht
  have h39 := S39 t ht
  have h44 := S44 t ht h f
  have h29a := S29 h
  have h29b := S29 f
  change SP 29 _ (i64 (szE h)) false at h29a
  change SP 29 _ (i64 (szE f)) false at h29b
  by_cases h0 : locE t h f = 0
  ·obtain ⟨hT, hh, hf⟩ := locE_ok h0
   have hR := RwOk.ofT hT
   have h45 := S45 t hT h f hh hf
   have hc : (chkM t).2 = 0 := by rw [chk_ok hT]
   have hz1 : szE h = 0 := if_pos hh
   have hz2 : szE f = 0 := if_pos hf
   rw [hc] at h39
   rw [hz1] at h29a
   rw [hz2] at h29b
   have hA := locA_eq h0
   have hn := hR.n
   have hnp := hR.np
   have hQl : (lcS t (h,f,0)).length ≤ 60 := by
    have a1 := putAll_len2 (lcs (h,f,0) (triT t (t.length - 1)))
    have a2 := lcs_len (h,f,0) (triT t (t.length - 1))
    have a3 := triT_len t (t.length - 1)
    have := Nat.mul_le_mul (show t.length - 1 ≤ 5 by omega) (show 2 * (npT t - 1) ≤ 10 by omega)
    have e : lcS t (h,f,0) = putAll lt2 (lcs (h,f,0) (triT t (t.length - 1))) := rfl
    rw [e]
    omega
   generalize lcS t (h,f,0) = Q at *
   generalize locA t h f = A at *
   generalize locR t h f = E at *
   have hb : Tryz.prog.types[99].bytes = 32 := by kernel_rfl
   refine sound (d := 2) tok2 mixed2 Tryz.func9 (by kernel_rfl) (by kernel_rfl) ?_
   (conv=>whnf); refine .inl ⟨_,_,byX rfl (Sound1.pl (h14) rfl),?_⟩
   (conv=>whnf); refine .inl ⟨_,_,byX rfl (Sound1.pl (h15) rfl),?_⟩
   (conv=>whnf); refine .inl ⟨_,_,byX rfl (h17),?_⟩
   (conv=>whnf); refine .inl ⟨_,_,byX rfl (h44),?_⟩
   (conv=>whnf); refine .inl ⟨_,_,byX rfl (Sound1.pl (h39) rfl),?_⟩
   (conv=>whnf); refine .inl ⟨_,_,byX rfl (Sound1.pl (h29a) rfl),?_⟩
   (conv=>whnf); refine .inl ⟨_,_,byX rfl (Sound1.pl (h29b) rfl),?_⟩
   (conv=>whnf); refine .inl ⟨_,_,byX rfl (h45),?_⟩
   (conv=>whnf); refine ⟨[.slot 11 4],[7,8,10,11,12],fun st mq=>∃ (k : Nat) (F0 : Nat → List AV),(k ≤ Q.length) ∧ (∀ j,j < k → sm2 (Q.getD j q2z)) ∧ st = ⟨[(7,lcsA A),(8,i64 E),(10,lgs Q),(11,.oslice 1 0 0 k none),(12,i64 k)],⟨[⟨1,1,F0,0,false,true,false⟩,⟨4,k,fun i=>lcC (fr2 (Q.getD i q2z)),0,false,true,false⟩],[],none,0⟩,[]⟩ ∧ mq = Q.length - k,
    ⟨_,_,⟨0,_,by omega,fun j h=>absurd h (Nat.not_lt_zero j),rfl,rfl⟩,⟨⟨.inl rfl,rfl,rfl,rfl⟩,⟨⟨rfl,rfl,rfl,rfl,fun _=>rfl,fun _ _=>.inl rfl⟩,⟨⟨rfl,rfl,rfl,rfl,fun _=>rfl,fun i h=>.inl (absurd h (Nat.not_lt_zero i))⟩,trivial⟩⟩,trivial⟩⟩,?_⟩
   rintro s0 m0 ⟨k,F0,hk,hs,rfl,hmeas⟩
   by_cases hlt : k < Q.length
   ·have c1 := S41 (Q.getD k q2z).1
    have c2 := S41 (Q.getD k q2z).2
    have n1 : (k + 1) * (Tryz.prog.types[99].bytes + 1) ≤ 1000000000000 := by rw [hb]; omega
    by_cases g1 : smR (Q.getD k q2z).1
    ·by_cases g2 : smR (Q.getD k q2z).2
     ·rw [decide_eq_true g1,okR_1 g1] at c1
      rw [decide_eq_true g2,okR_1 g2] at c2
      conv=>whnf
      (conv=>whnf); refine ifB_dec (fun w1=>?_) (fun w1=>?_)
      ·conv=>whnf
       (conv=>whnf); refine ⟨⟨(by omega),(by omega)⟩,?_⟩
       conv=>whnf
       (conv=>whnf); refine .inl ⟨_,_,byX rfl (Sound1.pl (c1) rfl),?_⟩
       conv=>whnf
       (conv=>whnf); refine ⟨⟨(by omega),(by omega)⟩,?_⟩
       conv=>whnf
       (conv=>whnf); refine .inl ⟨_,_,byX rfl (Sound1.pl (c2) rfl),?_⟩
       conv=>whnf
       (conv=>whnf); refine .inl ?_
       conv=>whnf
       (conv=>whnf); refine ⟨(by show _ * (32 + 1) ≤ _; omega),?_⟩
       conv=>whnf
       (conv=>whnf); refine ⟨inK64 (by omega) (by omega),?_⟩
       conv=>whnf
       (conv=>whnf); refine ⟨_,_,⟨⟨k + 1,_,by omega,(fun j hj=>by by_cases e : j = k; (rw [e]; exact ⟨g1,g2⟩); exact hs j (by omega)),rfl,rfl⟩,by omega⟩,⟨⟨.inl rfl,rfl,rfl,rfl⟩,⟨⟨rfl,rfl,rfl,rfl,fun _=>rfl,fun _ _=>.inl rfl⟩,⟨⟨rfl,rfl,rfl,rfl,fun _=>rfl,fun i hi=>.inl (ap1 rfl rfl i hi)⟩,trivial⟩⟩,trivial⟩⟩
      ·(exfalso; omega)
     ·have hno : ¬ allS2 Q = true := fun e=>g2 (all_at e hlt).2
      obtain ⟨rfl,rfl⟩ := hA.2 hno
      rw [decide_eq_false g2] at c2
      rw [decide_eq_true g1] at c1
      conv=>whnf
      (conv=>whnf); refine ifB_dec (fun w1=>?_) (fun w1=>?_)
      ·conv=>whnf
       (conv=>whnf); refine ⟨⟨(by omega),(by omega)⟩,?_⟩
       conv=>whnf
       (conv=>whnf); refine .inl ⟨_,_,byX rfl (Sound1.pl (c1) rfl),?_⟩
       conv=>whnf
       (conv=>whnf); refine ⟨⟨(by omega),(by omega)⟩,?_⟩
       conv=>whnf
       (conv=>whnf); refine .inl ⟨_,_,byX rfl (Sound1.pl (c2) rfl),?_⟩
       conv=>whnf
       (conv=>whnf); refine ⟨?_,nofun⟩
       (first | contradiction | rfl | omega)
      ·(exfalso; omega)
    ·have hno : ¬ allS2 Q = true := fun e=>g1 (all_at e hlt).1
     obtain ⟨rfl,rfl⟩ := hA.2 hno
     rw [decide_eq_false g1] at c1
     conv=>whnf
     (conv=>whnf); refine ifB_dec (fun w1=>?_) (fun w1=>?_)
     ·conv=>whnf
      (conv=>whnf); refine ⟨⟨(by omega),(by omega)⟩,?_⟩
      conv=>whnf
      (conv=>whnf); refine .inl ⟨_,_,byX rfl (Sound1.pl (c1) rfl),?_⟩
      conv=>whnf
      (conv=>whnf); refine ⟨⟨(by omega),(by omega)⟩,?_⟩
      conv=>whnf
      (conv=>whnf); refine .inl ⟨_,_,byX rfl (Sound1.pl (c2) rfl),?_⟩
      conv=>whnf
      (conv=>whnf); refine ⟨?_,nofun⟩
      (first | contradiction | rfl | omega)
     ·(exfalso; omega)
   ·obtain rfl : k = Q.length := by omega
    obtain ⟨rfl,rfl⟩ := hA.1 (all_of hs)
    by_cases hz : A.length = 0
    ·rw [if_neg (by omega)]
     conv=>whnf
     (conv=>whnf); refine ifB_dec (fun w1=>?_) (fun w1=>?_)
     ·(exfalso; omega)
     ·conv=>whnf
      (conv=>whnf); refine ifB_beq (fun w2=>?_) (fun w2=>?_)
      ·conv=>whnf
       (conv=>whnf); refine ⟨?_,nofun⟩
       exact endb (by rw [hz]; rfl)
      ·(exfalso; omega)
    ·rw [if_pos (by omega)]
     conv=>whnf
     (conv=>whnf); refine ifB_dec (fun w1=>?_) (fun w1=>?_)
     ·(exfalso; omega)
     ·conv => whnf
      (conv=>whnf); refine ifB_beq (fun w2=>?_) (fun w2=>?_)
      ·(exfalso; omega)
      ·conv=>whnf
       (conv=>whnf); refine ifB_bne (fun w3=>?_) (fun w3=>?_)
       ·(exfalso; omega)
       ·conv=>whnf
        (conv=>whnf); refine ⟨[],[7,11,17],fun st mq=>∃ (j : Nat) (F0 : Nat → List AV),(j ≤ A.length) ∧ st = ⟨[(7,lcsA A),(11,.oslice 1 0 0 A.length none),(17,i64 j)],⟨[⟨1,1,F0,0,false,true,false⟩,⟨4,A.length,fun i=>lcC (fr2 (A.getD i q2z)),0,false,true,false⟩],[],none,0⟩,[]⟩ ∧ mq = A.length - j,
         ⟨_,_,⟨0,_,by omega,rfl,rfl⟩,⟨⟨.inl rfl,rfl,rfl,rfl⟩,⟨⟨rfl,rfl,rfl,rfl,fun _=>rfl,fun _ _=>.inl rfl⟩,⟨⟨rfl,rfl,rfl,rfl,fun _=>rfl,fun _ _=>.inl rfl⟩,trivial⟩⟩,trivial⟩⟩,?_⟩
        rintro s0 m0 ⟨j,F0,hj,rfl,hmeas⟩
        by_cases hlj : j < A.length
        ·have hv := lc_veq (A.getD (j : Int).toNat q2z) (A.getD (0 + (j : Int).toNat) q2z)
         rw [decide_eq_true (by rw [Nat.zero_add])] at hv
         conv=>whnf
         conv=>whnf
         (conv=>whnf); refine ifB_dec (fun w4=>?_) (fun w4=>?_)
         ·conv=>whnf
          conv=>whnf
          (conv=>whnf); refine ⟨[],by kernel_rfl,?_⟩
          conv=>whnf
          conv=>whnf
          (conv=>whnf); refine ⟨⟨(by omega),(by omega)⟩,?_⟩
          conv=>whnf
          conv=>whnf
          (conv=>whnf); refine ⟨⟨(by omega),(by omega)⟩,?_⟩
          conv=>whnf
          conv=>whnf
          (conv=>whnf); refine ifB_not ?_
          conv=>whnf
          conv=>whnf
          (conv=>whnf); refine ifB_intro (fun w5=>?_) (fun w5=>?_)
          ·conv=>whnf
           conv=>whnf
           (conv=>whnf); refine ⟨inK64 (by omega) (by omega),?_⟩
           conv=>whnf
           conv=>whnf
           (conv=>whnf); refine ⟨_,_,⟨⟨j + 1,_,by omega,rfl,rfl⟩,by omega⟩,⟨⟨.inl rfl,rfl,rfl,rfl⟩,⟨⟨rfl,rfl,rfl,rfl,fun _=>rfl,fun _ _=>.inl rfl⟩,⟨⟨rfl,rfl,rfl,rfl,fun _=>rfl,fun _ _=>.inl rfl⟩,trivial⟩⟩,trivial⟩⟩
          ·exact absurd (hv.symm.trans w5) nofun
         ·(exfalso; omega)
        ·conv=>whnf
         conv=>whnf
         (conv=>whnf); refine ifB_dec (fun w4=>?_) (fun w4=>?_)
         ·(exfalso; omega)
         ·conv=>whnf
          conv=>whnf
          (conv=>whnf); refine ⟨?_,nofun⟩
          (first | contradiction | rfl | omega)
  ·have eA : locA t h f = [] := if_neg h0
   have eR : locR t h f = locE t h f := if_neg h0
   rw [eA,eR] at h44
   unfold locE at h44 h0
   by_cases e1 : (chkM t).2 = 0
   ·rw [if_neg (not_not_intro e1)] at h44 h0
    rw [e1] at h39
    by_cases e2 : szE h = 0
    ·rw [if_neg (not_not_intro e2)] at h44 h0
     rw [e2] at h29a
     refine sound (d := 2) tok2 mixed2 Tryz.func9 (by kernel_rfl) (by kernel_rfl) ?_
     (conv=>whnf); refine .inl ⟨_,_,byX rfl (Sound1.pl (h14) rfl),?_⟩
     (conv=>whnf); refine .inl ⟨_,_,byX rfl (Sound1.pl (h15) rfl),?_⟩
     (conv=>whnf); refine .inl ⟨_,_,byX rfl (h17),?_⟩
     (conv=>whnf); refine .inl ⟨_,_,byX rfl (h44),?_⟩
     (conv=>whnf); refine .inl ⟨_,_,byX rfl (Sound1.pl (h39) rfl),?_⟩
     (conv=>whnf); refine .inl ⟨_,_,byX rfl (Sound1.pl (h29a) rfl),?_⟩
     (conv=>whnf); refine .inl ⟨_,_,byX rfl (Sound1.pl (h29b) rfl),?_⟩
     (conv=>whnf); refine ifB_bne (fun w1=>?_) (fun w1=>?_)
     ·(conv=>whnf); refine ifB_beq (fun w2=>?_) (fun w2=>?_)
      ·(conv=>whnf); refine ⟨?_,nofun⟩
       (first | contradiction | rfl | omega)
      ·(exfalso; omega)
     ·(exfalso; omega)
    ·rw [if_pos e2] at h44 h0
     refine sound (d := 2) tok2 mixed2 Tryz.func9 (by kernel_rfl) (by kernel_rfl) ?_
     (conv=>whnf); refine .inl ⟨_,_,byX rfl (Sound1.pl (h14) rfl),?_⟩
     (conv=>whnf); refine .inl ⟨_,_,byX rfl (Sound1.pl (h15) rfl),?_⟩
     (conv=>whnf); refine .inl ⟨_,_,byX rfl (h17),?_⟩
     (conv=>whnf); refine .inl ⟨_,_,byX rfl (h44),?_⟩
     (conv=>whnf); refine .inl ⟨_,_,byX rfl (Sound1.pl (h39) rfl),?_⟩
     (conv=>whnf); refine .inl ⟨_,_,byX rfl (Sound1.pl (h29a) rfl),?_⟩
     (conv=>whnf); refine ifB_beq (fun w1=>?_) (fun w1=>?_)
     ·(exfalso; omega)
     ·(conv=>whnf); refine ifB_bne (fun w2=>?_) (fun w2=>?_)
      ·(conv=>whnf); refine ifB_beq (fun w3=>?_) (fun w3=>?_)
       ·(conv=>whnf); refine ⟨?_,nofun⟩
        (first | contradiction | rfl | omega)
       ·(exfalso; omega)
      ·(exfalso; omega)
   ·rw [if_pos e1] at h44 h0
    refine sound (d := 2) tok2 mixed2 Tryz.func9 (by kernel_rfl) (by kernel_rfl) ?_
    (conv=>whnf); refine .inl ⟨_,_,byX rfl (Sound1.pl (h14) rfl),?_⟩
    (conv=>whnf); refine .inl ⟨_,_,byX rfl (Sound1.pl (h15) rfl),?_⟩
    (conv=>whnf); refine .inl ⟨_,_,byX rfl (h17),?_⟩
    (conv=>whnf); refine .inl ⟨_,_,byX rfl (h44),?_⟩
    (conv=>whnf); refine .inl ⟨_,_,byX rfl (Sound1.pl (h39) rfl),?_⟩
    (conv=>whnf); refine ifB_beq (fun w1=>?_) (fun w1=>?_)
    ·(exfalso; omega)
    ·(conv=>whnf); refine ifB_beq (fun w2=>?_) (fun w2=>?_)
     ·(exfalso; omega)
     ·(conv=>whnf); refine ifB_bne (fun w3=>?_) (fun w3=>?_)
      ·(conv=>whnf); refine ifB_beq (fun w4=>?_) (fun w4=>?_)
       ·(conv=>whnf); refine ⟨?_,nofun⟩
        (first | contradiction | rfl | omega)
       ·(exfalso; omega)
      ·(exfalso; omega)
 ·have hw' : fewT t = false := by simpa using hw
  rw [hw'] at h15
  refine sound (d := 2) tok2 mixed2 Tryz.func9 (by kernel_rfl) (by kernel_rfl) ?_
  (conv=>whnf); refine .inl ⟨_,_,byX rfl (Sound1.pl (h14) rfl),?_⟩
  (conv=>whnf); refine .inl ⟨_,_,byX rfl (Sound1.pl (h15) rfl),?_⟩
  (conv=>whnf); refine ⟨?_,nofun⟩
  (first | contradiction | rfl | omega)
end Go.Tr

/- The opening of a law: what an argument reads as, as abstract values, with its shape. Conditions: types of numbers, truth values, strings, slices, structs and arrays. -/
namespace Go.Tr
open Go Go.RowKit

def V2 (P : Program) (w : World) (q : Nat → Prop) : List AV → List Value → Prop
 | [],[]=>True
 | x :: xs,v :: vs=>(VT P w q x v ∧ v.oneCell' = true) ∧ V2 P w q xs vs
 | _,_=>False

def All2 {α β : Type} (p : α → β → Prop) : List α → List β → Prop
 | [],[]=>True
 | x :: xs,y :: ys=>p x y ∧ All2 p xs ys
 | _,_=>False

def TyC (P : Program) : Nat → TypeId → List AV → Prop
 | 0,_,_=>True
 | m + 1,t,xs=>match P.underlying t with
  | some .bool=>∃ b,xs = [.val (.bool b)]
  | some (.int k)=>∃ n,xs = [.val (.int k n)] ∧ inK k n
  | some .string=>∃ s : ByteArray,xs = [.val (.string s)] ∧ s.size ≤ 9223372036854775807
  | some (.slice e)=>∃ len f,xs = [.rslice (P.cellsOf e) len f] ∧ len ≤ 9223372036854775807 ∧ ∀ i,i < len → TyC P m e (f i)
  | some (.struct fs)=>∃ ps : List (List AV),xs = ps.flatten ∧ All2 (fun f p=>TyC P m f.type p) fs.toList ps
  | some (.array n e)=>∃ ps : List (List AV),xs = ps.flatten ∧ ps.length = n ∧ ∀ p ∈ ps,TyC P m e p
  | _=>False

def layF (P : Program) (g : TypeId → Bool) : List Field → Nat → Nat → Bool
 | [],off,tot=>Nat.beq off tot
 | f :: r,off,tot=>Nat.beq f.offset off && g f.type && layF P g r (off + P.cellsOf f.type) tot

def lay (P : Program) : Nat → TypeId → Bool
 | 0,_=>false
 | m + 1,t=>match P.underlying t with
  | some .bool | some (.int _) | some .string=>true
  | some (.slice e)=>Nat.blt 0 (P.cellsOf e) && lay P m e
  | some (.struct fs)=>layF P (lay P m) fs.toList 0 (P.cellsOf t)
  | some (.array n e)=>Nat.beq (P.cellsOf t) (n * P.cellsOf e) && lay P m e
  | _=>false

section
variable {H : Type} {enc : TypeId × Value → H} {P : Program} {w : World} {spare : Nat → Bool} {held : Bool} {q : Nat → Prop}

theorem V2_len : ∀ {xs : List AV} {vs : List Value},V2 P w q xs vs → xs.length = vs.length
 | [],[],_=>rfl
 | x :: xs,v :: vs,h=>by simp [V2_len h.2]
 | [],_ :: _,h=>h.elim
 | _ :: _,[],h=>h.elim

theorem V2_append : ∀ {xs : List AV} {vs : List Value} {ys : List AV} {us : List Value},V2 P w q xs vs → V2 P w q ys us → V2 P w q (xs ++ ys) (vs ++ us)
 | [],[],_,_,_,h=>h
 | _ :: _,_ :: _,_,_,h,h'=>⟨h.1,V2_append h.2 h'⟩
 | [],_ :: _,_,_,h,_=>h.elim
 | _ :: _,[],_,_,h,_=>h.elim

theorem V2_get : ∀ {xs : List AV} {vs : List Value},V2 P w q xs vs → ∀ (i : Nat) x,xs[i]? = some x → VT P w q x (vs.getD i undef) ∧ (vs.getD i undef).oneCell' = true
 | [],[],_,i,x,hx=>by simp at hx
 | y :: ys,v :: vs,h,0,x,hx=>by
  simp at hx
  subst hx
  simpa using h.1
 | y :: ys,v :: vs,h,i + 1,x,hx=>by
  have := V2_get h.2 i x (by simpa using hx)
  simpa using this
 | [],_ :: _,h,_,_,_=>h.elim
 | _ :: _,[],h,_,_,_=>h.elim

theorem mapM_cons_some {α β : Type} {f : α → Option β} {a : α} {l : List α} {r : List β} (h : (a :: l).mapM f = some r) : ∃ b bs,f a = some b ∧ l.mapM f = some bs ∧ r = b :: bs := by
 rw [List.mapM_cons] at h
 cases ha : f a with
 | none=>simp [ha] at h
 | some b =>
  cases hl : l.mapM f with
  | none=>simp [ha,hl] at h
  | some bs=>simp [ha,hl] at h; exact ⟨b,bs,rfl,rfl,h.symm⟩

theorem mapM_get {α β : Type} {f : α → Option β} : ∀ {l : List α} {r : List β},l.mapM f = some r → r.length = l.length ∧ ∀ (i : Nat) x,l[i]? = some x → ∃ y,f x = some y ∧ r[i]? = some y
 | [],r,h=>by simp at h; subst h; exact ⟨rfl,fun i x hx=>by simp at hx⟩
 | a :: l,r,h=>by
  obtain ⟨b,bs,h1,h2,rfl⟩ := mapM_cons_some h
  obtain ⟨g1,g2⟩ := mapM_get h2
  refine ⟨by simp [g1],fun i x hx=>?_⟩
  cases i with
  | zero=>simp at hx; subst hx; exact ⟨b,h1,rfl⟩
  | succ i=>simpa using g2 i x (by simpa using hx)

theorem cells_some {a : Addr} {n : Nat} {cs : List Value} (h : w.cells? 0 a n = some cs) : cs.length = n ∧ ∀ j,j < n → w.cell? (a.add j) = some (cs.getD j undef) := by
 unfold World.cells? at h
 rw [if_pos (Nat.zero_le _)] at h
 obtain ⟨h1,h2⟩ := mapM_get h
 refine ⟨by simpa using h1,fun j hj=>?_⟩
 obtain ⟨y,h3,h4⟩ := h2 j j (by simp [hj])
 rw [h3,List.getD_eq_getElem?_getD,h4]
 rfl

theorem cell_spot {a : Addr} {v : Value} (h : w.cell? a = some v) : a.spot = none ∧ a.block < w.heap.size := by
 unfold World.cell? at h
 split at h
 ·rename_i c t fr hb
  refine ⟨?_,?_⟩
  ·cases hs : a.spot with
   | none=>rfl
   | some s=>simp [hs] at h
  ·exact (Array.getElem?_eq_some_iff.1 hb).1
 ·cases h

theorem addr_add2 (blk off u j : Nat) : ((⟨blk,off,none⟩ : Addr).add u).add j = ⟨blk,off + (u + j),none⟩ := by
 unfold Addr.add
 by_cases h1 : u = 0
 ·subst h1
  by_cases h2 : j = 0
  ·subst h2; rfl
  ·simp [h2]
 ·by_cases h2 : j = 0
  ·subst h2; simp [h1]
  ·simp [h1,h2,Nat.add_assoc]

theorem fields_av {g : TypeId → List Value → Option (DataW H × List MemPlace)} {T : TypeId → List AV → Prop} {ly : TypeId → Bool}
  (ih : ∀ t,ly t = true → ∀ cs x,g t cs = some x → ∃ xs,V2 P w q xs cs ∧ T t xs) (cs : List Value) : ∀ (fs : List Field) (off : Nat) (r : List (DataW H × List MemPlace)),layF P ly fs off cs.length = true →
  (fs.mapM fun f=>g f.type ((cs.drop f.offset).take (P.cellsOf f.type))) = some r → ∃ ps : List (List AV),V2 P w q ps.flatten (cs.drop off) ∧ All2 (fun f p=>T f.type p) fs ps
 | [],off,r,hl,h=>by
  have := Nat.eq_of_beq_eq_true hl
  subst this
  exact ⟨[],by simp [V2],trivial⟩
 | f :: fs, off, r, hl, h => by
  simp only [layF,Bool.and_eq_true] at hl
  obtain ⟨⟨h1,h2⟩,h3⟩ := hl
  have e := Nat.eq_of_beq_eq_true h1
  obtain ⟨b,bs,g1,g2,rfl⟩ := mapM_cons_some h
  obtain ⟨p,p1,p2⟩ := ih _ h2 _ _ g1
  obtain ⟨ps,r1,r2⟩ := fields_av ih cs fs _ _ h3 g2
  refine ⟨p :: ps,?_,p2,r2⟩
  rw [List.flatten_cons]
  have : cs.drop off = (cs.drop f.offset).take (P.cellsOf f.type) ++ cs.drop (off + P.cellsOf f.type) := by
   rw [e,← List.drop_drop]
   exact (List.take_append_drop _ _).symm
  rw [this]
  exact V2_append p1 r1

theorem items_av {g : List Value → Option (DataW H × List MemPlace)} {T : List AV → Prop} (ih : ∀ cs x,g cs = some x → ∃ xs,V2 P w q xs cs ∧ T xs) (cs : List Value) (s n : Nat) (hn : cs.length = n * s)
  (h : ∀ i,i < n → ∃ x,g ((cs.drop (i * s)).take s) = some x) : ∀ (k i : Nat),i + k = n → ∃ ps : List (List AV),V2 P w q ps.flatten (cs.drop (i * s)) ∧ ps.length = k ∧ ∀ p ∈ ps,T p
 | 0,i,hi=>by
  have : i = n := by omega
  subst this
  refine ⟨[],?_,rfl,nofun⟩
  rw [List.drop_eq_nil_of_le (by omega)]
  exact trivial
 | k + 1, i, hi => by
  obtain ⟨x,hx⟩ := h i (by omega)
  obtain ⟨p,p1,p2⟩ := ih _ _ hx
  obtain ⟨ps,r1,r2,r3⟩ := items_av ih cs s n hn h k (i + 1) (by omega)
  refine ⟨p :: ps,?_,by simp [r2],fun y hy=>?_⟩
  ·rw [List.flatten_cons]
   have : cs.drop (i * s) = (cs.drop (i * s)).take s ++ cs.drop ((i + 1) * s) := by
    rw [Nat.succ_mul,← List.drop_drop]
    exact (List.take_append_drop _ _).symm
   rw [this]
   exact V2_append p1 r1
  ·rcases List.mem_cons.1 hy with rfl | hy
   ·exact p2
   ·exact r3 y hy

theorem trod_av (hq : ∀ b, b < w.heap.size → q b) : ∀ (m : Nat) (t : TypeId), lay P m t = true → ∀ (fuel : Nat) (cs : List Value) (x : DataW H × List MemPlace), DataW.trod enc P w 0 spare held fuel t cs = some x → ∃ xs, V2 P w q xs cs ∧ TyC P m t xs
 | 0,t,hl,_,_,_,_=>by simp [lay] at hl
 | m + 1,t,hl,0,cs,x,h=>by simp [DataW.trod] at h
 | m + 1, t, hl, fuel + 1, cs, x, h => by
  unfold lay at hl
  unfold TyC
  unfold DataW.trod at h
  cases hu : P.underlying t with
  | none=>simp [hu] at hl
  | some d =>
   simp only [hu] at hl h ⊢
   cases d with
   | bool =>
    split at h <;> first | (cases h; done) | (rename_i e; cases e; done) | skip
    cases h
    exact ⟨[.val (.bool _)],⟨⟨.val _,rfl⟩,trivial⟩,_,rfl⟩
   | int k =>
    split at h <;> first | (cases h; done) | (rename_i e; cases e; done) | skip
    rename_i e
    cases e
    split at h
    ·rename_i hk
     obtain ⟨rfl,hw⟩ := hk
     simp only [Lit.wf,Bool.and_eq_true,decide_eq_true_eq] at hw
     exact ⟨[.val (.int _ _)],⟨⟨.val _,rfl⟩,trivial⟩,_,rfl,hw⟩
    ·cases h
   | string =>
    split at h <;> first | (cases h; done) | (rename_i e; cases e; done) | skip
    split at h
    ·rename_i hs
     exact ⟨[.val (.string _)],⟨⟨.val _,rfl⟩,trivial⟩,_,rfl,hs⟩
    ·cases h
   | slice e =>
    simp only [Bool.and_eq_true] at hl
    split at h <;> first | (cases h; done) | (rename_i e; cases e; done) | skip
    ·exact ⟨[.rslice (P.cellsOf e) 0 fun _=>[]],⟨⟨.rslice0 _ _ _ _,rfl⟩,trivial⟩,_,_,rfl,by omega,fun i hi=>absurd hi (Nat.not_lt_zero i)⟩
    ·rename_i e0 a len cap e1
     cases e1
     split at h
     case isFalse=>cases h
     rename_i hb
     have hes : 0 < P.cellsOf e := Nat.le_of_ble_eq_true hl.1
     cases hM : (List.range len).mapM fun i=>(w.cells? 0 (a.add (i * P.cellsOf e)) (P.cellsOf e)).bind (DataW.trod enc P w 0 spare held fuel e) with
     | none=>rw [hM] at h; cases h
     | some elems =>
      obtain ⟨_,g2⟩ := mapM_get hM
      have hx : ∀ i,∃ xs : List AV,i < len → ∃ cs,(cs.length = P.cellsOf e ∧ ∀ j,j < P.cellsOf e → w.cell? ((a.add (i * P.cellsOf e)).add j) = some (cs.getD j undef)) ∧ V2 P w q xs cs ∧ TyC P m e xs := fun i=>by
       by_cases hi : i < len
       ·obtain ⟨y,y1,_⟩ := g2 i i (by simp [hi])
        cases hc : w.cells? 0 (a.add (i * P.cellsOf e)) (P.cellsOf e) with
        | none=>rw [hc] at y1; cases y1
        | some cs1 =>
         rw [hc] at y1
         obtain ⟨xs,x1,x2⟩ := trod_av hq m e hl.2 _ _ _ y1
         exact ⟨xs,fun _=>⟨cs1,cells_some hc,x1,x2⟩⟩
       ·exact ⟨[],fun h=>absurd h hi⟩
      have hf := fun i=>(Classical.choose_spec (hx i))
      generalize hF : (fun i=>Classical.choose (hx i)) = F
      have hf : ∀ i,i < len → ∃ cs,(cs.length = P.cellsOf e ∧ ∀ j,j < P.cellsOf e → w.cell? ((a.add (i * P.cellsOf e)).add j) = some (cs.getD j undef)) ∧ V2 P w q (F i) cs ∧ TyC P m e (F i) := fun i hi=>by
       have := Classical.choose_spec (hx i) hi
       rw [← hF]
       exact this
      refine ⟨[.rslice (P.cellsOf e) len F],⟨⟨?_,rfl⟩,trivial⟩,len,F,rfl,?_,fun i hi=>?_⟩
      ·rcases Nat.eq_zero_or_pos len with rfl | hp
       ·exact .rslice0 _ _ _ _
       ·obtain ⟨cs0,c1,_,_⟩ := hf 0 hp
        have hc0 := c1.2 0 hes
        have e0 : ((a.add (0 * P.cellsOf e)).add 0) = a := by simp [Addr.add]
        rw [e0] at hc0
        obtain ⟨s1,s2⟩ := cell_spot hc0
        obtain ⟨blk,off,spot⟩ := a
        simp only at s1 s2
        subst s1
        have hG : ∀ i,∃ cs : List Value,i < len → (cs.length = P.cellsOf e ∧ ∀ j,j < P.cellsOf e → w.cell? (((⟨blk,off,none⟩ : Addr).add (i * P.cellsOf e)).add j) = some (cs.getD j undef)) ∧ V2 P w q (F i) cs := fun i=>by
         by_cases hi : i < len
         ·obtain ⟨cs,c1,c2,_⟩ := hf i hi
          exact ⟨cs,fun _=>⟨c1,c2⟩⟩
         ·exact ⟨[],fun h=>absurd h hi⟩
        refine .rslice _ _ _ blk off cap (fun i j=>(Classical.choose (hG i)).getD j undef) hb.2.1 (hq _ s2) (fun i hi=>?_) (fun i j hi hj=>?_) (fun i j x hi hx=>?_)
        ·obtain ⟨c1,c2⟩ := Classical.choose_spec (hG i) hi
         rw [V2_len c2,c1.1]
        ·obtain ⟨c1,c2⟩ := Classical.choose_spec (hG i) hi
         have hc := c1.2 j hj
         have ea : ((⟨blk,off,none⟩ : Addr).add (i * P.cellsOf e)).add j = ⟨blk,off + (i * P.cellsOf e + j),none⟩ := by
          exact addr_add2 blk off _ j
         rw [ea] at hc
         refine ⟨hc,?_⟩
         have hlt : j < (F i).length := by rw [V2_len c2,c1.1]; exact hj
         exact (V2_get c2 j _ (List.getElem?_eq_getElem hlt)).2
        ·obtain ⟨c1,c2⟩ := Classical.choose_spec (hG i) hi
         exact (V2_get c2 j x hx).1
      ·have := hb.2.2
       unfold maxLen at this
       omega
      ·obtain ⟨_,_,_,h3⟩ := hf i hi
       exact h3
   | struct fs =>
    replace h : (if cs.length = P.cellsOf t then (fs.toList.mapM fun f=>DataW.trod enc P w 0 spare held fuel f.type ((cs.drop f.offset).take (P.cellsOf f.type))).map fun xs=>(.agg (xs.map (·.1)),xs.flatMap (·.2)) else none) = some x := h
    split at h
    case isFalse=>cases h
    rename_i hc
    cases hM : fs.toList.mapM fun f=>DataW.trod enc P w 0 spare held fuel f.type ((cs.drop f.offset).take (P.cellsOf f.type)) with
    | none=>rw [hM] at h; cases h
    | some r =>
     obtain ⟨ps,p1,p2⟩ := fields_av (T := TyC P m) (ly := lay P m) (fun t ht cs x hx=>trod_av hq m t ht fuel cs x hx) cs fs.toList 0 r (by rw [hc]; exact hl) hM
     exact ⟨ps.flatten,by simpa using p1,ps,rfl,p2⟩
   | array n e =>
    simp only [Bool.and_eq_true] at hl
    replace h : (if cs.length = P.cellsOf t then ((List.range n).mapM fun i=>DataW.trod enc P w 0 spare held fuel e ((cs.drop (i * P.cellsOf e)).take (P.cellsOf e))).map fun xs=>(.agg (xs.map (·.1)),xs.flatMap (·.2)) else none) = some x := h
    split at h
    case isFalse=>cases h
    rename_i hc
    cases hM : (List.range n).mapM fun i=>DataW.trod enc P w 0 spare held fuel e ((cs.drop (i * P.cellsOf e)).take (P.cellsOf e)) with
    | none=>rw [hM] at h; cases h
    | some r =>
     obtain ⟨_,g2⟩ := mapM_get hM
     obtain ⟨ps,p1,p2,p3⟩ := items_av (T := TyC P m e) (fun cs x hx=>trod_av hq m e hl.2 fuel cs x hx) cs (P.cellsOf e) n (by rw [hc]; exact Nat.eq_of_beq_eq_true hl.1)
      (fun i hi=>by obtain ⟨y,y1,_⟩ := g2 i i (by simp [hi]); exact ⟨y,y1⟩) n 0 (by omega)
     exact ⟨ps.flatten,by simpa using p1,ps,rfl,p2,p3⟩
   | _=>simp at hl

def TyA (P : Program) (m : Nat) (t : TypeId) (x : AV) : Prop :=
 match P.underlying t with
 | some (.struct _) | some (.array _ _)=>∃ xs,x = .agg xs ∧ TyC P m t xs
 | _=>TyC P m t [x]

theorem open_av {r : Reach} {b0 : Nat} {t : TypeId} {v : Value} {d : DataW H} {ps : List MemPlace} {m : Nat} (hl : lay P m t = true) (hq : ∀ b,b < w.heap.size → q b)
  (hv : Value.okWide P w r b0 t v) (hd : DataW.Trod enc P w 0 spare held t v d ps) : ∃ x,VT P w q x v ∧ TyA P m t x := by
 obtain ⟨fuel,hf⟩ := hd
 obtain ⟨xs,h1,h2⟩ := trod_av hq m t hl fuel _ _ hf
 have agg : ∀ cs,v = .agg cs → VT P w q (.agg xs) v := by
  rintro cs rfl
  have hlen := V2_len h1
  refine .agg xs cs (by rw [hlen]; simp [Value.cells]) (fun u hu=>?_) (fun i x hx=>?_)
  ·obtain ⟨i,hi,rfl⟩ := List.getElem_of_mem hu
   have hx : i < xs.length := by rw [hlen]; simpa [Value.cells] using hi
   have := (V2_get h1 i _ (List.getElem?_eq_getElem hx)).2
   have hi' : i < cs.size := by simpa using hi
   simpa [Value.cells,List.getD_eq_getElem?_getD,hi'] using this
  ·have := (V2_get h1 i x hx).1
   simpa [Value.cells,List.getD_eq_getElem?_getD,Array.getD_eq_getD_getElem?] using this
 have one : ∀ u,v.cells.toList = [u] → v = u → ∃ x,VT P w q x v ∧ TyC P m t [x] := by
  rintro u e rfl
  rw [e] at h1
  match xs,h1,h2 with
  | [x],h1,h2=>exact ⟨x,h1.1.1,h2⟩
 unfold TyA
 unfold Value.okWide at hv
 split
 ·rename_i fs hu
  simp only [hu] at hv
  obtain ⟨cs,e,_,_⟩ := hv
  exact ⟨_,agg cs e,xs,rfl,h2⟩
 ·rename_i n e hu
  simp only [hu] at hv
  obtain ⟨cs,e,_,_⟩ := hv
  exact ⟨_,agg cs e,xs,rfl,h2⟩
 ·rename_i n1 n2
  have hc : Cell.okWide P w r b0 t v := by
   split at hv
   ·rename_i hu; exact absurd hu (n1 _)
   ·rename_i hu; exact absurd hu (n2 _ _)
   ·exact hv
  cases v with
  | agg cs =>
   simp only [Cell.okWide] at hc
   split at hc <;> first | (rename_i e _; cases e; done) | (rename_i e; cases e; done) | (simp [Cell.ok] at hc)
  | tuple cs =>
   simp only [Cell.okWide] at hc
   split at hc <;> first | (rename_i e _; cases e; done) | (rename_i e; cases e; done) | (simp [Cell.ok] at hc)
  | _=>exact one _ rfl rfl
end
end Go.Tr

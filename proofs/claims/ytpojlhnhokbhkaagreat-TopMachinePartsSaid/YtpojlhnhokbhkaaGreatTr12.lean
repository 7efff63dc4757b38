/- Plain laws of chapter 5: a part of a table has the whole one's curves and powers. Conditions: none. -/
import Derived.Test.YtpojlhnhokbhkaaGreatTr11
import Derived.Test.YtpojlhnhokbhkaaGreatTr06
import Derived.ProofKit
set_option linter.unusedSectionVars false
set_option linter.unnecessarySimpa false
set_option linter.unusedVariables false
set_option linter.unusedSimpArgs false

-- seat YtpojlhnhokbhkaaGreat
namespace Go.Tr
open Go Go.Proofs
set_option maxRecDepth 20000
set_option maxHeartbeats 8000000

def sub (t : List MRow) (a n : Nat) : List MRow := (t.drop a).take n
theorem sub_len {t : List MRow} {a n : Nat} (h : a + n ≤ t.length) : (sub t a n).length = n := by unfold sub; rw [List.length_take,List.length_drop]; omega
theorem sub_get {t : List MRow} {a n i : Nat} (h : i < n) : (sub t a n).getD i r0 = t.getD (a + i) r0 := by
  unfold sub
  rw [List.getD_eq_getElem?_getD,List.getD_eq_getElem?_getD,List.getElem?_take_of_lt h,List.getElem?_drop]
theorem sub_np {t : List MRow} {a n : Nat} (hT : TblOk t) (hn : 0 < n) (h : a + n ≤ t.length) : npT (sub t a n) = npT t := by
 unfold npT
 rw [sub_get hn,Nat.add_zero]
 exact hT.len a (by omega)
theorem sub_pt {t : List MRow} {a n i : Nat} (h : i < n) (k : Nat) : ptT (sub t a n) i k = ptT t (a + i) k := by unfold ptT; rw [sub_get h]
theorem sub_ok {t : List MRow} (hT : TblOk t) {a n : Nat} (hn : 2 ≤ n) (h : a + n ≤ t.length) : TblOk (sub t a n) := by
 have hl := sub_len h
 have hp := sub_np (a := a) (n := n) hT (by omega) h
 have ht := hT.n
 refine ⟨by omega,by rw [hp]; exact hT.np,fun i hi=>?_,fun i hi=>?_,fun i hi=>?_,fun i k hi hk=>?_,fun i k hi hk=>?_⟩
 ·rw [sub_get (by omega),hp]; exact hT.len _ (by omega)
 ·rw [sub_get (by omega)]; exact hT.op _ (by omega)
 ·rw [sub_get (by omega),sub_get (by omega)]; exact hT.ord (a + i) (by omega)
 ·rw [sub_pt (by omega)]; exact hT.pts _ k (by omega) (by omega)
 ·unfold tri1 tri2
  rw [sub_pt (by omega),sub_pt (by omega),sub_pt (by omega),sub_pt (by omega)]
  exact hT.ar (a + i) k (by omega) (by omega)
theorem fstE_none {f : Nat → Int} : ∀ {n k : Nat},(∀ i,k ≤ i → i < k + n → f i = 0) → fstE f n k = (0,0)
 | 0,_,_=>rfl
 | n + 1,k,h=>by
  unfold fstE
  rw [if_neg (not_not_intro (h k (Nat.le_refl _) (by omega)))]
  exact fstE_none fun i h1 h2=>h i (by omega) (by omega)
theorem pntE_0 {p : P3} (h : (-1000 ≤ p.1 ∧ p.1 ≤ 1000) ∧ (-1000 ≤ p.2.1 ∧ p.2.1 ≤ 1000) ∧ -10000 ≤ p.2.2 ∧ p.2.2 ≤ 10000) : pntE p = 0 := if_pos h
theorem chk_ok {t : List MRow} (hT : TblOk t) : chkM t = (0,0) := by
 have hn := hT.n
 have hnp := hT.np
 have hA : ∀ i,i < t.length → rowA t i = 0 := fun i hi=>by
  have h1 := hT.op i hi
  have h2 := hT.len i hi
  unfold rowA
  rw [if_neg (not_not_intro h1),if_neg (not_not_intro ⟨by omega,h2⟩),if_neg (by omega)]
  have hz : fstE (fun k=>pntE ((t.getD i r0).ps.getD k p0)) (t.getD i r0).ps.length 0 = (0,0) := fstE_none fun k _ hk=>pntE_0 (hT.pts i k hi (by omega))
  unfold pntsE
  rw [hz]
 have hO : ∀ i,i < t.length → rowO t i = 0 := fun i hi=>by
  unfold rowO
  by_cases h0 : i = 0
  ·rw [if_pos h0]
  ·obtain ⟨j,rfl⟩ : ∃ j,i = j + 1 := ⟨i - 1,by omega⟩
   have := hT.ord j hi
   rw [if_neg h0,Nat.add_sub_cancel,if_neg (by omega),if_neg (by omega)]
 have hX : fstE (rowX t) t.length 0 = (0,0) := fstE_none fun i _ hi=>by
  unfold rowX
  rw [if_neg (not_not_intro (hA i (by omega)))]; exact hO i (by omega)
 have hS : fstE (stripE t) (t.length - 1) 0 = (0,0) := fstE_none fun i _ hi=>by
  unfold stripE
  rw [fstE_none fun k _ hk=>?_]
  have hl := hT.len i (by omega)
  have := hT.ar i k (by omega) (by omega)
  unfold quadE
  rw [if_neg (by omega),if_neg (by omega)]
 unfold chkM
 rw [if_neg (by omega),if_neg (by omega),hX,hS]
 rfl
theorem rwI_last {t : List MRow} {f : Int × Int} : ∀ (n i : Nat),t.length ≤ n + i → ¬ (rwI t f n i + 2 < t.length ∧ (t.getD (rwI t f n i + 1) r0).o * f.2 ≤ f.1)
 | 0,i,h=>fun e=>by unfold rwI at e; omega
 | n + 1,i,h=>by
  by_cases g : i + 2 < t.length ∧ (t.getD (i + 1) r0).o * f.2 ≤ f.1
  ·rw [rwI,if_pos g]; exact rwI_last n (i + 1) (by omega)
  ·rw [rwI,if_neg g]; exact g
theorem rwK_last {t : List MRow} {f : Int × Int} : ¬ (rwK t f + 2 < t.length ∧ (t.getD (rwK t f + 1) r0).o * f.2 ≤ f.1) := rwI_last _ _ (by omega)
theorem o_le {t : List MRow} (hT : TblOk t) : ∀ {i j : Nat},i ≤ j → j < t.length → (t.getD i r0).o ≤ (t.getD j r0).o
 | i,0,h,_=>by rw [show i = 0 by omega]; exact Int.le_refl _
 | i, j + 1, h, hj => by
  by_cases e : i = j + 1
  ·rw [e]; exact Int.le_refl _
  ·have h1 := (hT.ord j hj).1
   have := o_le hT (i := i) (j := j) (by omega) (by omega)
   omega
theorem o_mul {t : List MRow} (hT : TblOk t) {f : Int × Int} (hd : 1 ≤ f.2) {i j : Nat} (h : i ≤ j) (hj : j < t.length) : (t.getD i r0).o * f.2 ≤ (t.getD j r0).o * f.2 := Int.mul_le_mul_of_nonneg_right (o_le hT h hj) (by omega)
theorem rwK_uniq {t : List MRow} {f : Int × Int} (hT : TblOk t) (hO : OpOk t f) {K : Nat} (hK : K + 1 < t.length) (h1 : (t.getD K r0).o * f.2 ≤ f.1) (h2 : ¬ (K + 2 < t.length ∧ (t.getD (K + 1) r0).o * f.2 ≤ f.1)) : rwK t f = K := by
 obtain ⟨g1,g2,_⟩ := rwK_ok hT hO
 have g3 := rwK_last (t := t) (f := f)
 have hd := hO.den.1
 generalize rwK t f = J at *
 rcases Nat.lt_trichotomy J K with e | e | e
 ·exact absurd ⟨by omega,Int.le_trans (o_mul hT hd (i := J + 1) (j := K) (by omega) (by omega)) h1⟩ g3
 ·exact e
 ·exact absurd ⟨by omega,Int.le_trans (o_mul hT hd (i := K + 1) (j := J) (by omega) (by omega)) g2⟩ h2
theorem sub_op {t : List MRow} (hT : TblOk t) {f : Int × Int} (hO : OpOk t f) {a n : Nat} (hn : 2 ≤ n) (h : a + n ≤ t.length) (h1 : (t.getD a r0).o * f.2 ≤ f.1) (h2 : f.1 ≤ (t.getD (a + n - 1) r0).o * f.2) : OpOk (sub t a n) f := by
 refine ⟨hO.den,?_,?_⟩
 ·rw [sub_get (by omega)]; exact h1
 ·rw [sub_len h,sub_get (by omega),show a + (n - 1) = a + n - 1 by omega]; exact h2
theorem sub_rw {t : List MRow} (hT : TblOk t) {f : Int × Int} (hO : OpOk t f) {a n : Nat} (hn : 2 ≤ n) (h : a + n ≤ t.length) (h1 : (t.getD a r0).o * f.2 ≤ f.1) (h2 : f.1 < (t.getD (a + n - 1) r0).o * f.2 ∨ (a + n = t.length ∧ f.1 ≤ (t.getD (a + n - 1) r0).o * f.2)) :
  a ≤ rwK t f ∧ rwK t f + 1 < a + n ∧ rwK (sub t a n) f = rwK t f - a := by
 obtain ⟨g1,g2,_⟩ := rwK_ok hT hO
 have g3 := rwK_last (t := t) (f := f)
 have hd := hO.den.1
 have ha : a ≤ rwK t f := Nat.le_of_not_lt fun e=>g3 ⟨by omega,Int.le_trans (o_mul hT hd (i := rwK t f + 1) (j := a) (by omega) (by omega)) h1⟩
 have hb : rwK t f + 1 < a + n := by
  rcases h2 with h2 | ⟨h2,_⟩
  ·refine Nat.lt_of_not_le fun e=>?_
   have := o_mul hT hd (i := a + n - 1) (j := rwK t f) (by omega) (by omega)
   omega
  ·omega
 have hO2 := sub_op hT hO hn h h1 (by omega)
 refine ⟨ha,hb,rwK_uniq (sub_ok hT hn h) hO2 (by rw [sub_len h]; omega) ?_ ?_⟩
 ·rw [sub_get (by omega),show a + (rwK t f - a) = rwK t f by omega]; exact g2
 ·rw [sub_len h]
  rintro ⟨e1,e2⟩
  rw [sub_get (by omega),show a + (rwK t f - a + 1) = rwK t f + 1 by omega] at e2
  exact g3 ⟨by omega,e2⟩
theorem sub_crv {t : List MRow} (hT : TblOk t) {f : Int × Int} (hO : OpOk t f) {a n : Nat} (hn : 2 ≤ n) (h : a + n ≤ t.length) (h1 : (t.getD a r0).o * f.2 ≤ f.1) (h2 : f.1 < (t.getD (a + n - 1) r0).o * f.2 ∨ (a + n = t.length ∧ f.1 ≤ (t.getD (a + n - 1) r0).o * f.2)) :
  OpOk (sub t a n) f ∧ crvQ (sub t a n) f = crvQ t f := by
 obtain ⟨e1,e2,e3⟩ := sub_rw hT hO hn h h1 h2
 refine ⟨sub_op hT hO hn h h1 (by omega),?_⟩
 have a1 : (sub t a n).getD (rwK (sub t a n) f) r0 = t.getD (rwK t f) r0 := by rw [e3,sub_get (by omega),show a + (rwK t f - a) = rwK t f by omega]
 have a2 : (sub t a n).getD (rwK (sub t a n) f + 1) r0 = t.getD (rwK t f + 1) r0 := by rw [e3,sub_get (by omega),show a + (rwK t f - a + 1) = rwK t f + 1 by omega]
 unfold crvQ crvA crvB crvP crvD
 rw [a1,a2]
theorem sub_triK {t : List MRow} {a n i : Nat} (h : i + 1 < n) : ∀ k,triK (sub t a n) i k = triK t (a + i) k
 | 0=>rfl
 | k + 1=>by
  unfold triK
  rw [sub_triK h k]
  unfold triU triD
  simp only [sub_pt (show i < n by omega),sub_pt h,sub_get (show i < n by omega),sub_get h,Nat.add_assoc]
theorem sub_triT {t : List MRow} (hT : TblOk t) {a n : Nat} (hn : 0 < n) (h : a + n ≤ t.length) : ∀ i,i + 1 ≤ n → triT t (a + i) = triT t a ++ triT (sub t a n) i
 | 0,_=>by rw [Nat.add_zero]; exact (List.append_nil _).symm
 | i + 1,hi=>by
  show triT t (a + i) ++ triK t (a + i) (npT t - 1) = triT t a ++ (triT (sub t a n) i ++ triK (sub t a n) i (npT (sub t a n) - 1))
  rw [sub_triT hT hn h i (by omega),sub_np hT hn h,sub_triK (by omega),List.append_assoc]
def orM (a b : Option Rat) : Option Rat := match a,b with | none,b=>b | a,none=>a | some x,some y=>if x < y then some y else some x
theorem mx_app (L M : List Rat) : mxO none (L ++ M) = orM (mxO none L) (mxO none M) := by
 have h1 := mx_is L
 have h2 := mx_is M
 refine IsMx.uniq (mx_is (L ++ M)) (M := L ++ M) ?_ fun _=>Iff.rfl
 cases ha : mxO none L with
 | none =>
  have hL := h1.none.1 ha
  rw [hL,List.nil_append]
  show IsMx (mxO none M) M
  exact h2
 | some x =>
  cases hb : mxO none M with
  | none =>
   have hM := h2.none.1 hb
   rw [hM,List.append_nil]
   show IsMx (some x) L
   rw [← ha]; exact h1
  | some y =>
   have m1 := h1.mem x ha
   have m2 := h2.mem y hb
   have t1 := h1.top x ha
   have t2 := h2.top y hb
   show IsMx (if x < y then some y else some x) (L ++ M)
   by_cases g : x < y
   ·rw [if_pos g]
    refine ⟨⟨nofun,fun e=>by rw [(List.append_eq_nil_iff.1 e).1] at m1; cases m1⟩,fun m e=>by cases e; exact List.mem_append_right _ m2,fun m e z hz=>?_⟩
    cases e
    rcases List.mem_append.1 hz with hz | hz
    ·exact fun h=>t1 z hz (rlt_tr g h)
    ·exact t2 z hz
   ·rw [if_neg g]
    refine ⟨⟨nofun,fun e=>by rw [(List.append_eq_nil_iff.1 e).1] at m1; cases m1⟩,fun m e=>by cases e; exact List.mem_append_left _ m1,fun m e z hz=>?_⟩
    cases e
    rcases List.mem_append.1 hz with hz | hz
    ·exact t1 z hz
    ·intro h
     have := t2 z hz
     grind
theorem mpO_parts {t : List MRow} (hT : TblOk t) {r : Nat} (h1 : 1 ≤ r) (h2 : r + 2 ≤ t.length) (h : Int) : mpO t h = orM (mpO (sub t 0 (r + 1)) h) (mpO (sub t r (t.length - r)) h) := by
 have e1 : triT t r = triT (sub t 0 (r + 1)) r := by
  have := sub_triT hT (a := 0) (n := r + 1) (by omega) (by omega) r (by omega)
  rw [Nat.zero_add] at this
  rw [this]; rfl
 have e2 := sub_triT hT (a := r) (n := t.length - r) (by omega) (by omega) (t.length - r - 1) (by omega)
 rw [show r + (t.length - r - 1) = t.length - 1 by omega,e1] at e2
 unfold mpO
 rw [sub_len (by omega),sub_len (by omega),mxT_flat,mxT_flat,mxT_flat,e2,List.flatMap_append,mx_app,Nat.add_sub_cancel]
end Go.Tr

/- Contracts of chapter 5: copies of rows by a function; turned tables. Conditions: none. -/
-- seat YtpojlhnhokbhkaaGreat
namespace Go.Tr
open Go Go.Proofs
set_option maxRecDepth 20000
set_option maxHeartbeats 8000000

theorem ave_pt {k : Nat} {p : P3} : AVE (k + 2) (.agg (ptC p)) (.agg (ptC p)) := ave_aggR (by simp [AV.atom])
theorem S35 (p : P3) (_ : PtOk p) : SP 35 [.agg (ptC p)] (.agg (ptC p)) false := by
 refine sound (d := 2) tok2 mixed2 Tryz.func35 (by kernel_rfl) (by kernel_rfl) ?_
 (conv=>whnf); refine ⟨?_,nofun⟩
 (first | contradiction | exact ave_pt (p := p) | omega)
def mpR (G : P3 → P3) (r : MRow) : MRow := ⟨r.o,r.ps.map G⟩
set_option maxHeartbeats 4000000 in
theorem S34 (g : FuncId) (G : P3 → P3) (hg : ∀ p,PtOk p → SP g [.agg (ptC p)] (.agg (ptC (G p))) false) (t : List MRow) (ht : Fit t) (hp : ∀ i k,PtOk ((t.getD i r0).ps.getD k p0)) :
  SP 34 [rowsA t,.func (.func g) 0 []] (rowsA (t.map (mpR G))) false := by
 have h1 := ht.1
 refine sound (d := 2) tok2 mixed2 Tryz.func34 (by kernel_rfl) (by kernel_rfl) ?_
 (conv=>whnf); refine ⟨[.slot 5 2,.fzl 0 [1,2,3,4]],[1,5,11,12,13],fun st mq=>∃ (k : Nat),(k ≤ t.length) ∧ st = ⟨[(1,.func (.func g) 0 []),(5,.oslice 0 0 0 k none),(11,rowsA t),(12,i64 t.length),(13,i64 k)],⟨[⟨2,k,fun i=>[i64 (t.getD i r0).o,ptsA ((t.getD i r0).ps.map G)],0,false,true,false⟩],[],none,0⟩,[]⟩ ∧ mq = t.length - k,
  ⟨_,_,⟨0,by omega,rfl,rfl⟩,⟨⟨.inl rfl,rfl,rfl,rfl⟩,⟨⟨rfl,rfl,rfl,rfl,fun _=>rfl,fun i h=>.inl (absurd h (Nat.not_lt_zero i))⟩,trivial⟩,trivial⟩⟩,?_⟩
 rintro s0 m0 ⟨k,hk,rfl,hmeas⟩
 by_cases hlt : k < t.length
 ·have hl := ht.2 k
  conv=>whnf
  (conv=>whnf); refine ifB_dec (fun w1=>?_) (fun w1=>?_)
  ·conv=>whnf
   (conv=>whnf); refine ⟨⟨(by omega),(by omega)⟩,?_⟩
   conv=>whnf
   (conv=>whnf); refine ⟨[.cell 2 1 3],[1,5,8,11,12,13,21,22,23],fun st mq=>∃ (m : Nat) (F1 : Nat → List AV),(m ≤ (t.getD k r0).ps.length) ∧ st = ⟨[(1,.func (.func g) 0 []),(5,.oslice 0 0 0 k none),(8,.optr 2 0 0 0),(11,rowsA t),(12,i64 t.length),(13,i64 k),(21,ptsA (t.getD k r0).ps),(22,i64 (t.getD k r0).ps.length),(23,i64 m)],⟨[⟨2,k,fun i=>[i64 (t.getD i r0).o,ptsA ((t.getD i r0).ps.map G)],0,false,true,false⟩,⟨2,1,F1,0,false,true,false⟩,⟨2,1,fun _=>[i64 (t.getD k r0).o,.oslice 3 0 0 m none],0,false,false,true⟩,⟨3,m,fun j=>ptC (G ((t.getD k r0).ps.getD j p0)),0,false,true,false⟩],[],none,0⟩,[]⟩ ∧ mq = (t.getD k r0).ps.length - m,
    ⟨_,_,⟨0,_,by omega,rfl,rfl⟩,⟨⟨.inl rfl,rfl,rfl,rfl⟩,⟨⟨rfl,rfl,rfl,rfl,fun _=>rfl,fun _ _=>.inl rfl⟩,⟨⟨rfl,rfl,rfl,rfl,fun _=>rfl,fun _ _=>.inl rfl⟩,⟨⟨rfl,rfl,rfl,rfl,nofun,fun _ _=>.inl rfl⟩,⟨⟨rfl,rfl,rfl,rfl,fun _=>rfl,fun i h=>.inl (absurd h (Nat.not_lt_zero i))⟩,trivial⟩⟩⟩⟩,trivial⟩⟩,?_⟩
   rintro s0 m0 ⟨m,F1,hm,rfl,hmeas⟩
   by_cases hlt2 : m < (t.getD k r0).ps.length
   ·have c1 := hg _ (hp k m)
    conv=>whnf
    conv=>whnf
    (conv=>whnf); refine ifB_dec (fun w2=>?_) (fun w2=>?_)
    ·conv=>whnf
     conv=>whnf
     (conv=>whnf); refine ⟨⟨(by omega),(by omega)⟩,?_⟩
     conv=>whnf
     conv=>whnf
     (conv=>whnf); refine ⟨[],by kernel_rfl,?_⟩
     conv=>whnf
     conv=>whnf
     (conv=>whnf); refine .inl ⟨_,_,byX rfl (Sound1.pl (c1) rfl),?_⟩
     conv=>whnf
     conv=>whnf
     (conv=>whnf); refine .inl ?_
     conv=>whnf
     conv=>whnf
     (conv=>whnf); refine ⟨(by show _ * (24 + 1) ≤ _; omega),?_⟩
     conv=>whnf
     conv=>whnf
     (conv=>whnf); refine ⟨inK64 (by omega) (by omega),?_⟩
     conv=>whnf
     conv=>whnf
     (conv=>whnf); refine ⟨_,_,⟨⟨m + 1,_,by omega,rfl,rfl⟩,by omega⟩,⟨⟨.inl rfl,rfl,rfl,rfl⟩,⟨⟨rfl,rfl,rfl,rfl,fun _=>rfl,fun _ _=>.inl rfl⟩,⟨⟨rfl,rfl,rfl,rfl,fun _=>rfl,fun _ _=>.inl rfl⟩,⟨⟨rfl,rfl,rfl,rfl,nofun,fun _ _=>.inl rfl⟩,⟨⟨rfl,rfl,rfl,rfl,fun _=>rfl,fun j hj=>.inl (extG (fun q=>ptC q) (m := 3) (fun _=>rfl) (fun j=>G ((t.getD k r0).ps.getD j p0)) m j hj)⟩,trivial⟩⟩⟩⟩,trivial⟩⟩
    ·(exfalso; omega)
   ·obtain rfl : m = (t.getD k r0).ps.length := by omega
    conv=>whnf
    conv=>whnf
    (conv=>whnf); refine ifB_dec (fun w2=>?_) (fun w2=>?_)
    ·(exfalso; omega)
    ·conv=>whnf
     conv=>whnf
     (conv=>whnf); refine .inl ?_
     conv=>whnf
     conv=>whnf
     (conv=>whnf); refine ⟨(by show _ * (32 + 1) ≤ _; omega),?_⟩
     conv=>whnf
     conv=>whnf
     (conv=>whnf); refine ⟨inK64 (by omega) (by omega),?_⟩
     conv=>whnf
     conv=>whnf
     (conv=>whnf); refine ⟨_,_,⟨⟨k + 1,by omega,rfl,rfl⟩,by omega⟩,⟨⟨.inl rfl,rfl,rfl,rfl⟩,⟨⟨rfl,rfl,rfl,rfl,fun _=>rfl,fun i hi=>.inr (cp_row (o := fun i=>(t.getD i r0).o) (P := fun i=>(t.getD i r0).ps.map G) hi ⟨rfl,(List.length_map ..).symm,fun j hj=>(by show ptC (G ((t.getD k r0).ps.getD j p0)) = ptC (((t.getD k r0).ps.map G).getD j p0); rw [getD_mapG G _ j p0 p0 hj])⟩)⟩,trivial⟩,trivial⟩⟩
  ·(exfalso; omega)
 ·have e : k = t.length := by omega
  subst e
  conv=>whnf
  (conv=>whnf); refine ifB_dec (fun w1=>?_) (fun w1=>?_)
  ·(exfalso; omega)
  ·conv=>whnf
   (conv=>whnf); refine ⟨?_,nofun⟩
   exact ⟨rfl,(List.length_map ..).symm,fun i hi=>(by show [i64 (t.getD i r0).o,ptsA ((t.getD i r0).ps.map G)] = [i64 ((t.map (mpR G)).getD i r0).o,ptsA ((t.map (mpR G)).getD i r0).ps]; rw [getD_mapG (mpR G) t i r0 r0 hi]; rfl)⟩
end Go.Tr

/- Contracts of chapter 5: some rows of a table. Conditions: none. -/
-- seat YtpojlhnhokbhkaaGreat
namespace Go.Tr
open Go Go.Proofs
set_option maxRecDepth 20000
set_option maxHeartbeats 8000000

theorem sub_fit {t : List MRow} (hT : TblOk t) {a n : Nat} (hn : 2 ≤ n) (h : a + n ≤ t.length) : Fit (sub t a n) := by
 have hS := sub_ok hT hn h
 have h1 := hS.n
 have h2 := hS.np
 refine ⟨by omega,fun i=>?_⟩
 by_cases hi : i < (sub t a n).length
 ·have := hS.len i hi; omega
 ·rw [show (sub t a n).getD i r0 = r0 by rw [List.getD_eq_getElem?_getD,List.getElem?_eq_none (by omega)]; rfl]; decide
theorem tbl_pts {t : List MRow} (hT : TblOk t) (i k : Nat) : PtOk ((t.getD i r0).ps.getD k p0) := by
 by_cases hi : i < t.length
 ·exact hT.pt i k hi
 ·rw [show t.getD i r0 = r0 by rw [List.getD_eq_getElem?_getD,List.getElem?_eq_none (by omega)]; rfl]; exact ptOk_0
theorem mpR_id (t : List MRow) : t.map (mpR fun p=>p) = t := by
  have : ∀ r : MRow,mpR (fun p=>p) r = r := fun r=>by unfold mpR; rw [List.map_id']
  rw [List.map_congr_left (g := id) fun r _=>this r,List.map_id]
theorem S10 (t : List MRow) (ht : Fit t) (hT : TblOk t) (a n : Nat) (hn : 2 ≤ n) (h : a + n ≤ t.length) (x y : Int) (hx : x = (a : Int)) (hy : y = ((a + n : Nat) : Int) - 1) : SP 10 [tblA t,i64 x,i64 y] (.tuple [tblA (sub t a n),i64 0]) false := by
 have h97 := S32 t ht
 rw [chk_ok hT] at h97
 have hS := sub_ok hT hn h
 have hl := sub_len h
 have htn := hT.n
 have h99 := S34 35 (fun p=>p) S35 (sub t a n) (sub_fit hT hn h) (tbl_pts hS)
 rw [mpR_id] at h99
 have c1 := S30 x 0 ((t.length : Int) - 1)
 have c2 := S30 y 0 ((t.length : Int) - 1)
 rw [show win x 0 ((t.length : Int) - 1) = true from decide_eq_true ⟨by omega,by omega⟩] at c1
 rw [show win y 0 ((t.length : Int) - 1) = true from decide_eq_true ⟨by omega,by omega⟩] at c2
 subst hx
 have h99 : SP 34 [.rslice 2 (y + 1 - (a : Int)).toNat (shiftF (a : Int).toNat fun i=>[i64 (t.getD i r0).o,ptsA (t.getD i r0).ps]),.func (.func 35) 0 []] (rowsA (sub t a n)) false := by
  refine h99.argsD rfl fun i y' x hy' hx=>?_
  match i,hy',hx with
  | 0,hy',hx =>
   cases hy'; cases hx
   refine .inr ⟨1,AVF_rows (by omega) (fun i hi=>?_) 0⟩
   rw [shiftF_eq,sub_get (by omega)]; rfl
  | 1,hy',hx=>cases hy'; cases hx; exact .inl rfl
 have h76 := @S31_3 0 (if true = true then 0 else 6) (if decide ((a : Int) < y) = true then 0 else 9)
 have e76 : firstOf [0,if true = true then 0 else 6,if decide ((a : Int) < y) = true then 0 else 9] = 0 := by rw [if_pos rfl,if_pos (decide_eq_true (by omega))]; rfl
 rw [e76] at h76
 refine sound (d := 2) tok2 mixed2 Tryz.func10 (by kernel_rfl) (by kernel_rfl) ?_
 (conv=>whnf); refine .inl ⟨_,_,byX rfl (Sound1.pl (h97) rfl),?_⟩
 (conv=>whnf); refine .inr (.inl ⟨[],?_⟩)
 (conv=>whnf); refine ⟨inK64 (by omega) (by omega),?_⟩
 (conv=>whnf); refine .inl ⟨_,_,byX rfl (Sound1.pl (c1) rfl),?_⟩
 (conv=>whnf); refine .inr (.inl ⟨[],?_⟩)
 (conv=>whnf); refine ⟨inK64 (by omega) (by omega),?_⟩
 (conv=>whnf); refine .inl ⟨_,_,byX rfl (Sound1.pl (c2) rfl),?_⟩
 (conv=>whnf); refine .inl ⟨_,_,byX rfl (Sound1.pl (S33 _ _) rfl),?_⟩
 (conv=>whnf); refine .inl ⟨_,_,byX rfl (Sound1.pl (S33 _ _) rfl),?_⟩
 (conv=>whnf); refine .inl ⟨_,_,byX rfl (Sound1.pl (h76 ⟨rfl,rfl,rfl⟩) rfl),?_⟩
 (conv=>whnf); refine ⟨inK64 (by omega) (by omega),?_⟩
 (conv=>whnf); refine ⟨⟨(by omega),⟨(by omega),(by omega)⟩⟩,?_⟩
 (conv=>whnf); refine .inl ⟨_,_,byX rfl (h99),?_⟩
 (conv=>whnf); refine ⟨?_,nofun⟩
 exact ave_tup2 (ave_aggR (l := [rowsA (sub t a n)]) (by simp [AV.atom,rowsA])) rfl
end Go.Tr

/- The opening of a law: what an argument reads as, as abstract values, with its shape. Conditions: types of numbers, truth values, strings, slices, structs and arrays. -/
namespace Go.Tr
open Go Go.RowKit

def V2 (P : Program) (w : World) (q : Nat → Prop) : List AV → List Value → Prop
 | [],[]=>True
 | x :: xs,v :: vs=>(VT P w q x v ∧ v.oneCell' = true) ∧ V2 P w q xs vs
 | _,_=>False

def All2 {α β : Type} (p : α → β → Prop) : List α → List β → Prop
 | [],[]=>True
 | x :: xs,y :: ys=>p x y ∧ All2 p xs ys
 | _,_=>False

def TyC (P : Program) : Nat → TypeId → List AV → Prop
 | 0,_,_=>True
 | m + 1,t,xs=>match P.underlying t with
  | some .bool=>∃ b,xs = [.val (.bool b)]
  | some (.int k)=>∃ n,xs = [.val (.int k n)] ∧ inK k n
  | some .string=>∃ s : ByteArray,xs = [.val (.string s)] ∧ s.size ≤ 9223372036854775807
  | some (.slice e)=>∃ len f,xs = [.rslice (P.cellsOf e) len f] ∧ len ≤ 9223372036854775807 ∧ ∀ i,i < len → TyC P m e (f i)
  | some (.struct fs)=>∃ ps : List (List AV),xs = ps.flatten ∧ All2 (fun f p=>TyC P m f.type p) fs.toList ps
  | some (.array n e)=>∃ ps : List (List AV),xs = ps.flatten ∧ ps.length = n ∧ ∀ p ∈ ps,TyC P m e p
  | _=>False

def layF (P : Program) (g : TypeId → Bool) : List Field → Nat → Nat → Bool
 | [],off,tot=>Nat.beq off tot
 | f :: r,off,tot=>Nat.beq f.offset off && g f.type && layF P g r (off + P.cellsOf f.type) tot

def lay (P : Program) : Nat → TypeId → Bool
 | 0,_=>false
 | m + 1,t=>match P.underlying t with
  | some .bool | some (.int _) | some .string=>true
  | some (.slice e)=>Nat.blt 0 (P.cellsOf e) && lay P m e
  | some (.struct fs)=>layF P (lay P m) fs.toList 0 (P.cellsOf t)
  | some (.array n e)=>Nat.beq (P.cellsOf t) (n * P.cellsOf e) && lay P m e
  | _=>false

section
variable {H : Type} {enc : TypeId × Value → H} {P : Program} {w : World} {spare : Nat → Bool} {held : Bool} {q : Nat → Prop}

theorem V2_len : ∀ {xs : List AV} {vs : List Value},V2 P w q xs vs → xs.length = vs.length
 | [],[],_=>rfl
 | x :: xs,v :: vs,h=>by simp [V2_len h.2]
 | [],_ :: _,h=>h.elim
 | _ :: _,[],h=>h.elim

theorem V2_append : ∀ {xs : List AV} {vs : List Value} {ys : List AV} {us : List Value},V2 P w q xs vs → V2 P w q ys us → V2 P w q (xs ++ ys) (vs ++ us)
 | [],[],_,_,_,h=>h
 | _ :: _,_ :: _,_,_,h,h'=>⟨h.1,V2_append h.2 h'⟩
 | [],_ :: _,_,_,h,_=>h.elim
 | _ :: _,[],_,_,h,_=>h.elim

theorem V2_get : ∀ {xs : List AV} {vs : List Value},V2 P w q xs vs → ∀ (i : Nat) x,xs[i]? = some x → VT P w q x (vs.getD i undef) ∧ (vs.getD i undef).oneCell' = true
 | [],[],_,i,x,hx=>by simp at hx
 | y :: ys,v :: vs,h,0,x,hx=>by
  simp at hx
  subst hx
  simpa using h.1
 | y :: ys,v :: vs,h,i + 1,x,hx=>by
  have := V2_get h.2 i x (by simpa using hx)
  simpa using this
 | [],_ :: _,h,_,_,_=>h.elim
 | _ :: _,[],h,_,_,_=>h.elim

theorem mapM_cons_some {α β : Type} {f : α → Option β} {a : α} {l : List α} {r : List β} (h : (a :: l).mapM f = some r) : ∃ b bs,f a = some b ∧ l.mapM f = some bs ∧ r = b :: bs := by
 rw [List.mapM_cons] at h
 cases ha : f a with
 | none=>simp [ha] at h
 | some b =>
  cases hl : l.mapM f with
  | none=>simp [ha,hl] at h
  | some bs=>simp [ha,hl] at h; exact ⟨b,bs,rfl,rfl,h.symm⟩

theorem mapM_get {α β : Type} {f : α → Option β} : ∀ {l : List α} {r : List β},l.mapM f = some r → r.length = l.length ∧ ∀ (i : Nat) x,l[i]? = some x → ∃ y,f x = some y ∧ r[i]? = some y
 | [],r,h=>by simp at h; subst h; exact ⟨rfl,fun i x hx=>by simp at hx⟩
 | a :: l,r,h=>by
  obtain ⟨b,bs,h1,h2,rfl⟩ := mapM_cons_some h
  obtain ⟨g1,g2⟩ := mapM_get h2
  refine ⟨by simp [g1],fun i x hx=>?_⟩
  cases i with
  | zero=>simp at hx; subst hx; exact ⟨b,h1,rfl⟩
  | succ i=>simpa using g2 i x (by simpa using hx)

theorem cells_some {a : Addr} {n : Nat} {cs : List Value} (h : w.cells? 0 a n = some cs) : cs.length = n ∧ ∀ j,j < n → w.cell? (a.add j) = some (cs.getD j undef) := by
 unfold World.cells? at h
 rw [if_pos (Nat.zero_le _)] at h
 obtain ⟨h1,h2⟩ := mapM_get h
 refine ⟨by simpa using h1,fun j hj=>?_⟩
 obtain ⟨y,h3,h4⟩ := h2 j j (by simp [hj])
 rw [h3,List.getD_eq_getElem?_getD,h4]
 rfl

theorem cell_spot {a : Addr} {v : Value} (h : w.cell? a = some v) : a.spot = none ∧ a.block < w.heap.size := by
 unfold World.cell? at h
 split at h
 ·rename_i c t fr hb
  refine ⟨?_,?_⟩
  ·cases hs : a.spot with
   | none=>rfl
   | some s=>simp [hs] at h
  ·exact (Array.getElem?_eq_some_iff.1 hb).1
 ·cases h

theorem addr_add2 (blk off u j : Nat) : ((⟨blk,off,none⟩ : Addr).add u).add j = ⟨blk,off + (u + j),none⟩ := by
 unfold Addr.add
 by_cases h1 : u = 0
 ·subst h1
  by_cases h2 : j = 0
  ·subst h2; rfl
  ·simp [h2]
 ·by_cases h2 : j = 0
  ·subst h2; simp [h1]
  ·simp [h1,h2,Nat.add_assoc]

theorem fields_av {g : TypeId → List Value → Option (DataW H × List MemPlace)} {T : TypeId → List AV → Prop} {ly : TypeId → Bool}
  (ih : ∀ t,ly t = true → ∀ cs x,g t cs = some x → ∃ xs,V2 P w q xs cs ∧ T t xs) (cs : List Value) : ∀ (fs : List Field) (off : Nat) (r : List (DataW H × List MemPlace)),layF P ly fs off cs.length = true →
  (fs.mapM fun f=>g f.type ((cs.drop f.offset).take (P.cellsOf f.type))) = some r → ∃ ps : List (List AV),V2 P w q ps.flatten (cs.drop off) ∧ All2 (fun f p=>T f.type p) fs ps
 | [],off,r,hl,h=>by
  have := Nat.eq_of_beq_eq_true hl
  subst this
  exact ⟨[],by simp [V2],trivial⟩
 | f :: fs, off, r, hl, h => by
  simp only [layF,Bool.and_eq_true] at hl
  obtain ⟨⟨h1,h2⟩,h3⟩ := hl
  have e := Nat.eq_of_beq_eq_true h1
  obtain ⟨b,bs,g1,g2,rfl⟩ := mapM_cons_some h
  obtain ⟨p,p1,p2⟩ := ih _ h2 _ _ g1
  obtain ⟨ps,r1,r2⟩ := fields_av ih cs fs _ _ h3 g2
  refine ⟨p :: ps,?_,p2,r2⟩
  rw [List.flatten_cons]
  have : cs.drop off = (cs.drop f.offset).take (P.cellsOf f.type) ++ cs.drop (off + P.cellsOf f.type) := by
   rw [e,← List.drop_drop]
   exact (List.take_append_drop _ _).symm
  rw [this]
  exact V2_append p1 r1

theorem items_av {g : List Value → Option (DataW H × List MemPlace)} {T : List AV → Prop} (ih : ∀ cs x,g cs = some x → ∃ xs,V2 P w q xs cs ∧ T xs) (cs : List Value) (s n : Nat) (hn : cs.length = n * s)
  (h : ∀ i,i < n → ∃ x,g ((cs.drop (i * s)).take s) = some x) : ∀ (k i : Nat),i + k = n → ∃ ps : List (List AV),V2 P w q ps.flatten (cs.drop (i * s)) ∧ ps.length = k ∧ ∀ p ∈ ps,T p
 | 0,i,hi=>by
  have : i = n := by omega
  subst this
  refine ⟨[],?_,rfl,nofun⟩
  rw [List.drop_eq_nil_of_le (by omega)]
  exact trivial
 | k + 1, i, hi => by
  obtain ⟨x,hx⟩ := h i (by omega)
  obtain ⟨p,p1,p2⟩ := ih _ _ hx
  obtain ⟨ps,r1,r2,r3⟩ := items_av ih cs s n hn h k (i + 1) (by omega)
  refine ⟨p :: ps,?_,by simp [r2],fun y hy=>?_⟩
  ·rw [List.flatten_cons]
   have : cs.drop (i * s) = (cs.drop (i * s)).take s ++ cs.drop ((i + 1) * s) := by
    rw [Nat.succ_mul,← List.drop_drop]
    exact (List.take_append_drop _ _).symm
   rw [this]
   exact V2_append p1 r1
  ·rcases List.mem_cons.1 hy with rfl | hy
   ·exact p2
   ·exact r3 y hy

theorem trod_av (hq : ∀ b, b < w.heap.size → q b) : ∀ (m : Nat) (t : TypeId), lay P m t = true → ∀ (fuel : Nat) (cs : List Value) (x : DataW H × List MemPlace), DataW.trod enc P w 0 spare held fuel t cs = some x → ∃ xs, V2 P w q xs cs ∧ TyC P m t xs
 | 0,t,hl,_,_,_,_=>by simp [lay] at hl
 | m + 1,t,hl,0,cs,x,h=>by simp [DataW.trod] at h
 | m + 1, t, hl, fuel + 1, cs, x, h => by
  unfold lay at hl
  unfold TyC
  unfold DataW.trod at h
  cases hu : P.underlying t with
  | none=>simp [hu] at hl
  | some d =>
   simp only [hu] at hl h ⊢
   cases d with
   | bool =>
    split at h <;> first | (cases h; done) | (rename_i e; cases e; done) | skip
    cases h
    exact ⟨[.val (.bool _)],⟨⟨.val _,rfl⟩,trivial⟩,_,rfl⟩
   | int k =>
    split at h <;> first | (cases h; done) | (rename_i e; cases e; done) | skip
    rename_i e
    cases e
    split at h
    ·rename_i hk
     obtain ⟨rfl,hw⟩ := hk
     simp only [Lit.wf,Bool.and_eq_true,decide_eq_true_eq] at hw
     exact ⟨[.val (.int _ _)],⟨⟨.val _,rfl⟩,trivial⟩,_,rfl,hw⟩
    ·cases h
   | string =>
    split at h <;> first | (cases h; done) | (rename_i e; cases e; done) | skip
    split at h
    ·rename_i hs
     exact ⟨[.val (.string _)],⟨⟨.val _,rfl⟩,trivial⟩,_,rfl,hs⟩
    ·cases h
   | slice e =>
    simp only [Bool.and_eq_true] at hl
    split at h <;> first | (cases h; done) | (rename_i e; cases e; done) | skip
    ·exact ⟨[.rslice (P.cellsOf e) 0 fun _=>[]],⟨⟨.rslice0 _ _ _ _,rfl⟩,trivial⟩,_,_,rfl,by omega,fun i hi=>absurd hi (Nat.not_lt_zero i)⟩
    ·rename_i e0 a len cap e1
     cases e1
     split at h
     case isFalse=>cases h
     rename_i hb
     have hes : 0 < P.cellsOf e := Nat.le_of_ble_eq_true hl.1
     cases hM : (List.range len).mapM fun i=>(w.cells? 0 (a.add (i * P.cellsOf e)) (P.cellsOf e)).bind (DataW.trod enc P w 0 spare held fuel e) with
     | none=>rw [hM] at h; cases h
     | some elems =>
      obtain ⟨_,g2⟩ := mapM_get hM
      have hx : ∀ i,∃ xs : List AV,i < len → ∃ cs,(cs.length = P.cellsOf e ∧ ∀ j,j < P.cellsOf e → w.cell? ((a.add (i * P.cellsOf e)).add j) = some (cs.getD j undef)) ∧ V2 P w q xs cs ∧ TyC P m e xs := fun i=>by
       by_cases hi : i < len
       ·obtain ⟨y,y1,_⟩ := g2 i i (by simp [hi])
        cases hc : w.cells? 0 (a.add (i * P.cellsOf e)) (P.cellsOf e) with
        | none=>rw [hc] at y1; cases y1
        | some cs1 =>
         rw [hc] at y1
         obtain ⟨xs,x1,x2⟩ := trod_av hq m e hl.2 _ _ _ y1
         exact ⟨xs,fun _=>⟨cs1,cells_some hc,x1,x2⟩⟩
       ·exact ⟨[],fun h=>absurd h hi⟩
      have hf := fun i=>(Classical.choose_spec (hx i))
      generalize hF : (fun i=>Classical.choose (hx i)) = F
      have hf : ∀ i,i < len → ∃ cs,(cs.length = P.cellsOf e ∧ ∀ j,j < P.cellsOf e → w.cell? ((a.add (i * P.cellsOf e)).add j) = some (cs.getD j undef)) ∧ V2 P w q (F i) cs ∧ TyC P m e (F i) := fun i hi=>by
       have := Classical.choose_spec (hx i) hi
       rw [← hF]
       exact this
      refine ⟨[.rslice (P.cellsOf e) len F],⟨⟨?_,rfl⟩,trivial⟩,len,F,rfl,?_,fun i hi=>?_⟩
      ·rcases Nat.eq_zero_or_pos len with rfl | hp
       ·exact .rslice0 _ _ _ _
       ·obtain ⟨cs0,c1,_,_⟩ := hf 0 hp
        have hc0 := c1.2 0 hes
        have e0 : ((a.add (0 * P.cellsOf e)).add 0) = a := by simp [Addr.add]
        rw [e0] at hc0
        obtain ⟨s1,s2⟩ := cell_spot hc0
        obtain ⟨blk,off,spot⟩ := a
        simp only at s1 s2
        subst s1
        have hG : ∀ i,∃ cs : List Value,i < len → (cs.length = P.cellsOf e ∧ ∀ j,j < P.cellsOf e → w.cell? (((⟨blk,off,none⟩ : Addr).add (i * P.cellsOf e)).add j) = some (cs.getD j undef)) ∧ V2 P w q (F i) cs := fun i=>by
         by_cases hi : i < len
         ·obtain ⟨cs,c1,c2,_⟩ := hf i hi
          exact ⟨cs,fun _=>⟨c1,c2⟩⟩
         ·exact ⟨[],fun h=>absurd h hi⟩
        refine .rslice _ _ _ blk off cap (fun i j=>(Classical.choose (hG i)).getD j undef) hb.2.1 (hq _ s2) (fun i hi=>?_) (fun i j hi hj=>?_) (fun i j x hi hx=>?_)
        ·obtain ⟨c1,c2⟩ := Classical.choose_spec (hG i) hi
         rw [V2_len c2,c1.1]
        ·obtain ⟨c1,c2⟩ := Classical.choose_spec (hG i) hi
         have hc := c1.2 j hj
         have ea : ((⟨blk,off,none⟩ : Addr).add (i * P.cellsOf e)).add j = ⟨blk,off + (i * P.cellsOf e + j),none⟩ := by
          exact addr_add2 blk off _ j
         rw [ea] at hc
         refine ⟨hc,?_⟩
         have hlt : j < (F i).length := by rw [V2_len c2,c1.1]; exact hj
         exact (V2_get c2 j _ (List.getElem?_eq_getElem hlt)).2
        ·obtain ⟨c1,c2⟩ := Classical.choose_spec (hG i) hi
         exact (V2_get c2 j x hx).1
      ·have := hb.2.2
       unfold maxLen at this
       omega
      ·obtain ⟨_,_,_,h3⟩ := hf i hi
       exact h3
   | struct fs =>
    replace h : (if cs.length = P.cellsOf t then (fs.toList.mapM fun f=>DataW.trod enc P w 0 spare held fuel f.type ((cs.drop f.offset).take (P.cellsOf f.type))).map fun xs=>(.agg (xs.map (·.1)),xs.flatMap (·.2)) else none) = some x := h
    split at h
    case isFalse=>cases h
    rename_i hc
    cases hM : fs.toList.mapM fun f=>DataW.trod enc P w 0 spare held fuel f.type ((cs.drop f.offset).take (P.cellsOf f.type)) with
    | none=>rw [hM] at h; cases h
    | some r =>
     obtain ⟨ps,p1,p2⟩ := fields_av (T := TyC P m) (ly := lay P m) (fun t ht cs x hx=>trod_av hq m t ht fuel cs x hx) cs fs.toList 0 r (by rw [hc]; exact hl) hM
     exact ⟨ps.flatten,by simpa using p1,ps,rfl,p2⟩
   | array n e =>
    simp only [Bool.and_eq_true] at hl
    replace h : (if cs.length = P.cellsOf t then ((List.range n).mapM fun i=>DataW.trod enc P w 0 spare held fuel e ((cs.drop (i * P.cellsOf e)).take (P.cellsOf e))).map fun xs=>(.agg (xs.map (·.1)),xs.flatMap (·.2)) else none) = some x := h
    split at h
    case isFalse=>cases h
    rename_i hc
    cases hM : (List.range n).mapM fun i=>DataW.trod enc P w 0 spare held fuel e ((cs.drop (i * P.cellsOf e)).take (P.cellsOf e)) with
    | none=>rw [hM] at h; cases h
    | some r =>
     obtain ⟨_,g2⟩ := mapM_get hM
     obtain ⟨ps,p1,p2,p3⟩ := items_av (T := TyC P m e) (fun cs x hx=>trod_av hq m e hl.2 fuel cs x hx) cs (P.cellsOf e) n (by rw [hc]; exact Nat.eq_of_beq_eq_true hl.1)
      (fun i hi=>by obtain ⟨y,y1,_⟩ := g2 i i (by simp [hi]); exact ⟨y,y1⟩) n 0 (by omega)
     exact ⟨ps.flatten,by simpa using p1,ps,rfl,p2,p3⟩
   | _=>simp at hl

def TyA (P : Program) (m : Nat) (t : TypeId) (x : AV) : Prop :=
 match P.underlying t with
 | some (.struct _) | some (.array _ _)=>∃ xs,x = .agg xs ∧ TyC P m t xs
 | _=>TyC P m t [x]

theorem open_av {r : Reach} {b0 : Nat} {t : TypeId} {v : Value} {d : DataW H} {ps : List MemPlace} {m : Nat} (hl : lay P m t = true) (hq : ∀ b,b < w.heap.size → q b)
  (hv : Value.okWide P w r b0 t v) (hd : DataW.Trod enc P w 0 spare held t v d ps) : ∃ x,VT P w q x v ∧ TyA P m t x := by
 obtain ⟨fuel,hf⟩ := hd
 obtain ⟨xs,h1,h2⟩ := trod_av hq m t hl fuel _ _ hf
 have agg : ∀ cs,v = .agg cs → VT P w q (.agg xs) v := by
  rintro cs rfl
  have hlen := V2_len h1
  refine .agg xs cs (by rw [hlen]; simp [Value.cells]) (fun u hu=>?_) (fun i x hx=>?_)
  ·obtain ⟨i,hi,rfl⟩ := List.getElem_of_mem hu
   have hx : i < xs.length := by rw [hlen]; simpa [Value.cells] using hi
   have := (V2_get h1 i _ (List.getElem?_eq_getElem hx)).2
   have hi' : i < cs.size := by simpa using hi
   simpa [Value.cells,List.getD_eq_getElem?_getD,hi'] using this
  ·have := (V2_get h1 i x hx).1
   simpa [Value.cells,List.getD_eq_getElem?_getD,Array.getD_eq_getD_getElem?] using this
 have one : ∀ u,v.cells.toList = [u] → v = u → ∃ x,VT P w q x v ∧ TyC P m t [x] := by
  rintro u e rfl
  rw [e] at h1
  match xs,h1,h2 with
  | [x],h1,h2=>exact ⟨x,h1.1.1,h2⟩
 unfold TyA
 unfold Value.okWide at hv
 split
 ·rename_i fs hu
  simp only [hu] at hv
  obtain ⟨cs,e,_,_⟩ := hv
  exact ⟨_,agg cs e,xs,rfl,h2⟩
 ·rename_i n e hu
  simp only [hu] at hv
  obtain ⟨cs,e,_,_⟩ := hv
  exact ⟨_,agg cs e,xs,rfl,h2⟩
 ·rename_i n1 n2
  have hc : Cell.okWide P w r b0 t v := by
   split at hv
   ·rename_i hu; exact absurd hu (n1 _)
   ·rename_i hu; exact absurd hu (n2 _ _)
   ·exact hv
  cases v with
  | agg cs =>
   simp only [Cell.okWide] at hc
   split at hc <;> first | (rename_i e _; cases e; done) | (rename_i e; cases e; done) | (simp [Cell.ok] at hc)
  | tuple cs =>
   simp only [Cell.okWide] at hc
   split at hc <;> first | (rename_i e _; cases e; done) | (rename_i e; cases e; done) | (simp [Cell.ok] at hc)
  | _=>exact one _ rfl rfl
end
end Go.Tr

/- Contracts of chapter 5: the maximum power at a head. Conditions: none. -/
import Derived.Test.YtgbdlkajmmjahaaGreatTr10
import Derived.Test.YtgbdlkajmmjahaaGreatTr09
set_option linter.unusedSectionVars false
set_option linter.unnecessarySimpa false
set_option linter.unusedVariables false
set_option linter.unusedSimpArgs false

-- seat YtgbdlkajmmjahaaGreat
namespace Go.Tr
open Go Go.Proofs
set_option maxRecDepth 20000
set_option maxHeartbeats 8000000

def mpE (t : List MRow) (h : Int) : Int := if (chkM t).2 ≠ 0 then (chkM t).2 else szE h
def mpO (t : List MRow) (h : Int) : Option Rat := mxT h none (triT t (t.length - 1))
theorem mpE_ok {t : List MRow} {h : Int} (g : mpE t h = 0) : TblOk t ∧ szE h = 0 := by
 unfold mpE at g
 by_cases h1 : (chkM t).2 = 0
 ·rw [if_neg (not_not_intro h1)] at g; exact ⟨TblOk.of h1,g⟩
 ·rw [if_pos h1] at g; exact absurd g h1
def mpR1 (t : List MRow) (h : Int) : Int := if mpE t h = 0 then (if (mpO t h).isSome = true then 0 else 12) else mpE t h
theorem extE {α : Type} (g : α → List AV) {m : Nat} (hg : ∀ a,(g a).length = m) (f : Nat → α) (k i : Nat) (hi : i < k + 1) (r : List AV) (e : r = g (f k)) : g (f i) = if i < k then g (f (0 + i)) else List.take m (List.drop ((i - k) * m) r) := by
  rw [e]; exact extG g hg f k i hi
def crO (x : Tri) (j : Nat) : Int := [x.1.2,x.2.1.2,x.2.2.2,x.1.2].getD j 0
def crR (x : Tri) (A : List Nm) (j : Nat) : List AV := [i64 (A.getD j n0).1.1,i64 (A.getD j n0).1.2.1,i64 (A.getD j n0).1.2.2,i64 (crO x j)]
theorem crn4 {x : Tri} {A : List Nm} (hA : A = arnd x) {f : Nat → List AV} (h0 : crR x (arnd x) 0 = f 0) (h1 : crR x (arnd x) 1 = f 1) (h2 : crR x (arnd x) 2 = f 2) (h3 : crR x (arnd x) 3 = f 3) : ∀ i,i < 4 → [i64 (A.getD i n0).1.1,i64 (A.getD i n0).1.2.1,i64 (A.getD i n0).1.2.2,i64 (crO x i)] = f i := fun i h=>by
 subst hA
 show crR x (arnd x) i = f i
 rcases (show i = 0 ∨ i = 1 ∨ i = 2 ∨ i = 3 by omega) with e | e | e | e <;> rw [e] <;> assumption
theorem arn_row {x : Tri} {A : List Nm} (hA : A = arnd x) {k : Nat} (hk : k < 4) {j : Nat} (hj : j = k) : [i64 (A.getD j n0).1.1,i64 (A.getD j n0).1.2.1,i64 (A.getD j n0).1.2.2,i64 1] = nmC (A.getD k n0) := by
 subst hA
 subst hj
 rcases (show j = 0 ∨ j = 1 ∨ j = 2 ∨ j = 3 by omega) with e | e | e | e <;> rw [e] <;> rfl
theorem st_none {o : Option Rat} (p : Rat) (h : ¬ o.isSome = true) : stO o p = some p := by
 cases o with
 | none=>rfl
 | some b=>exact absurd rfl h
theorem st_gt {o : Option Rat} {p : Rat} (h : o.isSome = true) (g : 0 < cmpR p (o.getD 0)) : stO o p = some p := by
 cases o with
 | none=>cases h
 | some b=>exact if_pos ((cmpR_pos p b).1 g)
theorem st_le {o : Option Rat} {p : Rat} (h : o.isSome = true) (g : ¬ 0 < cmpR p (o.getD 0)) : stO o p = o := by
 cases o with
 | none=>cases h
 | some b=>exact if_neg (fun e=>g ((cmpR_pos p b).2 e))
theorem c94_o {o : Option Rat} {p : Rat} (h : o.isSome = true) (ho : ∀ m,o = some m → smR m) (hp : smR p) : SP 94 [gaF (frI p),gaF (frO o)] (i64 (cmpR p (o.getD 0))) false := by
 cases o with
 | none=>cases h
 | some b=>exact S94 p b hp (ho b rfl)
theorem mp_end {o o' : Option Rat} {P : List Rat} {b : Nat} (h : o' = mxO o (P.take b)) (hb : P.length ≤ b) : o' = mxO o P := by
  rw [h,List.take_of_length_le hb]
theorem mp_step {h : Int} {o u d : Option Rat} {T K : List Tri} {x y : Tri} {P R : List Rat} (ho : o = mxT h none (T ++ K)) (hP : P = pws h x) (hR : R = pws h y) (hu : u = mxO o P) (hd : d = mxO u R) : d = mxT h none (T ++ (K ++ [x] ++ [y])) := by
 subst hP hR
 rw [hd,hu,ho]
 show mxT h (mxT h (mxT h none (T ++ K)) [x]) [y] = _
 rw [← mxT_app,← mxT_app]
 simp only [List.append_assoc]
theorem mp_x (h : Int) (hl : LnOk (hdL h)) (hs : -1000 ≤ h ∧ h ≤ 1000) (x : Tri) (hx : TriP x) : ∃ (A L : List Nm) (P : List Rat),A = arnd x ∧ P = pws h x ∧ L.length ≤ 12 ∧ P.length = L.length ∧ (∀ k,k < L.length → smR (P.getD k 0)) ∧
  (∀ n,n = 4 → SP 90 [.rslice 4 n fun j=>nmC (A.getD j n0),lnA (hdL h)] (nms L) false) ∧
  ∀ k,k < L.length → SP 92 [i64 (L.getD k n0).1.2.2,i64 (L.getD k n0).2] (.tuple [gaF (frI (P.getD k 0)),i64 0]) false := by
 have hc := arnd_ok hx
 have hPl : (pws h x).length = (onL (arnd x) (hdL h)).length := List.length_map _
 refine ⟨arnd x,onL (arnd x) (hdL h),pws h x,rfl,rfl,onL_len hc _,hPl,fun k hk=>pws_sm hs hx _ (getD_memG (d := (0 : Rat)) (by omega)),(fun n e=>by subst e; exact S90 _ _ hc hl),fun k hk=>?_⟩
 have hb := onL_ok hc hl _ (getD_memG (d := n0) hk)
 have b1 := hb.d
 have b2 := hb.w
 have c := S92p ((onL (arnd x) (hdL h)).getD k n0).1.2.2 ((onL (arnd x) (hdL h)).getD k n0).2 (by omega) (by omega)
 have e : (pws h x).getD k 0 = Rat.divInt ((onL (arnd x) (hdL h)).getD k n0).1.2.2 ((onL (arnd x) (hdL h)).getD k n0).2 := getD_mapG _ _ k n0 0 hk
 have g : smR (Rat.divInt ((onL (arnd x) (hdL h)).getD k n0).1.2.2 ((onL (arnd x) (hdL h)).getD k n0).2) := by
  rw [← e]; exact pws_sm hs hx _ (getD_memG (d := (0 : Rat)) (by omega))
 unfold okR at c
 rw [if_pos g,if_pos g,← e] at c
 exact c
set_option maxHeartbeats 16000000 in
theorem S37 (t : List MRow) (ht : Fit t) (h : Int) : SP 37 [tblA t, i64 h] (.tuple [gaF (if mpE t h = 0 then frO (mpO t h) else (0, 0)), i64 (mpR1 t h)]) false := by
 have h97 := S97 t ht
 have h77 := fun a=>@S77_1 a
 have h76 := @S76_2 (chkM t).2 (szE h)
 rw [first2] at h76
 change ∀ {f' : Nat → List AV},_ → SP 76 _ (i64 (mpE t h)) false at h76
 unfold mpR1
 by_cases h0 : mpE t h = 0
 ·obtain ⟨hT, hs⟩ := mpE_ok h0
  have hR := RwOk.ofT hT
  have hn := hR.n
  have hnp := hR.np
  have hhb : -1000 ≤ h ∧ h ≤ 1000 := by
   unfold szE at hs
   split at hs
   ·assumption
   ·exact absurd hs (by decide)
  rw [h0] at h76
  rw [if_pos h0,if_pos h0]
  refine sound (d := 2) tok2 mixed2 Tryz.func37 (by kernel_rfl) (by kernel_rfl) ?_
  have hln := hdL_ok hs
  have h91 := S91 h
  (conv=>whnf); refine ⟨[],by kernel_rfl,?_⟩
  (conv=>whnf); refine .inl ⟨_,_,byX rfl (Sound1.pl (h97) rfl),?_⟩
  (conv=>whnf); refine .inl ⟨_,_,byX rfl (Sound1.pl (h77 _ rfl) rfl),?_⟩
  (conv=>whnf); refine .inl ⟨_,_,byX rfl (Sound1.pl (h76 ⟨rfl,rfl⟩) rfl),?_⟩
  (conv=>whnf); refine .inr (.inl ⟨[],?_⟩)
  (conv=>whnf); refine ⟨(by first | rfl | assumption),?_⟩
  refine ⟨_,keep_ok [2,3,4,5,7,8,30] _,?_⟩
  (conv=>whnf); refine ⟨inK64 (by omega) (by omega),?_⟩
  (conv=>whnf); refine ⟨[],[0,1,14,15],fun st mq=>∃ (i : Nat) (o : Option Rat) (F4 : Nat → List AV) (F5 : Nat → List AV),(i ≤ t.length - 1) ∧ (o = mxT h none (triT t i)) ∧ (∀ m,o = some m → smR m) ∧ st = ⟨[(0,.yld 0),(1,.optr 8 0 0 0),(14,i64 ((t.length : Int) - 1)),(15,i64 i)],⟨[⟨1,1,fun _=>[rowsA t],0,false,true,true⟩,⟨1,1,fun _=>[i64 h],0,false,true,true⟩,⟨2,1,fun _=>[i64 0,i64 0],0,false,true,true⟩,⟨1,1,fun _=>[i64 0],0,false,true,true⟩,⟨1,1,F4,0,false,true,false⟩,⟨1,2,F5,0,false,true,false⟩,⟨2,1,fun _=>[i64 (frO o).1,i64 (frO o).2],0,false,true,true⟩,⟨1,1,fun _=>[vb o.isSome],0,false,true,true⟩,⟨1,1,fun _=>[rowsA t],0,false,true,true⟩],[],none,1⟩,[(2,.optr 0 0 0 0),(3,.optr 1 0 0 0),(4,.optr 2 0 0 0),(5,.optr 3 0 0 0),(7,.optr 6 0 0 0),(8,.optr 7 0 0 0),(30,.func (.func 155) 0 [.optr 8 0 0 0])]⟩ ∧ mq = t.length - 1 - i,
   ⟨_,_,⟨0,none,_,_,by omega,rfl,nofun,rfl,rfl⟩,⟨⟨.inl rfl,rfl,rfl,rfl⟩,⟨bA,⟨bA,⟨bA,⟨bA,⟨bA,⟨bA,⟨bA,⟨bA,⟨bA,trivial⟩⟩⟩⟩⟩⟩⟩⟩⟩,trivial⟩⟩,?_⟩
  rintro s0 m0 ⟨i,o,F4,F5,hi,ho,hom,rfl,hmeas⟩
  by_cases hlt2 : i < t.length - 1
  ·have hl1 : (t.getD i r0).ps.length = npT t := hR.len i (by omega)
   have hl2 : (t.getD (i + 1) r0).ps.length = npT t := hR.len (i + 1) (by omega)
   have q1 : inK .i64 (((t.getD i r0).ps.length : Int) - 1) := inK_of (by omega)
   conv=>whnf
   (conv=>whnf); refine ifB_dec (fun w1=>?_) (fun w1=>?_)
   ·conv => whnf
    (conv=>whnf); refine ⟨[(6,13),(10,13)],by kernel_rfl,?_⟩
    conv=>whnf
    (conv=>whnf); refine ⟨⟨(by omega),(by omega)⟩,?_⟩
    conv=>whnf
    (conv=>whnf); refine ⟨inK64 (by omega) (by omega),?_⟩
    conv=>whnf
    (conv=>whnf); refine ⟨⟨(by omega),(by omega)⟩,?_⟩
    conv=>whnf
    (conv=>whnf); refine ⟨by assumption,?_⟩
    conv=>whnf
    (conv=>whnf); refine ⟨[],[0,1,3,4,5,14,15,32,33],fun st mq=>∃ (k : Nat) (o : Option Rat) (F4 : Nat → List AV) (F5 : Nat → List AV),(k ≤ npT t - 1) ∧ (o = mxT h none (triT t i ++ triK t i k)) ∧ (∀ m,o = some m → smR m) ∧ st = ⟨[(0,.yld 0),(1,.optr 8 0 0 0),(3,i64 i),(4,.optr 9 0 0 0),(5,.optr 10 0 0 0),(14,i64 ((t.length : Int) - 1)),(15,i64 i),(32,i64 (((t.getD i r0).ps.length : Int) - 1)),(33,i64 k)],⟨[⟨1,1,fun _=>[rowsA t],0,false,true,true⟩,⟨1,1,fun _=>[i64 h],0,false,true,true⟩,⟨2,1,fun _=>[i64 0,i64 0],0,false,true,true⟩,⟨1,1,fun _=>[i64 0],0,false,true,true⟩,⟨1,1,F4,0,false,true,false⟩,⟨1,2,F5,0,false,true,false⟩,⟨2,1,fun _=>[i64 (frO o).1,i64 (frO o).2],0,false,true,true⟩,⟨1,1,fun _=>[vb o.isSome],0,false,true,true⟩,⟨1,1,fun _=>[rowsA t],0,false,true,true⟩,⟨2,1,fun _=>[i64 (t.getD i r0).o,ptsA (t.getD i r0).ps],0,false,true,true⟩,⟨2,1,fun _=>[i64 (t.getD (i + 1) r0).o,ptsA (t.getD (i + 1) r0).ps],0,false,true,true⟩],[],none,1⟩,[(2,.optr 0 0 0 0),(3,.optr 1 0 0 0),(4,.optr 2 0 0 0),(5,.optr 3 0 0 0),(7,.optr 6 0 0 0),(8,.optr 7 0 0 0),(30,.func (.func 155) 0 [.optr 8 0 0 0])]⟩ ∧ mq = npT t - 1 - k,
     ⟨_,_,⟨0,o,_,_,by omega,(by rw [ho]; congr 1; exact (List.append_nil _).symm),hom,rfl,rfl⟩,⟨⟨.inl rfl,rfl,rfl,rfl⟩,⟨bA,⟨bA,⟨bA,⟨bA,⟨bA,⟨bA,⟨bA,⟨bA,⟨bA,⟨bA,⟨bA,trivial⟩⟩⟩⟩⟩⟩⟩⟩⟩⟩⟩,trivial⟩⟩,?_⟩
    rintro s0 m0 ⟨k,o,F4,F5,hk,ho,hom,rfl,hmeas⟩
    by_cases hlt3 : k < npT t - 1
    ·have p1 := hR.pts i k (by omega) (by omega)
     have p2 := hR.pts i (k + 1) (by omega) (by omega)
     have p3 := hR.pts (i + 1) k (by omega) (by omega)
     have p4 := hR.pts (i + 1) (k + 1) (by omega) (by omega)
     obtain ⟨AU,LU,PU,hAU,hPU,hLU,hPlU,hPsU,h90U,h92U⟩ := mp_x h hln hhb (triU t i k) ⟨p1,p2,p3⟩
     obtain ⟨AD,LD,PD,hAD,hPD,hLD,hPlD,hPsD,h90D,h92D⟩ := mp_x h hln hhb (triD t i k) ⟨p2,p4,p3⟩
     conv=>whnf
     conv=>whnf
     (conv=>whnf); refine ifB_dec (fun w2=>?_) (fun w2=>?_)
     ·conv => whnf
      conv=>whnf
      (conv=>whnf); refine ⟨[(9,19),(13,19),(15,19)],by kernel_rfl,?_⟩
      conv=>whnf
      conv=>whnf
      (conv=>whnf); refine ⟨⟨(by omega),(by omega)⟩,?_⟩
      conv=>whnf
      conv=>whnf
      (conv=>whnf); refine ⟨inK64 (by omega) (by omega),?_⟩
      conv=>whnf
      conv=>whnf
      (conv=>whnf); refine ⟨⟨(by omega),(by omega)⟩,?_⟩
      conv=>whnf
      conv=>whnf
      (conv=>whnf); refine ⟨[(9,19),(13,19),(15,19)],by kernel_rfl,?_⟩
      conv=>whnf
      conv=>whnf
      (conv=>whnf); refine ⟨⟨(by omega),(by omega)⟩,?_⟩
      conv=>whnf
      conv=>whnf
      (conv=>whnf); refine ⟨inK64 (by omega) (by omega),?_⟩
      conv=>whnf
      conv=>whnf
      (conv=>whnf); refine ⟨⟨(by omega),(by omega)⟩,?_⟩
      conv=>whnf
      conv=>whnf
      (conv=>whnf); refine ⟨(by first | rfl | assumption),?_⟩
      conv=>whnf
      conv=>whnf
      (conv=>whnf); refine ⟨[],by kernel_rfl,?_⟩
      conv=>whnf
      conv=>whnf
      (conv=>whnf); refine ⟨⟨(by omega),(by omega)⟩,?_⟩
      conv=>whnf
      conv=>whnf
      (conv=>whnf); refine ⟨⟨(by omega),(by show _ * (32 + 1) ≤ _; omega)⟩,?_⟩
      conv=>whnf
      conv=>whnf
      (conv=>whnf); refine ⟨[.slot 11 4,.forget [2,6,11,12,13,16,17,18,19,20,21,22,23,24,25,26,27,28,29,30,31,34,35,36,37,38,39,40,41,42,43,44,45,46,47,48,49,50,51,52,53,54,55,56,57,58,59,60,61,62,63,64,65,66,67,68,69,70,71,72,73,74,75,76,77,78,79,80,81,82,83,84,85,86,87,88,89,90,91,96,99,100,101,102,103,104,105,106,107,108,109,110,111,112,113,114,115,116,117,118,119,121,122,123,124,125,126,127,128,129,130,131,132,133,134,135,136,137,138,139,140,141,142,143,144,145,146,147,148,149,150,151,152,153,154,155,156,157,158,159,160,161,162,163,164,165,166,167,168,169,170,171,172,173,174,175,176,177,178,179,180,181,182,183,184,185,186,187,188,189,190,191,192,193,194,195,196,197,198,199,200,201,202,203,204,205,206,207,208,209,210,211,212,213,214,215,216,217,218,219,220,221,222,223,224,225,226,227,228,229]],[39,38,37,11,3,4,5,7,8],fun st mq=>∃ (aU : Nat) (F4 : Nat → List AV) (F5 : Nat → List AV) (F15 : Nat → List AV) (F16 : Nat → List AV),(aU ≤ 4) ∧ st = ⟨[(39,i64 aU),(38,i64 4),(37,.oslice 17 0 0 4 none),(11,.oslice 18 0 0 aU none),(3,.optr 1 0 0 0),(4,.optr 2 0 0 0),(5,.optr 3 0 0 0),(7,.optr 6 0 0 0),(8,.optr 7 0 0 0)],⟨[⟨1,1,fun _=>[rowsA t],0,false,true,true⟩,⟨1,1,fun _=>[i64 h],0,false,true,true⟩,⟨2,1,fun _=>[i64 0,i64 0],0,false,true,true⟩,⟨1,1,fun _=>[i64 0],0,false,true,true⟩,⟨1,1,F4,0,false,true,false⟩,⟨1,2,F5,0,false,true,false⟩,⟨2,1,fun _=>[i64 (frO o).1,i64 (frO o).2],0,false,true,true⟩,⟨1,1,fun _=>[vb o.isSome],0,false,true,true⟩,⟨1,1,fun _=>[rowsA t],0,false,true,true⟩,⟨2,1,fun _=>[i64 (t.getD i r0).o,ptsA (t.getD i r0).ps],0,false,true,true⟩,⟨2,1,fun _=>[i64 (t.getD (i + 1) r0).o,ptsA (t.getD (i + 1) r0).ps],0,false,true,true⟩,⟨4,1,fun _=>[i64 (ptT t (i) (k)).1,i64 (ptT t (i) (k)).2.1,i64 (ptT t (i) (k)).2.2,i64 (t.getD (i) r0).o],0,false,true,true⟩,⟨4,1,fun _=>[i64 (ptT t (i) (k + 1)).1,i64 (ptT t (i) (k + 1)).2.1,i64 (ptT t (i) (k + 1)).2.2,i64 (t.getD (i) r0).o],0,false,true,true⟩,⟨4,1,fun _=>[i64 (ptT t (i + 1) (k)).1,i64 (ptT t (i + 1) (k)).2.1,i64 (ptT t (i + 1) (k)).2.2,i64 (t.getD (i + 1) r0).o],0,false,true,true⟩,⟨4,1,fun _=>[i64 (ptT t (i + 1) (k + 1)).1,i64 (ptT t (i + 1) (k + 1)).2.1,i64 (ptT t (i + 1) (k + 1)).2.2,i64 (t.getD (i + 1) r0).o],0,false,true,true⟩,⟨12,1,F15,0,false,true,false⟩,⟨4,1,F16,0,false,true,false⟩,⟨4,4,fun j=>[i64 (AU.getD j n0).1.1,i64 (AU.getD j n0).1.2.1,i64 (AU.getD j n0).1.2.2,i64 (crO (triU t i k) j)],0,false,true,false⟩,⟨4,aU,fun j=>nmC (AU.getD j n0),0,false,true,false⟩],[],none,1⟩,[(10,.optr 14 0 0 0),(9,.optr 13 0 0 0),(8,.optr 12 0 0 0),(7,.optr 11 0 0 0),(0,.yld 0),(1,.optr 8 0 0 0),(3,i64 i),(4,.optr 9 0 0 0),(5,.optr 10 0 0 0),(14,i64 ((t.length : Int) - 1)),(15,i64 i),(32,i64 (((t.getD i r0).ps.length : Int) - 1)),(33,i64 k),(92,.optr 0 0 0 0),(93,.optr 1 0 0 0),(94,.optr 2 0 0 0),(95,.optr 3 0 0 0),(97,.optr 6 0 0 0),(98,.optr 7 0 0 0),(120,.func (.func 155) 0 [.optr 8 0 0 0])]⟩ ∧ mq = 4 - aU,
       ⟨_,_,⟨0,_,_,_,_,by omega,rfl,rfl⟩,⟨⟨.inl rfl,rfl,rfl,rfl⟩,⟨bA,⟨bA,⟨bA,⟨bA,⟨bA,⟨bA,⟨bA,⟨bA,⟨bA,⟨bA,⟨bA,⟨bA,⟨bA,⟨bA,⟨bA,⟨bA,⟨bA,⟨⟨rfl,rfl,rfl,rfl,fun _=>rfl,fun i hi=>.inl (crn4 hAU (by rfl) (by rfl) (by rfl) (by rfl) i hi)⟩,⟨⟨rfl,rfl,rfl,rfl,fun _=>rfl,fun i h=>.inl (absurd h (Nat.not_lt_zero i))⟩,trivial⟩⟩⟩⟩⟩⟩⟩⟩⟩⟩⟩⟩⟩⟩⟩⟩⟩⟩⟩,trivial⟩⟩,?_⟩
      rintro s0 m0 ⟨aU,F4,F5,F15,F16,haU,rfl,hmeas⟩
      by_cases hltU : aU < 4
      ·have c101 := S101 (AU.getD aU n0).1
       conv=>whnf
       conv=>whnf
       conv=>whnf
       (conv=>whnf); refine ifB_dec (fun w3=>?_) (fun w3=>?_)
       ·conv=>whnf
        conv=>whnf
        conv=>whnf
        (conv=>whnf); refine ⟨⟨(by omega),(by omega)⟩,?_⟩
        conv=>whnf
        conv=>whnf
        conv=>whnf
        (conv=>whnf); refine .inl ⟨_,_,byX rfl (Sound1.pl (S101 _) rfl),?_⟩
        conv=>whnf
        conv=>whnf
        conv=>whnf
        (conv=>whnf); refine .inl ?_
        conv=>whnf
        conv=>whnf
        conv=>whnf
        (conv=>whnf); refine ⟨(by show _ * (32 + 1) ≤ _; omega),?_⟩
        conv=>whnf
        conv=>whnf
        conv=>whnf
        (conv=>whnf); refine ⟨inK64 (by omega) (by omega),?_⟩
        conv=>whnf
        conv=>whnf
        conv=>whnf
        (conv=>whnf); refine ⟨_,_,⟨⟨aU + 1,_,_,_,_,by omega,rfl,rfl⟩,by omega⟩,⟨⟨.inl rfl,rfl,rfl,rfl⟩,⟨bA,⟨bA,⟨bA,⟨bA,⟨bA,⟨bA,⟨bA,⟨bA,⟨bA,⟨bA,⟨bA,⟨bA,⟨bA,⟨bA,⟨bA,⟨bA,⟨bA,⟨bA,⟨⟨rfl,rfl,rfl,rfl,fun _=>rfl,fun i hi=>.inl (extE nmC (m := 4) (fun _=>rfl) (fun i=>AU.getD i n0) aU i hi _ (arn_row hAU hltU (Nat.zero_add aU)))⟩,trivial⟩⟩⟩⟩⟩⟩⟩⟩⟩⟩⟩⟩⟩⟩⟩⟩⟩⟩⟩,trivial⟩⟩
       ·(exfalso; omega)
      ·have h90 := h90U aU (by omega)
       conv=>whnf
       conv=>whnf
       conv=>whnf
       (conv=>whnf); refine ifB_dec (fun w3=>?_) (fun w3=>?_)
       ·(exfalso; omega)
       ·conv => whnf
        conv=>whnf
        conv=>whnf
        (conv=>whnf); refine .inl ⟨_,_,byX rfl (Sound1.pl (h91) rfl),?_⟩
        conv=>whnf
        conv=>whnf
        conv=>whnf
        (conv=>whnf); refine .inl ⟨_,_,byX rfl (h90),?_⟩
        conv=>whnf
        conv=>whnf
        conv=>whnf
        (conv=>whnf); refine ⟨[],[56,55,54,3,4,5,7,8],fun st mq=>∃ (bU : Nat) (oU : Option Rat) (F4 : Nat → List AV) (F5 : Nat → List AV) (F15 : Nat → List AV) (F16 : Nat → List AV) (F17 : Nat → List AV),(bU ≤ LU.length) ∧ (oU = mxO o (PU.take bU)) ∧ (∀ m,oU = some m → smR m) ∧ st = ⟨[(56,i64 bU),(55,i64 LU.length),(54,nms LU),(3,.optr 1 0 0 0),(4,.optr 2 0 0 0),(5,.optr 3 0 0 0),(7,.optr 6 0 0 0),(8,.optr 7 0 0 0)],⟨[⟨1,1,fun _=>[rowsA t],0,false,true,true⟩,⟨1,1,fun _=>[i64 h],0,false,true,true⟩,⟨2,1,fun _=>[i64 0,i64 0],0,false,true,true⟩,⟨1,1,fun _=>[i64 0],0,false,true,true⟩,⟨1,1,F4,0,false,true,false⟩,⟨1,2,F5,0,false,true,false⟩,⟨2,1,fun _=>[i64 (frO oU).1,i64 (frO oU).2],0,false,true,true⟩,⟨1,1,fun _=>[vb oU.isSome],0,false,true,true⟩,⟨1,1,fun _=>[rowsA t],0,false,true,true⟩,⟨2,1,fun _=>[i64 (t.getD i r0).o,ptsA (t.getD i r0).ps],0,false,true,true⟩,⟨2,1,fun _=>[i64 (t.getD (i + 1) r0).o,ptsA (t.getD (i + 1) r0).ps],0,false,true,true⟩,⟨4,1,fun _=>[i64 (ptT t (i) (k)).1,i64 (ptT t (i) (k)).2.1,i64 (ptT t (i) (k)).2.2,i64 (t.getD (i) r0).o],0,false,true,true⟩,⟨4,1,fun _=>[i64 (ptT t (i) (k + 1)).1,i64 (ptT t (i) (k + 1)).2.1,i64 (ptT t (i) (k + 1)).2.2,i64 (t.getD (i) r0).o],0,false,true,true⟩,⟨4,1,fun _=>[i64 (ptT t (i + 1) (k)).1,i64 (ptT t (i + 1) (k)).2.1,i64 (ptT t (i + 1) (k)).2.2,i64 (t.getD (i + 1) r0).o],0,false,true,true⟩,⟨4,1,fun _=>[i64 (ptT t (i + 1) (k + 1)).1,i64 (ptT t (i + 1) (k + 1)).2.1,i64 (ptT t (i + 1) (k + 1)).2.2,i64 (t.getD (i + 1) r0).o],0,false,true,true⟩,⟨12,1,F15,0,false,true,false⟩,⟨4,1,F16,0,false,true,false⟩,⟨4,4,F17,0,false,true,false⟩,⟨4,aU,fun j=>nmC (AU.getD j n0),0,true,true,false⟩],[],none,1⟩,[(10,.optr 14 0 0 0),(9,.optr 13 0 0 0),(8,.optr 12 0 0 0),(7,.optr 11 0 0 0),(0,.yld 0),(1,.optr 8 0 0 0),(3,i64 i),(4,.optr 9 0 0 0),(5,.optr 10 0 0 0),(14,i64 ((t.length : Int) - 1)),(15,i64 i),(32,i64 (((t.getD i r0).ps.length : Int) - 1)),(33,i64 k),(92,.optr 0 0 0 0),(93,.optr 1 0 0 0),(94,.optr 2 0 0 0),(95,.optr 3 0 0 0),(97,.optr 6 0 0 0),(98,.optr 7 0 0 0),(120,.func (.func 155) 0 [.optr 8 0 0 0])]⟩ ∧ mq = LU.length - bU,
         ⟨_,_,⟨0,o,_,_,_,_,_,by omega,rfl,hom,rfl,rfl⟩,⟨⟨.inl rfl,rfl,rfl,rfl⟩,⟨bA,⟨bA,⟨bA,⟨bA,⟨bA,⟨bA,⟨bA,⟨bA,⟨bA,⟨bA,⟨bA,⟨bA,⟨bA,⟨bA,⟨bA,⟨bA,⟨bA,⟨bA,⟨bA,trivial⟩⟩⟩⟩⟩⟩⟩⟩⟩⟩⟩⟩⟩⟩⟩⟩⟩⟩⟩,trivial⟩⟩,?_⟩
        rintro s0 m0 ⟨bU,oU,F4,F5,F15,F16,F17,hbU,hoU,hmU,rfl,hmeas⟩
        by_cases hlU : bU < LU.length
        ·have c92 := h92U bU hlU
         have hps := hPsU bU hlU
         have e1 : mxO o (PU.take (bU + 1)) = stO oU (PU.getD bU 0) := by rw [mxO_take _ _ _ (by omega),← hoU]
         by_cases g1 : oU.isSome = true
         ·have c94 := c94_o g1 hmU hps
          by_cases g2 : 0 < cmpR (PU.getD bU 0) (oU.getD 0)
          ·conv=>whnf
           conv=>whnf
           conv=>whnf
           conv=>whnf
           (conv=>whnf); refine ifB_dec (fun w4=>?_) (fun w4=>?_)
           ·conv=>whnf
            conv=>whnf
            conv=>whnf
            conv=>whnf
            (conv=>whnf); refine ⟨⟨(by omega),(by omega)⟩,?_⟩
            conv=>whnf
            conv=>whnf
            conv=>whnf
            conv=>whnf
            (conv=>whnf); refine ⟨⟨(by omega),(by omega)⟩,?_⟩
            conv=>whnf
            conv=>whnf
            conv=>whnf
            conv=>whnf
            (conv=>whnf); refine .inl ⟨_,_,byX rfl (Sound1.pl (c92) rfl),?_⟩
            conv=>whnf
            conv=>whnf
            conv=>whnf
            conv=>whnf
            (conv=>whnf); refine ifB_not ?_
            conv=>whnf
            conv=>whnf
            conv=>whnf
            conv=>whnf
            (conv=>whnf); refine ifB_intro (fun w5=>?_) (fun w5=>?_)
            ·conv=>whnf
             conv=>whnf
             conv=>whnf
             conv=>whnf
             (conv=>whnf); refine .inl ⟨_,_,byX rfl (Sound1.pl (c94) rfl),?_⟩
             conv=>whnf
             conv=>whnf
             conv=>whnf
             conv=>whnf
             (conv=>whnf); refine ifB_dec (fun w6=>?_) (fun w6=>?_)
             ·conv=>whnf
              conv=>whnf
              conv=>whnf
              conv=>whnf
              (conv=>whnf); refine ⟨inK64 (by omega) (by omega),?_⟩
              conv=>whnf
              conv=>whnf
              conv=>whnf
              conv=>whnf
              (conv=>whnf); refine ⟨_,_,⟨⟨bU + 1,some (PU.getD bU 0),_,_,_,_,_,by omega,(by rw [e1,st_gt g1 g2]),(fun m e=>by cases e; exact hps),rfl,rfl⟩,by omega⟩,⟨⟨.inl rfl,rfl,rfl,rfl⟩,⟨bA,⟨bA,⟨bA,⟨bA,⟨bA,⟨bA,⟨bA,⟨bA,⟨bA,⟨bA,⟨bA,⟨bA,⟨bA,⟨bA,⟨bA,⟨bA,⟨bA,⟨bA,⟨bA,trivial⟩⟩⟩⟩⟩⟩⟩⟩⟩⟩⟩⟩⟩⟩⟩⟩⟩⟩⟩,trivial⟩⟩
             ·(exfalso; omega)
            ·exact absurd (g1.symm.trans w5) nofun
           ·(exfalso; omega)
          ·conv=>whnf
           conv=>whnf
           conv=>whnf
           conv=>whnf
           (conv=>whnf); refine ifB_dec (fun w4=>?_) (fun w4=>?_)
           ·conv=>whnf
            conv=>whnf
            conv=>whnf
            conv=>whnf
            (conv=>whnf); refine ⟨⟨(by omega),(by omega)⟩,?_⟩
            conv=>whnf
            conv=>whnf
            conv=>whnf
            conv=>whnf
            (conv=>whnf); refine ⟨⟨(by omega),(by omega)⟩,?_⟩
            conv=>whnf
            conv=>whnf
            conv=>whnf
            conv=>whnf
            (conv=>whnf); refine .inl ⟨_,_,byX rfl (Sound1.pl (c92) rfl),?_⟩
            conv=>whnf
            conv=>whnf
            conv=>whnf
            conv=>whnf
            (conv=>whnf); refine ifB_not ?_
            conv=>whnf
            conv=>whnf
            conv=>whnf
            conv=>whnf
            (conv=>whnf); refine ifB_intro (fun w5=>?_) (fun w5=>?_)
            ·conv=>whnf
             conv=>whnf
             conv=>whnf
             conv=>whnf
             (conv=>whnf); refine .inl ⟨_,_,byX rfl (Sound1.pl (c94) rfl),?_⟩
             conv=>whnf
             conv=>whnf
             conv=>whnf
             conv=>whnf
             (conv=>whnf); refine ifB_dec (fun w6=>?_) (fun w6=>?_)
             ·(exfalso; omega)
             ·conv=>whnf
              conv=>whnf
              conv=>whnf
              conv=>whnf
              (conv=>whnf); refine ⟨inK64 (by omega) (by omega),?_⟩
              conv=>whnf
              conv=>whnf
              conv=>whnf
              conv=>whnf
              (conv=>whnf); refine ⟨_,_,⟨⟨bU + 1,oU,_,_,_,_,_,by omega,(by rw [e1,st_le g1 g2]),hmU,rfl,rfl⟩,by omega⟩,⟨⟨.inl rfl,rfl,rfl,rfl⟩,⟨bA,⟨bA,⟨bA,⟨bA,⟨bA,⟨bA,⟨bA,⟨bA,⟨bA,⟨bA,⟨bA,⟨bA,⟨bA,⟨bA,⟨bA,⟨bA,⟨bA,⟨bA,⟨bA,trivial⟩⟩⟩⟩⟩⟩⟩⟩⟩⟩⟩⟩⟩⟩⟩⟩⟩⟩⟩,trivial⟩⟩
            ·exact absurd (g1.symm.trans w5) nofun
           ·(exfalso; omega)
         ·conv=>whnf
          conv=>whnf
          conv=>whnf
          conv=>whnf
          (conv=>whnf); refine ifB_dec (fun w4=>?_) (fun w4=>?_)
          ·conv=>whnf
           conv=>whnf
           conv=>whnf
           conv=>whnf
           (conv=>whnf); refine ⟨⟨(by omega),(by omega)⟩,?_⟩
           conv=>whnf
           conv=>whnf
           conv=>whnf
           conv=>whnf
           (conv=>whnf); refine ⟨⟨(by omega),(by omega)⟩,?_⟩
           conv=>whnf
           conv=>whnf
           conv=>whnf
           conv=>whnf
           (conv=>whnf); refine .inl ⟨_,_,byX rfl (Sound1.pl (c92) rfl),?_⟩
           conv=>whnf
           conv=>whnf
           conv=>whnf
           conv=>whnf
           (conv=>whnf); refine ifB_not ?_
           conv=>whnf
           conv=>whnf
           conv=>whnf
           conv=>whnf
           (conv=>whnf); refine ifB_intro (fun w5=>?_) (fun w5=>?_)
           ·(first | contradiction | omega)
           ·conv=>whnf
            conv=>whnf
            conv=>whnf
            conv=>whnf
            (conv=>whnf); refine ⟨inK64 (by omega) (by omega),?_⟩
            conv=>whnf
            conv=>whnf
            conv=>whnf
            conv=>whnf
            (conv=>whnf); refine ⟨_,_,⟨⟨bU + 1,some (PU.getD bU 0),_,_,_,_,_,by omega,(by rw [e1,st_none _ g1]),(fun m e=>by cases e; exact hps),rfl,rfl⟩,by omega⟩,⟨⟨.inl rfl,rfl,rfl,rfl⟩,⟨bA,⟨bA,⟨bA,⟨bA,⟨bA,⟨bA,⟨bA,⟨bA,⟨bA,⟨bA,⟨bA,⟨bA,⟨bA,⟨bA,⟨bA,⟨bA,⟨bA,⟨bA,⟨bA,trivial⟩⟩⟩⟩⟩⟩⟩⟩⟩⟩⟩⟩⟩⟩⟩⟩⟩⟩⟩,trivial⟩⟩
          ·(exfalso; omega)
        ·have heU := mp_end hoU (by omega)
         conv=>whnf
         conv=>whnf
         conv=>whnf
         conv=>whnf
         (conv=>whnf); refine ifB_dec (fun w4=>?_) (fun w4=>?_)
         ·(exfalso; omega)
         ·conv => whnf
          conv=>whnf
          conv=>whnf
          conv=>whnf
          (conv=>whnf); refine ⟨(by first | rfl | assumption),?_⟩
          conv=>whnf
          conv=>whnf
          conv=>whnf
          conv=>whnf
          (conv=>whnf); refine ⟨[],by kernel_rfl,?_⟩
          conv=>whnf
          conv=>whnf
          conv=>whnf
          conv=>whnf
          (conv=>whnf); refine ⟨⟨(by omega),(by omega)⟩,?_⟩
          conv=>whnf
          conv=>whnf
          conv=>whnf
          conv=>whnf
          (conv=>whnf); refine ⟨⟨(by omega),(by show _ * (32 + 1) ≤ _; omega)⟩,?_⟩
          conv=>whnf
          conv=>whnf
          conv=>whnf
          conv=>whnf
          (conv=>whnf); refine ⟨[.slot 11 4,.forget [2,6,11,12,13,16,17,18,19,20,21,22,23,24,25,26,27,28,29,30,31,34,35,36,37,38,39,40,41,42,43,44,45,46,47,48,49,50,51,52,53,54,55,56,57,58,59,60,61,62,63,64,65,66,67,68,69,70,71,72,73,74,75,76,77,79,80,81,82,83,84,85,86,87,88,89,90,91,96,99,100,101,102,103,104,105,106,107,108,109,110,111,112,113,114,115,116,117,118,119,121,122,123,124,125,126,127,128,129,130,131,132,133,134,135,136,137,138,139,140,141,142,143,144,145,146,147,148,149,150,151,152,153,154,155,156,157,158,159,160,161,162,163,164,165,166,167,168,169,170,171,172,173,174,175,176,177,178,179,180,181,182,183,184,185,186,187,188,189,190,191,192,193,194,195,196,197,198,199,200,201,202,203,204,205,206,207,208,209,210,211,212,213,214,215,216,217,218,219,220,221,222,223,224,225,226,227,228,229]],[39,38,37,11,3,4,5,7,8],fun st mq=>∃ (aD : Nat) (F4 : Nat → List AV) (F5 : Nat → List AV) (F15 : Nat → List AV) (F16 : Nat → List AV) (F17 : Nat → List AV) (F19 : Nat → List AV) (F20 : Nat → List AV),(aD ≤ 4) ∧ st = ⟨[(39,i64 aD),(38,i64 4),(37,.oslice 21 0 0 4 none),(11,.oslice 22 0 0 aD none),(3,.optr 1 0 0 0),(4,.optr 2 0 0 0),(5,.optr 3 0 0 0),(7,.optr 6 0 0 0),(8,.optr 7 0 0 0)],⟨[⟨1,1,fun _=>[rowsA t],0,false,true,true⟩,⟨1,1,fun _=>[i64 h],0,false,true,true⟩,⟨2,1,fun _=>[i64 0,i64 0],0,false,true,true⟩,⟨1,1,fun _=>[i64 0],0,false,true,true⟩,⟨1,1,F4,0,false,true,false⟩,⟨1,2,F5,0,false,true,false⟩,⟨2,1,fun _=>[i64 (frO oU).1,i64 (frO oU).2],0,false,true,true⟩,⟨1,1,fun _=>[vb oU.isSome],0,false,true,true⟩,⟨1,1,fun _=>[rowsA t],0,false,true,true⟩,⟨2,1,fun _=>[i64 (t.getD i r0).o,ptsA (t.getD i r0).ps],0,false,true,true⟩,⟨2,1,fun _=>[i64 (t.getD (i + 1) r0).o,ptsA (t.getD (i + 1) r0).ps],0,false,true,true⟩,⟨4,1,fun _=>[i64 (ptT t (i) (k)).1,i64 (ptT t (i) (k)).2.1,i64 (ptT t (i) (k)).2.2,i64 (t.getD (i) r0).o],0,false,true,true⟩,⟨4,1,fun _=>[i64 (ptT t (i) (k + 1)).1,i64 (ptT t (i) (k + 1)).2.1,i64 (ptT t (i) (k + 1)).2.2,i64 (t.getD (i) r0).o],0,false,true,true⟩,⟨4,1,fun _=>[i64 (ptT t (i + 1) (k)).1,i64 (ptT t (i + 1) (k)).2.1,i64 (ptT t (i + 1) (k)).2.2,i64 (t.getD (i + 1) r0).o],0,false,true,true⟩,⟨4,1,fun _=>[i64 (ptT t (i + 1) (k + 1)).1,i64 (ptT t (i + 1) (k + 1)).2.1,i64 (ptT t (i + 1) (k + 1)).2.2,i64 (t.getD (i + 1) r0).o],0,false,true,true⟩,⟨12,1,F15,0,false,true,false⟩,⟨4,1,F16,0,false,true,false⟩,⟨4,4,F17,0,false,true,false⟩,⟨4,aU,fun j=>nmC (AU.getD j n0),0,true,true,false⟩,⟨12,1,F19,0,false,true,false⟩,⟨4,1,F20,0,false,true,false⟩,⟨4,4,fun j=>[i64 (AD.getD j n0).1.1,i64 (AD.getD j n0).1.2.1,i64 (AD.getD j n0).1.2.2,i64 (crO (triD t i k) j)],0,false,true,false⟩,⟨4,aD,fun j=>nmC (AD.getD j n0),0,false,true,false⟩],[],none,1⟩,[(78,vb false),(78,vb false),(78,vb false),(78,vb false),(78,vb false),(78,vb false),(78,vb false),(78,vb false),(10,.optr 14 0 0 0),(9,.optr 13 0 0 0),(8,.optr 12 0 0 0),(7,.optr 11 0 0 0),(0,.yld 0),(1,.optr 8 0 0 0),(3,i64 i),(4,.optr 9 0 0 0),(5,.optr 10 0 0 0),(14,i64 ((t.length : Int) - 1)),(15,i64 i),(32,i64 (((t.getD i r0).ps.length : Int) - 1)),(33,i64 k),(92,.optr 0 0 0 0),(93,.optr 1 0 0 0),(94,.optr 2 0 0 0),(95,.optr 3 0 0 0),(97,.optr 6 0 0 0),(98,.optr 7 0 0 0),(120,.func (.func 155) 0 [.optr 8 0 0 0])]⟩ ∧ mq = 4 - aD,
           ⟨_,_,⟨0,_,_,_,_,_,_,_,by omega,rfl,rfl⟩,⟨⟨.inl rfl,rfl,rfl,rfl⟩,⟨bA,⟨bA,⟨bA,⟨bA,⟨bA,⟨bA,⟨bA,⟨bA,⟨bA,⟨bA,⟨bA,⟨bA,⟨bA,⟨bA,⟨bA,⟨bA,⟨bA,⟨bA,⟨bA,⟨bA,⟨bA,⟨⟨rfl,rfl,rfl,rfl,fun _=>rfl,fun i hi=>.inl (crn4 hAD (by rfl) (by rfl) (by rfl) (by rfl) i hi)⟩,⟨⟨rfl,rfl,rfl,rfl,fun _=>rfl,fun i h=>.inl (absurd h (Nat.not_lt_zero i))⟩,trivial⟩⟩⟩⟩⟩⟩⟩⟩⟩⟩⟩⟩⟩⟩⟩⟩⟩⟩⟩⟩⟩⟩⟩,trivial⟩⟩,?_⟩
          rintro s0 m0 ⟨aD,F4,F5,F15,F16,F17,F19,F20,haD,rfl,hmeas⟩
          by_cases hltD : aD < 4
          ·have c101 := S101 (AD.getD aD n0).1
           conv=>whnf
           conv=>whnf
           conv=>whnf
           conv=>whnf
           conv=>whnf
           (conv=>whnf); refine ifB_dec (fun w5=>?_) (fun w5=>?_)
           ·conv=>whnf
            conv=>whnf
            conv=>whnf
            conv=>whnf
            conv=>whnf
            (conv=>whnf); refine ⟨⟨(by omega),(by omega)⟩,?_⟩
            conv=>whnf
            conv=>whnf
            conv=>whnf
            conv=>whnf
            conv=>whnf
            (conv=>whnf); refine .inl ⟨_,_,byX rfl (Sound1.pl (S101 _) rfl),?_⟩
            conv=>whnf
            conv=>whnf
            conv=>whnf
            conv=>whnf
            conv=>whnf
            (conv=>whnf); refine .inl ?_
            conv=>whnf
            conv=>whnf
            conv=>whnf
            conv=>whnf
            conv=>whnf
            (conv=>whnf); refine ⟨(by show _ * (32 + 1) ≤ _; omega),?_⟩
            conv=>whnf
            conv=>whnf
            conv=>whnf
            conv=>whnf
            conv=>whnf
            (conv=>whnf); refine ⟨inK64 (by omega) (by omega),?_⟩
            conv=>whnf
            conv=>whnf
            conv=>whnf
            conv=>whnf
            conv=>whnf
            (conv=>whnf); refine ⟨_,_,⟨⟨aD + 1,_,_,_,_,_,_,_,by omega,rfl,rfl⟩,by omega⟩,⟨⟨.inl rfl,rfl,rfl,rfl⟩,⟨bA,⟨bA,⟨bA,⟨bA,⟨bA,⟨bA,⟨bA,⟨bA,⟨bA,⟨bA,⟨bA,⟨bA,⟨bA,⟨bA,⟨bA,⟨bA,⟨bA,⟨bA,⟨bA,⟨bA,⟨bA,⟨bA,⟨⟨rfl,rfl,rfl,rfl,fun _=>rfl,fun i hi=>.inl (extE nmC (m := 4) (fun _=>rfl) (fun i=>AD.getD i n0) aD i hi _ (arn_row hAD hltD (Nat.zero_add aD)))⟩,trivial⟩⟩⟩⟩⟩⟩⟩⟩⟩⟩⟩⟩⟩⟩⟩⟩⟩⟩⟩⟩⟩⟩⟩,trivial⟩⟩
           ·(exfalso; omega)
          ·have h90 := h90D aD (by omega)
           conv=>whnf
           conv=>whnf
           conv=>whnf
           conv=>whnf
           conv=>whnf
           (conv=>whnf); refine ifB_dec (fun w5=>?_) (fun w5=>?_)
           ·(exfalso; omega)
           ·conv => whnf
            conv=>whnf
            conv=>whnf
            conv=>whnf
            conv=>whnf
            (conv=>whnf); refine .inl ⟨_,_,byX rfl (Sound1.pl (h91) rfl),?_⟩
            conv=>whnf
            conv=>whnf
            conv=>whnf
            conv=>whnf
            conv=>whnf
            (conv=>whnf); refine .inl ⟨_,_,byX rfl (h90),?_⟩
            conv=>whnf
            conv=>whnf
            conv=>whnf
            conv=>whnf
            conv=>whnf
            (conv=>whnf); refine ⟨[],[56,55,54,3,4,5,7,8],fun st mq=>∃ (bD : Nat) (oD : Option Rat) (F4 : Nat → List AV) (F5 : Nat → List AV) (F15 : Nat → List AV) (F16 : Nat → List AV) (F17 : Nat → List AV) (F19 : Nat → List AV) (F20 : Nat → List AV) (F21 : Nat → List AV),(bD ≤ LD.length) ∧ (oD = mxO oU (PD.take bD)) ∧ (∀ m,oD = some m → smR m) ∧ st = ⟨[(56,i64 bD),(55,i64 LD.length),(54,nms LD),(3,.optr 1 0 0 0),(4,.optr 2 0 0 0),(5,.optr 3 0 0 0),(7,.optr 6 0 0 0),(8,.optr 7 0 0 0)],⟨[⟨1,1,fun _=>[rowsA t],0,false,true,true⟩,⟨1,1,fun _=>[i64 h],0,false,true,true⟩,⟨2,1,fun _=>[i64 0,i64 0],0,false,true,true⟩,⟨1,1,fun _=>[i64 0],0,false,true,true⟩,⟨1,1,F4,0,false,true,false⟩,⟨1,2,F5,0,false,true,false⟩,⟨2,1,fun _=>[i64 (frO oD).1,i64 (frO oD).2],0,false,true,true⟩,⟨1,1,fun _=>[vb oD.isSome],0,false,true,true⟩,⟨1,1,fun _=>[rowsA t],0,false,true,true⟩,⟨2,1,fun _=>[i64 (t.getD i r0).o,ptsA (t.getD i r0).ps],0,false,true,true⟩,⟨2,1,fun _=>[i64 (t.getD (i + 1) r0).o,ptsA (t.getD (i + 1) r0).ps],0,false,true,true⟩,⟨4,1,fun _=>[i64 (ptT t (i) (k)).1,i64 (ptT t (i) (k)).2.1,i64 (ptT t (i) (k)).2.2,i64 (t.getD (i) r0).o],0,false,true,true⟩,⟨4,1,fun _=>[i64 (ptT t (i) (k + 1)).1,i64 (ptT t (i) (k + 1)).2.1,i64 (ptT t (i) (k + 1)).2.2,i64 (t.getD (i) r0).o],0,false,true,true⟩,⟨4,1,fun _=>[i64 (ptT t (i + 1) (k)).1,i64 (ptT t (i + 1) (k)).2.1,i64 (ptT t (i + 1) (k)).2.2,i64 (t.getD (i + 1) r0).o],0,false,true,true⟩,⟨4,1,fun _=>[i64 (ptT t (i + 1) (k + 1)).1,i64 (ptT t (i + 1) (k + 1)).2.1,i64 (ptT t (i + 1) (k + 1)).2.2,i64 (t.getD (i + 1) r0).o],0,false,true,true⟩,⟨12,1,F15,0,false,true,false⟩,⟨4,1,F16,0,false,true,false⟩,⟨4,4,F17,0,false,true,false⟩,⟨4,aU,fun j=>nmC (AU.getD j n0),0,true,true,false⟩,⟨12,1,F19,0,false,true,false⟩,⟨4,1,F20,0,false,true,false⟩,⟨4,4,F21,0,false,true,false⟩,⟨4,aD,fun j=>nmC (AD.getD j n0),0,true,true,false⟩],[],none,1⟩,[(78,vb false),(78,vb false),(78,vb false),(78,vb false),(78,vb false),(78,vb false),(78,vb false),(78,vb false),(10,.optr 14 0 0 0),(9,.optr 13 0 0 0),(8,.optr 12 0 0 0),(7,.optr 11 0 0 0),(0,.yld 0),(1,.optr 8 0 0 0),(3,i64 i),(4,.optr 9 0 0 0),(5,.optr 10 0 0 0),(14,i64 ((t.length : Int) - 1)),(15,i64 i),(32,i64 (((t.getD i r0).ps.length : Int) - 1)),(33,i64 k),(92,.optr 0 0 0 0),(93,.optr 1 0 0 0),(94,.optr 2 0 0 0),(95,.optr 3 0 0 0),(97,.optr 6 0 0 0),(98,.optr 7 0 0 0),(120,.func (.func 155) 0 [.optr 8 0 0 0])]⟩ ∧ mq = LD.length - bD,
             ⟨_,_,⟨0,oU,_,_,_,_,_,_,_,_,by omega,rfl,hmU,rfl,rfl⟩,⟨⟨.inl rfl,rfl,rfl,rfl⟩,⟨bA,⟨bA,⟨bA,⟨bA,⟨bA,⟨bA,⟨bA,⟨bA,⟨bA,⟨bA,⟨bA,⟨bA,⟨bA,⟨bA,⟨bA,⟨bA,⟨bA,⟨bA,⟨bA,⟨bA,⟨bA,⟨bA,⟨bA,trivial⟩⟩⟩⟩⟩⟩⟩⟩⟩⟩⟩⟩⟩⟩⟩⟩⟩⟩⟩⟩⟩⟩⟩,trivial⟩⟩,?_⟩
            rintro s0 m0 ⟨bD,oD,F4,F5,F15,F16,F17,F19,F20,F21,hbD,hoD,hmD,rfl,hmeas⟩
            by_cases hlD : bD < LD.length
            ·have c92 := h92D bD hlD
             have hps := hPsD bD hlD
             have e1 : mxO oU (PD.take (bD + 1)) = stO oD (PD.getD bD 0) := by rw [mxO_take _ _ _ (by omega),← hoD]
             by_cases g1 : oD.isSome = true
             ·have c94 := c94_o g1 hmD hps
              by_cases g2 : 0 < cmpR (PD.getD bD 0) (oD.getD 0)
              ·conv=>whnf
               conv=>whnf
               conv=>whnf
               conv=>whnf
               conv=>whnf
               conv=>whnf
               (conv=>whnf); refine ifB_dec (fun w6=>?_) (fun w6=>?_)
               ·conv=>whnf
                conv=>whnf
                conv=>whnf
                conv=>whnf
                conv=>whnf
                conv=>whnf
                (conv=>whnf); refine ⟨⟨(by omega),(by omega)⟩,?_⟩
                conv=>whnf
                conv=>whnf
                conv=>whnf
                conv=>whnf
                conv=>whnf
                conv=>whnf
                (conv=>whnf); refine ⟨⟨(by omega),(by omega)⟩,?_⟩
                conv=>whnf
                conv=>whnf
                conv=>whnf
                conv=>whnf
                conv=>whnf
                conv=>whnf
                (conv=>whnf); refine .inl ⟨_,_,byX rfl (Sound1.pl (c92) rfl),?_⟩
                conv=>whnf
                conv=>whnf
                conv=>whnf
                conv=>whnf
                conv=>whnf
                conv=>whnf
                (conv=>whnf); refine ifB_not ?_
                conv=>whnf
                conv=>whnf
                conv=>whnf
                conv=>whnf
                conv=>whnf
                conv=>whnf
                (conv=>whnf); refine ifB_intro (fun w7=>?_) (fun w7=>?_)
                ·conv=>whnf
                 conv=>whnf
                 conv=>whnf
                 conv=>whnf
                 conv=>whnf
                 conv=>whnf
                 (conv=>whnf); refine .inl ⟨_,_,byX rfl (Sound1.pl (c94) rfl),?_⟩
                 conv=>whnf
                 conv=>whnf
                 conv=>whnf
                 conv=>whnf
                 conv=>whnf
                 conv=>whnf
                 (conv=>whnf); refine ifB_dec (fun w8=>?_) (fun w8=>?_)
                 ·conv=>whnf
                  conv=>whnf
                  conv=>whnf
                  conv=>whnf
                  conv=>whnf
                  conv=>whnf
                  (conv=>whnf); refine ⟨inK64 (by omega) (by omega),?_⟩
                  conv=>whnf
                  conv=>whnf
                  conv=>whnf
                  conv=>whnf
                  conv=>whnf
                  conv=>whnf
                  (conv=>whnf); refine ⟨_,_,⟨⟨bD + 1,some (PD.getD bD 0),_,_,_,_,_,_,_,_,by omega,(by rw [e1,st_gt g1 g2]),(fun m e=>by cases e; exact hps),rfl,rfl⟩,by omega⟩,⟨⟨.inl rfl,rfl,rfl,rfl⟩,⟨bA,⟨bA,⟨bA,⟨bA,⟨bA,⟨bA,⟨bA,⟨bA,⟨bA,⟨bA,⟨bA,⟨bA,⟨bA,⟨bA,⟨bA,⟨bA,⟨bA,⟨bA,⟨bA,⟨bA,⟨bA,⟨bA,⟨bA,trivial⟩⟩⟩⟩⟩⟩⟩⟩⟩⟩⟩⟩⟩⟩⟩⟩⟩⟩⟩⟩⟩⟩⟩,trivial⟩⟩
                 ·(exfalso; omega)
                ·exact absurd (g1.symm.trans w7) nofun
               ·(exfalso; omega)
              ·conv=>whnf
               conv=>whnf
               conv=>whnf
               conv=>whnf
               conv=>whnf
               conv=>whnf
               (conv=>whnf); refine ifB_dec (fun w6=>?_) (fun w6=>?_)
               ·conv=>whnf
                conv=>whnf
                conv=>whnf
                conv=>whnf
                conv=>whnf
                conv=>whnf
                (conv=>whnf); refine ⟨⟨(by omega),(by omega)⟩,?_⟩
                conv=>whnf
                conv=>whnf
                conv=>whnf
                conv=>whnf
                conv=>whnf
                conv=>whnf
                (conv=>whnf); refine ⟨⟨(by omega),(by omega)⟩,?_⟩
                conv=>whnf
                conv=>whnf
                conv=>whnf
                conv=>whnf
                conv=>whnf
                conv=>whnf
                (conv=>whnf); refine .inl ⟨_,_,byX rfl (Sound1.pl (c92) rfl),?_⟩
                conv=>whnf
                conv=>whnf
                conv=>whnf
                conv=>whnf
                conv=>whnf
                conv=>whnf
                (conv=>whnf); refine ifB_not ?_
                conv=>whnf
                conv=>whnf
                conv=>whnf
                conv=>whnf
                conv=>whnf
                conv=>whnf
                (conv=>whnf); refine ifB_intro (fun w7=>?_) (fun w7=>?_)
                ·conv=>whnf
                 conv=>whnf
                 conv=>whnf
                 conv=>whnf
                 conv=>whnf
                 conv=>whnf
                 (conv=>whnf); refine .inl ⟨_,_,byX rfl (Sound1.pl (c94) rfl),?_⟩
                 conv=>whnf
                 conv=>whnf
                 conv=>whnf
                 conv=>whnf
                 conv=>whnf
                 conv=>whnf
                 (conv=>whnf); refine ifB_dec (fun w8=>?_) (fun w8=>?_)
                 ·(exfalso; omega)
                 ·conv=>whnf
                  conv=>whnf
                  conv=>whnf
                  conv=>whnf
                  conv=>whnf
                  conv=>whnf
                  (conv=>whnf); refine ⟨inK64 (by omega) (by omega),?_⟩
                  conv=>whnf
                  conv=>whnf
                  conv=>whnf
                  conv=>whnf
                  conv=>whnf
                  conv=>whnf
                  (conv=>whnf); refine ⟨_,_,⟨⟨bD + 1,oD,_,_,_,_,_,_,_,_,by omega,(by rw [e1,st_le g1 g2]),hmD,rfl,rfl⟩,by omega⟩,⟨⟨.inl rfl,rfl,rfl,rfl⟩,⟨bA,⟨bA,⟨bA,⟨bA,⟨bA,⟨bA,⟨bA,⟨bA,⟨bA,⟨bA,⟨bA,⟨bA,⟨bA,⟨bA,⟨bA,⟨bA,⟨bA,⟨bA,⟨bA,⟨bA,⟨bA,⟨bA,⟨bA,trivial⟩⟩⟩⟩⟩⟩⟩⟩⟩⟩⟩⟩⟩⟩⟩⟩⟩⟩⟩⟩⟩⟩⟩,trivial⟩⟩
                ·exact absurd (g1.symm.trans w7) nofun
               ·(exfalso; omega)
             ·conv=>whnf
              conv=>whnf
              conv=>whnf
              conv=>whnf
              conv=>whnf
              conv=>whnf
              (conv=>whnf); refine ifB_dec (fun w6=>?_) (fun w6=>?_)
              ·conv=>whnf
               conv=>whnf
               conv=>whnf
               conv=>whnf
               conv=>whnf
               conv=>whnf
               (conv=>whnf); refine ⟨⟨(by omega),(by omega)⟩,?_⟩
               conv=>whnf
               conv=>whnf
               conv=>whnf
               conv=>whnf
               conv=>whnf
               conv=>whnf
               (conv=>whnf); refine ⟨⟨(by omega),(by omega)⟩,?_⟩
               conv=>whnf
               conv=>whnf
               conv=>whnf
               conv=>whnf
               conv=>whnf
               conv=>whnf
               (conv=>whnf); refine .inl ⟨_,_,byX rfl (Sound1.pl (c92) rfl),?_⟩
               conv=>whnf
               conv=>whnf
               conv=>whnf
               conv=>whnf
               conv=>whnf
               conv=>whnf
               (conv=>whnf); refine ifB_not ?_
               conv=>whnf
               conv=>whnf
               conv=>whnf
               conv=>whnf
               conv=>whnf
               conv=>whnf
               (conv=>whnf); refine ifB_intro (fun w7=>?_) (fun w7=>?_)
               ·(first | contradiction | omega)
               ·conv=>whnf
                conv=>whnf
                conv=>whnf
                conv=>whnf
                conv=>whnf
                conv=>whnf
                (conv=>whnf); refine ⟨inK64 (by omega) (by omega),?_⟩
                conv=>whnf
                conv=>whnf
                conv=>whnf
                conv=>whnf
                conv=>whnf
                conv=>whnf
                (conv=>whnf); refine ⟨_,_,⟨⟨bD + 1,some (PD.getD bD 0),_,_,_,_,_,_,_,_,by omega,(by rw [e1,st_none _ g1]),(fun m e=>by cases e; exact hps),rfl,rfl⟩,by omega⟩,⟨⟨.inl rfl,rfl,rfl,rfl⟩,⟨bA,⟨bA,⟨bA,⟨bA,⟨bA,⟨bA,⟨bA,⟨bA,⟨bA,⟨bA,⟨bA,⟨bA,⟨bA,⟨bA,⟨bA,⟨bA,⟨bA,⟨bA,⟨bA,⟨bA,⟨bA,⟨bA,⟨bA,trivial⟩⟩⟩⟩⟩⟩⟩⟩⟩⟩⟩⟩⟩⟩⟩⟩⟩⟩⟩⟩⟩⟩⟩,trivial⟩⟩
              ·(exfalso; omega)
            ·have heD := mp_end hoD (by omega)
             conv=>whnf
             conv=>whnf
             conv=>whnf
             conv=>whnf
             conv=>whnf
             conv=>whnf
             (conv=>whnf); refine ifB_dec (fun w6=>?_) (fun w6=>?_)
             ·(exfalso; omega)
             ·conv=>whnf
              conv=>whnf
              conv=>whnf
              conv=>whnf
              conv=>whnf
              conv=>whnf
              (conv=>whnf); refine ⟨inK64 (by omega) (by omega),?_⟩
              conv=>whnf
              conv=>whnf
              conv=>whnf
              conv=>whnf
              conv=>whnf
              conv=>whnf
              (conv=>whnf); refine ⟨_,_,⟨⟨k + 1,oD,_,_,by omega,mp_step ho hPU hPD heU heD,hmD,rfl,rfl⟩,by omega⟩,⟨⟨.inl rfl,rfl,rfl,rfl⟩,⟨bA,⟨bA,⟨bA,⟨bA,⟨bA,⟨bA,⟨bA,⟨bA,⟨bA,⟨bA,⟨bA,trivial⟩⟩⟩⟩⟩⟩⟩⟩⟩⟩⟩,trivial⟩⟩
     ·(exfalso; omega)
    ·conv=>whnf
     conv=>whnf
     (conv=>whnf); refine ifB_dec (fun w2=>?_) (fun w2=>?_)
     ·(exfalso; omega)
     ·conv=>whnf
      conv=>whnf
      (conv=>whnf); refine ⟨inK64 (by omega) (by omega),?_⟩
      conv=>whnf
      conv=>whnf
      (conv=>whnf); refine ⟨_,_,⟨⟨i + 1,o,_,_,by omega,(by rw [ho,show k = npT t - 1 by omega]; rfl),hom,rfl,rfl⟩,by omega⟩,⟨⟨.inl rfl,rfl,rfl,rfl⟩,⟨bA,⟨bA,⟨bA,⟨bA,⟨bA,⟨bA,⟨bA,⟨bA,⟨bA,trivial⟩⟩⟩⟩⟩⟩⟩⟩⟩,trivial⟩⟩
   ·(exfalso; omega)
  ·have e : o = mpO t h := by rw [ho,show i = t.length - 1 by omega]; rfl
   conv=>whnf
   (conv=>whnf); refine ifB_dec (fun w1=>?_) (fun w1=>?_)
   ·(exfalso; omega)
   ·conv=>whnf
    (conv=>whnf); refine ⟨[],by kernel_rfl,?_⟩
    conv=>whnf
    (conv=>whnf); refine .inl ⟨_,_,byX rfl (Sound1.pl (S78 _ _) rfl),?_⟩
    conv=>whnf
    (conv=>whnf); refine ⟨?_,nofun⟩
    exact ave_tup2 (ave_agg2 (congrArg (fun q : Option Rat=>i64 (frO q).1) e) (congrArg (fun q : Option Rat=>i64 (frO q).2) e)) (congrArg (fun q : Option Rat=>i64 (if q.isSome = true then 0 else 12)) e)
 ·rw [if_neg h0,if_neg h0]
  refine sound (d := 2) tok2 mixed2 Tryz.func37 (by kernel_rfl) (by kernel_rfl) ?_
  (conv=>whnf); refine ⟨[],by kernel_rfl,?_⟩
  (conv=>whnf); refine .inl ⟨_,_,byX rfl (Sound1.pl (h97) rfl),?_⟩
  (conv=>whnf); refine .inl ⟨_,_,byX rfl (Sound1.pl (h77 _ rfl) rfl),?_⟩
  (conv=>whnf); refine .inl ⟨_,_,byX rfl (Sound1.pl (h76 ⟨rfl,rfl⟩) rfl),?_⟩
  (conv=>whnf); refine ifB_bne (fun w1=>?_) (fun w1=>?_)
  ·(conv=>whnf); refine ⟨?_,nofun⟩
   exact ave_tup2 (ave_agg2 rfl rfl) rfl
  ·(exfalso; omega)
end Go.Tr

/- Plain laws of chapter 5: a part of a table has the whole one's curves and powers. Conditions: none. -/
-- seat YtgbdlkajmmjahaaGreat
namespace Go.Tr
open Go Go.Proofs
set_option maxRecDepth 20000
set_option maxHeartbeats 8000000

def sub (t : List MRow) (a n : Nat) : List MRow := (t.drop a).take n
theorem fstE_none {f : Nat → Int} : ∀ {n k : Nat},(∀ i,k ≤ i → i < k + n → f i = 0) → fstE f n k = (0,0)
 | 0,_,_=>rfl
 | n + 1,k,h=>by
  unfold fstE
  rw [if_neg (not_not_intro (h k (Nat.le_refl _) (by omega)))]
  exact fstE_none fun i h1 h2=>h i (by omega) (by omega)
theorem pntE_0 {p : P3} (h : (-1000 ≤ p.1 ∧ p.1 ≤ 1000) ∧ (-1000 ≤ p.2.1 ∧ p.2.1 ≤ 1000) ∧ -10000 ≤ p.2.2 ∧ p.2.2 ≤ 10000) : pntE p = 0 := if_pos h
theorem chk_ok {t : List MRow} (hT : TblOk t) : chkM t = (0,0) := by
 have hn := hT.n
 have hnp := hT.np
 have hA : ∀ i,i < t.length → rowA t i = 0 := fun i hi=>by
  have h1 := hT.op i hi
  have h2 := hT.len i hi
  unfold rowA
  rw [if_neg (not_not_intro h1),if_neg (not_not_intro ⟨by omega,h2⟩),if_neg (by omega)]
  have hz : fstE (fun k=>pntE ((t.getD i r0).ps.getD k p0)) (t.getD i r0).ps.length 0 = (0,0) := fstE_none fun k _ hk=>pntE_0 (hT.pts i k hi (by omega))
  unfold pntsE
  rw [hz]
 have hO : ∀ i,i < t.length → rowO t i = 0 := fun i hi=>by
  unfold rowO
  by_cases h0 : i = 0
  ·rw [if_pos h0]
  ·obtain ⟨j,rfl⟩ : ∃ j,i = j + 1 := ⟨i - 1,by omega⟩
   have := hT.ord j hi
   rw [if_neg h0,Nat.add_sub_cancel,if_neg (by omega),if_neg (by omega)]
 have hX : fstE (rowX t) t.length 0 = (0,0) := fstE_none fun i _ hi=>by
  unfold rowX
  rw [if_neg (not_not_intro (hA i (by omega)))]; exact hO i (by omega)
 have hS : fstE (stripE t) (t.length - 1) 0 = (0,0) := fstE_none fun i _ hi=>by
  unfold stripE
  rw [fstE_none fun k _ hk=>?_]
  have hl := hT.len i (by omega)
  have := hT.ar i k (by omega) (by omega)
  unfold quadE
  rw [if_neg (by omega),if_neg (by omega)]
 unfold chkM
 rw [if_neg (by omega),if_neg (by omega),hX,hS]
 rfl
end Go.Tr

/- Plain laws of chapter 5: the locations of a point. Conditions: none. -/
-- seat YtgbdlkajmmjahaaGreat
namespace Go.Tr
open Go Go.Proofs
set_option maxRecDepth 20000
set_option maxHeartbeats 8000000

def lw (x : Tri) (p : P3) : Nat → Int
 | 0=>turnI p x.2.1.1 x.2.2.1
 | 1=>turnI p x.2.2.1 x.1.1
 | _=>turnI p x.1.1 x.2.1.1
def lo (x : Tri) : Nat → Int
 | 0=>x.1.2
 | 1=>x.2.1.2
 | _=>x.2.2.2
def lp (x : Tri) : Nat → Int
 | 0=>x.1.1.2.2
 | 1=>x.2.1.1.2.2
 | _=>x.2.2.1.2.2
def lar (x : Tri) : Int := turnI x.1.1 x.2.1.1 x.2.2.1
def sumW (x : Tri) (p : P3) (f : Nat → Int) : Nat → Int
  | 0=>0
  | k + 1=>sumW x p f k + lw x p k * f k
def lin (x : Tri) (p : P3) : Prop := 0 ≤ lw x p 0 ∧ 0 ≤ lw x p 1 ∧ 0 ≤ lw x p 2
instance (x : Tri) (p : P3) : Decidable (lin x p) := inferInstanceAs (Decidable (_ ∧ _ ∧ _))
def lcQ (x : Tri) (p : P3) : Q2 := (Rat.divInt (sumW x p (lo x) 3) (lar x),Rat.divInt (sumW x p (lp x) 3) (lar x))
def sm2 (q : Q2) : Prop := smR q.1 ∧ smR q.2
instance (q : Q2) : Decidable (sm2 q) := inferInstanceAs (Decidable (smR q.1 ∧ smR q.2))
structure TriL (x : Tri) : Prop where
 p : TriP x
 o : ∀ k,0 ≤ lo x k ∧ lo x k ≤ 100
 a : 0 < lar x
theorem turn_n {a b c : P3} (ha : PtOk a) (hb : PtOk b) (hc : PtOk c) : (turnI a b c).natAbs ≤ 8000000 := by
  have := turn_b ha hb hc
  omega
theorem lw_b {x : Tri} (hx : TriP x) {p : P3} (hp : PtOk p) (k : Nat) : (lw x p k).natAbs ≤ 8000000 := by
 unfold TriP at hx
 match k with
 | 0=>exact turn_n hp hx.2.1 hx.2.2
 | 1=>exact turn_n hp hx.2.2 hx.1
 | k + 2=>exact turn_n hp hx.1 hx.2.1
theorem lp_b {x : Tri} (hx : TriP x) (k : Nat) : (lp x k).natAbs ≤ 10000 := by
 unfold TriP PtOk at hx
 match k with
 | 0=>show x.1.1.2.2.natAbs ≤ _; omega
 | 1=>show x.2.1.1.2.2.natAbs ≤ _; omega
 | k + 2=>show x.2.2.1.2.2.natAbs ≤ _; omega
theorem sumW_b {x : Tri} (hx : TriP x) {p : P3} (hp : PtOk p) {f : Nat → Int} {A : Nat} (hf : ∀ k,(f k).natAbs ≤ A) : ∀ k,(sumW x p f k).natAbs ≤ k * (8000000 * A)
 | 0=>by simp [sumW]
 | k + 1=>by
  have h1 := sumW_b hx hp hf k
  have h2 := absM (lw_b hx hp k) (hf k)
  unfold sumW
  rw [Nat.add_mul,Nat.one_mul]
  omega
def lcs (p : P3) (L : List Tri) : List Q2 := (L.filter fun x=>decide (lin x p)).map fun x=>lcQ x p
theorem lcs_app (p : P3) (L M : List Tri) : lcs p (L ++ M) = lcs p L ++ lcs p M := by unfold lcs; rw [List.filter_append,List.map_append]
theorem lcs_yes {p : P3} {x : Tri} (h : lin x p) : lcs p [x] = [lcQ x p] := by unfold lcs; rw [List.filter_cons,if_pos (decide_eq_true h)]; rfl
theorem lcs_no {p : P3} {x : Tri} (h : ¬ lin x p) : lcs p [x] = [] := by unfold lcs; rw [List.filter_cons,if_neg (by simpa using h)]; rfl
theorem lcs_len (p : P3) (L : List Tri) : (lcs p L).length ≤ L.length := by
 unfold lcs
 rw [List.length_map]
 exact List.length_filter_le ..
def allS2 (L : List Q2) : Bool := L.all fun q=>decide (sm2 q)
theorem allS2_mem {L M : List Q2} (h : ∀ x,x ∈ L ↔ x ∈ M) : allS2 L = allS2 M := by
 rw [Bool.eq_iff_iff]
 unfold allS2
 rw [List.all_eq_true,List.all_eq_true]
 exact ⟨fun g x hx=>g x ((h x).2 hx),fun g x hx=>g x ((h x).1 hx)⟩
theorem allS2_app (L M : List Q2) : allS2 (L ++ M) = (allS2 L && allS2 M) := by unfold allS2; rw [List.all_append]
def lcS (t : List MRow) (p : P3) : List Q2 := putAll lt2 (lcs p (triT t (t.length - 1)))
theorem triT_L {t : List MRow} (hT : TblOk t) : ∀ i,i ≤ t.length - 1 → ∀ x ∈ triT t i,TriL x
 | 0,_,_,hx=>by cases hx
 | i + 1, hi, x, hx => by
  unfold triT at hx
  rcases List.mem_append.1 hx with hx | hx
  ·exact triT_L hT i (by omega) x hx
  ·have key : ∀ k,k + 1 ≤ npT t → ∀ x ∈ triK t i k,TriL x := fun k=>by
    induction k with
    | zero=>intro _ x hx; cases hx
    | succ k ih =>
     intro hk x hx
     have p1 := hT.pt i k (by omega)
     have p2 := hT.pt i (k + 1) (by omega)
     have p3 := hT.pt (i + 1) k (by omega)
     have p4 := hT.pt (i + 1) (k + 1) (by omega)
     have o1 := hT.op i (by omega)
     have o2 := hT.op (i + 1) (by omega)
     have ha := hT.ar i k (by omega) (by omega)
     unfold triK at hx
     rcases List.mem_append.1 hx with hx | hx
     ·rcases List.mem_append.1 hx with hx | hx
      ·exact ih (by omega) x hx
      ·rw [List.mem_singleton.1 hx]
       refine ⟨⟨p1,p2,p3⟩,fun j=>?_,ha.1⟩
       match j with
       | 0=>exact o1
       | 1=>exact o1
       | j + 2=>exact o2
     ·rw [List.mem_singleton.1 hx]
      refine ⟨⟨p2,p4,p3⟩,fun j=>?_,ha.2⟩
      match j with
      | 0=>exact o1
      | 1=>exact o2
      | j + 2=>exact o2
   have hnp := hT.np
   exact key (npT t - 1) (by omega) x hx
theorem loc_sort {L s : List Q2} (hp : s.Perm L) (hs : s.Pairwise fun a b=>¬ lt2 b a) : compL s = putAll lt2 L := sort_put lt2_irr lt2_tr lt2_tri hp hs
end Go.Tr

/- Contracts of chapter 5: the best point for a head and a flow; numbers in order. Conditions: none. -/
-- seat YtgbdlkajmmjahaaGreat
namespace Go.Tr
open Go Go.Proofs
set_option maxRecDepth 20000
set_option maxHeartbeats 8000000

theorem divInt_lt_iff {a b c d : Int} (hb : 0 < b) (hd : 0 < d) : Rat.divInt a b < Rat.divInt c d ↔ a * d < c * b := by
  rw [Rat.lt_iff_sub_pos,Rat.divInt_sub_divInt _ _ (by omega) (by omega),divInt_pos_iff (Int.mul_pos hd hb)]
  omega
def okB (f : Int) (n : Nm) : Bool := decide (0 < n.1.2.1) && decide (f * n.2 ≤ n.1.2.2)
theorem okB_q {f : Int} {n : Nm} (hd : 0 < n.2) : okB f n = true ↔ 0 < (nmQ n).2.1 ∧ (f : Rat) ≤ (nmQ n).2.2 := by
 have e1 : (nmQ n).2.1 = Rat.divInt n.1.2.1 n.2 := rfl
 have e2 : (nmQ n).2.2 = Rat.divInt n.1.2.2 n.2 := rfl
 have e3 : (f : Rat) = Rat.divInt f 1 := by
  have := divInt_int f (d := 1) (by decide)
  rw [Int.mul_one] at this; exact this.symm
 rw [e1,e2,divInt_pos_iff hd,e3,← Rat.not_lt,divInt_lt_iff hd (by decide)]
 unfold okB
 rw [Bool.and_eq_true,decide_eq_true_iff,decide_eq_true_iff,Int.mul_one]
 omega
end Go.Tr

/- Plain laws of chapter 5: the reference's greatest power is the package's. Conditions: none. -/
-- seat YtgbdlkajmmjahaaGreat
namespace Go.Tr
open Go Go.Proofs
set_option maxRecDepth 20000
set_option maxHeartbeats 8000000

def arQ (x : Tri) : List Q3 := (arnd x).map nmQ
def rws (h : Int) (x : Tri) : List Rat := (spL (arQ x) (hdL h)).map fun q=>q.2.2
theorem rws_mem {h : Int} {x : Tri} (hx : TriP x) (y : Rat) : y ∈ rws h x ↔ y ∈ pws h x := by
 have e : pws h x = (onS (arQ x) (hdL h)).map fun q=>q.2.2 := by
  unfold pws arQ
  rw [← onL_map (arnd_ok hx),List.map_map]; rfl
 rw [e]
 unfold rws
 simp only [List.mem_map]
 constructor
 ·rintro ⟨q,hq,rfl⟩
  exact ⟨q,(putAll_mem _ _).1 hq,rfl⟩
 ·rintro ⟨q,hq,rfl⟩
  exact ⟨q,(putAll_mem _ _).2 hq,rfl⟩
end Go.Tr

/- Contracts of chapter 5: the reference's maximum power. Conditions: none. -/
-- seat YtgbdlkajmmjahaaGreat
namespace Go.Tr
open Go Go.Proofs
set_option maxRecDepth 20000
set_option maxHeartbeats 8000000

theorem triT_P {t : List MRow} (hR : RwOk t) : ∀ i,i ≤ t.length - 1 → ∀ x ∈ triT t i,TriP x
 | 0,_,_,hx=>by cases hx
 | i + 1, hi, x, hx => by
  unfold triT at hx
  rcases List.mem_append.1 hx with hx | hx
  ·exact triT_P hR i (by omega) x hx
  ·obtain ⟨j,hj,e⟩ := List.getElem_of_mem hx
   have hl := triK_len t i (npT t - 1)
   have h := triK_ok hR (i := i) (by omega) (j := j) (by omega)
   have e2 : (triK t i (npT t - 1)).getD j tri0 = x := by
    rw [List.getD_eq_getElem?_getD,List.getElem?_eq_getElem hj,e]; rfl
   rw [e2] at h
   exact h
theorem nm1_q (p : P3) : nmQ (p,1) = ptQ p := by
 have e : ∀ a : Int,Rat.divInt a 1 = (a : Rat) := fun a=>by
  have := divInt_int a (d := 1) (by decide)
  rwa [Int.mul_one] at this
 unfold nmQ ptQ
 rw [e,e,e]
end Go.Tr

/- Contracts of chapter 5: where a list meets a line, as memory of the caller's own. Conditions: none. -/
/- Plain laws of chapter 5: the best point for a head and a power, in both orders the same. Conditions: none. -/
-- seat YtgbdlkajmmjahaaGreat
namespace Go.Tr
open Go Go.Proofs
set_option maxRecDepth 20000
set_option maxHeartbeats 8000000

def wN (r : MRow) : List Nm := r.ps.map fun p=>(p,1)
theorem wN_len (r : MRow) : (wN r).length = r.ps.length := List.length_map _
theorem wN_ok {t : List MRow} (hR : RwOk t) {i : Nat} (hi : i < t.length) : CvOk (wN (t.getD i r0)) := by
 have hl := hR.len i hi
 have hnp := hR.np
 have hb : ∀ n ∈ wN (t.getD i r0),∃ p,PtOk p ∧ n = (p,1) := fun n hn=>by
  obtain ⟨p,hp,e⟩ := List.mem_map.1 hn
  obtain ⟨k,hk,e2⟩ := List.getElem_of_mem hp
  have h : PtOk ((t.getD i r0).ps.getD k p0) := hR.pts i k hi (by omega)
  rw [List.getD_eq_getElem?_getD,List.getElem?_eq_getElem hk] at h
  refine ⟨p,?_,e.symm⟩
  rw [← e2]; exact h
 refine ⟨by rw [wN_len]; omega,fun n hn=>?_,fun n hn m hm=>?_⟩
 ·obtain ⟨p,hp,e⟩ := hb n hn
  rw [e]; exact nm1_ok hp
 ·obtain ⟨p,_,e⟩ := hb n hn
  obtain ⟨p',_,e'⟩ := hb m hm
  rw [e,e']
theorem wN_one {t : List MRow} (hR : RwOk t) {i : Nat} (hi : i < t.length) : One (wN (t.getD i r0)) := fun n hn=>by
 refine ⟨?_,(wN_ok hR hi).b n hn⟩
 obtain ⟨p,_,e⟩ := List.mem_map.1 hn
 rw [← e]
def leF (a b : Nm) : Prop := leR (nmQ a).2.1 (nmQ b).2.1
def pasB (n b : Nm) : Bool := decide (n.1.2.2 * b.1.2.1 > b.1.2.2 * n.1.2.1)
def bo (o : Option (Int × Nm)) : Int × Nm := match o with | none=>(0,((0,0,0),0)) | some b=>b
def stB (f x : Int) (o : Option (Int × Nm)) (n : Nm) : Option (Int × Nm) := if okB f n = true ∧ (o.isSome = true → pasB n (bo o).2 = true) then some (x,n) else o
def rwB (f x : Int) (o : Option (Int × Nm)) (L : List Nm) : Option (Int × Nm) := L.foldl (stB f x) o
inductive BstT (h f : Int) (t : List MRow) : Nat → Option (Int × Nm) → Prop
  | zero : BstT h f t 0 none
  | row {i : Nat} {o : Option (Int × Nm)} {L : List Nm} (hb : BstT h f t i o) (hp : L.Perm (onL (wN (t.getD i r0)) (hdL h))) (hs : L.Pairwise leF) : BstT h f t (i + 1) (rwB f (t.getD i r0).o o L)
def efQ (s : Q3) : Rat := s.2.2 / s.2.1
def okQ (f : Int) (s : Q3) : Prop := 0 < s.2.1 ∧ (f : Rat) ≤ s.2.2
instance (f : Int) (s : Q3) : Decidable (okQ f s) := inferInstanceAs (Decidable (_ ∧ _))
def topQ (o : Option (Int × Q3)) (s : Q3) : Bool := match o with | none=>true | some b=>decide (efQ b.2 < efQ s)
def stQ (f x : Int) (o : Option (Int × Q3)) (s : Q3) : Option (Int × Q3) := if okQ f s ∧ topQ o s = true then some (x,s) else o
def rwQ (f x : Int) (o : Option (Int × Q3)) (L : List Q3) : Option (Int × Q3) := L.foldl (stQ f x) o
theorem rwQ_snoc (f x : Int) (o : Option (Int × Q3)) (L : List Q3) (s : Q3) : rwQ f x o (L ++ [s]) = stQ f x (rwQ f x o L) s := by unfold rwQ; rw [List.foldl_append]; rfl
inductive IsB (f x : Int) (o : Option (Int × Q3)) (L : List Q3) : Option (Int × Q3) → Prop
  | old (h : ∀ s ∈ L,okQ f s → topQ o s = false) : IsB f x o L o
  | new {n : Q3} (hn : n ∈ L) (hk : okQ f n) (ht : topQ o n = true) (hb : ∀ s ∈ L,okQ f s → ¬ efQ n < efQ s) (he : ∀ s ∈ L,okQ f s → ¬ efQ s < efQ n → leR n.2.1 s.2.1) : IsB f x o L (some (x,n))
theorem topQ_lt {o : Option (Int × Q3)} {s n : Q3} (h1 : topQ o s = false) (h2 : topQ o n = true) : efQ s < efQ n := by
 cases o with
 | none=>cases h1
 | some b =>
  have h1 : ¬ efQ b.2 < efQ s := of_decide_eq_false h1
  have h2 : efQ b.2 < efQ n := of_decide_eq_true h2
  grind
theorem topQ_up {o : Option (Int × Q3)} {s n : Q3} (h1 : topQ o s = true) (h2 : efQ s < efQ n) : topQ o n = true := by
 cases o with
 | none=>rfl
 | some b =>
  have h1 : efQ b.2 < efQ s := of_decide_eq_true h1
  exact decide_eq_true (rlt_tr h1 h2)
theorem leR_rf (a : Rat) : leR a a := rlt_irr a
theorem isB (f x : Int) (o : Option (Int × Q3)) (L : List Q3) (hp : L.Pairwise fun a b=>leR a.2.1 b.2.1) : IsB f x o L (rwQ f x o L) := by
 induction L using snoc_ind with
 | h0=>exact .old fun s hs=>by cases hs
 | hs l y ih =>
  rw [List.pairwise_append] at hp
  have ih := ih hp.1
  have hly := fun s hs=>hp.2.2 s hs y (by simp)
  rw [rwQ_snoc]
  generalize hr : rwQ f x o l = r at ih
  clear hr
  unfold stQ
  by_cases hy : okQ f y
  ·cases ih with
   | old h =>
    by_cases ht : topQ o y = true
    ·rw [if_pos ⟨hy,ht⟩]
     refine .new (by simp) hy ht (fun s hs hk=>?_) fun s hs hk hne=>?_
     ·rcases List.mem_append.1 hs with hs | hs
      ·exact fun g=>rlt_irr _ (rlt_tr g (topQ_lt (h s hs hk) ht))
      ·rw [List.mem_singleton.1 hs]; exact rlt_irr _
     ·rcases List.mem_append.1 hs with hs | hs
      ·exact absurd (topQ_lt (h s hs hk) ht) hne
      ·rw [List.mem_singleton.1 hs]; exact leR_rf _
    ·rw [if_neg fun g=>ht g.2]
     refine .old fun s hs hk=>?_
     rcases List.mem_append.1 hs with hs | hs
     ·exact h s hs hk
     ·rw [List.mem_singleton.1 hs]; exact Bool.eq_false_iff.2 ht
   | new hn hk ht hb he =>
    rename_i n
    by_cases hg : efQ n < efQ y
    ·rw [if_pos ⟨hy,decide_eq_true hg⟩]
     refine .new (by simp) hy (topQ_up ht hg) (fun s hs hk=>?_) fun s hs hk hne=>?_
     ·rcases List.mem_append.1 hs with hs | hs
      ·exact fun g=>hb s hs hk (rlt_tr hg g)
      ·rw [List.mem_singleton.1 hs]; exact rlt_irr _
     ·rcases List.mem_append.1 hs with hs | hs
      ·have := hb s hs hk
       exact absurd (show efQ s < efQ y by grind) hne
      ·rw [List.mem_singleton.1 hs]; exact leR_rf _
    ·rw [if_neg fun g=>hg (of_decide_eq_true g.2)]
     refine .new (by simp [hn]) hk ht (fun s hs hk=>?_) fun s hs hk hne=>?_
     ·rcases List.mem_append.1 hs with hs | hs
      ·exact hb s hs hk
      ·rw [List.mem_singleton.1 hs]; exact hg
     ·rcases List.mem_append.1 hs with hs | hs
      ·exact he s hs hk hne
      ·rw [List.mem_singleton.1 hs]; exact hly n hn
  ·rw [if_neg fun g=>hy g.1]
   cases ih with
   | old h =>
    refine .old fun s hs hk=>?_
    rcases List.mem_append.1 hs with hs | hs
    ·exact h s hs hk
    ·rw [List.mem_singleton.1 hs] at hk; exact absurd hk hy
   | new hn hk ht hb he =>
    refine .new (by simp [hn]) hk ht (fun s hs hk=>?_) fun s hs hk hne=>?_
    ·rcases List.mem_append.1 hs with hs | hs
     ·exact hb s hs hk
     ·rw [List.mem_singleton.1 hs] at hk; exact absurd hk hy
    ·rcases List.mem_append.1 hs with hs | hs
     ·exact he s hs hk hne
     ·rw [List.mem_singleton.1 hs] at hk; exact absurd hk hy
theorem eff_inj {m n : Q3} (hm : 0 < m.2.1) (hh : m.1 = n.1) (hq : m.2.1 = n.2.1) (he : efQ m = efQ n) : m = n := by
 obtain ⟨a,b,c⟩ := m
 obtain ⟨a',b',c'⟩ := n
 unfold efQ at he
 dsimp only at *
 subst hh; subst hq
 have h0 : b ≠ 0 := fun e=>by rw [e] at hm; exact rlt_irr _ hm
 have : c = c' := by
  have h1 : c / b * b = c' / b * b := by rw [he]
  rwa [Rat.div_mul_cancel h0,Rat.div_mul_cancel h0] at h1
 rw [this]
theorem IsB.uniq {f x : Int} {o r r' : Option (Int × Q3)} {L M : List Q3} {h : Rat} (hL : IsB f x o L r) (hM : IsB f x o M r') (hm : ∀ s,s ∈ L ↔ s ∈ M) (hh : ∀ s ∈ L,s.1 = h) : r = r' := by
 cases hL with
 | old h1 =>
  cases hM with
  | old h2=>rfl
  | new hn hk ht hb he =>
   have := h1 _ ((hm _).2 hn) hk
   rw [this] at ht; cases ht
 | new hn hk ht hb he =>
  cases hM with
  | old h2 =>
   have := h2 _ ((hm _).1 hn) hk
   rw [this] at ht; cases ht
  | new hn' hk' ht' hb' he' =>
   have a1 := hb _ ((hm _).2 hn') hk'
   have a2 := hb' _ ((hm _).1 hn) hk
   have b1 := he _ ((hm _).2 hn') hk' a2
   have b2 := he' _ ((hm _).1 hn) hk a1
   unfold leR at b1 b2
   rw [eff_inj hk.1 ((hh _ hn).trans (hh _ ((hm _).2 hn')).symm) (by grind) (by grind)]
def ptsQ (t : List MRow) (i : Nat) : List Q3 := (t.getD i r0).ps.map ptQ
def bsT (h f : Int) (t : List MRow) : Nat → Option (Int × Q3)
  | 0=>none
  | i + 1=>rwQ f (t.getD i r0).o (bsT h f t i) (spL (ptsQ t i) (hdL h))
def oQ (o : Option (Int × Nm)) : Option (Int × Q3) := o.map fun b=>(b.1,nmQ b.2)
theorem pasB_q {n b : Nm} (hn : 0 < n.2) (hb : 0 < b.2) (hnq : 0 < n.1.2.1) (hbq : 0 < b.1.2.1) : pasB n b = decide (efQ (nmQ b) < efQ (nmQ n)) := by
 have e : efQ (nmQ b) < efQ (nmQ n) ↔ b.1.2.2 * n.1.2.1 < n.1.2.2 * b.1.2.1 := by
  have e1 : ∀ {m : Nm},0 < m.2 → efQ (nmQ m) = Rat.divInt m.1.2.2 m.1.2.1 := fun {m} hm=>by
   unfold efQ nmQ
   dsimp only
   rw [Rat.divInt_eq_div,Rat.divInt_eq_div,Rat.divInt_eq_div]
   have h0 : (m.2 : Rat) ≠ 0 := cast_ne (by omega)
   grind
  rw [e1 hb,e1 hn,divInt_lt_iff hbq hnq]
 rw [Bool.eq_iff_iff]
 unfold pasB
 rw [decide_eq_true_iff,decide_eq_true_iff,e]
def OkO (o : Option (Int × Nm)) : Prop := ∀ b,o = some b → NmB 4000 b.2 ∧ 0 < b.2.1.2.1
theorem stB_q {f x : Int} {o : Option (Int × Nm)} {n : Nm} (ho : OkO o) (hn : NmB 4000 n) : OkO (stB f x o n) ∧ oQ (stB f x o n) = stQ f x (oQ o) (nmQ n) := by
 have hk := okB_q (f := f) hn.d.1
 unfold stB stQ
 by_cases h1 : okB f n = true
 ·have h2 : okQ f (nmQ n) := hk.1 h1
  have hq : 0 < n.1.2.1 := by
   unfold okB at h1
   rw [Bool.and_eq_true,decide_eq_true_iff] at h1
   exact h1.1
  have e : (o.isSome = true → pasB n (bo o).2 = true) ↔ topQ (oQ o) (nmQ n) = true := by
   cases o with
   | none=>exact ⟨fun _=>rfl,fun _ g=>by cases g⟩
   | some b =>
    have hb := ho b rfl
    have e := pasB_q hn.d.1 hb.1.d.1 hq hb.2
    show (true = true → pasB n b.2 = true) ↔ decide (efQ (nmQ b.2) < efQ (nmQ n)) = true
    rw [e]
    exact ⟨fun g=>g rfl,fun g _=>g⟩
  by_cases h3 : topQ (oQ o) (nmQ n) = true
  ·rw [if_pos ⟨h1,e.2 h3⟩,if_pos ⟨h2,h3⟩]
   exact ⟨fun b hb=>by cases hb; exact ⟨hn,hq⟩,rfl⟩
  ·rw [if_neg fun g=>h3 (e.1 g.2),if_neg fun g=>h3 g.2]
   exact ⟨ho,rfl⟩
 ·rw [if_neg fun g=>h1 g.1,if_neg fun g=>h1 (hk.2 g.1)]
  exact ⟨ho,rfl⟩
theorem rwB_q {f x : Int} : ∀ (L : List Nm) {o : Option (Int × Nm)},OkO o → (∀ n ∈ L,NmB 4000 n) → OkO (rwB f x o L) ∧ oQ (rwB f x o L) = rwQ f x (oQ o) (L.map nmQ)
 | [],o,ho,_=>⟨ho,rfl⟩
 | n :: r,o,ho,hL=>by
  have h1 := stB_q (f := f) (x := x) ho (hL n (by simp))
  have h2 := rwB_q (f := f) (x := x) r h1.1 fun m hm=>hL m (by simp [hm])
  refine ⟨h2.1,?_⟩
  show oQ (rwB f x (stB f x o n) r) = rwQ f x (stQ f x (oQ o) (nmQ n)) (r.map nmQ)
  rw [h2.2,h1.2]
theorem wN_map (r : MRow) : (wN r).map nmQ = r.ps.map ptQ := by
 unfold wN
 rw [List.map_map]
 exact List.map_congr_left fun p _=>nm1_q p
theorem BstT.q {h f : Int} {t : List MRow} (hR : RwOk t) (hh : szE h = 0) {i : Nat} {o : Option (Int × Nm)} (hi : i ≤ t.length) (hb : BstT h f t i o) : OkO o ∧ oQ o = bsT h f t i := by
 induction hb with
 | zero=>exact ⟨nofun,rfl⟩
 | @row i o L hb hp hs ih =>
  obtain ⟨h1,h2⟩ := ih (by omega)
  have hw := wN_ok hR (i := i) (by omega)
  have hr : -1000 ≤ h ∧ h ≤ 1000 := by
   unfold szE at hh
   split at hh
   ·assumption
   ·cases hh
  have hB : ∀ n ∈ L,NmB 4000 n := fun n hn=>one_on (wN_one hR (i := i) (by omega)) hr _ (Nat.le_refl _) n (hp.subset hn)
  obtain ⟨g1,g2⟩ := rwB_q (f := f) (x := (t.getD i r0).o) L h1 hB
  refine ⟨g1,?_⟩
  rw [g2,h2]
  have hmap : (onL (wN (t.getD i r0)) (hdL h)).map nmQ = onS (ptsQ t i) (hdL h) := by
   rw [onL_map hw,wN_map]; rfl
  have hmem : ∀ s,s ∈ L.map nmQ ↔ s ∈ spL (ptsQ t i) (hdL h) := fun s=>by
   unfold spL
   rw [putAll_mem,← hmap]
   constructor
   ·intro hs
    obtain ⟨n,hn,e⟩ := List.mem_map.1 hs
    exact List.mem_map.2 ⟨n,hp.subset hn,e⟩
   ·intro hs
    obtain ⟨n,hn,e⟩ := List.mem_map.1 hs
    exact List.mem_map.2 ⟨n,hp.symm.subset hn,e⟩
  have hhd : ∀ s ∈ L.map nmQ,s.1 = (h : Rat) := fun s hs=>by
   have := (hmem s).1 hs
   unfold spL at this
   exact hdL_side (on_side _ s ((putAll_mem _ _).1 this))
  refine IsB.uniq (isB _ _ _ _ ?_) (isB _ _ _ _ ?_) hmem hhd
  ·rw [List.pairwise_map]; exact hs
  ·have hps : (spL (ptsQ t i) (hdL h)).Pairwise lt3 := putAll_sorted lt3_tr lt3_tri _
   refine List.Pairwise.imp_of_mem ?_ hps
   intro a b ha hb hl
   have h1 := hhd a ((hmem a).2 ha)
   have h2 := hhd b ((hmem b).2 hb)
   exact lt3_flow hl (h1.trans h2.symm)
end Go.Tr

/- Plain laws of chapter 5: what lies on a line lies on the curve, in the table's bounds; how often a curve changes sides. Conditions: none. -/
namespace Go.Tr
open Go Go.Proofs
set_option maxRecDepth 20000
set_option maxHeartbeats 8000000

def BdQ (b : B3) (q : Q3) : Prop := (((b.1.1 : Rat) ≤ q.1 ∧ q.1 ≤ (b.1.2 : Rat)) ∧ ((b.2.1.1 : Rat) ≤ q.2.1 ∧ q.2.1 ≤ (b.2.1.2 : Rat))) ∧ (b.2.2.1 : Rat) ≤ q.2.2 ∧ q.2.2 ≤ (b.2.2.2 : Rat)
def InB (b : B3) (p : P3) : Prop := ((b.1.1 ≤ p.1 ∧ p.1 ≤ b.1.2) ∧ b.2.1.1 ≤ p.2.1 ∧ p.2.1 ≤ b.2.1.2) ∧ b.2.2.1 ≤ p.2.2 ∧ p.2.2 ≤ b.2.2.2
def LeB (a b : B3) : Prop := ((b.1.1 ≤ a.1.1 ∧ a.1.2 ≤ b.1.2) ∧ b.2.1.1 ≤ a.2.1.1 ∧ a.2.1.2 ≤ b.2.1.2) ∧ b.2.2.1 ≤ a.2.2.1 ∧ a.2.2.2 ≤ b.2.2.2
theorem LeB.tr {a b c : B3} (h : LeB a b) (g : LeB b c) : LeB a c := by unfold LeB at *; omega
theorem InB.up {a b : B3} {p : P3} (h : InB a p) (g : LeB a b) : InB b p := by unfold InB LeB at *; omega
theorem InB.q {b : B3} {p : P3} (h : InB b p) : BdQ b (ptQ p) := by
 unfold InB at h
 have c : ∀ x y : Int,x ≤ y → (x : Rat) ≤ (y : Rat) := fun x y h=>Rat.intCast_le_intCast.2 h
 exact ⟨⟨⟨c _ _ h.1.1.1,c _ _ h.1.1.2⟩,c _ _ h.1.2.1,c _ _ h.1.2.2⟩,c _ _ h.2.1,c _ _ h.2.2⟩
theorem part_01 {t : List MRow} {f : Int × Int} (hT : TblOk t) (hO : OpOk t f) : 0 ≤ Rat.divInt (crvP t f) (crvD t f) ∧ Rat.divInt (crvP t f) (crvD t f) ≤ 1 := by
 have hd := crv_den hT hO
 have hp := crv_part hT hO
 refine ⟨(Rat.divInt_nonneg_iff_of_pos_right (by omega)).2 hp.1,?_⟩
 have e : (1 : Rat) = Rat.divInt 1 1 := by decide
 rw [← Rat.not_lt,e,divInt_lt_iff (by decide) (by omega)]
 omega
theorem frac01 {x y : Rat} (h : sgR x * sgR y < 0) : 0 < x / (x - y) ∧ x / (x - y) < 1 := by
 have hx := sgR_cases x
 have hy := sgR_cases y
 have h0 : x - y ≠ 0 := fun e=>by
  have e : x = y := by grind
  rw [e] at h
  rcases hy with ⟨_,e⟩ | ⟨_,e⟩ | ⟨_,e⟩ <;> rw [e] at h <;> omega
 have e := Rat.div_mul_cancel (a := x) h0
 have e2 : x / (x - y) * (x - y) = x := by grind
 generalize x / (x - y) = u at e2
 have hs : (x < 0 ∧ 0 < y) ∨ (0 < x ∧ y < 0) := by
  rcases hx with ⟨a,e⟩ | ⟨a,e⟩ | ⟨a,e⟩ <;> rcases hy with ⟨b,g⟩ | ⟨b,g⟩ | ⟨b,g⟩ <;> rw [e,g] at h <;> first | omega | exact .inl ⟨a,b⟩ | exact .inr ⟨a,b⟩
 rcases hs with ⟨a,b⟩ | ⟨a,b⟩
 ·constructor
  ·refine Rat.not_le.1 fun g=>?_
   have := Rat.mul_nonneg (a := -u) (b := y - x) (by grind) (by grind)
   grind
  ·refine Rat.not_le.1 fun g=>?_
   have := Rat.mul_nonneg (a := u - 1) (b := y - x) (by grind) (by grind)
   grind
 ·constructor
  ·refine Rat.not_le.1 fun g=>?_
   have := Rat.mul_nonneg (a := -u) (b := x - y) (by grind) (by grind)
   grind
  ·refine Rat.not_le.1 fun g=>?_
   have := Rat.mul_nonneg (a := u - 1) (b := x - y) (by grind) (by grind)
   grind
theorem onQ_mem {L : List Q3} {l : Ln} : ∀ k,k ≤ L.length → ∀ q ∈ onQ L l k,∃ j,j < L.length ∧ (q = L.getD j q0 ∨ (j + 1 < L.length ∧ ∃ u,0 < u ∧ u < 1 ∧ q = mixQ (L.getD j q0) (L.getD (j + 1) q0) u))
 | 0,_,q,hq=>by cases hq
 | k + 1, hk, q, hq => by
  unfold onQ at hq
  rcases List.mem_append.1 hq with hq | hq
  ·exact onQ_mem k (by omega) q hq
  ·rcases List.mem_append.1 hq with hq | hq
   ·split at hq
    ·exact ⟨k,by omega,.inl (List.mem_singleton.1 hq)⟩
    ·cases hq
   ·split at hq
    ·rename_i hc
     have := frac01 hc.2
     exact ⟨k,by omega,.inr ⟨hc.1,_,this.1,this.2,List.mem_singleton.1 hq⟩⟩
    ·cases hq
def PlNe (a b : Q3) : Prop := ¬ (a.1 = b.1 ∧ a.2.1 = b.2.1)
def ChE (l : List Q3) : Prop := ∀ k,k + 1 < l.length → l.getD k q0 = l.getD (k + 1) q0 ∨ PlNe (l.getD k q0) (l.getD (k + 1) q0)
theorem getD_app1 {l m : List Q3} {k : Nat} (h : k < l.length) : (l ++ m).getD k q0 = l.getD k q0 := by
  rw [List.getD_eq_getElem?_getD,List.getD_eq_getElem?_getD,List.getElem?_append_left h]
theorem getD_app2 {l : List Q3} {x : Q3} : (l ++ [x]).getD l.length q0 = x := by
  rw [List.getD_eq_getElem?_getD,List.getElem?_append_right (Nat.le_refl _),Nat.sub_self]; rfl
theorem last_at {l : List Q3} {k : Nat} (h : k + 1 = l.length) : l.getLast? = some (l.getD k q0) := by
  rw [List.getLast?_eq_getElem?,List.getD_eq_getElem?_getD,← h,Nat.add_sub_cancel,List.getElem?_eq_getElem (by omega)]; rfl
theorem ChE.app {l : List Q3} {x : Q3} (h : ChE l) (hx : ∀ y,l.getLast? = some y → y = x ∨ PlNe y x) : ChE (l ++ [x]) := fun k hk=>by
 rw [List.length_append,List.length_singleton] at hk
 by_cases e : k + 1 < l.length
 ·rw [getD_app1 (by omega),getD_app1 e]; exact h k e
 ·have e : k + 1 = l.length := by omega
  rw [getD_app1 (by omega),e,getD_app2]
  exact hx _ (last_at e)
theorem ChE.init {l : List Q3} {x : Q3} (h : ChE (l ++ [x])) : ChE l ∧ ∀ y,l.getLast? = some y → y = x ∨ PlNe y x := by
 constructor
 ·intro k hk
  have := h k (by rw [List.length_append]; omega)
  rwa [getD_app1 (by omega),getD_app1 hk] at this
 ·intro y hy
  by_cases e : l.length = 0
  ·rw [List.length_eq_zero_iff.1 e] at hy; cases hy
  ·have e1 : l.length - 1 + 1 = l.length := by omega
   have := h (l.length - 1) (by rw [List.length_append,List.length_singleton]; omega)
   rw [getD_app1 (by omega),e1,getD_app2] at this
   rw [last_at e1] at hy
   rw [← Option.some.inj hy]; exact this
theorem last_snoc (l : List Q3) (x y : Q3) (h : (l ++ [x]).getLast? = some y) : x = y := by
  rw [List.getLast?_append] at h
  exact Option.some.inj h
end Go.Tr

/- Plain laws of chapter 5: what lies in a triangle. Conditions: none. -/
-- seat YtgbdlkajmmjahaaGreat
namespace Go.Tr
open Go Go.Proofs
set_option maxRecDepth 20000
set_option maxHeartbeats 8000000

def InT (x : Tri) (o : Rat) (q : Q3) : Prop := ∃ a b c : Rat,(0 ≤ a ∧ 0 ≤ b ∧ 0 ≤ c) ∧ a + b + c = 1 ∧ o = a * (x.1.2 : Rat) + b * (x.2.1.2 : Rat) + c * (x.2.2.2 : Rat) ∧
  q.1 = a * (x.1.1.1 : Rat) + b * (x.2.1.1.1 : Rat) + c * (x.2.2.1.1 : Rat) ∧ q.2.1 = a * (x.1.1.2.1 : Rat) + b * (x.2.1.1.2.1 : Rat) + c * (x.2.2.1.2.1 : Rat) ∧ q.2.2 = a * (x.1.1.2.2 : Rat) + b * (x.2.1.1.2.2 : Rat) + c * (x.2.2.1.2.2 : Rat)
theorem InT.mix {x : Tri} {o : Rat} {p q : Q3} (hp : InT x o p) (hq : InT x o q) {u : Rat} (h0 : 0 ≤ u) (h1 : u ≤ 1) : InT x o (mixQ p q u) := by
 obtain ⟨a,b,c,⟨a1,a2,a3⟩,a4,a5,a6,a7,a8⟩ := hp
 obtain ⟨a',b',c',⟨b1,b2,b3⟩,b4,b5,b6,b7,b8⟩ := hq
 have n : ∀ z w : Rat,0 ≤ z → 0 ≤ w → 0 ≤ z + u * (w - z) := fun z w hz hw=>by
  have h2 := Rat.mul_nonneg h0 hw
  have h3 := Rat.mul_nonneg (show 0 ≤ 1 - u by grind) hz
  grind
 refine ⟨a + u * (a' - a),b + u * (b' - b),c + u * (c' - c),⟨n _ _ a1 b1,n _ _ a2 b2,n _ _ a3 b3⟩,by grind,?_,?_,?_,?_⟩
 ·have e : o = o + u * (o - o) := by grind
  rw [e]
  rw (occs := .pos [1]) [a5]
  grind
 ·show mix1 _ _ _ = _
  unfold mix1
  rw [a6,b6]; grind
 ·show mix1 _ _ _ = _
  unfold mix1
  rw [a7,b7]; grind
 ·show mix1 _ _ _ = _
  unfold mix1
  rw [a8,b8]; grind
theorem lw_int {x : Tri} {q : Q3} {h f : Int} (e1 : q.1 = (h : Rat)) (e2 : q.2.1 = (f : Rat)) {a b c : Rat} (hs : a + b + c = 1)
  (h1 : q.1 = a * (x.1.1.1 : Rat) + b * (x.2.1.1.1 : Rat) + c * (x.2.2.1.1 : Rat)) (h2 : q.2.1 = a * (x.1.1.2.1 : Rat) + b * (x.2.1.1.2.1 : Rat) + c * (x.2.2.1.2.1 : Rat)) :
  ((lw x (h,f,0) 0 : Int) : Rat) = a * (lar x : Rat) ∧ ((lw x (h,f,0) 1 : Int) : Rat) = b * (lar x : Rat) ∧ ((lw x (h,f,0) 2 : Int) : Rat) = c * (lar x : Rat) := by
 rw [e1] at h1
 rw [e2] at h2
 have hc : c = 1 - a - b := by grind
 subst hc
 unfold lw lar turnI
 dsimp only
 push_cast
 generalize (h : Rat) = hh at *
 generalize (f : Rat) = ff at *
 subst h1 h2
 refine ⟨by grind,by grind,by grind⟩
theorem nn_cast {z : Int} (h : 0 ≤ (z : Rat)) : 0 ≤ z := Rat.intCast_le_intCast.1 (by rw [Rat.intCast_zero]; exact h)
theorem sum_int {x : Tri} {p : P3} {g : Nat → Int} {a b c A : Rat} (h : A ≠ 0) (h0 : ((lw x p 0 : Int) : Rat) = a * A) (h1 : ((lw x p 1 : Int) : Rat) = b * A) (h2 : ((lw x p 2 : Int) : Rat) = c * A) :
  ((sumW x p g 3 : Int) : Rat) / A = a * (g 0 : Rat) + b * (g 1 : Rat) + c * (g 2 : Rat) := by
 have e : sumW x p g 3 = lw x p 0 * g 0 + lw x p 1 * g 1 + lw x p 2 * g 2 := by
  show 0 + lw x p 0 * g 0 + lw x p 1 * g 1 + lw x p 2 * g 2 = _
  rw [Int.zero_add]
 rw [e]
 push_cast
 rw [h0,h1,h2]
 grind
theorem loc_of {x : Tri} (hx : TriL x) {o : Rat} {q : Q3} {h f : Int} (hq : InT x o q) (e1 : q.1 = (h : Rat)) (e2 : q.2.1 = (f : Rat)) : lin x (h,f,0) ∧ lcQ x (h,f,0) = (o,q.2.2) := by
 obtain ⟨a,b,c,⟨a1,a2,a3⟩,a4,a5,a6,a7,a8⟩ := hq
 obtain ⟨l0,l1,l2⟩ := lw_int e1 e2 a4 a6 a7
 have ha := hx.a
 have hA : (0 : Rat) ≤ (lar x : Rat) := by
  have := Rat.intCast_le_intCast.2 (Int.le_of_lt ha)
  rw [Rat.intCast_zero] at this
  exact this
 have hA0 : (lar x : Rat) ≠ 0 := cast_ne (by omega)
 refine ⟨⟨nn_cast ?_,nn_cast ?_,nn_cast ?_⟩,?_⟩
 ·rw [l0]; exact Rat.mul_nonneg a1 hA
 ·rw [l1]; exact Rat.mul_nonneg a2 hA
 ·rw [l2]; exact Rat.mul_nonneg a3 hA
 ·unfold lcQ
  rw [Rat.divInt_eq_div,Rat.divInt_eq_div,sum_int hA0 l0 l1 l2,sum_int hA0 l0 l1 l2,a5,a8]
  rfl
end Go.Tr

/- Contracts of chapter 5: the location in a triangle; locations compared. Conditions: none. -/
-- seat YtgbdlkajmmjahaaGreat
namespace Go.Tr
open Go Go.Proofs
set_option maxRecDepth 20000
set_option maxHeartbeats 8000000

def fr2 (q : Q2) : (Int × Int) × Int × Int := (frI q.1,frI q.2)
abbrev lcC (s : (Int × Int) × Int × Int) : List AV := [i64 s.1.1,i64 s.1.2,i64 s.2.1,i64 s.2.2]
abbrev lcA (s : (Int × Int) × Int × Int) : AV := .agg (lcC s)
theorem ave_lc {k : Nat} {s : (Int × Int) × Int × Int} : AVE (k + 2) (lcA s) (lcA s) := ave_aggR (by simp [AV.atom])
theorem S115_2 (a b : Int) {f : Nat → List AV} (h : f 0 = [i64 a] ∧ f 1 = [i64 b]) : SP 115 [.rslice 1 2 f] (i64 (firstOf [a,b])) false := by
 have key : ∀ i,i < 2 → f i = [i64 (([a,b] : List Int).getD i 0)] := fun i hi=>by
  match i,hi with
  | 0,_=>exact h.1
  | 1,_=>exact h.2
 refine (S115 [a,b] (by simp)).argsD rfl fun i y x hy hx=>?_
 match i,hy,hx with
 | 0,hy,hx=>cases hy; cases hx; exact .inr ⟨1,AVF_rows rfl key 0⟩
theorem S114 (p q : Q2) (hp : sm2 p) (hq : sm2 q) : SP 114 [lcA (fr2 p),lcA (fr2 q)] (i64 (cmp2 p q)) false := by
 have h1 := S94 p.1 q.1 hp.1 hq.1
 have h2 := S94 p.2 q.2 hp.2 hq.2
 have h4 := @S115_2 (cmpR p.1 q.1) (cmpR p.2 q.2)
 have e : firstOf [cmpR p.1 q.1,cmpR p.2 q.2] = cmp2 p q := by rw [first2]; rfl
 rw [e] at h4
 refine sound (d := 2) tok2 mixed2 Tryz.func114 (by kernel_rfl) (by kernel_rfl) ?_
 (conv=>whnf); refine ⟨[],by kernel_rfl,?_⟩
 (conv=>whnf); refine .inl ⟨_,_,byX rfl (Sound1.pl (h1) rfl),?_⟩
 (conv=>whnf); refine .inl ⟨_,_,byX rfl (Sound1.pl (h2) rfl),?_⟩
 (conv=>whnf); refine .inl ⟨_,_,byX rfl (Sound1.pl (h4 ⟨rfl,rfl⟩) rfl),?_⟩
 (conv=>whnf); refine ⟨?_,nofun⟩
 (first | contradiction | rfl)
def lcR (x : Tri) (p : P3) : ((Int × Int) × Int × Int) × Bool × Int :=
  if lin x p then ((okR (lcQ x p).1,okR (lcQ x p).2),true,if smR (lcQ x p).1 then (if smR (lcQ x p).2 then 0 else 8) else 8) else (((0,0),0,0),false,0)
theorem lcR_no {x : Tri} {p : P3} (h : ¬ lin x p) : lcR x p = (((0,0),0,0),false,0) := if_neg h
theorem lcR_yes {x : Tri} {p : P3} (h : lin x p) : lcR x p = ((okR (lcQ x p).1,okR (lcQ x p).2),true,if smR (lcQ x p).1 then (if smR (lcQ x p).2 then 0 else 8) else 8) := if_pos h
theorem first_sm (a b : Rat) : firstOf [if smR a then 0 else 8,if smR b then 0 else 8] = if smR a then (if smR b then 0 else 8) else 8 := by
 rw [first2]
 by_cases h : smR a
 ·rw [if_pos h,if_neg (by decide),if_pos h]
 ·rw [if_neg h,if_pos (by decide),if_neg h]
set_option maxHeartbeats 8000000 in
theorem S112 (x : Tri) (hx : TriL x) (p : P3) (hp : PtOk p) : SP 112 [triA x,.agg (ptC p)] (.tuple [lcA (lcR x p).1,vb (lcR x p).2.1,i64 (lcR x p).2.2]) false := by
 obtain ⟨q1,q2,q3⟩ := hx.p
 have ha := hx.a
 have hab := turn_n q1 q2 q3
 have b0 := lw_b hx.p hp 0
 have b1 := lw_b hx.p hp 1
 have b2 := lw_b hx.p hp 2
 have ho := hx.o
 have s1 := sumW_b hx.p hp (f := lo x) (A := 100) (fun k=>by have := ho k; omega)
 have s2 := sumW_b hx.p hp (f := lp x) (A := 10000) (fun k=>lp_b hx.p k)
 have m1 := fun k=>absM (lw_b hx.p hp k) (show (lo x k).natAbs ≤ 100 by have := ho k; omega)
 have m2 := fun k=>absM (lw_b hx.p hp k) (lp_b hx.p k)
 have c0 := S161 p _ _ hp q2 q3
 have c1 := S161 p _ _ hp q3 q1
 have c2 := S161 p _ _ hp q1 q2
 have c135 := S135 x q1 q2 q3
 have a1 := s1 3
 have a2 := s2 3
 have hla : lar x = turnI x.1.1 x.2.1.1 x.2.2.1 := rfl
 have c92a := S92p (sumW x p (lo x) 3) (lar x) (by omega) (by omega)
 have c92b := S92p (sumW x p (lp x) 3) (lar x) (by omega) (by omega)
 have h76 := @S76_2 (if smR (lcQ x p).1 then 0 else 8) (if smR (lcQ x p).2 then 0 else 8)
 rw [first_sm] at h76
 refine sound (d := 2) tok2 mixed2 Tryz.func112 (by kernel_rfl) (by kernel_rfl) ?_
 (conv=>whnf); refine ⟨[],[2,3,4,16,17,7,8],fun st mq=>∃ (k : Nat) (u : Int) (v : Int),(k ≤ 3) ∧ (u = sumW x p (lo x) k) ∧ (v = sumW x p (lp x) k) ∧ (∀ j,j < k → 0 ≤ lw x p j) ∧ st = ⟨[(2,.optr 0 0 0 0),(3,.optr 1 0 0 0),(4,.optr 2 0 0 0),(16,triA x),(17,i64 k),(7,i64 u),(8,i64 v)],⟨[⟨12,1,fun _=>triC x,0,false,true,true⟩,⟨3,1,fun _=>ptC p,0,false,true,true⟩,⟨4,1,fun _=>lcC ((0,0),0,0),0,false,true,true⟩],[],none,0⟩,[]⟩ ∧ mq = 3 - k,
  ⟨_,_,⟨0,0,0,by omega,rfl,rfl,(fun j h=>absurd h (Nat.not_lt_zero j)),rfl,rfl⟩,⟨⟨.inl rfl,rfl,rfl,rfl⟩,⟨bA,⟨bA,⟨bA,trivial⟩⟩⟩,trivial⟩⟩,?_⟩
 rintro s0 m0 ⟨k,u,v,hk,hu,hv,hw,rfl,hmeas⟩
 by_cases e0 : k = 0
 ·subst e0
  have g0 : (turnI p x.2.1.1 x.2.2.1).natAbs ≤ 8000000 := b0
  have g1 : (turnI p x.2.1.1 x.2.2.1 * x.1.2).natAbs ≤ 8000000 * 100 := m1 0
  have g2 : (turnI p x.2.1.1 x.2.2.1 * x.1.1.2.2).natAbs ≤ 8000000 * 10000 := m2 0
  have g3 : (u + turnI p x.2.1.1 x.2.2.1 * x.1.2).natAbs ≤ 1 * (8000000 * 100) := by rw [hu]; exact s1 1
  have g4 : (v + turnI p x.2.1.1 x.2.2.1 * x.1.1.2.2).natAbs ≤ 1 * (8000000 * 10000) := by rw [hv]; exact s2 1
  have hno : turnI p x.2.1.1 x.2.2.1 < 0 → ¬ lin x p := fun h e=>by
   have : 0 ≤ turnI p x.2.1.1 x.2.2.1 := e.1
   omega
  have hyes : 0 ≤ turnI p x.2.1.1 x.2.2.1 → ∀ j,j < 0 + 1 → 0 ≤ lw x p j := fun h j hj=>by
   by_cases e : j = 0
   ·rw [e]; exact h
   ·exact hw j (by omega)
  have t1 : 0 ≤ (((0 : Nat) : Int) + 1).tmod 3 ∧ (((0 : Nat) : Int) + 1).tmod 3 < ((3 : Nat) : Int) := by decide
  have t2 : 0 ≤ (((0 : Nat) : Int) + 2).tmod 3 ∧ (((0 : Nat) : Int) + 2).tmod 3 < ((3 : Nat) : Int) := by decide
  conv=>whnf
  (conv=>whnf); refine ⟨⟨(by omega),(by omega)⟩,?_⟩
  conv=>whnf
  (conv=>whnf); refine ⟨[],by kernel_rfl,?_⟩
  conv=>whnf
  (conv=>whnf); refine ⟨inK64 (by omega) (by omega),?_⟩
  conv=>whnf
  (conv=>whnf); refine ⟨(by omega),?_⟩
  conv=>whnf
  (conv=>whnf); refine ⟨⟨(by omega),(by omega)⟩,?_⟩
  conv=>whnf
  (conv=>whnf); refine ⟨inK64 (by omega) (by omega),?_⟩
  conv=>whnf
  (conv=>whnf); refine ⟨(by omega),?_⟩
  conv=>whnf
  (conv=>whnf); refine ⟨⟨(by omega),(by omega)⟩,?_⟩
  conv=>whnf
  (conv=>whnf); refine .inl ⟨_,_,byX rfl (Sound1.pl (c0) rfl),?_⟩
  conv=>whnf
  (conv=>whnf); refine ifB_dec (fun w1=>?_) (fun w1=>?_)
  ·conv=>whnf
   (conv=>whnf); refine ⟨?_,nofun⟩
   have hn := lcR_no (hno (by assumption))
   exact ave_tup3 (by rw [hn]; exact ave_lc (s := ((0,0),0,0))) (by rw [hn]; rfl) (by rw [hn]; rfl)
  ·conv=>whnf
   (conv=>whnf); refine ⟨inK64 (by omega) (by omega),?_⟩
   conv=>whnf
   (conv=>whnf); refine ⟨inK64 (by omega) (by omega),?_⟩
   conv=>whnf
   (conv=>whnf); refine ⟨inK64 (by omega) (by omega),?_⟩
   conv=>whnf
   (conv=>whnf); refine ⟨inK64 (by omega) (by omega),?_⟩
   conv=>whnf
   (conv=>whnf); refine ⟨inK64 (by omega) (by omega),?_⟩
   conv=>whnf
   (conv=>whnf); refine ⟨_,_,⟨⟨1,u + turnI p x.2.1.1 x.2.2.1 * x.1.2,v + turnI p x.2.1.1 x.2.2.1 * x.1.1.2.2,by omega,(by rw [hu]; rfl),(by rw [hv]; rfl),hyes (by omega),rfl,rfl⟩,by omega⟩,⟨⟨.inl rfl,rfl,rfl,rfl⟩,⟨bA,⟨bA,⟨bA,trivial⟩⟩⟩,trivial⟩⟩
 by_cases e1 : k = 1
 ·subst e1
  have g0 : (turnI p x.2.2.1 x.1.1).natAbs ≤ 8000000 := b1
  have g1 : (turnI p x.2.2.1 x.1.1 * x.2.1.2).natAbs ≤ 8000000 * 100 := m1 1
  have g2 : (turnI p x.2.2.1 x.1.1 * x.2.1.1.2.2).natAbs ≤ 8000000 * 10000 := m2 1
  have g3 : (u + turnI p x.2.2.1 x.1.1 * x.2.1.2).natAbs ≤ 2 * (8000000 * 100) := by rw [hu]; exact s1 2
  have g4 : (v + turnI p x.2.2.1 x.1.1 * x.2.1.1.2.2).natAbs ≤ 2 * (8000000 * 10000) := by rw [hv]; exact s2 2
  have hno : turnI p x.2.2.1 x.1.1 < 0 → ¬ lin x p := fun h e=>by
   have : 0 ≤ turnI p x.2.2.1 x.1.1 := e.2.1
   omega
  have hyes : 0 ≤ turnI p x.2.2.1 x.1.1 → ∀ j,j < 1 + 1 → 0 ≤ lw x p j := fun h j hj=>by
   by_cases e : j = 1
   ·rw [e]; exact h
   ·exact hw j (by omega)
  have t1 : 0 ≤ (((1 : Nat) : Int) + 1).tmod 3 ∧ (((1 : Nat) : Int) + 1).tmod 3 < ((3 : Nat) : Int) := by decide
  have t2 : 0 ≤ (((1 : Nat) : Int) + 2).tmod 3 ∧ (((1 : Nat) : Int) + 2).tmod 3 < ((3 : Nat) : Int) := by decide
  conv=>whnf
  (conv=>whnf); refine ⟨⟨(by omega),(by omega)⟩,?_⟩
  conv=>whnf
  (conv=>whnf); refine ⟨[],by kernel_rfl,?_⟩
  conv=>whnf
  (conv=>whnf); refine ⟨inK64 (by omega) (by omega),?_⟩
  conv=>whnf
  (conv=>whnf); refine ⟨(by omega),?_⟩
  conv=>whnf
  (conv=>whnf); refine ⟨⟨(by omega),(by omega)⟩,?_⟩
  conv=>whnf
  (conv=>whnf); refine ⟨inK64 (by omega) (by omega),?_⟩
  conv=>whnf
  (conv=>whnf); refine ⟨(by omega),?_⟩
  conv=>whnf
  (conv=>whnf); refine ⟨⟨(by omega),(by omega)⟩,?_⟩
  conv=>whnf
  (conv=>whnf); refine .inl ⟨_,_,byX rfl (Sound1.pl (c1) rfl),?_⟩
  conv=>whnf
  (conv=>whnf); refine ifB_dec (fun w1=>?_) (fun w1=>?_)
  ·conv=>whnf
   (conv=>whnf); refine ⟨?_,nofun⟩
   have hn := lcR_no (hno (by assumption))
   exact ave_tup3 (by rw [hn]; exact ave_lc (s := ((0,0),0,0))) (by rw [hn]; rfl) (by rw [hn]; rfl)
  ·conv=>whnf
   (conv=>whnf); refine ⟨inK64 (by omega) (by omega),?_⟩
   conv=>whnf
   (conv=>whnf); refine ⟨inK64 (by omega) (by omega),?_⟩
   conv=>whnf
   (conv=>whnf); refine ⟨inK64 (by omega) (by omega),?_⟩
   conv=>whnf
   (conv=>whnf); refine ⟨inK64 (by omega) (by omega),?_⟩
   conv=>whnf
   (conv=>whnf); refine ⟨inK64 (by omega) (by omega),?_⟩
   conv=>whnf
   (conv=>whnf); refine ⟨_,_,⟨⟨2,u + turnI p x.2.2.1 x.1.1 * x.2.1.2,v + turnI p x.2.2.1 x.1.1 * x.2.1.1.2.2,by omega,(by rw [hu]; rfl),(by rw [hv]; rfl),hyes (by omega),rfl,rfl⟩,by omega⟩,⟨⟨.inl rfl,rfl,rfl,rfl⟩,⟨bA,⟨bA,⟨bA,trivial⟩⟩⟩,trivial⟩⟩
 by_cases e2 : k = 2
 ·subst e2
  have g0 : (turnI p x.1.1 x.2.1.1).natAbs ≤ 8000000 := b2
  have g1 : (turnI p x.1.1 x.2.1.1 * x.2.2.2).natAbs ≤ 8000000 * 100 := m1 2
  have g2 : (turnI p x.1.1 x.2.1.1 * x.2.2.1.2.2).natAbs ≤ 8000000 * 10000 := m2 2
  have g3 : (u + turnI p x.1.1 x.2.1.1 * x.2.2.2).natAbs ≤ 3 * (8000000 * 100) := by rw [hu]; exact s1 3
  have g4 : (v + turnI p x.1.1 x.2.1.1 * x.2.2.1.2.2).natAbs ≤ 3 * (8000000 * 10000) := by rw [hv]; exact s2 3
  have hno : turnI p x.1.1 x.2.1.1 < 0 → ¬ lin x p := fun h e=>by
   have : 0 ≤ turnI p x.1.1 x.2.1.1 := e.2.2
   omega
  have hyes : 0 ≤ turnI p x.1.1 x.2.1.1 → ∀ j,j < 2 + 1 → 0 ≤ lw x p j := fun h j hj=>by
   by_cases e : j = 2
   ·rw [e]; exact h
   ·exact hw j (by omega)
  have t1 : 0 ≤ (((2 : Nat) : Int) + 1).tmod 3 ∧ (((2 : Nat) : Int) + 1).tmod 3 < ((3 : Nat) : Int) := by decide
  have t2 : 0 ≤ (((2 : Nat) : Int) + 2).tmod 3 ∧ (((2 : Nat) : Int) + 2).tmod 3 < ((3 : Nat) : Int) := by decide
  conv=>whnf
  (conv=>whnf); refine ⟨⟨(by omega),(by omega)⟩,?_⟩
  conv=>whnf
  (conv=>whnf); refine ⟨[],by kernel_rfl,?_⟩
  conv=>whnf
  (conv=>whnf); refine ⟨inK64 (by omega) (by omega),?_⟩
  conv=>whnf
  (conv=>whnf); refine ⟨(by omega),?_⟩
  conv=>whnf
  (conv=>whnf); refine ⟨⟨(by omega),(by omega)⟩,?_⟩
  conv=>whnf
  (conv=>whnf); refine ⟨inK64 (by omega) (by omega),?_⟩
  conv=>whnf
  (conv=>whnf); refine ⟨(by omega),?_⟩
  conv=>whnf
  (conv=>whnf); refine ⟨⟨(by omega),(by omega)⟩,?_⟩
  conv=>whnf
  (conv=>whnf); refine .inl ⟨_,_,byX rfl (Sound1.pl (c2) rfl),?_⟩
  conv=>whnf
  (conv=>whnf); refine ifB_dec (fun w1=>?_) (fun w1=>?_)
  ·conv=>whnf
   (conv=>whnf); refine ⟨?_,nofun⟩
   have hn := lcR_no (hno (by assumption))
   exact ave_tup3 (by rw [hn]; exact ave_lc (s := ((0,0),0,0))) (by rw [hn]; rfl) (by rw [hn]; rfl)
  ·conv=>whnf
   (conv=>whnf); refine ⟨inK64 (by omega) (by omega),?_⟩
   conv=>whnf
   (conv=>whnf); refine ⟨inK64 (by omega) (by omega),?_⟩
   conv=>whnf
   (conv=>whnf); refine ⟨inK64 (by omega) (by omega),?_⟩
   conv=>whnf
   (conv=>whnf); refine ⟨inK64 (by omega) (by omega),?_⟩
   conv=>whnf
   (conv=>whnf); refine ⟨inK64 (by omega) (by omega),?_⟩
   conv=>whnf
   (conv=>whnf); refine ⟨_,_,⟨⟨3,u + turnI p x.1.1 x.2.1.1 * x.2.2.2,v + turnI p x.1.1 x.2.1.1 * x.2.2.1.2.2,by omega,(by rw [hu]; rfl),(by rw [hv]; rfl),hyes (by omega),rfl,rfl⟩,by omega⟩,⟨⟨.inl rfl,rfl,rfl,rfl⟩,⟨bA,⟨bA,⟨bA,trivial⟩⟩⟩,trivial⟩⟩
 ·obtain rfl : k = 3 := by omega
  have hin : lin x p := ⟨hw 0 (by omega),hw 1 (by omega),hw 2 (by omega)⟩
  have hn := lcR_yes hin
  change SP 92 [i64 (sumW x p (lo x) 3),i64 (lar x)] (.tuple [gaF (okR (lcQ x p).1),i64 (if smR (lcQ x p).1 then 0 else 8)]) false at c92a
  change SP 92 [i64 (sumW x p (lp x) 3),i64 (lar x)] (.tuple [gaF (okR (lcQ x p).2),i64 (if smR (lcQ x p).2 then 0 else 8)]) false at c92b
  rw [← hu] at c92a
  rw [← hv] at c92b
  conv=>whnf
  (conv=>whnf); refine .inl ⟨_,_,byX rfl (Sound1.pl (c135) rfl),?_⟩
  conv=>whnf
  (conv=>whnf); refine .inl ⟨_,_,byX rfl (Sound1.pl (c92a) rfl),?_⟩
  conv=>whnf
  (conv=>whnf); refine .inl ⟨_,_,byX rfl (Sound1.pl (c135) rfl),?_⟩
  conv=>whnf
  (conv=>whnf); refine .inl ⟨_,_,byX rfl (Sound1.pl (c92b) rfl),?_⟩
  conv=>whnf
  (conv=>whnf); refine ⟨[],by kernel_rfl,?_⟩
  conv=>whnf
  (conv=>whnf); refine .inl ⟨_,_,byX rfl (Sound1.pl (h76 ⟨rfl,rfl⟩) rfl),?_⟩
  conv=>whnf
  (conv=>whnf); refine ⟨?_,nofun⟩
  exact ave_tup3 (by rw [hn]; exact ave_lc (s := (okR (lcQ x p).1,okR (lcQ x p).2))) (by rw [hn]; rfl) (by rw [hn]; rfl)
end Go.Tr

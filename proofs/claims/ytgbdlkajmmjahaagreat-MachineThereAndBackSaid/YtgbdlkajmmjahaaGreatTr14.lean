/- Contracts of chapter 5: the reference's locations compared and put into their place. Conditions: none. -/
import Derived.Test.YtgbdlkajmmjahaaGreatTr12
import Derived.Test.YtgbdlkajmmjahaaGreatTr10
import Derived.Test.YtgbdlkajmmjahaaGreatTr09
import Derived.Test.YtgbdlkajmmjahaaGreatTr13
import Derived.Test.YtgbdlkajmmjahaaGreatTr06
import Derived.ProofKit
set_option linter.unusedSectionVars false
set_option linter.unnecessarySimpa false
set_option linter.unusedVariables false
set_option linter.unusedSimpArgs false

/-! ### An item put into its place -/
/- Contracts of chapter 5: the reference's locations of a point. Conditions: none. -/
-- seat YtgbdlkajmmjahaaGreat
namespace Go.Tr
open Go Go.Proofs
set_option maxRecDepth 20000
set_option maxHeartbeats 8000000

theorem putL_len2 (l : List Q2) (x : Q2) : (putL lt2 l x).length ≤ l.length + 1 := by
 induction l with
 | nil=>simp [putL]
 | cons y l ih =>
  unfold putL
  split
  ·simp; omega
  ·split <;> simp
end Go.Tr

/- The law of the locations: MachineLocations. Conditions: none. -/
-- seat YtgbdlkajmmjahaaGreat
namespace Go.Tr
open Go Go.Proofs
set_option maxRecDepth 20000
set_option maxHeartbeats 8000000

theorem putAll_len2 (l : List Q2) : (putAll lt2 l).length ≤ l.length := by
 induction l using snoc_ind with
 | h0=>exact Nat.le_refl _
 | hs l x ih =>
  rw [putAll_snoc]
  have := putL_len2 (putAll lt2 l) x
  rw [List.length_append]
  simp only [List.length_cons,List.length_nil]
  omega
theorem lcS_mem {t : List MRow} {h f : Int} (x : Q2) : x ∈ lcS t (h,f,0) ↔ x ∈ locL t h f := putAll_mem _ _
theorem lcS_all {t : List MRow} {h f : Int} : allS2 (locL t h f) = allS2 (lcS t (h,f,0)) := allS2_mem fun x=>(lcS_mem x).symm
theorem len_pos {α : Type} {L M : List α} (h : ∀ x,x ∈ L ↔ x ∈ M) : 0 < L.length ↔ 0 < M.length := by
  rw [List.length_pos_iff_exists_mem,List.length_pos_iff_exists_mem]
  exact ⟨fun ⟨x,hx⟩=>⟨x,(h x).1 hx⟩,fun ⟨x,hx⟩=>⟨x,(h x).2 hx⟩⟩
theorem locA_eq {t : List MRow} {h f : Int} (h0 : locE t h f = 0) : (allS2 (lcS t (h,f,0)) = true → locA t h f = lcS t (h,f,0) ∧ locR t h f = if 0 < (lcS t (h,f,0)).length then 0 else 12) ∧ (¬ allS2 (lcS t (h,f,0)) = true → locA t h f = [] ∧ locR t h f = 8) := by
 unfold locA locR
 rw [if_pos h0,if_pos h0,lcS_all]
 refine ⟨fun g=>?_,fun g=>?_⟩
 ·rw [if_pos g,if_pos g]
  have e : (0 < (locL t h f).length) = (0 < (lcS t (h,f,0)).length) := propext (len_pos fun x=>(lcS_mem x).symm)
  refine ⟨rfl,?_⟩
  simp only [e]
 ·rw [if_neg g,if_neg g]; exact ⟨rfl,rfl⟩
end Go.Tr

/- The law there and back: MachineThereAndBack. Conditions: none. -/
-- seat YtgbdlkajmmjahaaGreat
namespace Go.Tr
open Go Go.Proofs
set_option maxRecDepth 20000
set_option maxHeartbeats 8000000

theorem mpO_sm2 {t : List MRow} (hR : RwOk t) {h : Int} (hs : szE h = 0) : ∀ q,mpO t h = some q → smR q := by
 have hr : -1000 ≤ h ∧ h ≤ 1000 := by
  unfold szE at hs
  split at hs
  ·assumption
  ·cases hs
 unfold mpO
 rw [mxT_flat]
 refine mx_sm nofun fun p hp=>?_
 obtain ⟨x,hx,hpx⟩ := List.mem_flatMap.1 hp
 exact pws_sm hr (triT_P hR _ (Nat.le_refl _) x hx) p hpx
theorem lcS_len {t : List MRow} (hR : RwOk t) (p : P3) : (lcS t p).length ≤ 60 := by
 have hn := hR.n
 have hnp := hR.np
 have a1 := putAll_len2 (lcs p (triT t (t.length - 1)))
 have a2 := lcs_len p (triT t (t.length - 1))
 have a3 := triT_len t (t.length - 1)
 have := Nat.mul_le_mul (show t.length - 1 ≤ 5 by omega) (show 2 * (npT t - 1) ≤ 10 by omega)
 have e : lcS t p = putAll lt2 (lcs p (triT t (t.length - 1))) := rfl
 rw [e]
 omega
theorem int_of {p : Rat} (h : (frI p).2 = 1) : p = (((frI p).1 : Int) : Rat) := by
  have h : ((p.den : Nat) : Int) = 1 := h
  exact Rat.ext (by rw [Rat.num_intCast]; rfl) (by rw [Rat.den_intCast]; omega)
theorem fr_self (o : Rat) : Rat.divInt (frI o).1 (frI o).2 = o := Rat.num_divInt_den o
def fndB (L : List Q2) (x : Q2) (j : Nat) : Bool := (L.take j).any fun y=>decide (y = x)
theorem fnd_step {L : List Q2} {x : Q2} {j : Nat} (hj : j < L.length) : fndB L x (j + 1) = (fndB L x j || decide (L.getD j q2z = x)) := by
 unfold fndB
 rw [take_succG (d := q2z) hj,List.any_append]
 simp
theorem fnd_all {L : List Q2} {x : Q2} (h : x ∈ L) {j : Nat} (hj : L.length ≤ j) : fndB L x j = true := by
 unfold fndB
 rw [List.take_of_length_le hj,List.any_eq_true]
 exact ⟨x,h,decide_eq_true rfl⟩
set_option maxHeartbeats 64000000 in
theorem S12m (t : List MRow) (ht : Fit t) (hT : TblOk t) (o : Rat) (hO : OpOk t (frI o)) (h : Int) (hh : -1000 ≤ h ∧ h ≤ 1000) (Q : List Q3) (hQl : Q.length ≤ 40) (hsm : ∀ k, k < Q.length → sm3 (Q.getD k q0)) (hl : ∀ q ∈ Q, SpotL t (frI o) h q)
  (h14 : SP 14 [] (vb true) false) (h15 : SP 15 [tblA t] (vb true) false) (h18 : SP 18 [tblA t,gaF (frI o)] (i64 0) false) (h29 : SP 29 [i64 h] (i64 0) false) (h33 : SP 33 [tblA t,gaF (frI o),lnA (hdL h)] (.tuple [sps Q,i64 0]) false)
  (h37 : SP 37 [tblA t,i64 h] (.tuple [gaF (frO (mpO t h)),i64 (if (mpO t h).isSome = true then 0 else 12)]) false) : SP 12 [tblA t,gaF (frI o),i64 h] (vb true) false := by
 have h17 := S17 t ht
 have h31 := S31 h
 have hs : szE h = 0 := if_pos hh
 have hmo := mpO_sm2 (RwOk.ofT hT) hs
 cases hm : mpO t h with
 | none =>
  rw [hm] at h37
  change SP 37 _ (.tuple [gaF (0,0),i64 12]) false at h37
  have hz : Q.length = 0 := by
   refine Classical.byContradiction fun e=>?_
   obtain ⟨m,e1,_⟩ := (hl _ (getD_memG (d := q0) (show 0 < Q.length by omega))).top
   rw [hm] at e1; cases e1
  refine sound (d := 2) tok2 mixed2 Tryz.func12 (by kernel_rfl) (by kernel_rfl) ?_
  (conv=>whnf); refine .inl ⟨_,_,byX rfl (Sound1.pl (h14) rfl),?_⟩
  (conv=>whnf); refine .inl ⟨_,_,byX rfl (Sound1.pl (h15) rfl),?_⟩
  (conv=>whnf); refine .inl ⟨_,_,byX rfl (Sound1.pl (h18) rfl),?_⟩
  (conv=>whnf); refine .inl ⟨_,_,byX rfl (Sound1.pl (h29) rfl),?_⟩
  (conv=>whnf); refine ⟨[],by kernel_rfl,?_⟩
  (conv=>whnf); refine .inl ⟨_,_,byX rfl (h17),?_⟩
  (conv=>whnf); refine .inl ⟨_,_,byX rfl (Sound1.pl (h31) rfl),?_⟩
  (conv=>whnf); refine .inl ⟨_,_,byX rfl (h33),?_⟩
  (conv=>whnf); refine .inl ⟨_,_,byX rfl (h17),?_⟩
  (conv=>whnf); refine .inl ⟨_,_,byX rfl (Sound1.pl (h37) rfl),?_⟩
  (conv=>whnf); refine ⟨?_,nofun⟩
  exact endb (by rw [hz]; rfl)
 | some m =>
  rw [hm] at h37
  change SP 37 _ (.tuple [gaF (frI m),i64 0]) false at h37
  have sm := hmo m hm
  have h62 := S62 m sm
  refine sound (d := 2) tok2 mixed2 Tryz.func12 (by kernel_rfl) (by kernel_rfl) ?_
  (conv=>whnf); refine .inl ⟨_,_,byX rfl (Sound1.pl (h14) rfl),?_⟩
  (conv=>whnf); refine .inl ⟨_,_,byX rfl (Sound1.pl (h15) rfl),?_⟩
  (conv=>whnf); refine .inl ⟨_,_,byX rfl (Sound1.pl (h18) rfl),?_⟩
  (conv=>whnf); refine .inl ⟨_,_,byX rfl (Sound1.pl (h29) rfl),?_⟩
  (conv=>whnf); refine ⟨[],by kernel_rfl,?_⟩
  (conv=>whnf); refine .inl ⟨_,_,byX rfl (h17),?_⟩
  (conv=>whnf); refine .inl ⟨_,_,byX rfl (Sound1.pl (h31) rfl),?_⟩
  (conv=>whnf); refine .inl ⟨_,_,byX rfl (h33),?_⟩
  (conv=>whnf); refine .inl ⟨_,_,byX rfl (h17),?_⟩
  (conv=>whnf); refine .inl ⟨_,_,byX rfl (Sound1.pl (h37) rfl),?_⟩
  (conv=>whnf); refine .inl ⟨_,_,byX rfl (Sound1.pl (h62) rfl),?_⟩
  (conv=>whnf); refine ifB_dec (fun w1=>?_) (fun w1=>?_)
  ·(exfalso; omega)
  ·(conv => whnf); refine ⟨[], [2, 3, 4, 7, 9, 11], fun st mq => ∃ (k : Nat), (k ≤ Q.length) ∧ st = ⟨[(2, i64 h), (3, .optr 0 0 0 0), (4, .optr 1 0 0 0), (7, sps Q), (9, .optr 2 0 0 0), (11, i64 k)], ⟨[⟨1, 1, fun _ => [rowsA t], 0, false, true, true⟩, ⟨2, 1, fun _ => [i64 (frI o).1, i64 (frI o).2], 0, false, true, true⟩, ⟨2, 1, fun _ => [i64 (frI m).1, i64 (frI m).2], 0, false, true, true⟩], [], none, 0⟩, []⟩ ∧ mq = Q.length - k,
    ⟨_,_,⟨0,by omega,rfl,rfl⟩,⟨⟨.inl rfl,rfl,rfl,rfl⟩,⟨bA,⟨bA,⟨bA,trivial⟩⟩⟩,trivial⟩⟩,?_⟩
   rintro s0 m0 ⟨k,hk,rfl,hmeas⟩
   by_cases hlt : k < Q.length
   ·have hq := hl _ (getD_memG (d := q0) hlt)
    have hqs := hsm k hlt
    have c47 := S47 _ hqs
    have c63 := sm_cmp hqs.2.2 sm
    have hle : ¬ cmpR (Q.getD k q0).2.2 m > 0 := fun g=>by
     obtain ⟨m',e1,e2⟩ := hq.top
     rw [hm] at e1
     cases e1
     exact Rat.not_lt.2 e2 ((cmpR_pos _ _).1 g)
    by_cases hd : (frI (Q.getD k q0).2.1).2 = 1
    ·obtain ⟨hb, hmem⟩ := hq.loc _ (int_of hd)
     rw [fr_self] at hmem
     have c44 := S44 t ht h (frI (Q.getD k q0).2.1).1
     have hc : (chkM t).2 = 0 := by rw [chk_ok hT]
     have hE : locE t h (frI (Q.getD k q0).2.1).1 = 0 := by
      unfold locE
      rw [if_neg (not_not_intro hc),if_neg (not_not_intro hs)]
      exact if_pos hb
     have hA := locA_eq hE
     by_cases hall : allS2 (lcS t (h,(frI (Q.getD k q0).2.1).1,0)) = true
     ·obtain ⟨eA,eR⟩ := hA.1 hall
      have hpos : 0 < (lcS t (h,(frI (Q.getD k q0).2.1).1,0)).length := List.length_pos_of_mem hmem
      rw [if_pos hpos] at eR
      rw [eA,eR] at c44
      have hAl := lcS_len (RwOk.ofT hT) (h,(frI (Q.getD k q0).2.1).1,0)
      generalize lcS t (h,(frI (Q.getD k q0).2.1).1,0) = A at *
      conv=>whnf
      (conv=>whnf); refine ifB_dec (fun w2=>?_) (fun w2=>?_)
      ·conv => whnf
       (conv=>whnf); refine ⟨[],by kernel_rfl,?_⟩
       conv=>whnf
       (conv=>whnf); refine ⟨⟨(by omega),(by omega)⟩,?_⟩
       conv=>whnf
       (conv=>whnf); refine .inl ⟨_,_,byX rfl (Sound1.pl (c47) rfl),?_⟩
       conv=>whnf
       (conv=>whnf); refine ⟨⟨(by omega),(by omega)⟩,?_⟩
       conv=>whnf
       (conv=>whnf); refine ⟨⟨(by omega),(by omega)⟩,?_⟩
       conv=>whnf
       (conv=>whnf); refine .inl ⟨_,_,byX rfl (Sound1.pl (c63) rfl),?_⟩
       conv=>whnf
       (conv=>whnf); refine ifB_dec (fun w3=>?_) (fun w3=>?_)
       ·(exfalso; omega)
       ·conv=>whnf
        (conv=>whnf); refine ⟨⟨(by omega),(by omega)⟩,?_⟩
        conv=>whnf
        (conv=>whnf); refine ifB_bne (fun w4=>?_) (fun w4=>?_)
        ·conv=>whnf
         (conv=>whnf); refine ⟨inK64 (by omega) (by omega),?_⟩
         (first | contradiction | rfl | omega)
        ·conv=>whnf
         (conv=>whnf); refine ⟨[],by kernel_rfl,?_⟩
         conv=>whnf
         (conv=>whnf); refine .inl ⟨_,_,byX rfl (h17),?_⟩
         conv=>whnf
         (conv=>whnf); refine ⟨⟨(by omega),(by omega)⟩,?_⟩
         conv=>whnf
         (conv=>whnf); refine .inl ⟨_,_,byX rfl (c44),?_⟩
         conv=>whnf
         (conv=>whnf); refine ⟨[],[2,3,4,7,9,11,12,13,14,15],fun st mq=>∃ (j : Nat) (b : Bool),(j ≤ A.length) ∧ (b = fndB A (o,(Q.getD k q0).2.2) j) ∧ st = ⟨[(2,i64 h),(3,.optr 0 0 0 0),(4,.optr 1 0 0 0),(7,sps Q),(9,.optr 2 0 0 0),(11,i64 k),(12,lcsA A),(13,i64 0),(14,vb b),(15,i64 j)],⟨[⟨1,1,fun _=>[rowsA t],0,false,true,true⟩,⟨2,1,fun _=>[i64 (frI o).1,i64 (frI o).2],0,false,true,true⟩,⟨2,1,fun _=>[i64 (frI m).1,i64 (frI m).2],0,false,true,true⟩],[],none,0⟩,[]⟩ ∧ mq = A.length - j,
          ⟨_,_,⟨0,false,by omega,rfl,rfl,rfl⟩,⟨⟨.inl rfl,rfl,rfl,rfl⟩,⟨bA,⟨bA,⟨bA,trivial⟩⟩⟩,trivial⟩⟩,?_⟩
         rintro s0 m0 ⟨j,b,hj,hbf,rfl,hmeas⟩
         by_cases hlj : j < A.length
         ·have hst := fnd_step (x := (o,(Q.getD k q0).2.2)) hlj
          have hv := lc_veq (A.getD (j : Int).toNat q2z) (o,(Q.getD (k : Int).toNat q0).2.2)
          cases b with
          | true =>
           conv=>whnf
           conv=>whnf
           (conv=>whnf); refine ifB_dec (fun w5=>?_) (fun w5=>?_)
           ·conv=>whnf
            conv=>whnf
            (conv=>whnf); refine ⟨[],by kernel_rfl,?_⟩
            conv=>whnf
            conv=>whnf
            (conv=>whnf); refine ⟨inK64 (by omega) (by omega),?_⟩
            conv=>whnf
            conv=>whnf
            (conv=>whnf); refine ⟨_,_,⟨⟨j + 1,true,by omega,(by rw [hst,← hbf]; rfl),rfl,rfl⟩,by omega⟩,⟨⟨.inl rfl,rfl,rfl,rfl⟩,⟨bA,⟨bA,⟨bA,trivial⟩⟩⟩,trivial⟩⟩
           ·(exfalso; omega)
          | false =>
           conv=>whnf
           conv=>whnf
           (conv=>whnf); refine ifB_dec (fun w5=>?_) (fun w5=>?_)
           ·conv=>whnf
            conv=>whnf
            (conv=>whnf); refine ⟨[],by kernel_rfl,?_⟩
            conv=>whnf
            conv=>whnf
            (conv=>whnf); refine ⟨⟨(by omega),(by omega)⟩,?_⟩
            conv=>whnf
            conv=>whnf
            (conv=>whnf); refine ⟨⟨(by omega),(by omega)⟩,?_⟩
            conv=>whnf
            conv=>whnf
            (conv=>whnf); refine ⟨inK64 (by omega) (by omega),?_⟩
            conv=>whnf
            conv=>whnf
            (conv=>whnf); refine ⟨_,_,⟨⟨j + 1,_,by omega,(by rw [hst,← hbf,Bool.false_or]; exact hv),rfl,rfl⟩,by omega⟩,⟨⟨.inl rfl,rfl,rfl,rfl⟩,⟨bA,⟨bA,⟨bA,trivial⟩⟩⟩,trivial⟩⟩
           ·(exfalso; omega)
         ·have hb1 : b = true := by rw [hbf]; exact fnd_all hmem (by omega)
          subst hb1
          conv=>whnf
          conv=>whnf
          (conv=>whnf); refine ifB_dec (fun w5=>?_) (fun w5=>?_)
          ·(exfalso; omega)
          ·conv=>whnf
           conv=>whnf
           (conv=>whnf); refine ⟨inK64 (by omega) (by omega),?_⟩
           conv=>whnf
           conv=>whnf
           (conv=>whnf); refine ⟨_,_,⟨⟨k + 1,by omega,rfl,rfl⟩,by omega⟩,⟨⟨.inl rfl,rfl,rfl,rfl⟩,⟨bA,⟨bA,⟨bA,trivial⟩⟩⟩,trivial⟩⟩
      ·(exfalso; omega)
     ·obtain ⟨eA,eR⟩ := hA.2 hall
      rw [eA,eR] at c44
      conv=>whnf
      (conv=>whnf); refine ifB_dec (fun w2=>?_) (fun w2=>?_)
      ·conv=>whnf
       (conv=>whnf); refine ⟨[],by kernel_rfl,?_⟩
       conv=>whnf
       (conv=>whnf); refine ⟨⟨(by omega),(by omega)⟩,?_⟩
       conv=>whnf
       (conv=>whnf); refine .inl ⟨_,_,byX rfl (Sound1.pl (c47) rfl),?_⟩
       conv=>whnf
       (conv=>whnf); refine ⟨⟨(by omega),(by omega)⟩,?_⟩
       conv=>whnf
       (conv=>whnf); refine ⟨⟨(by omega),(by omega)⟩,?_⟩
       conv=>whnf
       (conv=>whnf); refine .inl ⟨_,_,byX rfl (Sound1.pl (c63) rfl),?_⟩
       conv=>whnf
       (conv=>whnf); refine ifB_dec (fun w3=>?_) (fun w3=>?_)
       ·(exfalso; omega)
       ·conv=>whnf
        (conv=>whnf); refine ⟨⟨(by omega),(by omega)⟩,?_⟩
        conv=>whnf
        (conv=>whnf); refine ifB_bne (fun w4=>?_) (fun w4=>?_)
        ·conv=>whnf
         (conv=>whnf); refine ⟨inK64 (by omega) (by omega),?_⟩
         (first | contradiction | rfl | omega)
        ·conv=>whnf
         (conv=>whnf); refine ⟨[],by kernel_rfl,?_⟩
         conv=>whnf
         (conv=>whnf); refine .inl ⟨_,_,byX rfl (h17),?_⟩
         conv=>whnf
         (conv=>whnf); refine ⟨⟨(by omega),(by omega)⟩,?_⟩
         conv=>whnf
         (conv=>whnf); refine .inl ⟨_,_,byX rfl (c44),?_⟩
         conv=>whnf
         (conv=>whnf); refine ⟨inK64 (by omega) (by omega),?_⟩
         conv=>whnf
         (conv=>whnf); refine ⟨_,_,⟨⟨k + 1,by omega,rfl,rfl⟩,by omega⟩,⟨⟨.inl rfl,rfl,rfl,rfl⟩,⟨bA,⟨bA,⟨bA,trivial⟩⟩⟩,trivial⟩⟩
      ·(exfalso; omega)
    ·have hd' : ¬ (fr3 (Q.getD (k : Int).toNat q0)).2.1.2 = 1 := hd
     conv=>whnf
     (conv=>whnf); refine ifB_dec (fun w2=>?_) (fun w2=>?_)
     ·conv=>whnf
      (conv=>whnf); refine ⟨[],by kernel_rfl,?_⟩
      conv=>whnf
      (conv=>whnf); refine ⟨⟨(by omega),(by omega)⟩,?_⟩
      conv=>whnf
      (conv=>whnf); refine .inl ⟨_,_,byX rfl (Sound1.pl (c47) rfl),?_⟩
      conv=>whnf
      (conv=>whnf); refine ⟨⟨(by omega),(by omega)⟩,?_⟩
      conv=>whnf
      (conv=>whnf); refine ⟨⟨(by omega),(by omega)⟩,?_⟩
      conv=>whnf
      (conv=>whnf); refine .inl ⟨_,_,byX rfl (Sound1.pl (c63) rfl),?_⟩
      conv=>whnf
      (conv=>whnf); refine ifB_dec (fun w3=>?_) (fun w3=>?_)
      ·(exfalso; omega)
      ·conv=>whnf
       (conv=>whnf); refine ⟨⟨(by omega),(by omega)⟩,?_⟩
       conv=>whnf
       (conv=>whnf); refine ifB_bne (fun w4=>?_) (fun w4=>?_)
       ·conv=>whnf
        (conv=>whnf); refine ⟨inK64 (by omega) (by omega),?_⟩
        conv=>whnf
        (conv=>whnf); refine ⟨_,_,⟨⟨k + 1,by omega,rfl,rfl⟩,by omega⟩,⟨⟨.inl rfl,rfl,rfl,rfl⟩,⟨bA,⟨bA,⟨bA,trivial⟩⟩⟩,trivial⟩⟩
       ·(exfalso; omega)
     ·(exfalso; omega)
   ·conv=>whnf
    (conv=>whnf); refine ifB_dec (fun w2=>?_) (fun w2=>?_)
    ·(exfalso; omega)
    ·conv=>whnf
     (conv=>whnf); refine ⟨?_,nofun⟩
     (first | contradiction | rfl | omega)
theorem S12 (t : List MRow) (h1 : t.length ≤ 9223372036854775807) (f : Int × Int) (hf : FrI f) (h : Int) : SP 12 [tblA t,gaF f,i64 h] (vb true) false := by
 have h14 := S14
 have h15 := S15 t h1
 by_cases hw : fewT t = true
 ·rw [hw] at h15
  have ht := few_fit hw
  have h18 := S18 t ht f hf
  have h29 := S29 h
  change SP 29 _ (i64 (szE h)) false at h29
  by_cases h0 : ocE t f = 0
  ·rw [h0] at h18
   by_cases hz : szE h = 0
   ·rw [hz] at h29
    obtain ⟨hT,hlo,hO⟩ := ocE_ok h0
    have hh : -1000 ≤ h ∧ h ≤ 1000 := by
     unfold szE at hz
     split at hz
     ·assumption
     ·exact absurd hz (by decide)
    have h33 := S33 t ht f hf (hdL h)
    have h37 := S37 t ht h
    have es : soE t f (hdL h) = 0 := by unfold soE; rw [if_neg (not_not_intro h0)]; exact lnE_hd hh
    have em : mpE t h = 0 := by
     unfold mpE
     rw [chk_ok hT,if_neg (not_not_intro rfl)]; exact hz
    rw [if_pos es,if_pos es] at h33
    unfold mpR1 at h37
    rw [if_pos em,if_pos em] at h37
    unfold slL slE at h33
    by_cases g2 : smE (spL (crvQ t f) (hdL h)) = 0
    ·have a2 := smE_0 g2
     unfold smL at h33
     rw [if_pos a2,g2] at h33
     have hl := spot_law hT hO hh
     have hlen : (spL (crvQ t f) (hdL h)).length ≤ 40 := by
      have h3 := putAll_len (onS (crvQ t f) (hdL h))
      have h4 := onQ_len (crvQ t f) (hdL h) (crvQ t f).length
      have h5 := (crv_ok hT hO).len
      have h6 : (crvQ t f).length = (crvN t f).length := by rw [← crv_map hT hO,List.length_map]
      have e : spL (crvQ t f) (hdL h) = putAll lt3 (onS (crvQ t f) (hdL h)) := rfl
      have e2 : onS (crvQ t f) (hdL h) = onQ (crvQ t f) (hdL h) (crvQ t f).length := rfl
      rw [e]
      rw [e2] at h3 ⊢
      omega
     have hsm := fun k hk=>allS_at a2 (k := k) hk
     obtain ⟨o,ho⟩ : ∃ o,f = frI o := ⟨_,(low_fr hlo).symm⟩
     subst ho
     exact S12m t ht hT o hO h hh _ hlen hsm hl h14 h15 h18 h29 h33 h37
    ·rw [smE_8 g2] at h33
     have h17 := S17 t ht
     have h31 := S31 h
     refine sound (d := 2) tok2 mixed2 Tryz.func12 (by kernel_rfl) (by kernel_rfl) ?_
     (conv=>whnf); refine .inl ⟨_,_,byX rfl (Sound1.pl (h14) rfl),?_⟩
     (conv=>whnf); refine .inl ⟨_,_,byX rfl (Sound1.pl (h15) rfl),?_⟩
     (conv=>whnf); refine .inl ⟨_,_,byX rfl (Sound1.pl (h18) rfl),?_⟩
     (conv=>whnf); refine .inl ⟨_,_,byX rfl (Sound1.pl (h29) rfl),?_⟩
     (conv=>whnf); refine ⟨[],by kernel_rfl,?_⟩
     (conv=>whnf); refine .inl ⟨_,_,byX rfl (h17),?_⟩
     (conv=>whnf); refine .inl ⟨_,_,byX rfl (Sound1.pl (h31) rfl),?_⟩
     (conv=>whnf); refine .inl ⟨_,_,byX rfl (h33),?_⟩
     (conv=>whnf); refine .inl ⟨_,_,byX rfl (h17),?_⟩
     (conv=>whnf); refine .inl ⟨_,_,byX rfl (Sound1.pl (h37) rfl),?_⟩
     (conv=>whnf); refine ⟨?_,nofun⟩
     (first | contradiction | rfl | omega)
   ·refine sound (d := 2) tok2 mixed2 Tryz.func12 (by kernel_rfl) (by kernel_rfl) ?_
    (conv=>whnf); refine .inl ⟨_,_,byX rfl (Sound1.pl (h14) rfl),?_⟩
    (conv=>whnf); refine .inl ⟨_,_,byX rfl (Sound1.pl (h15) rfl),?_⟩
    (conv=>whnf); refine .inl ⟨_,_,byX rfl (Sound1.pl (h18) rfl),?_⟩
    (conv=>whnf); refine .inl ⟨_,_,byX rfl (Sound1.pl (h29) rfl),?_⟩
    (conv=>whnf); refine ifB_bne (fun w1=>?_) (fun w1=>?_)
    ·(conv=>whnf); refine ⟨?_,nofun⟩
     (first | contradiction | rfl | omega)
    ·(exfalso; omega)
  ·refine sound (d := 2) tok2 mixed2 Tryz.func12 (by kernel_rfl) (by kernel_rfl) ?_
   (conv=>whnf); refine .inl ⟨_,_,byX rfl (Sound1.pl (h14) rfl),?_⟩
   (conv=>whnf); refine .inl ⟨_,_,byX rfl (Sound1.pl (h15) rfl),?_⟩
   (conv=>whnf); refine .inl ⟨_,_,byX rfl (Sound1.pl (h18) rfl),?_⟩
   (conv=>whnf); refine ifB_bne (fun w1=>?_) (fun w1=>?_)
   ·(conv=>whnf); refine ⟨?_,nofun⟩
    (first | contradiction | rfl | omega)
   ·(exfalso; omega)
 ·rw [Bool.eq_false_iff.2 hw] at h15
  refine sound (d := 2) tok2 mixed2 Tryz.func12 (by kernel_rfl) (by kernel_rfl) ?_
  (conv=>whnf); refine .inl ⟨_,_,byX rfl (Sound1.pl (h14) rfl),?_⟩
  (conv=>whnf); refine .inl ⟨_,_,byX rfl (Sound1.pl (h15) rfl),?_⟩
  (conv=>whnf); refine ⟨?_,nofun⟩
  (first | contradiction | rfl | omega)
end Go.Tr

/- The opening of a law: what an argument reads as, as abstract values, with its shape. Conditions: types of numbers, truth values, strings, slices, structs and arrays. -/
namespace Go.Tr
open Go Go.RowKit

def V2 (P : Program) (w : World) (q : Nat → Prop) : List AV → List Value → Prop
 | [],[]=>True
 | x :: xs,v :: vs=>(VT P w q x v ∧ v.oneCell' = true) ∧ V2 P w q xs vs
 | _,_=>False

def All2 {α β : Type} (p : α → β → Prop) : List α → List β → Prop
 | [],[]=>True
 | x :: xs,y :: ys=>p x y ∧ All2 p xs ys
 | _,_=>False

def TyC (P : Program) : Nat → TypeId → List AV → Prop
 | 0,_,_=>True
 | m + 1,t,xs=>match P.underlying t with
  | some .bool=>∃ b,xs = [.val (.bool b)]
  | some (.int k)=>∃ n,xs = [.val (.int k n)] ∧ inK k n
  | some .string=>∃ s : ByteArray,xs = [.val (.string s)] ∧ s.size ≤ 9223372036854775807
  | some (.slice e)=>∃ len f,xs = [.rslice (P.cellsOf e) len f] ∧ len ≤ 9223372036854775807 ∧ ∀ i,i < len → TyC P m e (f i)
  | some (.struct fs)=>∃ ps : List (List AV),xs = ps.flatten ∧ All2 (fun f p=>TyC P m f.type p) fs.toList ps
  | some (.array n e)=>∃ ps : List (List AV),xs = ps.flatten ∧ ps.length = n ∧ ∀ p ∈ ps,TyC P m e p
  | _=>False

def layF (P : Program) (g : TypeId → Bool) : List Field → Nat → Nat → Bool
 | [],off,tot=>Nat.beq off tot
 | f :: r,off,tot=>Nat.beq f.offset off && g f.type && layF P g r (off + P.cellsOf f.type) tot

def lay (P : Program) : Nat → TypeId → Bool
 | 0,_=>false
 | m + 1,t=>match P.underlying t with
  | some .bool | some (.int _) | some .string=>true
  | some (.slice e)=>Nat.blt 0 (P.cellsOf e) && lay P m e
  | some (.struct fs)=>layF P (lay P m) fs.toList 0 (P.cellsOf t)
  | some (.array n e)=>Nat.beq (P.cellsOf t) (n * P.cellsOf e) && lay P m e
  | _=>false

section
variable {H : Type} {enc : TypeId × Value → H} {P : Program} {w : World} {spare : Nat → Bool} {held : Bool} {q : Nat → Prop}

theorem V2_len : ∀ {xs : List AV} {vs : List Value},V2 P w q xs vs → xs.length = vs.length
 | [],[],_=>rfl
 | x :: xs,v :: vs,h=>by simp [V2_len h.2]
 | [],_ :: _,h=>h.elim
 | _ :: _,[],h=>h.elim

theorem V2_append : ∀ {xs : List AV} {vs : List Value} {ys : List AV} {us : List Value},V2 P w q xs vs → V2 P w q ys us → V2 P w q (xs ++ ys) (vs ++ us)
 | [],[],_,_,_,h=>h
 | _ :: _,_ :: _,_,_,h,h'=>⟨h.1,V2_append h.2 h'⟩
 | [],_ :: _,_,_,h,_=>h.elim
 | _ :: _,[],_,_,h,_=>h.elim

theorem V2_get : ∀ {xs : List AV} {vs : List Value},V2 P w q xs vs → ∀ (i : Nat) x,xs[i]? = some x → VT P w q x (vs.getD i undef) ∧ (vs.getD i undef).oneCell' = true
 | [],[],_,i,x,hx=>by simp at hx
 | y :: ys,v :: vs,h,0,x,hx=>by
  simp at hx
  subst hx
  simpa using h.1
 | y :: ys,v :: vs,h,i + 1,x,hx=>by
  have := V2_get h.2 i x (by simpa using hx)
  simpa using this
 | [],_ :: _,h,_,_,_=>h.elim
 | _ :: _,[],h,_,_,_=>h.elim

theorem mapM_cons_some {α β : Type} {f : α → Option β} {a : α} {l : List α} {r : List β} (h : (a :: l).mapM f = some r) : ∃ b bs,f a = some b ∧ l.mapM f = some bs ∧ r = b :: bs := by
 rw [List.mapM_cons] at h
 cases ha : f a with
 | none=>simp [ha] at h
 | some b =>
  cases hl : l.mapM f with
  | none=>simp [ha,hl] at h
  | some bs=>simp [ha,hl] at h; exact ⟨b,bs,rfl,rfl,h.symm⟩

theorem mapM_get {α β : Type} {f : α → Option β} : ∀ {l : List α} {r : List β},l.mapM f = some r → r.length = l.length ∧ ∀ (i : Nat) x,l[i]? = some x → ∃ y,f x = some y ∧ r[i]? = some y
 | [],r,h=>by simp at h; subst h; exact ⟨rfl,fun i x hx=>by simp at hx⟩
 | a :: l,r,h=>by
  obtain ⟨b,bs,h1,h2,rfl⟩ := mapM_cons_some h
  obtain ⟨g1,g2⟩ := mapM_get h2
  refine ⟨by simp [g1],fun i x hx=>?_⟩
  cases i with
  | zero=>simp at hx; subst hx; exact ⟨b,h1,rfl⟩
  | succ i=>simpa using g2 i x (by simpa using hx)

theorem cells_some {a : Addr} {n : Nat} {cs : List Value} (h : w.cells? 0 a n = some cs) : cs.length = n ∧ ∀ j,j < n → w.cell? (a.add j) = some (cs.getD j undef) := by
 unfold World.cells? at h
 rw [if_pos (Nat.zero_le _)] at h
 obtain ⟨h1,h2⟩ := mapM_get h
 refine ⟨by simpa using h1,fun j hj=>?_⟩
 obtain ⟨y,h3,h4⟩ := h2 j j (by simp [hj])
 rw [h3,List.getD_eq_getElem?_getD,h4]
 rfl

theorem cell_spot {a : Addr} {v : Value} (h : w.cell? a = some v) : a.spot = none ∧ a.block < w.heap.size := by
 unfold World.cell? at h
 split at h
 ·rename_i c t fr hb
  refine ⟨?_,?_⟩
  ·cases hs : a.spot with
   | none=>rfl
   | some s=>simp [hs] at h
  ·exact (Array.getElem?_eq_some_iff.1 hb).1
 ·cases h

theorem addr_add2 (blk off u j : Nat) : ((⟨blk,off,none⟩ : Addr).add u).add j = ⟨blk,off + (u + j),none⟩ := by
 unfold Addr.add
 by_cases h1 : u = 0
 ·subst h1
  by_cases h2 : j = 0
  ·subst h2; rfl
  ·simp [h2]
 ·by_cases h2 : j = 0
  ·subst h2; simp [h1]
  ·simp [h1,h2,Nat.add_assoc]

theorem fields_av {g : TypeId → List Value → Option (DataW H × List MemPlace)} {T : TypeId → List AV → Prop} {ly : TypeId → Bool}
  (ih : ∀ t,ly t = true → ∀ cs x,g t cs = some x → ∃ xs,V2 P w q xs cs ∧ T t xs) (cs : List Value) : ∀ (fs : List Field) (off : Nat) (r : List (DataW H × List MemPlace)),layF P ly fs off cs.length = true →
  (fs.mapM fun f=>g f.type ((cs.drop f.offset).take (P.cellsOf f.type))) = some r → ∃ ps : List (List AV),V2 P w q ps.flatten (cs.drop off) ∧ All2 (fun f p=>T f.type p) fs ps
 | [],off,r,hl,h=>by
  have := Nat.eq_of_beq_eq_true hl
  subst this
  exact ⟨[],by simp [V2],trivial⟩
 | f :: fs, off, r, hl, h => by
  simp only [layF,Bool.and_eq_true] at hl
  obtain ⟨⟨h1,h2⟩,h3⟩ := hl
  have e := Nat.eq_of_beq_eq_true h1
  obtain ⟨b,bs,g1,g2,rfl⟩ := mapM_cons_some h
  obtain ⟨p,p1,p2⟩ := ih _ h2 _ _ g1
  obtain ⟨ps,r1,r2⟩ := fields_av ih cs fs _ _ h3 g2
  refine ⟨p :: ps,?_,p2,r2⟩
  rw [List.flatten_cons]
  have : cs.drop off = (cs.drop f.offset).take (P.cellsOf f.type) ++ cs.drop (off + P.cellsOf f.type) := by
   rw [e,← List.drop_drop]
   exact (List.take_append_drop _ _).symm
  rw [this]
  exact V2_append p1 r1

theorem items_av {g : List Value → Option (DataW H × List MemPlace)} {T : List AV → Prop} (ih : ∀ cs x,g cs = some x → ∃ xs,V2 P w q xs cs ∧ T xs) (cs : List Value) (s n : Nat) (hn : cs.length = n * s)
  (h : ∀ i,i < n → ∃ x,g ((cs.drop (i * s)).take s) = some x) : ∀ (k i : Nat),i + k = n → ∃ ps : List (List AV),V2 P w q ps.flatten (cs.drop (i * s)) ∧ ps.length = k ∧ ∀ p ∈ ps,T p
 | 0,i,hi=>by
  have : i = n := by omega
  subst this
  refine ⟨[],?_,rfl,nofun⟩
  rw [List.drop_eq_nil_of_le (by omega)]
  exact trivial
 | k + 1, i, hi => by
  obtain ⟨x,hx⟩ := h i (by omega)
  obtain ⟨p,p1,p2⟩ := ih _ _ hx
  obtain ⟨ps,r1,r2,r3⟩ := items_av ih cs s n hn h k (i + 1) (by omega)
  refine ⟨p :: ps,?_,by simp [r2],fun y hy=>?_⟩
  ·rw [List.flatten_cons]
   have : cs.drop (i * s) = (cs.drop (i * s)).take s ++ cs.drop ((i + 1) * s) := by
    rw [Nat.succ_mul,← List.drop_drop]
    exact (List.take_append_drop _ _).symm
   rw [this]
   exact V2_append p1 r1
  ·rcases List.mem_cons.1 hy with rfl | hy
   ·exact p2
   ·exact r3 y hy

theorem trod_av (hq : ∀ b, b < w.heap.size → q b) : ∀ (m : Nat) (t : TypeId), lay P m t = true → ∀ (fuel : Nat) (cs : List Value) (x : DataW H × List MemPlace), DataW.trod enc P w 0 spare held fuel t cs = some x → ∃ xs, V2 P w q xs cs ∧ TyC P m t xs
 | 0,t,hl,_,_,_,_=>by simp [lay] at hl
 | m + 1,t,hl,0,cs,x,h=>by simp [DataW.trod] at h
 | m + 1, t, hl, fuel + 1, cs, x, h => by
  unfold lay at hl
  unfold TyC
  unfold DataW.trod at h
  cases hu : P.underlying t with
  | none=>simp [hu] at hl
  | some d =>
   simp only [hu] at hl h ⊢
   cases d with
   | bool =>
    split at h <;> first | (cases h; done) | (rename_i e; cases e; done) | skip
    cases h
    exact ⟨[.val (.bool _)],⟨⟨.val _,rfl⟩,trivial⟩,_,rfl⟩
   | int k =>
    split at h <;> first | (cases h; done) | (rename_i e; cases e; done) | skip
    rename_i e
    cases e
    split at h
    ·rename_i hk
     obtain ⟨rfl,hw⟩ := hk
     simp only [Lit.wf,Bool.and_eq_true,decide_eq_true_eq] at hw
     exact ⟨[.val (.int _ _)],⟨⟨.val _,rfl⟩,trivial⟩,_,rfl,hw⟩
    ·cases h
   | string =>
    split at h <;> first | (cases h; done) | (rename_i e; cases e; done) | skip
    split at h
    ·rename_i hs
     exact ⟨[.val (.string _)],⟨⟨.val _,rfl⟩,trivial⟩,_,rfl,hs⟩
    ·cases h
   | slice e =>
    simp only [Bool.and_eq_true] at hl
    split at h <;> first | (cases h; done) | (rename_i e; cases e; done) | skip
    ·exact ⟨[.rslice (P.cellsOf e) 0 fun _=>[]],⟨⟨.rslice0 _ _ _ _,rfl⟩,trivial⟩,_,_,rfl,by omega,fun i hi=>absurd hi (Nat.not_lt_zero i)⟩
    ·rename_i e0 a len cap e1
     cases e1
     split at h
     case isFalse=>cases h
     rename_i hb
     have hes : 0 < P.cellsOf e := Nat.le_of_ble_eq_true hl.1
     cases hM : (List.range len).mapM fun i=>(w.cells? 0 (a.add (i * P.cellsOf e)) (P.cellsOf e)).bind (DataW.trod enc P w 0 spare held fuel e) with
     | none=>rw [hM] at h; cases h
     | some elems =>
      obtain ⟨_,g2⟩ := mapM_get hM
      have hx : ∀ i,∃ xs : List AV,i < len → ∃ cs,(cs.length = P.cellsOf e ∧ ∀ j,j < P.cellsOf e → w.cell? ((a.add (i * P.cellsOf e)).add j) = some (cs.getD j undef)) ∧ V2 P w q xs cs ∧ TyC P m e xs := fun i=>by
       by_cases hi : i < len
       ·obtain ⟨y,y1,_⟩ := g2 i i (by simp [hi])
        cases hc : w.cells? 0 (a.add (i * P.cellsOf e)) (P.cellsOf e) with
        | none=>rw [hc] at y1; cases y1
        | some cs1 =>
         rw [hc] at y1
         obtain ⟨xs,x1,x2⟩ := trod_av hq m e hl.2 _ _ _ y1
         exact ⟨xs,fun _=>⟨cs1,cells_some hc,x1,x2⟩⟩
       ·exact ⟨[],fun h=>absurd h hi⟩
      have hf := fun i=>(Classical.choose_spec (hx i))
      generalize hF : (fun i=>Classical.choose (hx i)) = F
      have hf : ∀ i,i < len → ∃ cs,(cs.length = P.cellsOf e ∧ ∀ j,j < P.cellsOf e → w.cell? ((a.add (i * P.cellsOf e)).add j) = some (cs.getD j undef)) ∧ V2 P w q (F i) cs ∧ TyC P m e (F i) := fun i hi=>by
       have := Classical.choose_spec (hx i) hi
       rw [← hF]
       exact this
      refine ⟨[.rslice (P.cellsOf e) len F],⟨⟨?_,rfl⟩,trivial⟩,len,F,rfl,?_,fun i hi=>?_⟩
      ·rcases Nat.eq_zero_or_pos len with rfl | hp
       ·exact .rslice0 _ _ _ _
       ·obtain ⟨cs0,c1,_,_⟩ := hf 0 hp
        have hc0 := c1.2 0 hes
        have e0 : ((a.add (0 * P.cellsOf e)).add 0) = a := by simp [Addr.add]
        rw [e0] at hc0
        obtain ⟨s1,s2⟩ := cell_spot hc0
        obtain ⟨blk,off,spot⟩ := a
        simp only at s1 s2
        subst s1
        have hG : ∀ i,∃ cs : List Value,i < len → (cs.length = P.cellsOf e ∧ ∀ j,j < P.cellsOf e → w.cell? (((⟨blk,off,none⟩ : Addr).add (i * P.cellsOf e)).add j) = some (cs.getD j undef)) ∧ V2 P w q (F i) cs := fun i=>by
         by_cases hi : i < len
         ·obtain ⟨cs,c1,c2,_⟩ := hf i hi
          exact ⟨cs,fun _=>⟨c1,c2⟩⟩
         ·exact ⟨[],fun h=>absurd h hi⟩
        refine .rslice _ _ _ blk off cap (fun i j=>(Classical.choose (hG i)).getD j undef) hb.2.1 (hq _ s2) (fun i hi=>?_) (fun i j hi hj=>?_) (fun i j x hi hx=>?_)
        ·obtain ⟨c1,c2⟩ := Classical.choose_spec (hG i) hi
         rw [V2_len c2,c1.1]
        ·obtain ⟨c1,c2⟩ := Classical.choose_spec (hG i) hi
         have hc := c1.2 j hj
         have ea : ((⟨blk,off,none⟩ : Addr).add (i * P.cellsOf e)).add j = ⟨blk,off + (i * P.cellsOf e + j),none⟩ := by
          exact addr_add2 blk off _ j
         rw [ea] at hc
         refine ⟨hc,?_⟩
         have hlt : j < (F i).length := by rw [V2_len c2,c1.1]; exact hj
         exact (V2_get c2 j _ (List.getElem?_eq_getElem hlt)).2
        ·obtain ⟨c1,c2⟩ := Classical.choose_spec (hG i) hi
         exact (V2_get c2 j x hx).1
      ·have := hb.2.2
       unfold maxLen at this
       omega
      ·obtain ⟨_,_,_,h3⟩ := hf i hi
       exact h3
   | struct fs =>
    replace h : (if cs.length = P.cellsOf t then (fs.toList.mapM fun f=>DataW.trod enc P w 0 spare held fuel f.type ((cs.drop f.offset).take (P.cellsOf f.type))).map fun xs=>(.agg (xs.map (·.1)),xs.flatMap (·.2)) else none) = some x := h
    split at h
    case isFalse=>cases h
    rename_i hc
    cases hM : fs.toList.mapM fun f=>DataW.trod enc P w 0 spare held fuel f.type ((cs.drop f.offset).take (P.cellsOf f.type)) with
    | none=>rw [hM] at h; cases h
    | some r =>
     obtain ⟨ps,p1,p2⟩ := fields_av (T := TyC P m) (ly := lay P m) (fun t ht cs x hx=>trod_av hq m t ht fuel cs x hx) cs fs.toList 0 r (by rw [hc]; exact hl) hM
     exact ⟨ps.flatten,by simpa using p1,ps,rfl,p2⟩
   | array n e =>
    simp only [Bool.and_eq_true] at hl
    replace h : (if cs.length = P.cellsOf t then ((List.range n).mapM fun i=>DataW.trod enc P w 0 spare held fuel e ((cs.drop (i * P.cellsOf e)).take (P.cellsOf e))).map fun xs=>(.agg (xs.map (·.1)),xs.flatMap (·.2)) else none) = some x := h
    split at h
    case isFalse=>cases h
    rename_i hc
    cases hM : (List.range n).mapM fun i=>DataW.trod enc P w 0 spare held fuel e ((cs.drop (i * P.cellsOf e)).take (P.cellsOf e)) with
    | none=>rw [hM] at h; cases h
    | some r =>
     obtain ⟨_,g2⟩ := mapM_get hM
     obtain ⟨ps,p1,p2,p3⟩ := items_av (T := TyC P m e) (fun cs x hx=>trod_av hq m e hl.2 fuel cs x hx) cs (P.cellsOf e) n (by rw [hc]; exact Nat.eq_of_beq_eq_true hl.1)
      (fun i hi=>by obtain ⟨y,y1,_⟩ := g2 i i (by simp [hi]); exact ⟨y,y1⟩) n 0 (by omega)
     exact ⟨ps.flatten,by simpa using p1,ps,rfl,p2,p3⟩
   | _=>simp at hl

def TyA (P : Program) (m : Nat) (t : TypeId) (x : AV) : Prop :=
 match P.underlying t with
 | some (.struct _) | some (.array _ _)=>∃ xs,x = .agg xs ∧ TyC P m t xs
 | _=>TyC P m t [x]

theorem open_av {r : Reach} {b0 : Nat} {t : TypeId} {v : Value} {d : DataW H} {ps : List MemPlace} {m : Nat} (hl : lay P m t = true) (hq : ∀ b,b < w.heap.size → q b)
  (hv : Value.okWide P w r b0 t v) (hd : DataW.Trod enc P w 0 spare held t v d ps) : ∃ x,VT P w q x v ∧ TyA P m t x := by
 obtain ⟨fuel,hf⟩ := hd
 obtain ⟨xs,h1,h2⟩ := trod_av hq m t hl fuel _ _ hf
 have agg : ∀ cs,v = .agg cs → VT P w q (.agg xs) v := by
  rintro cs rfl
  have hlen := V2_len h1
  refine .agg xs cs (by rw [hlen]; simp [Value.cells]) (fun u hu=>?_) (fun i x hx=>?_)
  ·obtain ⟨i,hi,rfl⟩ := List.getElem_of_mem hu
   have hx : i < xs.length := by rw [hlen]; simpa [Value.cells] using hi
   have := (V2_get h1 i _ (List.getElem?_eq_getElem hx)).2
   have hi' : i < cs.size := by simpa using hi
   simpa [Value.cells,List.getD_eq_getElem?_getD,hi'] using this
  ·have := (V2_get h1 i x hx).1
   simpa [Value.cells,List.getD_eq_getElem?_getD,Array.getD_eq_getD_getElem?] using this
 have one : ∀ u,v.cells.toList = [u] → v = u → ∃ x,VT P w q x v ∧ TyC P m t [x] := by
  rintro u e rfl
  rw [e] at h1
  match xs,h1,h2 with
  | [x],h1,h2=>exact ⟨x,h1.1.1,h2⟩
 unfold TyA
 unfold Value.okWide at hv
 split
 ·rename_i fs hu
  simp only [hu] at hv
  obtain ⟨cs,e,_,_⟩ := hv
  exact ⟨_,agg cs e,xs,rfl,h2⟩
 ·rename_i n e hu
  simp only [hu] at hv
  obtain ⟨cs,e,_,_⟩ := hv
  exact ⟨_,agg cs e,xs,rfl,h2⟩
 ·rename_i n1 n2
  have hc : Cell.okWide P w r b0 t v := by
   split at hv
   ·rename_i hu; exact absurd hu (n1 _)
   ·rename_i hu; exact absurd hu (n2 _ _)
   ·exact hv
  cases v with
  | agg cs =>
   simp only [Cell.okWide] at hc
   split at hc <;> first | (rename_i e _; cases e; done) | (rename_i e; cases e; done) | (simp [Cell.ok] at hc)
  | tuple cs =>
   simp only [Cell.okWide] at hc
   split at hc <;> first | (rename_i e _; cases e; done) | (rename_i e; cases e; done) | (simp [Cell.ok] at hc)
  | _=>exact one _ rfl rfl
end
end Go.Tr

/- Contracts of chapter 7: which rules are broken. Conditions: none. -/
import Derived.Test.YtinfmponjglalaaGreatDoorTr08
import Derived.Test.YtinfmponjglalaaGreatDoorTr06
import Derived.Shelf.SlSortCmp.WholeK
set_option linter.unusedSectionVars false
set_option linter.unnecessarySimpa false
set_option linter.unusedVariables false
set_option linter.unusedSimpArgs false

namespace Go.Tr
open Go Go.Proofs
set_option maxRecDepth 20000
set_option maxHeartbeats 8000000

def firstN (P : Nat → Bool) : Nat → Nat → Option Nat
  | 0,_=>none
  | n + 1,i=>if P i then some i else firstN P n (i + 1)
theorem firstN_at {P : Nat → Bool} {n k : Nat} (hk : k < n) (h : ∀ j,j < k → P j = false) (hp : P k = true) : firstN P n 0 = some k := by
 have key : ∀ (n i : Nat),i ≤ k → k < i + n → firstN P n i = some k := by
  intro n
  induction n with
  | zero=>intro i h1 h2; omega
  | succ n ih =>
   intro i h1 h2
   unfold firstN
   by_cases hi : i = k
   ·subst hi; rw [if_pos hp]
   ·rw [if_neg (by rw [h i (by omega)]; nofun),ih (i + 1) (by omega) (by omega)]
 exact key n 0 (by omega) (by omega)
theorem firstN_none {P : Nat → Bool} {n : Nat} (h : ∀ j,j < n → P j = false) : firstN P n 0 = none := by
 have key : ∀ (m i : Nat),i + m = n → firstN P m i = none := by
  intro m
  induction m with
  | zero=>intro i _; rfl
  | succ m ih=>intro i hi; unfold firstN; rw [if_neg (by rw [h i (by omega)]; nofun),ih (i + 1) (by omega)]
 exact key n 0 (by omega)
theorem inv_nextB {f : Nat → Bool} {k : Nat} (h : ∀ j,j < k → f j = false) (hk : f k = false) : ∀ j,j < k + 1 → f j = false := fun j hj=>by
 rcases Nat.lt_succ_iff_lt_or_eq.1 hj with h1 | rfl
 ·exact h j h1
 ·exact hk
theorem inv_noneB {f : Nat → Bool} : ∀ j,j < 0 → f j = false := fun j hj=>absurd hj (Nat.not_lt_zero j)

def otherB (l : List Int) (m : Nat) (x : Int) : Bool := hasI (l.eraseIdx m) x
def condB (h : Hal) (l : List Int) (m k : Nat) : Bool :=
  decide ((h.rules.getD k rul0).1 = l.getD m 0) && (otherB l m (h.rules.getD k rul0).2.1 != decide ((h.rules.getD k rul0).2.2 = 1))
def rowB (h : Hal) (l : List Int) (m : Nat) : Option Nat := firstN (condB h l m) h.rules.length 0
def brokenF (h : Hal) (l : List Int) : Option (Nat × Nat) := match firstN (fun m=>(rowB h l m).isSome) l.length 0 with | none=>none | some m=>(rowB h l m).map fun k=>(m,k)
def brA : Option (Nat × Nat) → AV
  | none=>.tuple [stA (0,0),vb false]
  | some x=>.tuple [stA (x.1,x.2),vb true]
theorem broken_at {h : Hal} {l : List Int} {m k : Nat} (hm : m < l.length) (hk : k < h.rules.length) (h1 : ∀ j,j < m → (rowB h l j).isSome = false) (h2 : ∀ j,j < k → condB h l m j = false) (h3 : condB h l m k = true) : brokenF h l = some (m,k) := by
 have hr : rowB h l m = some k := firstN_at hk h2 h3
 unfold brokenF
 rw [firstN_at hm h1 (by rw [hr]; rfl)]
 show (rowB h l m).map _ = _
 rw [hr]; rfl
theorem broken_none {h : Hal} {l : List Int} (h1 : ∀ j,j < l.length → (rowB h l j).isSome = false) : brokenF h l = none := by
  unfold brokenF
  rw [firstN_none h1]
theorem S77n (l : List Int) (hl : l.length ≤ 1000000) (x : Int) {n : Nat} {f : Nat → List AV} (hn : n = l.length) (hf : ∀ i,i < n → f i = [i64 (l.getD i 0)]) : SP 77 [.rslice 1 n f,i64 x] (vb (hasI l x)) false := by
 refine (S77 l (by omega) x).argsD rfl fun i y z hy hz=>?_
 match i,hy,hz with
 | 0,hy,hz=>cases hy; cases hz; exact .inr ⟨1,AVF_rows hn hf 0⟩
 | 1,hy,hz=>cases hy; cases hz; exact .inl rfl
theorem ave_br (o : Option (Nat × Nat)) {m k : Nat} (h : o = some (m,k)) : AVE 5 (.tuple [.agg [i64 m,i64 k],vb true]) (brA o) := by
  rw [h]
  exact ave_tup2 (ave_agg2 (k := 3) rfl rfl) rfl
theorem ave_br0 (o : Option (Nat × Nat)) (h : o = none) : AVE 5 (.tuple [.agg [i64 0,i64 0],vb false]) (brA o) := by
  rw [h]
  exact ave_tup2 (ave_agg2 (k := 3) rfl rfl) rfl
theorem getD_erase (l : List Int) (m i : Nat) : (l.eraseIdx m).getD i 0 = if i < m then l.getD i 0 else l.getD (i + 1) 0 := by
  rw [List.getD_eq_getElem?_getD,List.getElem?_eraseIdx]
  split <;> rw [List.getD_eq_getElem?_getD]
theorem del_row (l : List Int) (m : Nat) (_ : m < l.length) (i : Nat) (hi : i < ((m : Int) - 0).toNat + ((l.length : Int) - ((m : Int) + 1)).toNat) {Z W : List AV} :
  (if 0 + Int.toNat 0 + (((((m : Int) - 0).toNat + ((l.length : Int) - ((m : Int) + 1)).toNat : Nat) : Int)).toNat ≤ i ∧ i < 0 + Int.toNat 0 + (((((m : Int) - 0).toNat + ((l.length : Int) - ((m : Int) + 1)).toNat : Nat) : Int)).toNat + ((l.length : Int) - ((((m : Int) - 0).toNat + ((l.length : Int) - ((m : Int) + 1)).toNat : Nat) : Int)).toNat then Z
   else if i < 0 + Int.toNat 0 + ((m : Int) - 0).toNat then [i64 (l.getD i 0)] else if i < 0 + Int.toNat 0 + ((m : Int) - 0).toNat + ((l.length : Int) - ((m : Int) + 1)).toNat then shiftF (0 + ((m : Int) + 1).toNat) (fun i=>[i64 (l.getD i 0)]) (i - (0 + Int.toNat 0 + ((m : Int) - 0).toNat)) else W) = [i64 ((l.eraseIdx m).getD i 0)] := by
 have e0 : Int.toNat 0 = 0 := rfl
 rw [if_neg (by omega),getD_erase,shiftF_eq]
 by_cases h : i < m
 ·rw [if_pos (by omega),if_pos h]
 ·rw [if_neg (by omega),if_pos (by omega),if_neg h]
  show [i64 (l.getD (0 + ((m : Int) + 1).toNat + (i - (0 + Int.toNat 0 + ((m : Int) - 0).toNat))) 0)] = _
  rw [show 0 + ((m : Int) + 1).toNat + (i - (0 + Int.toNat 0 + ((m : Int) - 0).toNat)) = i + 1 by omega]
theorem cond_ne {h : Hal} {l : List Int} {m k : Nat} (w : ¬ (h.rules.getD k rul0).1 = l.getD m 0) : condB h l m k = false := by
  unfold condB
  rw [decide_eq_false w]; rfl
theorem cond_no {h : Hal} {l : List Int} {m k : Nat} (w : (h.rules.getD k rul0).1 = l.getD m 0) (w2 : otherB l m (h.rules.getD k rul0).2.1 = ((h.rules.getD k rul0).2.2 == 1)) : condB h l m k = false := by
 unfold condB
 rw [decide_eq_true w,w2]
 show (true && (((h.rules.getD k rul0).2.2 == 1) != ((h.rules.getD k rul0).2.2 == 1))) = false
 simp
theorem cond_yes {h : Hal} {l : List Int} {m k : Nat} (w : (h.rules.getD k rul0).1 = l.getD m 0) (w2 : ¬ otherB l m (h.rules.getD k rul0).2.1 = ((h.rules.getD k rul0).2.2 == 1)) : condB h l m k = true := by
 unfold condB
 rw [decide_eq_true w,Bool.true_and]
 exact bne_iff_ne.2 w2
theorem S67 (h : Hal) (hr : h.rules.length ≤ 1000) (l : List Int) (hl : l.length ≤ 1000) : SP 67 [hallA h, ints l] (brA (brokenF h l)) false := by
  refine sound (d := 2) tok2 mixed2 Tryz.func67 (by kernel_rfl) (by kernel_rfl) ?_
  (conv=>whnf); refine ⟨[],[1,2,4,11,12,13],fun st mq=>∃ (m : Nat),(m ≤ l.length) ∧ (∀ j,j < m → (rowB h l j).isSome = false) ∧ st = ⟨[(1,ints l),(2,.optr 0 0 0 0),(4,.optr 1 0 0 0),(11,ints l),(12,i64 l.length),(13,i64 m)],⟨[⟨2,1,fun _=>hallC h,0,false,true,true⟩,⟨2,1,fun _=>[i64 0,i64 0],0,false,true,true⟩],[],none,0⟩,[]⟩ ∧ mq = l.length - m,
    ⟨_,_,⟨0,by omega,inv_noneB,rfl,rfl⟩,⟨⟨.inl rfl,rfl,rfl,rfl⟩,⟨bA,⟨bA,trivial⟩⟩,trivial⟩⟩,?_⟩
  rintro s0 m0 ⟨m,hm,h1,rfl,hmeas⟩
  by_cases hlt : m < l.length
  · conv => whnf
    (conv=>whnf); refine ifB_dec (fun w1=>?_) (fun w1=>?_)
    · conv => whnf
      (conv=>whnf); refine ⟨⟨(by omega),(by omega)⟩,?_⟩
      conv=>whnf
      (conv=>whnf); refine ⟨[],[1,2,4,6,7,11,12,13,19,20,21],fun st mq=>∃ (k : Nat),(k ≤ h.rules.length) ∧ (∀ j,j < k → condB h l m j = false) ∧ st = ⟨[(1,ints l),(2,.optr 0 0 0 0),(4,.optr 1 0 0 0),(6,i64 m),(7,i64 (l.getD m 0)),(11,ints l),(12,i64 l.length),(13,i64 m),(19,rulesA h.rules),(20,i64 h.rules.length),(21,i64 k)],⟨[⟨2,1,fun _=>hallC h,0,false,true,true⟩,⟨2,1,fun _=>[i64 0,i64 0],0,false,true,true⟩],[],none,0⟩,[]⟩ ∧ mq = h.rules.length - k,
        ⟨_,_,⟨0,by omega,inv_noneB,rfl,rfl⟩,⟨⟨.inl rfl,rfl,rfl,rfl⟩,⟨bA,⟨bA,trivial⟩⟩,trivial⟩⟩,?_⟩
      rintro s0 m0 ⟨k,hk,h2,rfl,hmeas⟩
      by_cases hltk : k < h.rules.length
      · have h94 := fun x => @S77n (l.eraseIdx m) (by rw [List.length_eraseIdx]; split <;> omega) x
        refine ifB_dec (fun w2=>?_) (fun w2=>?_)
        · refine ⟨⟨(by omega),(by omega)⟩,?_⟩
          refine .inl ⟨_,_,byX rfl (S95 _ (by omega)),?_⟩
          refine ⟨inK64 (by omega) (by omega),?_⟩
          refine .inr (.inl ⟨[],?_⟩)
          refine ⟨⟨(by first | rfl | assumption),⟨(by omega),⟨(by omega),⟨(by omega),(by omega)⟩⟩⟩⟩,?_⟩
          refine ifB_beq (fun w3=>?_) (fun w3=>?_)
          · (exfalso; omega)
          · refine ⟨[], by kernel_rfl, ?_⟩
            refine ⟨?_,?_⟩
            · exact ⟨Int.le_refl 0,by omega,by simp; omega⟩
            · refine ⟨?_, ?_⟩
              · exact ⟨by omega,by omega,by simp⟩
              · refine .inr ?_
                refine ⟨?_,?_⟩
                · simp; omega
                · refine ⟨?_,?_⟩
                  · exact ⟨by omega,by simp; omega,by simp⟩
                  · refine ⟨[],by kernel_rfl,?_⟩
                    refine ifB_beq (fun w4=>?_) (fun w4=>?_)
                    · refine .inl ⟨_,_,byX rfl (Sound1.pl (h94 _ ?_ ?_) rfl),?_⟩
                      · rw [List.length_eraseIdx,if_pos hlt]; omega
                      · exact fun i hi=>del_row l m hlt i hi
                      · refine ifB_not ?_
                        refine ifB_beqB (fun w5=>?_) (fun w5=>?_)
                        · refine ⟨inK64 (by omega) (by omega),?_⟩
                          refine ⟨_,_,⟨⟨k + 1,by omega,inv_nextB h2 (cond_no w4 w5),rfl,rfl⟩,by omega⟩,⟨⟨.inl rfl,rfl,rfl,rfl⟩,⟨bA,⟨bA,trivial⟩⟩,trivial⟩⟩
                        · refine ⟨?_,nofun⟩
                          exact ave_br _ (broken_at hlt hltk h1 h2 (cond_yes w4 w5))
                    · refine ⟨inK64 (by omega) (by omega),?_⟩
                      refine ⟨_,_,⟨⟨k + 1,by omega,inv_nextB h2 (cond_ne w4),rfl,rfl⟩,by omega⟩,⟨⟨.inl rfl,rfl,rfl,rfl⟩,⟨bA,⟨bA,trivial⟩⟩,trivial⟩⟩
        · (exfalso; omega)
      · have hrow : (rowB h l m).isSome = false := by
          have e : k = h.rules.length := by omega
          subst e
          unfold rowB
          rw [firstN_none h2]; rfl
        conv=>whnf
        conv=>whnf
        (conv=>whnf); refine ifB_dec (fun w2=>?_) (fun w2=>?_)
        · (exfalso; omega)
        · conv=>whnf
          conv=>whnf
          (conv=>whnf); refine ⟨inK64 (by omega) (by omega),?_⟩
          conv=>whnf
          conv=>whnf
          (conv=>whnf); refine ⟨_,_,⟨⟨m + 1,by omega,inv_nextB h1 hrow,rfl,rfl⟩,by omega⟩,⟨⟨.inl rfl,rfl,rfl,rfl⟩,⟨bA,⟨bA,trivial⟩⟩,trivial⟩⟩
    · (exfalso; omega)
  · conv=>whnf
    (conv=>whnf); refine ifB_dec (fun w1=>?_) (fun w1=>?_)
    · (exfalso; omega)
    · conv=>whnf
      (conv=>whnf); refine ⟨?_,nofun⟩
      exact ave_br0 _ (broken_none (by have e : m = l.length := by omega
                                       subst e; exact h1))

def brokenR (h : Hal) (l : List Int) : AV :=
  if openH h l ≠ 0 then .tuple [stA (0,0),i64 (openH h l)] else match brokenF h l with | none=>.tuple [stA (0,0),i64 12] | some x=>.tuple [stA (x.1,x.2),i64 0]
theorem S32 (h : Hal) (hr : h.rules.length ≤ 1000) (l : List Int) (hl : l.length ≤ 1000) : SP 32 [hallA h,ints l] (brokenR h l) false := by
 have h85 := S66 h hr l (by omega)
 have h86 := S67 h hr l hl
 unfold brokenR
 by_cases h0 : openH h l = 0
 ·rw [if_neg (not_not_intro h0)]
  rw [h0] at h85
  cases hb : brokenF h l with
  | none =>
   rw [hb] at h86
   refine sound (d := 2) tok2 mixed2 Tryz.func32 (by kernel_rfl) (by kernel_rfl) ?_
   (conv=>whnf); refine .inl ⟨_,_,byX rfl (Sound1.pl (h85) rfl),?_⟩
   (conv=>whnf); refine .inl ⟨_,_,byX rfl (Sound1.pl (h86) rfl),?_⟩
   (conv=>whnf); refine ⟨[],by kernel_rfl,?_⟩
   (conv=>whnf); refine .inl ⟨_,_,byX rfl (Sound1.pl (S45 _ _) rfl),?_⟩
   (conv=>whnf); refine ⟨?_,nofun⟩
   exact ave_tup2 (ave_agg2 (k := 3) rfl rfl) rfl
  | some x =>
   rw [hb] at h86
   refine sound (d := 2) tok2 mixed2 Tryz.func32 (by kernel_rfl) (by kernel_rfl) ?_
   (conv=>whnf); refine .inl ⟨_,_,byX rfl (Sound1.pl (h85) rfl),?_⟩
   (conv=>whnf); refine .inl ⟨_,_,byX rfl (Sound1.pl (h86) rfl),?_⟩
   (conv=>whnf); refine ⟨[],by kernel_rfl,?_⟩
   (conv=>whnf); refine .inl ⟨_,_,byX rfl (Sound1.pl (S45 _ _) rfl),?_⟩
   (conv=>whnf); refine ⟨?_,nofun⟩
   exact ave_tup2 (ave_agg2 (k := 3) rfl rfl) rfl
 ·rw [if_pos h0]
  refine sound (d := 2) tok2 mixed2 Tryz.func32 (by kernel_rfl) (by kernel_rfl) ?_
  (conv=>whnf); refine .inl ⟨_,_,byX rfl (Sound1.pl (h85) rfl),?_⟩
  (conv=>whnf); refine ifB_bne (fun w1=>?_) (fun w1=>?_)
  ·(conv=>whnf); refine ⟨?_,nofun⟩
   exact ave_tup2 (ave_agg2 (k := 3) rfl rfl) rfl
  ·(exfalso; omega)
end Go.Tr

/- Contracts of chapter 7: what the package's functions answer. Conditions: none. -/
namespace Go.Tr
open Go Go.Proofs
set_option maxRecDepth 20000
set_option maxHeartbeats 8000000

abbrev tnA (f : Int × Bool) (c : Int) : AV := .agg [i64 f.1,vb f.2,i64 c]
def mayB (p : Pln) (s : S2) (c : Int) : Bool := decide (c = -1) || (decide ((stp p s).wait = 0) && hasI (stp p s).exits c)
def turnE (p : Pln) (s : S2) (f : Int × Bool) (c : Int) : Int := if openE p s f = 0 then (if mayB p s c then 0 else 24) else openE p s f
def turnR (p : Pln) (s : S2) (f : Int × Bool) (c : Int) : AV :=
  if turnE p s f c ≠ 0 then .tuple [stA (0,0),i64 0,i64 (turnE p s f c)] else .tuple [stA (turnF p f s c).1,i64 (turnF p f s c).2,i64 0]
def homeR (p : Pln) (s : S2) (f : Int × Bool) : AV :=
  if openE p s f ≠ 0 then .tuple [sts [],i64 0,i64 (openE p s f)] else match homeF p f s with | none=>.tuple [sts [],i64 0,i64 12] | some x=>.tuple [sts x.1,i64 x.2,i64 0]
def htR (p : Pln) (s : S2) (f : Int × Bool) : AV :=
  if openE p s f ≠ 0 then .tuple [stA (0,0),i64 0,i64 (openE p s f)] else match homeTurnF p f s with | none=>.tuple [stA (0,0),i64 0,i64 21] | some x=>.tuple [stA x.1,i64 x.2,i64 0]
theorem S56 (p : Pln) (hp : FewP p) (s : S2) (f : Int × Bool) : SP 56 [planA p,stA s,ftA f] (htR p s f) false := by
 have h67 := S44 p hp s f
 unfold htR
 by_cases h0 : openE p s f = 0
 ·rw [if_neg (not_not_intro h0)]
  rw [h0] at h67
  obtain ⟨hg,hs,hf⟩ := open_ok hp h0
  have h81 := S85 p s f hs.at
  cases hx : homeTurnF p f s with
  | none =>
   rw [hx] at h81
   refine sound (d := 2) tok2 mixed2 Tryz.func56 (by kernel_rfl) (by kernel_rfl) ?_
   (conv=>whnf); refine .inl ⟨_,_,byX rfl (h67),?_⟩
   (conv=>whnf); refine .inl ⟨_,_,byX rfl (Sound1.pl (h81) rfl),?_⟩
   (conv=>whnf); refine ⟨[],by kernel_rfl,?_⟩
   (conv=>whnf); refine .inl ⟨_,_,byX rfl (Sound1.pl (S45 _ _) rfl),?_⟩
   (conv=>whnf); refine ⟨?_,nofun⟩
   exact ave_tup3 (ave_agg2 (k := 3) rfl rfl) rfl rfl
  | some x =>
   rw [hx] at h81
   refine sound (d := 2) tok2 mixed2 Tryz.func56 (by kernel_rfl) (by kernel_rfl) ?_
   (conv=>whnf); refine .inl ⟨_,_,byX rfl (h67),?_⟩
   (conv=>whnf); refine .inl ⟨_,_,byX rfl (Sound1.pl (h81) rfl),?_⟩
   (conv=>whnf); refine ⟨[],by kernel_rfl,?_⟩
   (conv=>whnf); refine .inl ⟨_,_,byX rfl (Sound1.pl (S45 _ _) rfl),?_⟩
   (conv=>whnf); refine ⟨?_,nofun⟩
   exact ave_tup3 (ave_agg2 (k := 3) rfl rfl) rfl rfl
 ·rw [if_pos h0]
  refine sound (d := 2) tok2 mixed2 Tryz.func56 (by kernel_rfl) (by kernel_rfl) ?_
  (conv=>whnf); refine .inl ⟨_,_,byX rfl (h67),?_⟩
  (conv=>whnf); refine ifB_bne (fun w1=>?_) (fun w1=>?_)
  ·(conv=>whnf); refine ⟨?_,nofun⟩
   exact ave_tup3 (ave_agg2 (k := 3) rfl rfl) rfl rfl
  ·(exfalso; omega)
theorem S29 (p : Pln) (hp : FewP p) (s : S2) (f : Int × Bool) : SP 29 [planA p,stA s,ftA f] (homeR p s f) false := by
 have h67 := S44 p hp s f
 unfold homeR
 by_cases h0 : openE p s f = 0
 ·rw [if_neg (not_not_intro h0)]
  rw [h0] at h67
  obtain ⟨hg,hs,hf⟩ := open_ok hp h0
  have h79 := S61 p hg f s hs
  cases hx : homeF p f s with
  | none =>
   rw [hx] at h79
   refine sound (d := 2) tok2 mixed2 Tryz.func29 (by kernel_rfl) (by kernel_rfl) ?_
   (conv=>whnf); refine .inl ⟨_,_,byX rfl (h67),?_⟩
   (conv=>whnf); refine .inl ⟨_,_,byX rfl (h79),?_⟩
   (conv=>whnf); refine .inl ⟨_,_,byX rfl (Sound1.pl (S45 _ _) rfl),?_⟩
   (conv=>whnf); refine ⟨?_,nofun⟩
   exact ave_tup3 ⟨rfl,rfl,fun _ _=>rfl⟩ rfl rfl
  | some x =>
   rw [hx] at h79
   refine sound (d := 2) tok2 mixed2 Tryz.func29 (by kernel_rfl) (by kernel_rfl) ?_
   (conv=>whnf); refine .inl ⟨_,_,byX rfl (h67),?_⟩
   (conv=>whnf); refine .inl ⟨_,_,byX rfl (h79),?_⟩
   (conv=>whnf); refine .inl ⟨_,_,byX rfl (Sound1.pl (S45 _ _) rfl),?_⟩
   (conv=>whnf); refine ⟨?_,nofun⟩
   exact ave_tup3 ⟨rfl,rfl,fun _ _=>rfl⟩ rfl rfl
 ·rw [if_pos h0]
  refine sound (d := 2) tok2 mixed2 Tryz.func29 (by kernel_rfl) (by kernel_rfl) ?_
  (conv=>whnf); refine .inl ⟨_,_,byX rfl (h67),?_⟩
  (conv=>whnf); refine ifB_bne (fun w1=>?_) (fun w1=>?_)
  ·(conv=>whnf); refine ⟨?_,nofun⟩
   exact ave_tup3 rfl rfl rfl
  ·(exfalso; omega)
theorem S15 (p : Pln) (hp : FewP p) (s : S2) (f : Int × Bool) (c : Int) : SP 15 [planA p,stA s,tnA f c] (turnR p s f c) false := by
 have h67 := S44 p hp s f
 unfold turnR
 by_cases h0 : openE p s f = 0
 ·rw [h0] at h67
  obtain ⟨hg,hs,hf⟩ := open_ok hp h0
  have h91 := S46 (stp p s) c (by have := hp.exits _ hs.k; show (p.steps.getD s.1.toNat stp0).exits.length ≤ _; omega)
  have h92 := S47 p s f c hs.at
  have hat := hs.at
  have hE : turnE p s f c = if mayB p s c then 0 else 24 := by unfold turnE; rw [if_pos h0]
  rw [hE]
  cases hm : mayB p s c with
  | true =>
   rw [show (decide (c = -1) || (decide ((stp p s).wait = 0) && hasI (stp p s).exits c)) = true from hm] at h91
   refine sound (d := 2) tok2 mixed2 Tryz.func15 (by kernel_rfl) (by kernel_rfl) ?_
   (conv=>whnf); refine .inl ⟨_,_,byX rfl (h67),?_⟩
   (conv=>whnf); refine ⟨[],by kernel_rfl,?_⟩
   (conv=>whnf); refine ⟨⟨(by omega),(by omega)⟩,?_⟩
   (conv=>whnf); refine .inl ⟨_,_,byX rfl (Sound1.pl (h91) rfl),?_⟩
   (conv=>whnf); refine .inl ⟨_,_,byX rfl (Sound1.pl (S45 _ _) rfl),?_⟩
   (conv=>whnf); refine .inl ⟨_,_,byX rfl (Sound1.pl (h92) rfl),?_⟩
   (conv=>whnf); refine ⟨?_,nofun⟩
   exact ave_tup3 (ave_agg2 (k := 3) rfl rfl) rfl rfl
  | false =>
   rw [show (decide (c = -1) || (decide ((stp p s).wait = 0) && hasI (stp p s).exits c)) = false from hm] at h91
   refine sound (d := 2) tok2 mixed2 Tryz.func15 (by kernel_rfl) (by kernel_rfl) ?_
   (conv=>whnf); refine .inl ⟨_,_,byX rfl (h67),?_⟩
   (conv=>whnf); refine ⟨[],by kernel_rfl,?_⟩
   (conv=>whnf); refine ⟨⟨(by omega),(by omega)⟩,?_⟩
   (conv=>whnf); refine .inl ⟨_,_,byX rfl (Sound1.pl (h91) rfl),?_⟩
   (conv=>whnf); refine .inl ⟨_,_,byX rfl (Sound1.pl (S45 _ _) rfl),?_⟩
   (conv=>whnf); refine ⟨?_,nofun⟩
   exact ave_tup3 (ave_agg2 (k := 3) rfl rfl) rfl rfl
 ·have hE : turnE p s f c = openE p s f := by unfold turnE; rw [if_neg h0]
  rw [hE,if_pos h0]
  refine sound (d := 2) tok2 mixed2 Tryz.func15 (by kernel_rfl) (by kernel_rfl) ?_
  (conv=>whnf); refine .inl ⟨_,_,byX rfl (h67),?_⟩
  (conv=>whnf); refine ifB_beq (fun w1=>?_) (fun w1=>?_)
  ·(exfalso; omega)
  ·(conv=>whnf); refine ifB_bne (fun w2=>?_) (fun w2=>?_)
   ·(conv=>whnf); refine ⟨?_,nofun⟩
    exact ave_tup3 (ave_agg2 (k := 3) rfl rfl) rfl rfl
   ·(exfalso; omega)
theorem S34 (a b : List Int) (ha : a.length ≤ 1000000000) (hb : b.length ≤ 1000000000) : SP 34 [ints a,ints b] (vb (decide (a = b))) false := by
 refine sound (d := 2) tok2 mixed2 Tryz.func34 (by kernel_rfl) (by kernel_rfl) ?_
 (conv=>whnf); refine ifB_bne (fun w1=>?_) (fun w1=>?_)
 ·(conv=>whnf); refine ⟨?_,nofun⟩
  show vb false = vb _
  rw [decide_eq_false]
  intro e; subst e; exact w1 rfl
 ·have hab : a.length = b.length := by omega
  (conv=>whnf); refine ⟨[],[0,1,5],fun st mq=>∃ (k : Nat),(k ≤ a.length) ∧ (∀ i,i < k → a.getD i 0 = b.getD i 0) ∧ st = ⟨[(0,ints a),(1,ints b),(5,i64 k)],⟨[],[],none,0⟩,[]⟩ ∧ mq = a.length - k,
   ⟨_,_,⟨0,by omega,fun i h=>absurd h (Nat.not_lt_zero i),rfl,rfl⟩,⟨⟨.inl rfl,rfl,rfl,rfl⟩,trivial,trivial⟩⟩,?_⟩
  rintro s0 m0 ⟨k,hk,h1,rfl,hmeas⟩
  conv=>whnf
  (conv=>whnf); refine ifB_dec (fun w2=>?_) (fun w2=>?_)
  ·conv=>whnf
   (conv=>whnf); refine ⟨[],by kernel_rfl,?_⟩
   conv=>whnf
   (conv=>whnf); refine ⟨⟨(by omega),(by omega)⟩,?_⟩
   conv=>whnf
   (conv=>whnf); refine ⟨⟨(by omega),(by omega)⟩,?_⟩
   conv=>whnf
   (conv=>whnf); refine ifB_bne (fun w3=>?_) (fun w3=>?_)
   ·conv=>whnf
    (conv=>whnf); refine ⟨?_,nofun⟩
    have e : ¬ a.getD k 0 = b.getD k 0 := w3
    show vb false = vb _
    rw [decide_eq_false]
    intro h; subst h; exact e rfl
   ·conv=>whnf
    (conv=>whnf); refine ⟨inK64 (by omega) (by omega),?_⟩
    have e : a.getD k 0 = b.getD k 0 := w3
    conv=>whnf
    (conv=>whnf); refine ⟨_,_,⟨⟨k + 1,by omega,fun i hi=>(by rcases Nat.lt_or_ge i k with h | h; exact h1 i h; rw [show i = k by omega]; exact e),rfl,rfl⟩,by omega⟩,⟨⟨.inl rfl,rfl,rfl,rfl⟩,trivial,trivial⟩⟩
  ·conv=>whnf
   (conv=>whnf); refine ⟨?_,nofun⟩
   have e : k = a.length := by omega
   subst e
   show vb true = vb _
   rw [decide_eq_true]
   apply List.ext_getElem hab
   intro i h2 h3
   have := h1 i h2
   simpa [List.getD_eq_getElem?_getD,h2,h3] using this
end Go.Tr

/- Contracts of chapter 7: the examples of the chapter. Conditions: none. -/
namespace Go.Tr
open Go Go.Proofs
set_option maxRecDepth 20000
set_option maxHeartbeats 8000000

def bS (l : List UInt8) : ByteArray := ⟨l.toArray⟩
def nOpen : ByteArray := bS [111,112,101,110]
def nSpeed : ByteArray := bS [115,112,101,101,100]
def nRest : ByteArray := bS [114,101,115,116]
def nStart : ByteArray := bS [115,116,97,114,116]
def nTurb : ByteArray := bS [116,117,114,98,105,110,101]
def nStop : ByteArray := bS [115,116,111,112]
def nBrake : ByteArray := bS [98,114,97,107,101]
def plE : Pln := ⟨[nOpen,nSpeed],0,
  [⟨nRest,true,0,0,0,1,[1],0,0,0,0,0,0,0⟩,
   ⟨nStart,false,0,3,60,0,[],3,0,3,0,30,2,3⟩,
   ⟨nTurb,false,2,3,0,3,[3],0,0,0,0,0,0,0⟩,
   ⟨nStop,false,0,3,40,0,[],0,2,0,3,20,0,4⟩,
   ⟨nBrake,false,0,4,90,0,[],0,1,0,3,50,0,0⟩]⟩
def haE : Hal := ⟨2,[(2,1,0),(3,0,1)]⟩
theorem S33 : SP 33 [] (hallA haE) false := by
 refine sound (d := 2) tok2 mixed2 Tryz.func33 (by kernel_rfl) (by kernel_rfl) ?_
 (conv=>whnf); refine ⟨?_,nofun⟩
 refine ave_agg2 (k := 4) rfl ⟨rfl,rfl,fun i hi=>?_⟩
 match i,hi with
 | 0,_=>rfl
 | 1,_=>rfl
def AVL (n : Nat) (l l' : List AV) : Prop := l.length = l'.length ∧ ∀ j x y,nth? l j = some x → nth? l' j = some y → x = y ∨ AVF n x y
theorem AVL_nil (n : Nat) : AVL n [] [] := ⟨rfl,fun _ _ _ h=>by cases h⟩
theorem AVL_cons {n : Nat} {x y : AV} {l l' : List AV} (h : x = y ∨ AVF n x y) (hl : AVL n l l') : AVL n (x :: l) (y :: l') := by
 refine ⟨congrArg (· + 1) hl.1,fun j a b ha hb=>?_⟩
 match j,ha,hb with
 | 0,ha,hb=>cases ha; cases hb; exact h
 | j + 1,ha,hb=>exact hl.2 j a b ha hb
theorem AVL_step {n : Nat} {a b c d e f x h i j k l m o : AV} {s : Stp} (hs : stpC s = [a,b,c,d,e,f,ints s.exits,h,i,j,k,l,m,o]) (hx : AVF n x (ints s.exits)) : AVL n [a,b,c,d,e,f,x,h,i,j,k,l,m,o] (stpC s) := by
  rw [hs]
  exact AVL_cons (.inl rfl) (AVL_cons (.inl rfl) (AVL_cons (.inl rfl) (AVL_cons (.inl rfl) (AVL_cons (.inl rfl) (AVL_cons (.inl rfl) (AVL_cons (.inr hx) (AVL_cons (.inl rfl) (AVL_cons (.inl rfl) (AVL_cons (.inl rfl) (AVL_cons (.inl rfl) (AVL_cons (.inl rfl) (AVL_cons (.inl rfl) (AVL_cons (.inl rfl) (AVL_nil n))))))))))))))
theorem ave_pl {a b c d : Nat} {f g : Nat → List AV} {v : Value} : AVE 5 (.agg [.rslice a b f,.val v,.rslice c d g]) (.agg [.rslice a b f,.val v,.rslice c d g]) := ave_agg3 ⟨rfl,rfl,fun _ _=>rfl⟩ rfl ⟨rfl,rfl,fun _ _=>rfl⟩
theorem S30 : SP 30 [] (planA plE) false := by
 have h : ∃ R,SP 30 [] R false ∧ AVF 5 R (planA plE) := by
  refine ⟨?R,?h1,?h2⟩
  case h1 =>
   refine sound (d := 2) tok2 mixed2 Tryz.func30 (by kernel_rfl) (by kernel_rfl) ?_
   (conv=>whnf); refine ⟨?_,nofun⟩
   exact ave_pl
  case h2 =>
   refine AVL_cons (.inr ⟨rfl,rfl,fun i hi=>?_⟩) (AVL_cons (.inl rfl) (AVL_cons (.inr ⟨rfl,rfl,fun i hi=>?_⟩) (AVL_nil _)))
   ·match i,hi with
    | 0,_=>exact AVL_cons (.inl rfl) (AVL_nil _)
    | 1,_=>exact AVL_cons (.inl rfl) (AVL_nil _)
   ·match i,hi with
    | 0,_=>exact AVL_step rfl ⟨rfl,rfl,fun i hi=>(by match i,hi with | 0,_=>exact AVL_cons (.inl rfl) (AVL_nil _))⟩
    | 1,_=>exact AVL_step rfl rfl
    | 2,_=>exact AVL_step rfl ⟨rfl,rfl,fun i hi=>(by match i,hi with | 0,_=>exact AVL_cons (.inl rfl) (AVL_nil _))⟩
    | 3,_=>exact AVL_step rfl rfl
    | 4,_=>exact AVL_step rfl rfl
 obtain ⟨R,h1,h2⟩ := h
 exact h1.resD h2
theorem fewE : FewP plE := by
 refine ⟨by decide,by decide,fun i hi=>?_,fun i hi=>?_,fun i hi=>?_⟩
 ·match i,hi with
  | 0,_=>decide
  | 1,_=>decide
 ·match i,hi with
  | 0,_=>decide
  | 1,_=>decide
  | 2,_=>decide
  | 3,_=>decide
  | 4,_=>decide
 ·match i,hi with
  | 0,_=>decide
  | 1,_=>decide
  | 2,_=>decide
  | 3,_=>decide
  | 4,_=>decide
theorem ex_turn : turnE plE (1,0) noF (-1) = 0 ∧ turnF plE noF (1,0) (-1) = ((2,3),30) := by decide +kernel
theorem ex_home : openE plE (2,3) (1,true) = 0 ∧ (homeF plE (1,true) (2,3)).map (fun x=>(x.1.length,x.2)) = some (3,91) := by decide +kernel
theorem ex_fast : fastE plE (0,0) 2 = 0 ∧ bestW plE (0,0) 2 11 = some ([1],31) := by decide +kernel
theorem ex_hall : openH haE [2,1] = 0 ∧ brokenF haE [2,1] = some (0,0) ∧ openH haE [0,0] = 0 ∧ brokenF haE [0,0] = none := by decide +kernel
theorem S32_2 (h : Hal) (hr : h.rules.length ≤ 1000) (a b : Int) {f : Nat → List AV} (hf : f 0 = [i64 a] ∧ f 1 = [i64 b]) : SP 32 [hallA h,.rslice 1 2 f] (brokenR h [a,b]) false := by
 have key : ∀ i,i < 2 → f i = [i64 (([a,b] : List Int).getD i 0)] := fun i hi=>by
  match i,hi with
  | 0,_=>exact hf.1
  | 1,_=>exact hf.2
 refine (S32 h hr [a,b] (by simp)).argsD rfl fun i y x hy hx=>?_
 match i,hy,hx with
 | 0,hy,hx=>cases hy; cases hx; exact .inl rfl
 | 1,hy,hx=>cases hy; cases hx; exact .inr ⟨1,AVF_rows rfl key 0⟩
theorem S34_1 (l : List Int) (hl : l.length ≤ 1000000) (a : Int) {f : Nat → List AV} (hf : f 0 = [i64 a]) : SP 34 [ints l,.rslice 1 1 f] (vb (decide (l = [a]))) false := by
 have key : ∀ i,i < 1 → f i = [i64 (([a] : List Int).getD i 0)] := fun i hi=>by
  match i,hi with
  | 0,_=>exact hf
 refine (S34 l [a] (by omega) (by simp)).argsD rfl fun i y x hy hx=>?_
 match i,hy,hx with
 | 0,hy,hx=>cases hy; cases hx; exact .inl rfl
 | 1,hy,hx=>cases hy; cases hx; exact .inr ⟨1,AVF_rows rfl key 0⟩
theorem S6 : SP 6 [] (vb true) false := by
 have h45 := S15 plE fewE (1,0) noF (-1)
 have h27 := S29 plE fewE (2,3) (1,true)
 have h17 := S31 plE fewE (0,0) 2
 have h35a := @S32_2 haE (by decide) 2 1
 have h35b := @S32_2 haE (by decide) 0 0
 have h23 := @S34_1 [1] (by decide) 1
 have e1 : turnR plE (1,0) noF (-1) = .tuple [stA (2,3),i64 30,i64 0] := by unfold turnR; rw [ex_turn.1,ex_turn.2]; rfl
 have e2 : fastR plE (0,0) 2 = .tuple [ints [1],i64 31,i64 0] := by unfold fastR; rw [ex_fast.1,ex_fast.2]; rfl
 have e3 : brokenR haE [2,1] = .tuple [stA (0,0),i64 0] := by unfold brokenR; rw [ex_hall.1,ex_hall.2.1]; rfl
 have e4 : brokenR haE [0,0] = .tuple [stA (0,0),i64 12] := by unfold brokenR; rw [ex_hall.2.2.1,ex_hall.2.2.2]; rfl
 obtain ⟨l,hl,e5⟩ : ∃ l : List S2,l.length = 3 ∧ homeR plE (2,3) (1,true) = .tuple [sts l,i64 91,i64 0] := by
  obtain ⟨x,h1,h2⟩ := Option.map_eq_some_iff.1 ex_home.2
  refine ⟨x.1,congrArg Prod.fst h2,?_⟩
  unfold homeR
  rw [ex_home.1,h1,if_neg (not_not_intro rfl)]
  show AV.tuple [sts x.1,i64 x.2,i64 0] = _
  rw [show x.2 = 91 from congrArg Prod.snd h2]
 rw [e1] at h45
 rw [e2] at h17
 rw [e5] at h27
 rw [e3] at h35a
 rw [e4] at h35b
 refine sound (d := 2) tok2 mixed2 Tryz.func6 (by kernel_rfl) (by kernel_rfl) ?_
 (conv=>whnf); refine .inl ⟨_,_,byX rfl (S30),?_⟩
 (conv=>whnf); refine .inl ⟨_,_,byX rfl (Sound1.pl (S17) rfl),?_⟩
 (conv=>whnf); refine .inl ⟨_,_,byX rfl (Sound1.pl (h45) rfl),?_⟩
 (conv=>whnf); refine .inl ⟨_,_,byX rfl (S30),?_⟩
 (conv=>whnf); refine .inl ⟨_,_,byX rfl (h27),?_⟩
 (conv=>whnf); refine .inl ⟨_,_,byX rfl (S30),?_⟩
 (conv=>whnf); refine .inl ⟨_,_,byX rfl (h17),?_⟩
 (conv=>whnf); refine .inl ⟨_,_,byX rfl (S33),?_⟩
 (conv=>whnf); refine .inl ⟨_,_,byX rfl (Sound1.pl (h35a ⟨rfl,rfl⟩) rfl),?_⟩
 (conv=>whnf); refine .inl ⟨_,_,byX rfl (S33),?_⟩
 (conv=>whnf); refine .inl ⟨_,_,byX rfl (Sound1.pl (h35b ⟨rfl,rfl⟩) rfl),?_⟩
 (conv=>whnf); refine ifB_beq (fun w1=>?_) (fun w1=>?_)
 ·(conv=>whnf); refine .inl ⟨_,_,byX rfl (Sound1.pl (h23 rfl) rfl),?_⟩
  (conv=>whnf); refine ⟨?_,nofun⟩
  rfl
 ·(exfalso; omega)
end Go.Tr

/- Data of chapter 7 that the ends share. Conditions: none. -/
/- Contracts of chapter 7: few plans, copies. Conditions: none. -/
namespace Go.Tr
open Go Go.Proofs
set_option maxRecDepth 20000
set_option maxHeartbeats 8000000

def fewSt (s : Stp) : Bool := decide (s.name.size ≤ 30) && decide (s.exits.length ≤ 12)
def fewB (p : Pln) : Bool := decide (p.sig.length ≤ 7) && decide (p.steps.length ≤ 12) && (p.sig.all fun s=>decide (s.size ≤ 30)) && p.steps.all fewSt
theorem FewP.of {p : Pln} (h : fewB p = true) : FewP p := by
 unfold fewB at h
 rw [Bool.and_eq_true,Bool.and_eq_true,Bool.and_eq_true,decide_eq_true_iff,decide_eq_true_iff,List.all_eq_true,List.all_eq_true] at h
 obtain ⟨⟨⟨h1,h2⟩,h3⟩,h4⟩ := h
 refine ⟨h1,h2,fun i hi=>?_,fun i hi=>?_,fun i hi=>?_⟩
 ·have := h3 (p.sig.getD i ByteArray.empty) (by simp [List.getD_eq_getElem?_getD,hi])
  exact of_decide_eq_true this
 ·have := h4 (p.steps.getD i stp0) (by simp [List.getD_eq_getElem?_getD,hi])
  unfold fewSt at this
  rw [Bool.and_eq_true,decide_eq_true_iff,decide_eq_true_iff] at this
  exact this.1
 ·have := h4 (p.steps.getD i stp0) (by simp [List.getD_eq_getElem?_getD,hi])
  unfold fewSt at this
  rw [Bool.and_eq_true,decide_eq_true_iff,decide_eq_true_iff] at this
  exact this.2
theorem few_n1 {p : Pln} (h : ¬ p.sig.length ≤ 7) : fewB p = false := by
  unfold fewB
  rw [decide_eq_false h]; rfl
theorem few_n2 {p : Pln} (h : ¬ p.steps.length ≤ 12) : fewB p = false := by
  unfold fewB
  rw [decide_eq_false h,Bool.and_false]; rfl
theorem few_n3 {p : Pln} {k : Nat} (hk : k < p.sig.length) (h : ¬ (p.sig.getD k ByteArray.empty).size ≤ 30) : fewB p = false := by
 cases hf : fewB p with
 | false=>rfl
 | true=>exact absurd ((FewP.of hf).size k hk) h
theorem few_n4 {p : Pln} {k : Nat} (hk : k < p.steps.length) (h : ¬ ((p.steps.getD k stp0).name.size ≤ 30 ∧ (p.steps.getD k stp0).exits.length ≤ 12)) : fewB p = false := by
 cases hf : fewB p with
 | false=>rfl
 | true=>exact absurd ⟨(FewP.of hf).name k hk,(FewP.of hf).exits k hk⟩ h
theorem few_y {p : Pln} (h1 : p.sig.length ≤ 7) (h2 : p.steps.length ≤ 12) (h3 : ∀ i,i < p.sig.length → (p.sig.getD i ByteArray.empty).size ≤ 30) (h4 : ∀ i,i < p.steps.length → (p.steps.getD i stp0).name.size ≤ 30 ∧ (p.steps.getD i stp0).exits.length ≤ 12) : fewB p = true := by
 unfold fewB
 rw [decide_eq_true h1,decide_eq_true h2,Bool.true_and,Bool.true_and,Bool.and_eq_true,List.all_eq_true,List.all_eq_true]
 refine ⟨fun s hs=>?_,fun s hs=>?_⟩
 ·obtain ⟨i,hi,rfl⟩ := List.getElem_of_mem hs
  have := h3 i hi
  exact decide_eq_true (by simpa [List.getD_eq_getElem?_getD,hi] using this)
 ·obtain ⟨i,hi,rfl⟩ := List.getElem_of_mem hs
  have := h4 i hi
  unfold fewSt
  rw [Bool.and_eq_true,decide_eq_true_iff,decide_eq_true_iff]
  simpa [List.getD_eq_getElem?_getD,hi] using this
theorem S7 (p : Pln) (hl : p.sig.length ≤ 9223372036854775807 ∧ p.steps.length ≤ 9223372036854775807) : SP 7 [planA p] (vb (fewB p)) false := by
 refine sound (d := 2) tok2 mixed2 Tryz.func7 (by kernel_rfl) (by kernel_rfl) ?_
 (conv=>whnf); refine ifB_dec (fun w1=>?_) (fun w1=>?_)
 ·(conv=>whnf); refine ⟨?_,nofun⟩
  exact endb (few_n1 (by omega)).symm
 ·(conv => whnf); refine ifB_dec (fun w2 => ?_) (fun w2 => ?_)
  ·(conv=>whnf); refine ⟨?_,nofun⟩
   exact endb (few_n2 (by omega)).symm
  ·(conv => whnf); refine ⟨[], [1, 3], fun st mq => ∃ (k : Nat), (k ≤ p.sig.length) ∧ (∀ i, i < k → (p.sig.getD i ByteArray.empty).size ≤ 30) ∧ st = ⟨[(1, .optr 0 0 0 0), (3, i64 k)], ⟨[⟨3, 1, fun _ => planC p, 0, false, true, true⟩], [], none, 0⟩, []⟩ ∧ mq = p.sig.length - k,
    ⟨_,_,⟨0,by omega,fun i h=>absurd h (Nat.not_lt_zero i),rfl,rfl⟩,⟨⟨.inl rfl,rfl,rfl,rfl⟩,⟨bA,trivial⟩,trivial⟩⟩,?_⟩
   rintro s0 m0 ⟨k,hk,g3,rfl,hmeas⟩
   by_cases hlt : k < p.sig.length
   ·conv=>whnf
    (conv=>whnf); refine ifB_dec (fun w3=>?_) (fun w3=>?_)
    ·conv=>whnf
     (conv=>whnf); refine ⟨⟨(by omega),(by omega)⟩,?_⟩
     conv=>whnf
     (conv=>whnf); refine ifB_dec (fun w4=>?_) (fun w4=>?_)
     ·conv=>whnf
      (conv=>whnf); refine ⟨?_,nofun⟩
      exact endb (few_n3 hlt (by have w4 : ((p.sig.getD k ByteArray.empty).size : Int) > 30 := w4; omega)).symm
     ·conv=>whnf
      (conv=>whnf); refine ⟨inK64 (by omega) (by omega),?_⟩
      have w4 : ¬ ((p.sig.getD k ByteArray.empty).size : Int) > 30 := w4
      conv=>whnf
      (conv=>whnf); refine ⟨_,_,⟨⟨k + 1,by omega,fun i hi=>(by rcases Nat.lt_succ_iff_lt_or_eq.1 hi with h | h; exact g3 i h; rw [h]; omega),rfl,rfl⟩,by omega⟩,⟨⟨.inl rfl,rfl,rfl,rfl⟩,⟨bA,trivial⟩,trivial⟩⟩
    ·(exfalso; omega)
   ·have hks : k = p.sig.length := by omega
    subst hks
    conv=>whnf
    (conv=>whnf); refine ifB_dec (fun w3=>?_) (fun w3=>?_)
    ·(exfalso; omega)
    ·conv=>whnf
     (conv=>whnf); refine ⟨[],[1,4],fun st mq=>∃ (k : Nat),(k ≤ p.steps.length) ∧ (∀ i,i < k → (p.steps.getD i stp0).name.size ≤ 30 ∧ (p.steps.getD i stp0).exits.length ≤ 12) ∧ st = ⟨[(1,.optr 0 0 0 0),(4,i64 k)],⟨[⟨3,1,fun _=>planC p,0,false,true,true⟩],[],none,0⟩,[]⟩ ∧ mq = p.steps.length - k,
      ⟨_,_,⟨0,by omega,fun i h=>absurd h (Nat.not_lt_zero i),rfl,rfl⟩,⟨⟨.inl rfl,rfl,rfl,rfl⟩,⟨bA,trivial⟩,trivial⟩⟩,?_⟩
     rintro s0 m0 ⟨k,hk2,g4,rfl,hmeas⟩
     by_cases hlt2 : k < p.steps.length
     ·conv=>whnf
      conv=>whnf
      (conv=>whnf); refine ifB_dec (fun w4=>?_) (fun w4=>?_)
      ·conv=>whnf
       conv=>whnf
       (conv=>whnf); refine ⟨⟨(by omega),(by omega)⟩,?_⟩
       conv=>whnf
       conv=>whnf
       (conv=>whnf); refine ifB_dec (fun w5=>?_) (fun w5=>?_)
       ·conv=>whnf
        conv=>whnf
        (conv=>whnf); refine ⟨?_,nofun⟩
        exact endb (few_n4 hlt2 (fun h=>by have w5 : ((p.steps.getD k stp0).name.size : Int) > 30 := w5; omega)).symm
       ·conv=>whnf
        conv=>whnf
        (conv=>whnf); refine ⟨⟨(by omega),(by omega)⟩,?_⟩
        conv=>whnf
        conv=>whnf
        (conv=>whnf); refine ifB_dec (fun w6=>?_) (fun w6=>?_)
        ·conv=>whnf
         conv=>whnf
         (conv=>whnf); refine ⟨?_,nofun⟩
         exact endb (few_n4 hlt2 (fun h=>by have w6 : ((p.steps.getD k stp0).exits.length : Int) > 12 := w6; omega)).symm
        ·conv=>whnf
         conv=>whnf
         (conv=>whnf); refine ⟨inK64 (by omega) (by omega),?_⟩
         have w5 : ¬ ((p.steps.getD k stp0).name.size : Int) > 30 := w5
         have w6 : ¬ ((p.steps.getD k stp0).exits.length : Int) > 12 := w6
         conv=>whnf
         conv=>whnf
         (conv=>whnf); refine ⟨_,_,⟨⟨k + 1,by omega,fun i hi=>(by rcases Nat.lt_succ_iff_lt_or_eq.1 hi with h | h; exact g4 i h; rw [h]; omega),rfl,rfl⟩,by omega⟩,⟨⟨.inl rfl,rfl,rfl,rfl⟩,⟨bA,trivial⟩,trivial⟩⟩
      ·(exfalso; omega)
     ·have e2 : k = p.steps.length := by omega
      subst e2
      conv=>whnf
      conv=>whnf
      (conv=>whnf); refine ifB_dec (fun w4=>?_) (fun w4=>?_)
      ·(exfalso; omega)
      ·conv=>whnf
       conv=>whnf
       (conv=>whnf); refine ⟨?_,nofun⟩
       exact endb (few_y (by omega) (by omega) g3 g4).symm
theorem S40f (l : List Int) (hl : l.length ≤ 1000000) : SP 40 [ints l] (ints l) false := by
 refine sound (d := 2) tok2 mixed2 Tryz.func40 (by kernel_rfl) (by kernel_rfl) ?_
 (conv=>whnf); refine .inl ?_
 (conv=>whnf); refine ⟨⟨(by omega),(by show _ * (8 + 1) ≤ _; omega)⟩,?_⟩
 (conv=>whnf); refine ⟨?_,nofun⟩
 exact ⟨rfl,Nat.zero_add _,fun i hi=>rfl⟩
theorem S39f (l : List ByteArray) (hl : l.length ≤ 1000000) : SP 39 [strs l] (strs l) false := by
 refine sound (d := 2) tok2 mixed2 Tryz.func39 (by kernel_rfl) (by kernel_rfl) ?_
 (conv=>whnf); refine .inl ?_
 (conv=>whnf); refine ⟨⟨(by omega),(by show _ * (16 + 1) ≤ _; omega)⟩,?_⟩
 (conv=>whnf); refine ⟨?_,nofun⟩
 exact ⟨rfl,Nat.zero_add _,fun i hi=>rfl⟩
theorem steps_row {p : Pln} {k : Nat} (hk : k < p.steps.length) (i : Nat) (h : i < k + 1) : stpC (p.steps.getD i stp0) = if i < k then stpC (p.steps.getD (0 + i) stp0) else List.take 14 (List.drop ((i - k) * 14) (stpC (p.steps.getD k stp0))) := by
 rw [Nat.zero_add]
 by_cases hi : i < k
 ·rw [if_pos hi]
 ·have : i = k := by omega
  subst this
  rw [if_neg hi,Nat.sub_self]; rfl
theorem S10 (p : Pln) (hp : FewP p) : SP 10 [planA p] (planA p) false := by
 have h73 := S39f p.sig (by have := hp.sig; omega)
 have hst := hp.steps
 refine sound (d := 2) tok2 mixed2 Tryz.func10 (by kernel_rfl) (by kernel_rfl) ?_
 (conv=>whnf); refine ⟨[],by kernel_rfl,?_⟩
 (conv=>whnf); refine .inl ⟨_,_,byX rfl (h73),?_⟩
 (conv=>whnf); refine ⟨[.cell 2 2 14],[1,2,3,4],fun st mq=>∃ (k : Nat),(k ≤ p.steps.length) ∧ st = ⟨[(1,.optr 0 0 0 0),(2,.optr 1 0 0 0),(3,.optr 2 0 0 0),(4,i64 k)],⟨[⟨3,1,fun _=>planC p,0,false,true,true⟩,⟨3,1,fun _=>[.eslice,i64 0,.eslice],0,false,true,true⟩,⟨3,1,fun _=>[strs p.sig,i64 p.start,.oslice 3 0 0 k none],0,false,false,true⟩,⟨14,k,fun i=>stpC (p.steps.getD i stp0),0,false,true,false⟩],[],none,0⟩,[]⟩ ∧ mq = p.steps.length - k,
  ⟨_,_,⟨0,by omega,rfl,rfl⟩,⟨⟨.inl rfl,rfl,rfl,rfl⟩,⟨bA,⟨bA,⟨⟨rfl,rfl,rfl,rfl,nofun,fun _ _=>.inl rfl⟩,⟨⟨rfl,rfl,rfl,rfl,fun _=>rfl,fun i h=>.inl (absurd h (Nat.not_lt_zero i))⟩,trivial⟩⟩⟩⟩,trivial⟩⟩,?_⟩
 rintro s0 m0 ⟨k,hk,rfl,hmeas⟩
 by_cases hlt : k < p.steps.length
 ·have h36 := S40f (p.steps.getD (k : Int).toNat stp0).exits (by have := hp.exits k hlt; show (p.steps.getD k stp0).exits.length ≤ _; omega)
  conv=>whnf
  (conv=>whnf); refine ifB_dec (fun w1=>?_) (fun w1=>?_)
  ·conv=>whnf
   (conv=>whnf); refine ⟨⟨(by omega),(by omega)⟩,?_⟩
   conv=>whnf
   (conv=>whnf); refine .inl ⟨_,_,byX rfl (h36),?_⟩
   conv=>whnf
   (conv=>whnf); refine .inl ?_
   conv=>whnf
   (conv=>whnf); refine ⟨(by show _ * (136 + 1) ≤ _; omega),?_⟩
   conv=>whnf
   (conv=>whnf); refine ⟨inK64 (by omega) (by omega),?_⟩
   conv=>whnf
   (conv=>whnf); refine ⟨_,_,⟨⟨k + 1,by omega,rfl,rfl⟩,by omega⟩,⟨⟨.inl rfl,rfl,rfl,rfl⟩,⟨bA,⟨bA,⟨⟨rfl,rfl,rfl,rfl,nofun,fun _ _=>.inl rfl⟩,⟨⟨rfl,rfl,rfl,rfl,fun _=>rfl,fun i h=>.inl (steps_row hlt i h)⟩,trivial⟩⟩⟩⟩,trivial⟩⟩
  ·(exfalso; omega)
 ·have e2 : k = p.steps.length := by omega
  subst e2
  conv=>whnf
  (conv=>whnf); refine ifB_dec (fun w1=>?_) (fun w1=>?_)
  ·(exfalso; omega)
  ·conv=>whnf
   (conv=>whnf); refine ⟨?_,nofun⟩
   exact ave_agg3 (k := 4) ⟨rfl,rfl,fun _ _=>rfl⟩ rfl ⟨rfl,rfl,fun _ _=>rfl⟩
end Go.Tr

/- The law SequencePlans returns true. Conditions: none. -/
namespace Go.Tr
open Go Go.Proofs
set_option maxRecDepth 20000
set_option maxHeartbeats 8000000

def fltAt (i : Nat) : Int × Bool := if i = 0 then (-1,false) else (((i - 1) / 2 : Nat),decide ((i - 1) % 2 = 1))
abbrev fltC (f : Int × Bool) : List AV := [i64 f.1,vb f.2]
abbrev fts (n : Nat) : AV := .rslice 2 (2 * n + 1) fun i=>fltC (fltAt i)
theorem flt_row {k : Nat} (i : Nat) (h : i < 2 * k + 1 + 2) : fltC (fltAt i) = if i < 2 * k + 1 then fltC (fltAt (0 + i)) else List.take 2 (List.drop ((i - (2 * k + 1)) * 2) [i64 k,vb false,i64 k,vb true]) := by
 rw [Nat.zero_add]
 by_cases hi : i < 2 * k + 1
 ·rw [if_pos hi]
 ·rw [if_neg hi]
  rcases (show i = 2 * k + 1 ∨ i = 2 * k + 2 by omega) with h1 | h1
  ·subst h1
   rw [Nat.sub_self]
   show fltC (fltAt _) = [i64 k,vb false]
   unfold fltAt
   rw [if_neg (by omega),show (2 * k + 1 - 1) / 2 = k by omega,decide_eq_false (by omega)]
  ·subst h1
   rw [show 2 * k + 2 - (2 * k + 1) = 1 by omega]
   show fltC (fltAt _) = [i64 k,vb true]
   unfold fltAt
   rw [if_neg (by omega),show (2 * k + 2 - 1) / 2 = k by omega,decide_eq_true (by omega)]
theorem vEq_flt (a : Int) (b : Bool) : vEqL [.int .i64 a,.bool b] [.int .i64 a,.bool b] = true := by
  simp [vEqL]
theorem S81 (p : Pln) (hn : p.sig.length ≤ 1000) : SP 81 [planA p] (fts p.sig.length) false := by
 refine sound (d := 2) tok2 mixed2 Tryz.func81 (by kernel_rfl) (by kernel_rfl) ?_
 (conv=>whnf); refine ⟨[.uncap 3],[3,10,11],fun st mq=>∃ (k : Nat),(k ≤ p.sig.length) ∧ st = ⟨[(3,.oslice 1 0 0 (2 * k + 1) none),(10,i64 p.sig.length),(11,i64 k)],⟨[⟨3,1,fun _=>planC p,0,false,true,true⟩,⟨2,2 * k + 1,fun i=>fltC (fltAt i),0,false,true,false⟩],[],none,0⟩,[]⟩ ∧ mq = p.sig.length - k,
  ⟨_,_,⟨0,by omega,rfl,rfl⟩,⟨⟨.inl rfl,rfl,rfl,rfl⟩,⟨bA,⟨⟨rfl,rfl,rfl,rfl,fun _=>rfl,fun i h=>.inl ((by have h : i < 1 := h; obtain rfl : i = 0 := Nat.lt_one_iff.1 h; rfl))⟩,trivial⟩⟩,trivial⟩⟩,?_⟩
 rintro s0 m0 ⟨k,hk,rfl,hmeas⟩
 conv=>whnf
 (conv=>whnf); refine ifB_dec (fun w1=>?_) (fun w1=>?_)
 ·conv=>whnf
  (conv=>whnf); refine .inl ?_
  conv=>whnf
  (conv=>whnf); refine ⟨(by show _ * (16 + 1) ≤ _; omega),?_⟩
  conv=>whnf
  (conv=>whnf); refine ⟨inK64 (by omega) (by omega),?_⟩
  conv=>whnf
  (conv=>whnf); refine ⟨_,_,⟨⟨k + 1,by omega,rfl,rfl⟩,by omega⟩,⟨⟨.inl rfl,rfl,rfl,rfl⟩,⟨bA,⟨⟨rfl,rfl,rfl,rfl,fun _=>rfl,fun i h=>.inl (flt_row i h)⟩,trivial⟩⟩,trivial⟩⟩
 ·conv=>whnf
  (conv=>whnf); refine ⟨?_,nofun⟩
  obtain rfl : k = p.sig.length := by omega
  exact ⟨rfl,rfl,fun i hi=>rfl⟩
end Go.Tr

/- Contracts of chapter 7: ranks, the reference. Conditions: none. -/
namespace Go.Tr
open Go Go.Proofs
set_option maxRecDepth 20000
set_option maxHeartbeats 8000000

abbrev Plc := S2 × (Int × Bool)
abbrev Rnk := Plc × Int
def rk0 : Rnk := (((0,0),(0,false)),0)
abbrev rkC (r : Rnk) : List AV := [i64 r.1.1.1,i64 r.1.1.2,i64 r.1.2.1,vb r.1.2.2,i64 r.2]
abbrev ranksA (l : List Rnk) : AV := .rslice 5 l.length fun i=>rkC (l.getD i rk0)
def atP (l : List Rnk) (q : Plc) (i : Nat) : Bool := decide ((l.getD i rk0).1 = q)
def findN (l : List Rnk) (q : Plc) (k : Nat) : Option Nat := firstN (atP l q) k 0
def findI (l : List Rnk) (q : Plc) (k : Nat) : Int := match findN l q k with | some i=>(i : Int) | none=>-1
theorem veq_if {a c : Int} {b d : Bool} (h : vEqL [.int .i64 a,.bool b] [.int .i64 c,.bool d] = true) : a = c ∧ b = d := by
  simpa [vEqL] using h
theorem S27 (l : List Rnk) (hl : l.length ≤ 1000000) : SP 27 [ranksA l] (ranksA l) false := by
 refine sound (d := 2) tok2 mixed2 Tryz.func27 (by kernel_rfl) (by kernel_rfl) ?_
 (conv=>whnf); refine .inl ?_
 (conv=>whnf); refine ⟨⟨(by omega),(by show _ * (40 + 1) ≤ _; omega)⟩,?_⟩
 (conv=>whnf); refine ⟨?_,nofun⟩
 exact ⟨rfl,Nat.zero_add _,fun i hi=>rfl⟩
def succs (p : Pln) (f : Int × Bool) (s : S2) : List S2 := (turnF p f s (-1)).1 :: (stp p s).exits.map fun c=>(turnF p f s c).1
theorem first_head {a : Int} {l : List Int} (h : firstOf (a :: l) = 0) : a = 0 := by
 by_cases h0 : a = 0
 ·exact h0
 ·unfold firstOf at h
  rw [if_neg h0] at h
  exact absurd h h0
theorem moving_exits {p : Pln} (hg : Good p) {s : Int × Int} (hs : OkS p s) (hw : ¬ (stp p s).wait = 0) : (stp p s).exits = [] := by
 have h1 := hg.step _ hs.k
 have h2 : _ = _ := (step_form p (stp p s) _).symm.trans h1
 split at h2
 ·rename_i h3; exact absurd h2 h3
 split at h2
 ·have h2 : movingE p.sig.length p.steps.length (stp p s) = 0 := h2
  unfold movingE at h2
  have h3 : (if (!(stp p s).safe && decide ((stp p s).home = 0) && decide ((stp p s).exits.length = 0)) = true then (0 : Int) else 3) = 0 := first_head h2
  split at h3
  ·rename_i h4
   rw [Bool.and_eq_true,decide_eq_true_iff] at h4
   exact List.eq_nil_of_length_eq_zero h4.2
  ·cases h3
 ·cases h2
theorem exits_ok {p : Pln} (hg : Good p) {s : Int × Int} (hs : OkS p s) {c : Int} (h : c ∈ (stp p s).exits) : OkC p c := by
 by_cases hw : (stp p s).wait = 0
 ·exact .inr (exit_ok hg hs hw (hasI_mem.2 h))
 ·rw [moving_exits hg hs hw] at h; cases h
def hasQ (l : List Rnk) (q : Plc) : Bool := (findN l q l.length).isSome
def lookQ (l : List Rnk) (q : Plc) : Int := match findN l q l.length with | some i=>(l.getD i rk0).2 | none=>0
def missF (p : Pln) (l : List Rnk) (s : S2) : Bool := (firstN (fun i=>!hasQ l (s,fltAt i)) (2 * p.sig.length + 1) 0).isSome
def missS (p : Pln) (l : List Rnk) (q : Plc) : Bool := (firstN (fun i=>!hasQ l ((succs p q.2 q.1).getD i (0,0),q.2)) (succs p q.2 q.1).length 0).isSome
def rank2E (p : Pln) (l : List Rnk) (r : Rnk) : Int :=
 if decide (r.1.2 = noF) && missF p l r.1.1 then 14 else if missS p l r.1 then 14
 else if homeB p r.1.2 r.1.1 != (r.2 == 0) then 3 else if homeB p r.1.2 r.1.1 then 0
 else match homeTurnF p r.1.2 r.1.1 with | none=>19 | some x=>if lookQ l (x.1,r.1.2) < r.2 then 0 else 19
theorem hasQ_find {l : List Rnk} {q : Plc} : hasQ l q = decide (¬ findI l q l.length < 0) := by
 unfold hasQ findI
 cases findN l q l.length with
 | none=>rfl
 | some i=>exact (decide_eq_true (by show ¬ (i : Int) < 0; omega)).symm
theorem rank_a {A e : Int} {h b : Bool} (hF : A = if h != b then 3 else if h then 0 else e) : (¬ h = b → A = 3) ∧ (h = b → h = true → A = 0) ∧ (h = b → h = false → A = e) := by
 refine ⟨fun h1=>hF.trans (if_pos (bne_iff_ne.2 h1)),fun h1 h2=>?_,fun h1 h2=>?_⟩
 ·subst h1
  rw [hF,if_neg (by simp),if_pos h2]
 ·subst h1
  rw [hF,if_neg (by simp),if_neg (by rw [h2]; nofun)]
end Go.Tr

/- Plain law: what turns lead to from some states. Conditions: none. -/
namespace Go.Tr
open Go Go.Proofs
set_option maxRecDepth 20000
set_option maxHeartbeats 8000000

inductive Rc (p : Pln) (f : Int × Bool) (A : List S2) : S2 → Prop
  | base {s : S2} : s ∈ A → Rc p f A s
  | step {s t : S2} : Rc p f A s → t ∈ succs p f s → Rc p f A t
theorem succs_ok {p : Pln} (hg : Good p) {f : Int × Bool} {s t : S2} (hs : OkS p s) (h : t ∈ succs p f s) : OkS p t := by
 unfold succs at h
 rcases List.mem_cons.1 h with e | h
 ·rw [e]; exact (turn_ok hg hs (.inl rfl)).1
 ·obtain ⟨c,hc,rfl⟩ := List.mem_map.1 h
  exact (turn_ok hg hs (exits_ok hg hs hc)).1
theorem Rc.sub {p : Pln} {f : Int × Bool} {A : List S2} {K : S2 → Prop} (hA : ∀ x ∈ A,K x) (hc : ∀ s,K s → ∀ t ∈ succs p f s,K t) {s : S2} (h : Rc p f A s) : K s := by
 induction h with
 | base h=>exact hA _ h
 | step _ h ih=>exact hc _ ih _ h
theorem Rc.ok {p : Pln} (hg : Good p) {f : Int × Bool} {A : List S2} (hA : ∀ x ∈ A,OkS p x) {s : S2} (h : Rc p f A s) : OkS p s :=
  Rc.sub hA (fun _ hs _ ht=>succs_ok hg hs ht) h

def wN (p : Pln) : Nat := 2 ^ p.sig.length
abbrev nN (p : Pln) : Nat := p.steps.length * wN p
theorem wN_pos (p : Pln) : 0 < wN p := Nat.two_pow_pos _
def stN (p : Pln) (i : Nat) : S2 := (((i / wN p : Nat) : Int),((i % wN p : Nat) : Int))
def ixN (p : Pln) (s : S2) : Nat := s.1.toNat * wN p + s.2.toNat
theorem OkS.co {p : Pln} (hg : Good p) {s : S2} (h : OkS p s) : 0 ≤ s.1 ∧ s.1 < p.steps.length ∧ 0 ≤ s.2 ∧ s.2 < (wN p : Int) := by
 have h1 := inX_iff.1 h.1
 have h2 := inS_iff.1 h.2
 rw [pwI (by have := hg.n; omega)] at h2
 exact ⟨h1.1,h1.2,h2⟩
theorem OkS.of {p : Pln} (hg : Good p) {s : S2} (h : 0 ≤ s.1 ∧ s.1 < p.steps.length ∧ 0 ≤ s.2 ∧ s.2 < (wN p : Int)) : OkS p s := by
 refine ⟨inX_iff.2 ⟨h.1,h.2.1⟩,inS_iff.2 ?_⟩
 rw [pwI (by have := hg.n; omega)]
 exact h.2.2
theorem ix_lt {p : Pln} (hg : Good p) {s : S2} (h : OkS p s) : ixN p s < nN p := by
 have hc := h.co hg
 have h1 : s.1.toNat + 1 ≤ p.steps.length := by omega
 have h2 := Nat.mul_le_mul_right (wN p) h1
 rw [Nat.add_mul] at h2
 show s.1.toNat * wN p + s.2.toNat < p.steps.length * wN p
 omega
theorem st_ix {p : Pln} (hg : Good p) {s : S2} (h : OkS p s) : stN p (ixN p s) = s := by
 have hc := h.co hg
 have hlt : s.2.toNat < wN p := by omega
 unfold stN ixN
 rw [Nat.mul_comm,Nat.mul_add_div (wN_pos p),Nat.div_eq_of_lt hlt,Nat.mul_add_mod,Nat.mod_eq_of_lt hlt]
 exact Prod.ext (by simp; omega) (by simp; omega)
theorem stN_ok {p : Pln} (hg : Good p) {i : Nat} (h : i < nN p) : OkS p (stN p i) := by
 refine OkS.of hg ?_
 have h1 : i / wN p < p.steps.length := Nat.div_lt_of_lt_mul (by rw [Nat.mul_comm]; exact h)
 have h2 := Nat.mod_lt i (wN_pos p)
 have key : ∀ q r : Nat,q < p.steps.length → r < wN p → (0 ≤ (q : Int) ∧ (q : Int) < p.steps.length ∧ 0 ≤ (r : Int) ∧ (r : Int) < (wN p : Int)) := fun q r a b=>by omega
 exact key _ _ h1 h2
theorem nN_le {p : Pln} (hg : Good p) : nN p ≤ 320 := by
 have h1 := hg.m
 have h2 : wN p ≤ 2 ^ 5 := Nat.pow_le_pow_right (by decide) hg.n
 have := Nat.mul_le_mul h1 h2
 omega
def ltS (a b : S2) : Prop := a.1 < b.1 ∨ a.1 = b.1 ∧ a.2 < b.2
theorem ltS_ir (a : S2) : ¬ ltS a a := by unfold ltS; omega
theorem ltS_as {a b : S2} (h : ltS a b) : ¬ ltS b a := by unfold ltS at *; omega
theorem ltS_tr {a b c : S2} (h : ltS a b) (h2 : ltS b c) : ltS a c := by unfold ltS at *; omega
theorem ltS_tri {a b : S2} (h : ¬ ltS b a) (hn : a ≠ b) : ltS a b := by
 unfold ltS at *
 have : ¬ (a.1 = b.1 ∧ a.2 = b.2) := fun e=>hn (Prod.ext e.1 e.2)
 omega
theorem stN_lt {p : Pln} {i j : Nat} (h : i < j) : ltS (stN p i) (stN p j) := by
 have h1 : i / wN p ≤ j / wN p := Nat.div_le_div_right (Nat.le_of_lt h)
 have e1 := Nat.div_add_mod i (wN p)
 have e2 := Nat.div_add_mod j (wN p)
 unfold ltS stN
 simp only
 by_cases he : i / wN p = j / wN p
 ·rw [he] at e1
  right
  refine ⟨by rw [he],?_⟩
  omega
 ·left; omega
theorem sort_uniq : ∀ {l m : List S2},l.Pairwise ltS → m.Pairwise ltS → (∀ x,x ∈ l ↔ x ∈ m) → l = m
 | [],[],_,_,_=>rfl
 | [],b :: m,_,_,h=>absurd ((h b).2 (.head _)) (by simp)
 | a :: l,[],_,_,h=>absurd ((h a).1 (.head _)) (by simp)
 | a :: l, b :: m, hl, hm, h => by
  have hl' := List.pairwise_cons.1 hl
  have hm' := List.pairwise_cons.1 hm
  have e : a = b := by
   rcases List.mem_cons.1 ((h a).1 (.head _)) with e | h1
   ·exact e
   ·rcases List.mem_cons.1 ((h b).2 (.head _)) with e | h2
    ·exact e.symm
    ·exact absurd (hl'.1 b h2) (ltS_as (hm'.1 a h1))
  subst e
  rw [sort_uniq hl'.2 hm'.2 fun x=>⟨fun hx=>?_,fun hx=>?_⟩]
  ·rcases List.mem_cons.1 ((h x).1 (.tail _ hx)) with e | h1
   ·rw [e] at hx; exact absurd (hl'.1 a hx) (ltS_ir a)
   ·exact h1
  ·rcases List.mem_cons.1 ((h x).2 (.tail _ hx)) with e | h1
   ·rw [e] at hx; exact absurd (hm'.1 a hx) (ltS_ir a)
   ·exact h1
theorem sorted_of {Q R : List S2} (hn : Q.Nodup) (hp : R.Perm Q) (hs : R.Pairwise fun a b=>¬ ltS b a) : R.Pairwise ltS := by
 have hn2 : R.Nodup := hp.symm.nodup hn
 exact (hs.and hn2).imp fun h=>ltS_tri h.1 h.2

noncomputable def rcB (p : Pln) (f : Int × Bool) (A : List S2) (i : Nat) : Bool := @decide (Rc p f A (stN p i)) (Classical.propDecidable _)
theorem rcB_iff {p : Pln} {f : Int × Bool} {A : List S2} {i : Nat} : rcB p f A i = true ↔ Rc p f A (stN p i) := by
  unfold rcB
  exact @decide_eq_true_iff _ (Classical.propDecidable _)
noncomputable def spL (p : Pln) (f : Int × Bool) (A : List S2) : List S2 := ((List.range (nN p)).filter (rcB p f A)).map (stN p)
theorem spL_srt (p : Pln) (f : Int × Bool) (A : List S2) : (spL p f A).Pairwise ltS := by
 unfold spL
 rw [List.pairwise_map]
 exact (List.pairwise_lt_range.filter _).imp fun h=>stN_lt h
theorem spL_mem {p : Pln} (hg : Good p) {f : Int × Bool} {A : List S2} (hA : ∀ x ∈ A,OkS p x) {s : S2} : s ∈ spL p f A ↔ Rc p f A s := by
 unfold spL
 rw [List.mem_map]
 constructor
 ·rintro ⟨i,hi,rfl⟩
  exact rcB_iff.1 (List.mem_filter.1 hi).2
 ·intro h
  have ho := h.ok hg hA
  refine ⟨ixN p s,List.mem_filter.2 ⟨List.mem_range.2 (ix_lt hg ho),rcB_iff.2 ?_⟩,st_ix hg ho⟩
  rw [st_ix hg ho]; exact h
theorem spL_ok {p : Pln} (hg : Good p) {f : Int × Bool} {A : List S2} : ∀ s ∈ spL p f A,OkS p s := fun s h=>by
 unfold spL at h
 obtain ⟨i,hi,rfl⟩ := List.mem_map.1 h
 exact stN_ok hg (List.mem_range.1 (List.mem_filter.1 hi).1)
theorem spL_nd (p : Pln) (f : Int × Bool) (A : List S2) : (spL p f A).Nodup :=
  (spL_srt p f A).imp fun {a b} hab=>fun e : a = b=>by rw [e] at hab; exact ltS_ir b hab
theorem spL_len {p : Pln} (hg : Good p) {f : Int × Bool} {A : List S2} : (spL p f A).length ≤ 320 := by
 unfold spL
 rw [List.length_map]
 have h1 := List.length_filter_le (rcB p f A) (List.range (nN p))
 rw [List.length_range] at h1
 have := nN_le hg
 omega
theorem spL_of {p : Pln} (hg : Good p) {f : Int × Bool} {A K D R : List S2} (hA : ∀ x ∈ A,OkS p x) (hK1 : ∀ x ∈ A,x ∈ K) (hK2 : ∀ x ∈ K,Rc p f A x) (hK3 : ∀ s ∈ K,∀ t ∈ succs p f s,t ∈ K)
  (hD : D.Nodup) (hDK : ∀ x,x ∈ D ↔ x ∈ K) (hR : R.Perm D) (hs : R.Pairwise fun a b=>¬ ltS b a) : R = spL p f A := by
 refine sort_uniq (sorted_of hD hR hs) (spL_srt p f A) fun x=>?_
 rw [hR.mem_iff,hDK,spL_mem hg hA]
 exact ⟨hK2 x,fun h=>Rc.sub (K := fun s=>s ∈ K) hK1 hK3 h⟩
noncomputable def reachL (p : Pln) (f : Int × Bool) : List S2 := if f = noF then spL p noF [(0,p.start)] else spL p f (spL p noF [(0,p.start)])
theorem start_ok {p : Pln} (hg : Good p) : ∀ x ∈ [((0 : Int),p.start)],OkS p x := fun x hx=>by
  rw [List.mem_singleton.1 hx]
  exact ⟨inX_iff.2 ⟨Int.le_refl 0,by have := hg.m0; omega⟩,hg.start⟩
theorem reach_ok {p : Pln} (hg : Good p) {f : Int × Bool} : ∀ s ∈ reachL p f,OkS p s := fun s h=>by
  unfold reachL at h
  split at h <;> exact spL_ok hg s h
theorem reach_len {p : Pln} (hg : Good p) {f : Int × Bool} : (reachL p f).length ≤ 320 := by
  unfold reachL
  split <;> exact spL_len hg
theorem reach_turn {p : Pln} (hg : Good p) {f : Int × Bool} {s t : S2} (hs : s ∈ reachL p f) (ht : t ∈ succs p f s) : t ∈ reachL p f := by
 unfold reachL at *
 by_cases hf : f = noF
 ·rw [if_pos hf] at *
  subst hf
  exact (spL_mem hg (start_ok hg)).2 (.step ((spL_mem hg (start_ok hg)).1 hs) ht)
 ·rw [if_neg hf] at *
  exact (spL_mem hg (spL_ok hg)).2 (.step ((spL_mem hg (spL_ok hg)).1 hs) ht)
theorem reach_own {p : Pln} (hg : Good p) {f : Int × Bool} {s : S2} (hs : s ∈ reachL p noF) : s ∈ reachL p f := by
 unfold reachL at *
 rw [if_pos rfl] at hs
 by_cases hf : f = noF
 ·rw [if_pos hf]; exact hs
 ·rw [if_neg hf]
  exact (spL_mem hg (spL_ok hg)).2 (.base hs)

def setB (B : Nat → Bool) (k : Nat) (i : Nat) : Bool := if i = k then true else B i
end Go.Tr

/- The kit's law of slices.SortFunc as a contract of the layer. Conditions: none. -/
namespace Go.Tr
open Go Go.RowKit Go.Proofs Go.Sort Go.Shelf
set_option maxRecDepth 20000
set_option maxHeartbeats 8000000

theorem below_grow [GTab] (hk : GTab.kept) {w w' : World} (h : Below w.heap.size w w') : ∃ n os,w' = Go.Sort.grow (w.drewN n) os := by
 obtain ⟨h1,h2,h3,h4,h5,h6⟩ := h
 have h6 := h6 hk
 refine ⟨w'.drawn - w.drawn,w'.heap.extract w.heap.size w'.heap.size,?_⟩
 have hh : w'.heap = w.heap ++ w'.heap.extract w.heap.size w'.heap.size := by
  apply Array.ext_getElem?
  intro i
  by_cases hi : i < w.heap.size
  ·rw [Array.getElem?_append_left hi,h5 i hi]
  ·rw [Array.getElem?_append_right (by omega),Array.getElem?_extract]
   by_cases hi2 : i < w'.heap.size
   ·rw [if_pos (by omega),show w.heap.size + (i - w.heap.size) = i by omega]
   ·rw [if_neg (by omega),Array.getElem?_eq_none (by omega)]
 have hd : w'.drawn = w.drawn + (w'.drawn - w.drawn) := by omega
 obtain ⟨a,b,c,d,e⟩ := w'
 obtain ⟨a',b',c',d',e'⟩ := w
 simp only at h1 h2 h3 hh hd
 subst h1 h2 h3
 show World.mk a b c d e = World.mk (a' ++ _) b (c' + _) d e
 rw [← hh]
 congr 1
theorem cmp_lays [GTab] (hk : GTab.kept) {P : Program} {g : FuncId} {args : List AV} {v : Value} (hs : Sound1 P g args (.val v) false) {W : World} {q : Nat → Prop} {vs : Array Value} (hq : ∀ b,q b → b < W.heap.size) (hg : GOk P W q) (hsz : vs.size = args.length)
  (hv : ∀ (i : Nat) x,args[i]? = some x → VT P W q x (vs.getD i undef)) : Calls P g vs W fun e w'=>e = .returned v ∧ ∃ n os,w' = Go.Sort.grow (W.drewN n) os := by
 refine (hs.2 W q vs hq hg hsz hv).mono ?_
 rintro e w' ⟨u,he,hb,hu⟩
 cases hu
 exact ⟨he,below_grow hk hb⟩
theorem vt_agg {P : Program} {w : World} {q : Nat → Prop} (l : List Value) (h : ∀ v ∈ l,v.oneCell' = true) : VT P w q (.agg (l.map .val)) (.agg l.toArray) := by
 refine .agg _ _ (by simp) (by simpa using h) fun i x hx=>?_
 rw [List.getElem?_map] at hx
 cases hl : l[i]? with
 | none=>rw [hl] at hx; cases hx
 | some v =>
  rw [hl] at hx
  cases hx
  have : l.toArray.getD i undef = v := by
   obtain ⟨hi,e⟩ := List.getElem?_eq_some_iff.1 hl
   simp [Array.getD,hi,e]
  rw [this]; exact .val v
section
variable {α : Type} [Inhabited α] (enc : α → List Value) (k : Nat) (w : World) (blk off : Nat)
theorem sw_heap (m : Nat) (d : Array α) (os : Array Obj) : (sortWorldK enc k w blk off m d os).heap = w.heap.modify blk (Go.Sort.onCells (Go.Sort.putCells id off (flatK enc k d))) ++ os := rfl
theorem sw_other (m : Nat) (d : Array α) (os : Array Obj) {b : Nat} (hb : b < w.heap.size) (hne : b ≠ blk) : (sortWorldK enc k w blk off m d os).heap[b]? = w.heap[b]? := by
  rw [sw_heap,Array.getElem?_append_left (by simpa using hb),Array.getElem?_modify,if_neg (fun e=>hne e.symm)]
theorem sw_size (m : Nat) (d : Array α) (os : Array Obj) : w.heap.size ≤ (sortWorldK enc k w blk off m d os).heap.size := by
  rw [sw_heap]; simp
theorem sw_row (m : Nat) (d : Array α) (os : Array Obj) {cs : Array Value} {t : TypeId} (h : w.heap[blk]? = some (.cells cs t (0,0))) : (sortWorldK enc k w blk off m d os).heap[blk]? = some (.cells (Go.Sort.putCells id off (flatK enc k d) cs) t (0,0)) := by
  have hlt : blk < w.heap.size := (Array.getElem?_eq_some_iff.1 h).1
  rw [sw_heap,Array.getElem?_append_left (by simpa using hlt),Array.getElem?_modify,if_pos rfl,h]; rfl
end
theorem putCells_eq (off : Nat) (F cs : Array Value) (h : off + F.size ≤ cs.size) : Go.Sort.putCells id off F cs = (cs.toList.take off ++ F.toList ++ cs.toList.drop (off + F.toList.length)).toArray := by
 apply Array.ext_getElem?
 intro i
 unfold Go.Sort.putCells
 have e0 : (cs.toList.take off ++ F.toList ++ cs.toList.drop (off + F.toList.length)).toArray[i]? = (cs.toList.take off ++ F.toList ++ cs.toList.drop (off + F.toList.length))[i]? := by simp
 rw [Array.getElem?_mapIdx,e0]
 have hF : F.toList.length = F.size := rfl
 have hc : cs.toList.length = cs.size := rfl
 by_cases h1 : i < off
 ·rw [List.append_assoc,List.getElem?_append_left (by rw [List.length_take]; omega),List.getElem?_take_of_lt h1,Array.getElem?_toList,Array.getElem?_eq_getElem (by omega)]
  simp only [Option.map_some,Option.some.injEq]
  rw [if_neg (by omega)]
 ·by_cases h2 : i < off + F.size
  ·rw [List.getElem?_append_left (by rw [List.length_append,List.length_take]; omega),List.getElem?_append_right (by rw [List.length_take]; omega),List.length_take,hc,Nat.min_eq_left (by omega),Array.getElem?_toList,Array.getElem?_eq_getElem (by omega),Array.getElem?_eq_getElem (by omega)]
   simp only [Option.map_some,Option.some.injEq]
   rw [if_pos ⟨by omega,h2⟩,getElem!_pos F (i - off) (by omega)]; rfl
  ·rw [List.getElem?_append_right (by rw [List.length_append,List.length_take]; omega),List.length_append,List.length_take,hc,hF,Nat.min_eq_left (by omega),List.getElem?_drop,show off + F.size + (i - (off + F.size)) = i by omega,Array.getElem?_toList]
   cases hi : cs[i]? with
   | none=>rfl
   | some x =>
    simp only [Option.map_some,Option.some.injEq]
    rw [if_neg (by omega)]
theorem sort_sound2 [GTab] (hkp : GTab.kept) {P : Program} {ρ : Go.Shelf.Ren} {α : Type} [Inhabited α] (L : SlLaysF0.n6 P ρ) (k : Nat) (aE : ∀ w,(isAgg (ρ.t 24)).run P w = .ok true w) (zE : ∀ w,(Go.sizeOf (ρ.t 24)).run P w = .ok k w) (enc : α → List Value)
  (hk : ∀ x,(enc x).length = k) (h1 : ∀ x,∀ v ∈ enc x,v.oneCell' = true) (cf : α → α → Int) (hO : Go.Sort.SWO (ltOf cf)) (g : FuncId) (hg : ∀ x y : α,Sound1 P g [.agg ((enc x).map .val),.agg ((enc y).map .val)] (.val (.int .i64 (cf x y))) false)
  (ef : ∀ z w,(callFunc (ρ.f 6) z).run P w = .ok (.enter (ρ.f 6) z) w) (d : Array α) (hsz : d.size < 4611686018427387904) :
  Sound2 P (ρ.f 6) k d.size (fun i=>(enc d[i]!).map .val) [.func (.func g) 0 []] (fun i=>(enc (Go.Sort.pdq (ltOf cf) d 0 d.size (Lib.bitLen d.size) true true)[i]!).map .val) := by
 refine ⟨ef,fun w q vs blk off cap cs t hq hgok hnb hrow hoff hone hcap hR hrel hvs hvr=>?_⟩
 have hlt : blk < w.heap.size := (Array.getElem?_eq_some_iff.1 hrow).1
 have hv0 := hvr 0 _ rfl
 obtain ⟨u,hu⟩ : ∃ u,u = vs.getD 0 undef := ⟨_,rfl⟩
 rw [← hu] at hv0
 have hvs1 : vs = #[u] := by
  apply Array.ext_getElem?
  intro i
  have hvs : vs.size = 1 := hvs
  match i with
  | 0=>rw [Array.getElem?_eq_getElem (by omega)]; simp [hu,Array.getD,hvs]
  | i + 1=>rw [Array.getElem?_eq_none (by omega)]; simp
 cases hv0 with
 | func _ _ _ f0 c hf hs _ =>
  have hf0 : f0 = #[] := Array.size_eq_zero_iff.1 hf
  have hc0 : c = #[] := by
   rw [hf0] at hs
   exact Array.size_eq_zero_iff.1 (by simpa using hs)
  subst hf0 hc0
  rw [hvs1]
  have hH : HoldsK enc k w blk off d := fun j hj=>by
   rw [size_flatK] at hj
   have hk0 : 0 < k := Nat.pos_of_ne_zero fun e=>by rw [e] at hj; omega
   have hi : j / k < d.size := Nat.div_lt_of_lt_mul (by rw [Nat.mul_comm]; exact hj)
   have hm : j % k < k := Nat.mod_lt _ hk0
   have ej : j / k * k + j % k = j := by rw [Nat.mul_comm]; exact Nat.div_add_mod j k
   have hx := hrel (j / k) (j % k) (.val (enc d[j / k]!)[j % k]!) hi (by
    rw [List.getElem?_map,List.getElem?_eq_getElem (by rw [hk]; exact hm),getElem!_pos (enc d[j / k]!) (j % k) (by rw [hk]; exact hm)]; rfl)
   rw [ej] at hx
   have hv : cs.getD (off + j) undef = (enc d[j / k]!)[j % k]! := by
    generalize cs.getD (off + j) undef = z at hx
    cases hx; rfl
   have hin : off + j < cs.size := by omega
   constructor
   ·rw [get_flatK enc k d j hj,← hv]
    simp [World.cell?,hrow,Array.getD,hin]
   ·simp [World.frozen?,hrow]
  have hcmp : CmpLays P g #[] enc k cf blk off d.size w := fun m os dk hdk x y=>by
   have hW : ∀ b,q b → (sortWorldK enc k w blk off m dk os).heap[b]? = w.heap[b]? := fun b hb=>sw_other enc k w blk off m dk os (hq b hb) fun e=>hnb (e ▸ hb)
   refine cmp_lays hkp (hg x y) (q := q) (fun b hb=>Nat.lt_of_lt_of_le (hq b hb) (sw_size enc k w blk off m dk os)) (hgok.mono (fun _ h=>h) hW) rfl fun i z hz=>?_
   match i,hz with
   | 0,hz=>cases hz; exact vt_agg _ (h1 x)
   | 1,hz=>cases hz; exact vt_agg _ (h1 y)
  refine (AnyQ.slices_SortFunc_eq L k aE zE enc hk h1 cf hO g #[] blk off cap d w (hg default default).1 hcmp hH hlt hsz).mono ?_
  rintro e w' ⟨he,n,os,hw'⟩
  have hps := pdq_sorts (ltOf cf) hO d 0 d.size (Lib.bitLen d.size) true true (Nat.zero_le _) (Nat.le_refl _) (Or.inl rfl)
  have hds := hps.1.1
  refine ⟨he,flatK enc k (Go.Sort.pdq (ltOf cf) d 0 d.size (Lib.bitLen d.size) true true),?_⟩
  generalize Go.Sort.pdq (ltOf cf) d 0 d.size (Lib.bitLen d.size) true true = d' at *
  have hFs : (flatK enc k d').size = d.size * k := by rw [size_flatK,hds]
  have hel : ∀ i j,i < d.size → j < k → (flatK enc k d').getD (i * k + j) undef = (enc d'[i]!)[j]! := fun i j hi hj=>by
   have hb : i * k + j < d.size * k := by
    have : (i + 1) * k ≤ d.size * k := Nat.mul_le_mul_right k hi
    rw [Nat.add_mul,Nat.one_mul] at this
    omega
   have := get_flatK enc k d' (i * k + j) (by rw [hds]; exact hb)
   rw [show (i * k + j) / k = i by rw [Nat.mul_comm,Nat.mul_add_div (by omega),Nat.div_eq_of_lt hj,Nat.add_zero],show (i * k + j) % k = j by rw [Nat.mul_comm,Nat.mul_add_mod,Nat.mod_eq_of_lt hj]] at this
   rw [← this,getElem!_pos (flatK enc k d') (i * k + j) (by omega)]
   simp [Array.getD,hFs,hb]
  refine ⟨hFs,fun v hv=>?_,fun i _=>by rw [List.length_map,hk],fun i j y hi hy=>?_,?_⟩
  ·obtain ⟨j,hj,e⟩ := List.getElem_of_mem hv
   have hj : j < (flatK enc k d').size := hj
   have hk0 : 0 < k := Nat.pos_of_ne_zero fun e=>by rw [hFs,e] at hj; omega
   have hm : j % k < k := Nat.mod_lt _ hk0
   have := get_flatK enc k d' j (by rw [← size_flatK enc k d']; exact hj)
   rw [getElem!_pos (flatK enc k d') j hj,getElem!_pos (enc d'[j / k]!) (j % k) (by rw [hk]; exact hm)] at this
   have e : (flatK enc k d')[j] = v := e
   rw [← e,this]
   exact h1 _ _ (List.getElem_mem _)
  ·rw [List.getElem?_map] at hy
   cases hl : (enc d'[i]!)[j]? with
   | none=>rw [hl] at hy; cases hy
   | some v =>
    rw [hl] at hy
    cases hy
    obtain ⟨hj,e⟩ := List.getElem?_eq_some_iff.1 hl
    rw [hel i j hi (by rw [hk] at hj; exact hj),getElem!_pos (enc d'[i]!) j hj,e]
    exact .val v
  ·subst hw'
   refine ⟨rfl,rfl,rfl,?_,fun b hb=>?_,fun _=>Nat.le_add_right _ _⟩
   ·have := sw_size enc k w blk off n d' os
    simpa [World.setRow] using this
   ·by_cases hbb : b = blk
    ·rw [hbb,sw_row enc k w blk off n d' os hrow,setRow_heap w blk cs _ t (0,0) hrow,putCells_eq off _ _ (by rw [hFs]; exact hoff)]
    ·rw [sw_other enc k w blk off n d' os (by simpa using hb) hbb]
     simp only [World.setRow,Array.getElem?_modify]
     rw [if_neg (fun e=>hbb e.symm)]
end Go.Tr

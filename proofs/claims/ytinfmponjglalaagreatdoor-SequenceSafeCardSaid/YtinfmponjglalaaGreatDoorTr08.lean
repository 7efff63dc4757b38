/- Contracts of chapter 7: states, faults, turns. Conditions: none. -/
import Derived.Test.YtinfmponjglalaaGreatDoorTr07
set_option linter.unusedSectionVars false
set_option linter.unnecessarySimpa false
set_option linter.unusedVariables false
set_option linter.unusedSimpArgs false

namespace Go.Tr
open Go Go.Proofs
set_option maxRecDepth 20000
set_option maxHeartbeats 8000000

abbrev stA (s : Int × Int) : AV := .agg [i64 s.1,i64 s.2]
abbrev ftA (f : Int × Bool) : AV := .agg [i64 f.1,vb f.2]
def stateE (p : Pln) (s : Int × Int) : Int := firstOf [idxE p.steps.length s.1,setE p.sig.length s.2]
def faultE (p : Pln) (f : Int × Bool) : Int := firstOf [if decide (-1 ≤ f.1 ∧ f.1 ≤ (p.sig.length : Int) - 1) then 0 else 2,if decide (f.1 ≥ 0) || !f.2 then 0 else 3]
def openE (p : Pln) (s : Int × Int) (f : Int × Bool) : Int := if (checkP p).2 = 0 then firstOf [stateE p s,faultE p f] else (checkP p).2

theorem ave_agg2 {k : Nat} {a b a' b' : AV} (ha : AVE k a a') (hb : AVE k b b') : AVE (k + 1) (.agg [a,b]) (.agg [a',b']) := by
 refine ⟨rfl,fun i x y hx hy=>?_⟩
 match i,hx,hy with
 | 0,hx,hy=>cases hx; cases hy; exact ha
 | 1,hx,hy=>cases hx; cases hy; exact hb
theorem ave_agg3 {k : Nat} {a b c a' b' c' : AV} (ha : AVE k a a') (hb : AVE k b b') (hc : AVE k c c') : AVE (k + 1) (.agg [a,b,c]) (.agg [a',b',c']) := by
 refine ⟨rfl,fun i x y hx hy=>?_⟩
 match i,hx,hy with
 | 0,hx,hy=>cases hx; cases hy; exact ha
 | 1,hx,hy=>cases hx; cases hy; exact hb
 | 2,hx,hy=>cases hx; cases hy; exact hc
theorem ave_tup3 {k : Nat} {a b c a' b' c' : AV} (ha : AVE k a a') (hb : AVE k b b') (hc : AVE k c c') : AVE (k + 1) (.tuple [a,b,c]) (.tuple [a',b',c']) := by
 refine ⟨rfl,fun i x y hx hy=>?_⟩
 match i,hx,hy with
 | 0,hx,hy=>cases hx; cases hy; exact ha
 | 1,hx,hy=>cases hx; cases hy; exact hb
 | 2,hx,hy=>cases hx; cases hy; exact hc
theorem ave_plan (k : Nat) (p : Pln) : AVE (k + 2) (planA p) (planA p) := ave_agg3 ⟨rfl,rfl,fun _ _=>rfl⟩ rfl ⟨rfl,rfl,fun _ _=>rfl⟩
theorem ave_i64 (k : Nat) {a b : Int} (h : a = b) : AVE (k + 1) (i64 a) (i64 b) := h ▸ rfl
theorem ave_st (k : Nat) {s s' : Int × Int} (h : s = s') : AVE (k + 2) (stA s) (stA s') := h ▸ ave_agg2 rfl rfl
theorem endPl {p : Pln} {a b : Int} (h : a = b) : AVE 5 (.tuple [planA p,i64 a]) (.tuple [planA p,i64 b]) := ave_tup2 (ave_plan 2 p) (ave_i64 3 h)
theorem S58 (p : Pln) (hn : p.sig.length ≤ 7) (hm : p.steps.length ≤ 1000) (s : Int × Int) : SP 58 [planA p,stA s] (i64 (stateE p s)) false := by
 have h68 := @S62_1 p hm s.1
 have h98 := @S86_1 p hn s.2
 rw [idxs1] at h68
 rw [sets1] at h98
 refine sound (d := 2) tok2 mixed2 Tryz.func58 (by kernel_rfl) (by kernel_rfl) ?_
 (conv=>whnf); refine ⟨[],by kernel_rfl,?_⟩
 (conv=>whnf); refine .inl ⟨_,_,byX rfl (Sound1.pl (h68 rfl) rfl),?_⟩
 (conv=>whnf); refine .inl ⟨_,_,byX rfl (Sound1.pl (h98 rfl) rfl),?_⟩
 (conv=>whnf); refine .inl ⟨_,_,byX rfl (Sound1.pl (S57_2 _ _ ⟨rfl,rfl⟩) rfl),?_⟩
 (conv=>whnf); refine ⟨?_,nofun⟩
 rfl
theorem S37 (p : Pln) (hn : p.sig.length ≤ 7) (f : Int × Bool) : SP 37 [planA p,ftA f] (i64 (faultE p f)) false := by
 have h78 := S59 f.1 (-1) ((p.sig.length : Int) - 1)
 refine sound (d := 2) tok2 mixed2 Tryz.func37 (by kernel_rfl) (by kernel_rfl) ?_
 unfold faultE
 (conv=>whnf); refine ⟨[],by kernel_rfl,?_⟩
 (conv=>whnf); refine ⟨inK64 (by omega) (by omega),?_⟩
 (conv=>whnf); refine .inl ⟨_,_,byX rfl (Sound1.pl (h78) rfl),?_⟩
 (conv=>whnf); refine .inl ⟨_,_,byX rfl (Sound1.pl (S45 _ _) rfl),?_⟩
 (conv=>whnf); refine ifB_dec (fun w1=>?_) (fun w1=>?_)
 ·(conv=>whnf); refine .inl ⟨_,_,byX rfl (Sound1.pl (S45 _ _) rfl),?_⟩
  (conv=>whnf); refine .inl ⟨_,_,byX rfl (Sound1.pl (S57_2 _ _ ⟨rfl,rfl⟩) rfl),?_⟩
  (conv=>whnf); refine ⟨?_,nofun⟩
  refine endi ?_
  rw [decide_eq_true w1]; rfl
 ·(conv=>whnf); refine .inl ⟨_,_,byX rfl (Sound1.pl (S45 _ _) rfl),?_⟩
  (conv=>whnf); refine .inl ⟨_,_,byX rfl (Sound1.pl (S57_2 _ _ ⟨rfl,rfl⟩) rfl),?_⟩
  (conv=>whnf); refine ⟨?_,nofun⟩
  refine endi ?_
  rw [decide_eq_false w1]; rfl
theorem S54 (p : Pln) (hn : p.sig.length ≤ 7) (hm : p.steps.length ≤ 1000) (s : Int × Int) : SP 54 [planA p,stA s] (i64 (stateE p s)) false := by
 have h21 := S71 p hm s.1
 have h105 := S69 p hn s.2
 refine sound (d := 2) tok2 mixed2 Tryz.func54 (by kernel_rfl) (by kernel_rfl) ?_
 (conv=>whnf); refine ⟨[],by kernel_rfl,?_⟩
 (conv=>whnf); refine .inl ⟨_,_,byX rfl (Sound1.pl (h21) rfl),?_⟩
 (conv=>whnf); refine .inl ⟨_,_,byX rfl (Sound1.pl (h105) rfl),?_⟩
 (conv=>whnf); refine .inl ⟨_,_,byX rfl (Sound1.pl (S70_2 _ _ ⟨rfl,rfl⟩) rfl),?_⟩
 (conv=>whnf); refine ⟨?_,nofun⟩
 rfl
theorem S11 (p : Pln) (hn : p.sig.length ≤ 7) (f : Int × Bool) : SP 11 [planA p,ftA f] (i64 (faultE p f)) false := by
 have h41 := S28 f.1 (-1) ((p.sig.length : Int) - 1)
 refine sound (d := 2) tok2 mixed2 Tryz.func11 (by kernel_rfl) (by kernel_rfl) ?_
 unfold faultE
 (conv=>whnf); refine ⟨inK64 (by omega) (by omega),?_⟩
 (conv=>whnf); refine .inl ⟨_,_,byX rfl (Sound1.pl (h41) rfl),?_⟩
 (conv=>whnf); refine ifB_not ?_
 (conv=>whnf); refine ifB_dec (fun w1=>?_) (fun w1=>?_)
 ·(conv=>whnf); refine ifB_beq (fun w2=>?_) (fun w2=>?_)
  ·(conv=>whnf); refine ifB_intro (fun w3=>?_) (fun w3=>?_)
   ·(conv=>whnf); refine ⟨?_,nofun⟩
    refine endi ?_
    rw [decide_eq_true w1,decide_eq_false (by omega),w3]; rfl
   ·(conv=>whnf); refine ⟨?_,nofun⟩
    refine endi ?_
    rw [decide_eq_true w1,w3]; simp [firstOf]
  ·(conv=>whnf); refine ⟨?_,nofun⟩
   refine endi ?_
   rw [decide_eq_true w1,decide_eq_true (by omega)]; simp [firstOf]
 ·(conv=>whnf); refine ⟨?_,nofun⟩
  refine endi ?_
  rw [decide_eq_false w1]; rfl
theorem S36 (p : Pln) (hp : FewP p) : SP 36 [planA p] (.tuple [planA p,i64 (checkP p).2]) false := by
 have h := S74 p hp
 refine sound (d := 2) tok2 mixed2 Tryz.func36 (by kernel_rfl) (by kernel_rfl) ?_
 (conv=>whnf); refine .inl ⟨_,_,byX rfl (Sound1.pl (h) rfl),?_⟩
 (conv=>whnf); refine ⟨?_,nofun⟩
 exact endPl rfl
theorem S8 (p : Pln) (hp : FewP p) : SP 8 [planA p] (i64 (checkP p).2) false := by
 have h := S35 p hp
 refine sound (d := 2) tok2 mixed2 Tryz.func8 (by kernel_rfl) (by kernel_rfl) ?_
 (conv=>whnf); refine .inl ⟨_,_,byX rfl (Sound1.pl (h) rfl),?_⟩
 (conv=>whnf); refine ⟨?_,nofun⟩
 rfl
theorem S44 (p : Pln) (hp : FewP p) (s : Int × Int) (f : Int × Bool) : SP 44 [planA p,stA s,ftA f] (.tuple [planA p,i64 (openE p s f)]) false := by
 have hn := hp.sig
 have hm := hp.steps
 have h101 := S36 p hp
 have h109 := S58 p hn (by omega) s
 have h103 := S37 p hn f
 refine sound (d := 2) tok2 mixed2 Tryz.func44 (by kernel_rfl) (by kernel_rfl) ?_
 (conv=>whnf); refine .inl ⟨_,_,byX rfl (h101),?_⟩
 (conv=>whnf); refine ifB_beq (fun w1=>?_) (fun w1=>?_)
 ·(conv=>whnf); refine ⟨[],by kernel_rfl,?_⟩
  (conv=>whnf); refine .inl ⟨_,_,byX rfl (Sound1.pl (h109) rfl),?_⟩
  (conv=>whnf); refine .inl ⟨_,_,byX rfl (Sound1.pl (h103) rfl),?_⟩
  (conv=>whnf); refine .inl ⟨_,_,byX rfl (Sound1.pl (S57_2 _ _ ⟨rfl,rfl⟩) rfl),?_⟩
  (conv=>whnf); refine ⟨?_,nofun⟩
  exact endPl (if_pos w1).symm
 ·(conv=>whnf); refine ⟨?_,nofun⟩
  exact endPl (if_neg w1).symm
theorem S24 (p : Pln) (hp : FewP p) (s : Int × Int) (f : Int × Bool) : SP 24 [planA p,stA s,ftA f] (i64 (openE p s f)) false := by
 have hn := hp.sig
 have hm := hp.steps
 have h15 := S8 p hp
 have h60 := S54 p hn (by omega) s
 have h61 := S11 p hn f
 refine sound (d := 2) tok2 mixed2 Tryz.func24 (by kernel_rfl) (by kernel_rfl) ?_
 (conv=>whnf); refine .inl ⟨_,_,byX rfl (Sound1.pl (h15) rfl),?_⟩
 (conv=>whnf); refine ifB_bne (fun w1=>?_) (fun w1=>?_)
 ·(conv=>whnf); refine ⟨?_,nofun⟩
  exact endi (if_neg w1).symm
 ·(conv=>whnf); refine .inl ⟨_,_,byX rfl (Sound1.pl (h60) rfl),?_⟩
  (conv=>whnf); refine ifB_bne (fun w2=>?_) (fun w2=>?_)
  ·(conv=>whnf); refine ⟨?_,nofun⟩
   refine endi (Eq.trans ?_ (if_pos w1).symm)
   rw [first2,if_pos w2]
  ·(conv=>whnf); refine .inl ⟨_,_,byX rfl (Sound1.pl (h61) rfl),?_⟩
   (conv=>whnf); refine ⟨?_,nofun⟩
   refine endi (Eq.trans ?_ (if_pos w1).symm)
   rw [first2,if_neg (not_not_intro w2)]
theorem S17 : SP 17 [] (ftA (-1,false)) false := by
 refine sound (d := 2) tok2 mixed2 Tryz.func17 (by kernel_rfl) (by kernel_rfl) ?_
 (conv=>whnf); refine ⟨?_,nofun⟩
 exact ave_agg2 (k := 4) rfl rfl

def seenB (w : Int) (f : Int × Bool) : Int := if f.1 < 0 then w else if f.2 then bitI .or .i64 w (shlI .i64 1 f.1) else bitI .andNot .i64 w (shlI .i64 1 f.1)
def lacksB (a b : Int) : Bool := decide (¬ bitI .andNot .i64 b a = 0)
def stp (p : Pln) (s : Int × Int) : Stp := p.steps.getD s.1.toNat stp0
def movedW (p : Pln) (s : Int × Int) : Int := bitI .andNot .i64 (bitI .or .i64 s.2 (stp p s).mon) (stp p s).mof
def turnF (p : Pln) (f : Int × Bool) (s : Int × Int) (c : Int) : (Int × Int) × Int :=
 if lacksB (seenB s.2 f) (stp p s).needs then (((stp p s).trip,s.2),1)
 else if (stp p s).wait = 0 then (if c = -1 then s else (c,s.2),1)
 else if lacksB (seenB (movedW p s) f) (stp p s).needs then (((stp p s).trip,movedW p s),(stp p s).time)
 else if lacksB (seenB (movedW p s) f) (stp p s).on || decide (¬ bitI .and .i64 (seenB (movedW p s) f) (stp p s).off = 0) then (((stp p s).back,movedW p s),(stp p s).wait)
 else (((stp p s).next,movedW p s),(stp p s).time)

theorem S79 (w : Int) (f : Int × Bool) : SP 79 [i64 w,ftA f] (i64 (seenB w f)) false := by
 refine sound (d := 2) tok2 mixed2 Tryz.func79 (by kernel_rfl) (by kernel_rfl) ?_
 unfold seenB
 (conv=>whnf); refine ifB_dec (fun w1=>?_) (fun w1=>?_)
 ·(conv=>whnf); refine ⟨?_,nofun⟩
  exact endi (if_pos w1).symm
 ·(conv=>whnf); refine ifB_intro (fun w2=>?_) (fun w2=>?_)
  ·(conv=>whnf); refine ⟨(by omega),?_⟩
   (conv=>whnf); refine ⟨?_,nofun⟩
   exact endi ((if_neg w1).trans (if_pos w2)).symm
  ·(conv=>whnf); refine ⟨(by omega),?_⟩
   (conv=>whnf); refine ⟨?_,nofun⟩
   exact endi ((if_neg w1).trans (if_neg (by rw [w2]; nofun))).symm
theorem S80 (a b : Int) : SP 80 [i64 a,i64 b] (vb (lacksB a b)) false := by
 refine sound (d := 2) tok2 mixed2 Tryz.func80 (by kernel_rfl) (by kernel_rfl) ?_
 (conv=>whnf); refine ⟨?_,nofun⟩
 refine endb ?_
 unfold lacksB
 rw [bne,Bool.eq_iff_iff]
 simp
theorem S78 (p : Pln) (s : Int × Int) (f : Int × Bool) (hs : 0 ≤ s.1 ∧ s.1 < p.steps.length) : SP 78 [planA p,stA s,ftA f] (vb (lacksB (seenB s.2 f) (stp p s).needs)) false := by
 have h90 := S79 s.2 f
 have h122 := S80 (seenB s.2 f) (stp p s).needs
 refine sound (d := 2) tok2 mixed2 Tryz.func78 (by kernel_rfl) (by kernel_rfl) ?_
 (conv=>whnf); refine ⟨[],by kernel_rfl,?_⟩
 (conv=>whnf); refine .inl ⟨_,_,byX rfl (Sound1.pl (h90) rfl),?_⟩
 (conv=>whnf); refine ⟨⟨(by omega),(by omega)⟩,?_⟩
 (conv=>whnf); refine .inl ⟨_,_,byX rfl (Sound1.pl (h122) rfl),?_⟩
 (conv=>whnf); refine ⟨?_,nofun⟩
 rfl
theorem endT {p : Pln} {s : Int × Int} {f : Int × Bool} {c a b t : Int} (h : turnF p f s c = ((a,b),t)) : AVE 5 (.tuple [stA (a,b),i64 t]) (.tuple [stA (turnF p f s c).1,i64 (turnF p f s c).2]) := by
  rw [h]
  exact ave_tup2 (ave_agg2 (k := 3) rfl rfl) (ave_i64 3 rfl)
theorem lk_t {a b : Int} (h : ¬ bitI .andNot .i64 b a = 0) : lacksB a b = true := decide_eq_true h
theorem lk_n {a b : Int} (h : ¬ ¬ bitI .andNot .i64 b a = 0) : ¬ lacksB a b = true := fun e=>h (of_decide_eq_true e)
theorem lk_f {a b : Int} (h : ¬ ¬ bitI .andNot .i64 b a = 0) : lacksB a b = false := decide_eq_false h
theorem S47 (p : Pln) (s : Int × Int) (f : Int × Bool) (c : Int) (hs : 0 ≤ s.1 ∧ s.1 < p.steps.length) : SP 47 [planA p,stA s,ftA f,i64 c] (.tuple [stA (turnF p f s c).1,i64 (turnF p f s c).2]) false := by
 have h119 := S78 p s f hs
 have h90 := S79 (movedW p s) f
 have h122 := S80 (seenB (movedW p s) f)
 have h70 := S63 (stp p s)
 refine sound (d := 2) tok2 mixed2 Tryz.func47 (by kernel_rfl) (by kernel_rfl) ?_
 (conv=>whnf); refine ⟨⟨(by omega),(by omega)⟩,?_⟩
 (conv=>whnf); refine .inl ⟨_,_,byX rfl (Sound1.pl (h119) rfl),?_⟩
 (conv=>whnf); refine ifB_dec (fun w1=>?_) (fun w1=>?_)
 ·(conv=>whnf); refine ⟨?_,nofun⟩
  exact endT (if_pos (lk_t w1))
 ·(conv=>whnf); refine .inl ⟨_,_,byX rfl (Sound1.pl (h70) rfl),?_⟩
  (conv=>whnf); refine ifB_dec (fun w2=>?_) (fun w2=>?_)
  ·(conv=>whnf); refine ifB_bne (fun w3=>?_) (fun w3=>?_)
   ·(conv=>whnf); refine ⟨?_,nofun⟩
    exact endT ((if_neg (lk_n w1)).trans ((if_pos w2).trans (by rw [if_neg w3])))
   ·(conv=>whnf); refine ⟨?_,nofun⟩
    exact endT ((if_neg (lk_n w1)).trans ((if_pos w2).trans (by rw [if_pos w3])))
  ·(conv=>whnf); refine .inl ⟨_,_,byX rfl (Sound1.pl (h90) rfl),?_⟩
   (conv=>whnf); refine .inl ⟨_,_,byX rfl (Sound1.pl (h122 _) rfl),?_⟩
   (conv=>whnf); refine ifB_dec (fun w3=>?_) (fun w3=>?_)
   ·(conv=>whnf); refine ⟨[(2,3)],by kernel_rfl,?_⟩
    (conv=>whnf); refine ⟨?_,nofun⟩
    exact endT ((if_neg (lk_n w1)).trans ((if_neg w2).trans (if_pos (lk_t w3))))
   ·(conv=>whnf); refine .inl ⟨_,_,byX rfl (Sound1.pl (h122 _) rfl),?_⟩
    (conv=>whnf); refine ifB_dec (fun w4=>?_) (fun w4=>?_)
    ·(conv=>whnf); refine ⟨[(2,3)],by kernel_rfl,?_⟩
     (conv=>whnf); refine ⟨?_,nofun⟩
     exact endT ((if_neg (lk_n w1)).trans ((if_neg w2).trans ((if_neg (lk_n w3)).trans (if_pos (Bool.or_eq_true_iff.2 (.inl (lk_t w4)))))))
    ·(conv=>whnf); refine ifB_bne (fun w5=>?_) (fun w5=>?_)
     ·(conv=>whnf); refine ⟨[(2,3)],by kernel_rfl,?_⟩
      (conv=>whnf); refine ⟨?_,nofun⟩
      exact endT ((if_neg (lk_n w1)).trans ((if_neg w2).trans ((if_neg (lk_n w3)).trans (if_pos (Bool.or_eq_true_iff.2 (.inr (decide_eq_true w5)))))))
     ·(conv=>whnf); refine ⟨[(2,3)],by kernel_rfl,?_⟩
      (conv=>whnf); refine ⟨?_,nofun⟩
      exact endT ((if_neg (lk_n w1)).trans ((if_neg w2).trans ((if_neg (lk_n w3)).trans (if_neg fun e=>(Bool.or_eq_true_iff.1 e).elim (lk_n w4) fun e=>(of_decide_eq_true e) w5))))
theorem S88 (p : Pln) (s : Int × Int) (f : Int × Bool) (hs : 0 ≤ s.1 ∧ s.1 < p.steps.length) : SP 88 [planA p,stA s,ftA f] (vb (((stp p s).safe && decide ((stp p s).wait = 0)) && !lacksB (seenB s.2 f) (stp p s).needs)) false := by
 have h119 := S78 p s f hs
 have h100 := S105 (stp p s)
 refine sound (d := 2) tok2 mixed2 Tryz.func88 (by kernel_rfl) (by kernel_rfl) ?_
 (conv=>whnf); refine ⟨⟨(by omega),(by omega)⟩,?_⟩
 (conv=>whnf); refine .inl ⟨_,_,byX rfl (Sound1.pl (h100) rfl),?_⟩
 (conv=>whnf); refine ifB_intro (fun w1=>?_) (fun w1=>?_)
 ·(conv=>whnf); refine .inl ⟨_,_,byX rfl (Sound1.pl (h119) rfl),?_⟩
  (conv=>whnf); refine ⟨?_,nofun⟩
  refine endb ?_
  rw [w1]; rfl
 ·(conv=>whnf); refine ⟨?_,nofun⟩
  refine endb ?_
  rw [w1]; rfl

def homeTurnF (p : Pln) (f : Int × Bool) (s : Int × Int) : Option ((Int × Int) × Int) :=
 if (stp p s).wait = 0 ∧ (stp p s).safe = false ∧ lacksB (seenB s.2 f) (stp p s).needs = false then
  if (stp p s).exits.length = 0 then none else some (turnF p f s (stp p s).home)
 else some (turnF p f s (-1))
def htA : Option ((Int × Int) × Int) → AV
  | none=>.tuple [stA (0,0),i64 0,vb false]
  | some x=>.tuple [stA x.1,i64 x.2,vb true]
theorem endH {p : Pln} {s : Int × Int} {f : Int × Bool} {c : Int} (h : homeTurnF p f s = some (turnF p f s c)) : AVE 5 (.tuple [stA (turnF p f s c).1,i64 (turnF p f s c).2,vb true]) (htA (homeTurnF p f s)) := by
  rw [h]
  exact ave_tup3 (ave_st 2 rfl) rfl rfl
theorem endH0 {p : Pln} {s : Int × Int} {f : Int × Bool} (h : homeTurnF p f s = none) : AVE 5 (.tuple [stA (0,0),i64 0,vb false]) (htA (homeTurnF p f s)) := by
  rw [h]
  exact ave_tup3 (ave_st 2 rfl) rfl rfl
theorem S85 (p : Pln) (s : Int × Int) (f : Int × Bool) (hs : 0 ≤ s.1 ∧ s.1 < p.steps.length) : SP 85 [planA p,stA s,ftA f] (htA (homeTurnF p f s)) false := by
 have h119 := S78 p s f hs
 have h70 := S63 (stp p s)
 have h92 := S47 p s f (-1) hs
 have h92h := S47 p s f (stp p s).home hs
 refine sound (d := 2) tok2 mixed2 Tryz.func85 (by kernel_rfl) (by kernel_rfl) ?_
 (conv=>whnf); refine ⟨⟨(by omega),(by omega)⟩,?_⟩
 (conv=>whnf); refine .inl ⟨_,_,byX rfl (Sound1.pl (h70) rfl),?_⟩
 (conv=>whnf); refine ifB_dec (fun w1=>?_) (fun w1=>?_)
 ·(conv=>whnf); refine ifB_not ?_
  (conv=>whnf); refine ifB_intro (fun w2=>?_) (fun w2=>?_)
  ·(conv=>whnf); refine .inl ⟨_,_,byX rfl (Sound1.pl (h92) rfl),?_⟩
   (conv=>whnf); refine ⟨?_,nofun⟩
   exact endH (if_neg fun h=>Bool.noConfusion (h.2.1.symm.trans w2))
  ·(conv=>whnf); refine .inl ⟨_,_,byX rfl (Sound1.pl (h119) rfl),?_⟩
   (conv=>whnf); refine ifB_not ?_
   (conv=>whnf); refine ifB_dec (fun w3=>?_) (fun w3=>?_)
   ·(conv=>whnf); refine .inl ⟨_,_,byX rfl (Sound1.pl (h92) rfl),?_⟩
    (conv=>whnf); refine ⟨?_,nofun⟩
    exact endH (if_neg fun h=>Bool.noConfusion (h.2.2.symm.trans (lk_t w3)))
   ·(conv=>whnf); refine ifB_beq (fun w4=>?_) (fun w4=>?_)
    ·(conv=>whnf); refine ⟨?_,nofun⟩
     exact endH0 ((if_pos ⟨w1,w2,lk_f w3⟩).trans (if_pos (Int.ofNat.inj w4)))
    ·(conv=>whnf); refine .inl ⟨_,_,byX rfl (Sound1.pl (h92h) rfl),?_⟩
     (conv=>whnf); refine ⟨?_,nofun⟩
     exact endH ((if_pos ⟨w1,w2,lk_f w3⟩).trans (if_neg fun e=>w4 (congrArg Int.ofNat e)))
 ·(conv=>whnf); refine .inl ⟨_,_,byX rfl (Sound1.pl (h92) rfl),?_⟩
  (conv=>whnf); refine ⟨?_,nofun⟩
  exact endH (if_neg fun h=>w1 h.1)

theorem all_range {n : Nat} {P : Nat → Bool} (h : (List.range n).all P = true) {i : Nat} (hi : i < n) : P i = true := List.all_eq_true.1 h i (List.mem_range.2 hi)
theorem bits1' : ((List.range 32).all fun a=>(List.range 32).all fun b=>lacksB (a : Nat) (b : Nat) == !decide (bitI .and .i64 (a : Nat) (b : Nat) = (b : Nat))) = true := by decide +kernel
theorem bits2' : ((List.range 32).all fun w=>(List.range 5).all fun f=>decide (bitI .andNot .i64 (w : Nat) (shlI .i64 1 (f : Nat)) + shlI .i64 1 (f : Nat) = bitI .or .i64 (w : Nat) (shlI .i64 1 (f : Nat)))) = true := by decide +kernel
theorem bits3' : ((List.range 6).all fun n=>(List.range (2 ^ n)).all fun a=>(List.range (2 ^ n)).all fun b =>
    decide (0 ≤ bitI .or .i64 (a : Nat) (b : Nat) ∧ bitI .or .i64 (a : Nat) (b : Nat) < (2 ^ n : Nat) ∧ 0 ≤ bitI .andNot .i64 (a : Nat) (b : Nat) ∧ bitI .andNot .i64 (a : Nat) (b : Nat) < (2 ^ n : Nat))) = true := by decide +kernel
theorem bits1 {a b : Int} (ha : 0 ≤ a ∧ a < 32) (hb : 0 ≤ b ∧ b < 32) : lacksB a b = !decide (bitI .and .i64 a b = b) := by
 have h := all_range (all_range bits1' (i := a.toNat) (by omega)) (i := b.toNat) (by omega)
 rw [show ((a.toNat : Nat) : Int) = a by omega,show ((b.toNat : Nat) : Int) = b by omega] at h
 exact eq_of_beq h
theorem bits2 {w f : Int} (hw : 0 ≤ w ∧ w < 32) (hf : 0 ≤ f ∧ f < 5) : bitI .andNot .i64 w (shlI .i64 1 f) + shlI .i64 1 f = bitI .or .i64 w (shlI .i64 1 f) := by
 have h := all_range (all_range bits2' (i := w.toNat) (by omega)) (i := f.toNat) (by omega)
 rw [show ((w.toNat : Nat) : Int) = w by omega,show ((f.toNat : Nat) : Int) = f by omega] at h
 exact of_decide_eq_true h
theorem pwI {n : Nat} (hn : n ≤ 7) : pw n = ((2 ^ n : Nat) : Int) := by
  match n,hn with
  | 0,_=>rfl | 1,_=>rfl | 2,_=>rfl | 3,_=>rfl | 4,_=>rfl | 5,_=>rfl | 6,_=>rfl | 7,_=>rfl
theorem inS_iff {n : Nat} {x : Int} : inS n x = true ↔ 0 ≤ x ∧ x < pw n := by
 unfold inS
 rw [decide_eq_true_iff]
 omega
theorem inX_iff {m : Nat} {x : Int} : inX m x = true ↔ 0 ≤ x ∧ x < m := by
 unfold inX
 rw [decide_eq_true_iff]
 omega
theorem bits3 {n : Nat} (hn : n ≤ 5) {a b : Int} (ha : inS n a = true) (hb : inS n b = true) : inS n (bitI .or .i64 a b) = true ∧ inS n (bitI .andNot .i64 a b) = true := by
 rw [inS_iff,pwI (by omega)] at ha hb
 have h := all_range (all_range (all_range bits3' (i := n) (by omega)) (i := a.toNat) (by omega)) (i := b.toNat) (by omega)
 rw [show ((a.toNat : Nat) : Int) = a by omega,show ((b.toNat : Nat) : Int) = b by omega] at h
 have h := of_decide_eq_true h
 rw [inS_iff,inS_iff,pwI (by omega)]
 omega
theorem inS_32 {n : Nat} (hn : n ≤ 5) {x : Int} (h : inS n x = true) : 0 ≤ x ∧ x < 32 := by
 rw [inS_iff,pwI (by omega)] at h
 have : (2 ^ n : Nat) ≤ 2 ^ 5 := Nat.pow_le_pow_right (by decide) hn
 omega

structure Good (p : Pln) : Prop where
 few : FewP p
 n : p.sig.length ≤ 5
 m0 : 0 < p.steps.length
 m : p.steps.length ≤ 10
 start : inS p.sig.length p.start = true
 step : ∀ k,k < p.steps.length → stepAt p k = 0
 safe : (p.steps.getD 0 stp0).safe = true ∧ (p.steps.getD 0 stp0).wait = 0
theorem Good.of {p : Pln} (hp : FewP p) (h : (checkP p).2 = 0) : Good p := by
 unfold checkP at h
 split at h
 ·cases h
 rename_i h1
 split at h
 ·rename_i h2; exact absurd h h2
 split at h
 ·rename_i h2; exact absurd h h2
 rename_i hh
 have hh := Decidable.of_not_not hh
 split at h
 ·rename_i h2; exact absurd h h2
 rename_i h3
 have h3 := Decidable.of_not_not h3
 have hl := head_len hh
 rw [head_form] at hh
 split at hh
 ·rename_i h4; exact absurd hh h4
 rename_i h4
 have h4 := Decidable.of_not_not h4
 split at hh
 ·cases hh
 split at hh
 ·cases hh
 refine ⟨hp,by omega,hl,by omega,?_,scan_zero h3,?_⟩
 ·unfold setE at h4
  split at h4
  ·assumption
  ·cases h4
 ·have h : (if ((p.steps.getD 0 stp0).safe && decide ((p.steps.getD 0 stp0).wait = 0)) = true then (0 : Int) else 20) = 0 := h
  split at h
  ·rename_i h5
   rw [Bool.and_eq_true,decide_eq_true_iff] at h5
   exact h5
  ·cases h
structure GoodS (n m : Nat) (s : Stp) : Prop where
 needs : inS n s.needs = true
 trip : inX m s.trip = true
 w0 : 0 ≤ s.wait
 w1 : s.wait ≤ 10000
 steady : s.wait = 0 → (∀ i,i < s.exits.length → inX m (s.exits.getD i 0) = true) ∧ (hasI s.exits s.home = true ∨ s.exits.length = 0)
 moving : s.wait ≠ 0 → inS n s.on = true ∧ inS n s.off = true ∧ inS n s.mon = true ∧ inS n s.mof = true ∧ 1 ≤ s.time ∧ s.time ≤ s.wait ∧ inX m s.next = true ∧ inX m s.back = true
theorem setE0 {n : Nat} {x : Int} (h : setE n x = 0) : inS n x = true := by
 unfold setE at h
 split at h
 ·assumption
 ·cases h
theorem idxE0 {n : Nat} {x : Int} (h : idxE n x = 0) : inX n x = true := by
 unfold idxE at h
 split at h
 ·assumption
 ·cases h
theorem first4_iff {a b c d : Int} : firstOf [a,b,c,d] = 0 ↔ a = 0 ∧ b = 0 ∧ c = 0 ∧ d = 0 := by
 unfold firstOf
 by_cases h : a = 0
 ·rw [if_pos h,first3_iff]; simp [h]
 ·rw [if_neg h]; simp [h]
theorem first2_iff {a b : Int} : firstOf [a,b] = 0 ↔ a = 0 ∧ b = 0 := by
  rw [first2]
  by_cases h : a = 0 <;> simp [h]
theorem Good.at {p : Pln} (h : Good p) {k : Nat} (hk : k < p.steps.length) : GoodS p.sig.length p.steps.length (p.steps.getD k stp0) := by
 have hs : _ = _ := (step_form p (p.steps.getD k stp0) _).symm.trans (h.step k hk)
 split at hs
 ·rename_i h1; exact absurd hs h1
 rename_i h1
 have h1 := Decidable.of_not_not h1
 rw [first3_iff] at h1
 split at hs
 case isFalse=>cases hs
 rename_i hw
 refine ⟨setE0 h1.2.1,idxE0 h1.2.2,hw.1,hw.2,fun h0=>?_,fun h0=>?_⟩
 ·rw [if_pos h0] at hs
  unfold steadyE at hs
  split at hs
  ·cases hs
  split at hs
  ·rename_i h2; exact absurd hs h2
  rename_i h2
  have h2 := scan_zero (Decidable.of_not_not h2)
  refine ⟨fun i hi=>?_,?_⟩
  ·have h3 := h2 i hi
   unfold exAt at h3
   split at h3
   ·rename_i h4; exact absurd h3 h4
   ·rename_i h4; exact idxE0 (Decidable.of_not_not h4)
  ·split at hs
   ·rename_i h4
    rw [Bool.or_eq_true,Bool.and_eq_true,decide_eq_true_iff] at h4
    exact h4.imp id And.left
   ·cases hs
 ·rw [if_neg h0,moving_form] at hs
  split at hs
  ·cases hs
  split at hs
  ·cases hs
  split at hs
  ·cases hs
  split at hs
  ·rename_i h2; exact absurd hs h2
  rename_i h2
  have h2 := Decidable.of_not_not h2
  rw [first4_iff] at h2
  split at hs
  ·cases hs
  split at hs
  ·cases hs
  split at hs
  ·rename_i ht
   rw [first2_iff] at hs
   exact ⟨setE0 h2.1,setE0 h2.2.1,setE0 h2.2.2.1,setE0 h2.2.2.2,ht.1,ht.2,idxE0 hs.1,idxE0 hs.2⟩
  ·cases hs
end Go.Tr

/- Contracts of chapter 7: turns of the reference. Conditions: none. -/
namespace Go.Tr
open Go Go.Proofs
set_option maxRecDepth 20000
set_option maxHeartbeats 8000000

def OkS (p : Pln) (s : Int × Int) : Prop := inX p.steps.length s.1 = true ∧ inS p.sig.length s.2 = true
def OkF (p : Pln) (f : Int × Bool) : Prop := -1 ≤ f.1 ∧ f.1 < p.sig.length
def OkC (p : Pln) (c : Int) : Prop := c = -1 ∨ inX p.steps.length c = true
theorem state_ok {p : Pln} {s : Int × Int} : stateE p s = 0 ↔ OkS p s := by
 unfold stateE
 rw [first2_iff]
 refine ⟨fun h=>⟨idxE0 h.1,setE0 h.2⟩,fun h=>⟨?_,?_⟩⟩
 ·unfold idxE; rw [if_pos h.1]
 ·unfold setE; rw [if_pos h.2]
theorem fault_ok {p : Pln} {f : Int × Bool} (h : faultE p f = 0) : OkF p f := by
 unfold faultE at h
 rw [first2_iff] at h
 by_cases h1 : -1 ≤ f.1 ∧ f.1 ≤ (p.sig.length : Int) - 1
 ·exact ⟨h1.1,by omega⟩
 ·rw [decide_eq_false h1] at h; cases h.1
theorem OkS.at {p : Pln} {s : Int × Int} (h : OkS p s) : 0 ≤ s.1 ∧ s.1 < p.steps.length := inX_iff.1 h.1
theorem OkS.k {p : Pln} {s : Int × Int} (h : OkS p s) : s.1.toNat < p.steps.length := by have := h.at; omega
theorem Good.stp {p : Pln} (hg : Good p) {s : Int × Int} (h : OkS p s) : GoodS p.sig.length p.steps.length (stp p s) := hg.at h.k
theorem seen_ok {p : Pln} (hg : Good p) {w : Int} {f : Int × Bool} (hw : inS p.sig.length w = true) (hf : OkF p f) : inS p.sig.length (seenB w f) = true := by
 unfold seenB
 split
 ·exact hw
 rename_i h
 have hb : inS p.sig.length (shlI .i64 1 f.1) = true := by
  have hn := hg.n
  have h1 := hf.1
  have h2 := hf.2
  rw [inS_iff,pwI (by omega)]
  have key : ∀ n : Nat,n ≤ 5 → ∀ i : Nat,i < n → 0 ≤ shlI .i64 1 (i : Nat) ∧ shlI .i64 1 (i : Nat) < ((2 ^ n : Nat) : Int) := by
   have h : ((List.range 6).all fun n=>(List.range n).all fun i=>decide (0 ≤ shlI .i64 1 (i : Nat) ∧ shlI .i64 1 (i : Nat) < ((2 ^ n : Nat) : Int))) = true := by decide +kernel
   intro n hn i hi
   exact of_decide_eq_true (all_range (all_range h (i := n) (by omega)) hi)
  have := key p.sig.length hn f.1.toNat (by omega)
  rwa [show ((f.1.toNat : Nat) : Int) = f.1 by omega] at this
 split
 ·exact (bits3 hg.n hw hb).1
 ·exact (bits3 hg.n hw hb).2
theorem moved_ok {p : Pln} (hg : Good p) {s : Int × Int} (h : OkS p s) (hw : (stp p s).wait ≠ 0) : inS p.sig.length (movedW p s) = true := by
  have hm := (hg.stp h).moving hw
  exact (bits3 hg.n (bits3 hg.n h.2 hm.2.2.1).1 hm.2.2.2.1).2
theorem turn_ok {p : Pln} (hg : Good p) {s : Int × Int} {f : Int × Bool} {c : Int} (h : OkS p s) (hc : OkC p c) : OkS p (turnF p f s c).1 ∧ 1 ≤ (turnF p f s c).2 ∧ (turnF p f s c).2 ≤ 10000 := by
 have hs := hg.stp h
 unfold turnF
 split
 ·exact ⟨⟨hs.trip,h.2⟩,Int.le_refl 1,by show (1 : Int) ≤ 10000; omega⟩
 split
 ·refine ⟨?_,Int.le_refl 1,by show (1 : Int) ≤ 10000; omega⟩
  show OkS p (if c = -1 then s else (c,s.2))
  split
  ·exact h
  ·rename_i h1 h2
   exact ⟨hc.resolve_left h2,h.2⟩
 rename_i h1 h2
 have hw := moved_ok hg h h2
 have hm := hs.moving h2
 have hle := hs.w1
 split
 ·exact ⟨⟨hs.trip,hw⟩,hm.2.2.2.2.1,Int.le_trans hm.2.2.2.2.2.1 hle⟩
 split
 ·exact ⟨⟨hm.2.2.2.2.2.2.2,hw⟩,Int.le_trans hm.2.2.2.2.1 hm.2.2.2.2.2.1,hle⟩
 ·exact ⟨⟨hm.2.2.2.2.2.2.1,hw⟩,hm.2.2.2.2.1,Int.le_trans hm.2.2.2.2.2.1 hle⟩
theorem hasI_mem {l : List Int} {x : Int} : hasI l x = true ↔ x ∈ l := by
 unfold hasI
 rw [List.any_eq_true]
 exact ⟨fun ⟨y,h1,h2⟩=>by rw [← eq_of_beq h2]; exact h1,fun h=>⟨x,h,by simp⟩⟩
theorem exit_ok {p : Pln} (hg : Good p) {s : Int × Int} (h : OkS p s) (hw : (stp p s).wait = 0) {c : Int} (hc : hasI (stp p s).exits c = true) : inX p.steps.length c = true := by
 obtain ⟨i,hi,e⟩ := List.getElem_of_mem (hasI_mem.1 hc)
 have := ((hg.stp h).steady hw).1 i hi
 rwa [show (stp p s).exits.getD i 0 = c by simp [List.getD,hi,e]] at this
theorem home_ok {p : Pln} (hg : Good p) {s : Int × Int} {f : Int × Bool} (h : OkS p s) {x : (Int × Int) × Int} (hx : homeTurnF p f s = some x) : OkS p x.1 ∧ 1 ≤ x.2 ∧ x.2 ≤ 10000 := by
 unfold homeTurnF at hx
 split at hx
 ·rename_i h1
  split at hx
  ·cases hx
  ·rename_i h2
   cases hx
   exact turn_ok hg h (.inr (exit_ok hg h h1.1 (((hg.stp h).steady h1.1).2.resolve_right h2)))
 ·cases hx
  exact turn_ok hg h (.inl rfl)

theorem S83 (a b : Int) (ha : 0 ≤ a ∧ a < 32) (hb : 0 ≤ b ∧ b < 32) : SP 83 [i64 a,i64 b] (vb (!lacksB a b)) false := by
 refine sound (d := 2) tok2 mixed2 Tryz.func83 (by kernel_rfl) (by kernel_rfl) ?_
 rw [bits1 ha hb]
 (conv=>whnf); refine ⟨?_,nofun⟩
 refine endb ?_
 rw [Bool.not_not]; rfl
theorem S84 (p : Pln) (hg : Good p) (w : Int) (f : Int × Bool) (hw : inS p.sig.length w = true) (hf : OkF p f) : SP 84 [i64 w,ftA f] (i64 (seenB w f)) false := by
 have h32 := inS_32 hg.n hw
 have hn := hg.n
 have h1 := hf.1
 have h2 := hf.2
 have hk := seen_ok hg hw hf
 have hk32 := inS_32 hg.n hk
 have hb := bits2 (w := w) (f := f.1) h32
 unfold seenB at hk32 ⊢
 refine sound (d := 2) tok2 mixed2 Tryz.func84 (by kernel_rfl) (by kernel_rfl) ?_
 (conv=>whnf); refine ifB_dec (fun w1=>?_) (fun w1=>?_)
 ·(conv=>whnf); refine ⟨?_,nofun⟩
  exact endi (if_pos w1).symm
 ·(conv=>whnf); refine ⟨(by omega),?_⟩
  (conv=>whnf); refine ifB_intro (fun w2=>?_) (fun w2=>?_)
  ·(conv=>whnf); refine ⟨(by omega),?_⟩
   (conv=>whnf); refine ⟨?_,?_⟩
   ·rw [hb ⟨by omega,by omega⟩]
    rw [if_neg w1,if_pos w2] at hk32
    exact inK64 (by omega) (by omega)
   ·(conv=>whnf); refine ⟨?_,nofun⟩
    refine endi (Eq.trans ?_ ((if_neg w1).trans (if_pos w2)).symm)
    exact hb ⟨by omega,by omega⟩
  ·(conv=>whnf); refine ⟨?_,nofun⟩
   exact endi ((if_neg w1).trans (if_neg (by rw [w2]; nofun))).symm
theorem S46 (s : Stp) (c : Int) (hx : s.exits.length ≤ 1000) : SP 46 [stepA s,i64 c] (vb (decide (c = -1) || (decide (s.wait = 0) && hasI s.exits c))) false := by
 have h94 := S77 s.exits (by omega) c
 have h70 := S63 s
 refine sound (d := 2) tok2 mixed2 Tryz.func46 (by kernel_rfl) (by kernel_rfl) ?_
 (conv=>whnf); refine ifB_beq (fun w1=>?_) (fun w1=>?_)
 ·(conv=>whnf); refine ⟨?_,nofun⟩
  refine endb ?_
  rw [decide_eq_true w1]; rfl
 ·(conv=>whnf); refine .inl ⟨_,_,byX rfl (Sound1.pl (h70) rfl),?_⟩
  (conv=>whnf); refine ifB_dec (fun w2=>?_) (fun w2=>?_)
  ·(conv=>whnf); refine .inl ⟨_,_,byX rfl (Sound1.pl (h94) rfl),?_⟩
   (conv=>whnf); refine ⟨?_,nofun⟩
   refine endb ?_
   rw [decide_eq_false w1,decide_eq_true w2,Bool.true_and]; rfl
  ·(conv=>whnf); refine ⟨?_,nofun⟩
   refine endb ?_
   rw [decide_eq_false w1,decide_eq_false w2]; rfl
theorem wait_home {p : Pln} (hg : Good p) {s : Int × Int} (hs : OkS p s) (h : (stp p s).safe = true) : (stp p s).wait = 0 := by
 by_cases hw : (stp p s).wait = 0
 ·exact hw
 ·have h1 := hg.step _ hs.k
  exfalso
  have h2 : _ = _ := (step_form p (stp p s) _).symm.trans h1
  split at h2
  ·rename_i h3; exact absurd h2 h3
  split at h2
  ·have h4 : movingE p.sig.length p.steps.length (stp p s) = 0 := h2
   rw [moving_form,if_pos h] at h4; cases h4
  ·cases h2
def homeB (p : Pln) (f : Int × Bool) (s : Int × Int) : Bool := ((stp p s).safe && decide ((stp p s).wait = 0)) && !lacksB (seenB s.2 f) (stp p s).needs
theorem S55 (p : Pln) (hg : Good p) (s : Int × Int) (f : Int × Bool) (hs : OkS p s) (hf : OkF p f) : SP 55 [planA p,stA s,ftA f] (vb (homeB p f s)) false := by
 have hat := hs.at
 have hgs := hg.stp hs
 have h1 := S84 p hg s.2 f hs.2 hf
 have h2 := S83 (seenB s.2 f) (stp p s).needs (inS_32 hg.n (seen_ok hg hs.2 hf)) (inS_32 hg.n hgs.needs)
 refine sound (d := 2) tok2 mixed2 Tryz.func55 (by kernel_rfl) (by kernel_rfl) ?_
 (conv=>whnf); refine ⟨[],by kernel_rfl,?_⟩
 (conv=>whnf); refine ⟨⟨(by omega),(by omega)⟩,?_⟩
 (conv=>whnf); refine ifB_intro (fun w1=>?_) (fun w1=>?_)
 ·(conv=>whnf); refine .inl ⟨_,_,byX rfl (Sound1.pl (h1) rfl),?_⟩
  (conv=>whnf); refine ⟨⟨(by omega),(by omega)⟩,?_⟩
  (conv=>whnf); refine .inl ⟨_,_,byX rfl (Sound1.pl (h2) rfl),?_⟩
  (conv=>whnf); refine ⟨?_,nofun⟩
  have w1 : (stp p s).safe = true := w1
  refine endb ?_
  unfold homeB
  rw [w1,decide_eq_true (wait_home hg hs w1)]; rfl
 ·(conv=>whnf); refine ⟨?_,nofun⟩
  have w1 : (stp p s).safe = false := w1
  refine endb ?_
  unfold homeB
  rw [w1]; rfl
end Go.Tr

/- Plain laws of chapter 7: turn after turn. Conditions: none. -/
namespace Go.Tr
open Go Go.Proofs
set_option maxRecDepth 20000
set_option maxHeartbeats 8000000

abbrev S2 := Int × Int
def goA (stop : S2 → Bool) (step : S2 → Option (S2 × Int)) : Nat → S2 → List S2 → Int → Option (List S2 × Int)
  | 0,_,_,_=>none
  | n + 1,s,l,t=>if stop s then some (l,t) else match step s with | none=>none | some x=>goA stop step n x.1 (l ++ [x.1]) (t + x.2)
def goT (stop : S2 → Bool) (step : S2 → Option (S2 × Int)) : Nat → S2 → Bool
  | 0,_=>false
  | n + 1,s=>stop s || match step s with | none=>false | some x=>goT stop step n x.1
section
variable {stop : S2 → Bool} {step : S2 → Option (S2 × Int)}
theorem goA_T : ∀ (f : Nat) (s : S2) (l : List S2) (t : Int),(goA stop step f s l t).isSome = goT stop step f s
 | 0,_,_,_=>rfl
 | f + 1, s, l, t => by
  unfold goA goT
  cases h : stop s with
  | true=>simp
  | false =>
   cases hs : step s with
   | none=>simp
   | some x=>simpa using goA_T f x.1 _ _
theorem goA_none {f : Nat} {s : S2} {l : List S2} {t : Int} (h : goT stop step f s = false) : goA stop step f s l t = none := by
 have := goA_T (stop := stop) (step := step) f s l t
 rw [h] at this
 exact Option.isNone_iff_eq_none.1 (by cases hx : goA stop step f s l t <;> simp_all)
theorem goA_mono : ∀ (f d : Nat) (s : S2) (l : List S2) (t : Int) (r : List S2 × Int),goA stop step f s l t = some r → goA stop step (f + d) s l t = some r
 | 0,d,s,l,t,r,h=>by cases h
 | f + 1, d, s, l, t, r, h => by
  rw [show f + 1 + d = (f + d) + 1 by omega]
  unfold goA at h ⊢
  split
  ·rename_i hs; rw [if_pos hs] at h; exact h
  ·rename_i hs
   rw [if_neg hs] at h
   cases hx : step s with
   | none=>rw [hx] at h; cases h
   | some x =>
    rw [hx] at h
    exact goA_mono f d _ _ _ r h
theorem goT_mono {f d : Nat} {s : S2} (h : goT stop step f s = true) : goT stop step (f + d) s = true := by
 rw [← goA_T f s [] 0] at h
 obtain ⟨r,hr⟩ := Option.isSome_iff_exists.1 h
 rw [← goA_T (f + d) s [] 0,goA_mono f d s [] 0 r hr]; rfl
theorem goT_cycle {s : S2} {j : Nat} (hj : 1 ≤ j) (h : ∀ f,goT stop step (j + f) s = goT stop step f s) (f : Nat) : goT stop step f s = false := by
 have key : ∀ i,goT stop step (j * i) s = false := by
  intro i
  induction i with
  | zero=>rfl
  | succ i ih=>rw [Nat.mul_succ,Nat.add_comm,h,ih]
 cases hf : goT stop step f s with
 | false=>rfl
 | true =>
  have : f ≤ j * f := Nat.le_mul_of_pos_left f hj
  have h2 := goT_mono (d := j * f - f) hf
  rw [show f + (j * f - f) = j * f by omega,key] at h2
  cases h2
def Met (stop : S2 → Bool) (step : S2 → Option (S2 × Int)) (s : S2) (been : List S2) : Prop := ∀ x ∈ been,∃ j,1 ≤ j ∧ ∀ f,goT stop step (j + f) x = goT stop step f s
theorem Met.nil (s : S2) : Met stop step s [] := fun x hx=>by cases hx
theorem Met.next {s : S2} {been : List S2} (h : Met stop step s been) (hs : stop s = false) {x : S2 × Int} (hx : step s = some x) : Met stop step x.1 (been ++ [s]) := by
 have hu : ∀ f,goT stop step (f + 1) s = goT stop step f x.1 := fun f=>by
  show (stop s || match step s with | none=>false | some x=>goT stop step f x.1) = _
  rw [hs,hx]; rfl
 intro y hy
 rcases List.mem_append.1 hy with h1 | h1
 ·obtain ⟨j,hj,h2⟩ := h y h1
  exact ⟨j + 1,by omega,fun f=>by rw [show j + 1 + f = j + (f + 1) by omega,h2,hu]⟩
 ·rw [List.mem_singleton.1 h1]
  exact ⟨1,Nat.le_refl 1,fun f=>by rw [Nat.add_comm 1 f,hu]⟩
theorem Met.again {s : S2} {been : List S2} (h : Met stop step s been) (hm : s ∈ been) (f : Nat) : goT stop step f s = false := by
  obtain ⟨j,hj,h2⟩ := h s hm
  exact goT_cycle hj h2 f
theorem goT_stable {Ok : S2 → Prop} (hOk : ∀ s x,Ok s → step s = some x → Ok x.1) {N : Nat} (hN : ∀ l : List S2,l.Nodup → (∀ x ∈ l,Ok x) → l.length ≤ N) : ∀ (f : Nat) (s : S2) (been : List S2),been.Nodup → (∀ x ∈ been,Ok x) → Ok s → Met stop step s been →
  goT stop step f s = true → goT stop step (N + 1 - been.length) s = true
 | 0,_,_,_,_,_,_,h=>by cases h
 | f + 1, s, been, hnd, hb, hs, hm, h => by
  have hl := hN been hnd hb
  rw [show N + 1 - been.length = (N - been.length) + 1 by omega]
  have h0 := h
  unfold goT at h ⊢
  cases hst : stop s with
  | true=>rfl
  | false =>
   rw [hst] at h
   cases hx : step s with
   | none=>rw [hx] at h; cases h
   | some x =>
    rw [hx] at h
    have hns : s ∉ been := fun hmem=>by rw [hm.again hmem] at h0; cases h0
    have := goT_stable hOk hN f x.1 (been ++ [s]) (by
     rw [List.nodup_append]
     exact ⟨hnd,by simp,fun a ha b hb2 e=>hns (by rw [← List.mem_singleton.1 hb2,← e]; exact ha)⟩) (fun y hy=>by
     rcases List.mem_append.1 hy with h1 | h1
     ·exact hb y h1
     ·rw [List.mem_singleton.1 h1]; exact hs) (hOk s x hs hx) (hm.next hst hx) h
    rw [show N + 1 - (been ++ [s]).length = N - been.length by simp] at this
    simpa using this
end

theorem nodup_len : ∀ (n : Nat) (l : List Nat),l.Nodup → (∀ x ∈ l,x < n) → l.length ≤ n
 | 0,[],_,_=>Nat.le_refl 0
 | 0,x :: r,_,h=>absurd (h x (List.mem_cons_self ..)) (Nat.not_lt_zero x)
 | n + 1, l, hn, h => by
  have h1 := nodup_len n (l.filter fun x=>x != n) (hn.sublist (List.filter_sublist ..)) fun x hx=>by
   have h2 := List.mem_filter.1 hx
   have := h x h2.1
   have h3 : x ≠ n := by simpa using h2.2
   omega
  have h2 : l.length ≤ (l.filter fun x=>x != n).length + 1 := by
   clear h1 h
   induction l with
   | nil=>simp
   | cons y r ih =>
    rw [List.filter_cons]
    have hr := (List.nodup_cons.1 hn)
    by_cases hy : y = n
    ·subst hy
     have hf : r.filter (fun x=>x != y) = r := List.filter_eq_self.2 fun x hx=>by
      have : x ≠ y := fun e=>hr.1 (e ▸ hx)
      simpa using this
     simp [hf]
    ·have := ih hr.2
     simp [hy]; omega
  omega
def allN (p : Pln) : Nat := 2 ^ p.sig.length * p.steps.length
theorem states_le {p : Pln} (hg : Good p) (l : List S2) (hn : l.Nodup) (h : ∀ x ∈ l,OkS p x) : l.length ≤ allN p := by
 have hp : 0 < 2 ^ p.sig.length := Nat.two_pow_pos _
 have hco : ∀ x,OkS p x → (0 ≤ x.1 ∧ x.1 < p.steps.length) ∧ 0 ≤ x.2 ∧ x.2 < ((2 ^ p.sig.length : Nat) : Int) := fun x hx=>by
  have h1 := inX_iff.1 hx.1
  have h2 := inS_iff.1 hx.2
  rw [pwI (by have := hg.n; omega)] at h2
  exact ⟨h1,h2⟩
 have key := nodup_len (allN p) (l.map fun x=>x.1.toNat * 2 ^ p.sig.length + x.2.toNat) ?_ ?_
 ·simpa using key
 ·unfold List.Nodup at hn ⊢
  rw [List.pairwise_map]
  refine List.Pairwise.imp_of_mem (fun {a b} ha hb hab e=>?_) hn
  have h1 := hco a (h a ha)
  have h2 := hco b (h b hb)
  have e1 : a.2.toNat = b.2.toNat := by
   have := congrArg (· % 2 ^ p.sig.length) e
   simp only [Nat.mul_add_mod_self_right] at this
   rwa [Nat.mod_eq_of_lt (by omega),Nat.mod_eq_of_lt (by omega)] at this
  have e2 : a.1.toNat = b.1.toNat := by
   rw [e1] at e
   exact Nat.eq_of_mul_eq_mul_right hp (Nat.add_right_cancel e)
  exact hab (Prod.ext (by omega) (by omega))
 ·intro x hx
  obtain ⟨y,hy,rfl⟩ := List.mem_map.1 hx
  have h1 := hco y (h y hy)
  unfold allN
  have : y.1.toNat + 1 ≤ p.steps.length := by omega
  have := Nat.mul_le_mul_right (2 ^ p.sig.length) this
  rw [Nat.add_mul] at this
  have e := Nat.mul_comm p.steps.length (2 ^ p.sig.length)
  omega

def stopS (p : Pln) (s : S2) : Bool := decide ((stp p s).wait = 0)
def stepS (p : Pln) (f : Int × Bool) (s : S2) : Option (S2 × Int) := some (turnF p f s (-1))
def settledF (p : Pln) (f : Int × Bool) (s : S2) (l : List S2) (t : Int) : Option (List S2 × Int) := goA (stopS p) (stepS p f) (allN p + 1) s l t
def commandF (p : Pln) (f : Int × Bool) (s : S2) (c : Int) : Option (List S2 × Int) := settledF p f (turnF p f s c).1 [(turnF p f s c).1] (turnF p f s c).2
def homeF (p : Pln) (f : Int × Bool) (s : S2) : Option (List S2 × Int) := goA (homeB p f) (homeTurnF p f) (allN p + 1) s [] 0
end Go.Tr

/- Contracts of chapter 7: settled, and home. Conditions: none. -/
namespace Go.Tr
open Go Go.Proofs
set_option maxRecDepth 20000
set_option maxHeartbeats 8000000

def decL : List Value → Option S2
  | [.int _ a,.int _ b]=>some (a,b)
  | _=>none
def decS : Value → Option S2
  | .agg l=>decL l.toList
  | _=>none
def hasM (B : S2 → Bool) (v : Value) : Bool := match decS v with | some x=>B x | none=>false
def keyV (s : S2) : Value := .agg #[.int .i64 s.1,.int .i64 s.2]
theorem keyL (L : List Value) (s : S2) : vEqL L [.int .i64 s.1,.int .i64 s.2] = match decL L with | some x=>decide (x = s) | none=>false := by
 match L with
 | []=>rfl
 | [x]=>cases x <;> simp [vEqL,decL]
 | [x,y] =>
  cases x <;> cases y <;> simp [vEqL,decL]
  rw [Bool.eq_iff_iff]
  simp [Prod.ext_iff]
 | x :: y :: z :: r =>
  cases x <;> cases y <;> simp [vEqL,decL]
theorem keyD (v : Value) (s : S2) : opEv.keyEq v (keyV s) = hasM (fun x=>decide (x = s)) v := by
 cases v with
 | agg l=>exact keyL l.toList s
 | _=>rfl
theorem hasM_or (B C : S2 → Bool) (v : Value) : Bool.or (hasM B v) (hasM C v) = hasM (fun x=>B x || C x) v := by
  unfold hasM
  cases decS v <;> rfl
theorem hasM_nil (v : Value) : hasM (fun x=>decide (x ∈ ([] : List S2))) v = false := by
 unfold hasM
 cases decS v with
 | none=>rfl
 | some x=>simp
theorem hasM_put (been : List S2) (s : S2) (v : Value) : Bool.or (hasM (fun x=>decide (x ∈ been)) v) (opEv.keyEq v (keyV s)) = hasM (fun x=>decide (x ∈ been ++ [s])) v := by
 rw [keyD,hasM_or]
 congr 1
 funext x
 rw [Bool.eq_iff_iff]
 simp
theorem hasM_vb (been : List S2) (s : S2) (v : Value) : (bif opEv.keyEq v (keyV s) then vb true else vb (hasM (fun x=>decide (x ∈ been)) v)) = vb (hasM (fun x=>decide (x ∈ been ++ [s])) v) := by
 rw [← hasM_put]
 cases opEv.keyEq v (keyV s) <;> simp

def stC (s : S2) : List AV := [i64 s.1,i64 s.2]
def sts (l : List S2) : AV := .rslice 2 l.length fun i=>stC (l.getD i (0,0))
def runA : Option (List S2 × Int) → AV
  | none=>.tuple [sts [],i64 0,vb false]
  | some x=>.tuple [sts x.1,i64 x.2,vb true]
section
variable {stop : S2 → Bool} {step : S2 → Option (S2 × Int)}
theorem goA_stop {n : Nat} {s : S2} {l : List S2} {t : Int} (h : stop s = true) : goA stop step (n + 1) s l t = some (l,t) := by
  unfold goA
  rw [h]; rfl
theorem goA_step {n : Nat} {s : S2} {l : List S2} {t : Int} (h : stop s = false) {x : S2 × Int} (hx : step s = some x) : goA stop step (n + 1) s l t = goA stop step n x.1 (l ++ [x.1]) (t + x.2) := by
  conv=>lhs; unfold goA
  rw [h,hx]; rfl
end
theorem allN_le {p : Pln} (hg : Good p) : allN p ≤ 320 := by
 have h1 : 2 ^ p.sig.length ≤ 2 ^ 5 := Nat.pow_le_pow_right (by decide) hg.n
 have := Nat.mul_le_mul h1 hg.m
 unfold allN
 omega
theorem ave_run0 {x : Option (List S2 × Int)} (h : x = none) : AVE 5 (.tuple [.eslice,i64 0,vb false]) (runA x) := by
  rw [h]
  exact ave_tup3 rfl rfl rfl
theorem sts_row {l : List S2} {n : Nat} (hn : l.length = n) (x : S2) (i : Nat) (h : i < n + 1) : stC ((l ++ [x]).getD i (0,0)) = if i < n then stC (l.getD (0 + i) (0,0)) else List.take 2 (List.drop ((i - n) * 2) (stC x)) := by
 subst hn
 rw [Nat.zero_add]
 by_cases hi : i < l.length
 ·rw [if_pos hi]; simp [List.getD_eq_getElem?_getD,hi,List.getElem?_append_left hi]
 ·have : i = l.length := by omega
  subst this
  rw [if_neg hi]; simp [List.getD_eq_getElem?_getD,stC]
abbrev lastS (k : Nat) (l : List S2) : S2 := l.getD (0 + (((k + 1 : Nat) : Int) - 1).toNat) (0,0)
theorem lastS_app {k : Nat} {l : List S2} (hn : l.length = k + 1) (x : S2) : lastS (k + 1) (l ++ [x]) = x := by
 unfold lastS
 rw [show 0 + (((k + 1 + 1 : Nat) : Int) - 1).toNat = l.length by omega]
 simp
theorem S94 (p : Pln) (hg : Good p) (f : Int × Bool) (s0 : S2) (c : Int) (hs0 : OkS p s0) (hc : OkC p c) : SP 94 [planA p,stA s0,ftA f,i64 c] (runA (commandF p f s0 c)) false := by
 have hat0 := hs0.at
 have h0 := S47 p s0 f c hat0
 have hok0 := turn_ok hg hs0 (f := f) hc
 unfold commandF
 generalize (turnF p f s0 c).1 = s1 at h0 hok0
 generalize (turnF p f s0 c).2 = t0 at h0 hok0
 generalize hR : settledF p f s1 [s1] t0 = R
 refine sound (d := 2) tok2 mixed2 Tryz.func94 (by kernel_rfl) (by kernel_rfl) ?_
 (conv=>whnf); refine .inl ⟨_,_,byX rfl (Sound1.pl (h0) rfl),?_⟩
 (conv=>whnf); refine .inr (.inl ⟨[],?_⟩)
 (conv=>whnf); refine ⟨[.uncap 1,.forget [23]],[1,3,4,6,11],fun st mq=>∃ (k : Nat) (l : List S2) (t : Int) (been : List S2) (F1 : Nat → List AV) (F2 : Nat → List AV) (F3 : Nat → List AV),(l.length = k + 1) ∧ (OkS p (lastS k l)) ∧ (been.Nodup) ∧ (∀ x ∈ been,OkS p x) ∧ (Met (stopS p) (stepS p f) (lastS k l) been) ∧ (been.length = k) ∧ (0 ≤ t ∧ t ≤ 10000 * ((k : Int) + 1)) ∧ (∀ f',goA (stopS p) (stepS p f) (k + f') s1 [s1] t0 = goA (stopS p) (stepS p f) f' (lastS k l) l t) ∧ st = ⟨[(1,.oslice 4 0 0 (k + 1) none),(3,i64 t),(4,.optr 5 0 0 0),(6,.optr 6 0 0 0),(11,.omap 0)],⟨[⟨3,1,fun _=>planC p,0,false,true,true⟩,⟨2,1,F1,0,false,true,false⟩,⟨2,1,F2,0,false,true,false⟩,⟨2,1,F3,0,false,true,false⟩,⟨2,k + 1,fun i=>stC (l.getD i (0,0)),0,false,true,false⟩,⟨3,1,fun _=>planC p,0,false,true,true⟩,⟨2,1,fun _=>[i64 f.1,vb f.2],0,false,true,true⟩],[⟨.agg [.int .i64,.int .i64],4,hasM fun x=>decide (x ∈ been),fun v=>vb (hasM (fun x=>decide (x ∈ been)) v),false,none,0,.top⟩],none,0⟩,[(25,i64 t0),(24,ftA f),(22,stA s1),(21,planA p),(12,i64 t0),(11,.optr 3 0 0 0),(20,i64 t0),(19,stA s1),(13,.tuple [stA s1,i64 t0]),(18,.tuple [stA s1,i64 t0]),(17,i64 c),(16,ftA f),(15,stA s0),(14,planA p),(10,vb false),(9,i64 0),(8,.eslice),(6,.optr 2 0 0 0),(5,.optr 1 0 0 0),(4,.optr 0 0 0 0),(0,planA p),(1,stA s0),(2,ftA f),(3,i64 c)]⟩ ∧ mq = allN p + 1 - k,
  ⟨_,_,⟨0,[s1],t0,[],_,_,_,rfl,(by simpa [lastS] using hok0.1),by simp,(fun x hx=>by cases hx),Met.nil _,rfl,by omega,(fun f'=>by simp [lastS]),rfl,rfl⟩,⟨⟨.inl rfl,rfl,rfl,rfl⟩,⟨bA,⟨bA,⟨bA,⟨bA,⟨⟨rfl,rfl,rfl,rfl,fun _=>rfl,fun i h=>.inl ((by cases (Nat.lt_one_iff.1 h); rfl))⟩,⟨bA,⟨bA,trivial⟩⟩⟩⟩⟩⟩⟩,⟨⟨rfl,rfl,rfl,trivial,.inl rfl,fun v=>And.imp id Or.inl (⟨hasM_nil v,congrArg (fun b=>vb b) (hasM_nil v)⟩)⟩,trivial⟩⟩⟩,?_⟩
 rintro s0 m0 ⟨k,l,t,been,F1,F2,F3,hn,hs,hbn,hbo,hm,hk,ht,hR1,rfl,hmeas⟩
 have hN := states_le hg been hbn hbo
 have hA := allN_le hg
 have hRk : R = goA (stopS p) (stepS p f) (allN p - k + 1) (lastS k l) l t := by
  rw [← hR,← hR1,show k + (allN p - k + 1) = allN p + 1 by omega]; rfl
 have h70 := S63 (stp p (lastS k l))
 have h92 := S47 p (lastS k l) f (-1) hs.at
 have hok := turn_ok hg hs (f := f) (c := -1) (.inl rfl)
 have hb27 : Tryz.prog.types[41].bytes = 16 := by kernel_rfl
 conv=>whnf
 (conv=>whnf); refine ⟨inK64 (by omega) (by omega),?_⟩
 conv=>whnf
 (conv=>whnf); refine ⟨⟨(by omega),(by omega)⟩,?_⟩
 conv=>whnf
 (conv=>whnf); refine ⟨?_,?_⟩
 ·exact hs.at
 ·conv=>whnf
  (conv=>whnf); refine .inl ⟨_,_,byX rfl (Sound1.pl (h70) rfl),?_⟩
  conv=>whnf
  (conv=>whnf); refine ifB_dec (fun w1=>?_) (fun w1=>?_)
  ·conv=>whnf
   (conv=>whnf); refine ⟨?_,nofun⟩
   have e := hRk.trans (goA_stop (decide_eq_true w1))
   rw [e]
   refine ave_tup3 ⟨rfl,hn.symm,fun _ _=>rfl⟩ rfl rfl
  ·conv=>whnf
   (conv=>whnf); refine ifB_intro (fun w2=>?_) (fun w2=>?_)
   ·conv=>whnf
    (conv=>whnf); refine ⟨?_,nofun⟩
    have hmem : lastS k l ∈ been := of_decide_eq_true w2
    exact ave_run0 (hRk.trans (goA_none (hm.again hmem _)))
   ·conv=>whnf
    (conv=>whnf); refine .inl ⟨_,_,byX rfl (Sound1.pl (h92) rfl),?_⟩
    conv=>whnf
    (conv=>whnf); refine .inl ?_
    conv=>whnf
    (conv=>whnf); refine ⟨(by show _ * (16 + 1) ≤ _; omega),?_⟩
    conv=>whnf
    (conv=>whnf); refine ⟨inK64 (by omega) (by omega),?_⟩
    have hst : stopS p (lastS k l) = false := decide_eq_false w1
    have hno : lastS k l ∉ been := of_decide_eq_false w2
    conv=>whnf
    (conv=>whnf); refine ⟨_,_,⟨⟨k + 1,l ++ [(turnF p f (lastS k l) (-1)).1],t + (turnF p f (lastS k l) (-1)).2,been ++ [lastS k l],_,_,_,by simp [hn],(by rw [lastS_app hn]; exact hok.1),(List.nodup_append.2 ⟨hbn,by simp,fun a ha b hb e=>hno (by rw [← List.mem_singleton.1 hb,← e]; exact ha)⟩),(fun x hx=>(List.mem_append.1 hx).elim (hbo x) fun h=>by rw [List.mem_singleton.1 h]; exact hs),(by rw [lastS_app hn]; exact hm.next hst rfl),by simp [hk],by omega,(fun f'=>by rw [lastS_app hn,show k + 1 + f' = k + (f' + 1) by omega,hR1,goA_step hst rfl]),rfl,rfl⟩,by omega⟩,⟨⟨.inl rfl,rfl,rfl,rfl⟩,⟨bA,⟨bA,⟨bA,⟨bA,⟨⟨rfl,rfl,rfl,rfl,fun _=>rfl,fun i h=>.inl (sts_row hn _ i h)⟩,⟨bA,⟨bA,trivial⟩⟩⟩⟩⟩⟩⟩,⟨⟨rfl,rfl,rfl,trivial,.inl rfl,fun v=>And.imp id Or.inl (⟨(hasM_put been (lastS k l) v).symm,(hasM_vb been (lastS k l) v).symm⟩)⟩,trivial⟩⟩⟩
end Go.Tr

/- Contracts of chapter 7: home. Conditions: none. -/
namespace Go.Tr
open Go Go.Proofs
set_option maxRecDepth 20000
set_option maxHeartbeats 8000000

theorem goA_stuck {stop : S2 → Bool} {step : S2 → Option (S2 × Int)} {n : Nat} {s : S2} {l : List S2} {t : Int} (h : stop s = false) (hx : step s = none) : goA stop step n s l t = none := by
 cases n with
 | zero=>rfl
 | succ n =>
  unfold goA
  rw [h,hx]; rfl
theorem S61 (p : Pln) (hg : Good p) (f : Int × Bool) (s0 : S2) (hs0 : OkS p s0) : SP 61 [planA p,stA s0,ftA f] (runA (homeF p f s0)) false := by
 generalize hR : homeF p f s0 = R
 refine sound (d := 2) tok2 mixed2 Tryz.func61 (by kernel_rfl) (by kernel_rfl) ?_
 (conv=>whnf); refine ⟨[.slot 9 2],[3,4,5,9,10,11],fun st mq=>∃ (k : Nat) (s : S2) (l : List S2) (t : Int) (been : List S2),(l.length = k) ∧ (OkS p s) ∧ (been.Nodup) ∧ (∀ x ∈ been,OkS p x) ∧ (Met (homeB p f) (homeTurnF p f) s been) ∧ (been.length = k) ∧ (0 ≤ t ∧ t ≤ 10000 * (k : Int)) ∧ (∀ f',goA (homeB p f) (homeTurnF p f) (k + f') s0 [] 0 = goA (homeB p f) (homeTurnF p f) f' s l t) ∧ st = ⟨[(3,.optr 0 0 0 0),(4,.optr 1 0 0 0),(5,.optr 2 0 0 0),(9,.oslice 3 0 0 k none),(10,i64 t),(11,.omap 0)],⟨[⟨3,1,fun _=>planC p,0,false,true,true⟩,⟨2,1,fun _=>stC s,0,false,true,true⟩,⟨2,1,fun _=>[i64 f.1,vb f.2],0,false,true,true⟩,⟨2,k,fun i=>stC (l.getD i (0,0)),0,false,true,false⟩],[⟨.agg [.int .i64,.int .i64],4,hasM fun x=>decide (x ∈ been),fun v=>vb (hasM (fun x=>decide (x ∈ been)) v),false,none,0,.top⟩],none,0⟩,[]⟩ ∧ mq = allN p + 1 - k,
  ⟨_,_,⟨0,s0,[],0,[],rfl,hs0,by simp,(fun x hx=>by cases hx),Met.nil _,rfl,by omega,(fun f'=>by rw [Nat.zero_add]),rfl,rfl⟩,⟨⟨.inl rfl,rfl,rfl,rfl⟩,⟨bA,⟨bA,⟨bA,⟨⟨rfl,rfl,rfl,rfl,fun _=>rfl,fun i h=>.inl (absurd h (Nat.not_lt_zero i))⟩,trivial⟩⟩⟩⟩,⟨⟨rfl,rfl,rfl,trivial,.inl rfl,fun v=>And.imp id Or.inl (⟨hasM_nil v,congrArg (fun b=>vb b) (hasM_nil v)⟩)⟩,trivial⟩⟩⟩,?_⟩
 rintro s0 m0 ⟨k,s,l,t,been,hn,hs,hbn,hbo,hm,hk,ht,hR1,rfl,hmeas⟩
 have hN := states_le hg been hbn hbo
 have hA := allN_le hg
 have hat := hs.at
 have hRk : R = goA (homeB p f) (homeTurnF p f) (allN p - k + 1) s l t := by
  rw [← hR,← hR1,show k + (allN p - k + 1) = allN p + 1 by omega]; rfl
 have h118 : SP 88 [planA p,stA s,ftA f] (vb (homeB p f s)) false := S88 p s f hat
 have h81 := S85 p s f hat
 have hb27 : Tryz.prog.types[41].bytes = 16 := by kernel_rfl
 cases hx : homeTurnF p f s with
 | none =>
  rw [hx] at h81
  conv=>whnf
  (conv=>whnf); refine .inl ⟨_,_,byX rfl (Sound1.pl (h118) rfl),?_⟩
  conv=>whnf
  (conv=>whnf); refine ifB_not ?_
  conv=>whnf
  (conv=>whnf); refine ifB_intro (fun w1=>?_) (fun w1=>?_)
  ·conv=>whnf
   (conv=>whnf); refine ⟨?_,nofun⟩
   rw [hRk.trans (goA_stop w1)]
   exact ave_tup3 ⟨rfl,hn.symm,fun _ _=>rfl⟩ rfl rfl
  ·conv=>whnf
   (conv=>whnf); refine .inl ⟨_,_,byX rfl (Sound1.pl (h81) rfl),?_⟩
   conv=>whnf
   (conv=>whnf); refine ⟨?_,nofun⟩
   exact ave_run0 (hRk.trans (goA_stuck w1 hx))
 | some x =>
  rw [hx] at h81
  have hok := home_ok hg hs hx
  conv=>whnf
  (conv=>whnf); refine .inl ⟨_,_,byX rfl (Sound1.pl (h118) rfl),?_⟩
  conv=>whnf
  (conv=>whnf); refine ifB_not ?_
  conv=>whnf
  (conv=>whnf); refine ifB_intro (fun w1=>?_) (fun w1=>?_)
  ·conv=>whnf
   (conv=>whnf); refine ⟨?_,nofun⟩
   rw [hRk.trans (goA_stop w1)]
   exact ave_tup3 ⟨rfl,hn.symm,fun _ _=>rfl⟩ rfl rfl
  ·conv=>whnf
   (conv=>whnf); refine .inl ⟨_,_,byX rfl (Sound1.pl (h81) rfl),?_⟩
   conv=>whnf
   (conv=>whnf); refine ifB_intro (fun w2=>?_) (fun w2=>?_)
   ·conv=>whnf
    (conv=>whnf); refine ⟨?_,nofun⟩
    have hmem : s ∈ been := of_decide_eq_true w2
    exact ave_run0 (hRk.trans (goA_none (hm.again hmem _)))
   ·conv=>whnf
    (conv=>whnf); refine ⟨inK64 (by omega) (by omega),?_⟩
    conv=>whnf
    (conv=>whnf); refine .inl ?_
    conv=>whnf
    (conv=>whnf); refine ⟨(by show _ * (16 + 1) ≤ _; omega),?_⟩
    have hno : s ∉ been := of_decide_eq_false w2
    conv=>whnf
    (conv=>whnf); refine ⟨_,_,⟨⟨k + 1,x.1,l ++ [x.1],t + x.2,been ++ [s],by simp [hn],hok.1,(List.nodup_append.2 ⟨hbn,by simp,fun a ha b hb e=>hno (by rw [← List.mem_singleton.1 hb,← e]; exact ha)⟩),(fun y hy=>(List.mem_append.1 hy).elim (hbo y) fun h=>by rw [List.mem_singleton.1 h]; exact hs),(hm.next w1 hx),by simp [hk],by omega,(fun f'=>by rw [show k + 1 + f' = k + (f' + 1) by omega,hR1,goA_step w1 hx]),rfl,rfl⟩,by omega⟩,⟨⟨.inl rfl,rfl,rfl,rfl⟩,⟨bA,⟨bA,⟨bA,⟨⟨rfl,rfl,rfl,rfl,fun _=>rfl,fun i h=>.inl (sts_row hn _ i h)⟩,trivial⟩⟩⟩⟩,⟨⟨rfl,rfl,rfl,trivial,.inl rfl,fun v=>And.imp id Or.inl (⟨(hasM_put been s v).symm,(hasM_vb been s v).symm⟩)⟩,trivial⟩⟩⟩
end Go.Tr

/- Plain laws of chapter 7: the order of ways, the least way. Conditions: none. -/
namespace Go.Tr
open Go Go.Proofs
set_option maxRecDepth 20000
set_option maxHeartbeats 8000000

abbrev Way := List Int × Int
theorem cmpI_self (a : Int) : cmpI a a = 0 := by unfold cmpI; rw [if_neg (by omega),if_neg (by omega)]
theorem cmpI_zero {a b : Int} : cmpI a b = 0 ↔ a = b := by
 unfold cmpI
 split
 ·constructor
  ·intro h; cases h
  ·intro h; omega
 ·split
  ·constructor
   ·intro h; cases h
   ·intro h; omega
  ·constructor
   ·intro h; omega
   ·intro _; rfl
theorem cmpI_neg {a b : Int} : cmpI a b < 0 ↔ a < b := by
 unfold cmpI
 split
 ·exact ⟨fun _=>by assumption,fun _=>by decide⟩
 ·split
  ·exact ⟨fun h=>by omega,fun h=>by omega⟩
  ·exact ⟨fun h=>by omega,fun h=>by omega⟩
theorem cmpL_self : ∀ l : List Int,cmpL l l = 0
  | []=>rfl
  | a :: l=>by unfold cmpL; rw [cmpI_self,if_neg (by simp),cmpL_self l]
theorem cmpL_cons {a b : Int} {l m : List Int} : cmpL (a :: l) (b :: m) < 0 ↔ a < b ∨ a = b ∧ cmpL l m < 0 := by
  conv=>lhs; unfold cmpL
  by_cases h : cmpI a b = 0
  · rw [if_neg (not_not_intro h)]
    have := cmpI_zero.1 h
    exact ⟨fun h2 => .inr ⟨this, h2⟩, fun h2 => by rcases h2 with h2 | h2; · omega
                                                   · exact h2.2⟩
  · rw [if_pos h,cmpI_neg]
    exact ⟨.inl, fun h2 => by rcases h2 with h2 | h2; · exact h2
                              · exact absurd (cmpI_zero.2 h2.1) h⟩
theorem cmpL_trans : ∀ {l m n : List Int},cmpL l m < 0 → cmpL m n < 0 → cmpL l n < 0
 | [],[],_,h,_=>by cases h
 | [],_ :: _,[],_,h=>by cases h
 | [],_ :: _,_ :: _,_,_=>by show (-1 : Int) < 0; decide
 | _ :: _,[],_,h,_=>by cases h
 | _ :: _,_ :: _,[],_,h=>by cases h
 | a :: l, b :: m, c :: n, h1, h2 => by
  rw [cmpL_cons] at h1 h2 ⊢
  rcases h1 with h1 | ⟨h1,h3⟩
  ·rcases h2 with h2 | ⟨h2,_⟩
   ·exact .inl (by omega)
   ·exact .inl (by omega)
  ·rcases h2 with h2 | ⟨h2,h4⟩
   ·exact .inl (by omega)
   ·exact .inr ⟨by omega,cmpL_trans h3 h4⟩
theorem cmpL_total : ∀ (l m : List Int),cmpL l m < 0 ∨ l = m ∨ cmpL m l < 0
 | [],[]=>.inr (.inl rfl)
 | [],_ :: _=>.inl (by show (-1 : Int) < 0; decide)
 | _ :: _,[]=>.inr (.inr (by show (-1 : Int) < 0; decide))
 | a :: l, b :: m => by
  rw [cmpL_cons,cmpL_cons]
  rcases Int.lt_trichotomy a b with h | h | h
  ·exact .inl (.inl h)
  ·rcases cmpL_total l m with h2 | h2 | h2
   ·exact .inl (.inr ⟨h,h2⟩)
   ·exact .inr (.inl (by rw [h,h2]))
   ·exact .inr (.inr (.inr ⟨h.symm,h2⟩))
  ·exact .inr (.inr (.inl h))

def wlt (a b : Way) : Bool := decide (cmpL (a.2 :: a.1) (b.2 :: b.1) < 0)
theorem wlt_irr (a : Way) : wlt a a = false := by
  unfold wlt
  rw [cmpL_self]; rfl
theorem wlt_trans {a b c : Way} (h1 : wlt a b = true) (h2 : wlt b c = true) : wlt a c = true :=
  decide_eq_true (cmpL_trans (of_decide_eq_true h1) (of_decide_eq_true h2))
theorem wlt_total (a b : Way) : wlt a b = true ∨ a = b ∨ wlt b a = true := by
 rcases cmpL_total (a.2 :: a.1) (b.2 :: b.1) with h | h | h
 ·exact .inl (decide_eq_true h)
 ·injection h with h1 h2
  exact .inr (.inl (Prod.ext h2 h1))
 ·exact .inr (.inr (decide_eq_true h))
theorem wlt_first (a b : Way) : wlt a b = decide (firstOf [cmpI a.2 b.2,cmpL a.1 b.1] < 0) := by
  unfold wlt
  refine decide_eq_decide.2 ?_
  rw [cmpL_cons,first2]
  by_cases h : cmpI a.2 b.2 = 0
  · rw [if_neg (not_not_intro h)]
    have := cmpI_zero.1 h
    exact ⟨fun h2 => by rcases h2 with h2 | h2; · omega
                        · exact h2.2,fun h2=>.inr ⟨this,h2⟩⟩
  · rw [if_pos h,cmpI_neg]
    exact ⟨fun h2 => by rcases h2 with h2 | h2; · exact h2
                        · exact absurd (cmpI_zero.2 h2.1) h,.inl⟩

def better (o : Option Way) (w : Way) : Option Way := match o with | none=>some w | some v=>if wlt w v then some w else some v
def minL (l : List Way) : Option Way := l.foldl better none
theorem minL_snoc (l : List Way) (w : Way) : minL (l ++ [w]) = better (minL l) w := by
  unfold minL
  rw [List.foldl_append]; rfl
def IsMin (l : List Way) (w : Way) : Prop := w ∈ l ∧ ∀ v ∈ l,wlt v w = false
theorem IsMin.unique {l : List Way} {a b : Way} (h1 : IsMin l a) (h2 : IsMin l b) : a = b := by
 rcases wlt_total a b with h | h | h
 ·rw [h2.2 a h1.1] at h; cases h
 ·exact h
 ·rw [h1.2 b h2.1] at h; cases h
theorem rev_ind {P : List Way → Prop} (h0 : P []) (h1 : ∀ l w,P l → P (l ++ [w])) (l : List Way) : P l := by
 have : ∀ m : List Way,P m.reverse := fun m=>by
  induction m with
  | nil=>exact h0
  | cons x r ih=>rw [List.reverse_cons]; exact h1 _ _ ih
 have := this l.reverse
 rwa [List.reverse_reverse] at this
theorem minL_spec (l : List Way) : (l = [] ∧ minL l = none) ∨ ∃ w,minL l = some w ∧ IsMin l w := by
 refine rev_ind (P := fun l=>(l = [] ∧ minL l = none) ∨ ∃ w,minL l = some w ∧ IsMin l w) (.inl ⟨rfl,rfl⟩) (fun l w ih=>.inr ?_) l
 rw [minL_snoc]
 rcases ih with ⟨h1,h2⟩ | ⟨v,h1,h2⟩
 ·rw [h2,h1]
  exact ⟨w,rfl,by simp,fun v hv=>(show v = w by simpa using hv) ▸ wlt_irr v⟩
 ·rw [h1]
  show ∃ w_1,(if wlt w v then some w else some v) = some w_1 ∧ _
  cases hw : wlt w v with
  | true =>
   refine ⟨w,by simp,by simp,fun u hu=>?_⟩
   rcases List.mem_append.1 hu with h | h
   ·cases hu2 : wlt u w with
    | false=>rfl
    | true=>rw [← h2.2 u h,wlt_trans hu2 hw]
   ·rw [List.mem_singleton.1 h]; exact wlt_irr w
  | false =>
   refine ⟨v,by simp,List.mem_append.2 (.inl h2.1),fun u hu=>?_⟩
   rcases List.mem_append.1 hu with h | h
   ·exact h2.2 u h
   ·rw [List.mem_singleton.1 h]; exact hw
theorem minL_some {l : List Way} {w : Way} : minL l = some w ↔ IsMin l w := by
 rcases minL_spec l with ⟨rfl,h⟩ | ⟨v,h1,h2⟩
 ·rw [h]
  exact ⟨fun h=>(by cases h),fun h=>(by cases h.1)⟩
 ·rw [h1]
  exact ⟨fun h=>(by cases h; exact h2),fun h=>(by rw [h2.unique h])⟩
theorem minL_none {l : List Way} : minL l = none ↔ l = [] := by
 rcases minL_spec l with ⟨rfl,h⟩ | ⟨v,h1,h2⟩
 ·simp [h]
 ·rw [h1]
  exact ⟨fun h=>(by cases h),fun h=>by rw [h] at h2; cases h2.1⟩
theorem minL_congr {l m : List Way} (h : ∀ w,w ∈ l ↔ w ∈ m) : minL l = minL m := by
 cases hl : minL l with
 | none =>
  rw [minL_none] at hl
  cases hm : m with
  | nil=>rfl
  | cons x r=>have := (h x).2 (by rw [hm]; simp); rw [hl] at this; cases this
 | some w =>
  have h1 := minL_some.1 hl
  exact (minL_some.2 ⟨(h w).1 h1.1,fun v hv=>h1.2 v ((h v).2 hv)⟩).symm

abbrev Ent := S2 × Way
def waysTo (L : List Ent) (s : S2) : List Way := (L.filter fun e=>e.1 = s).map (·.2)
def least (L : List Ent) (s : S2) : Option Way := minL (waysTo L s)
theorem mem_waysTo {L : List Ent} {s : S2} {w : Way} : w ∈ waysTo L s ↔ (s,w) ∈ L := by
 unfold waysTo
 rw [List.mem_map]
 constructor
 ·rintro ⟨e,h1,rfl⟩
  have h2 := List.mem_filter.1 h1
  have h3 : e.1 = s := by simpa using h2.2
  rw [← h3]; exact h2.1
 ·intro h
  exact ⟨(s,w),List.mem_filter.2 ⟨h,by simp⟩,rfl⟩
theorem least_congr {L M : List Ent} (h : ∀ e,e ∈ L ↔ e ∈ M) (s : S2) : least L s = least M s :=
  minL_congr fun w=>by rw [mem_waysTo,mem_waysTo]; exact h _
theorem least_snoc (L : List Ent) (e : Ent) (s : S2) : least (L ++ [e]) s = if e.1 = s then better (least L s) e.2 else least L s := by
 unfold least waysTo
 rw [List.filter_append,List.map_append]
 by_cases h : e.1 = s
 ·rw [if_pos h]
  have : List.filter (fun e=>decide (e.1 = s)) [e] = [e] := by simp [h]
  rw [this]
  exact minL_snoc _ _
 ·rw [if_neg h]
  have : List.filter (fun e=>decide (e.1 = s)) [e] = [] := by simp [h]
  rw [this]; simp
def dedupS : List S2 → List S2
  | []=>[]
  | x :: r=>if x ∈ dedupS r then dedupS r else x :: dedupS r
theorem mem_dedupS {x : S2} : ∀ {l : List S2},x ∈ dedupS l ↔ x ∈ l
 | []=>Iff.rfl
 | y :: r => by
  unfold dedupS
  split
  ·rename_i h
   rw [mem_dedupS,List.mem_cons]
   exact ⟨.inr,fun h2=>h2.elim (fun e=>by rw [e]; exact mem_dedupS.1 h) id⟩
  ·rw [List.mem_cons,List.mem_cons,mem_dedupS]
def norm (L : List Ent) : List Ent := (dedupS (L.map (·.1))).map fun s=>(s,(least L s).getD ([],0))
theorem least_isSome {L : List Ent} {s : S2} : (least L s).isSome = true ↔ s ∈ L.map (·.1) := by
 constructor
 ·intro h
  obtain ⟨w,hw⟩ := Option.isSome_iff_exists.1 h
  exact List.mem_map.2 ⟨(s,w),mem_waysTo.1 (minL_some.1 hw).1,rfl⟩
 ·intro h
  obtain ⟨e,h1,h2⟩ := List.mem_map.1 h
  cases hl : least L s with
  | some w=>rfl
  | none =>
   have : e.2 ∈ waysTo L s := mem_waysTo.2 (by rw [← h2]; exact h1)
   rw [minL_none.1 hl] at this; cases this
theorem mem_norm {L : List Ent} {e : Ent} : e ∈ norm L ↔ least L e.1 = some e.2 := by
 unfold norm
 rw [List.mem_map]
 constructor
 ·rintro ⟨s,h1,rfl⟩
  have h2 := least_isSome.2 (mem_dedupS.1 h1)
  obtain ⟨w,hw⟩ := Option.isSome_iff_exists.1 h2
  show least L s = some ((least L s).getD ([],0))
  rw [hw]; rfl
 ·intro h
  refine ⟨e.1,mem_dedupS.2 (least_isSome.1 (by rw [h]; rfl)),?_⟩
  rw [h]; rfl
end Go.Tr

/- Contracts of chapter 7: ways, the best ways with one command more. Conditions: none. -/
namespace Go.Tr
open Go Go.Proofs
set_option maxRecDepth 20000
set_option maxHeartbeats 8000000

abbrev wayA (w : Way) : AV := .agg [ints w.1,i64 w.2]
def wayM (B : S2 → Option Way) (v : Value) : AV := match decS v with | some s=>wayA ((B s).getD ([],0)) | none=>wayA ([],0)
abbrev kkS : KK := .agg [.int .i64,.int .i64]
abbrev hasW (B : S2 → Option Way) : Value → Bool := hasM fun s=>(B s).isSome
abbrev mapA (B : S2 → Option Way) : AV := .rmap kkS 121 (hasW B) (wayM B)

theorem S64 (a b : Way) (ha : a.1.length ≤ 1000) (hb : b.1.length ≤ 1000) : SP 64 [wayA a,wayA b] (vb (wlt a b)) false := by
 have h115 := S92 a.2 b.2
 have h116 := S93 a.1 b.1 (by omega) (by omega)
 refine sound (d := 2) tok2 mixed2 Tryz.func64 (by kernel_rfl) (by kernel_rfl) ?_
 (conv=>whnf); refine ⟨[],by kernel_rfl,?_⟩
 (conv=>whnf); refine .inl ⟨_,_,byX rfl (Sound1.pl (h115) rfl),?_⟩
 (conv=>whnf); refine .inl ⟨_,_,byX rfl (Sound1.pl (h116) rfl),?_⟩
 (conv=>whnf); refine .inl ⟨_,_,byX rfl (Sound1.pl (S91_2 _ _ ⟨rfl,rfl⟩) rfl),?_⟩
 (conv=>whnf); refine ⟨?_,nofun⟩
 rw [wlt_first]
 rfl
theorem S64n (a b : Way) (ha : a.1.length ≤ 1000) (hb : b.1.length ≤ 1000) {n : Nat} {f : Nat → List AV} (hn : n = a.1.length) (hf : ∀ i,i < n → f i = [i64 (a.1.getD i 0)]) : SP 64 [.agg [.rslice 1 n f,i64 a.2],wayA b] (vb (wlt a b)) false := by
 refine (S64 a b ha hb).argsD rfl fun i y x hy hx=>?_
 match i,hy,hx with
 | 0,hy,hx =>
  cases hy; cases hx
  refine .inr ⟨3,rfl,fun j x y hx hy=>?_⟩
  match j,hx,hy with
  | 0,hx,hy=>cases hx; cases hy; exact .inr (AVF_rows hn hf 1)
  | 1,hx,hy=>cases hx; cases hy; exact .inl rfl
 | 1,hy,hx=>cases hy; cases hx; exact .inl rfl
theorem S95 (l : List Int) (hl : l.length ≤ 1000000) : SP 95 [ints l] (ints l) true := by
 refine sound (d := 2) tok2 mixed2 Tryz.func95 (by kernel_rfl) (by kernel_rfl) ?_
 rintro (_ | _) w1
 ·(conv=>whnf); refine .inl ?_
  (conv=>whnf); refine ⟨⟨(by omega),(by show _ * (8 + 1) ≤ _; omega)⟩,?_⟩
  (conv=>whnf); refine ⟨?_,fun _=>⟨rfl,?_⟩⟩
  ·exact ⟨rfl,Nat.zero_add _,fun i hi=>rfl⟩
  ·exact ⟨fun i _ x hx=>⟨_,List.mem_singleton.1 hx⟩,trivial⟩
 ·(conv=>whnf); refine ⟨?_,fun _=>⟨rfl,?_⟩⟩
  ·cases l with
   | nil=>rfl
   | cons x r=>exact absurd (w1 (Nat.zero_lt_succ _)) nofun
  ·exact ⟨fun i _ x hx=>⟨_,List.mem_singleton.1 hx⟩,trivial⟩

section
variable {stop : S2 → Bool} {step : S2 → Option (S2 × Int)} {Ok : S2 → Prop}
theorem goA_spec (hOk : ∀ s x,Ok s → step s = some x → Ok x.1 ∧ 1 ≤ x.2 ∧ x.2 ≤ 10000) (s0 : S2) : ∀ (n : Nat) (s : S2) (l : List S2) (t : Int) (r : List S2 × Int),l.getLastD s0 = s → Ok s → (∀ x ∈ l,Ok x) → goA stop step n s l t = some r →
  stop (r.1.getLastD s0) = true ∧ Ok (r.1.getLastD s0) ∧ (∀ x ∈ r.1,Ok x) ∧ t ≤ r.2 ∧ r.2 ≤ t + 10000 * n ∧ l.length ≤ r.1.length ∧ r.1.length ≤ l.length + n
 | 0,s,l,t,r,_,_,_,h=>by cases h
 | n + 1, s, l, t, r, hl, hs, ho, h => by
  cases hst : stop s with
  | true =>
   rw [goA_stop hst] at h
   cases h
   exact ⟨by rw [hl]; exact hst,by rw [hl]; exact hs,ho,Int.le_refl _,by show t ≤ t + _; omega,Nat.le_refl _,Nat.le_add_right ..⟩
  | false =>
   cases hx : step s with
   | none=>rw [goA_stuck hst hx] at h; cases h
   | some x =>
    rw [goA_step hst hx] at h
    obtain ⟨g1,g2,g3⟩ := hOk s x hs hx
    have := goA_spec hOk s0 n x.1 (l ++ [x.1]) (t + x.2) r (by simp) g1 (fun y hy=>(List.mem_append.1 hy).elim (ho y) fun h=>by rw [List.mem_singleton.1 h]; exact g1) h
    refine ⟨this.1,this.2.1,this.2.2.1,by omega,by omega,?_,?_⟩
    ·have := this.2.2.2.2.2.1; simp at this; omega
    ·have := this.2.2.2.2.2.2; simp at this; omega
end
theorem stepS_all {p : Pln} (hg : Good p) (f : Int × Bool) : ∀ s x,OkS p s → stepS p f s = some x → OkS p x.1 ∧ 1 ≤ x.2 ∧ x.2 ≤ 10000 := fun s x hs hx=>by
  cases hx
  exact turn_ok hg hs (.inl rfl)
theorem stepH_all {p : Pln} (hg : Good p) (f : Int × Bool) : ∀ s x,OkS p s → homeTurnF p f s = some x → OkS p x.1 ∧ 1 ≤ x.2 ∧ x.2 ≤ 10000 := fun _ _ hs hx=>home_ok hg hs hx
abbrev lastOf (l : List S2) : S2 := l.getLastD (0,0)
theorem lastOf_get {l : List S2} (h : l ≠ []) : l.getD (l.length - 1) (0,0) = lastOf l := by
 cases l with
 | nil=>exact absurd rfl h
 | cons a r=>simp [List.getD_eq_getElem?_getD,lastOf,List.getLastD_eq_getLast?,List.getLast?_eq_getElem?]
structure CmdOk (p : Pln) (r : List S2 × Int) : Prop where
 ne : r.1 ≠ []
 steady : (stp p (lastOf r.1)).wait = 0
 ok : OkS p (lastOf r.1)
 all : ∀ x ∈ r.1,OkS p x
 t1 : 1 ≤ r.2
 t2 : r.2 ≤ 4000000
 len : r.1.length ≤ 1000
theorem command_ok {p : Pln} (hg : Good p) {f : Int × Bool} {s : S2} {c : Int} (hs : OkS p s) (hc : OkC p c) {r : List S2 × Int} (h : commandF p f s c = some r) : CmdOk p r := by
 have h1 := turn_ok hg hs (f := f) hc
 have hA := allN_le hg
 unfold commandF settledF at h
 have := goA_spec (stepS_all hg f) (0,0) _ _ _ _ r (by simp) h1.1 (fun x hx=>by rw [List.mem_singleton.1 hx]; exact h1.1) h
 obtain ⟨g1,g2,g3,g4,g5,g6,g7⟩ := this
 refine ⟨fun e=>by rw [e] at g6; simp at g6,of_decide_eq_true g1,g2,g3,by omega,by omega,by simp at g7; omega⟩

abbrev noF : Int × Bool := (-1,false)
def stepWay (p : Pln) (e : Ent) (c : Int) : Option Ent := match commandF p noF e.1 c with | none=>none | some r=>some (lastOf r.1,(e.2.1 ++ [c],e.2.2 + r.2))
def extE (p : Pln) (e : Ent) : List Ent := (stp p e.1).exits.filterMap (stepWay p e)
def ext (p : Pln) (L : List Ent) : List Ent := L.flatMap (extE p)
theorem ext_snoc (p : Pln) (D : List Ent) (e : Ent) : ext p (D ++ [e]) = ext p D ++ extE p e := by simp [ext]
theorem ext_congr {p : Pln} {L M : List Ent} (h : ∀ e,e ∈ L ↔ e ∈ M) (e : Ent) : e ∈ ext p L ↔ e ∈ ext p M := by
  simp only [ext,List.mem_flatMap,h]
def LOk (p : Pln) (k : Nat) (L : List Ent) : Prop := ∀ e ∈ L,OkS p e.1 ∧ (stp p e.1).wait = 0 ∧ e.2.1.length = k ∧ 0 ≤ e.2.2 ∧ e.2.2 ≤ 4000000 * (k : Int)
theorem stepWay_ok {p : Pln} (hg : Good p) {k : Nat} {e : Ent} (he : OkS p e.1 ∧ (stp p e.1).wait = 0 ∧ e.2.1.length = k ∧ 0 ≤ e.2.2 ∧ e.2.2 ≤ 4000000 * (k : Int)) {c : Int} (hc : c ∈ (stp p e.1).exits) {x : Ent} (h : stepWay p e c = some x) :
  OkS p x.1 ∧ (stp p x.1).wait = 0 ∧ x.2.1.length = k + 1 ∧ 0 ≤ x.2.2 ∧ x.2.2 ≤ 4000000 * ((k + 1 : Nat) : Int) ∧ e.2.2 < x.2.2 := by
 unfold stepWay at h
 cases hr : commandF p noF e.1 c with
 | none=>rw [hr] at h; cases h
 | some r =>
  rw [hr] at h
  cases h
  have := command_ok hg he.1 (.inr (exit_ok hg he.1 he.2.1 (hasI_mem.2 hc))) hr
  have h1 := this.t1
  have h2 := this.t2
  obtain ⟨_,_,h3,h4,h5⟩ := he
  exact ⟨this.ok,this.steady,by simp [h3],by show 0 ≤ e.2.2 + r.2; omega,by show e.2.2 + r.2 ≤ _; omega,by show e.2.2 < e.2.2 + r.2; omega⟩
theorem ext_ok {p : Pln} (hg : Good p) {k : Nat} {L : List Ent} (h : LOk p k L) : LOk p (k + 1) (ext p L) := fun x hx=>by
 obtain ⟨e,he,hx⟩ := List.mem_flatMap.1 hx
 obtain ⟨c,hc,hx⟩ := List.mem_filterMap.1 hx
 have := stepWay_ok hg (h e he) hc hx
 exact ⟨this.1,this.2.1,this.2.2.1,this.2.2.2.1,this.2.2.2.2.1⟩
theorem least_mem {L : List Ent} {s : S2} {w : Way} (h : least L s = some w) : (s,w) ∈ L := mem_waysTo.1 (minL_some.1 h).1
theorem norm_mem {L : List Ent} {e : Ent} (h : e ∈ norm L) : e ∈ L := least_mem (mem_norm.1 h)
theorem norm_ok {p : Pln} {k : Nat} {L : List Ent} (h : LOk p k L) : LOk p k (norm L) := fun e he=>h e (norm_mem he)

theorem hasW_put (M : List Ent) (s : S2) (w : Way) (v : Value) : Bool.or (hasW (least M) v) (opEv.keyEq v (keyV s)) = hasW (least (M ++ [(s,w)])) v := by
 rw [keyD,hasW,hasM_or]
 congr 1
 funext x
 rw [least_snoc]
 by_cases h : s = x
 ·subst h
  cases least M s <;> simp [better]
  split <;> rfl
 ·have : ¬ x = s := fun e=>h e.symm
  simp [h,this]
theorem wayM_put (M : List Ent) (s : S2) (w : Way) (hb : better (least M s) w = some w) {X : AV} (hX : AVE 5 X (wayA w)) (v : Value) : AVE 5 (bif opEv.keyEq v (keyV s) then X else wayM (least M) v) (wayM (least (M ++ [(s,w)])) v) := by
 rw [keyD]
 unfold hasM wayM
 cases decS v with
 | none=>exact ave_agg2 (k := 4) ⟨rfl,rfl,fun _ _=>rfl⟩ rfl
 | some x =>
  show AVE 5 (bif decide (x = s) then X else wayA ((least M x).getD ([],0))) (wayA ((least (M ++ [(s,w)]) x).getD ([],0)))
  rw [least_snoc]
  by_cases h : x = s
  ·subst h
   rw [decide_eq_true rfl,if_pos rfl,hb]
   exact hX
  ·have : ¬ s = x := fun e=>h e.symm
   rw [decide_eq_false h,if_neg this]
   exact ave_agg2 (k := 4) ⟨rfl,rfl,fun _ _=>rfl⟩ rfl
theorem hasW_same (M : List Ent) (s : S2) (w v0 : Way) (h : least M s = some v0) (hb : wlt w v0 = false) : least (M ++ [(s,w)]) = least M := by
 funext x
 rw [least_snoc]
 split
 ·rename_i e
  cases e
  rw [h]
  simp [better,hb]
 ·rfl
abbrev wAt (L : List Ent) (s : S2) : Way := (least L s).getD ([],0)
theorem app_row (l : List Int) (c : Int) (i : Nat) (hi : i < l.length + 1) : (if i < l.length then [i64 (l.getD (0 + i) 0)] else List.take 1 (List.drop ((i - l.length) * 1) [i64 c])) = [i64 ((l ++ [c]).getD i 0)] := by
 rw [Nat.zero_add]
 by_cases h : i < l.length
 ·rw [if_pos h]; simp [List.getD_eq_getElem?_getD,h,List.getElem?_append_left h]
 ·have : i = l.length := by omega
  subst this
  rw [if_neg h]; simp [List.getD_eq_getElem?_getD]
theorem way_ave {l : List Int} {n : Nat} {f : Nat → List AV} {t : Int} (hn : n = l.length) (hf : ∀ i,i < n → f i = [i64 (l.getD i 0)]) : AVE 5 (.agg [.rslice 1 n f,i64 t]) (wayA (l,t)) := ave_agg2 (k := 4) ⟨rfl,hn,hf⟩ rfl
theorem hasW_nil (v : Value) : hasW (least []) v = false := by
  unfold hasW hasM
  cases decS v <;> rfl
theorem wayM_nil (v : Value) : AVE 5 (.agg [.eslice,i64 0]) (wayM (least []) v) := by
  unfold wayM
  cases decS v <;> exact ave_agg2 (k := 4) rfl rfl
theorem seen_put {sn : Value → Bool} {D : List Ent} {e : Ent} (hs : ∀ s,sn (keyV s) = true ↔ s ∈ D.map (·.1)) (s : S2) : Bool.or (sn (keyV s)) (opEv.keyEq (keyV s) (keyV e.1)) = true ↔ s ∈ (D ++ [e]).map (·.1) := by
 rw [keyD,List.map_append,List.mem_append,Bool.or_eq_true,hs]
 show _ ∨ decide (s = e.1) = true ↔ _
 simp
theorem norm_of {L D : List Ent} {sn : Value → Bool} (hD : ∀ e ∈ D,least L e.1 = some e.2) (hs : ∀ s,sn (keyV s) = true ↔ s ∈ D.map (·.1)) (w : ∀ v,keyIs kkS v = true → hasW (least L) v = true → sn v = true) (e : Ent) : e ∈ D ↔ e ∈ norm L := by
 rw [mem_norm]
 refine ⟨hD e,fun h=>?_⟩
 have h1 : sn (keyV e.1) = true := w _ rfl (by show (least L e.1).isSome = true; rw [h]; rfl)
 obtain ⟨x,hx,hxe⟩ := List.mem_map.1 ((hs e.1).1 h1)
 have h2 := hD x hx
 rw [hxe,h] at h2
 have h3 : e.2 = x.2 := Option.some.inj h2
 rwa [show e = x from Prod.ext hxe.symm h3]
theorem S65 (p : Pln) (hg : Good p) (k : Nat) (hk20 : k ≤ 20) (L : List Ent) (hL : LOk p k L) : SP 65 [planA p, mapA (least L)] (mapA (least (ext p (norm L)))) false := by
 refine sound (d := 2) tok2 mixed2 Tryz.func65 (by kernel_rfl) (by kernel_rfl) ?_
 intro w1
 (conv=>whnf); refine ⟨[],[2,5,19],fun st mq=>∃ (nl : Nat) (sn : Value → Bool) (D : List Ent),(∀ e ∈ D,least L e.1 = some e.2) ∧ (∀ s,sn (keyV s) = true ↔ s ∈ D.map (·.1)) ∧ st = ⟨[(2,.optr 0 0 0 0),(5,.omap 0),(19,.oiter 1)],⟨[⟨3,1,fun _=>planC p,0,false,true,true⟩],[⟨kkS,121,hasW (least (ext p D)),wayM (least (ext p D)),false,none,0,.top⟩,⟨kkS,121,hasW (least L),wayM (least L),false,some sn,nl,.top⟩],none,0⟩,[]⟩ ∧ mq = nl,
  ⟨_,_,⟨w1,fun _=>false,[],(fun e he=>by cases he),(fun s=>by simp),rfl,rfl⟩,⟨⟨.inl rfl,rfl,rfl,rfl⟩,⟨bA,trivial⟩,⟨⟨rfl,rfl,rfl,trivial,.inl rfl,fun v=>And.imp id Or.inr (⟨hasW_nil v,wayM_nil v⟩)⟩,⟨⟨rfl,rfl,rfl,⟨rfl,fun _=>rfl⟩,.inr rfl,fun _=>⟨rfl,.inl rfl⟩⟩,trivial⟩⟩⟩⟩,?_⟩
 rintro s0 m0 ⟨nl,sn,D,hD,hs,rfl,hmeas⟩
 refine ⟨fun w2=>?_,?_⟩
 ·conv=>whnf
  (conv=>whnf); refine ⟨?_,nofun⟩
  have hn := least_congr (ext_congr (p := p) (norm_of hD hs w2))
  rw [show least (ext p D) = least (ext p (norm L)) from funext hn]
  rfl
 ·intro a b h1 h2 n hn
  have h1 : (least L (a,b)).isSome = true := h1
  obtain ⟨w,hw⟩ := Option.isSome_iff_exists.1 h1
  have hwa : wAt L (a,b) = w := by unfold wAt; rw [hw]; rfl
  have he := hL _ (least_mem hw)
  have hat := he.1.at
  rw [← hwa] at hw he
  clear hwa
  conv=>whnf
  conv=>whnf
  (conv=>whnf); refine ⟨by assumption,?_⟩
  conv=>whnf
  conv=>whnf
  (conv=>whnf); refine ⟨[],[2,5,6,7,19,32,33,34],fun st mq=>∃ (j : Nat) (w : Way) (M : List Ent),(j ≤ (stp p (a,b)).exits.length) ∧ (least L (a,b) = some w) ∧ (M = ext p D ++ ((stp p (a,b)).exits.take j).filterMap (stepWay p ((a,b),w))) ∧ st = ⟨[(2,.optr 0 0 0 0),(5,.omap 0),(6,.optr 1 0 0 0),(7,.optr 2 0 0 0),(19,.oiter 1),(32,ints (stp p (a,b)).exits),(33,i64 (stp p (a,b)).exits.length),(34,i64 j)],⟨[⟨3,1,fun _=>planC p,0,false,true,true⟩,⟨2,1,fun _=>[i64 a,i64 b],0,false,true,true⟩,⟨2,1,fun _=>[ints w.1,i64 w.2],0,false,true,true⟩],[⟨kkS,121,hasW (least M),wayM (least M),false,none,0,.top⟩,⟨kkS,121,hasW (least L),wayM (least L),false,some (fun v=>Bool.or (sn v) (opEv.keyEq v (keyV (a,b)))),n,.top⟩],none,0⟩,[]⟩ ∧ mq = (stp p (a,b)).exits.length - j,
   ⟨_,_,⟨0,wAt L (a,b),ext p D,by omega,hw,by simp,rfl,rfl⟩,⟨⟨.inl rfl,rfl,rfl,rfl⟩,⟨bA,⟨bA,⟨bA,trivial⟩⟩⟩,⟨⟨rfl,rfl,rfl,trivial,.inl rfl,fun _=>⟨rfl,.inl rfl⟩⟩,⟨⟨rfl,rfl,rfl,⟨rfl,fun _=>rfl⟩,.inr rfl,fun _=>⟨rfl,.inl rfl⟩⟩,trivial⟩⟩⟩⟩,?_⟩
  rintro s0 m0 ⟨j,w,M,hj,hw1,hM,rfl,hmeas⟩
  have he := hL _ (least_mem hw1)
  have he1 : OkS p (a,b) := he.1
  have he2 : (stp p (a,b)).wait = 0 := he.2.1
  have he3 : w.1.length = k := he.2.2.1
  have he4 : 0 ≤ w.2 := he.2.2.2.1
  have hxl : (stp p (a,b)).exits.length ≤ 12 := hg.few.exits _ he1.k
  have he5 : w.2 ≤ 4000000 * (k : Int) := he.2.2.2.2
  by_cases hlt : j < (stp p (a,b)).exits.length
  ·have hcm : (stp p (a, b)).exits.getD j 0 ∈ (stp p (a, b)).exits := by simp [List.getD_eq_getElem?_getD, hlt]
   have hc := exit_ok hg he1 he2 (hasI_mem.2 hcm)
   have htk : (stp p (a,b)).exits.take (j + 1) = (stp p (a,b)).exits.take j ++ [(stp p (a,b)).exits.getD j 0] := by
    rw [List.take_add_one]; simp [List.getD_eq_getElem?_getD,hlt]
   have h95 := S94 p hg noF (a,b) ((stp p (a,b)).exits.getD j 0) he1 (.inr hc)
   cases hC : commandF p noF (a,b) ((stp p (a,b)).exits.getD j 0) with
   | none =>
    rw [hC] at h95
    have hsw : stepWay p ((a,b),w) ((stp p (a,b)).exits.getD j 0) = none := by unfold stepWay; rw [hC]
    conv=>whnf
    conv=>whnf
    conv=>whnf
    (conv=>whnf); refine ifB_dec (fun w2=>?_) (fun w2=>?_)
    ·conv=>whnf
     conv=>whnf
     conv=>whnf
     (conv=>whnf); refine ⟨⟨(by omega),(by omega)⟩,?_⟩
     conv=>whnf
     conv=>whnf
     conv=>whnf
     (conv=>whnf); refine .inl ⟨_,_,byX rfl (h95),?_⟩
     conv=>whnf
     conv=>whnf
     conv=>whnf
     (conv=>whnf); refine ⟨inK64 (by omega) (by omega),?_⟩
     conv=>whnf
     conv=>whnf
     conv=>whnf
     (conv=>whnf); refine ⟨_,_,⟨⟨j + 1,w,M,by omega,hw1,(by rw [htk,List.filterMap_append,hM]; simp only [List.filterMap_cons,List.filterMap_nil,hsw,List.append_nil]),rfl,rfl⟩,by omega⟩,⟨⟨.inl rfl,rfl,rfl,rfl⟩,⟨bA,⟨bA,⟨bA,trivial⟩⟩⟩,⟨⟨rfl,rfl,rfl,trivial,.inl rfl,fun _=>⟨rfl,.inl rfl⟩⟩,⟨⟨rfl,rfl,rfl,⟨rfl,fun _=>rfl⟩,.inr rfl,fun _=>⟨rfl,.inl rfl⟩⟩,trivial⟩⟩⟩⟩
    ·(exfalso; omega)
   | some r =>
    rw [hC] at h95
    have hok := command_ok hg he1 (.inr hc) hC
    have hl0 : 0 < r.1.length := List.length_pos_iff.2 hok.ne
    have ht1 := hok.t1
    have ht2 := hok.t2
    have hlen := hok.len
    have hX : r.1.getD ((r.1.length : Int) - 1).toNat (0,0) = lastOf r.1 := by
     rw [show ((r.1.length : Int) - 1).toNat = r.1.length - 1 by omega]; exact lastOf_get hok.ne
    have hsw : stepWay p ((a,b),w) ((stp p (a,b)).exits.getD j 0) = some (r.1.getD ((r.1.length : Int) - 1).toNat (0,0),(w.1 ++ [(stp p (a,b)).exits.getD j 0],w.2 + r.2)) := by unfold stepWay; rw [hC,hX]
    have hM' : M ++ [(r.1.getD ((r.1.length : Int) - 1).toNat (0,0),(w.1 ++ [(stp p (a,b)).exits.getD j 0],w.2 + r.2))] = ext p D ++ ((stp p (a,b)).exits.take (j + 1)).filterMap (stepWay p ((a,b),w)) := by
     rw [htk,List.filterMap_append,hM,List.append_assoc]; simp only [List.filterMap_cons,List.filterMap_nil,hsw]
    have hget : ∀ s,((least M s).getD ([],0)).1.length ≤ 1000 := fun s=>by
     cases hv : least M s with
     | none=>simp
     | some v =>
      have hm := least_mem hv
      rw [hM] at hm
      have h1 : v.1.length = k + 1 := by
       rcases List.mem_append.1 hm with hm | hm
       ·exact (ext_ok hg (L := D) (fun x hx=>hL x (least_mem (hD x hx))) _ hm).2.2.1
       ·obtain ⟨c',hc',hm⟩ := List.mem_filterMap.1 hm
        exact (stepWay_ok hg he (List.mem_of_mem_take hc') hm).2.2.1
      show v.1.length ≤ 1000
      omega
    have h71 := fun s=>@S64n (w.1 ++ [(stp p (a,b)).exits.getD j 0],w.2 + r.2) ((least M s).getD ([],0)) (by simp; omega) (hget s)
    conv=>whnf
    conv=>whnf
    conv=>whnf
    (conv=>whnf); refine ifB_dec (fun w2=>?_) (fun w2=>?_)
    ·conv=>whnf
     conv=>whnf
     conv=>whnf
     (conv=>whnf); refine ⟨⟨(by omega),(by omega)⟩,?_⟩
     conv=>whnf
     conv=>whnf
     conv=>whnf
     (conv=>whnf); refine .inl ⟨_,_,byX rfl (h95),?_⟩
     conv=>whnf
     conv=>whnf
     conv=>whnf
     (conv=>whnf); refine ⟨inK64 (by omega) (by omega),?_⟩
     conv=>whnf
     conv=>whnf
     conv=>whnf
     (conv=>whnf); refine ⟨⟨(by omega),(by omega)⟩,?_⟩
     conv=>whnf
     conv=>whnf
     conv=>whnf
     (conv=>whnf); refine ⟨[(11,1000000),(0,1000000),(1,1000000),(2,1000000),(3,1000000),(4,1000000),(6,1000000),(7,1000000),(8,1000000),(9,1000000),(5,1000000),(10,1000000),(12,1000000),(0,10),(6,10),(7,10)],by kernel_rfl,?_⟩
     conv=>whnf
     conv=>whnf
     conv=>whnf
     (conv=>whnf); refine .inl ⟨_,_,byX rfl (S95 _ (by omega)),?_⟩
     conv=>whnf
     conv=>whnf
     conv=>whnf
     (conv=>whnf); refine ⟨inK64 (by omega) (by omega),?_⟩
     conv=>whnf
     conv=>whnf
     conv=>whnf
     (conv=>whnf); refine .inl ?_
     conv=>whnf
     conv=>whnf
     conv=>whnf
     (conv=>whnf); refine ⟨(by show _ * (8 + 1) ≤ _; omega),?_⟩
     conv=>whnf
     conv=>whnf
     conv=>whnf
     (conv=>whnf); refine ifB_not ?_
     conv=>whnf
     conv=>whnf
     conv=>whnf
     (conv=>whnf); refine ifB_intro (fun w3=>?_) (fun w3=>?_)
     ·conv=>whnf
      conv=>whnf
      conv=>whnf
      (conv=>whnf); refine .inl ⟨_,_,byX rfl (Sound1.pl (h71 _ ?_ ?_) rfl),?_⟩
      ·simp
      ·exact fun i hi=>app_row _ _ i hi
      ·conv=>whnf
       conv=>whnf
       conv=>whnf
       (conv=>whnf); refine ifB_dec (fun w4=>?_) (fun w4=>?_)
       ·conv=>whnf
        conv=>whnf
        conv=>whnf
        (conv=>whnf); refine ⟨inK64 (by omega) (by omega),?_⟩
        have hb : better (least M (r.1.getD ((r.1.length : Int) - 1).toNat (0,0))) (w.1 ++ [(stp p (a,b)).exits.getD j 0],w.2 + r.2) = some (w.1 ++ [(stp p (a,b)).exits.getD j 0],w.2 + r.2) := by
         obtain ⟨v,hv⟩ := Option.isSome_iff_exists.1 (show (least M (r.1.getD ((r.1.length : Int) - 1).toNat (0,0))).isSome = true from w3)
         have w4 : wlt (w.1 ++ [(stp p (a,b)).exits.getD j 0],w.2 + r.2) ((least M (r.1.getD ((r.1.length : Int) - 1).toNat (0,0))).getD ([],0)) = true := decide_eq_true w4
         rw [hv] at w4 ⊢
         exact if_pos w4
        conv=>whnf
        conv=>whnf
        conv=>whnf
        (conv=>whnf); refine ⟨_,_,⟨⟨j + 1,w,M ++ [(r.1.getD ((r.1.length : Int) - 1).toNat (0,0),(w.1 ++ [(stp p (a,b)).exits.getD j 0],w.2 + r.2))],by omega,hw1,hM',rfl,rfl⟩,by omega⟩,⟨⟨.inl rfl,rfl,rfl,rfl⟩,⟨bA,⟨bA,⟨bA,trivial⟩⟩⟩,⟨⟨rfl,rfl,rfl,trivial,.inl rfl,fun v=>And.imp id Or.inr (⟨(hasW_put M _ _ v).symm,wayM_put M _ _ hb (way_ave (by simp) fun i hi=>app_row _ _ i hi) v⟩)⟩,⟨⟨rfl,rfl,rfl,⟨rfl,fun _=>rfl⟩,.inr rfl,fun _=>⟨rfl,.inl rfl⟩⟩,trivial⟩⟩⟩⟩
       ·conv=>whnf
        conv=>whnf
        conv=>whnf
        (conv=>whnf); refine ⟨inK64 (by omega) (by omega),?_⟩
        have hsm := hasW_same M (r.1.getD ((r.1.length : Int) - 1).toNat (0,0)) (w.1 ++ [(stp p (a,b)).exits.getD j 0],w.2 + r.2) ((least M (r.1.getD ((r.1.length : Int) - 1).toNat (0,0))).getD ([],0)) (by
         obtain ⟨v,hv⟩ := Option.isSome_iff_exists.1 (show (least M (r.1.getD ((r.1.length : Int) - 1).toNat (0,0))).isSome = true from w3)
         rw [hv]; rfl) (decide_eq_false w4)
        conv=>whnf
        conv=>whnf
        conv=>whnf
        (conv=>whnf); refine ⟨_,_,⟨⟨j + 1,w,M ++ [(r.1.getD ((r.1.length : Int) - 1).toNat (0,0),(w.1 ++ [(stp p (a,b)).exits.getD j 0],w.2 + r.2))],by omega,hw1,hM',rfl,rfl⟩,by omega⟩,⟨⟨.inl rfl,rfl,rfl,rfl⟩,⟨bA,⟨bA,⟨bA,trivial⟩⟩⟩,⟨⟨rfl,rfl,rfl,trivial,.inl rfl,fun v=>And.imp id Or.inl (⟨congrArg (fun B=>hasW B v) hsm,congrArg (fun B=>wayM B v) hsm⟩)⟩,⟨⟨rfl,rfl,rfl,⟨rfl,fun _=>rfl⟩,.inr rfl,fun _=>⟨rfl,.inl rfl⟩⟩,trivial⟩⟩⟩⟩
     ·conv=>whnf
      conv=>whnf
      conv=>whnf
      (conv=>whnf); refine ⟨inK64 (by omega) (by omega),?_⟩
      have hb : better (least M (r.1.getD ((r.1.length : Int) - 1).toNat (0,0))) (w.1 ++ [(stp p (a,b)).exits.getD j 0],w.2 + r.2) = some (w.1 ++ [(stp p (a,b)).exits.getD j 0],w.2 + r.2) := by
       rw [show least M (r.1.getD ((r.1.length : Int) - 1).toNat (0,0)) = none from Option.isSome_eq_false_iff.1 w3 |> Option.isNone_iff_eq_none.1]; rfl
      conv=>whnf
      conv=>whnf
      conv=>whnf
      (conv=>whnf); refine ⟨_,_,⟨⟨j + 1,w,M ++ [(r.1.getD ((r.1.length : Int) - 1).toNat (0,0),(w.1 ++ [(stp p (a,b)).exits.getD j 0],w.2 + r.2))],by omega,hw1,hM',rfl,rfl⟩,by omega⟩,⟨⟨.inl rfl,rfl,rfl,rfl⟩,⟨bA,⟨bA,⟨bA,trivial⟩⟩⟩,⟨⟨rfl,rfl,rfl,trivial,.inl rfl,fun v=>And.imp id Or.inr (⟨(hasW_put M _ _ v).symm,wayM_put M _ _ hb (way_ave (by simp) fun i hi=>app_row _ _ i hi) v⟩)⟩,⟨⟨rfl,rfl,rfl,⟨rfl,fun _=>rfl⟩,.inr rfl,fun _=>⟨rfl,.inl rfl⟩⟩,trivial⟩⟩⟩⟩
    ·(exfalso; omega)
  ·have hn : nl = n + 1 := hn
   have hMe : M = ext p (D ++ [((a,b),w)]) := by
    rw [hM,ext_snoc,List.take_of_length_le (by omega)]; rfl
   subst hMe
   conv=>whnf
   conv=>whnf
   conv=>whnf
   (conv=>whnf); refine ifB_dec (fun w2=>?_) (fun w2=>?_)
   ·(exfalso; omega)
   ·conv=>whnf
    conv=>whnf
    conv=>whnf
    (conv=>whnf); refine ⟨_,_,⟨⟨n,fun v=>Bool.or (sn v) (opEv.keyEq v (keyV (a,b))),D ++ [((a,b),w)],(fun e he=>(List.mem_append.1 he).elim (hD e) fun h=>by rw [List.mem_singleton.1 h]; exact hw1),seen_put (e := ((a,b),w)) hs,rfl,rfl⟩,by omega⟩,⟨⟨.inl rfl,rfl,rfl,rfl⟩,⟨bA,trivial⟩,⟨⟨rfl,rfl,rfl,trivial,.inl rfl,fun _=>⟨rfl,.inl rfl⟩⟩,⟨⟨rfl,rfl,rfl,⟨rfl,fun _=>rfl⟩,.inr rfl,fun _=>⟨rfl,.inl rfl⟩⟩,trivial⟩⟩⟩⟩
end Go.Tr

/- Contracts of chapter 7: the fastest way. Conditions: none. -/
namespace Go.Tr
open Go Go.Proofs
set_option maxRecDepth 20000
set_option maxHeartbeats 8000000

def layer (p : Pln) (s : S2) : Nat → List Ent
  | 0=>[(s,([],0))]
  | k + 1=>ext p (norm (layer p s k))
def toW (to : Int) (D : List Ent) : List Way := (D.filter fun e=>e.1.1 = to).map (·.2)
def hereW (p : Pln) (s : S2) (to : Int) (k : Nat) : Option Way := minL (toW to (norm (layer p s k)))
def upB (b h : Option Way) : Option Way := match h with | none=>b | some h=>match b with | none=>some h | some b=>if h.2 < b.2 then some h else some b
def bestW (p : Pln) (s : S2) (to : Int) : Nat → Option Way
  | 0=>none
  | k + 1=>upB (bestW p s to k) (hereW p s to k)
theorem toW_snoc (to : Int) (D : List Ent) (e : Ent) : toW to (D ++ [e]) = toW to D ++ if e.1.1 = to then [e.2] else [] := by
 unfold toW
 rw [List.filter_append,List.map_append]
 by_cases h : e.1.1 = to <;> simp [h]
theorem layer_ok {p : Pln} (hg : Good p) {s : S2} (hs : OkS p s) (hw : (stp p s).wait = 0) : ∀ k,LOk p k (layer p s k)
 | 0=>fun e he=>by
  rw [show e = (s,([],0)) from List.mem_singleton.1 he]
  exact ⟨hs,hw,rfl,Int.le_refl 0,Int.le_refl 0⟩
 | k + 1=>ext_ok hg (norm_ok (layer_ok hg hs hw k))
def optA (o : Option Way) : Way := o.getD ([],0)
theorem hasW_one (s : S2) (v : Value) : hasW (least [(s,([],0))]) v = Bool.or false (opEv.keyEq v (keyV s)) := by
  rw [show ([(s,([],0))] : List Ent) = [] ++ [(s,([],0))] from rfl,← hasW_put,hasW_nil]
theorem wayM_one (s : S2) (v : Value) : AVE 5 (bif opEv.keyEq v (keyV s) then .agg [.eslice,i64 0] else .agg [.eslice,i64 0]) (wayM (least [(s,([],0))]) v) := by
 rw [show (bif opEv.keyEq v (keyV s) then (.agg [.eslice,i64 0] : AV) else .agg [.eslice,i64 0]) = .agg [.eslice,i64 0] by cases opEv.keyEq v (keyV s) <;> rfl]
 unfold wayM
 cases decS v with
 | none=>exact ave_agg2 (k := 4) rfl rfl
 | some x =>
  show AVE 5 _ (wayA ((least [(s,([],0))] x).getD ([],0)))
  rw [show ([(s,([],0))] : List Ent) = [] ++ [(s,([],0))] from rfl,least_snoc]
  split <;> exact ave_agg2 (k := 4) rfl rfl
def fastE (p : Pln) (s : S2) (to : Int) : Int :=
  if openE p s noF ≠ 0 then openE p s noF else if idxE p.steps.length to ≠ 0 then idxE p.steps.length to
  else if (stp p s).wait = 0 ∧ (p.steps.getD to.toNat stp0).wait = 0 then 0 else 20
def fastR (p : Pln) (s : S2) (to : Int) : AV :=
  if fastE p s to ≠ 0 then .tuple [ints [],i64 0,i64 (fastE p s to)]
  else match bestW p s to 11 with | none=>.tuple [ints [],i64 0,i64 12] | some w=>.tuple [ints w.1,i64 w.2,i64 0]
theorem open_ok {p : Pln} (hp : FewP p) {s : S2} {f : Int × Bool} (h : openE p s f = 0) : Good p ∧ OkS p s ∧ OkF p f := by
 unfold openE at h
 split at h
 ·rename_i h0
  rw [first2_iff] at h
  exact ⟨Good.of hp h0,state_ok.1 h.1,fault_ok h.2⟩
 ·rename_i h0; exact absurd h h0
theorem fast_bad {e : Int} {p : Pln} {s : S2} {to : Int} (h : fastE p s to = e) (h0 : e ≠ 0) : AVE 5 (.tuple [.eslice,i64 0,i64 e]) (fastR p s to) := by
 unfold fastR
 rw [h,if_pos h0]
 exact ave_tup3 rfl rfl rfl
theorem row_zero : RowLe true [.eslice,i64 0] [ints [],i64 0] := by
 refine ⟨rfl,rfl,fun j x y hx hy=>?_⟩
 match j,hx,hy with
 | 0,hx,hy=>cases hx; cases hy; exact .inr rfl
 | 1,hx,hy=>cases hx; cases hy; exact .inl rfl
theorem toW_congr {to : Int} {D E : List Ent} (h : ∀ e,e ∈ D ↔ e ∈ E) : minL (toW to D) = minL (toW to E) := minL_congr fun w=>by
  unfold toW
  simp only [List.mem_map,List.mem_filter,h]
theorem S31 (p : Pln) (hp : FewP p) (s : S2) (to : Int) : SP 31 [planA p, stA s, i64 to] (fastR p s to) false := by
 have h67 := S44 p hp s noF
 have h68 := fun h=>@S62_1 p h to
 rw [idxs1] at h68
 by_cases h1 : openE p s noF = 0
 ·obtain ⟨hg, hs, hf⟩ := open_ok hp h1
  by_cases h2 : idxE p.steps.length to = 0
  ·have hto := inX_iff.1 (idxE0 h2)
   have hat := hs.at
   rw [h1] at h67
   rw [h2] at h68
   have h70s := S63 (stp p s)
   have h70t := S63 (p.steps.getD to.toNat stp0)
   have hm := hg.m
   have h68 := fun {f : Nat → List AV}=>@h68 (by omega) f
   refine sound (d := 2) tok2 mixed2 Tryz.func31 (by kernel_rfl) (by kernel_rfl) ?_
   (conv=>whnf); refine .inl ⟨_,_,byX rfl (h67),?_⟩
   (conv=>whnf); refine .inl ⟨_,_,byX rfl (Sound1.pl (h68 rfl) rfl),?_⟩
   (conv=>whnf); refine ⟨⟨(by omega),(by omega)⟩,?_⟩
   (conv=>whnf); refine .inl ⟨_,_,byX rfl (Sound1.pl (h70s) rfl),?_⟩
   (conv=>whnf); refine ifB_dec (fun w1=>?_) (fun w1=>?_)
   ·(conv => whnf); refine ⟨⟨(by omega), (by omega)⟩, ?_⟩
    (conv=>whnf); refine .inl ⟨_,_,byX rfl (Sound1.pl (h70t) rfl),?_⟩
    (conv=>whnf); refine .inl ⟨_,_,byX rfl (Sound1.pl (S45 _ _) rfl),?_⟩
    (conv=>whnf); refine ifB_bne (fun w2=>?_) (fun w2=>?_)
    ·(conv=>whnf); refine ⟨?_,nofun⟩
     have hE : fastE p s to = 20 := by
      unfold fastE
      rw [if_neg (not_not_intro h1),if_neg (not_not_intro h2),if_neg]
      intro h
      rw [decide_eq_true h.2] at w2
      exact w2 rfl
     rw [show (if decide ((p.steps.getD to.toNat stp0).wait = 0) = true then (0 : Int) else 20) = 20 by split <;> simp_all]
     exact fast_bad hE (by decide)
    ·have hwt : (p.steps.getD to.toNat stp0).wait = 0 := by
      by_cases h : (p.steps.getD to.toNat stp0).wait = 0
      ·exact h
      ·rw [decide_eq_false h] at w2; cases w2
     have hE : fastE p s to = 0 := by
      unfold fastE
      rw [if_neg (not_not_intro h1),if_neg (not_not_intro h2),if_pos ⟨w1,hwt⟩]
     (conv=>whnf); refine ⟨[.freeze 13],[2,9,11,12,13,58],fun st mq=>∃ (k : Nat) (B : Option Way) (L : List Ent) (H0 : Value → Bool) (G0 : Value → AV) (F0 : Nat → List AV) (F1 : Nat → List AV) (F3 : Nat → List AV),(k ≤ 11) ∧ (L = layer p s k) ∧ (B = bestW p s to k) ∧ st = ⟨[(2,i64 to),(9,.optr 2 0 0 0),(11,.optr 4 0 0 0),(12,vb B.isSome),(13,mapA (least L)),(58,i64 k)],⟨[⟨3,1,F0,0,false,true,false⟩,⟨2,1,F1,0,false,true,false⟩,⟨3,1,fun _=>planC p,0,false,true,true⟩,⟨1,1,F3,0,false,true,false⟩,⟨2,1,fun _=>[ints (optA B).1,i64 (optA B).2],0,false,true,true⟩],[⟨kkS,121,H0,G0,true,none,0,.top⟩],none,0⟩,[]⟩ ∧ mq = 11 - k,
      ⟨_,_,⟨0,none,[(s,([],0))],_,_,_,_,_,by omega,rfl,rfl,rfl,rfl⟩,⟨⟨.inr ⟨rfl,.inl rfl,⟨rfl,.inl rfl,⟨rfl,.inl rfl,⟨rfl,.inl rfl,⟨rfl,.inr (⟨rfl,rfl,fun k=>⟨hasW_one s k,.inr (wayM_one s k)⟩⟩),⟨rfl,.inl rfl,trivial⟩⟩⟩⟩⟩⟩,rfl,rfl,rfl⟩,⟨bA,⟨bA,⟨bA,⟨bA,⟨⟨rfl,rfl,rfl,rfl,fun _=>rfl,fun _ _=>.inr (row_zero)⟩,trivial⟩⟩⟩⟩⟩,⟨⟨rfl,rfl,rfl,trivial,.inl rfl,fun _=>⟨rfl,.inl rfl⟩⟩,trivial⟩⟩⟩,?_⟩
     rintro s0 m0 ⟨k,B,L,H0,G0,F0,F1,F3,hk,hL,hB,rfl,hmeas⟩
     have hLo : LOk p k L := by rw [hL]; exact layer_ok hg hs w1 k
     have h72 := S65 p hg k (by omega) L hLo
     conv=>whnf
     (conv=>whnf); refine ifB_dec (fun w3=>?_) (fun w3=>?_)
     ·intro w4
      conv=>whnf
      (conv=>whnf); refine ⟨[],[2,9,11,12,13,14,15,58,61],fun st mq=>∃ (nl : Nat) (sn : Value → Bool) (D : List Ent) (hv : Option Way) (F0 : Nat → List AV) (F1 : Nat → List AV) (F3 : Nat → List AV),(∀ e ∈ D,least L e.1 = some e.2) ∧ (∀ s,sn (keyV s) = true ↔ s ∈ D.map (·.1)) ∧ (hv = minL (toW to D)) ∧ st = ⟨[(2,i64 to),(9,.optr 2 0 0 0),(11,.optr 4 0 0 0),(12,vb B.isSome),(13,mapA (least L)),(14,.optr 5 0 0 0),(15,vb hv.isSome),(58,i64 k),(61,.oiter 1)],⟨[⟨3,1,F0,0,false,true,false⟩,⟨2,1,F1,0,false,true,false⟩,⟨3,1,fun _=>planC p,0,false,true,true⟩,⟨1,1,F3,0,false,true,false⟩,⟨2,1,fun _=>[ints (optA B).1,i64 (optA B).2],0,false,true,true⟩,⟨2,1,fun _=>[ints (optA hv).1,i64 (optA hv).2],0,false,true,true⟩],[⟨kkS,121,H0,G0,true,none,0,.top⟩,⟨kkS,121,hasW (least L),wayM (least L),false,some sn,nl,.top⟩],none,0⟩,[]⟩ ∧ mq = nl,
       ⟨_,_,⟨w4,fun _=>false,[],none,_,_,_,(fun e he=>by cases he),(fun s=>by simp),rfl,rfl,rfl⟩,⟨⟨.inl rfl,rfl,rfl,rfl⟩,⟨bA,⟨bA,⟨bA,⟨bA,⟨bA,⟨⟨rfl,rfl,rfl,rfl,fun _=>rfl,fun _ _=>.inr (row_zero)⟩,trivial⟩⟩⟩⟩⟩⟩,⟨⟨rfl,rfl,rfl,trivial,.inl rfl,fun _=>⟨rfl,.inl rfl⟩⟩,⟨⟨rfl,rfl,rfl,⟨rfl,fun _=>rfl⟩,.inr rfl,fun _=>⟨rfl,.inl rfl⟩⟩,trivial⟩⟩⟩⟩,?_⟩
      rintro s0 m0 ⟨nl,sn,D,hv,F0,F1,F3,hD,hs2,hh,rfl,hmeas⟩
      have hlh : (optA hv).1.length ≤ 1000 := by
       cases hv with
       | none=>exact Nat.zero_le _
       | some v =>
        have hm := (minL_some.1 hh.symm).1
        obtain ⟨e,he,h⟩ := List.mem_map.1 hm
        have := (hLo _ (least_mem (hD e (List.mem_filter.1 he).1))).2.2.1
        rw [h] at this
        show v.1.length ≤ 1000
        omega
      have hend : (∀ v,keyIs kkS v = true → hasW (least L) v = true → sn v = true) → hv = hereW p s to k := fun h=>by
       rw [hh,hereW,← hL]
       exact toW_congr (norm_of hD hs2 h)
      have hnx : ext p (norm L) = layer p s (k + 1) := by rw [hL]; rfl
      refine ⟨fun w5=>?_,?_⟩
      ·conv => whnf
       conv=>whnf
       (conv=>whnf); refine ifB_intro (fun w6=>?_) (fun w6=>?_)
       ·conv=>whnf
        conv=>whnf
        (conv=>whnf); refine ifB_not ?_
        conv=>whnf
        conv=>whnf
        (conv=>whnf); refine ifB_intro (fun w7=>?_) (fun w7=>?_)
        ·conv=>whnf
         conv=>whnf
         (conv=>whnf); refine ifB_dec (fun w8=>?_) (fun w8=>?_)
         ·conv=>whnf
          conv=>whnf
          (conv=>whnf); refine .inl ⟨_,_,byX rfl (h72),?_⟩
          conv=>whnf
          conv=>whnf
          (conv=>whnf); refine ⟨inK64 (by omega) (by omega),?_⟩
          have hH := hend w5
          cases hv with
          | none=>exact absurd w6 nofun
          | some v =>
           cases B with
           | none=>exact absurd w7 nofun
           | some b0 =>
            conv=>whnf
            conv=>whnf
            (conv=>whnf); refine ⟨_,_,⟨⟨k + 1,some v,ext p (norm L),H0,G0,_,_,_,by omega,hnx,(by unfold bestW; rw [← hB,← hH]; exact (if_pos w8).symm),rfl,rfl⟩,by omega⟩,⟨⟨.inl rfl,rfl,rfl,rfl⟩,⟨bA,⟨bA,⟨bA,⟨bA,⟨bA,trivial⟩⟩⟩⟩⟩,⟨⟨rfl,rfl,rfl,trivial,.inl rfl,fun _=>⟨rfl,.inl rfl⟩⟩,trivial⟩⟩⟩
         ·conv=>whnf
          conv=>whnf
          (conv=>whnf); refine .inl ⟨_,_,byX rfl (h72),?_⟩
          conv=>whnf
          conv=>whnf
          (conv=>whnf); refine ⟨inK64 (by omega) (by omega),?_⟩
          have hH := hend w5
          cases hv with
          | none=>exact absurd w6 nofun
          | some v =>
           cases B with
           | none=>exact absurd w7 nofun
           | some b0 =>
            conv=>whnf
            conv=>whnf
            (conv=>whnf); refine ⟨_,_,⟨⟨k + 1,some b0,ext p (norm L),H0,G0,_,_,_,by omega,hnx,(by unfold bestW; rw [← hB,← hH]; exact (if_neg w8).symm),rfl,rfl⟩,by omega⟩,⟨⟨.inl rfl,rfl,rfl,rfl⟩,⟨bA,⟨bA,⟨bA,⟨bA,⟨bA,trivial⟩⟩⟩⟩⟩,⟨⟨rfl,rfl,rfl,trivial,.inl rfl,fun _=>⟨rfl,.inl rfl⟩⟩,trivial⟩⟩⟩
        ·conv=>whnf
         conv=>whnf
         (conv=>whnf); refine .inl ⟨_,_,byX rfl (h72),?_⟩
         conv=>whnf
         conv=>whnf
         (conv=>whnf); refine ⟨inK64 (by omega) (by omega),?_⟩
         have hH := hend w5
         cases hv with
         | none=>exact absurd w6 nofun
         | some v =>
          cases B with
          | some b0=>exact absurd w7 nofun
          | none =>
           conv=>whnf
           conv=>whnf
           (conv=>whnf); refine ⟨_,_,⟨⟨k + 1,some v,ext p (norm L),H0,G0,_,_,_,by omega,hnx,(by unfold bestW; rw [← hB,← hH]; rfl),rfl,rfl⟩,by omega⟩,⟨⟨.inl rfl,rfl,rfl,rfl⟩,⟨bA,⟨bA,⟨bA,⟨bA,⟨bA,trivial⟩⟩⟩⟩⟩,⟨⟨rfl,rfl,rfl,trivial,.inl rfl,fun _=>⟨rfl,.inl rfl⟩⟩,trivial⟩⟩⟩
       ·conv=>whnf
        conv=>whnf
        (conv=>whnf); refine .inl ⟨_,_,byX rfl (h72),?_⟩
        conv=>whnf
        conv=>whnf
        (conv=>whnf); refine ⟨inK64 (by omega) (by omega),?_⟩
        have hH := hend w5
        cases hv with
        | some v=>exact absurd w6 nofun
        | none =>
         conv=>whnf
         conv=>whnf
         (conv=>whnf); refine ⟨_,_,⟨⟨k + 1,B,ext p (norm L),H0,G0,_,_,_,by omega,hnx,(by unfold bestW; rw [← hB,← hH]; rfl),rfl,rfl⟩,by omega⟩,⟨⟨.inl rfl,rfl,rfl,rfl⟩,⟨bA,⟨bA,⟨bA,⟨bA,⟨bA,trivial⟩⟩⟩⟩⟩,⟨⟨rfl,rfl,rfl,trivial,.inl rfl,fun _=>⟨rfl,.inl rfl⟩⟩,trivial⟩⟩⟩
      ·intro a b g1 g2 n gn
       have g1 : (least L (a,b)).isSome = true := g1
       obtain ⟨w,hw⟩ := Option.isSome_iff_exists.1 g1
       have hwa : wAt L (a,b) = w := by unfold wAt; rw [hw]; rfl
       have he := (hLo _ (least_mem hw)).2.2.1
       rw [← hwa] at hw he
       clear hwa
       have h71 := S64 (wAt L (a,b)) (optA hv) (by show (wAt L (a,b)).1.length ≤ 1000; have : (wAt L (a,b)).1.length = k := he; omega) hlh
       have hD' : ∀ e ∈ D ++ [((a,b),wAt L (a,b))],least L e.1 = some e.2 := fun e he=>(List.mem_append.1 he).elim (hD e) fun h=>by rw [List.mem_singleton.1 h]; exact hw
       have gn : nl = n + 1 := gn
       conv=>whnf
       conv=>whnf
       conv=>whnf
       (conv=>whnf); refine ifB_beq (fun w5=>?_) (fun w5=>?_)
       ·conv=>whnf
        conv=>whnf
        conv=>whnf
        (conv=>whnf); refine ifB_not ?_
        conv=>whnf
        conv=>whnf
        conv=>whnf
        (conv=>whnf); refine ifB_intro (fun w6=>?_) (fun w6=>?_)
        ·conv=>whnf
         conv=>whnf
         conv=>whnf
         (conv=>whnf); refine .inl ⟨_,_,byX rfl (Sound1.pl (h71) rfl),?_⟩
         conv=>whnf
         conv=>whnf
         conv=>whnf
         (conv=>whnf); refine ifB_dec (fun w7=>?_) (fun w7=>?_)
         ·have hq : some (wAt L (a,b)) = minL (toW to (D ++ [((a,b),wAt L (a,b))])) := by
           rw [toW_snoc,if_pos w5,minL_snoc,← hh]
           cases hv with
           | none=>exact absurd w6 nofun
           | some v=>exact (if_pos (decide_eq_true w7)).symm
          conv=>whnf
          conv=>whnf
          conv=>whnf
          (conv=>whnf); refine ⟨_,_,⟨⟨n,fun v=>Bool.or (sn v) (opEv.keyEq v (keyV (a,b))),D ++ [((a,b),wAt L (a,b))],some (wAt L (a,b)),_,_,_,hD',seen_put (e := ((a,b),wAt L (a,b))) hs2,hq,rfl,rfl⟩,by omega⟩,⟨⟨.inl rfl,rfl,rfl,rfl⟩,⟨bA,⟨bA,⟨bA,⟨bA,⟨bA,⟨bA,trivial⟩⟩⟩⟩⟩⟩,⟨⟨rfl,rfl,rfl,trivial,.inl rfl,fun _=>⟨rfl,.inl rfl⟩⟩,⟨⟨rfl,rfl,rfl,⟨rfl,fun _=>rfl⟩,.inr rfl,fun _=>⟨rfl,.inl rfl⟩⟩,trivial⟩⟩⟩⟩
         ·have hq : hv = minL (toW to (D ++ [((a,b),wAt L (a,b))])) := by
           rw [toW_snoc,if_pos w5,minL_snoc,← hh]
           cases hv with
           | none=>exact absurd w6 nofun
           | some v=>exact (if_neg (by rw [show wlt (wAt L (a,b)) v = false from decide_eq_false w7]; nofun)).symm
          conv=>whnf
          conv=>whnf
          conv=>whnf
          (conv=>whnf); refine ⟨_,_,⟨⟨n,fun v=>Bool.or (sn v) (opEv.keyEq v (keyV (a,b))),D ++ [((a,b),wAt L (a,b))],hv,_,_,_,hD',seen_put (e := ((a,b),wAt L (a,b))) hs2,hq,rfl,rfl⟩,by omega⟩,⟨⟨.inl rfl,rfl,rfl,rfl⟩,⟨bA,⟨bA,⟨bA,⟨bA,⟨bA,⟨bA,trivial⟩⟩⟩⟩⟩⟩,⟨⟨rfl,rfl,rfl,trivial,.inl rfl,fun _=>⟨rfl,.inl rfl⟩⟩,⟨⟨rfl,rfl,rfl,⟨rfl,fun _=>rfl⟩,.inr rfl,fun _=>⟨rfl,.inl rfl⟩⟩,trivial⟩⟩⟩⟩
        ·have hq : some (wAt L (a,b)) = minL (toW to (D ++ [((a,b),wAt L (a,b))])) := by
          rw [toW_snoc,if_pos w5,minL_snoc,← hh]
          cases hv with
          | none=>rfl
          | some v=>exact absurd w6 nofun
         conv=>whnf
         conv=>whnf
         conv=>whnf
         (conv=>whnf); refine ⟨_,_,⟨⟨n,fun v=>Bool.or (sn v) (opEv.keyEq v (keyV (a,b))),D ++ [((a,b),wAt L (a,b))],some (wAt L (a,b)),_,_,_,hD',seen_put (e := ((a,b),wAt L (a,b))) hs2,hq,rfl,rfl⟩,by omega⟩,⟨⟨.inl rfl,rfl,rfl,rfl⟩,⟨bA,⟨bA,⟨bA,⟨bA,⟨bA,⟨bA,trivial⟩⟩⟩⟩⟩⟩,⟨⟨rfl,rfl,rfl,trivial,.inl rfl,fun _=>⟨rfl,.inl rfl⟩⟩,⟨⟨rfl,rfl,rfl,⟨rfl,fun _=>rfl⟩,.inr rfl,fun _=>⟨rfl,.inl rfl⟩⟩,trivial⟩⟩⟩⟩
       ·have hq : hv = minL (toW to (D ++ [((a,b),wAt L (a,b))])) := by
         rw [toW_snoc,if_neg w5,List.append_nil]; exact hh
        conv=>whnf
        conv=>whnf
        conv=>whnf
        (conv=>whnf); refine ⟨_,_,⟨⟨n,fun v=>Bool.or (sn v) (opEv.keyEq v (keyV (a,b))),D ++ [((a,b),wAt L (a,b))],hv,_,_,_,hD',seen_put (e := ((a,b),wAt L (a,b))) hs2,hq,rfl,rfl⟩,by omega⟩,⟨⟨.inl rfl,rfl,rfl,rfl⟩,⟨bA,⟨bA,⟨bA,⟨bA,⟨bA,⟨bA,trivial⟩⟩⟩⟩⟩⟩,⟨⟨rfl,rfl,rfl,trivial,.inl rfl,fun _=>⟨rfl,.inl rfl⟩⟩,⟨⟨rfl,rfl,rfl,⟨rfl,fun _=>rfl⟩,.inr rfl,fun _=>⟨rfl,.inl rfl⟩⟩,trivial⟩⟩⟩⟩
     ·conv=>whnf
      (conv=>whnf); refine ⟨[],by kernel_rfl,?_⟩
      conv=>whnf
      (conv=>whnf); refine .inl ⟨_,_,byX rfl (Sound1.pl (S45 _ _) rfl),?_⟩
      conv=>whnf
      (conv=>whnf); refine ⟨?_,nofun⟩
      have hk11 : k = 11 := by omega
      subst hk11
      unfold fastR
      rw [if_neg (not_not_intro hE),← hB]
      cases B with
      | none=>exact ave_tup3 ⟨rfl,rfl,fun _ _=>rfl⟩ rfl rfl
      | some v=>exact ave_tup3 ⟨rfl,rfl,fun _ _=>rfl⟩ rfl rfl
   ·(conv=>whnf); refine .inl ⟨_,_,byX rfl (Sound1.pl (S45 _ _) rfl),?_⟩
    (conv=>whnf); refine ⟨?_,nofun⟩
    have hE : fastE p s to = 20 := by
     unfold fastE
     rw [if_neg (not_not_intro h1),if_neg (not_not_intro h2),if_neg (fun h=>w1 h.1)]
    exact fast_bad hE (by decide)
  ·have hE : fastE p s to = idxE p.steps.length to := by unfold fastE; rw [if_neg (not_not_intro h1),if_pos h2]
   rw [h1] at h67
   have hm := hg.m
   have h68 := fun {f : Nat → List AV}=>@h68 (by omega) f
   refine sound (d := 2) tok2 mixed2 Tryz.func31 (by kernel_rfl) (by kernel_rfl) ?_
   (conv=>whnf); refine .inl ⟨_,_,byX rfl (h67),?_⟩
   (conv=>whnf); refine .inl ⟨_,_,byX rfl (Sound1.pl (h68 rfl) rfl),?_⟩
   (conv=>whnf); refine ifB_beq (fun w1=>?_) (fun w1=>?_)
   ·(exfalso; omega)
   ·(conv=>whnf); refine ifB_bne (fun w2=>?_) (fun w2=>?_)
    ·(conv=>whnf); refine ⟨?_,nofun⟩
     exact fast_bad hE h2
    ·(exfalso; omega)
 ·have hE : fastE p s to = openE p s noF := by unfold fastE; rw [if_pos h1]
  refine sound (d := 2) tok2 mixed2 Tryz.func31 (by kernel_rfl) (by kernel_rfl) ?_
  (conv=>whnf); refine .inl ⟨_,_,byX rfl (h67),?_⟩
  (conv=>whnf); refine ifB_beq (fun w1=>?_) (fun w1=>?_)
  ·(exfalso; omega)
  ·(conv=>whnf); refine ifB_beq (fun w2=>?_) (fun w2=>?_)
   ·(exfalso; omega)
   ·(conv=>whnf); refine ifB_bne (fun w3=>?_) (fun w3=>?_)
    ·(conv=>whnf); refine ⟨?_,nofun⟩
     exact fast_bad hE h1
    ·(exfalso; omega)
end Go.Tr

/- Contracts of chapter 7: halls and their rules. Conditions: none. -/
namespace Go.Tr
open Go Go.Proofs
set_option maxRecDepth 20000
set_option maxHeartbeats 8000000

abbrev Rul := Int × Int × Int
structure Hal where
  mach : Int
  rules : List Rul
def rulC (r : Rul) : List AV := [i64 r.1,i64 r.2.1,i64 r.2.2]
def rul0 : Rul := (0,0,0)
def rulesA (l : List Rul) : AV := .rslice 3 l.length fun i=>rulC (l.getD i rul0)
def hallC (h : Hal) : List AV := [i64 h.mach,rulesA h.rules]
def hallA (h : Hal) : AV := .agg (hallC h)

def isStepB (n : Int) : Bool := decide (0 ≤ n) && decide (n ≤ 9)
theorem isStep_dec (n : Int) : decide (0 ≤ n ∧ n ≤ 9) = isStepB n := by simp [isStepB]
theorem S98 (n : Int) : SP 98 [i64 n] (vb (isStepB n)) false := by
 have h := S59 n 0 9
 refine sound (d := 2) tok2 mixed2 Tryz.func98 (by kernel_rfl) (by kernel_rfl) ?_
 (conv=>whnf); refine .inl ⟨_,_,byX rfl (Sound1.pl (h) rfl),?_⟩
 (conv=>whnf); refine ⟨?_,nofun⟩
 exact endb (isStep_dec n)
theorem S97 (n : Int) : SP 97 [i64 n] (vb (!isStepB n)) false := by
 have h := S98 n
 refine sound (d := 2) tok2 mixed2 Tryz.func97 (by kernel_rfl) (by kernel_rfl) ?_
 (conv=>whnf); refine .inl ⟨_,_,byX rfl (Sound1.pl (h) rfl),?_⟩
 (conv=>whnf); refine ⟨?_,nofun⟩
 rfl
def ruleE (r : Rul) : Int := firstOf [if isStepB r.1 && isStepB r.2.1 then 0 else 6,if decide (0 ≤ r.2.2 ∧ r.2.2 ≤ 1) then 0 else 15]
def ruleAt (h : Hal) (i : Nat) : Int := ruleE (h.rules.getD i rul0)
def headH (h : Hal) : Int := firstOf [if decide (1 ≤ h.mach ∧ h.mach ≤ 6) then 0 else 2,if decide ((h.rules.length : Int) ≤ 12) then 0 else 8]
def checkH (h : Hal) : Int × Int := if headH h ≠ 0 then (0,headH h) else scan (ruleAt h) h.rules.length 0
theorem checkH_1 {h : Hal} (h0 : ¬ headH h = 0) : checkH h = (0,headH h) := if_pos h0
theorem checkH_2 {h : Hal} (h0 : headH h = 0) {k : Nat} {e : Int} (hk : k < h.rules.length) (hf : ∀ j,j < k → ruleAt h j = 0) (he : ruleAt h k = e) (hne : ¬ e = 0) : checkH h = (↑k,e) := by
  unfold checkH
  rw [if_neg (not_not_intro h0),scan_at hk hf (by rw [he]; exact hne),he]
theorem checkH_3 {h : Hal} (h0 : headH h = 0) (hf : ∀ j,j < h.rules.length → ruleAt h j = 0) : checkH h = (0,0) := by
  unfold checkH
  rw [if_neg (not_not_intro h0),scan_all hf]
theorem S96 (h : Hal) (hl : h.rules.length ≤ 1000) : SP 96 [hallA h] (t2 (checkH h).1 (checkH h).2) false := by
 have h78 := S59 h.mach 1 6
 refine sound (d := 2) tok2 mixed2 Tryz.func96 (by kernel_rfl) (by kernel_rfl) ?_
 (conv=>whnf); refine ⟨[],by kernel_rfl,?_⟩
 (conv=>whnf); refine .inl ⟨_,_,byX rfl (Sound1.pl (h78) rfl),?_⟩
 (conv=>whnf); refine .inl ⟨_,_,byX rfl (Sound1.pl (S45 _ _) rfl),?_⟩
 (conv=>whnf); refine .inl ⟨_,_,byX rfl (Sound1.pl (S45 _ _) rfl),?_⟩
 (conv=>whnf); refine .inl ⟨_,_,byX rfl (Sound1.pl (S57_2 _ _ ⟨rfl,rfl⟩) rfl),?_⟩
 (conv=>whnf); refine ifB_bne (fun w1=>?_) (fun w1=>?_)
 ·(conv=>whnf); refine ⟨?_,nofun⟩
  exact endp (checkH_1 (h := h) w1)
 ·(conv=>whnf); refine ⟨[],[23,24,25],fun st mq=>∃ (k : Nat) (F1 : Nat → List AV),(k ≤ h.rules.length) ∧ (∀ j,j < k → ruleAt h j = 0) ∧ st = ⟨[(23,rulesA h.rules),(24,i64 h.rules.length),(25,i64 k)],⟨[⟨2,1,fun _=>hallC h,0,false,true,true⟩,⟨1,2,F1,0,false,true,false⟩],[],none,0⟩,[]⟩ ∧ mq = h.rules.length - k,
   ⟨_,_,⟨0,_,by omega,inv_none,rfl,rfl⟩,⟨⟨.inl rfl,rfl,rfl,rfl⟩,⟨bA,⟨bA,trivial⟩⟩,trivial⟩⟩,?_⟩
  rintro s0 m0 ⟨k,F1,hk,hf,rfl,hmeas⟩
  by_cases hlt : k < h.rules.length
  ·have h84a := S98 (h.rules.getD k rul0).1
   have h84b := S98 (h.rules.getD k rul0).2.1
   have h78k := S59 (h.rules.getD k rul0).2.2 0 1
   conv=>whnf
   (conv=>whnf); refine ifB_dec (fun w2=>?_) (fun w2=>?_)
   ·conv=>whnf
    (conv=>whnf); refine ⟨⟨(by omega),(by omega)⟩,?_⟩
    conv=>whnf
    (conv=>whnf); refine ⟨[],by kernel_rfl,?_⟩
    conv=>whnf
    (conv=>whnf); refine .inl ⟨_,_,byX rfl (Sound1.pl (h84a) rfl),?_⟩
    conv=>whnf
    (conv=>whnf); refine ifB_intro (fun w3=>?_) (fun w3=>?_)
    ·conv=>whnf
     (conv=>whnf); refine .inl ⟨_,_,byX rfl (Sound1.pl (h84b) rfl),?_⟩
     conv=>whnf
     (conv=>whnf); refine .inl ⟨_,_,byX rfl (Sound1.pl (S45 _ _) rfl),?_⟩
     conv=>whnf
     (conv=>whnf); refine .inl ⟨_,_,byX rfl (Sound1.pl (h78k) rfl),?_⟩
     conv=>whnf
     (conv=>whnf); refine .inl ⟨_,_,byX rfl (Sound1.pl (S45 _ _) rfl),?_⟩
     conv=>whnf
     (conv=>whnf); refine .inl ⟨_,_,byX rfl (Sound1.pl (S57_2 _ _ ⟨rfl,rfl⟩) rfl),?_⟩
     conv=>whnf
     (conv=>whnf); refine ifB_bne (fun w4=>?_) (fun w4=>?_)
     ·conv=>whnf
      (conv=>whnf); refine ⟨?_,nofun⟩
      exact endp (checkH_2 w1 hlt hf (by show ruleE (h.rules.getD k rul0) = _; unfold ruleE; rw [show isStepB (h.rules.getD k rul0).1 = true from w3,Bool.true_and]) w4)
     ·conv=>whnf
      (conv=>whnf); refine ⟨inK64 (by omega) (by omega),?_⟩
      conv=>whnf
      (conv=>whnf); refine ⟨_,_,⟨⟨k + 1,_,by omega,inv_next hf (by show ruleE (h.rules.getD k rul0) = _; unfold ruleE; rw [show isStepB (h.rules.getD k rul0).1 = true from w3,Bool.true_and]; exact w4),rfl,rfl⟩,by omega⟩,⟨⟨.inl rfl,rfl,rfl,rfl⟩,⟨bA,⟨bA,trivial⟩⟩,trivial⟩⟩
    ·conv=>whnf
     (conv=>whnf); refine .inl ⟨_,_,byX rfl (Sound1.pl (S45 _ _) rfl),?_⟩
     conv=>whnf
     (conv=>whnf); refine .inl ⟨_,_,byX rfl (Sound1.pl (h78k) rfl),?_⟩
     conv=>whnf
     (conv=>whnf); refine .inl ⟨_,_,byX rfl (Sound1.pl (S45 _ _) rfl),?_⟩
     conv=>whnf
     (conv=>whnf); refine .inl ⟨_,_,byX rfl (Sound1.pl (S57_2 _ _ ⟨rfl,rfl⟩) rfl),?_⟩
     conv=>whnf
     (conv=>whnf); refine ⟨?_,nofun⟩
     exact endp (checkH_2 w1 hlt hf (by show ruleE (h.rules.getD k rul0) = _; unfold ruleE; rw [show isStepB (h.rules.getD k rul0).1 = false from w3]; rfl) (by show ¬ (6 : Int) = 0; decide))
   ·(exfalso; omega)
  ·have e : k = h.rules.length := by omega
   subst e
   conv=>whnf
   (conv=>whnf); refine ifB_dec (fun w2=>?_) (fun w2=>?_)
   ·(exfalso; omega)
   ·conv=>whnf
    (conv=>whnf); refine ⟨?_,nofun⟩
    exact endp (checkH_3 w1 hf)

def stepsH (h : Hal) (l : List Int) : Int := if ¬ (l.length : Int) = h.mach then 10 else if l.all isStepB then 0 else 6
def openH (h : Hal) (l : List Int) : Int := if (checkH h).2 = 0 then stepsH h l else (checkH h).2
theorem first3 (a b c : Int) : firstOf [a,b,c] = if a ≠ 0 then a else if b ≠ 0 then b else c := by
 unfold firstOf
 rw [first2]
 by_cases h : a = 0
 ·rw [if_pos h,if_neg (not_not_intro h)]
 ·rw [if_neg h,if_pos h]
theorem openH_form (h : Hal) (l : List Int) : firstOf [(checkH h).2,if decide ((l.length : Int) = h.mach) then 0 else 10,if l.all isStepB then 0 else 6] = openH h l := by
 rw [first3]
 unfold openH stepsH
 by_cases h0 : (checkH h).2 = 0
 ·rw [if_neg (not_not_intro h0),if_pos h0]
  by_cases h1 : (l.length : Int) = h.mach
  ·rw [decide_eq_true h1,if_neg (not_not_intro h1)]; rfl
  ·rw [decide_eq_false h1,if_pos h1]; rfl
 ·rw [if_pos h0,if_neg h0]
theorem S66 (h : Hal) (hl : h.rules.length ≤ 1000) (l : List Int) (hll : l.length ≤ 9223372036854775807) : SP 66 [hallA h,ints l] (i64 (openH h l)) false := by
 have h33 := S96 h hl
 have h76 := S89n l hll 97 _ S97
 refine sound (d := 2) tok2 mixed2 Tryz.func66 (by kernel_rfl) (by kernel_rfl) ?_
 (conv=>whnf); refine .inl ⟨_,_,byX rfl (Sound1.pl (h33) rfl),?_⟩
 (conv=>whnf); refine .inl ⟨_,_,byX rfl (Sound1.pl (h76) rfl),?_⟩
 (conv=>whnf); refine .inl ⟨_,_,byX rfl (Sound1.pl (S45 _ _) rfl),?_⟩
 (conv=>whnf); refine .inl ⟨_,_,byX rfl (Sound1.pl (S45 _ _) rfl),?_⟩
 (conv=>whnf); refine .inl ⟨_,_,byX rfl (Sound1.pl (S57_3 _ _ _ ⟨rfl,rfl,rfl⟩) rfl),?_⟩
 (conv=>whnf); refine ⟨?_,nofun⟩
 refine endi (Eq.trans ?_ (openH_form h l))
 rw [any_not]; rfl
end Go.Tr

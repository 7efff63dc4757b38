/- Contracts of chapter 7: what all share. Conditions: none. -/
import Derived.Test.YtmichdmpmnhnaaaGreatDoorTr06
import Derived.Test.YtmichdmpmnhnaaaGreatDoorProg
set_option linter.unusedSectionVars false
set_option linter.unnecessarySimpa false
set_option linter.unusedVariables false
set_option linter.unusedSimpArgs false

namespace Go.Tr
open Go Go.Proofs

abbrev i64 (n : Int) : AV := .val (.int .i64 n)
abbrev vb (b : Bool) : AV := .val (.bool b)
abbrev sv (s : ByteArray) : AV := .val (.string s)
abbrev u8 (n : Int) : AV := .val (.int .u8 n)

theorem mixed2 : Tryz.prog.follows .mixedOrders = true := by kernel_rfl
def pow10V : List Value := (List.range 20).map fun i=>.int .u64 ((10 ^ i : Nat) : Int)
instance gtab : GTab := ⟨fun g=>match g with | 0=>some [i64 (-1),vb false] | 2=>some (pow10V.map .val) | 3=>some [.err] | 4=>some [.err] | _=>none,False,fun g=>match g with | 1=>true | _=>false⟩

set_option maxRecDepth 20000
set_option maxHeartbeats 8000000
abbrev SP := Sound1 Tryz.prog

def K2 (t : Nat) : Option (List LK) :=
  bif Nat.beq t 23 then some [.int .i64,.int .i64] else bif Nat.beq t 62 then some [.int .i64,.int .i64] else bif Nat.beq t 51 then some [.int .i64,.bool] else bif Nat.beq t 186 then some [.int .i64,.int .i64,.int .i64,.int .i64,.int .i64,.int .i64,.int .i64] else none
theorem tok2 : TOK Tryz.prog (TK Tryz.prog K2) := TOK_TK fun t ks h=>by
 unfold K2 at h
 cases e0 : Nat.beq t 23 with
 | true=>rw [e0] at h; cases h; cases Nat.eq_of_beq_eq_true e0; exact ⟨_,Tryz.underlying23,by kernel_rfl⟩
 | false =>
 rw [e0] at h
 cases e1 : Nat.beq t 62 with
 | true=>rw [e1] at h; cases h; cases Nat.eq_of_beq_eq_true e1; exact ⟨_,Tryz.underlying62,by kernel_rfl⟩
 | false =>
 rw [e1] at h
 cases e2 : Nat.beq t 51 with
 | true=>rw [e2] at h; cases h; cases Nat.eq_of_beq_eq_true e2; exact ⟨_,Tryz.underlying51,by kernel_rfl⟩
 | false =>
 rw [e2] at h
 cases e3 : Nat.beq t 186 with
 | true=>rw [e3] at h; cases h; cases Nat.eq_of_beq_eq_true e3; exact ⟨_,Tryz.underlying186,by kernel_rfl⟩
 | false=>rw [e3] at h; cases h

theorem byS {d : Nat} {f : FuncId} {args : List AV} {r : AV} {fr : Bool} (h : SP f args r fr) : (envOf Tryz.prog (TK Tryz.prog K2) d).S f args r fr := h
theorem not_t {b : Bool} (h : (!b) = true) : b = false := by cases b <;> simp_all
theorem not_f {b : Bool} (h : (!b) = false) : b = true := by cases b <;> simp_all

theorem S91 (x a b : Int) : SP 91 [i64 x,i64 a,i64 b] (vb (decide (a ≤ x ∧ x ≤ b))) false := by
 refine sound (d := 2) tok2 mixed2 Tryz.func91 (by kernel_rfl) (by kernel_rfl) ?_
 refine ifB_intro (fun h=>?_) (fun h=>?_)
 ·have h' : a ≤ x := of_decide_eq_true h
  refine ⟨?_,nofun⟩
  show vb (decide (x ≤ b)) = vb _
  simp [h']
 ·have h' : ¬ a ≤ x := of_decide_eq_false h
  refine ⟨?_,nofun⟩
  show vb false = vb _
  simp [h']

theorem S10 (x a b : Int) : SP 10 [i64 x,i64 a,i64 b] (vb (decide (a ≤ x ∧ x ≤ b))) false := by
 refine sound (d := 2) tok2 mixed2 Tryz.func10 (by kernel_rfl) (by kernel_rfl) ?_
 refine ifB_intro (fun h=>?_) (fun h=>?_)
 ·have h' : a ≤ x := of_decide_eq_true h
  refine ⟨?_,nofun⟩
  show vb (decide (x ≤ b)) = vb _
  simp [h']
 ·have h' : ¬ a ≤ x := of_decide_eq_false h
  refine ⟨?_,nofun⟩
  show vb false = vb _
  simp [h']

theorem S49 (c : Bool) (e : Int) : SP 49 [vb c,i64 e] (i64 (if c then 0 else e)) false := by
 refine sound (d := 2) tok2 mixed2 Tryz.func49 (by kernel_rfl) (by kernel_rfl) ?_
 refine ifB_intro (fun h=>?_) (fun h=>?_)
 ·subst h; refine ⟨?_,nofun⟩; rfl
 ·subst h; refine ⟨?_,nofun⟩; rfl

def firstOf : List Int → Int
  | []=>0
  | x :: r=>if x = 0 then firstOf r else x
theorem firstOf_drop (l : List Int) (k : Nat) (h : k < l.length) : firstOf (l.drop k) = if l.getD k 0 = 0 then firstOf (l.drop (k+1)) else l.getD k 0 := by
  rw [List.drop_eq_getElem_cons h,firstOf]; simp [List.getD,h]
def ints (l : List Int) : AV := .rslice 1 l.length fun i=>[i64 (l.getD i 0)]

theorem S69 (l : List Int) (hl : l.length ≤ 1000000000) : SP 69 [ints l] (i64 (firstOf l)) false := by
 refine sound (d := 2) tok2 mixed2 Tryz.func69 (by kernel_rfl) (by kernel_rfl) ?_
 (conv=>whnf); refine ⟨[],[5,6,7],fun st mq=>∃ (k : Nat),(k ≤ l.length) ∧ (firstOf (l.drop k) = firstOf l) ∧ st = ⟨[(5,ints l),(6,i64 l.length),(7,i64 k)],⟨[],[],none,0⟩,[]⟩ ∧ mq = l.length - k,
  ⟨_,_,⟨0,by omega,rfl,rfl,rfl⟩,⟨⟨.inl rfl,rfl,rfl,rfl⟩,trivial,trivial⟩⟩,?_⟩
 rintro s0 m0 ⟨k,hk,hf,rfl,hmeas⟩
 by_cases hlt : k < l.length
 ·have hd := firstOf_drop l k hlt
  conv=>whnf
  (conv=>whnf); refine ifB_dec (fun w1=>?_) (fun w1=>?_)
  ·conv=>whnf
   (conv=>whnf); refine ⟨⟨(by omega),(by omega)⟩,?_⟩
   conv=>whnf
   (conv=>whnf); refine ifB_bne (fun w2=>?_) (fun w2=>?_)
   ·conv=>whnf
    (conv=>whnf); refine ⟨?_,nofun⟩
    rw [if_neg (show ¬ l.getD k 0 = 0 from w2)] at hd
    show i64 _ = i64 _
    rw [← hf,hd]; rfl
   ·conv=>whnf
    (conv=>whnf); refine ⟨inK64 (by omega) (by omega),?_⟩
    rw [if_pos (show l.getD k 0 = 0 from w2)] at hd
    conv=>whnf
    (conv=>whnf); refine ⟨_,_,⟨⟨k + 1,by omega,hd.symm.trans hf,rfl,rfl⟩,by omega⟩,⟨⟨.inl rfl,rfl,rfl,rfl⟩,trivial,trivial⟩⟩
  ·(exfalso; omega)
 ·have e : k = l.length := by omega
  subst e
  conv=>whnf
  (conv=>whnf); refine ifB_dec (fun w1=>?_) (fun w1=>?_)
  ·(exfalso; omega)
  ·conv=>whnf
   (conv=>whnf); refine ⟨?_,nofun⟩
   simp [firstOf] at hf
   show i64 _ = i64 _
   rw [← hf]

theorem S92 (l : List Int) (hl : l.length ≤ 1000000000) : SP 92 [ints l] (i64 (firstOf l)) false := by
 refine sound (d := 2) tok2 mixed2 Tryz.func92 (by kernel_rfl) (by kernel_rfl) ?_
 (conv=>whnf); refine ⟨[],[3,6,7,8],fun st mq=>∃ (k : Nat),(k ≤ l.length) ∧ (firstOf (l.drop k) = firstOf l) ∧ st = ⟨[(3,i64 0),(6,ints l),(7,i64 l.length),(8,i64 k)],⟨[],[],none,0⟩,[]⟩ ∧ mq = l.length - k,
  ⟨_,_,⟨0,by omega,rfl,rfl,rfl⟩,⟨⟨.inl rfl,rfl,rfl,rfl⟩,trivial,trivial⟩⟩,?_⟩
 rintro s0 m0 ⟨k,hk,hf,rfl,hmeas⟩
 by_cases hlt : k < l.length
 ·have hd := firstOf_drop l k hlt
  conv=>whnf
  (conv=>whnf); refine ifB_dec (fun w1=>?_) (fun w1=>?_)
  ·conv=>whnf
   (conv=>whnf); refine ⟨⟨(by omega),(by omega)⟩,?_⟩
   conv=>whnf
   (conv=>whnf); refine ifB_bne (fun w2=>?_) (fun w2=>?_)
   ·conv=>whnf
    (conv=>whnf); refine ⟨?_,nofun⟩
    rw [if_neg (show ¬ l.getD k 0 = 0 from w2)] at hd
    show i64 _ = i64 _
    rw [← hf,hd]; rfl
   ·conv=>whnf
    (conv=>whnf); refine ⟨inK64 (by omega) (by omega),?_⟩
    rw [if_pos (show l.getD k 0 = 0 from w2)] at hd
    conv=>whnf
    (conv=>whnf); refine ⟨_,_,⟨⟨k + 1,by omega,hd.symm.trans hf,rfl,rfl⟩,by omega⟩,⟨⟨.inl rfl,rfl,rfl,rfl⟩,trivial,trivial⟩⟩
  ·(exfalso; omega)
 ·have e : k = l.length := by omega
  subst e
  conv=>whnf
  (conv=>whnf); refine ifB_dec (fun w1=>?_) (fun w1=>?_)
  ·(exfalso; omega)
  ·conv=>whnf
   (conv=>whnf); refine ⟨?_,nofun⟩
   simp [firstOf] at hf
   show i64 _ = i64 _
   rw [← hf]

def strs (l : List ByteArray) : AV := .rslice 1 l.length fun i=>[sv (l.getD i ByteArray.empty)]
def hasS (l : List ByteArray) (s : ByteArray) : Bool := l.any fun x=>x.toList == s.toList
def hasI (l : List Int) (x : Int) : Bool := l.any fun y=>y == x

def idxI : List Int → Int → Nat → Int
  | [],_,_=>-1
  | y :: r,x,k=>if x = y then k else idxI r x (k + 1)
theorem idxI_has : ∀ (l : List Int) (x : Int) (k : Nat),decide (idxI l x k ≥ 0) = hasI l x
 | [],x,k=>by simp [idxI,hasI]
 | y :: r, x, k => by
  have ih := idxI_has r x (k + 1)
  unfold idxI hasI
  by_cases h : x = y
  ·subst h; simp
  ·rw [if_neg h,ih]
   have : (y == x) = false := by simp; exact fun e=>h e.symm
   simp [hasI,this]
theorem idxI_drop (l : List Int) (x : Int) (k : Nat) (h : k < l.length) : idxI (l.drop k) x k = if x = l.getD k 0 then (k : Int) else idxI (l.drop (k + 1)) x (k + 1) := by
  rw [List.drop_eq_getElem_cons h,idxI]; simp [List.getD,h]
theorem S116 (l : List Int) (hl : l.length ≤ 9223372036854775807) (x : Int) : SP 116 [ints l,i64 x] (i64 (idxI l x 0)) false := by
 refine sound (d := 2) tok2 mixed2 Tryz.func116 (by kernel_rfl) (by kernel_rfl) ?_
 (conv=>whnf); refine ⟨[],[0,1,7,8],fun st mq=>∃ (k : Nat),(k ≤ l.length) ∧ (idxI (l.drop k) x k = idxI l x 0) ∧ st = ⟨[(0,ints l),(1,i64 x),(7,i64 l.length),(8,i64 k)],⟨[],[],none,0⟩,[]⟩ ∧ mq = l.length - k,
  ⟨_,_,⟨0,by omega,rfl,rfl,rfl⟩,⟨⟨.inl rfl,rfl,rfl,rfl⟩,trivial,trivial⟩⟩,?_⟩
 rintro s0 m0 ⟨k,hk,hf,rfl,hmeas⟩
 by_cases hlt : k < l.length
 ·have hd := idxI_drop l x k hlt
  conv=>whnf
  (conv=>whnf); refine ifB_dec (fun w1=>?_) (fun w1=>?_)
  ·conv=>whnf
   (conv=>whnf); refine ⟨⟨(by omega),(by omega)⟩,?_⟩
   conv=>whnf
   (conv=>whnf); refine ifB_beq (fun w2=>?_) (fun w2=>?_)
   ·conv=>whnf
    (conv=>whnf); refine ⟨?_,nofun⟩
    have w2 : x = l.getD k 0 := w2
    rw [if_pos w2] at hd
    show i64 _ = i64 _
    rw [← hf,hd]
   ·conv=>whnf
    (conv=>whnf); refine ⟨inK64 (by omega) (by omega),?_⟩
    have w2 : ¬ x = l.getD k 0 := w2
    rw [if_neg w2] at hd
    conv=>whnf
    (conv=>whnf); refine ⟨_,_,⟨⟨k + 1,by omega,hd.symm.trans hf,rfl,rfl⟩,by omega⟩,⟨⟨.inl rfl,rfl,rfl,rfl⟩,trivial,trivial⟩⟩
  ·(exfalso; omega)
 ·have e : k = l.length := by omega
  subst e
  conv=>whnf
  (conv=>whnf); refine ifB_dec (fun w1=>?_) (fun w1=>?_)
  ·(exfalso; omega)
  ·conv=>whnf
   (conv=>whnf); refine ⟨?_,nofun⟩
   simp [idxI] at hf
   show i64 _ = i64 _
   rw [← hf]
theorem S83 (l : List Int) (hl : l.length ≤ 9223372036854775807) (x : Int) : SP 83 [ints l,i64 x] (vb (hasI l x)) false := by
 have h := S116 l hl x
 refine sound (d := 2) tok2 mixed2 Tryz.func83 (by kernel_rfl) (by kernel_rfl) ?_
 (conv=>whnf); refine .inl ⟨_,_,byX rfl (Sound1.pl (h) rfl),?_⟩
 (conv=>whnf); refine ⟨?_,nofun⟩
 show vb (decide (idxI l x 0 ≥ 0)) = _
 rw [idxI_has]
def idxS : List ByteArray → ByteArray → Nat → Int
  | [],_,_=>-1
  | y :: r,x,k=>if x.toList = y.toList then k else idxS r x (k + 1)
theorem idxS_has : ∀ (l : List ByteArray) (x : ByteArray) (k : Nat),decide (idxS l x k ≥ 0) = hasS l x
 | [],x,k=>by simp [idxS,hasS]
 | y :: r, x, k => by
  have ih := idxS_has r x (k + 1)
  unfold idxS hasS
  by_cases h : x.toList = y.toList
  ·rw [if_pos h,h]; simp
  ·rw [if_neg h,ih]
   have : (y.toList == x.toList) = false := by simp; exact fun e=>h e.symm
   simp [hasS,this]
theorem idxS_drop (l : List ByteArray) (x : ByteArray) (k : Nat) (h : k < l.length) : idxS (l.drop k) x k = if x.toList = (l.getD k ByteArray.empty).toList then (k : Int) else idxS (l.drop (k + 1)) x (k + 1) := by
  rw [List.drop_eq_getElem_cons h,idxS]; simp [List.getD,h]
theorem S67 (l : List ByteArray) (hl : l.length ≤ 9223372036854775807) (x : ByteArray) : SP 67 [strs l,sv x] (i64 (idxS l x 0)) false := by
 refine sound (d := 2) tok2 mixed2 Tryz.func67 (by kernel_rfl) (by kernel_rfl) ?_
 (conv=>whnf); refine ⟨[],[0,1,7,8],fun st mq=>∃ (k : Nat),(k ≤ l.length) ∧ (idxS (l.drop k) x k = idxS l x 0) ∧ st = ⟨[(0,strs l),(1,sv x),(7,i64 l.length),(8,i64 k)],⟨[],[],none,0⟩,[]⟩ ∧ mq = l.length - k,
  ⟨_,_,⟨0,by omega,rfl,rfl,rfl⟩,⟨⟨.inl rfl,rfl,rfl,rfl⟩,trivial,trivial⟩⟩,?_⟩
 rintro s0 m0 ⟨k,hk,hf,rfl,hmeas⟩
 by_cases hlt : k < l.length
 ·have hd := idxS_drop l x k hlt
  conv=>whnf
  (conv=>whnf); refine ifB_dec (fun w1=>?_) (fun w1=>?_)
  ·conv=>whnf
   (conv=>whnf); refine ⟨⟨(by omega),(by omega)⟩,?_⟩
   conv=>whnf
   (conv=>whnf); refine ifB_intro (fun w2=>?_) (fun w2=>?_)
   ·conv=>whnf
    (conv=>whnf); refine ⟨?_,nofun⟩
    have w2 : x.toList = (l.getD k ByteArray.empty).toList := eq_of_beq w2
    rw [if_pos w2] at hd
    show i64 _ = i64 _
    rw [← hf,hd]
   ·conv=>whnf
    (conv=>whnf); refine ⟨inK64 (by omega) (by omega),?_⟩
    have w2 : ¬ x.toList = (l.getD k ByteArray.empty).toList := ne_of_beq_false w2
    rw [if_neg w2] at hd
    conv=>whnf
    (conv=>whnf); refine ⟨_,_,⟨⟨k + 1,by omega,hd.symm.trans hf,rfl,rfl⟩,by omega⟩,⟨⟨.inl rfl,rfl,rfl,rfl⟩,trivial,trivial⟩⟩
  ·(exfalso; omega)
 ·have e : k = l.length := by omega
  subst e
  conv=>whnf
  (conv=>whnf); refine ifB_dec (fun w1=>?_) (fun w1=>?_)
  ·(exfalso; omega)
  ·conv=>whnf
   (conv=>whnf); refine ⟨?_,nofun⟩
   simp [idxS] at hf
   show i64 _ = i64 _
   rw [← hf]
theorem S39 (l : List ByteArray) (hl : l.length ≤ 9223372036854775807) (x : ByteArray) : SP 39 [strs l,sv x] (vb (hasS l x)) false := by
 have h := S67 l hl x
 refine sound (d := 2) tok2 mixed2 Tryz.func39 (by kernel_rfl) (by kernel_rfl) ?_
 (conv=>whnf); refine .inl ⟨_,_,byX rfl (Sound1.pl (h) rfl),?_⟩
 (conv=>whnf); refine ⟨?_,nofun⟩
 show vb (decide (idxS l x 0 ≥ 0)) = _
 rw [idxS_has]

def cmpI (a b : Int) : Int := if a < b then -1 else if a > b then 1 else 0
theorem S118 (a : Int) : SP 118 [i64 a] (vb false) false := by
 refine sound (d := 2) tok2 mixed2 Tryz.func118 (by kernel_rfl) (by kernel_rfl) ?_
 (conv=>whnf); refine ⟨?_,nofun⟩
 show vb (a != a) = _
 simp
theorem S93 (a b : Int) : SP 93 [i64 a,i64 b] (i64 (cmpI a b)) false := by
 refine sound (d := 2) tok2 mixed2 Tryz.func93 (by kernel_rfl) (by kernel_rfl) ?_
 unfold cmpI
 (conv=>whnf); refine .inl ⟨_,_,byX rfl (Sound1.pl (S118 _) rfl),?_⟩
 (conv=>whnf); refine .inl ⟨_,_,byX rfl (Sound1.pl (S118 _) rfl),?_⟩
 (conv=>whnf); refine ifB_dec (fun w1=>?_) (fun w1=>?_)
 ·(conv=>whnf); refine ⟨?_,nofun⟩
  show i64 _ = i64 _
  rw [if_pos w1]
 ·(conv=>whnf); refine ifB_dec (fun w2=>?_) (fun w2=>?_)
  ·(conv=>whnf); refine ⟨?_,nofun⟩
   show i64 _ = i64 _
   rw [if_neg w1,if_pos w2]
  ·(conv=>whnf); refine ⟨?_,nofun⟩
   show i64 _ = i64 _
   rw [if_neg w1,if_neg w2]
def cmpL : List Int → List Int → Int
 | [],[]=>0
 | [],_ :: _=>-1
 | _ :: _,[]=>1
 | a :: l,b :: m=>if cmpI a b ≠ 0 then cmpI a b else cmpL l m
theorem cmpL_drop (l m : List Int) (k : Nat) (h : k < l.length) (h2 : k < m.length) : cmpL (l.drop k) (m.drop k) = if cmpI (l.getD k 0) (m.getD k 0) ≠ 0 then cmpI (l.getD k 0) (m.getD k 0) else cmpL (l.drop (k + 1)) (m.drop (k + 1)) := by
  rw [List.drop_eq_getElem_cons h,List.drop_eq_getElem_cons h2,cmpL]; simp [List.getD,h,h2]
theorem S94 (l m : List Int) (hl : l.length ≤ 9223372036854775807) (hm : m.length ≤ 9223372036854775807) : SP 94 [ints l,ints m] (i64 (cmpL l m)) false := by
 refine sound (d := 2) tok2 mixed2 Tryz.func94 (by kernel_rfl) (by kernel_rfl) ?_
 (conv=>whnf); refine ⟨[],[0,1,9,10,11],fun st mq=>∃ (k : Nat),(k ≤ l.length) ∧ (k ≤ m.length) ∧ (cmpL (l.drop k) (m.drop k) = cmpL l m) ∧ st = ⟨[(0,ints l),(1,ints m),(9,ints l),(10,i64 l.length),(11,i64 k)],⟨[],[],none,0⟩,[]⟩ ∧ mq = l.length - k,
  ⟨_,_,⟨0,by omega,by omega,rfl,rfl,rfl⟩,⟨⟨.inl rfl,rfl,rfl,rfl⟩,trivial,trivial⟩⟩,?_⟩
 rintro s0 m0 ⟨k,hk,hk2,hf,rfl,hmeas⟩
 by_cases hlt : k < l.length
 ·by_cases hlm : k < m.length
  ·have hd := cmpL_drop l m k hlt hlm
   have h115 := S93 (l.getD k 0) (m.getD k 0)
   conv=>whnf
   (conv=>whnf); refine ifB_dec (fun w1=>?_) (fun w1=>?_)
   ·conv=>whnf
    (conv=>whnf); refine ⟨⟨(by omega),(by omega)⟩,?_⟩
    conv=>whnf
    (conv=>whnf); refine ifB_dec (fun w2=>?_) (fun w2=>?_)
    ·(exfalso; omega)
    ·conv=>whnf
     (conv=>whnf); refine ⟨⟨(by omega),(by omega)⟩,?_⟩
     conv=>whnf
     (conv=>whnf); refine .inl ⟨_,_,byX rfl (Sound1.pl (h115) rfl),?_⟩
     conv=>whnf
     (conv=>whnf); refine ifB_bne (fun w3=>?_) (fun w3=>?_)
     ·conv=>whnf
      (conv=>whnf); refine ⟨?_,nofun⟩
      rw [if_pos w3] at hd
      show i64 _ = i64 _
      rw [← hf,hd]
     ·conv=>whnf
      (conv=>whnf); refine ⟨inK64 (by omega) (by omega),?_⟩
      rw [if_neg (by simpa using w3)] at hd
      conv=>whnf
      (conv=>whnf); refine ⟨_,_,⟨⟨k + 1,by omega,by omega,hd.symm.trans hf,rfl,rfl⟩,by omega⟩,⟨⟨.inl rfl,rfl,rfl,rfl⟩,trivial,trivial⟩⟩
   ·(exfalso; omega)
  ·have e : k = m.length := by omega
   conv=>whnf
   (conv=>whnf); refine ifB_dec (fun w1=>?_) (fun w1=>?_)
   ·conv=>whnf
    (conv=>whnf); refine ⟨⟨(by omega),(by omega)⟩,?_⟩
    conv=>whnf
    (conv=>whnf); refine ifB_dec (fun w2=>?_) (fun w2=>?_)
    ·conv=>whnf
     (conv=>whnf); refine ⟨?_,nofun⟩
     have hf' : cmpL (l.drop k) (m.drop k) = 1 := by
      rw [List.drop_eq_getElem_cons hlt,show m.drop k = [] from List.drop_of_length_le (by omega),cmpL]
     show i64 _ = i64 _
     rw [← hf,hf']
    ·(exfalso; omega)
   ·(exfalso; omega)
 ·have e : k = l.length := by omega
  have h0 : l.drop k = [] := List.drop_of_length_le (by omega)
  conv=>whnf
  (conv=>whnf); refine ifB_dec (fun w1=>?_) (fun w1=>?_)
  ·(exfalso; omega)
  ·conv=>whnf
   (conv=>whnf); refine ifB_dec (fun w2=>?_) (fun w2=>?_)
   ·conv=>whnf
    (conv=>whnf); refine ⟨?_,nofun⟩
    have h1 : cmpL (l.drop k) (m.drop k) = -1 := by
     rw [h0,List.drop_eq_getElem_cons (by omega : k < m.length),cmpL]
    show i64 _ = i64 _
    rw [← hf,h1]
   ·conv=>whnf
    (conv=>whnf); refine ⟨?_,nofun⟩
    have h1 : cmpL (l.drop k) (m.drop k) = 0 := by
     rw [h0,List.drop_of_length_le (by omega),cmpL]
    show i64 _ = i64 _
    rw [← hf,h1]
def byteAt (s : ByteArray) (i : Nat) : Int := ((s.data.toList.getD i 0).toNat : Nat)
def isLetter (c : Int) : Bool := decide (97 ≤ c ∧ c ≤ 122) || decide (65 ≤ c ∧ c ≤ 90)
def nameAt (i : Nat) (c : Int) : Bool := isLetter c || (!(decide (i = 0)) && (decide (c = 45) || decide (48 ≤ c ∧ c ≤ 57)))
def nameB (s : ByteArray) : Bool := decide (1 ≤ s.size ∧ s.size ≤ 12) && (List.range s.size).all fun i=>nameAt i (byteAt s i)
theorem nameB_false {s : ByteArray} {k : Nat} (hk : k < s.size) (h : nameAt k (byteAt s k) = false) : nameB s = false := by
 unfold nameB
 rw [Bool.and_eq_false_iff]
 refine .inr ?_
 rw [List.all_eq_false]
 exact ⟨k,List.mem_range.2 hk,by rw [h]; exact Bool.false_ne_true⟩
theorem nameB_all {s : ByteArray} (h : ∀ j,j < s.size → nameAt j (byteAt s j) = true) : nameB s = decide (1 ≤ (s.size : Int) ∧ (s.size : Int) ≤ 12) := by
 unfold nameB
 have : (List.range s.size).all (fun i=>nameAt i (byteAt s i)) = true := List.all_eq_true.2 fun i hi=>h i (List.mem_range.1 hi)
 rw [this,Bool.and_true]
 exact decide_eq_decide.2 (by omega)
theorem byteAt_lt (s : ByteArray) (i : Nat) : 0 ≤ byteAt s i ∧ byteAt s i ≤ 255 := by
 unfold byteAt
 have := (s.data.toList.getD i 0).toNat_lt
 omega

theorem S70 (s : ByteArray) (hs : s.size ≤ 9223372036854775807) : SP 70 [sv s] (vb (nameB s)) false := by
 generalize hR : nameB s = R
 refine sound (d := 2) tok2 mixed2 Tryz.func70 (by kernel_rfl) (by kernel_rfl) ?_
 refine ⟨[],[0,7,8,9],fun st m=>∃ k : Nat,k ≤ s.size ∧ (∀ j,j < k → nameAt j (byteAt s j) = true) ∧
   st = ⟨[(0,sv s),(7,.rslice 1 s.size fun i=>[u8 (byteAt s i)]),(8,i64 s.size),(9,i64 k)],⟨[],[],none,0⟩,[]⟩ ∧ m = s.size - k,
  ⟨_,_,⟨0,by omega,fun j hj=>absurd hj (Nat.not_lt_zero j),rfl,rfl⟩,⟨⟨.inl rfl,rfl,rfl,rfl⟩,trivial,trivial⟩⟩,?_⟩
 rintro s0 m0 ⟨k,hk,hf,rfl,rfl⟩
 have hc := byteAt_lt s k
 have hI : inK .i64 (byteAt s k) := inK64 (by omega) (by omega)
 have hk1 : inK .i64 ((k : Int) + 1) ∨ ¬ k < s.size := by
  by_cases h : k < s.size
  ·exact .inl (inK64 (by omega) (by omega))
  ·exact .inr h
 have bad : nameAt k (byteAt s k) = false → k < s.size → vb false = vb R := fun h hlt=>by rw [← hR,nameB_false hlt h]
 have good : nameAt k (byteAt s k) = true → ∀ j,j < k + 1 → nameAt j (byteAt s j) = true := fun h j hj=>by
  rcases Nat.lt_succ_iff_lt_or_eq.1 hj with h' | rfl
  ·exact hf j h'
  ·exact h
 unfold nameAt isLetter at bad good
 refine ifB_intro (fun h1=>?_) (fun h1=>?_)
 ·have hlt : k < s.size := by have := of_decide_eq_true h1; omega
  refine ⟨⟨by omega,by omega⟩,?_⟩
  refine ⟨hI,?_⟩
  refine .inl ⟨_,_,byS (d := 2) (S91 (byteAt s k) 97 122),?_⟩
  refine ifB_intro (fun h2=>?_) (fun h2=>?_)
  ·refine ⟨inK64 (by omega) (by omega),?_⟩
   refine ⟨_,_,⟨⟨k + 1,by omega,good (by rw [h2]; rfl),rfl,rfl⟩,by omega⟩,⟨⟨.inl rfl,rfl,rfl,rfl⟩,trivial,trivial⟩⟩
  ·refine ⟨hI,?_⟩
   refine .inl ⟨_,_,byS (d := 2) (S91 (byteAt s k) 65 90),?_⟩
   refine ifB_intro (fun h3=>?_) (fun h3=>?_)
   ·have h3' : decide (65 ≤ byteAt s k ∧ byteAt s k ≤ 90) = false := not_t h3
    rw [h2,h3'] at bad good
    refine ifB_intro (fun h4=>?_) (fun h4=>?_)
    ·have h4' : k = 0 := by have := eq_of_beq h4; omega
     refine ⟨?_,nofun⟩
     exact bad (by simp [h4']) hlt
    ·have h4' : ¬ k = 0 := by have := ne_of_beq_false h4; omega
     refine ifB_intro (fun h5=>?_) (fun h5=>?_)
     ·have h5' : ¬ byteAt s k = 45 := bne_iff_ne.1 h5
      refine ⟨hI,?_⟩
      refine .inl ⟨_,_,byS (d := 2) (S91 (byteAt s k) 48 57),?_⟩
      refine ifB_intro (fun h6=>?_) (fun h6=>?_)
      ·have h6' : decide (48 ≤ byteAt s k ∧ byteAt s k ≤ 57) = false := not_t h6
       refine ⟨?_,nofun⟩
       exact bad (by rw [h6']; simp [h5']) hlt
      ·have h6' : decide (48 ≤ byteAt s k ∧ byteAt s k ≤ 57) = true := not_f h6
       refine ⟨inK64 (by omega) (by omega),?_⟩
       refine ⟨_,_,⟨⟨k + 1,by omega,good (by rw [h6']; simp [h4']),rfl,rfl⟩,by omega⟩,⟨⟨.inl rfl,rfl,rfl,rfl⟩,trivial,trivial⟩⟩
     ·have h5' : byteAt s k = 45 := bne_eq_false_iff_eq.1 h5
      refine ⟨inK64 (by omega) (by omega),?_⟩
      refine ⟨_,_,⟨⟨k + 1,by omega,good (by simp [h4',h5']),rfl,rfl⟩,by omega⟩,⟨⟨.inl rfl,rfl,rfl,rfl⟩,trivial,trivial⟩⟩
   ·have h3' : decide (65 ≤ byteAt s k ∧ byteAt s k ≤ 90) = true := not_f h3
    refine ⟨inK64 (by omega) (by omega),?_⟩
    refine ⟨_,_,⟨⟨k + 1,by omega,good (by rw [h3']; simp),rfl,rfl⟩,by omega⟩,⟨⟨.inl rfl,rfl,rfl,rfl⟩,trivial,trivial⟩⟩
 ·have hlt : k = s.size := by have := of_decide_eq_false h1; omega
  refine .inl ⟨_,_,byS (d := 2) (S91 (s.size) 1 12),?_⟩
  refine ⟨?_,nofun⟩
  show vb _ = vb R
  subst hlt
  rw [← hR,nameB_all hf]

end Go.Tr

/- Chapter 7: plans as plain data; which plans are valid. Conditions: none. -/
namespace Go.Tr
open Go Go.Proofs
set_option maxRecDepth 20000
set_option maxHeartbeats 8000000

def AVF : Nat → AV → AV → Prop
 | 0,_,_=>False
 | n + 1,.rslice es len f,.rslice es' len' g=>es = es' ∧ len = len' ∧ ∀ i,i < len → (f i).length = (g i).length ∧ ∀ j x y,nth? (f i) j = some x → nth? (g i) j = some y → x = y ∨ AVF n x y
 | _ + 1,.eslice,.rslice _ len _=>len = 0
 | n + 1,.agg l,.agg l'=>l.length = l'.length ∧ ∀ i x y,nth? l i = some x → nth? l' i = some y → x = y ∨ AVF n x y
 | n + 1,.tuple l,.tuple l'=>l.length = l'.length ∧ ∀ i x y,nth? l i = some x → nth? l' i = some y → x = y ∨ AVF n x y
 | _ + 1,x,y=>x = y
theorem AVF_ok {P : Program} {w : World} {p : Nat → Prop} : ∀ (k : Nat) {x y : AV} {v : Value},AVF k x y → VT P w p x v → VT P w p y v
 | 0,x,y,v,h,_=>h.elim
 | k + 1, x, y, v, h, hx => by
  have eqc : x = y → VT P w p y v := fun e=>e ▸ hx
  have list : ∀ (l l' : List AV) (vs : Array Value),l.length = l'.length → (∀ i x y,nth? l i = some x → nth? l' i = some y → x = y ∨ AVF k x y) → (∀ i x,l[i]? = some x → VT P w p x (vs.getD i undef)) → ∀ i x,l'[i]? = some x → VT P w p x (vs.getD i undef) := by
   intro l l' vs hl he hv i x hi
   have hlt : i < l.length := by rw [hl]; exact (List.getElem?_eq_some_iff.1 hi).1
   have hvi := hv i _ (List.getElem?_eq_getElem hlt)
   rcases he i _ _ (by rw [nth?_eq]; exact List.getElem?_eq_getElem hlt) (by rw [nth?_eq]; exact hi) with e | e
   ·rw [← e]; exact hvi
   ·exact AVF_ok k e hvi
  cases x with
  | rslice es len f =>
   cases y with
   | rslice es' len' g =>
    obtain ⟨rfl,rfl,hf⟩ := h
    cases hx with
    | rslice0=>exact .rslice0 _ _ _ _
    | rslice _ _ _ b off kk gg h1 h2 h3 h4 h5 =>
     refine .rslice _ _ _ b off kk gg h1 h2 (fun i hi=>by rw [← (hf i hi).1]; exact h3 i hi) h4 (fun i j y hi hy=>?_)
     have hl := (hf i hi).1
     have hlt : j < (f i).length := by rw [hl]; exact (List.getElem?_eq_some_iff.1 hy).1
     have hvi := h5 i j _ hi (List.getElem?_eq_getElem hlt)
     rcases (hf i hi).2 j _ y (by rw [nth?_eq]; exact List.getElem?_eq_getElem hlt) (by rw [nth?_eq]; exact hy) with e | e
     ·rw [← e]; exact hvi
     ·exact AVF_ok k e hvi
   | _=>exact eqc h
  | eslice =>
   cases y with
   | rslice es' len' g =>
    have h : len' = 0 := h
    subst h
    cases hx with
    | eslice a=>exact .rslice0 _ _ _ _
   | _=>exact eqc h
  | agg l =>
   cases y with
   | agg l' =>
    obtain ⟨h1,h2⟩ := h
    cases hx with
    | agg _ vs g1 g2 g3=>exact .agg l' vs (by rw [← h1]; exact g1) g2 (list l l' vs h1 h2 g3)
   | _=>exact eqc h
  | tuple l =>
   cases y with
   | tuple l' =>
    obtain ⟨h1,h2⟩ := h
    cases hx with
    | tuple _ vs g1 g3=>exact .tuple l' vs (by rw [← h1]; exact g1) (list l l' vs h1 h2 g3)
   | _=>exact eqc h
  | _=>cases y <;> exact eqc h
theorem Sound1.argsD {P : Program} {f : FuncId} {xs ys : List AV} {r : AV} {fr : Bool} (h : Sound1 P f xs r fr) (hl : ys.length = xs.length) (hx : ∀ i y x,nth? ys i = some y → nth? xs i = some x → y = x ∨ ∃ k,AVF k y x) : Sound1 P f ys r fr := by
 refine ⟨h.1,fun w q vs hq hg hs hv=>h.2 w q vs hq hg (hs.trans hl) fun i x hi=>?_⟩
 have hlt : i < ys.length := by rw [hl]; exact (List.getElem?_eq_some_iff.1 hi).1
 have hvi := hv i _ (List.getElem?_eq_getElem hlt)
 rcases hx i _ x (by rw [nth?_eq]; exact List.getElem?_eq_getElem hlt) (by rw [nth?_eq]; exact hi) with e | ⟨k,hk⟩
 ·rw [← e]; exact hvi
 ·exact AVF_ok k hk hvi
theorem Sound1.resD {P : Program} {f : FuncId} {xs : List AV} {r r' : AV} (h : Sound1 P f xs r false) {k : Nat} (hr : AVF k r r') : Sound1 P f xs r' false := by
 refine ⟨h.1,fun w q vs hq hg hs hv=>Calls.mono (h.2 w q vs hq hg hs hv) ?_⟩
 rintro e w' ⟨u,h1,h2,h3⟩
 exact ⟨u,h1,h2,AVF_ok k hr h3⟩

structure Stp where
 name : ByteArray
 safe : Bool
 needs : Int
 trip : Int
 wait : Int
 home : Int
 exits : List Int
 on : Int
 off : Int
 mon : Int
 mof : Int
 time : Int
 next : Int
 back : Int
structure Pln where
 sig : List ByteArray
 start : Int
 steps : List Stp
def stpC (s : Stp) : List AV := [sv s.name,vb s.safe,i64 s.needs,i64 s.trip,i64 s.wait,i64 s.home,ints s.exits,i64 s.on,i64 s.off,i64 s.mon,i64 s.mof,i64 s.time,i64 s.next,i64 s.back]
def stp0 : Stp := ⟨ByteArray.empty,false,0,0,0,0,[],0,0,0,0,0,0,0⟩
def stepsA (l : List Stp) : AV := .rslice 14 l.length fun i=>stpC (l.getD i stp0)
def planC (p : Pln) : List AV := [strs p.sig,i64 p.start,stepsA p.steps]
def planA (p : Pln) : AV := .agg (planC p)
def stepA (s : Stp) : AV := .agg (stpC s)

abbrev pw (n : Nat) : Int := shlI .i64 1 (n : Int)
theorem pw_le : ∀ n : Nat,n ≤ 7 → 1 ≤ shlI .i64 1 (n : Int) ∧ shlI .i64 1 (n : Int) ≤ 128 := by
 intro n hn
 match n,hn with
 | 0,_=>decide | 1,_=>decide | 2,_=>decide | 3,_=>decide | 4,_=>decide | 5,_=>decide | 6,_=>decide | 7,_=>decide

def inS (n : Nat) (x : Int) : Bool := decide (0 ≤ x ∧ x ≤ pw n - 1)
def inX (m : Nat) (x : Int) : Bool := decide (0 ≤ x ∧ x ≤ (m : Int) - 1)
def setE (n : Nat) (x : Int) : Int := if inS n x then 0 else 2
def idxE (m : Nat) (x : Int) : Int := if inX m x then 0 else 6
def setsE (n : Nat) (l : List Int) : Int := if l.all (inS n) then 0 else 2
def idxsE (m : Nat) (l : List Int) : Int := if l.all (inX m) then 0 else 6

theorem S109 (p : Pln) (hn : p.sig.length ≤ 7) (x : Int) : SP 109 [i64 x,.rptr (planC p)] (vb (!inS p.sig.length x)) false := by
 have hp := pw_le _ hn
 refine sound (d := 2) tok2 mixed2 Tryz.func109 (by kernel_rfl) (by kernel_rfl) ?_
 (conv=>whnf); refine ⟨(by omega),?_⟩
 (conv=>whnf); refine ⟨inK64 (by omega) (by omega),?_⟩
 (conv=>whnf); refine .inl ⟨_,_,byX rfl (Sound1.pl (S91 _ _ _) rfl),?_⟩
 (conv=>whnf); refine ⟨?_,nofun⟩
 rfl
theorem S90 (p : Pln) (hm : p.steps.length ≤ 1000) (x : Int) : SP 90 [i64 x,.rptr (planC p)] (vb (!inX p.steps.length x)) false := by
 refine sound (d := 2) tok2 mixed2 Tryz.func90 (by kernel_rfl) (by kernel_rfl) ?_
 (conv=>whnf); refine ⟨inK64 (by omega) (by omega),?_⟩
 (conv=>whnf); refine .inl ⟨_,_,byX rfl (Sound1.pl (S91 _ _ _) rfl),?_⟩
 (conv=>whnf); refine ⟨?_,nofun⟩
 rfl

def idxF (P : Int → Bool) : List Int → Nat → Int
  | [],_=>-1
  | y :: r,k=>if P y then k else idxF P r (k + 1)
theorem idxF_any (P : Int → Bool) : ∀ (l : List Int) (k : Nat),decide (idxF P l k ≥ 0) = l.any P
 | [],k=>by simp [idxF]
 | y :: r,k=>by
  have ih := idxF_any P r (k + 1)
  unfold idxF
  rw [List.any_cons]
  cases h : P y with
  | true=>simp
  | false=>simp only [Bool.false_eq_true,if_false,ih,Bool.false_or]
theorem idxF_drop (P : Int → Bool) (l : List Int) (k : Nat) (h : k < l.length) : idxF P (l.drop k) k = if P (l.getD k 0) then (k : Int) else idxF P (l.drop (k + 1)) (k + 1) := by
  rw [List.drop_eq_getElem_cons h,idxF]; simp [List.getD,h]
theorem S117 (l : List Int) (hl : l.length ≤ 9223372036854775807) (g : FuncId) (C : List AV) (P : Int → Bool) (hg : ∀ x,SP g [i64 x,.rptr C] (vb (P x)) false) : SP 117 [ints l,.func (.func g) 0 [.rptr C]] (i64 (idxF P l 0)) false := by
 refine sound (d := 2) tok2 mixed2 Tryz.func117 (by kernel_rfl) (by kernel_rfl) ?_
 (conv=>whnf); refine ⟨[],[0,1,7,8],fun st mq=>∃ (k : Nat),(k ≤ l.length) ∧ (idxF P (l.drop k) k = idxF P l 0) ∧ st = ⟨[(0,ints l),(1,.func (.func g) 0 [.rptr C]),(7,i64 l.length),(8,i64 k)],⟨[],[],none,0⟩,[]⟩ ∧ mq = l.length - k,
  ⟨_,_,⟨0,by omega,rfl,rfl,rfl⟩,⟨⟨.inl rfl,rfl,rfl,rfl⟩,trivial,trivial⟩⟩,?_⟩
 rintro s0 m0 ⟨k,hk,hf,rfl,hmeas⟩
 by_cases hlt : k < l.length
 ·have hd := idxF_drop P l k hlt
  have hgx := hg (l.getD k 0)
  conv=>whnf
  (conv=>whnf); refine ifB_dec (fun w1=>?_) (fun w1=>?_)
  ·conv=>whnf
   (conv=>whnf); refine ⟨⟨(by omega),(by omega)⟩,?_⟩
   conv=>whnf
   (conv=>whnf); refine .inl ⟨_,_,byX rfl (Sound1.pl (hgx) rfl),?_⟩
   conv=>whnf
   (conv=>whnf); refine ifB_intro (fun w2=>?_) (fun w2=>?_)
   ·conv=>whnf
    (conv=>whnf); refine ⟨?_,nofun⟩
    rw [if_pos w2] at hd
    show i64 _ = i64 _
    rw [← hf,hd]
   ·conv=>whnf
    (conv=>whnf); refine ⟨inK64 (by omega) (by omega),?_⟩
    rw [if_neg (by rw [w2]; nofun)] at hd
    conv=>whnf
    (conv=>whnf); refine ⟨_,_,⟨⟨k + 1,by omega,hd.symm.trans hf,rfl,rfl⟩,by omega⟩,⟨⟨.inl rfl,rfl,rfl,rfl⟩,trivial,trivial⟩⟩
  ·(exfalso; omega)
 ·have e : k = l.length := by omega
  subst e
  conv=>whnf
  (conv=>whnf); refine ifB_dec (fun w1=>?_) (fun w1=>?_)
  ·(exfalso; omega)
  ·conv=>whnf
   (conv=>whnf); refine ⟨?_,nofun⟩
   simp [idxF] at hf
   show i64 _ = i64 _
   rw [← hf]
theorem S117n (l : List Int) (hl : l.length ≤ 9223372036854775807) (g : FuncId) (P : Int → Bool) (hg : ∀ x,SP g [i64 x] (vb (P x)) false) : SP 117 [ints l,.func (.func g) 0 []] (i64 (idxF P l 0)) false := by
 refine sound (d := 2) tok2 mixed2 Tryz.func117 (by kernel_rfl) (by kernel_rfl) ?_
 (conv=>whnf); refine ⟨[],[0,1,7,8],fun st mq=>∃ (k : Nat),(k ≤ l.length) ∧ (idxF P (l.drop k) k = idxF P l 0) ∧ st = ⟨[(0,ints l),(1,.func (.func g) 0 []),(7,i64 l.length),(8,i64 k)],⟨[],[],none,0⟩,[]⟩ ∧ mq = l.length - k,
  ⟨_,_,⟨0,by omega,rfl,rfl,rfl⟩,⟨⟨.inl rfl,rfl,rfl,rfl⟩,trivial,trivial⟩⟩,?_⟩
 rintro s0 m0 ⟨k,hk,hf,rfl,hmeas⟩
 by_cases hlt : k < l.length
 ·have hd := idxF_drop P l k hlt
  have hgx := hg (l.getD k 0)
  conv=>whnf
  (conv=>whnf); refine ifB_dec (fun w1=>?_) (fun w1=>?_)
  ·conv=>whnf
   (conv=>whnf); refine ⟨⟨(by omega),(by omega)⟩,?_⟩
   conv=>whnf
   (conv=>whnf); refine .inl ⟨_,_,byX rfl (Sound1.pl (hgx) rfl),?_⟩
   conv=>whnf
   (conv=>whnf); refine ifB_intro (fun w2=>?_) (fun w2=>?_)
   ·conv=>whnf
    (conv=>whnf); refine ⟨?_,nofun⟩
    rw [if_pos w2] at hd
    show i64 _ = i64 _
    rw [← hf,hd]
   ·conv=>whnf
    (conv=>whnf); refine ⟨inK64 (by omega) (by omega),?_⟩
    rw [if_neg (by rw [w2]; nofun)] at hd
    conv=>whnf
    (conv=>whnf); refine ⟨_,_,⟨⟨k + 1,by omega,hd.symm.trans hf,rfl,rfl⟩,by omega⟩,⟨⟨.inl rfl,rfl,rfl,rfl⟩,trivial,trivial⟩⟩
  ·(exfalso; omega)
 ·have e : k = l.length := by omega
  subst e
  conv=>whnf
  (conv=>whnf); refine ifB_dec (fun w1=>?_) (fun w1=>?_)
  ·(exfalso; omega)
  ·conv=>whnf
   (conv=>whnf); refine ⟨?_,nofun⟩
   simp [idxF] at hf
   show i64 _ = i64 _
   rw [← hf]
theorem S89 (l : List Int) (hl : l.length ≤ 9223372036854775807) (g : FuncId) (C : List AV) (P : Int → Bool) (hg : ∀ x,SP g [i64 x,.rptr C] (vb (P x)) false) : SP 89 [ints l,.func (.func g) 0 [.rptr C]] (vb (l.any P)) false := by
 have h := S117 l hl g C P hg
 refine sound (d := 2) tok2 mixed2 Tryz.func89 (by kernel_rfl) (by kernel_rfl) ?_
 (conv=>whnf); refine .inl ⟨_,_,byX rfl (Sound1.pl (h) rfl),?_⟩
 (conv=>whnf); refine ⟨?_,nofun⟩
 show vb (decide (idxF P l 0 ≥ 0)) = _
 rw [idxF_any]
theorem S89n (l : List Int) (hl : l.length ≤ 9223372036854775807) (g : FuncId) (P : Int → Bool) (hg : ∀ x,SP g [i64 x] (vb (P x)) false) : SP 89 [ints l,.func (.func g) 0 []] (vb (l.any P)) false := by
 have h := S117n l hl g P hg
 refine sound (d := 2) tok2 mixed2 Tryz.func89 (by kernel_rfl) (by kernel_rfl) ?_
 (conv=>whnf); refine .inl ⟨_,_,byX rfl (Sound1.pl (h) rfl),?_⟩
 (conv=>whnf); refine ⟨?_,nofun⟩
 show vb (decide (idxF P l 0 ≥ 0)) = _
 rw [idxF_any]
theorem any_not (l : List Int) (P : Int → Bool) : (!l.any fun x=>!P x) = l.all P := by
  rw [List.not_any_eq_all_not]; simp
theorem S71 (p : Pln) (hn : p.sig.length ≤ 7) (l : List Int) (hl : l.length ≤ 9223372036854775807) : SP 71 [planA p,ints l] (i64 (setsE p.sig.length l)) false := by
 have h := S89 l hl 109 (planC p) _ (S109 p hn)
 refine sound (d := 2) tok2 mixed2 Tryz.func71 (by kernel_rfl) (by kernel_rfl) ?_
 (conv=>whnf); refine .inl ⟨_,_,byX rfl (Sound1.pl (h) rfl),?_⟩
 (conv=>whnf); refine .inl ⟨_,_,byX rfl (Sound1.pl (S49 _ _) rfl),?_⟩
 (conv=>whnf); refine ⟨?_,nofun⟩
 show i64 (if (!l.any fun x=>!inS p.sig.length x) = true then 0 else 2) = _
 rw [any_not]; rfl
theorem S53 (p : Pln) (hm : p.steps.length ≤ 1000) (l : List Int) (hl : l.length ≤ 9223372036854775807) : SP 53 [planA p,ints l] (i64 (idxsE p.steps.length l)) false := by
 have h := S89 l hl 90 (planC p) _ (S90 p hm)
 refine sound (d := 2) tok2 mixed2 Tryz.func53 (by kernel_rfl) (by kernel_rfl) ?_
 (conv=>whnf); refine .inl ⟨_,_,byX rfl (Sound1.pl (h) rfl),?_⟩
 (conv=>whnf); refine .inl ⟨_,_,byX rfl (Sound1.pl (S49 _ _) rfl),?_⟩
 (conv=>whnf); refine ⟨?_,nofun⟩
 show i64 (if (!l.any fun x=>!inX p.steps.length x) = true then 0 else 6) = _
 rw [any_not]; rfl

theorem AVF_rows {es n n' : Nat} {f g : Nat → List AV} (hn : n = n') (h : ∀ i,i < n → f i = g i) (k : Nat) : AVF (k + 1) (.rslice es n f) (.rslice es n' g) := by
 refine ⟨rfl,hn,fun i hi=>⟨by rw [h i hi],fun j x y hx hy=>.inl ?_⟩⟩
 rw [h i hi] at hx
 exact Option.some.inj (hx.symm.trans hy)
theorem S69_2 (a b : Int) {f : Nat → List AV} (h : f 0 = [i64 a] ∧ f 1 = [i64 b]) : SP 69 [.rslice 1 2 f] (i64 (firstOf [a,b])) false := by
 have key : ∀ i,i < 2 → f i = [i64 (([a,b] : List Int).getD i 0)] := fun i hi=>by
  match i,hi with
  | 0,_=>exact h.1
  | 1,_=>exact h.2
 refine (S69 [a,b] (by simp)).argsD rfl fun i y x hy hx=>?_
 match i,hy,hx with
 | 0,hy,hx=>cases hy; cases hx; exact .inr ⟨1,AVF_rows rfl key 0⟩
theorem S69_3 (a b c : Int) {f : Nat → List AV} (h : f 0 = [i64 a] ∧ f 1 = [i64 b] ∧ f 2 = [i64 c]) : SP 69 [.rslice 1 3 f] (i64 (firstOf [a,b,c])) false := by
 have key : ∀ i,i < 3 → f i = [i64 (([a,b,c] : List Int).getD i 0)] := fun i hi=>by
  match i,hi with
  | 0,_=>exact h.1
  | 1,_=>exact h.2.1
  | 2,_=>exact h.2.2
 refine (S69 [a,b,c] (by simp)).argsD rfl fun i y x hy hx=>?_
 match i,hy,hx with
 | 0,hy,hx=>cases hy; cases hx; exact .inr ⟨1,AVF_rows rfl key 0⟩
theorem S69_5 (a b c d e : Int) {f : Nat → List AV} (h : f 0 = [i64 a] ∧ f 1 = [i64 b] ∧ f 2 = [i64 c] ∧ f 3 = [i64 d] ∧ f 4 = [i64 e]) : SP 69 [.rslice 1 5 f] (i64 (firstOf [a,b,c,d,e])) false := by
 have key : ∀ i,i < 5 → f i = [i64 (([a,b,c,d,e] : List Int).getD i 0)] := fun i hi=>by
  match i,hi with
  | 0,_=>exact h.1
  | 1,_=>exact h.2.1
  | 2,_=>exact h.2.2.1
  | 3,_=>exact h.2.2.2.1
  | 4,_=>exact h.2.2.2.2
 refine (S69 [a,b,c,d,e] (by simp)).argsD rfl fun i y x hy hx=>?_
 match i,hy,hx with
 | 0,hy,hx=>cases hy; cases hx; exact .inr ⟨1,AVF_rows rfl key 0⟩
theorem S92_2 (a b : Int) {f : Nat → List AV} (h : f 0 = [i64 a] ∧ f 1 = [i64 b]) : SP 92 [.rslice 1 2 f] (i64 (firstOf [a,b])) false := by
 have key : ∀ i,i < 2 → f i = [i64 (([a,b] : List Int).getD i 0)] := fun i hi=>by
  match i,hi with
  | 0,_=>exact h.1
  | 1,_=>exact h.2
 refine (S92 [a,b] (by simp)).argsD rfl fun i y x hy hx=>?_
 match i,hy,hx with
 | 0,hy,hx=>cases hy; cases hx; exact .inr ⟨1,AVF_rows rfl key 0⟩
theorem S71_1 (p : Pln) (hn : p.sig.length ≤ 7) (a : Int) {f : Nat → List AV} (h : f 0 = [i64 a]) : SP 71 [planA p,.rslice 1 1 f] (i64 (setsE p.sig.length [a])) false := by
 have key : ∀ i,i < 1 → f i = [i64 (([a] : List Int).getD i 0)] := fun i hi=>by
  match i,hi with
  | 0,_=>exact h
 refine (S71 p hn [a] (by simp)).argsD rfl fun i y x hy hx=>?_
 match i,hy,hx with
 | 0,hy,hx=>cases hy; cases hx; exact .inl rfl
 | 1,hy,hx=>cases hy; cases hx; exact .inr ⟨1,AVF_rows rfl key 0⟩
theorem S71_4 (p : Pln) (hn : p.sig.length ≤ 7) (a b c d : Int) {f : Nat → List AV} (h : f 0 = [i64 a] ∧ f 1 = [i64 b] ∧ f 2 = [i64 c] ∧ f 3 = [i64 d]) : SP 71 [planA p,.rslice 1 4 f] (i64 (setsE p.sig.length [a,b,c,d])) false := by
 have key : ∀ i,i < 4 → f i = [i64 (([a,b,c,d] : List Int).getD i 0)] := fun i hi=>by
  match i,hi with
  | 0,_=>exact h.1
  | 1,_=>exact h.2.1
  | 2,_=>exact h.2.2.1
  | 3,_=>exact h.2.2.2
 refine (S71 p hn [a,b,c,d] (by simp)).argsD rfl fun i y x hy hx=>?_
 match i,hy,hx with
 | 0,hy,hx=>cases hy; cases hx; exact .inl rfl
 | 1,hy,hx=>cases hy; cases hx; exact .inr ⟨1,AVF_rows rfl key 0⟩
theorem S53_1 (p : Pln) (hm : p.steps.length ≤ 1000) (a : Int) {f : Nat → List AV} (h : f 0 = [i64 a]) : SP 53 [planA p,.rslice 1 1 f] (i64 (idxsE p.steps.length [a])) false := by
 have key : ∀ i,i < 1 → f i = [i64 (([a] : List Int).getD i 0)] := fun i hi=>by
  match i,hi with
  | 0,_=>exact h
 refine (S53 p hm [a] (by simp)).argsD rfl fun i y x hy hx=>?_
 match i,hy,hx with
 | 0,hy,hx=>cases hy; cases hx; exact .inl rfl
 | 1,hy,hx=>cases hy; cases hx; exact .inr ⟨1,AVF_rows rfl key 0⟩
theorem S53_2 (p : Pln) (hm : p.steps.length ≤ 1000) (a b : Int) {f : Nat → List AV} (h : f 0 = [i64 a] ∧ f 1 = [i64 b]) : SP 53 [planA p,.rslice 1 2 f] (i64 (idxsE p.steps.length [a,b])) false := by
 have key : ∀ i,i < 2 → f i = [i64 (([a,b] : List Int).getD i 0)] := fun i hi=>by
  match i,hi with
  | 0,_=>exact h.1
  | 1,_=>exact h.2
 refine (S53 p hm [a,b] (by simp)).argsD rfl fun i y x hy hx=>?_
 match i,hy,hx with
 | 0,hy,hx=>cases hy; cases hx; exact .inl rfl
 | 1,hy,hx=>cases hy; cases hx; exact .inr ⟨1,AVF_rows rfl key 0⟩
end Go.Tr

/- Contracts of chapter 7: the errors of plans, by the program and by the reference. Conditions: none. -/
namespace Go.Tr
open Go Go.Proofs
set_option maxRecDepth 20000
set_option maxHeartbeats 8000000

theorem S54 (s : Stp) : SP 54 [stepA s] (vb (decide (s.wait = 0))) false := by
 refine sound (d := 2) tok2 mixed2 Tryz.func54 (by kernel_rfl) (by kernel_rfl) ?_
 (conv=>whnf); refine ⟨?_,nofun⟩
 show vb (s.wait == 0) = vb _
 rfl
theorem S73 (s : Stp) : SP 73 [stepA s] (vb (s.safe && decide (s.wait = 0))) false := by
 have h := S54 s
 refine sound (d := 2) tok2 mixed2 Tryz.func73 (by kernel_rfl) (by kernel_rfl) ?_
 (conv=>whnf); refine ifB_intro (fun w1=>?_) (fun w1=>?_)
 ·(conv=>whnf); refine .inl ⟨_,_,byX rfl (Sound1.pl (h) rfl),?_⟩
  (conv=>whnf); refine ⟨?_,nofun⟩
  show vb _ = vb _
  rw [w1,Bool.true_and]
 ·(conv=>whnf); refine ⟨?_,nofun⟩
  show vb _ = vb _
  rw [w1]; rfl

def scan (f : Nat → Int) : Nat → Nat → Int × Int
  | 0,_=>(0,0)
  | n + 1,i=>if f i = 0 then scan f n (i + 1) else (i,f i)
theorem scan_at {f : Nat → Int} {n k : Nat} (hk : k < n) (h : ∀ j,j < k → f j = 0) (hf : f k ≠ 0) : scan f n 0 = ((k : Int),f k) := by
 have key : ∀ (n i : Nat),i ≤ k → k < i + n → scan f n i = ((k : Int),f k) := by
  intro n
  induction n with
  | zero=>intro i h1 h2; omega
  | succ n ih =>
   intro i h1 h2
   unfold scan
   by_cases hi : i = k
   ·subst hi; rw [if_neg hf]
   ·rw [if_pos (h i (by omega)),ih (i + 1) (by omega) (by omega)]
 exact key n 0 (by omega) (by omega)
theorem scan_all {f : Nat → Int} {n : Nat} (h : ∀ j,j < n → f j = 0) : scan f n 0 = (0,0) := by
 have key : ∀ (m i : Nat),i + m = n → scan f m i = (0,0) := by
  intro m
  induction m with
  | zero=>intro i _; rfl
  | succ m ih=>intro i hi; unfold scan; rw [if_pos (h i (by omega)),ih (i + 1) (by omega)]
 exact key n 0 (by omega)
theorem scan_zero {f : Nat → Int} {n : Nat} (h : (scan f n 0).2 = 0) : ∀ j,j < n → f j = 0 := by
 have key : ∀ (m i : Nat),(scan f m i).2 = 0 → ∀ j,i ≤ j → j < i + m → f j = 0 := by
  intro m
  induction m with
  | zero=>intro i _ j h1 h2; omega
  | succ m ih =>
   intro i hs j h1 h2
   unfold scan at hs
   by_cases hz : f i = 0
   ·rw [if_pos hz] at hs
    rcases Nat.eq_or_lt_of_le h1 with e | e
    ·rw [← e]; exact hz
    ·exact ih (i + 1) hs j (by omega) (by omega)
   ·rw [if_neg hz] at hs; exact absurd hs hz
 intro j hj
 exact key n 0 h j (by omega) (by omega)
theorem inv_next {f : Nat → Int} {k : Nat} (h : ∀ j,j < k → f j = 0) (hk : f k = 0) : ∀ j,j < k + 1 → f j = 0 := fun j hj=>by
 rcases Nat.lt_succ_iff_lt_or_eq.1 hj with h1 | rfl
 ·exact h j h1
 ·exact hk
theorem inv_none {f : Nat → Int} : ∀ j,j < 0 → f j = 0 := fun j hj=>absurd hj (Nat.not_lt_zero j)

def exAt (m : Nat) (l : List Int) (i : Nat) : Int :=
  if idxE m (l.getD i 0) ≠ 0 then idxE m (l.getD i 0) else if i = 0 ∨ l.getD i 0 > l.getD (i - 1) 0 then 0 else 9
def steadyE (m : Nat) (s : Stp) : Int :=
 if ¬ (s.on = 0 ∧ s.off = 0 ∧ s.mon = 0 ∧ s.mof = 0 ∧ s.time = 0 ∧ s.next = 0 ∧ s.back = 0) then 3
 else if (scan (exAt m s.exits) s.exits.length 0).2 ≠ 0 then (scan (exAt m s.exits) s.exits.length 0).2
 else if hasI s.exits s.home || (decide (s.exits.length = 0) && decide (s.home = 0)) then 0 else 21
def movingE (n m : Nat) (s : Stp) : Int :=
 firstOf [if !s.safe && decide (s.home = 0) && decide (s.exits.length = 0) then 0 else 3,setsE n [s.on,s.off,s.mon,s.mof],
  if decide (bitI .and .i64 s.on s.off = 0) && decide (bitI .and .i64 s.mon s.mof = 0) then 0 else 13,if 1 ≤ s.time ∧ s.time ≤ s.wait then 0 else 2,idxsE m [s.next,s.back]]

theorem veq7 {a b c d e f g : Int} : vEqL [.int .i64 a,.int .i64 b,.int .i64 c,.int .i64 d,.int .i64 e,.int .i64 f,.int .i64 g] [.int .i64 0,.int .i64 0,.int .i64 0,.int .i64 0,.int .i64 0,.int .i64 0,.int .i64 0] = true ↔
    a = 0 ∧ b = 0 ∧ c = 0 ∧ d = 0 ∧ e = 0 ∧ f = 0 ∧ g = 0 := by simp [vEqL]
theorem endi {a b : Int} (h : a = b) : i64 a = i64 b := congrArg (fun x=>i64 x) h
theorem endb {a b : Bool} (h : a = b) : vb a = vb b := congrArg (fun x=>vb x) h
theorem first2 (a b : Int) : firstOf [a,b] = if a ≠ 0 then a else b := by
 unfold firstOf firstOf firstOf
 by_cases h : a = 0
 ·rw [if_pos h,if_neg (not_not_intro h)]
  by_cases h2 : b = 0
  ·rw [if_pos h2,h2]
  ·rw [if_neg h2]
 ·rw [if_neg h,if_pos h]
theorem idxs1 (m : Nat) (x : Int) : idxsE m [x] = idxE m x := by simp [idxsE,idxE]
theorem sets1 (n : Nat) (x : Int) : setsE n [x] = setE n x := by simp [setsE,setE]
theorem sets4 (n : Nat) (a b c d : Int) : setsE n [a,b,c,d] = firstOf [setE n a,setE n b,setE n c,setE n d] := by
 show (if (inS n a && (inS n b && (inS n c && (inS n d && true)))) = true then (0 : Int) else 2) = firstOf [if inS n a = true then 0 else 2,if inS n b = true then 0 else 2,if inS n c = true then 0 else 2,if inS n d = true then 0 else 2]
 generalize inS n a = A
 generalize inS n b = B
 generalize inS n c = C
 generalize inS n d = D
 cases A <;> cases B <;> cases C <;> cases D <;> rfl
theorem idxs2 (m : Nat) (a b : Int) : idxsE m [a,b] = firstOf [idxE m a,idxE m b] := by
 show (if (inX m a && (inX m b && true)) = true then (0 : Int) else 6) = firstOf [if inX m a = true then 0 else 6,if inX m b = true then 0 else 6]
 generalize inX m a = A
 generalize inX m b = B
 cases A <;> cases B <;> rfl
theorem steady_bad {m : Nat} {s : Stp} {k : Nat} {e : Int} (w : s.on = 0 ∧ s.off = 0 ∧ s.mon = 0 ∧ s.mof = 0 ∧ s.time = 0 ∧ s.next = 0 ∧ s.back = 0) (hk : k < s.exits.length) (hf : ∀ j,j < k → exAt m s.exits j = 0) (he : exAt m s.exits k = e) (h0 : ¬ e = 0) : steadyE m s = e := by
 unfold steadyE
 rw [if_neg (fun h=>h w),scan_at hk hf (by rw [he]; exact h0)]
 show (if exAt m s.exits k ≠ 0 then exAt m s.exits k else _) = e
 rw [he,if_pos h0]
theorem steady_end {m : Nat} {s : Stp} (w : s.on = 0 ∧ s.off = 0 ∧ s.mon = 0 ∧ s.mof = 0 ∧ s.time = 0 ∧ s.next = 0 ∧ s.back = 0) (hf : ∀ j,j < s.exits.length → exAt m s.exits j = 0) : steadyE m s = if hasI s.exits s.home || (decide (s.exits.length = 0) && decide (s.home = 0)) then 0 else 21 := by
  unfold steadyE
  rw [if_neg (fun h=>h w),scan_all hf,if_neg (fun h=>h rfl)]
theorem S110 (p : Pln) (s : Stp) (hm : p.steps.length ≤ 1000) (he : s.exits.length ≤ 1000) : SP 110 [planA p,stepA s] (i64 (steadyE p.steps.length s)) false := by
 have h68 := @S53_1 p hm
 have h94 := S83 s.exits (by omega) s.home
 refine sound (d := 2) tok2 mixed2 Tryz.func110 (by kernel_rfl) (by kernel_rfl) ?_
 (conv=>whnf); refine ifB_not ?_
 (conv=>whnf); refine ifB_intro (fun w1=>?_) (fun w1=>?_)
 ·have w := w1
  rw [veq7] at w
  (conv=>whnf); refine ⟨[],[2,3,29,30,31],fun st mq=>∃ (k : Nat) (F2 : Nat → List AV),(k ≤ s.exits.length) ∧ (∀ j,j < k → exAt p.steps.length s.exits j = 0) ∧ st = ⟨[(2,.optr 0 0 0 0),(3,.optr 1 0 0 0),(29,ints s.exits),(30,i64 s.exits.length),(31,i64 k)],⟨[⟨3,1,fun _=>planC p,0,false,true,true⟩,⟨14,1,fun _=>stpC s,0,false,true,true⟩,⟨7,1,F2,0,false,true,false⟩],[],none,0⟩,[]⟩ ∧ mq = s.exits.length - k,
   ⟨_,_,⟨0,_,by omega,inv_none,rfl,rfl⟩,⟨⟨.inl rfl,rfl,rfl,rfl⟩,⟨bA,⟨bA,⟨bA,trivial⟩⟩⟩,trivial⟩⟩,?_⟩
  rintro s0 m0 ⟨k,F2,hk,hf,rfl,hmeas⟩
  by_cases hlt : k < s.exits.length
  ·have hx : ∀ (b : Bool),(b = true ↔ (k = 0 ∨ s.exits.getD k 0 > s.exits.getD (k - 1) 0)) → firstOf [idxsE p.steps.length [s.exits.getD k 0],if b then 0 else 9] = exAt p.steps.length s.exits k := fun b hb=>by
    rw [first2,idxs1]
    unfold exAt
    by_cases h : k = 0 ∨ s.exits.getD k 0 > s.exits.getD (k - 1) 0
    ·rw [if_pos h,if_pos (hb.2 h)]
    ·rw [if_neg h,if_neg (fun e=>h (hb.1 e))]
   conv=>whnf
   (conv=>whnf); refine ifB_dec (fun w2=>?_) (fun w2=>?_)
   ·conv=>whnf
    (conv=>whnf); refine ⟨⟨(by omega),(by omega)⟩,?_⟩
    conv=>whnf
    (conv=>whnf); refine .inl ⟨_,_,byX rfl (Sound1.pl (h68 _ rfl) rfl),?_⟩
    conv=>whnf
    (conv=>whnf); refine ifB_beq (fun w3=>?_) (fun w3=>?_)
    ·conv=>whnf
     (conv=>whnf); refine .inl ⟨_,_,byX rfl (Sound1.pl (S49 _ _) rfl),?_⟩
     conv=>whnf
     (conv=>whnf); refine .inl ⟨_,_,byX rfl (Sound1.pl (S69_2 _ _ ⟨rfl,rfl⟩) rfl),?_⟩
     conv=>whnf
     (conv=>whnf); refine ifB_bne (fun w4=>?_) (fun w4=>?_)
     ·conv=>whnf
      (conv=>whnf); refine ⟨?_,nofun⟩
      refine endi (Eq.trans ?_ (steady_bad w hlt hf (hx true (by simp; omega)).symm w4).symm)
      rfl
     ·conv=>whnf
      (conv=>whnf); refine ⟨inK64 (by omega) (by omega),?_⟩
      conv=>whnf
      (conv=>whnf); refine ⟨_,_,⟨⟨k + 1,_,by omega,inv_next hf ((hx true (by simp; omega)).symm.trans w4),rfl,rfl⟩,by omega⟩,⟨⟨.inl rfl,rfl,rfl,rfl⟩,⟨bA,⟨bA,⟨bA,trivial⟩⟩⟩,trivial⟩⟩
    ·conv=>whnf
     (conv=>whnf); refine ⟨inK64 (by omega) (by omega),?_⟩
     conv=>whnf
     (conv=>whnf); refine ⟨⟨(by omega),(by omega)⟩,?_⟩
     conv=>whnf
     (conv=>whnf); refine .inl ⟨_,_,byX rfl (Sound1.pl (S49 _ _) rfl),?_⟩
     conv=>whnf
     (conv=>whnf); refine .inl ⟨_,_,byX rfl (Sound1.pl (S69_2 _ _ ⟨rfl,rfl⟩) rfl),?_⟩
     conv=>whnf
     (conv=>whnf); refine ifB_bne (fun w4=>?_) (fun w4=>?_)
     ·conv=>whnf
      (conv=>whnf); refine ⟨?_,nofun⟩
      have e2 : (if (k : Int) - 1 > 0 then (k : Int) - 1 else 0).toNat = k - 1 := by split <;> omega
      have hv : firstOf [idxsE p.steps.length [s.exits.getD (k : Int).toNat 0],if decide (s.exits.getD (k : Int).toNat 0 > s.exits.getD (if (k : Int) - 1 > 0 then (k : Int) - 1 else 0).toNat 0) = true then 0 else 9] = exAt p.steps.length s.exits k := by
       rw [e2]
       exact hx (decide (s.exits.getD k 0 > s.exits.getD (k - 1) 0)) (by simp; omega)
      refine endi (Eq.trans hv (steady_bad w hlt hf rfl ?_).symm)
      rw [← hv]; exact w4
     ·conv=>whnf
      (conv=>whnf); refine ⟨inK64 (by omega) (by omega),?_⟩
      have e2 : (if (k : Int) - 1 > 0 then (k : Int) - 1 else 0).toNat = k - 1 := by split <;> omega
      rw [e2] at w4
      conv=>whnf
      (conv=>whnf); refine ⟨_,_,⟨⟨k + 1,_,by omega,inv_next hf ((hx (decide (s.exits.getD k 0 > s.exits.getD (k - 1) 0)) (by simp; omega)).symm.trans w4),rfl,rfl⟩,by omega⟩,⟨⟨.inl rfl,rfl,rfl,rfl⟩,⟨bA,⟨bA,⟨bA,trivial⟩⟩⟩,trivial⟩⟩
   ·(exfalso; omega)
  ·have e : k = s.exits.length := by omega
   have hst := steady_end w (by rw [e] at hf; exact hf)
   conv=>whnf
   (conv=>whnf); refine ifB_dec (fun w2=>?_) (fun w2=>?_)
   ·(exfalso; omega)
   ·conv=>whnf
    (conv=>whnf); refine .inl ⟨_,_,byX rfl (Sound1.pl (h94) rfl),?_⟩
    conv=>whnf
    (conv=>whnf); refine ifB_intro (fun w3=>?_) (fun w3=>?_)
    ·conv=>whnf
     (conv=>whnf); refine .inl ⟨_,_,byX rfl (Sound1.pl (S49 _ _) rfl),?_⟩
     conv=>whnf
     (conv=>whnf); refine ⟨?_,nofun⟩
     refine endi (Eq.trans ?_ hst.symm)
     rw [show hasI s.exits s.home = true from w3]; rfl
    ·conv=>whnf
     (conv=>whnf); refine ifB_beq (fun w4=>?_) (fun w4=>?_)
     ·conv=>whnf
      (conv=>whnf); refine .inl ⟨_,_,byX rfl (Sound1.pl (S49 _ _) rfl),?_⟩
      conv=>whnf
      (conv=>whnf); refine ⟨?_,nofun⟩
      refine endi (Eq.trans ?_ hst.symm)
      have h0 : s.exits.length = 0 := by omega
      rw [show hasI s.exits s.home = false from w3,decide_eq_true h0]
      simp
     ·conv=>whnf
      (conv=>whnf); refine .inl ⟨_,_,byX rfl (Sound1.pl (S49 _ _) rfl),?_⟩
      conv=>whnf
      (conv=>whnf); refine ⟨?_,nofun⟩
      refine endi (Eq.trans ?_ hst.symm)
      have h0 : ¬ s.exits.length = 0 := by omega
      rw [show hasI s.exits s.home = false from w3,decide_eq_false h0]; rfl
 ·(conv=>whnf); refine ⟨?_,nofun⟩
  refine endi (b := steadyE _ _) ?_
  unfold steadyE
  rw [if_pos]
  intro h
  rw [veq7.2 h] at w1
  cases w1
theorem S111 (p : Pln) (s : Stp) (hn : p.sig.length ≤ 7) (hm : p.steps.length ≤ 1000) : SP 111 [planA p,stepA s] (i64 (movingE p.sig.length p.steps.length s)) false := by
 have h68 := @S53_2 p hm s.next s.back
 have h98 := @S71_4 p hn s.on s.off s.mon s.mof
 refine sound (d := 2) tok2 mixed2 Tryz.func111 (by kernel_rfl) (by kernel_rfl) ?_
 (conv=>whnf); refine ⟨[],by kernel_rfl,?_⟩
 (conv=>whnf); refine ifB_not ?_
 (conv=>whnf); refine ifB_intro (fun w1=>?_) (fun w1=>?_)
 ·(conv=>whnf); refine .inl ⟨_,_,byX rfl (Sound1.pl (S49 _ _) rfl),?_⟩
  (conv=>whnf); refine .inl ⟨_,_,byX rfl (Sound1.pl (h98 ⟨rfl,rfl,rfl,rfl⟩) rfl),?_⟩
  (conv=>whnf); refine ifB_beq (fun w2=>?_) (fun w2=>?_)
  ·(conv=>whnf); refine .inl ⟨_,_,byX rfl (Sound1.pl (S49 _ _) rfl),?_⟩
   (conv=>whnf); refine .inl ⟨_,_,byX rfl (Sound1.pl (S91 _ _ _) rfl),?_⟩
   (conv=>whnf); refine .inl ⟨_,_,byX rfl (Sound1.pl (S49 _ _) rfl),?_⟩
   (conv=>whnf); refine .inl ⟨_,_,byX rfl (Sound1.pl (h68 ⟨rfl,rfl⟩) rfl),?_⟩
   (conv=>whnf); refine .inl ⟨_,_,byX rfl (Sound1.pl (S69_5 _ _ _ _ _ ⟨rfl,rfl,rfl,rfl,rfl⟩) rfl),?_⟩
   (conv=>whnf); refine ⟨?_,nofun⟩
   show i64 (firstOf _) = i64 (movingE _ _ _)
   unfold movingE; simp_all
  ·(conv=>whnf); refine .inl ⟨_,_,byX rfl (Sound1.pl (S49 _ _) rfl),?_⟩
   (conv=>whnf); refine .inl ⟨_,_,byX rfl (Sound1.pl (S91 _ _ _) rfl),?_⟩
   (conv=>whnf); refine .inl ⟨_,_,byX rfl (Sound1.pl (S49 _ _) rfl),?_⟩
   (conv=>whnf); refine .inl ⟨_,_,byX rfl (Sound1.pl (h68 ⟨rfl,rfl⟩) rfl),?_⟩
   (conv=>whnf); refine .inl ⟨_,_,byX rfl (Sound1.pl (S69_5 _ _ _ _ _ ⟨rfl,rfl,rfl,rfl,rfl⟩) rfl),?_⟩
   (conv=>whnf); refine ⟨?_,nofun⟩
   show i64 (firstOf _) = i64 (movingE _ _ _)
   unfold movingE; simp_all
 ·(conv=>whnf); refine ifB_beq (fun w2=>?_) (fun w2=>?_)
  ·(conv=>whnf); refine .inl ⟨_,_,byX rfl (Sound1.pl (S49 _ _) rfl),?_⟩
   (conv=>whnf); refine .inl ⟨_,_,byX rfl (Sound1.pl (h98 ⟨rfl,rfl,rfl,rfl⟩) rfl),?_⟩
   (conv=>whnf); refine ifB_beq (fun w3=>?_) (fun w3=>?_)
   ·(conv=>whnf); refine .inl ⟨_,_,byX rfl (Sound1.pl (S49 _ _) rfl),?_⟩
    (conv=>whnf); refine .inl ⟨_,_,byX rfl (Sound1.pl (S91 _ _ _) rfl),?_⟩
    (conv=>whnf); refine .inl ⟨_,_,byX rfl (Sound1.pl (S49 _ _) rfl),?_⟩
    (conv=>whnf); refine .inl ⟨_,_,byX rfl (Sound1.pl (h68 ⟨rfl,rfl⟩) rfl),?_⟩
    (conv=>whnf); refine .inl ⟨_,_,byX rfl (Sound1.pl (S69_5 _ _ _ _ _ ⟨rfl,rfl,rfl,rfl,rfl⟩) rfl),?_⟩
    (conv=>whnf); refine ⟨?_,nofun⟩
    show i64 (firstOf _) = i64 (movingE _ _ _)
    unfold movingE; simp_all
   ·(conv=>whnf); refine .inl ⟨_,_,byX rfl (Sound1.pl (S49 _ _) rfl),?_⟩
    (conv=>whnf); refine .inl ⟨_,_,byX rfl (Sound1.pl (S91 _ _ _) rfl),?_⟩
    (conv=>whnf); refine .inl ⟨_,_,byX rfl (Sound1.pl (S49 _ _) rfl),?_⟩
    (conv=>whnf); refine .inl ⟨_,_,byX rfl (Sound1.pl (h68 ⟨rfl,rfl⟩) rfl),?_⟩
    (conv=>whnf); refine .inl ⟨_,_,byX rfl (Sound1.pl (S69_5 _ _ _ _ _ ⟨rfl,rfl,rfl,rfl,rfl⟩) rfl),?_⟩
    (conv=>whnf); refine ⟨?_,nofun⟩
    show i64 (firstOf _) = i64 (movingE _ _ _)
    unfold movingE; simp_all
  ·(conv=>whnf); refine .inl ⟨_,_,byX rfl (Sound1.pl (S49 _ _) rfl),?_⟩
   (conv=>whnf); refine .inl ⟨_,_,byX rfl (Sound1.pl (h98 ⟨rfl,rfl,rfl,rfl⟩) rfl),?_⟩
   (conv=>whnf); refine ifB_beq (fun w3=>?_) (fun w3=>?_)
   ·(conv=>whnf); refine .inl ⟨_,_,byX rfl (Sound1.pl (S49 _ _) rfl),?_⟩
    (conv=>whnf); refine .inl ⟨_,_,byX rfl (Sound1.pl (S91 _ _ _) rfl),?_⟩
    (conv=>whnf); refine .inl ⟨_,_,byX rfl (Sound1.pl (S49 _ _) rfl),?_⟩
    (conv=>whnf); refine .inl ⟨_,_,byX rfl (Sound1.pl (h68 ⟨rfl,rfl⟩) rfl),?_⟩
    (conv=>whnf); refine .inl ⟨_,_,byX rfl (Sound1.pl (S69_5 _ _ _ _ _ ⟨rfl,rfl,rfl,rfl,rfl⟩) rfl),?_⟩
    (conv=>whnf); refine ⟨?_,nofun⟩
    show i64 (firstOf _) = i64 (movingE _ _ _)
    unfold movingE; simp_all
   ·(conv=>whnf); refine .inl ⟨_,_,byX rfl (Sound1.pl (S49 _ _) rfl),?_⟩
    (conv=>whnf); refine .inl ⟨_,_,byX rfl (Sound1.pl (S91 _ _ _) rfl),?_⟩
    (conv=>whnf); refine .inl ⟨_,_,byX rfl (Sound1.pl (S49 _ _) rfl),?_⟩
    (conv=>whnf); refine .inl ⟨_,_,byX rfl (Sound1.pl (h68 ⟨rfl,rfl⟩) rfl),?_⟩
    (conv=>whnf); refine .inl ⟨_,_,byX rfl (Sound1.pl (S69_5 _ _ _ _ _ ⟨rfl,rfl,rfl,rfl,rfl⟩) rfl),?_⟩
    (conv=>whnf); refine ⟨?_,nofun⟩
    show i64 (firstOf _) = i64 (movingE _ _ _)
    unfold movingE; simp_all

theorem moving_form (n m : Nat) (s : Stp) : movingE n m s = if s.safe = true then 3 else if ¬ s.home = 0 then 3 else if ¬ s.exits.length = 0 then 3 else
  if ¬ firstOf [setE n s.on,setE n s.off,setE n s.mon,setE n s.mof] = 0 then firstOf [setE n s.on,setE n s.off,setE n s.mon,setE n s.mof] else
  if ¬ bitI .and .i64 s.on s.off = 0 then 13 else if ¬ bitI .and .i64 s.mon s.mof = 0 then 13 else
  if 1 ≤ s.time ∧ s.time ≤ s.wait then firstOf [idxE m s.next,idxE m s.back] else 2 := by
 unfold movingE
 rw [sets4,idxs2]
 unfold firstOf
 cases s.safe with
 | true=>simp
 | false =>
  by_cases h1 : s.home = 0
  ·by_cases h2 : s.exits.length = 0
   ·simp [h1,h2,firstOf]
    repeat' split
    all_goals simp_all
   ·simp [h1,h2]
  ·simp [h1]
end Go.Tr

/- Contracts of chapter 7: which plans are valid, by the program and by the reference. Conditions: none. -/
namespace Go.Tr
open Go Go.Proofs
set_option maxRecDepth 20000
set_option maxHeartbeats 8000000

theorem toList_loop (bs : ByteArray) : ∀ (n i : Nat) (r : List UInt8),n = bs.size - i → ByteArray.toList.loop bs i r = r.reverse ++ bs.data.toList.drop i := by
 intro n
 induction n with
 | zero =>
  intro i r h
  unfold ByteArray.toList.loop
  have hz : bs.data.toList.length = bs.size := rfl
  rw [if_neg (by omega),List.drop_of_length_le (by omega),List.append_nil]
 | succ n ih =>
  intro i r h
  unfold ByteArray.toList.loop
  have hz : bs.data.toList.length = bs.size := rfl
  rw [if_pos (by omega),ih (i + 1) _ (by omega),List.drop_eq_getElem_cons (show i < bs.data.toList.length by omega)]
  have : bs.get! i = bs.data.toList[i]'(by omega) := by
   show bs.data[i]! = _
   rw [getElem!_pos bs.data i (by show i < bs.size; omega)]
   rfl
  rw [this]; simp
theorem toList_eq (bs : ByteArray) : bs.toList = bs.data.toList := by
  unfold ByteArray.toList
  rw [toList_loop bs (bs.size) 0 [] (by omega)]; simp
theorem toList_inj {a b : ByteArray} : a.toList = b.toList ↔ a = b := by
  rw [toList_eq,toList_eq]
  exact ⟨fun h=>by cases a; cases b; simp at h; simp [h],fun h=>by rw [h]⟩
theorem keyS (a b : ByteArray) : opEv.keyEq (.string a) (.string b) = (b.toList == a.toList) := by
 have h : (a == b) = true ↔ a = b := by
  cases a with | mk a=>cases b with | mk b =>
  show (a == b) = true ↔ _
  rw [beq_iff_eq]
  exact ⟨fun h=>h ▸ rfl,fun h=>by cases h; rfl⟩
 show (a == b) = _
 rw [Bool.eq_iff_iff,h,beq_iff_eq,toList_inj]
 exact ⟨fun h=>h.symm,fun h=>h.symm⟩
theorem bif_vb (b x y : Bool) : vb (bif b then x else y) = bif b then vb x else vb y := by cases b <;> rfl
theorem ave_tup2 {k : Nat} {a b a' b' : AV} (ha : AVE k a a') (hb : AVE k b b') : AVE (k + 1) (.tuple [a,b]) (.tuple [a',b']) := by
 refine ⟨rfl,fun i x y h1 h2=>?_⟩
 match i,h1,h2 with
 | 0,h1,h2=>cases h1; cases h2; exact ha
 | 1,h1,h2=>cases h1; cases h2; exact hb

theorem S39t (l : List ByteArray) (hl : l.length ≤ 9223372036854775807) (x : ByteArray) {k : Nat} (hk : k ≤ l.length) {f : Nat → List AV} (h : ∀ i,f i = [sv (l.getD i ByteArray.empty)]) : SP 39 [.rslice 1 k f,sv x] (vb (hasS (l.take k) x)) false := by
 have h1 : (l.take k).length = k := by simp; omega
 have key : ∀ i,i < k → f i = [sv ((l.take k).getD i ByteArray.empty)] := fun i hi=>by
  rw [h i]
  simp [List.getD,hi]
 refine (S39 (l.take k) (by omega) x).argsD rfl fun i y z hy hz=>?_
 match i,hy,hz with
 | 0,hy,hz=>cases hy; cases hz; exact .inr ⟨1,AVF_rows h1.symm key 0⟩
 | 1,hy,hz=>cases hy; cases hz; exact .inl rfl
structure FewP (p : Pln) : Prop where
 sig : p.sig.length ≤ 7
 steps : p.steps.length ≤ 12
 size : ∀ i,i < p.sig.length → (p.sig.getD i ByteArray.empty).size ≤ 30
 name : ∀ i,i < p.steps.length → (p.steps.getD i stp0).name.size ≤ 30
 exits : ∀ i,i < p.steps.length → (p.steps.getD i stp0).exits.length ≤ 12

def nameE (s : ByteArray) (seen : Bool) : Int := firstOf [if nameB s then 0 else 4,if !seen then 0 else 5]
def stepE (p : Pln) (s : Stp) (seen : Bool) : Int :=
 if firstOf [if nameB s.name then 0 else 4,if !seen then 0 else 5,setsE p.sig.length [s.needs],idxsE p.steps.length [s.trip],if decide (0 ≤ s.wait ∧ s.wait ≤ 10000) then 0 else 2] ≠ 0 then
  firstOf [if nameB s.name then 0 else 4,if !seen then 0 else 5,setsE p.sig.length [s.needs],idxsE p.steps.length [s.trip],if decide (0 ≤ s.wait ∧ s.wait ≤ 10000) then 0 else 2]
 else if s.wait = 0 then steadyE p.steps.length s else movingE p.sig.length p.steps.length s
theorem step_form (p : Pln) (s : Stp) (seen : Bool) : stepE p s seen = if ¬ firstOf [nameE s.name seen,setE p.sig.length s.needs,idxE p.steps.length s.trip] = 0 then firstOf [nameE s.name seen,setE p.sig.length s.needs,idxE p.steps.length s.trip]
  else if 0 ≤ s.wait ∧ s.wait ≤ 10000 then (if s.wait = 0 then steadyE p.steps.length s else movingE p.sig.length p.steps.length s) else 2 := by
 unfold stepE nameE
 rw [sets1,idxs1]
 generalize (if nameB s.name = true then (0 : Int) else 4) = A
 generalize (if (!seen) = true then (0 : Int) else 5) = B
 generalize setE p.sig.length s.needs = C
 generalize idxE p.steps.length s.trip = D
 by_cases h : 0 ≤ s.wait ∧ s.wait ≤ 10000
 ·rw [if_pos h,decide_eq_true h]
  unfold firstOf firstOf firstOf firstOf firstOf firstOf
  by_cases hA : A = 0 <;> by_cases hB : B = 0 <;> by_cases hC : C = 0 <;> by_cases hD : D = 0 <;> simp [hA,hB,hC,hD]
 ·rw [if_neg h,decide_eq_false h]
  unfold firstOf firstOf firstOf firstOf firstOf firstOf
  by_cases hA : A = 0 <;> by_cases hB : B = 0 <;> by_cases hC : C = 0 <;> by_cases hD : D = 0 <;> simp [hA,hB,hC,hD]
theorem S72 (p : Pln) (s : Stp) (seen : Bool) (hn : p.sig.length ≤ 7) (hm : p.steps.length ≤ 1000) (he : s.exits.length ≤ 1000) (hs : s.name.size ≤ 1000) : SP 72 [planA p,stepA s,vb seen] (i64 (stepE p s seen)) false := by
 have h96 := S70 s.name (by omega)
 have h127 := S110 p s hm he
 have h128 := S111 p s hn hm
 have h98 := @S71_1 p hn s.needs
 have h68 := @S53_1 p hm s.trip
 have h78 := S91 s.wait 0 10000
 refine sound (d := 2) tok2 mixed2 Tryz.func72 (by kernel_rfl) (by kernel_rfl) ?_
 (conv=>whnf); refine ⟨[],by kernel_rfl,?_⟩
 (conv=>whnf); refine .inl ⟨_,_,byX rfl (Sound1.pl (h96) rfl),?_⟩
 (conv=>whnf); refine .inl ⟨_,_,byX rfl (Sound1.pl (S49 _ _) rfl),?_⟩
 (conv=>whnf); refine .inl ⟨_,_,byX rfl (Sound1.pl (S49 _ _) rfl),?_⟩
 (conv=>whnf); refine .inl ⟨_,_,byX rfl (Sound1.pl (h98 rfl) rfl),?_⟩
 (conv=>whnf); refine .inl ⟨_,_,byX rfl (Sound1.pl (h68 rfl) rfl),?_⟩
 (conv=>whnf); refine .inl ⟨_,_,byX rfl (Sound1.pl (h78) rfl),?_⟩
 (conv=>whnf); refine .inl ⟨_,_,byX rfl (Sound1.pl (S49 _ _) rfl),?_⟩
 (conv=>whnf); refine .inl ⟨_,_,byX rfl (Sound1.pl (S69_5 _ _ _ _ _ ⟨rfl,rfl,rfl,rfl,rfl⟩) rfl),?_⟩
 (conv=>whnf); refine ifB_bne (fun w1=>?_) (fun w1=>?_)
 ·(conv=>whnf); refine ⟨?_,nofun⟩
  refine endi (b := stepE p s seen) (Eq.trans ?_ (if_pos w1).symm)
  rfl
 ·(conv=>whnf); refine ifB_beq (fun w2=>?_) (fun w2=>?_)
  ·(conv=>whnf); refine .inl ⟨_,_,byX rfl (Sound1.pl (h127) rfl),?_⟩
   (conv=>whnf); refine ⟨?_,nofun⟩
   refine endi (b := stepE p s seen) (Eq.trans ?_ (if_neg (not_not_intro w1)).symm)
   rw [if_pos w2]
  ·(conv=>whnf); refine .inl ⟨_,_,byX rfl (Sound1.pl (h128) rfl),?_⟩
   (conv=>whnf); refine ⟨?_,nofun⟩
   refine endi (b := stepE p s seen) (Eq.trans ?_ (if_neg (not_not_intro w1)).symm)
   rw [if_neg w2]

def hasN (p : Pln) (k : Nat) (s : ByteArray) : Bool := hasS ((p.steps.map Stp.name).take k) s
def sigAt (p : Pln) (i : Nat) : Int := nameE (p.sig.getD i ByteArray.empty) (hasS (p.sig.take i) (p.sig.getD i ByteArray.empty))
def stepAt (p : Pln) (i : Nat) : Int := stepE p (p.steps.getD i stp0) (hasN p i (p.steps.getD i stp0).name)
def headE (p : Pln) : Int := firstOf [setsE p.sig.length [p.start],if decide ((p.steps.length : Int) > 0) then 0 else 10,if decide ((p.steps.length : Int) ≤ 10) then 0 else 8]
def checkP (p : Pln) : Int × Int :=
 if p.sig.length > 5 then (0,8)
 else if (scan (sigAt p) p.sig.length 0).2 ≠ 0 then (0,(scan (sigAt p) p.sig.length 0).2)
 else if headE p ≠ 0 then (0,headE p)
 else if (scan (stepAt p) p.steps.length 0).2 ≠ 0 then scan (stepAt p) p.steps.length 0
 else (0,if (p.steps.getD 0 stp0).safe && decide ((p.steps.getD 0 stp0).wait = 0) then 0 else 20)
abbrev t2 (a b : Int) : AV := .tuple [i64 a,i64 b]
theorem check_1 {p : Pln} (h : p.sig.length > 5) : checkP p = (0,8) := if_pos h
theorem check_2 {p : Pln} {k : Nat} {e : Int} (h : ¬ p.sig.length > 5) (hk : k < p.sig.length) (hf : ∀ j,j < k → sigAt p j = 0) (he : sigAt p k = e) (h0 : ¬ e = 0) : checkP p = (0,e) := by
 unfold checkP
 rw [if_neg h,scan_at hk hf (by rw [he]; exact h0),he]
 exact if_pos h0
theorem check_3 {p : Pln} (h : ¬ p.sig.length > 5) (hf : ∀ j,j < p.sig.length → sigAt p j = 0) (h0 : ¬ headE p = 0) : checkP p = (0,headE p) := by
  unfold checkP
  rw [if_neg h,scan_all hf,if_neg (fun e=>e rfl),if_pos h0]
theorem check_4 {p : Pln} {k : Nat} {e : Int} (h : ¬ p.sig.length > 5) (hf : ∀ j,j < p.sig.length → sigAt p j = 0) (hh : headE p = 0) (hk : k < p.steps.length) (hg : ∀ j,j < k → stepAt p j = 0) (he : stepAt p k = e) (h0 : ¬ e = 0) : checkP p = (↑k,e) := by
  unfold checkP
  rw [if_neg h,scan_all hf,if_neg (fun e=>e rfl),if_neg (not_not_intro hh),scan_at hk hg (by rw [he]; exact h0),he,if_pos h0]
theorem check_5 {p : Pln} (h : ¬ p.sig.length > 5) (hf : ∀ j,j < p.sig.length → sigAt p j = 0) (hh : headE p = 0) (hg : ∀ j,j < p.steps.length → stepAt p j = 0) :
  checkP p = (0,if (p.steps.getD 0 stp0).safe && decide ((p.steps.getD 0 stp0).wait = 0) then 0 else 20) := by
 unfold checkP
 rw [if_neg h,scan_all hf,if_neg (fun e=>e rfl),if_neg (not_not_intro hh),scan_all hg,if_neg (fun e=>e rfl)]
theorem first3_iff {a b c : Int} : firstOf [a,b,c] = 0 ↔ a = 0 ∧ b = 0 ∧ c = 0 := by
  unfold firstOf firstOf firstOf firstOf
  by_cases h : a = 0 <;> by_cases h2 : b = 0 <;> by_cases h3 : c = 0 <;> simp [h,h2,h3]
theorem head_len {p : Pln} (hh : headE p = 0) : 0 < p.steps.length := by
 unfold headE at hh
 rw [first3_iff] at hh
 have := hh.2.1
 by_cases h : (p.steps.length : Int) > 0
 ·omega
 ·rw [decide_eq_false h] at this; cases this

theorem hasN_succ {p : Pln} {k : Nat} (hk : k < p.steps.length) (s : ByteArray) : hasN p (k + 1) s = (hasN p k s || (p.steps.getD k stp0).name.toList == s.toList) := by
 unfold hasN hasS
 rw [List.take_add_one,List.any_append]
 congr 1
 simp [List.getD,hk]
theorem endp {a b : Int} {q : Int × Int} (h : q = (a,b)) : AVE 5 (t2 a b) (t2 q.1 q.2) := by
  rw [h]
  exact ave_tup2 (k := 4) rfl rfl
theorem head_form (p : Pln) : headE p = if ¬ setE p.sig.length p.start = 0 then setE p.sig.length p.start else if p.steps.length = 0 then 10 else if p.steps.length > 10 then 8 else 0 := by
 unfold headE
 rw [sets1]
 unfold firstOf firstOf firstOf firstOf
 by_cases h : setE p.sig.length p.start = 0
 ·rw [if_pos h,if_neg (not_not_intro h)]
  by_cases h2 : p.steps.length = 0
  ·rw [if_pos h2,decide_eq_false (by omega)]; rfl
  ·rw [if_neg h2,decide_eq_true (by omega)]
   by_cases h3 : p.steps.length > 10
   ·rw [if_pos h3,decide_eq_false (by omega)]; rfl
   ·rw [if_neg h3,decide_eq_true (by omega)]; rfl
 ·rw [if_neg h,if_pos h]
theorem S41 (p : Pln) (hp : FewP p) : SP 41 [planA p] (t2 (checkP p).1 (checkP p).2) false := by
 have hn := hp.sig
 have hm := hp.steps
 refine sound (d := 2) tok2 mixed2 Tryz.func41 (by kernel_rfl) (by kernel_rfl) ?_
 (conv=>whnf); refine ifB_dec (fun w1=>?_) (fun w1=>?_)
 ·(conv=>whnf); refine ⟨?_,nofun⟩
  exact endp (check_1 (p := p) (by omega))
 ·(conv => whnf); refine ⟨[], [4, 22, 23, 24], fun st mq => ∃ (k : Nat), (k ≤ p.sig.length) ∧ (∀ j, j < k → sigAt p j = 0) ∧ st = ⟨[(4, .optr 1 0 0 0), (22, strs p.sig), (23, i64 p.sig.length), (24, i64 k)], ⟨[⟨3, 1, fun _ => planC p, 0, false, true, true⟩, ⟨3, 1, fun _ => planC p, 0, false, true, true⟩], [], none, 0⟩, []⟩ ∧ mq = p.sig.length - k,
   ⟨_,_,⟨0,by omega,inv_none,rfl,rfl⟩,⟨⟨.inl rfl,rfl,rfl,rfl⟩,⟨bA,⟨bA,trivial⟩⟩,trivial⟩⟩,?_⟩
  rintro s0 m0 ⟨k,hk,hf,rfl,hmeas⟩
  by_cases hlt : k < p.sig.length
  ·have hz := hp.size k hlt
   have h96 := S70 (p.sig.getD (k : Int).toNat ByteArray.empty) (by show (p.sig.getD k ByteArray.empty).size ≤ _; omega)
   have h97 := @S39t p.sig (by omega) (p.sig.getD (k : Int).toNat ByteArray.empty) k (by omega)
   conv=>whnf
   (conv=>whnf); refine ifB_dec (fun w2=>?_) (fun w2=>?_)
   ·conv=>whnf
    (conv=>whnf); refine ⟨⟨(by omega),(by omega)⟩,?_⟩
    conv=>whnf
    (conv=>whnf); refine ⟨[],by kernel_rfl,?_⟩
    conv=>whnf
    (conv=>whnf); refine .inl ⟨_,_,byX rfl (Sound1.pl (h96) rfl),?_⟩
    conv=>whnf
    (conv=>whnf); refine .inl ⟨_,_,byX rfl (Sound1.pl (S49 _ _) rfl),?_⟩
    conv=>whnf
    (conv=>whnf); refine ⟨⟨(by omega),⟨(by omega),(by omega)⟩⟩,?_⟩
    conv=>whnf
    (conv=>whnf); refine .inl ⟨_,_,byX rfl (Sound1.pl (h97 (fun _=>rfl)) rfl),?_⟩
    conv=>whnf
    (conv=>whnf); refine .inl ⟨_,_,byX rfl (Sound1.pl (S49 _ _) rfl),?_⟩
    conv=>whnf
    (conv=>whnf); refine .inl ⟨_,_,byX rfl (Sound1.pl (S69_2 _ _ ⟨rfl,rfl⟩) rfl),?_⟩
    conv=>whnf
    (conv=>whnf); refine ifB_bne (fun w3=>?_) (fun w3=>?_)
    ·conv=>whnf
     (conv=>whnf); refine ⟨?_,nofun⟩
     exact endp (check_2 (by omega) hlt hf rfl (by first | exact w2 | exact w3))
    ·conv=>whnf
     (conv=>whnf); refine ⟨inK64 (by omega) (by omega),?_⟩
     conv=>whnf
     (conv=>whnf); refine ⟨_,_,⟨⟨k + 1,by omega,inv_next hf (by first | exact w2 | exact w3),rfl,rfl⟩,by omega⟩,⟨⟨.inl rfl,rfl,rfl,rfl⟩,⟨bA,⟨bA,trivial⟩⟩,trivial⟩⟩
   ·(exfalso; omega)
  ·have e : k = p.sig.length := by omega
   subst e
   have h98 := @S71_1 p hn p.start
   conv=>whnf
   (conv=>whnf); refine ifB_dec (fun w2=>?_) (fun w2=>?_)
   ·(exfalso; omega)
   ·conv=>whnf
    (conv=>whnf); refine ⟨[],by kernel_rfl,?_⟩
    conv=>whnf
    (conv=>whnf); refine .inl ⟨_,_,byX rfl (Sound1.pl (h98 rfl) rfl),?_⟩
    conv=>whnf
    (conv=>whnf); refine .inl ⟨_,_,byX rfl (Sound1.pl (S49 _ _) rfl),?_⟩
    conv=>whnf
    (conv=>whnf); refine .inl ⟨_,_,byX rfl (Sound1.pl (S49 _ _) rfl),?_⟩
    conv=>whnf
    (conv=>whnf); refine .inl ⟨_,_,byX rfl (Sound1.pl (S69_3 _ _ _ ⟨rfl,rfl,rfl⟩) rfl),?_⟩
    conv=>whnf
    (conv=>whnf); refine ifB_bne (fun w3=>?_) (fun w3=>?_)
    ·conv=>whnf
     (conv=>whnf); refine ⟨?_,nofun⟩
     exact endp (check_3 (by omega) hf (by first | exact w2 | exact w3))
    ·have hh : headE p = 0 := by first | exact w2 | exact w3
     conv=>whnf
     (conv=>whnf); refine ⟨[],[4,9,73,74,75],fun st mq=>∃ (k : Nat) (H : Value → Bool) (G : Value → Bool) (F2 : Nat → List AV) (F3 : Nat → List AV),(k ≤ p.steps.length) ∧ (∀ s,G (.string s) = hasN p k s) ∧ (∀ j,j < k → stepAt p j = 0) ∧ st = ⟨[(4,.optr 1 0 0 0),(9,.omap 0),(73,stepsA p.steps),(74,i64 p.steps.length),(75,i64 k)],⟨[⟨3,1,fun _=>planC p,0,false,true,true⟩,⟨3,1,fun _=>planC p,0,false,true,true⟩,⟨1,1,F2,0,false,true,false⟩,⟨1,3,F3,0,false,true,false⟩],[⟨.str,4,H,fun v=>vb (G v),false,none,0,.top⟩],none,0⟩,[]⟩ ∧ mq = p.steps.length - k,
      ⟨_,_,⟨0,fun _=>false,fun _=>false,_,_,by omega,fun _=>rfl,inv_none,rfl,rfl⟩,⟨⟨.inl rfl,rfl,rfl,rfl⟩,⟨bA,⟨bA,⟨bA,⟨bA,trivial⟩⟩⟩⟩,⟨⟨rfl,rfl,rfl,trivial,.inl rfl,fun _=>⟨rfl,.inl rfl⟩⟩,trivial⟩⟩⟩,?_⟩
     rintro s0 m0 ⟨k,H,G,F2,F3,hk,hG,hg,rfl,hmeas⟩
     by_cases hlt : k < p.steps.length
     ·have hz := hp.name k hlt
      have hx := hp.exits k hlt
      have h99 := S72 p (p.steps.getD (k : Int).toNat stp0) (G (.string (p.steps.getD (k : Int).toNat stp0).name)) hn (by omega) (by show (p.steps.getD k stp0).exits.length ≤ _; omega) (by show (p.steps.getD k stp0).name.size ≤ _; omega)
      rw [show stepE p (p.steps.getD (k : Int).toNat stp0) (G (.string (p.steps.getD (k : Int).toNat stp0).name)) = stepAt p k by rw [hG]; rfl] at h99
      have hG2 : ∀ s,(bif opEv.keyEq (.string s) (.string (p.steps.getD (k : Int).toNat stp0).name) then true else G (.string s)) = hasN p (k + 1) s := fun s=>by
       rw [keyS,hG,hasN_succ hlt,show (k : Int).toNat = k from rfl]
       generalize ((p.steps.getD k stp0).name.toList == s.toList) = A
       generalize hasN p k s = B
       cases A <;> cases B <;> rfl
      conv=>whnf
      conv=>whnf
      (conv=>whnf); refine ifB_dec (fun w4=>?_) (fun w4=>?_)
      ·conv=>whnf
       conv=>whnf
       (conv=>whnf); refine ⟨⟨(by omega),(by omega)⟩,?_⟩
       conv=>whnf
       conv=>whnf
       (conv=>whnf); refine .inl ⟨_,_,byX rfl (Sound1.pl (h99) rfl),?_⟩
       conv=>whnf
       conv=>whnf
       (conv=>whnf); refine ifB_bne (fun w5=>?_) (fun w5=>?_)
       ·conv=>whnf
        conv=>whnf
        (conv=>whnf); refine ⟨?_,nofun⟩
        exact endp (check_4 (by omega) hf hh hlt hg rfl (by first | exact w5 | exact w4 | exact w3 | exact w2))
       ·conv=>whnf
        conv=>whnf
        (conv=>whnf); refine ⟨inK64 (by omega) (by omega),?_⟩
        conv=>whnf
        conv=>whnf
        (conv=>whnf); refine ⟨_,_,⟨⟨k + 1,fun v=>Bool.or (H v) (opEv.keyEq v (.string (p.steps.getD (k : Int).toNat stp0).name)),fun v=>bif opEv.keyEq v (.string (p.steps.getD (k : Int).toNat stp0).name) then true else G v,_,_,by omega,hG2,inv_next hg (by first | exact w5 | exact w4 | exact w3 | exact w2),rfl,rfl⟩,by omega⟩,⟨⟨.inl rfl,rfl,rfl,rfl⟩,⟨bA,⟨bA,⟨bA,⟨bA,trivial⟩⟩⟩⟩,⟨⟨rfl,rfl,rfl,trivial,.inl rfl,fun v=>And.imp id Or.inl (⟨rfl,bif_vb _ _ _⟩)⟩,trivial⟩⟩⟩
      ·(exfalso; omega)
     ·have e : k = p.steps.length := by omega
      subst e
      have h100 := S73 (p.steps.getD 0 stp0)
      have h0 := head_len hh
      conv=>whnf
      conv=>whnf
      (conv=>whnf); refine ifB_dec (fun w4=>?_) (fun w4=>?_)
      ·(exfalso; omega)
      ·conv=>whnf
       conv=>whnf
       (conv=>whnf); refine ⟨⟨(by omega),(by omega)⟩,?_⟩
       conv=>whnf
       conv=>whnf
       (conv=>whnf); refine .inl ⟨_,_,byX rfl (Sound1.pl (h100) rfl),?_⟩
       conv=>whnf
       conv=>whnf
       (conv=>whnf); refine .inl ⟨_,_,byX rfl (Sound1.pl (S49 _ _) rfl),?_⟩
       conv=>whnf
       conv=>whnf
       (conv=>whnf); refine ⟨?_,nofun⟩
       exact endp (check_5 (by omega) hf hh hg)
end Go.Tr

/- Contracts of chapter 7: states, faults, turns. Conditions: none. -/
namespace Go.Tr
open Go Go.Proofs
set_option maxRecDepth 20000
set_option maxHeartbeats 8000000

abbrev stA (s : Int × Int) : AV := .agg [i64 s.1,i64 s.2]
abbrev ftA (f : Int × Bool) : AV := .agg [i64 f.1,vb f.2]
def stateE (p : Pln) (s : Int × Int) : Int := firstOf [idxE p.steps.length s.1,setE p.sig.length s.2]
def faultE (p : Pln) (f : Int × Bool) : Int := firstOf [if decide (-1 ≤ f.1 ∧ f.1 ≤ (p.sig.length : Int) - 1) then 0 else 2,if decide (f.1 ≥ 0) || !f.2 then 0 else 3]
def openE (p : Pln) (s : Int × Int) (f : Int × Bool) : Int := if (checkP p).2 = 0 then firstOf [stateE p s,faultE p f] else (checkP p).2

theorem ave_agg2 {k : Nat} {a b a' b' : AV} (ha : AVE k a a') (hb : AVE k b b') : AVE (k + 1) (.agg [a,b]) (.agg [a',b']) := by
 refine ⟨rfl,fun i x y hx hy=>?_⟩
 match i,hx,hy with
 | 0,hx,hy=>cases hx; cases hy; exact ha
 | 1,hx,hy=>cases hx; cases hy; exact hb
theorem ave_agg3 {k : Nat} {a b c a' b' c' : AV} (ha : AVE k a a') (hb : AVE k b b') (hc : AVE k c c') : AVE (k + 1) (.agg [a,b,c]) (.agg [a',b',c']) := by
 refine ⟨rfl,fun i x y hx hy=>?_⟩
 match i,hx,hy with
 | 0,hx,hy=>cases hx; cases hy; exact ha
 | 1,hx,hy=>cases hx; cases hy; exact hb
 | 2,hx,hy=>cases hx; cases hy; exact hc
theorem ave_tup3 {k : Nat} {a b c a' b' c' : AV} (ha : AVE k a a') (hb : AVE k b b') (hc : AVE k c c') : AVE (k + 1) (.tuple [a,b,c]) (.tuple [a',b',c']) := by
 refine ⟨rfl,fun i x y hx hy=>?_⟩
 match i,hx,hy with
 | 0,hx,hy=>cases hx; cases hy; exact ha
 | 1,hx,hy=>cases hx; cases hy; exact hb
 | 2,hx,hy=>cases hx; cases hy; exact hc
theorem ave_plan (k : Nat) (p : Pln) : AVE (k + 2) (planA p) (planA p) := ave_agg3 ⟨rfl,rfl,fun _ _=>rfl⟩ rfl ⟨rfl,rfl,fun _ _=>rfl⟩
theorem ave_i64 (k : Nat) {a b : Int} (h : a = b) : AVE (k + 1) (i64 a) (i64 b) := h ▸ rfl
theorem ave_st (k : Nat) {s s' : Int × Int} (h : s = s') : AVE (k + 2) (stA s) (stA s') := h ▸ ave_agg2 rfl rfl
theorem endPl {p : Pln} {a b : Int} (h : a = b) : AVE 5 (.tuple [planA p,i64 a]) (.tuple [planA p,i64 b]) := ave_tup2 (ave_plan 2 p) (ave_i64 3 h)
theorem S81 (p : Pln) (hn : p.sig.length ≤ 7) (hm : p.steps.length ≤ 1000) (s : Int × Int) : SP 81 [planA p,stA s] (i64 (stateE p s)) false := by
 have h68 := @S53_1 p hm s.1
 have h98 := @S71_1 p hn s.2
 rw [idxs1] at h68
 rw [sets1] at h98
 refine sound (d := 2) tok2 mixed2 Tryz.func81 (by kernel_rfl) (by kernel_rfl) ?_
 (conv=>whnf); refine ⟨[],by kernel_rfl,?_⟩
 (conv=>whnf); refine .inl ⟨_,_,byX rfl (Sound1.pl (h68 rfl) rfl),?_⟩
 (conv=>whnf); refine .inl ⟨_,_,byX rfl (Sound1.pl (h98 rfl) rfl),?_⟩
 (conv=>whnf); refine .inl ⟨_,_,byX rfl (Sound1.pl (S69_2 _ _ ⟨rfl,rfl⟩) rfl),?_⟩
 (conv=>whnf); refine ⟨?_,nofun⟩
 rfl
theorem S82 (p : Pln) (hn : p.sig.length ≤ 7) (f : Int × Bool) : SP 82 [planA p,ftA f] (i64 (faultE p f)) false := by
 have h78 := S91 f.1 (-1) ((p.sig.length : Int) - 1)
 refine sound (d := 2) tok2 mixed2 Tryz.func82 (by kernel_rfl) (by kernel_rfl) ?_
 unfold faultE
 (conv=>whnf); refine ⟨[],by kernel_rfl,?_⟩
 (conv=>whnf); refine ⟨inK64 (by omega) (by omega),?_⟩
 (conv=>whnf); refine .inl ⟨_,_,byX rfl (Sound1.pl (h78) rfl),?_⟩
 (conv=>whnf); refine .inl ⟨_,_,byX rfl (Sound1.pl (S49 _ _) rfl),?_⟩
 (conv=>whnf); refine ifB_dec (fun w1=>?_) (fun w1=>?_)
 ·(conv=>whnf); refine .inl ⟨_,_,byX rfl (Sound1.pl (S49 _ _) rfl),?_⟩
  (conv=>whnf); refine .inl ⟨_,_,byX rfl (Sound1.pl (S69_2 _ _ ⟨rfl,rfl⟩) rfl),?_⟩
  (conv=>whnf); refine ⟨?_,nofun⟩
  refine endi ?_
  rw [decide_eq_true w1]; rfl
 ·(conv=>whnf); refine .inl ⟨_,_,byX rfl (Sound1.pl (S49 _ _) rfl),?_⟩
  (conv=>whnf); refine .inl ⟨_,_,byX rfl (Sound1.pl (S69_2 _ _ ⟨rfl,rfl⟩) rfl),?_⟩
  (conv=>whnf); refine ⟨?_,nofun⟩
  refine endi ?_
  rw [decide_eq_false w1]; rfl
theorem S80 (p : Pln) (hp : FewP p) : SP 80 [planA p] (.tuple [planA p,i64 (checkP p).2]) false := by
 have h := S41 p hp
 refine sound (d := 2) tok2 mixed2 Tryz.func80 (by kernel_rfl) (by kernel_rfl) ?_
 (conv=>whnf); refine .inl ⟨_,_,byX rfl (Sound1.pl (h) rfl),?_⟩
 (conv=>whnf); refine ⟨?_,nofun⟩
 exact endPl rfl
theorem S48 (p : Pln) (hp : FewP p) (s : Int × Int) (f : Int × Bool) : SP 48 [planA p,stA s,ftA f] (.tuple [planA p,i64 (openE p s f)]) false := by
 have hn := hp.sig
 have hm := hp.steps
 have h101 := S80 p hp
 have h109 := S81 p hn (by omega) s
 have h103 := S82 p hn f
 refine sound (d := 2) tok2 mixed2 Tryz.func48 (by kernel_rfl) (by kernel_rfl) ?_
 (conv=>whnf); refine .inl ⟨_,_,byX rfl (h101),?_⟩
 (conv=>whnf); refine ifB_beq (fun w1=>?_) (fun w1=>?_)
 ·(conv=>whnf); refine ⟨[],by kernel_rfl,?_⟩
  (conv=>whnf); refine .inl ⟨_,_,byX rfl (Sound1.pl (h109) rfl),?_⟩
  (conv=>whnf); refine .inl ⟨_,_,byX rfl (Sound1.pl (h103) rfl),?_⟩
  (conv=>whnf); refine .inl ⟨_,_,byX rfl (Sound1.pl (S69_2 _ _ ⟨rfl,rfl⟩) rfl),?_⟩
  (conv=>whnf); refine ⟨?_,nofun⟩
  exact endPl (if_pos w1).symm
 ·(conv=>whnf); refine ⟨?_,nofun⟩
  exact endPl (if_neg w1).symm
theorem S21 : SP 21 [] (ftA (-1,false)) false := by
 refine sound (d := 2) tok2 mixed2 Tryz.func21 (by kernel_rfl) (by kernel_rfl) ?_
 (conv=>whnf); refine ⟨?_,nofun⟩
 exact ave_agg2 (k := 4) rfl rfl

def seenB (w : Int) (f : Int × Bool) : Int := if f.1 < 0 then w else if f.2 then bitI .or .i64 w (shlI .i64 1 f.1) else bitI .andNot .i64 w (shlI .i64 1 f.1)
def lacksB (a b : Int) : Bool := decide (¬ bitI .andNot .i64 b a = 0)
def stp (p : Pln) (s : Int × Int) : Stp := p.steps.getD s.1.toNat stp0
def movedW (p : Pln) (s : Int × Int) : Int := bitI .andNot .i64 (bitI .or .i64 s.2 (stp p s).mon) (stp p s).mof
def turnF (p : Pln) (f : Int × Bool) (s : Int × Int) (c : Int) : (Int × Int) × Int :=
 if lacksB (seenB s.2 f) (stp p s).needs then (((stp p s).trip,s.2),1)
 else if (stp p s).wait = 0 then (if c = -1 then s else (c,s.2),1)
 else if lacksB (seenB (movedW p s) f) (stp p s).needs then (((stp p s).trip,movedW p s),(stp p s).time)
 else if lacksB (seenB (movedW p s) f) (stp p s).on || decide (¬ bitI .and .i64 (seenB (movedW p s) f) (stp p s).off = 0) then (((stp p s).back,movedW p s),(stp p s).wait)
 else (((stp p s).next,movedW p s),(stp p s).time)

theorem S85 (w : Int) (f : Int × Bool) : SP 85 [i64 w,ftA f] (i64 (seenB w f)) false := by
 refine sound (d := 2) tok2 mixed2 Tryz.func85 (by kernel_rfl) (by kernel_rfl) ?_
 unfold seenB
 (conv=>whnf); refine ifB_dec (fun w1=>?_) (fun w1=>?_)
 ·(conv=>whnf); refine ⟨?_,nofun⟩
  exact endi (if_pos w1).symm
 ·(conv=>whnf); refine ifB_intro (fun w2=>?_) (fun w2=>?_)
  ·(conv=>whnf); refine ⟨(by omega),?_⟩
   (conv=>whnf); refine ⟨?_,nofun⟩
   exact endi ((if_neg w1).trans (if_pos w2)).symm
  ·(conv=>whnf); refine ⟨(by omega),?_⟩
   (conv=>whnf); refine ⟨?_,nofun⟩
   exact endi ((if_neg w1).trans (if_neg (by rw [w2]; nofun))).symm
theorem S86 (a b : Int) : SP 86 [i64 a,i64 b] (vb (lacksB a b)) false := by
 refine sound (d := 2) tok2 mixed2 Tryz.func86 (by kernel_rfl) (by kernel_rfl) ?_
 (conv=>whnf); refine ⟨?_,nofun⟩
 refine endb ?_
 unfold lacksB
 rw [bne,Bool.eq_iff_iff]
 simp
theorem S84 (p : Pln) (s : Int × Int) (f : Int × Bool) (hs : 0 ≤ s.1 ∧ s.1 < p.steps.length) : SP 84 [planA p,stA s,ftA f] (vb (lacksB (seenB s.2 f) (stp p s).needs)) false := by
 have h90 := S85 s.2 f
 have h122 := S86 (seenB s.2 f) (stp p s).needs
 refine sound (d := 2) tok2 mixed2 Tryz.func84 (by kernel_rfl) (by kernel_rfl) ?_
 (conv=>whnf); refine ⟨[],by kernel_rfl,?_⟩
 (conv=>whnf); refine .inl ⟨_,_,byX rfl (Sound1.pl (h90) rfl),?_⟩
 (conv=>whnf); refine ⟨⟨(by omega),(by omega)⟩,?_⟩
 (conv=>whnf); refine .inl ⟨_,_,byX rfl (Sound1.pl (h122) rfl),?_⟩
 (conv=>whnf); refine ⟨?_,nofun⟩
 rfl
theorem endT {p : Pln} {s : Int × Int} {f : Int × Bool} {c a b t : Int} (h : turnF p f s c = ((a,b),t)) : AVE 5 (.tuple [stA (a,b),i64 t]) (.tuple [stA (turnF p f s c).1,i64 (turnF p f s c).2]) := by
  rw [h]
  exact ave_tup2 (ave_agg2 (k := 3) rfl rfl) (ave_i64 3 rfl)
theorem lk_t {a b : Int} (h : ¬ bitI .andNot .i64 b a = 0) : lacksB a b = true := decide_eq_true h
theorem lk_n {a b : Int} (h : ¬ ¬ bitI .andNot .i64 b a = 0) : ¬ lacksB a b = true := fun e=>h (of_decide_eq_true e)
theorem lk_f {a b : Int} (h : ¬ ¬ bitI .andNot .i64 b a = 0) : lacksB a b = false := decide_eq_false h
theorem S51 (p : Pln) (s : Int × Int) (f : Int × Bool) (c : Int) (hs : 0 ≤ s.1 ∧ s.1 < p.steps.length) : SP 51 [planA p,stA s,ftA f,i64 c] (.tuple [stA (turnF p f s c).1,i64 (turnF p f s c).2]) false := by
 have h119 := S84 p s f hs
 have h90 := S85 (movedW p s) f
 have h122 := S86 (seenB (movedW p s) f)
 have h70 := S54 (stp p s)
 refine sound (d := 2) tok2 mixed2 Tryz.func51 (by kernel_rfl) (by kernel_rfl) ?_
 (conv=>whnf); refine ⟨⟨(by omega),(by omega)⟩,?_⟩
 (conv=>whnf); refine .inl ⟨_,_,byX rfl (Sound1.pl (h119) rfl),?_⟩
 (conv=>whnf); refine ifB_dec (fun w1=>?_) (fun w1=>?_)
 ·(conv=>whnf); refine ⟨?_,nofun⟩
  exact endT (if_pos (lk_t w1))
 ·(conv=>whnf); refine .inl ⟨_,_,byX rfl (Sound1.pl (h70) rfl),?_⟩
  (conv=>whnf); refine ifB_dec (fun w2=>?_) (fun w2=>?_)
  ·(conv=>whnf); refine ifB_bne (fun w3=>?_) (fun w3=>?_)
   ·(conv=>whnf); refine ⟨?_,nofun⟩
    exact endT ((if_neg (lk_n w1)).trans ((if_pos w2).trans (by rw [if_neg w3])))
   ·(conv=>whnf); refine ⟨?_,nofun⟩
    exact endT ((if_neg (lk_n w1)).trans ((if_pos w2).trans (by rw [if_pos w3])))
  ·(conv=>whnf); refine .inl ⟨_,_,byX rfl (Sound1.pl (h90) rfl),?_⟩
   (conv=>whnf); refine .inl ⟨_,_,byX rfl (Sound1.pl (h122 _) rfl),?_⟩
   (conv=>whnf); refine ifB_dec (fun w3=>?_) (fun w3=>?_)
   ·(conv=>whnf); refine ⟨[(2,3)],by kernel_rfl,?_⟩
    (conv=>whnf); refine ⟨?_,nofun⟩
    exact endT ((if_neg (lk_n w1)).trans ((if_neg w2).trans (if_pos (lk_t w3))))
   ·(conv=>whnf); refine .inl ⟨_,_,byX rfl (Sound1.pl (h122 _) rfl),?_⟩
    (conv=>whnf); refine ifB_dec (fun w4=>?_) (fun w4=>?_)
    ·(conv=>whnf); refine ⟨[(2,3)],by kernel_rfl,?_⟩
     (conv=>whnf); refine ⟨?_,nofun⟩
     exact endT ((if_neg (lk_n w1)).trans ((if_neg w2).trans ((if_neg (lk_n w3)).trans (if_pos (Bool.or_eq_true_iff.2 (.inl (lk_t w4)))))))
    ·(conv=>whnf); refine ifB_bne (fun w5=>?_) (fun w5=>?_)
     ·(conv=>whnf); refine ⟨[(2,3)],by kernel_rfl,?_⟩
      (conv=>whnf); refine ⟨?_,nofun⟩
      exact endT ((if_neg (lk_n w1)).trans ((if_neg w2).trans ((if_neg (lk_n w3)).trans (if_pos (Bool.or_eq_true_iff.2 (.inr (decide_eq_true w5)))))))
     ·(conv=>whnf); refine ⟨[(2,3)],by kernel_rfl,?_⟩
      (conv=>whnf); refine ⟨?_,nofun⟩
      exact endT ((if_neg (lk_n w1)).trans ((if_neg w2).trans ((if_neg (lk_n w3)).trans (if_neg fun e=>(Bool.or_eq_true_iff.1 e).elim (lk_n w4) fun e=>(of_decide_eq_true e) w5))))
theorem S87 (p : Pln) (s : Int × Int) (f : Int × Bool) (hs : 0 ≤ s.1 ∧ s.1 < p.steps.length) : SP 87 [planA p,stA s,ftA f] (vb (((stp p s).safe && decide ((stp p s).wait = 0)) && !lacksB (seenB s.2 f) (stp p s).needs)) false := by
 have h119 := S84 p s f hs
 have h100 := S73 (stp p s)
 refine sound (d := 2) tok2 mixed2 Tryz.func87 (by kernel_rfl) (by kernel_rfl) ?_
 (conv=>whnf); refine ⟨⟨(by omega),(by omega)⟩,?_⟩
 (conv=>whnf); refine .inl ⟨_,_,byX rfl (Sound1.pl (h100) rfl),?_⟩
 (conv=>whnf); refine ifB_intro (fun w1=>?_) (fun w1=>?_)
 ·(conv=>whnf); refine .inl ⟨_,_,byX rfl (Sound1.pl (h119) rfl),?_⟩
  (conv=>whnf); refine ⟨?_,nofun⟩
  refine endb ?_
  rw [w1]; rfl
 ·(conv=>whnf); refine ⟨?_,nofun⟩
  refine endb ?_
  rw [w1]; rfl

def homeTurnF (p : Pln) (f : Int × Bool) (s : Int × Int) : Option ((Int × Int) × Int) :=
 if (stp p s).wait = 0 ∧ (stp p s).safe = false ∧ lacksB (seenB s.2 f) (stp p s).needs = false then
  if (stp p s).exits.length = 0 then none else some (turnF p f s (stp p s).home)
 else some (turnF p f s (-1))
def htA : Option ((Int × Int) × Int) → AV
  | none=>.tuple [stA (0,0),i64 0,vb false]
  | some x=>.tuple [stA x.1,i64 x.2,vb true]
theorem endH {p : Pln} {s : Int × Int} {f : Int × Bool} {c : Int} (h : homeTurnF p f s = some (turnF p f s c)) : AVE 5 (.tuple [stA (turnF p f s c).1,i64 (turnF p f s c).2,vb true]) (htA (homeTurnF p f s)) := by
  rw [h]
  exact ave_tup3 (ave_st 2 rfl) rfl rfl
theorem endH0 {p : Pln} {s : Int × Int} {f : Int × Bool} (h : homeTurnF p f s = none) : AVE 5 (.tuple [stA (0,0),i64 0,vb false]) (htA (homeTurnF p f s)) := by
  rw [h]
  exact ave_tup3 (ave_st 2 rfl) rfl rfl
theorem S88 (p : Pln) (s : Int × Int) (f : Int × Bool) (hs : 0 ≤ s.1 ∧ s.1 < p.steps.length) : SP 88 [planA p,stA s,ftA f] (htA (homeTurnF p f s)) false := by
 have h119 := S84 p s f hs
 have h70 := S54 (stp p s)
 have h92 := S51 p s f (-1) hs
 have h92h := S51 p s f (stp p s).home hs
 refine sound (d := 2) tok2 mixed2 Tryz.func88 (by kernel_rfl) (by kernel_rfl) ?_
 (conv=>whnf); refine ⟨⟨(by omega),(by omega)⟩,?_⟩
 (conv=>whnf); refine .inl ⟨_,_,byX rfl (Sound1.pl (h70) rfl),?_⟩
 (conv=>whnf); refine ifB_dec (fun w1=>?_) (fun w1=>?_)
 ·(conv=>whnf); refine ifB_not ?_
  (conv=>whnf); refine ifB_intro (fun w2=>?_) (fun w2=>?_)
  ·(conv=>whnf); refine .inl ⟨_,_,byX rfl (Sound1.pl (h92) rfl),?_⟩
   (conv=>whnf); refine ⟨?_,nofun⟩
   exact endH (if_neg fun h=>Bool.noConfusion (h.2.1.symm.trans w2))
  ·(conv=>whnf); refine .inl ⟨_,_,byX rfl (Sound1.pl (h119) rfl),?_⟩
   (conv=>whnf); refine ifB_not ?_
   (conv=>whnf); refine ifB_dec (fun w3=>?_) (fun w3=>?_)
   ·(conv=>whnf); refine .inl ⟨_,_,byX rfl (Sound1.pl (h92) rfl),?_⟩
    (conv=>whnf); refine ⟨?_,nofun⟩
    exact endH (if_neg fun h=>Bool.noConfusion (h.2.2.symm.trans (lk_t w3)))
   ·(conv=>whnf); refine ifB_beq (fun w4=>?_) (fun w4=>?_)
    ·(conv=>whnf); refine ⟨?_,nofun⟩
     exact endH0 ((if_pos ⟨w1,w2,lk_f w3⟩).trans (if_pos (Int.ofNat.inj w4)))
    ·(conv=>whnf); refine .inl ⟨_,_,byX rfl (Sound1.pl (h92h) rfl),?_⟩
     (conv=>whnf); refine ⟨?_,nofun⟩
     exact endH ((if_pos ⟨w1,w2,lk_f w3⟩).trans (if_neg fun e=>w4 (congrArg Int.ofNat e)))
 ·(conv=>whnf); refine .inl ⟨_,_,byX rfl (Sound1.pl (h92) rfl),?_⟩
  (conv=>whnf); refine ⟨?_,nofun⟩
  exact endH (if_neg fun h=>w1 h.1)

theorem all_range {n : Nat} {P : Nat → Bool} (h : (List.range n).all P = true) {i : Nat} (hi : i < n) : P i = true := List.all_eq_true.1 h i (List.mem_range.2 hi)
theorem bits3' : ((List.range 6).all fun n=>(List.range (2 ^ n)).all fun a=>(List.range (2 ^ n)).all fun b =>
    decide (0 ≤ bitI .or .i64 (a : Nat) (b : Nat) ∧ bitI .or .i64 (a : Nat) (b : Nat) < (2 ^ n : Nat) ∧ 0 ≤ bitI .andNot .i64 (a : Nat) (b : Nat) ∧ bitI .andNot .i64 (a : Nat) (b : Nat) < (2 ^ n : Nat))) = true := by decide +kernel
theorem pwI {n : Nat} (hn : n ≤ 7) : pw n = ((2 ^ n : Nat) : Int) := by
  match n,hn with
  | 0,_=>rfl | 1,_=>rfl | 2,_=>rfl | 3,_=>rfl | 4,_=>rfl | 5,_=>rfl | 6,_=>rfl | 7,_=>rfl
theorem inS_iff {n : Nat} {x : Int} : inS n x = true ↔ 0 ≤ x ∧ x < pw n := by
 unfold inS
 rw [decide_eq_true_iff]
 omega
theorem inX_iff {m : Nat} {x : Int} : inX m x = true ↔ 0 ≤ x ∧ x < m := by
 unfold inX
 rw [decide_eq_true_iff]
 omega
theorem bits3 {n : Nat} (hn : n ≤ 5) {a b : Int} (ha : inS n a = true) (hb : inS n b = true) : inS n (bitI .or .i64 a b) = true ∧ inS n (bitI .andNot .i64 a b) = true := by
 rw [inS_iff,pwI (by omega)] at ha hb
 have h := all_range (all_range (all_range bits3' (i := n) (by omega)) (i := a.toNat) (by omega)) (i := b.toNat) (by omega)
 rw [show ((a.toNat : Nat) : Int) = a by omega,show ((b.toNat : Nat) : Int) = b by omega] at h
 have h := of_decide_eq_true h
 rw [inS_iff,inS_iff,pwI (by omega)]
 omega
structure Good (p : Pln) : Prop where
 few : FewP p
 n : p.sig.length ≤ 5
 m0 : 0 < p.steps.length
 m : p.steps.length ≤ 10
 start : inS p.sig.length p.start = true
 step : ∀ k,k < p.steps.length → stepAt p k = 0
 safe : (p.steps.getD 0 stp0).safe = true ∧ (p.steps.getD 0 stp0).wait = 0
theorem Good.of {p : Pln} (hp : FewP p) (h : (checkP p).2 = 0) : Good p := by
 unfold checkP at h
 split at h
 ·cases h
 rename_i h1
 split at h
 ·rename_i h2; exact absurd h h2
 split at h
 ·rename_i h2; exact absurd h h2
 rename_i hh
 have hh := Decidable.of_not_not hh
 split at h
 ·rename_i h2; exact absurd h h2
 rename_i h3
 have h3 := Decidable.of_not_not h3
 have hl := head_len hh
 rw [head_form] at hh
 split at hh
 ·rename_i h4; exact absurd hh h4
 rename_i h4
 have h4 := Decidable.of_not_not h4
 split at hh
 ·cases hh
 split at hh
 ·cases hh
 refine ⟨hp,by omega,hl,by omega,?_,scan_zero h3,?_⟩
 ·unfold setE at h4
  split at h4
  ·assumption
  ·cases h4
 ·have h : (if ((p.steps.getD 0 stp0).safe && decide ((p.steps.getD 0 stp0).wait = 0)) = true then (0 : Int) else 20) = 0 := h
  split at h
  ·rename_i h5
   rw [Bool.and_eq_true,decide_eq_true_iff] at h5
   exact h5
  ·cases h
structure GoodS (n m : Nat) (s : Stp) : Prop where
 needs : inS n s.needs = true
 trip : inX m s.trip = true
 w0 : 0 ≤ s.wait
 w1 : s.wait ≤ 10000
 steady : s.wait = 0 → (∀ i,i < s.exits.length → inX m (s.exits.getD i 0) = true) ∧ (hasI s.exits s.home = true ∨ s.exits.length = 0)
 moving : s.wait ≠ 0 → inS n s.on = true ∧ inS n s.off = true ∧ inS n s.mon = true ∧ inS n s.mof = true ∧ 1 ≤ s.time ∧ s.time ≤ s.wait ∧ inX m s.next = true ∧ inX m s.back = true
theorem setE0 {n : Nat} {x : Int} (h : setE n x = 0) : inS n x = true := by
 unfold setE at h
 split at h
 ·assumption
 ·cases h
theorem idxE0 {n : Nat} {x : Int} (h : idxE n x = 0) : inX n x = true := by
 unfold idxE at h
 split at h
 ·assumption
 ·cases h
theorem first4_iff {a b c d : Int} : firstOf [a,b,c,d] = 0 ↔ a = 0 ∧ b = 0 ∧ c = 0 ∧ d = 0 := by
 unfold firstOf
 by_cases h : a = 0
 ·rw [if_pos h,first3_iff]; simp [h]
 ·rw [if_neg h]; simp [h]
theorem first2_iff {a b : Int} : firstOf [a,b] = 0 ↔ a = 0 ∧ b = 0 := by
  rw [first2]
  by_cases h : a = 0 <;> simp [h]
theorem Good.at {p : Pln} (h : Good p) {k : Nat} (hk : k < p.steps.length) : GoodS p.sig.length p.steps.length (p.steps.getD k stp0) := by
 have hs : _ = _ := (step_form p (p.steps.getD k stp0) _).symm.trans (h.step k hk)
 split at hs
 ·rename_i h1; exact absurd hs h1
 rename_i h1
 have h1 := Decidable.of_not_not h1
 rw [first3_iff] at h1
 split at hs
 case isFalse=>cases hs
 rename_i hw
 refine ⟨setE0 h1.2.1,idxE0 h1.2.2,hw.1,hw.2,fun h0=>?_,fun h0=>?_⟩
 ·rw [if_pos h0] at hs
  unfold steadyE at hs
  split at hs
  ·cases hs
  split at hs
  ·rename_i h2; exact absurd hs h2
  rename_i h2
  have h2 := scan_zero (Decidable.of_not_not h2)
  refine ⟨fun i hi=>?_,?_⟩
  ·have h3 := h2 i hi
   unfold exAt at h3
   split at h3
   ·rename_i h4; exact absurd h3 h4
   ·rename_i h4; exact idxE0 (Decidable.of_not_not h4)
  ·split at hs
   ·rename_i h4
    rw [Bool.or_eq_true,Bool.and_eq_true,decide_eq_true_iff] at h4
    exact h4.imp id And.left
   ·cases hs
 ·rw [if_neg h0,moving_form] at hs
  split at hs
  ·cases hs
  split at hs
  ·cases hs
  split at hs
  ·cases hs
  split at hs
  ·rename_i h2; exact absurd hs h2
  rename_i h2
  have h2 := Decidable.of_not_not h2
  rw [first4_iff] at h2
  split at hs
  ·cases hs
  split at hs
  ·cases hs
  split at hs
  ·rename_i ht
   rw [first2_iff] at hs
   exact ⟨setE0 h2.1,setE0 h2.2.1,setE0 h2.2.2.1,setE0 h2.2.2.2,ht.1,ht.2,idxE0 hs.1,idxE0 hs.2⟩
  ·cases hs
end Go.Tr

/- Contracts of chapter 7: turns of the reference. Conditions: none. -/
namespace Go.Tr
open Go Go.Proofs
set_option maxRecDepth 20000
set_option maxHeartbeats 8000000

def OkS (p : Pln) (s : Int × Int) : Prop := inX p.steps.length s.1 = true ∧ inS p.sig.length s.2 = true
def OkF (p : Pln) (f : Int × Bool) : Prop := -1 ≤ f.1 ∧ f.1 < p.sig.length
def OkC (p : Pln) (c : Int) : Prop := c = -1 ∨ inX p.steps.length c = true
theorem state_ok {p : Pln} {s : Int × Int} : stateE p s = 0 ↔ OkS p s := by
 unfold stateE
 rw [first2_iff]
 refine ⟨fun h=>⟨idxE0 h.1,setE0 h.2⟩,fun h=>⟨?_,?_⟩⟩
 ·unfold idxE; rw [if_pos h.1]
 ·unfold setE; rw [if_pos h.2]
theorem fault_ok {p : Pln} {f : Int × Bool} (h : faultE p f = 0) : OkF p f := by
 unfold faultE at h
 rw [first2_iff] at h
 by_cases h1 : -1 ≤ f.1 ∧ f.1 ≤ (p.sig.length : Int) - 1
 ·exact ⟨h1.1,by omega⟩
 ·rw [decide_eq_false h1] at h; cases h.1
theorem OkS.at {p : Pln} {s : Int × Int} (h : OkS p s) : 0 ≤ s.1 ∧ s.1 < p.steps.length := inX_iff.1 h.1
theorem OkS.k {p : Pln} {s : Int × Int} (h : OkS p s) : s.1.toNat < p.steps.length := by have := h.at; omega
theorem Good.stp {p : Pln} (hg : Good p) {s : Int × Int} (h : OkS p s) : GoodS p.sig.length p.steps.length (stp p s) := hg.at h.k
theorem moved_ok {p : Pln} (hg : Good p) {s : Int × Int} (h : OkS p s) (hw : (stp p s).wait ≠ 0) : inS p.sig.length (movedW p s) = true := by
  have hm := (hg.stp h).moving hw
  exact (bits3 hg.n (bits3 hg.n h.2 hm.2.2.1).1 hm.2.2.2.1).2
theorem turn_ok {p : Pln} (hg : Good p) {s : Int × Int} {f : Int × Bool} {c : Int} (h : OkS p s) (hc : OkC p c) : OkS p (turnF p f s c).1 ∧ 1 ≤ (turnF p f s c).2 ∧ (turnF p f s c).2 ≤ 10000 := by
 have hs := hg.stp h
 unfold turnF
 split
 ·exact ⟨⟨hs.trip,h.2⟩,Int.le_refl 1,by show (1 : Int) ≤ 10000; omega⟩
 split
 ·refine ⟨?_,Int.le_refl 1,by show (1 : Int) ≤ 10000; omega⟩
  show OkS p (if c = -1 then s else (c,s.2))
  split
  ·exact h
  ·rename_i h1 h2
   exact ⟨hc.resolve_left h2,h.2⟩
 rename_i h1 h2
 have hw := moved_ok hg h h2
 have hm := hs.moving h2
 have hle := hs.w1
 split
 ·exact ⟨⟨hs.trip,hw⟩,hm.2.2.2.2.1,Int.le_trans hm.2.2.2.2.2.1 hle⟩
 split
 ·exact ⟨⟨hm.2.2.2.2.2.2.2,hw⟩,Int.le_trans hm.2.2.2.2.1 hm.2.2.2.2.2.1,hle⟩
 ·exact ⟨⟨hm.2.2.2.2.2.2.1,hw⟩,hm.2.2.2.2.1,Int.le_trans hm.2.2.2.2.2.1 hle⟩
theorem hasI_mem {l : List Int} {x : Int} : hasI l x = true ↔ x ∈ l := by
 unfold hasI
 rw [List.any_eq_true]
 exact ⟨fun ⟨y,h1,h2⟩=>by rw [← eq_of_beq h2]; exact h1,fun h=>⟨x,h,by simp⟩⟩
theorem exit_ok {p : Pln} (hg : Good p) {s : Int × Int} (h : OkS p s) (hw : (stp p s).wait = 0) {c : Int} (hc : hasI (stp p s).exits c = true) : inX p.steps.length c = true := by
 obtain ⟨i,hi,e⟩ := List.getElem_of_mem (hasI_mem.1 hc)
 have := ((hg.stp h).steady hw).1 i hi
 rwa [show (stp p s).exits.getD i 0 = c by simp [List.getD,hi,e]] at this
theorem home_ok {p : Pln} (hg : Good p) {s : Int × Int} {f : Int × Bool} (h : OkS p s) {x : (Int × Int) × Int} (hx : homeTurnF p f s = some x) : OkS p x.1 ∧ 1 ≤ x.2 ∧ x.2 ≤ 10000 := by
 unfold homeTurnF at hx
 split at hx
 ·rename_i h1
  split at hx
  ·cases hx
  ·rename_i h2
   cases hx
   exact turn_ok hg h (.inr (exit_ok hg h h1.1 (((hg.stp h).steady h1.1).2.resolve_right h2)))
 ·cases hx
  exact turn_ok hg h (.inl rfl)

theorem S50 (s : Stp) (c : Int) (hx : s.exits.length ≤ 1000) : SP 50 [stepA s,i64 c] (vb (decide (c = -1) || (decide (s.wait = 0) && hasI s.exits c))) false := by
 have h94 := S83 s.exits (by omega) c
 have h70 := S54 s
 refine sound (d := 2) tok2 mixed2 Tryz.func50 (by kernel_rfl) (by kernel_rfl) ?_
 (conv=>whnf); refine ifB_beq (fun w1=>?_) (fun w1=>?_)
 ·(conv=>whnf); refine ⟨?_,nofun⟩
  refine endb ?_
  rw [decide_eq_true w1]; rfl
 ·(conv=>whnf); refine .inl ⟨_,_,byX rfl (Sound1.pl (h70) rfl),?_⟩
  (conv=>whnf); refine ifB_dec (fun w2=>?_) (fun w2=>?_)
  ·(conv=>whnf); refine .inl ⟨_,_,byX rfl (Sound1.pl (h94) rfl),?_⟩
   (conv=>whnf); refine ⟨?_,nofun⟩
   refine endb ?_
   rw [decide_eq_false w1,decide_eq_true w2,Bool.true_and]; rfl
  ·(conv=>whnf); refine ⟨?_,nofun⟩
   refine endb ?_
   rw [decide_eq_false w1,decide_eq_false w2]; rfl
def homeB (p : Pln) (f : Int × Bool) (s : Int × Int) : Bool := ((stp p s).safe && decide ((stp p s).wait = 0)) && !lacksB (seenB s.2 f) (stp p s).needs
end Go.Tr

/- Plain laws of chapter 7: turn after turn. Conditions: none. -/
namespace Go.Tr
open Go Go.Proofs
set_option maxRecDepth 20000
set_option maxHeartbeats 8000000

abbrev S2 := Int × Int
def goA (stop : S2 → Bool) (step : S2 → Option (S2 × Int)) : Nat → S2 → List S2 → Int → Option (List S2 × Int)
  | 0,_,_,_=>none
  | n + 1,s,l,t=>if stop s then some (l,t) else match step s with | none=>none | some x=>goA stop step n x.1 (l ++ [x.1]) (t + x.2)
def goT (stop : S2 → Bool) (step : S2 → Option (S2 × Int)) : Nat → S2 → Bool
  | 0,_=>false
  | n + 1,s=>stop s || match step s with | none=>false | some x=>goT stop step n x.1
section
variable {stop : S2 → Bool} {step : S2 → Option (S2 × Int)}
theorem goA_T : ∀ (f : Nat) (s : S2) (l : List S2) (t : Int),(goA stop step f s l t).isSome = goT stop step f s
 | 0,_,_,_=>rfl
 | f + 1, s, l, t => by
  unfold goA goT
  cases h : stop s with
  | true=>simp
  | false =>
   cases hs : step s with
   | none=>simp
   | some x=>simpa using goA_T f x.1 _ _
theorem goA_none {f : Nat} {s : S2} {l : List S2} {t : Int} (h : goT stop step f s = false) : goA stop step f s l t = none := by
 have := goA_T (stop := stop) (step := step) f s l t
 rw [h] at this
 exact Option.isNone_iff_eq_none.1 (by cases hx : goA stop step f s l t <;> simp_all)
theorem goA_mono : ∀ (f d : Nat) (s : S2) (l : List S2) (t : Int) (r : List S2 × Int),goA stop step f s l t = some r → goA stop step (f + d) s l t = some r
 | 0,d,s,l,t,r,h=>by cases h
 | f + 1, d, s, l, t, r, h => by
  rw [show f + 1 + d = (f + d) + 1 by omega]
  unfold goA at h ⊢
  split
  ·rename_i hs; rw [if_pos hs] at h; exact h
  ·rename_i hs
   rw [if_neg hs] at h
   cases hx : step s with
   | none=>rw [hx] at h; cases h
   | some x =>
    rw [hx] at h
    exact goA_mono f d _ _ _ r h
theorem goT_mono {f d : Nat} {s : S2} (h : goT stop step f s = true) : goT stop step (f + d) s = true := by
 rw [← goA_T f s [] 0] at h
 obtain ⟨r,hr⟩ := Option.isSome_iff_exists.1 h
 rw [← goA_T (f + d) s [] 0,goA_mono f d s [] 0 r hr]; rfl
theorem goT_cycle {s : S2} {j : Nat} (hj : 1 ≤ j) (h : ∀ f,goT stop step (j + f) s = goT stop step f s) (f : Nat) : goT stop step f s = false := by
 have key : ∀ i,goT stop step (j * i) s = false := by
  intro i
  induction i with
  | zero=>rfl
  | succ i ih=>rw [Nat.mul_succ,Nat.add_comm,h,ih]
 cases hf : goT stop step f s with
 | false=>rfl
 | true =>
  have : f ≤ j * f := Nat.le_mul_of_pos_left f hj
  have h2 := goT_mono (d := j * f - f) hf
  rw [show f + (j * f - f) = j * f by omega,key] at h2
  cases h2
def Met (stop : S2 → Bool) (step : S2 → Option (S2 × Int)) (s : S2) (been : List S2) : Prop := ∀ x ∈ been,∃ j,1 ≤ j ∧ ∀ f,goT stop step (j + f) x = goT stop step f s
theorem Met.nil (s : S2) : Met stop step s [] := fun x hx=>by cases hx
theorem Met.next {s : S2} {been : List S2} (h : Met stop step s been) (hs : stop s = false) {x : S2 × Int} (hx : step s = some x) : Met stop step x.1 (been ++ [s]) := by
 have hu : ∀ f,goT stop step (f + 1) s = goT stop step f x.1 := fun f=>by
  show (stop s || match step s with | none=>false | some x=>goT stop step f x.1) = _
  rw [hs,hx]; rfl
 intro y hy
 rcases List.mem_append.1 hy with h1 | h1
 ·obtain ⟨j,hj,h2⟩ := h y h1
  exact ⟨j + 1,by omega,fun f=>by rw [show j + 1 + f = j + (f + 1) by omega,h2,hu]⟩
 ·rw [List.mem_singleton.1 h1]
  exact ⟨1,Nat.le_refl 1,fun f=>by rw [Nat.add_comm 1 f,hu]⟩
theorem Met.again {s : S2} {been : List S2} (h : Met stop step s been) (hm : s ∈ been) (f : Nat) : goT stop step f s = false := by
  obtain ⟨j,hj,h2⟩ := h s hm
  exact goT_cycle hj h2 f
end

theorem nodup_len : ∀ (n : Nat) (l : List Nat),l.Nodup → (∀ x ∈ l,x < n) → l.length ≤ n
 | 0,[],_,_=>Nat.le_refl 0
 | 0,x :: r,_,h=>absurd (h x (List.mem_cons_self ..)) (Nat.not_lt_zero x)
 | n + 1, l, hn, h => by
  have h1 := nodup_len n (l.filter fun x=>x != n) (hn.sublist (List.filter_sublist ..)) fun x hx=>by
   have h2 := List.mem_filter.1 hx
   have := h x h2.1
   have h3 : x ≠ n := by simpa using h2.2
   omega
  have h2 : l.length ≤ (l.filter fun x=>x != n).length + 1 := by
   clear h1 h
   induction l with
   | nil=>simp
   | cons y r ih =>
    rw [List.filter_cons]
    have hr := (List.nodup_cons.1 hn)
    by_cases hy : y = n
    ·subst hy
     have hf : r.filter (fun x=>x != y) = r := List.filter_eq_self.2 fun x hx=>by
      have : x ≠ y := fun e=>hr.1 (e ▸ hx)
      simpa using this
     simp [hf]
    ·have := ih hr.2
     simp [hy]; omega
  omega
def allN (p : Pln) : Nat := 2 ^ p.sig.length * p.steps.length
theorem states_le {p : Pln} (hg : Good p) (l : List S2) (hn : l.Nodup) (h : ∀ x ∈ l,OkS p x) : l.length ≤ allN p := by
 have hp : 0 < 2 ^ p.sig.length := Nat.two_pow_pos _
 have hco : ∀ x,OkS p x → (0 ≤ x.1 ∧ x.1 < p.steps.length) ∧ 0 ≤ x.2 ∧ x.2 < ((2 ^ p.sig.length : Nat) : Int) := fun x hx=>by
  have h1 := inX_iff.1 hx.1
  have h2 := inS_iff.1 hx.2
  rw [pwI (by have := hg.n; omega)] at h2
  exact ⟨h1,h2⟩
 have key := nodup_len (allN p) (l.map fun x=>x.1.toNat * 2 ^ p.sig.length + x.2.toNat) ?_ ?_
 ·simpa using key
 ·unfold List.Nodup at hn ⊢
  rw [List.pairwise_map]
  refine List.Pairwise.imp_of_mem (fun {a b} ha hb hab e=>?_) hn
  have h1 := hco a (h a ha)
  have h2 := hco b (h b hb)
  have e1 : a.2.toNat = b.2.toNat := by
   have := congrArg (· % 2 ^ p.sig.length) e
   simp only [Nat.mul_add_mod_self_right] at this
   rwa [Nat.mod_eq_of_lt (by omega),Nat.mod_eq_of_lt (by omega)] at this
  have e2 : a.1.toNat = b.1.toNat := by
   rw [e1] at e
   exact Nat.eq_of_mul_eq_mul_right hp (Nat.add_right_cancel e)
  exact hab (Prod.ext (by omega) (by omega))
 ·intro x hx
  obtain ⟨y,hy,rfl⟩ := List.mem_map.1 hx
  have h1 := hco y (h y hy)
  unfold allN
  have : y.1.toNat + 1 ≤ p.steps.length := by omega
  have := Nat.mul_le_mul_right (2 ^ p.sig.length) this
  rw [Nat.add_mul] at this
  have e := Nat.mul_comm p.steps.length (2 ^ p.sig.length)
  omega

def stopS (p : Pln) (s : S2) : Bool := decide ((stp p s).wait = 0)
def stepS (p : Pln) (f : Int × Bool) (s : S2) : Option (S2 × Int) := some (turnF p f s (-1))
def settledF (p : Pln) (f : Int × Bool) (s : S2) (l : List S2) (t : Int) : Option (List S2 × Int) := goA (stopS p) (stepS p f) (allN p + 1) s l t
def commandF (p : Pln) (f : Int × Bool) (s : S2) (c : Int) : Option (List S2 × Int) := settledF p f (turnF p f s c).1 [(turnF p f s c).1] (turnF p f s c).2
def homeF (p : Pln) (f : Int × Bool) (s : S2) : Option (List S2 × Int) := goA (homeB p f) (homeTurnF p f) (allN p + 1) s [] 0
end Go.Tr

/- Contracts of chapter 7: settled, and home. Conditions: none. -/
namespace Go.Tr
open Go Go.Proofs
set_option maxRecDepth 20000
set_option maxHeartbeats 8000000

def decL : List Value → Option S2
  | [.int _ a,.int _ b]=>some (a,b)
  | _=>none
def decS : Value → Option S2
  | .agg l=>decL l.toList
  | _=>none
def hasM (B : S2 → Bool) (v : Value) : Bool := match decS v with | some x=>B x | none=>false
def keyV (s : S2) : Value := .agg #[.int .i64 s.1,.int .i64 s.2]
theorem keyL (L : List Value) (s : S2) : vEqL L [.int .i64 s.1,.int .i64 s.2] = match decL L with | some x=>decide (x = s) | none=>false := by
 match L with
 | []=>rfl
 | [x]=>cases x <;> simp [vEqL,decL]
 | [x,y] =>
  cases x <;> cases y <;> simp [vEqL,decL]
  rw [Bool.eq_iff_iff]
  simp [Prod.ext_iff]
 | x :: y :: z :: r =>
  cases x <;> cases y <;> simp [vEqL,decL]
theorem keyD (v : Value) (s : S2) : opEv.keyEq v (keyV s) = hasM (fun x=>decide (x = s)) v := by
 cases v with
 | agg l=>exact keyL l.toList s
 | _=>rfl
theorem hasM_or (B C : S2 → Bool) (v : Value) : Bool.or (hasM B v) (hasM C v) = hasM (fun x=>B x || C x) v := by
  unfold hasM
  cases decS v <;> rfl
theorem hasM_nil (v : Value) : hasM (fun x=>decide (x ∈ ([] : List S2))) v = false := by
 unfold hasM
 cases decS v with
 | none=>rfl
 | some x=>simp
theorem hasM_put (been : List S2) (s : S2) (v : Value) : Bool.or (hasM (fun x=>decide (x ∈ been)) v) (opEv.keyEq v (keyV s)) = hasM (fun x=>decide (x ∈ been ++ [s])) v := by
 rw [keyD,hasM_or]
 congr 1
 funext x
 rw [Bool.eq_iff_iff]
 simp
theorem hasM_vb (been : List S2) (s : S2) (v : Value) : (bif opEv.keyEq v (keyV s) then vb true else vb (hasM (fun x=>decide (x ∈ been)) v)) = vb (hasM (fun x=>decide (x ∈ been ++ [s])) v) := by
 rw [← hasM_put]
 cases opEv.keyEq v (keyV s) <;> simp

def stC (s : S2) : List AV := [i64 s.1,i64 s.2]
def sts (l : List S2) : AV := .rslice 2 l.length fun i=>stC (l.getD i (0,0))
def runA : Option (List S2 × Int) → AV
  | none=>.tuple [sts [],i64 0,vb false]
  | some x=>.tuple [sts x.1,i64 x.2,vb true]
section
variable {stop : S2 → Bool} {step : S2 → Option (S2 × Int)}
theorem goA_stop {n : Nat} {s : S2} {l : List S2} {t : Int} (h : stop s = true) : goA stop step (n + 1) s l t = some (l,t) := by
  unfold goA
  rw [h]; rfl
theorem goA_step {n : Nat} {s : S2} {l : List S2} {t : Int} (h : stop s = false) {x : S2 × Int} (hx : step s = some x) : goA stop step (n + 1) s l t = goA stop step n x.1 (l ++ [x.1]) (t + x.2) := by
  conv=>lhs; unfold goA
  rw [h,hx]; rfl
end
theorem allN_le {p : Pln} (hg : Good p) : allN p ≤ 320 := by
 have h1 : 2 ^ p.sig.length ≤ 2 ^ 5 := Nat.pow_le_pow_right (by decide) hg.n
 have := Nat.mul_le_mul h1 hg.m
 unfold allN
 omega
theorem ave_run0 {x : Option (List S2 × Int)} (h : x = none) : AVE 5 (.tuple [.eslice,i64 0,vb false]) (runA x) := by
  rw [h]
  exact ave_tup3 rfl rfl rfl
theorem sts_row {l : List S2} {n : Nat} (hn : l.length = n) (x : S2) (i : Nat) (h : i < n + 1) : stC ((l ++ [x]).getD i (0,0)) = if i < n then stC (l.getD (0 + i) (0,0)) else List.take 2 (List.drop ((i - n) * 2) (stC x)) := by
 subst hn
 rw [Nat.zero_add]
 by_cases hi : i < l.length
 ·rw [if_pos hi]; simp [List.getD_eq_getElem?_getD,hi,List.getElem?_append_left hi]
 ·have : i = l.length := by omega
  subst this
  rw [if_neg hi]; simp [List.getD_eq_getElem?_getD,stC]
abbrev lastS (k : Nat) (l : List S2) : S2 := l.getD (0 + (((k + 1 : Nat) : Int) - 1).toNat) (0,0)
theorem lastS_app {k : Nat} {l : List S2} (hn : l.length = k + 1) (x : S2) : lastS (k + 1) (l ++ [x]) = x := by
 unfold lastS
 rw [show 0 + (((k + 1 + 1 : Nat) : Int) - 1).toNat = l.length by omega]
 simp
theorem S95 (p : Pln) (hg : Good p) (f : Int × Bool) (s0 : S2) (c : Int) (hs0 : OkS p s0) (hc : OkC p c) : SP 95 [planA p,stA s0,ftA f,i64 c] (runA (commandF p f s0 c)) false := by
 have hat0 := hs0.at
 have h0 := S51 p s0 f c hat0
 have hok0 := turn_ok hg hs0 (f := f) hc
 unfold commandF
 generalize (turnF p f s0 c).1 = s1 at h0 hok0
 generalize (turnF p f s0 c).2 = t0 at h0 hok0
 generalize hR : settledF p f s1 [s1] t0 = R
 refine sound (d := 2) tok2 mixed2 Tryz.func95 (by kernel_rfl) (by kernel_rfl) ?_
 (conv=>whnf); refine .inl ⟨_,_,byX rfl (Sound1.pl (h0) rfl),?_⟩
 (conv=>whnf); refine .inr (.inl ⟨[],?_⟩)
 (conv=>whnf); refine ⟨[.uncap 1,.forget [23]],[1,3,4,6,11],fun st mq=>∃ (k : Nat) (l : List S2) (t : Int) (been : List S2) (F1 : Nat → List AV) (F2 : Nat → List AV) (F3 : Nat → List AV),(l.length = k + 1) ∧ (OkS p (lastS k l)) ∧ (been.Nodup) ∧ (∀ x ∈ been,OkS p x) ∧ (Met (stopS p) (stepS p f) (lastS k l) been) ∧ (been.length = k) ∧ (0 ≤ t ∧ t ≤ 10000 * ((k : Int) + 1)) ∧ (∀ f',goA (stopS p) (stepS p f) (k + f') s1 [s1] t0 = goA (stopS p) (stepS p f) f' (lastS k l) l t) ∧ st = ⟨[(1,.oslice 4 0 0 (k + 1) none),(3,i64 t),(4,.optr 5 0 0 0),(6,.optr 6 0 0 0),(11,.omap 0)],⟨[⟨3,1,fun _=>planC p,0,false,true,true⟩,⟨2,1,F1,0,false,true,false⟩,⟨2,1,F2,0,false,true,false⟩,⟨2,1,F3,0,false,true,false⟩,⟨2,k + 1,fun i=>stC (l.getD i (0,0)),0,false,true,false⟩,⟨3,1,fun _=>planC p,0,false,true,true⟩,⟨2,1,fun _=>[i64 f.1,vb f.2],0,false,true,true⟩],[⟨.agg [.int .i64,.int .i64],4,hasM fun x=>decide (x ∈ been),fun v=>vb (hasM (fun x=>decide (x ∈ been)) v),false,none,0,.top⟩],none,0⟩,[(25,i64 t0),(24,ftA f),(22,stA s1),(21,planA p),(12,i64 t0),(11,.optr 3 0 0 0),(20,i64 t0),(19,stA s1),(13,.tuple [stA s1,i64 t0]),(18,.tuple [stA s1,i64 t0]),(17,i64 c),(16,ftA f),(15,stA s0),(14,planA p),(10,vb false),(9,i64 0),(8,.eslice),(6,.optr 2 0 0 0),(5,.optr 1 0 0 0),(4,.optr 0 0 0 0),(0,planA p),(1,stA s0),(2,ftA f),(3,i64 c)]⟩ ∧ mq = allN p + 1 - k,
  ⟨_,_,⟨0,[s1],t0,[],_,_,_,rfl,(by simpa [lastS] using hok0.1),by simp,(fun x hx=>by cases hx),Met.nil _,rfl,by omega,(fun f'=>by simp [lastS]),rfl,rfl⟩,⟨⟨.inl rfl,rfl,rfl,rfl⟩,⟨bA,⟨bA,⟨bA,⟨bA,⟨⟨rfl,rfl,rfl,rfl,fun _=>rfl,fun i h=>.inl ((by cases (Nat.lt_one_iff.1 h); rfl))⟩,⟨bA,⟨bA,trivial⟩⟩⟩⟩⟩⟩⟩,⟨⟨rfl,rfl,rfl,trivial,.inl rfl,fun v=>And.imp id Or.inl (⟨hasM_nil v,congrArg (fun b=>vb b) (hasM_nil v)⟩)⟩,trivial⟩⟩⟩,?_⟩
 rintro s0 m0 ⟨k,l,t,been,F1,F2,F3,hn,hs,hbn,hbo,hm,hk,ht,hR1,rfl,hmeas⟩
 have hN := states_le hg been hbn hbo
 have hA := allN_le hg
 have hRk : R = goA (stopS p) (stepS p f) (allN p - k + 1) (lastS k l) l t := by
  rw [← hR,← hR1,show k + (allN p - k + 1) = allN p + 1 by omega]; rfl
 have h70 := S54 (stp p (lastS k l))
 have h92 := S51 p (lastS k l) f (-1) hs.at
 have hok := turn_ok hg hs (f := f) (c := -1) (.inl rfl)
 have hb27 : Tryz.prog.types[23].bytes = 16 := by kernel_rfl
 conv=>whnf
 (conv=>whnf); refine ⟨inK64 (by omega) (by omega),?_⟩
 conv=>whnf
 (conv=>whnf); refine ⟨⟨(by omega),(by omega)⟩,?_⟩
 conv=>whnf
 (conv=>whnf); refine ⟨?_,?_⟩
 ·exact hs.at
 ·conv=>whnf
  (conv=>whnf); refine .inl ⟨_,_,byX rfl (Sound1.pl (h70) rfl),?_⟩
  conv=>whnf
  (conv=>whnf); refine ifB_dec (fun w1=>?_) (fun w1=>?_)
  ·conv=>whnf
   (conv=>whnf); refine ⟨?_,nofun⟩
   have e := hRk.trans (goA_stop (decide_eq_true w1))
   rw [e]
   refine ave_tup3 ⟨rfl,hn.symm,fun _ _=>rfl⟩ rfl rfl
  ·conv=>whnf
   (conv=>whnf); refine ifB_intro (fun w2=>?_) (fun w2=>?_)
   ·conv=>whnf
    (conv=>whnf); refine ⟨?_,nofun⟩
    have hmem : lastS k l ∈ been := of_decide_eq_true w2
    exact ave_run0 (hRk.trans (goA_none (hm.again hmem _)))
   ·conv=>whnf
    (conv=>whnf); refine .inl ⟨_,_,byX rfl (Sound1.pl (h92) rfl),?_⟩
    conv=>whnf
    (conv=>whnf); refine .inl ?_
    conv=>whnf
    (conv=>whnf); refine ⟨(by show _ * (16 + 1) ≤ _; omega),?_⟩
    conv=>whnf
    (conv=>whnf); refine ⟨inK64 (by omega) (by omega),?_⟩
    have hst : stopS p (lastS k l) = false := decide_eq_false w1
    have hno : lastS k l ∉ been := of_decide_eq_false w2
    conv=>whnf
    (conv=>whnf); refine ⟨_,_,⟨⟨k + 1,l ++ [(turnF p f (lastS k l) (-1)).1],t + (turnF p f (lastS k l) (-1)).2,been ++ [lastS k l],_,_,_,by simp [hn],(by rw [lastS_app hn]; exact hok.1),(List.nodup_append.2 ⟨hbn,by simp,fun a ha b hb e=>hno (by rw [← List.mem_singleton.1 hb,← e]; exact ha)⟩),(fun x hx=>(List.mem_append.1 hx).elim (hbo x) fun h=>by rw [List.mem_singleton.1 h]; exact hs),(by rw [lastS_app hn]; exact hm.next hst rfl),by simp [hk],by omega,(fun f'=>by rw [lastS_app hn,show k + 1 + f' = k + (f' + 1) by omega,hR1,goA_step hst rfl]),rfl,rfl⟩,by omega⟩,⟨⟨.inl rfl,rfl,rfl,rfl⟩,⟨bA,⟨bA,⟨bA,⟨bA,⟨⟨rfl,rfl,rfl,rfl,fun _=>rfl,fun i h=>.inl (sts_row hn _ i h)⟩,⟨bA,⟨bA,trivial⟩⟩⟩⟩⟩⟩⟩,⟨⟨rfl,rfl,rfl,trivial,.inl rfl,fun v=>And.imp id Or.inl (⟨(hasM_put been (lastS k l) v).symm,(hasM_vb been (lastS k l) v).symm⟩)⟩,trivial⟩⟩⟩
end Go.Tr

/- Contracts of chapter 7: home. Conditions: none. -/
namespace Go.Tr
open Go Go.Proofs
set_option maxRecDepth 20000
set_option maxHeartbeats 8000000

theorem goA_stuck {stop : S2 → Bool} {step : S2 → Option (S2 × Int)} {n : Nat} {s : S2} {l : List S2} {t : Int} (h : stop s = false) (hx : step s = none) : goA stop step n s l t = none := by
 cases n with
 | zero=>rfl
 | succ n =>
  unfold goA
  rw [h,hx]; rfl
theorem S52 (p : Pln) (hg : Good p) (f : Int × Bool) (s0 : S2) (hs0 : OkS p s0) : SP 52 [planA p,stA s0,ftA f] (runA (homeF p f s0)) false := by
 generalize hR : homeF p f s0 = R
 refine sound (d := 2) tok2 mixed2 Tryz.func52 (by kernel_rfl) (by kernel_rfl) ?_
 (conv=>whnf); refine ⟨[.slot 9 2],[3,4,5,9,10,11],fun st mq=>∃ (k : Nat) (s : S2) (l : List S2) (t : Int) (been : List S2),(l.length = k) ∧ (OkS p s) ∧ (been.Nodup) ∧ (∀ x ∈ been,OkS p x) ∧ (Met (homeB p f) (homeTurnF p f) s been) ∧ (been.length = k) ∧ (0 ≤ t ∧ t ≤ 10000 * (k : Int)) ∧ (∀ f',goA (homeB p f) (homeTurnF p f) (k + f') s0 [] 0 = goA (homeB p f) (homeTurnF p f) f' s l t) ∧ st = ⟨[(3,.optr 0 0 0 0),(4,.optr 1 0 0 0),(5,.optr 2 0 0 0),(9,.oslice 3 0 0 k none),(10,i64 t),(11,.omap 0)],⟨[⟨3,1,fun _=>planC p,0,false,true,true⟩,⟨2,1,fun _=>stC s,0,false,true,true⟩,⟨2,1,fun _=>[i64 f.1,vb f.2],0,false,true,true⟩,⟨2,k,fun i=>stC (l.getD i (0,0)),0,false,true,false⟩],[⟨.agg [.int .i64,.int .i64],4,hasM fun x=>decide (x ∈ been),fun v=>vb (hasM (fun x=>decide (x ∈ been)) v),false,none,0,.top⟩],none,0⟩,[]⟩ ∧ mq = allN p + 1 - k,
  ⟨_,_,⟨0,s0,[],0,[],rfl,hs0,by simp,(fun x hx=>by cases hx),Met.nil _,rfl,by omega,(fun f'=>by rw [Nat.zero_add]),rfl,rfl⟩,⟨⟨.inl rfl,rfl,rfl,rfl⟩,⟨bA,⟨bA,⟨bA,⟨⟨rfl,rfl,rfl,rfl,fun _=>rfl,fun i h=>.inl (absurd h (Nat.not_lt_zero i))⟩,trivial⟩⟩⟩⟩,⟨⟨rfl,rfl,rfl,trivial,.inl rfl,fun v=>And.imp id Or.inl (⟨hasM_nil v,congrArg (fun b=>vb b) (hasM_nil v)⟩)⟩,trivial⟩⟩⟩,?_⟩
 rintro s0 m0 ⟨k,s,l,t,been,hn,hs,hbn,hbo,hm,hk,ht,hR1,rfl,hmeas⟩
 have hN := states_le hg been hbn hbo
 have hA := allN_le hg
 have hat := hs.at
 have hRk : R = goA (homeB p f) (homeTurnF p f) (allN p - k + 1) s l t := by
  rw [← hR,← hR1,show k + (allN p - k + 1) = allN p + 1 by omega]; rfl
 have h118 : SP 87 [planA p,stA s,ftA f] (vb (homeB p f s)) false := S87 p s f hat
 have h81 := S88 p s f hat
 have hb27 : Tryz.prog.types[23].bytes = 16 := by kernel_rfl
 cases hx : homeTurnF p f s with
 | none =>
  rw [hx] at h81
  conv=>whnf
  (conv=>whnf); refine .inl ⟨_,_,byX rfl (Sound1.pl (h118) rfl),?_⟩
  conv=>whnf
  (conv=>whnf); refine ifB_not ?_
  conv=>whnf
  (conv=>whnf); refine ifB_intro (fun w1=>?_) (fun w1=>?_)
  ·conv=>whnf
   (conv=>whnf); refine ⟨?_,nofun⟩
   rw [hRk.trans (goA_stop w1)]
   exact ave_tup3 ⟨rfl,hn.symm,fun _ _=>rfl⟩ rfl rfl
  ·conv=>whnf
   (conv=>whnf); refine .inl ⟨_,_,byX rfl (Sound1.pl (h81) rfl),?_⟩
   conv=>whnf
   (conv=>whnf); refine ⟨?_,nofun⟩
   exact ave_run0 (hRk.trans (goA_stuck w1 hx))
 | some x =>
  rw [hx] at h81
  have hok := home_ok hg hs hx
  conv=>whnf
  (conv=>whnf); refine .inl ⟨_,_,byX rfl (Sound1.pl (h118) rfl),?_⟩
  conv=>whnf
  (conv=>whnf); refine ifB_not ?_
  conv=>whnf
  (conv=>whnf); refine ifB_intro (fun w1=>?_) (fun w1=>?_)
  ·conv=>whnf
   (conv=>whnf); refine ⟨?_,nofun⟩
   rw [hRk.trans (goA_stop w1)]
   exact ave_tup3 ⟨rfl,hn.symm,fun _ _=>rfl⟩ rfl rfl
  ·conv=>whnf
   (conv=>whnf); refine .inl ⟨_,_,byX rfl (Sound1.pl (h81) rfl),?_⟩
   conv=>whnf
   (conv=>whnf); refine ifB_intro (fun w2=>?_) (fun w2=>?_)
   ·conv=>whnf
    (conv=>whnf); refine ⟨?_,nofun⟩
    have hmem : s ∈ been := of_decide_eq_true w2
    exact ave_run0 (hRk.trans (goA_none (hm.again hmem _)))
   ·conv=>whnf
    (conv=>whnf); refine ⟨inK64 (by omega) (by omega),?_⟩
    conv=>whnf
    (conv=>whnf); refine .inl ?_
    conv=>whnf
    (conv=>whnf); refine ⟨(by show _ * (16 + 1) ≤ _; omega),?_⟩
    have hno : s ∉ been := of_decide_eq_false w2
    conv=>whnf
    (conv=>whnf); refine ⟨_,_,⟨⟨k + 1,x.1,l ++ [x.1],t + x.2,been ++ [s],by simp [hn],hok.1,(List.nodup_append.2 ⟨hbn,by simp,fun a ha b hb e=>hno (by rw [← List.mem_singleton.1 hb,← e]; exact ha)⟩),(fun y hy=>(List.mem_append.1 hy).elim (hbo y) fun h=>by rw [List.mem_singleton.1 h]; exact hs),(hm.next w1 hx),by simp [hk],by omega,(fun f'=>by rw [show k + 1 + f' = k + (f' + 1) by omega,hR1,goA_step w1 hx]),rfl,rfl⟩,by omega⟩,⟨⟨.inl rfl,rfl,rfl,rfl⟩,⟨bA,⟨bA,⟨bA,⟨⟨rfl,rfl,rfl,rfl,fun _=>rfl,fun i h=>.inl (sts_row hn _ i h)⟩,trivial⟩⟩⟩⟩,⟨⟨rfl,rfl,rfl,trivial,.inl rfl,fun v=>And.imp id Or.inl (⟨(hasM_put been s v).symm,(hasM_vb been s v).symm⟩)⟩,trivial⟩⟩⟩
end Go.Tr

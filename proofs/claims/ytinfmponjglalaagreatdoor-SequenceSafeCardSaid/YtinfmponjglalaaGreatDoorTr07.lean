/- Contracts of chapter 7: what all share. Conditions: none. -/
import Derived.Test.YtinfmponjglalaaGreatDoorTr06
import Derived.Test.YtinfmponjglalaaGreatDoorProg
set_option linter.unusedSectionVars false
set_option linter.unnecessarySimpa false
set_option linter.unusedVariables false
set_option linter.unusedSimpArgs false

namespace Go.Tr
open Go Go.Proofs

abbrev i64 (n : Int) : AV := .val (.int .i64 n)
abbrev vb (b : Bool) : AV := .val (.bool b)
abbrev sv (s : ByteArray) : AV := .val (.string s)
abbrev u8 (n : Int) : AV := .val (.int .u8 n)

theorem mixed2 : Tryz.prog.follows .mixedOrders = true := by kernel_rfl
instance gtab : GTab := ⟨fun g=>match g with | 0=>some [i64 (-1),vb false] | _=>none,True,fun _=>false⟩

set_option maxRecDepth 20000
set_option maxHeartbeats 8000000
abbrev SP := Sound1 Tryz.prog

def K2 (t : Nat) : Option (List LK) :=
  bif Nat.beq t 41 then some [.int .i64,.int .i64] else bif Nat.beq t 73 then some [.int .i64,.int .i64] else bif Nat.beq t 27 then some [.int .i64,.bool] else bif Nat.beq t 174 then some [.int .i64,.int .i64,.int .i64,.int .i64,.int .i64,.int .i64,.int .i64] else bif Nat.beq t 113 then some [.int .i64,.int .i64,.int .i64,.bool] else bif Nat.beq t 50 then some [.int .i64,.int .i64,.int .i64,.bool,.int .i64] else none
theorem tok2 : TOK Tryz.prog (TK Tryz.prog K2) := TOK_TK fun t ks h=>by
 unfold K2 at h
 cases e0 : Nat.beq t 41 with
 | true=>rw [e0] at h; cases h; cases Nat.eq_of_beq_eq_true e0; exact ⟨_,Tryz.underlying41,by kernel_rfl⟩
 | false =>
 rw [e0] at h
 cases e1 : Nat.beq t 73 with
 | true=>rw [e1] at h; cases h; cases Nat.eq_of_beq_eq_true e1; exact ⟨_,Tryz.underlying73,by kernel_rfl⟩
 | false =>
 rw [e1] at h
 cases e2 : Nat.beq t 27 with
 | true=>rw [e2] at h; cases h; cases Nat.eq_of_beq_eq_true e2; exact ⟨_,Tryz.underlying27,by kernel_rfl⟩
 | false =>
 rw [e2] at h
 cases e3 : Nat.beq t 174 with
 | true=>rw [e3] at h; cases h; cases Nat.eq_of_beq_eq_true e3; exact ⟨_,Tryz.underlying174,by kernel_rfl⟩
 | false =>
 rw [e3] at h
 cases e4 : Nat.beq t 113 with
 | true=>rw [e4] at h; cases h; cases Nat.eq_of_beq_eq_true e4; exact ⟨_,Tryz.underlying113,by kernel_rfl⟩
 | false =>
 rw [e4] at h
 cases e5 : Nat.beq t 50 with
 | true=>rw [e5] at h; cases h; cases Nat.eq_of_beq_eq_true e5; exact ⟨_,Tryz.underlying50,by kernel_rfl⟩
 | false=>rw [e5] at h; cases h

theorem byS {d : Nat} {f : FuncId} {args : List AV} {r : AV} {fr : Bool} (h : SP f args r fr) : (envOf Tryz.prog (TK Tryz.prog K2) d).S f args r fr := h
theorem not_t {b : Bool} (h : (!b) = true) : b = false := by cases b <;> simp_all
theorem not_f {b : Bool} (h : (!b) = false) : b = true := by cases b <;> simp_all

theorem S59 (x a b : Int) : SP 59 [i64 x,i64 a,i64 b] (vb (decide (a ≤ x ∧ x ≤ b))) false := by
 refine sound (d := 2) tok2 mixed2 Tryz.func59 (by kernel_rfl) (by kernel_rfl) ?_
 refine ifB_intro (fun h=>?_) (fun h=>?_)
 ·have h' : a ≤ x := of_decide_eq_true h
  refine ⟨?_,nofun⟩
  show vb (decide (x ≤ b)) = vb _
  simp [h']
 ·have h' : ¬ a ≤ x := of_decide_eq_false h
  refine ⟨?_,nofun⟩
  show vb false = vb _
  simp [h']

theorem S28 (x a b : Int) : SP 28 [i64 x,i64 a,i64 b] (vb (decide (a ≤ x ∧ x ≤ b))) false := by
 refine sound (d := 2) tok2 mixed2 Tryz.func28 (by kernel_rfl) (by kernel_rfl) ?_
 refine ifB_intro (fun h=>?_) (fun h=>?_)
 ·have h' : a ≤ x := of_decide_eq_true h
  refine ⟨?_,nofun⟩
  show vb (decide (x ≤ b)) = vb _
  simp [h']
 ·have h' : ¬ a ≤ x := of_decide_eq_false h
  refine ⟨?_,nofun⟩
  show vb false = vb _
  simp [h']

theorem S45 (c : Bool) (e : Int) : SP 45 [vb c,i64 e] (i64 (if c then 0 else e)) false := by
 refine sound (d := 2) tok2 mixed2 Tryz.func45 (by kernel_rfl) (by kernel_rfl) ?_
 refine ifB_intro (fun h=>?_) (fun h=>?_)
 ·subst h; refine ⟨?_,nofun⟩; rfl
 ·subst h; refine ⟨?_,nofun⟩; rfl

def firstOf : List Int → Int
  | []=>0
  | x :: r=>if x = 0 then firstOf r else x
theorem firstOf_drop (l : List Int) (k : Nat) (h : k < l.length) : firstOf (l.drop k) = if l.getD k 0 = 0 then firstOf (l.drop (k+1)) else l.getD k 0 := by
  rw [List.drop_eq_getElem_cons h,firstOf]; simp [List.getD,h]
def ints (l : List Int) : AV := .rslice 1 l.length fun i=>[i64 (l.getD i 0)]

theorem S57 (l : List Int) (hl : l.length ≤ 1000000000) : SP 57 [ints l] (i64 (firstOf l)) false := by
 refine sound (d := 2) tok2 mixed2 Tryz.func57 (by kernel_rfl) (by kernel_rfl) ?_
 (conv=>whnf); refine ⟨[],[5,6,7],fun st mq=>∃ (k : Nat),(k ≤ l.length) ∧ (firstOf (l.drop k) = firstOf l) ∧ st = ⟨[(5,ints l),(6,i64 l.length),(7,i64 k)],⟨[],[],none,0⟩,[]⟩ ∧ mq = l.length - k,
  ⟨_,_,⟨0,by omega,rfl,rfl,rfl⟩,⟨⟨.inl rfl,rfl,rfl,rfl⟩,trivial,trivial⟩⟩,?_⟩
 rintro s0 m0 ⟨k,hk,hf,rfl,hmeas⟩
 by_cases hlt : k < l.length
 ·have hd := firstOf_drop l k hlt
  conv=>whnf
  (conv=>whnf); refine ifB_dec (fun w1=>?_) (fun w1=>?_)
  ·conv=>whnf
   (conv=>whnf); refine ⟨⟨(by omega),(by omega)⟩,?_⟩
   conv=>whnf
   (conv=>whnf); refine ifB_bne (fun w2=>?_) (fun w2=>?_)
   ·conv=>whnf
    (conv=>whnf); refine ⟨?_,nofun⟩
    rw [if_neg (show ¬ l.getD k 0 = 0 from w2)] at hd
    show i64 _ = i64 _
    rw [← hf,hd]; rfl
   ·conv=>whnf
    (conv=>whnf); refine ⟨inK64 (by omega) (by omega),?_⟩
    rw [if_pos (show l.getD k 0 = 0 from w2)] at hd
    conv=>whnf
    (conv=>whnf); refine ⟨_,_,⟨⟨k + 1,by omega,hd.symm.trans hf,rfl,rfl⟩,by omega⟩,⟨⟨.inl rfl,rfl,rfl,rfl⟩,trivial,trivial⟩⟩
  ·(exfalso; omega)
 ·have e : k = l.length := by omega
  subst e
  conv=>whnf
  (conv=>whnf); refine ifB_dec (fun w1=>?_) (fun w1=>?_)
  ·(exfalso; omega)
  ·conv=>whnf
   (conv=>whnf); refine ⟨?_,nofun⟩
   simp [firstOf] at hf
   show i64 _ = i64 _
   rw [← hf]

theorem S70 (l : List Int) (hl : l.length ≤ 1000000000) : SP 70 [ints l] (i64 (firstOf l)) false := by
 refine sound (d := 2) tok2 mixed2 Tryz.func70 (by kernel_rfl) (by kernel_rfl) ?_
 (conv=>whnf); refine ⟨[],[0,3],fun st mq=>∃ (k : Nat),(k ≤ l.length) ∧ (firstOf (l.drop k) = firstOf l) ∧ st = ⟨[(0,ints l),(3,i64 k)],⟨[],[],none,0⟩,[]⟩ ∧ mq = l.length - k,
  ⟨_,_,⟨0,by omega,rfl,rfl,rfl⟩,⟨⟨.inl rfl,rfl,rfl,rfl⟩,trivial,trivial⟩⟩,?_⟩
 rintro s0 m0 ⟨k,hk,hf,rfl,hmeas⟩
 by_cases hlt : k < l.length
 ·have hd := firstOf_drop l k hlt
  conv=>whnf
  (conv=>whnf); refine ifB_dec (fun w1=>?_) (fun w1=>?_)
  ·conv=>whnf
   (conv=>whnf); refine ⟨⟨(by omega),(by omega)⟩,?_⟩
   conv=>whnf
   (conv=>whnf); refine ifB_bne (fun w2=>?_) (fun w2=>?_)
   ·conv=>whnf
    (conv=>whnf); refine ⟨⟨(by omega),(by omega)⟩,?_⟩
    conv=>whnf
    (conv=>whnf); refine ⟨?_,nofun⟩
    rw [if_neg (show ¬ l.getD k 0 = 0 from w2)] at hd
    show i64 _ = i64 _
    rw [← hf,hd]; rfl
   ·conv=>whnf
    (conv=>whnf); refine ⟨inK64 (by omega) (by omega),?_⟩
    rw [if_pos (show l.getD k 0 = 0 from w2)] at hd
    conv=>whnf
    (conv=>whnf); refine ⟨_,_,⟨⟨k + 1,by omega,hd.symm.trans hf,rfl,rfl⟩,by omega⟩,⟨⟨.inl rfl,rfl,rfl,rfl⟩,trivial,trivial⟩⟩
  ·(exfalso; omega)
 ·have e : k = l.length := by omega
  subst e
  conv=>whnf
  (conv=>whnf); refine ifB_dec (fun w1=>?_) (fun w1=>?_)
  ·(exfalso; omega)
  ·conv=>whnf
   (conv=>whnf); refine ⟨?_,nofun⟩
   simp [firstOf] at hf
   show i64 _ = i64 _
   rw [← hf]

theorem S91 (l : List Int) (hl : l.length ≤ 1000000000) : SP 91 [ints l] (i64 (firstOf l)) false := by
 refine sound (d := 2) tok2 mixed2 Tryz.func91 (by kernel_rfl) (by kernel_rfl) ?_
 (conv=>whnf); refine ⟨[],[3,6,7,8],fun st mq=>∃ (k : Nat),(k ≤ l.length) ∧ (firstOf (l.drop k) = firstOf l) ∧ st = ⟨[(3,i64 0),(6,ints l),(7,i64 l.length),(8,i64 k)],⟨[],[],none,0⟩,[]⟩ ∧ mq = l.length - k,
  ⟨_,_,⟨0,by omega,rfl,rfl,rfl⟩,⟨⟨.inl rfl,rfl,rfl,rfl⟩,trivial,trivial⟩⟩,?_⟩
 rintro s0 m0 ⟨k,hk,hf,rfl,hmeas⟩
 by_cases hlt : k < l.length
 ·have hd := firstOf_drop l k hlt
  conv=>whnf
  (conv=>whnf); refine ifB_dec (fun w1=>?_) (fun w1=>?_)
  ·conv=>whnf
   (conv=>whnf); refine ⟨⟨(by omega),(by omega)⟩,?_⟩
   conv=>whnf
   (conv=>whnf); refine ifB_bne (fun w2=>?_) (fun w2=>?_)
   ·conv=>whnf
    (conv=>whnf); refine ⟨?_,nofun⟩
    rw [if_neg (show ¬ l.getD k 0 = 0 from w2)] at hd
    show i64 _ = i64 _
    rw [← hf,hd]; rfl
   ·conv=>whnf
    (conv=>whnf); refine ⟨inK64 (by omega) (by omega),?_⟩
    rw [if_pos (show l.getD k 0 = 0 from w2)] at hd
    conv=>whnf
    (conv=>whnf); refine ⟨_,_,⟨⟨k + 1,by omega,hd.symm.trans hf,rfl,rfl⟩,by omega⟩,⟨⟨.inl rfl,rfl,rfl,rfl⟩,trivial,trivial⟩⟩
  ·(exfalso; omega)
 ·have e : k = l.length := by omega
  subst e
  conv=>whnf
  (conv=>whnf); refine ifB_dec (fun w1=>?_) (fun w1=>?_)
  ·(exfalso; omega)
  ·conv=>whnf
   (conv=>whnf); refine ⟨?_,nofun⟩
   simp [firstOf] at hf
   show i64 _ = i64 _
   rw [← hf]

def strs (l : List ByteArray) : AV := .rslice 1 l.length fun i=>[sv (l.getD i ByteArray.empty)]
def hasS (l : List ByteArray) (s : ByteArray) : Bool := l.any fun x=>x.toList == s.toList
def hasI (l : List Int) (x : Int) : Bool := l.any fun y=>y == x

def idxI : List Int → Int → Nat → Int
  | [],_,_=>-1
  | y :: r,x,k=>if x = y then k else idxI r x (k + 1)
theorem idxI_has : ∀ (l : List Int) (x : Int) (k : Nat),decide (idxI l x k ≥ 0) = hasI l x
 | [],x,k=>by simp [idxI,hasI]
 | y :: r, x, k => by
  have ih := idxI_has r x (k + 1)
  unfold idxI hasI
  by_cases h : x = y
  ·subst h; simp
  ·rw [if_neg h,ih]
   have : (y == x) = false := by simp; exact fun e=>h e.symm
   simp [hasI,this]
theorem idxI_drop (l : List Int) (x : Int) (k : Nat) (h : k < l.length) : idxI (l.drop k) x k = if x = l.getD k 0 then (k : Int) else idxI (l.drop (k + 1)) x (k + 1) := by
  rw [List.drop_eq_getElem_cons h,idxI]; simp [List.getD,h]
theorem S110 (l : List Int) (hl : l.length ≤ 9223372036854775807) (x : Int) : SP 110 [ints l,i64 x] (i64 (idxI l x 0)) false := by
 refine sound (d := 2) tok2 mixed2 Tryz.func110 (by kernel_rfl) (by kernel_rfl) ?_
 (conv=>whnf); refine ⟨[],[0,1,7,8],fun st mq=>∃ (k : Nat),(k ≤ l.length) ∧ (idxI (l.drop k) x k = idxI l x 0) ∧ st = ⟨[(0,ints l),(1,i64 x),(7,i64 l.length),(8,i64 k)],⟨[],[],none,0⟩,[]⟩ ∧ mq = l.length - k,
  ⟨_,_,⟨0,by omega,rfl,rfl,rfl⟩,⟨⟨.inl rfl,rfl,rfl,rfl⟩,trivial,trivial⟩⟩,?_⟩
 rintro s0 m0 ⟨k,hk,hf,rfl,hmeas⟩
 by_cases hlt : k < l.length
 ·have hd := idxI_drop l x k hlt
  conv=>whnf
  (conv=>whnf); refine ifB_dec (fun w1=>?_) (fun w1=>?_)
  ·conv=>whnf
   (conv=>whnf); refine ⟨⟨(by omega),(by omega)⟩,?_⟩
   conv=>whnf
   (conv=>whnf); refine ifB_beq (fun w2=>?_) (fun w2=>?_)
   ·conv=>whnf
    (conv=>whnf); refine ⟨?_,nofun⟩
    have w2 : x = l.getD k 0 := w2
    rw [if_pos w2] at hd
    show i64 _ = i64 _
    rw [← hf,hd]
   ·conv=>whnf
    (conv=>whnf); refine ⟨inK64 (by omega) (by omega),?_⟩
    have w2 : ¬ x = l.getD k 0 := w2
    rw [if_neg w2] at hd
    conv=>whnf
    (conv=>whnf); refine ⟨_,_,⟨⟨k + 1,by omega,hd.symm.trans hf,rfl,rfl⟩,by omega⟩,⟨⟨.inl rfl,rfl,rfl,rfl⟩,trivial,trivial⟩⟩
  ·(exfalso; omega)
 ·have e : k = l.length := by omega
  subst e
  conv=>whnf
  (conv=>whnf); refine ifB_dec (fun w1=>?_) (fun w1=>?_)
  ·(exfalso; omega)
  ·conv=>whnf
   (conv=>whnf); refine ⟨?_,nofun⟩
   simp [idxI] at hf
   show i64 _ = i64 _
   rw [← hf]
theorem S77 (l : List Int) (hl : l.length ≤ 9223372036854775807) (x : Int) : SP 77 [ints l,i64 x] (vb (hasI l x)) false := by
 have h := S110 l hl x
 refine sound (d := 2) tok2 mixed2 Tryz.func77 (by kernel_rfl) (by kernel_rfl) ?_
 (conv=>whnf); refine .inl ⟨_,_,byX rfl (Sound1.pl (h) rfl),?_⟩
 (conv=>whnf); refine ⟨?_,nofun⟩
 show vb (decide (idxI l x 0 ≥ 0)) = _
 rw [idxI_has]
theorem hasI_drop (l : List Int) (x : Int) (k : Nat) (h : k < l.length) : hasI (l.drop k) x = (l.getD k 0 == x || hasI (l.drop (k + 1)) x) := by
  rw [List.drop_eq_getElem_cons h]; unfold hasI; rw [List.any_cons]; simp [List.getD,h]
theorem S43 (l : List Int) (hl : l.length ≤ 9223372036854775807) (x : Int) : SP 43 [ints l,i64 x] (vb (hasI l x)) false := by
 refine sound (d := 2) tok2 mixed2 Tryz.func43 (by kernel_rfl) (by kernel_rfl) ?_
 (conv=>whnf); refine ⟨[],[0,1,5],fun st mq=>∃ (k : Nat),(k ≤ l.length) ∧ (hasI (l.drop k) x = hasI l x) ∧ st = ⟨[(0,ints l),(1,i64 x),(5,i64 k)],⟨[],[],none,0⟩,[]⟩ ∧ mq = l.length - k,
  ⟨_,_,⟨0,by omega,rfl,rfl,rfl⟩,⟨⟨.inl rfl,rfl,rfl,rfl⟩,trivial,trivial⟩⟩,?_⟩
 rintro s0 m0 ⟨k,hk,hf,rfl,hmeas⟩
 by_cases hlt : k < l.length
 ·have hd := hasI_drop l x k hlt
  conv=>whnf
  (conv=>whnf); refine ifB_dec (fun w1=>?_) (fun w1=>?_)
  ·conv=>whnf
   (conv=>whnf); refine ⟨⟨(by omega),(by omega)⟩,?_⟩
   conv=>whnf
   (conv=>whnf); refine ifB_beq (fun w2=>?_) (fun w2=>?_)
   ·conv=>whnf
    (conv=>whnf); refine ⟨?_,nofun⟩
    have w2 : l.getD k 0 = x := w2
    rw [hf] at hd
    show vb _ = vb _
    rw [hd,w2]; simp
   ·conv=>whnf
    (conv=>whnf); refine ⟨inK64 (by omega) (by omega),?_⟩
    have w2 : ¬ l.getD k 0 = x := w2
    have : (l.getD k 0 == x) = false := by simpa using w2
    rw [this,Bool.false_or] at hd
    conv=>whnf
    (conv=>whnf); refine ⟨_,_,⟨⟨k + 1,by omega,hd.symm.trans hf,rfl,rfl⟩,by omega⟩,⟨⟨.inl rfl,rfl,rfl,rfl⟩,trivial,trivial⟩⟩
  ·(exfalso; omega)
 ·have e : k = l.length := by omega
  subst e
  conv=>whnf
  (conv=>whnf); refine ifB_dec (fun w1=>?_) (fun w1=>?_)
  ·(exfalso; omega)
  ·conv=>whnf
   (conv=>whnf); refine ⟨?_,nofun⟩
   rw [List.drop_length] at hf
   show vb _ = vb _
   rw [← hf]; rfl

def idxS : List ByteArray → ByteArray → Nat → Int
  | [],_,_=>-1
  | y :: r,x,k=>if x.toList = y.toList then k else idxS r x (k + 1)
theorem idxS_has : ∀ (l : List ByteArray) (x : ByteArray) (k : Nat),decide (idxS l x k ≥ 0) = hasS l x
 | [],x,k=>by simp [idxS,hasS]
 | y :: r, x, k => by
  have ih := idxS_has r x (k + 1)
  unfold idxS hasS
  by_cases h : x.toList = y.toList
  ·rw [if_pos h,h]; simp
  ·rw [if_neg h,ih]
   have : (y.toList == x.toList) = false := by simp; exact fun e=>h e.symm
   simp [hasS,this]
theorem idxS_drop (l : List ByteArray) (x : ByteArray) (k : Nat) (h : k < l.length) : idxS (l.drop k) x k = if x.toList = (l.getD k ByteArray.empty).toList then (k : Int) else idxS (l.drop (k + 1)) x (k + 1) := by
  rw [List.drop_eq_getElem_cons h,idxS]; simp [List.getD,h]
theorem S116 (l : List ByteArray) (hl : l.length ≤ 9223372036854775807) (x : ByteArray) : SP 116 [strs l,sv x] (i64 (idxS l x 0)) false := by
 refine sound (d := 2) tok2 mixed2 Tryz.func116 (by kernel_rfl) (by kernel_rfl) ?_
 (conv=>whnf); refine ⟨[],[0,1,7,8],fun st mq=>∃ (k : Nat),(k ≤ l.length) ∧ (idxS (l.drop k) x k = idxS l x 0) ∧ st = ⟨[(0,strs l),(1,sv x),(7,i64 l.length),(8,i64 k)],⟨[],[],none,0⟩,[]⟩ ∧ mq = l.length - k,
  ⟨_,_,⟨0,by omega,rfl,rfl,rfl⟩,⟨⟨.inl rfl,rfl,rfl,rfl⟩,trivial,trivial⟩⟩,?_⟩
 rintro s0 m0 ⟨k,hk,hf,rfl,hmeas⟩
 by_cases hlt : k < l.length
 ·have hd := idxS_drop l x k hlt
  conv=>whnf
  (conv=>whnf); refine ifB_dec (fun w1=>?_) (fun w1=>?_)
  ·conv=>whnf
   (conv=>whnf); refine ⟨⟨(by omega),(by omega)⟩,?_⟩
   conv=>whnf
   (conv=>whnf); refine ifB_intro (fun w2=>?_) (fun w2=>?_)
   ·conv=>whnf
    (conv=>whnf); refine ⟨?_,nofun⟩
    have w2 : x.toList = (l.getD k ByteArray.empty).toList := eq_of_beq w2
    rw [if_pos w2] at hd
    show i64 _ = i64 _
    rw [← hf,hd]
   ·conv=>whnf
    (conv=>whnf); refine ⟨inK64 (by omega) (by omega),?_⟩
    have w2 : ¬ x.toList = (l.getD k ByteArray.empty).toList := ne_of_beq_false w2
    rw [if_neg w2] at hd
    conv=>whnf
    (conv=>whnf); refine ⟨_,_,⟨⟨k + 1,by omega,hd.symm.trans hf,rfl,rfl⟩,by omega⟩,⟨⟨.inl rfl,rfl,rfl,rfl⟩,trivial,trivial⟩⟩
  ·(exfalso; omega)
 ·have e : k = l.length := by omega
  subst e
  conv=>whnf
  (conv=>whnf); refine ifB_dec (fun w1=>?_) (fun w1=>?_)
  ·(exfalso; omega)
  ·conv=>whnf
   (conv=>whnf); refine ⟨?_,nofun⟩
   simp [idxS] at hf
   show i64 _ = i64 _
   rw [← hf]
theorem S103 (l : List ByteArray) (hl : l.length ≤ 9223372036854775807) (x : ByteArray) : SP 103 [strs l,sv x] (vb (hasS l x)) false := by
 have h := S116 l hl x
 refine sound (d := 2) tok2 mixed2 Tryz.func103 (by kernel_rfl) (by kernel_rfl) ?_
 (conv=>whnf); refine .inl ⟨_,_,byX rfl (Sound1.pl (h) rfl),?_⟩
 (conv=>whnf); refine ⟨?_,nofun⟩
 show vb (decide (idxS l x 0 ≥ 0)) = _
 rw [idxS_has]
theorem hasS_drop (l : List ByteArray) (x : ByteArray) (k : Nat) (h : k < l.length) : hasS (l.drop k) x = ((l.getD k ByteArray.empty).toList == x.toList || hasS (l.drop (k + 1)) x) := by
  rw [List.drop_eq_getElem_cons h]; unfold hasS; rw [List.any_cons]; simp [List.getD,h]
theorem S101 (l : List ByteArray) (hl : l.length ≤ 9223372036854775807) (x : ByteArray) : SP 101 [strs l,sv x] (vb (hasS l x)) false := by
 refine sound (d := 2) tok2 mixed2 Tryz.func101 (by kernel_rfl) (by kernel_rfl) ?_
 (conv=>whnf); refine ⟨[],[0,1,5],fun st mq=>∃ (k : Nat),(k ≤ l.length) ∧ (hasS (l.drop k) x = hasS l x) ∧ st = ⟨[(0,strs l),(1,sv x),(5,i64 k)],⟨[],[],none,0⟩,[]⟩ ∧ mq = l.length - k,
  ⟨_,_,⟨0,by omega,rfl,rfl,rfl⟩,⟨⟨.inl rfl,rfl,rfl,rfl⟩,trivial,trivial⟩⟩,?_⟩
 rintro s0 m0 ⟨k,hk,hf,rfl,hmeas⟩
 by_cases hlt : k < l.length
 ·have hd := hasS_drop l x k hlt
  conv=>whnf
  (conv=>whnf); refine ifB_dec (fun w1=>?_) (fun w1=>?_)
  ·conv=>whnf
   (conv=>whnf); refine ⟨⟨(by omega),(by omega)⟩,?_⟩
   conv=>whnf
   (conv=>whnf); refine ifB_intro (fun w2=>?_) (fun w2=>?_)
   ·conv=>whnf
    (conv=>whnf); refine ⟨?_,nofun⟩
    have w2 : ((l.getD k ByteArray.empty).toList == x.toList) = true := w2
    rw [hf] at hd
    show vb _ = vb _
    rw [hd,w2]; simp
   ·conv=>whnf
    (conv=>whnf); refine ⟨inK64 (by omega) (by omega),?_⟩
    have w2 : ((l.getD k ByteArray.empty).toList == x.toList) = false := w2
    rw [w2,Bool.false_or] at hd
    conv=>whnf
    (conv=>whnf); refine ⟨_,_,⟨⟨k + 1,by omega,hd.symm.trans hf,rfl,rfl⟩,by omega⟩,⟨⟨.inl rfl,rfl,rfl,rfl⟩,trivial,trivial⟩⟩
  ·(exfalso; omega)
 ·have e : k = l.length := by omega
  subst e
  conv=>whnf
  (conv=>whnf); refine ifB_dec (fun w1=>?_) (fun w1=>?_)
  ·(exfalso; omega)
  ·conv=>whnf
   (conv=>whnf); refine ⟨?_,nofun⟩
   rw [List.drop_length] at hf
   show vb _ = vb _
   rw [← hf]; rfl

def cmpI (a b : Int) : Int := if a < b then -1 else if a > b then 1 else 0
theorem S114 (a : Int) : SP 114 [i64 a] (vb false) false := by
 refine sound (d := 2) tok2 mixed2 Tryz.func114 (by kernel_rfl) (by kernel_rfl) ?_
 (conv=>whnf); refine ⟨?_,nofun⟩
 show vb (a != a) = _
 simp
theorem S92 (a b : Int) : SP 92 [i64 a,i64 b] (i64 (cmpI a b)) false := by
 refine sound (d := 2) tok2 mixed2 Tryz.func92 (by kernel_rfl) (by kernel_rfl) ?_
 unfold cmpI
 (conv=>whnf); refine .inl ⟨_,_,byX rfl (Sound1.pl (S114 _) rfl),?_⟩
 (conv=>whnf); refine .inl ⟨_,_,byX rfl (Sound1.pl (S114 _) rfl),?_⟩
 (conv=>whnf); refine ifB_dec (fun w1=>?_) (fun w1=>?_)
 ·(conv=>whnf); refine ⟨?_,nofun⟩
  show i64 _ = i64 _
  rw [if_pos w1]
 ·(conv=>whnf); refine ifB_dec (fun w2=>?_) (fun w2=>?_)
  ·(conv=>whnf); refine ⟨?_,nofun⟩
   show i64 _ = i64 _
   rw [if_neg w1,if_pos w2]
  ·(conv=>whnf); refine ⟨?_,nofun⟩
   show i64 _ = i64 _
   rw [if_neg w1,if_neg w2]
def cmpL : List Int → List Int → Int
 | [],[]=>0
 | [],_ :: _=>-1
 | _ :: _,[]=>1
 | a :: l,b :: m=>if cmpI a b ≠ 0 then cmpI a b else cmpL l m
theorem cmpL_drop (l m : List Int) (k : Nat) (h : k < l.length) (h2 : k < m.length) : cmpL (l.drop k) (m.drop k) = if cmpI (l.getD k 0) (m.getD k 0) ≠ 0 then cmpI (l.getD k 0) (m.getD k 0) else cmpL (l.drop (k + 1)) (m.drop (k + 1)) := by
  rw [List.drop_eq_getElem_cons h,List.drop_eq_getElem_cons h2,cmpL]; simp [List.getD,h,h2]
theorem S93 (l m : List Int) (hl : l.length ≤ 9223372036854775807) (hm : m.length ≤ 9223372036854775807) : SP 93 [ints l,ints m] (i64 (cmpL l m)) false := by
 refine sound (d := 2) tok2 mixed2 Tryz.func93 (by kernel_rfl) (by kernel_rfl) ?_
 (conv=>whnf); refine ⟨[],[0,1,9,10,11],fun st mq=>∃ (k : Nat),(k ≤ l.length) ∧ (k ≤ m.length) ∧ (cmpL (l.drop k) (m.drop k) = cmpL l m) ∧ st = ⟨[(0,ints l),(1,ints m),(9,ints l),(10,i64 l.length),(11,i64 k)],⟨[],[],none,0⟩,[]⟩ ∧ mq = l.length - k,
  ⟨_,_,⟨0,by omega,by omega,rfl,rfl,rfl⟩,⟨⟨.inl rfl,rfl,rfl,rfl⟩,trivial,trivial⟩⟩,?_⟩
 rintro s0 m0 ⟨k,hk,hk2,hf,rfl,hmeas⟩
 by_cases hlt : k < l.length
 ·by_cases hlm : k < m.length
  ·have hd := cmpL_drop l m k hlt hlm
   have h115 := S92 (l.getD k 0) (m.getD k 0)
   conv=>whnf
   (conv=>whnf); refine ifB_dec (fun w1=>?_) (fun w1=>?_)
   ·conv=>whnf
    (conv=>whnf); refine ⟨⟨(by omega),(by omega)⟩,?_⟩
    conv=>whnf
    (conv=>whnf); refine ifB_dec (fun w2=>?_) (fun w2=>?_)
    ·(exfalso; omega)
    ·conv=>whnf
     (conv=>whnf); refine ⟨⟨(by omega),(by omega)⟩,?_⟩
     conv=>whnf
     (conv=>whnf); refine .inl ⟨_,_,byX rfl (Sound1.pl (h115) rfl),?_⟩
     conv=>whnf
     (conv=>whnf); refine ifB_bne (fun w3=>?_) (fun w3=>?_)
     ·conv=>whnf
      (conv=>whnf); refine ⟨?_,nofun⟩
      rw [if_pos w3] at hd
      show i64 _ = i64 _
      rw [← hf,hd]
     ·conv=>whnf
      (conv=>whnf); refine ⟨inK64 (by omega) (by omega),?_⟩
      rw [if_neg (by simpa using w3)] at hd
      conv=>whnf
      (conv=>whnf); refine ⟨_,_,⟨⟨k + 1,by omega,by omega,hd.symm.trans hf,rfl,rfl⟩,by omega⟩,⟨⟨.inl rfl,rfl,rfl,rfl⟩,trivial,trivial⟩⟩
   ·(exfalso; omega)
  ·have e : k = m.length := by omega
   conv=>whnf
   (conv=>whnf); refine ifB_dec (fun w1=>?_) (fun w1=>?_)
   ·conv=>whnf
    (conv=>whnf); refine ⟨⟨(by omega),(by omega)⟩,?_⟩
    conv=>whnf
    (conv=>whnf); refine ifB_dec (fun w2=>?_) (fun w2=>?_)
    ·conv=>whnf
     (conv=>whnf); refine ⟨?_,nofun⟩
     have hf' : cmpL (l.drop k) (m.drop k) = 1 := by
      rw [List.drop_eq_getElem_cons hlt,show m.drop k = [] from List.drop_of_length_le (by omega),cmpL]
     show i64 _ = i64 _
     rw [← hf,hf']
    ·(exfalso; omega)
   ·(exfalso; omega)
 ·have e : k = l.length := by omega
  have h0 : l.drop k = [] := List.drop_of_length_le (by omega)
  conv=>whnf
  (conv=>whnf); refine ifB_dec (fun w1=>?_) (fun w1=>?_)
  ·(exfalso; omega)
  ·conv=>whnf
   (conv=>whnf); refine ifB_dec (fun w2=>?_) (fun w2=>?_)
   ·conv=>whnf
    (conv=>whnf); refine ⟨?_,nofun⟩
    have h1 : cmpL (l.drop k) (m.drop k) = -1 := by
     rw [h0,List.drop_eq_getElem_cons (by omega : k < m.length),cmpL]
    show i64 _ = i64 _
    rw [← hf,h1]
   ·conv=>whnf
    (conv=>whnf); refine ⟨?_,nofun⟩
    have h1 : cmpL (l.drop k) (m.drop k) = 0 := by
     rw [h0,List.drop_of_length_le (by omega),cmpL]
    show i64 _ = i64 _
    rw [← hf,h1]
def byteAt (s : ByteArray) (i : Nat) : Int := ((s.data.toList.getD i 0).toNat : Nat)
def isLetter (c : Int) : Bool := decide (97 ≤ c ∧ c ≤ 122) || decide (65 ≤ c ∧ c ≤ 90)
def nameAt (i : Nat) (c : Int) : Bool := isLetter c || (!(decide (i = 0)) && (decide (c = 45) || decide (48 ≤ c ∧ c ≤ 57)))
def nameB (s : ByteArray) : Bool := decide (1 ≤ s.size ∧ s.size ≤ 12) && (List.range s.size).all fun i=>nameAt i (byteAt s i)
theorem nameB_false {s : ByteArray} {k : Nat} (hk : k < s.size) (h : nameAt k (byteAt s k) = false) : nameB s = false := by
 unfold nameB
 rw [Bool.and_eq_false_iff]
 refine .inr ?_
 rw [List.all_eq_false]
 exact ⟨k,List.mem_range.2 hk,by rw [h]; exact Bool.false_ne_true⟩
theorem nameB_all {s : ByteArray} (h : ∀ j,j < s.size → nameAt j (byteAt s j) = true) : nameB s = decide (1 ≤ (s.size : Int) ∧ (s.size : Int) ≤ 12) := by
 unfold nameB
 have : (List.range s.size).all (fun i=>nameAt i (byteAt s i)) = true := List.all_eq_true.2 fun i hi=>h i (List.mem_range.1 hi)
 rw [this,Bool.and_true]
 exact decide_eq_decide.2 (by omega)
theorem byteAt_lt (s : ByteArray) (i : Nat) : 0 ≤ byteAt s i ∧ byteAt s i ≤ 255 := by
 unfold byteAt
 have := (s.data.toList.getD i 0).toNat_lt
 omega

theorem S102 (s : ByteArray) (hs : s.size ≤ 9223372036854775807) : SP 102 [sv s] (vb (nameB s)) false := by
 generalize hR : nameB s = R
 refine sound (d := 2) tok2 mixed2 Tryz.func102 (by kernel_rfl) (by kernel_rfl) ?_
 refine ⟨[],[0,7,8,9],fun st m=>∃ k : Nat,k ≤ s.size ∧ (∀ j,j < k → nameAt j (byteAt s j) = true) ∧
   st = ⟨[(0,sv s),(7,.rslice 1 s.size fun i=>[u8 (byteAt s i)]),(8,i64 s.size),(9,i64 k)],⟨[],[],none,0⟩,[]⟩ ∧ m = s.size - k,
  ⟨_,_,⟨0,by omega,fun j hj=>absurd hj (Nat.not_lt_zero j),rfl,rfl⟩,⟨⟨.inl rfl,rfl,rfl,rfl⟩,trivial,trivial⟩⟩,?_⟩
 rintro s0 m0 ⟨k,hk,hf,rfl,rfl⟩
 have hc := byteAt_lt s k
 have hI : inK .i64 (byteAt s k) := inK64 (by omega) (by omega)
 have hk1 : inK .i64 ((k : Int) + 1) ∨ ¬ k < s.size := by
  by_cases h : k < s.size
  ·exact .inl (inK64 (by omega) (by omega))
  ·exact .inr h
 have bad : nameAt k (byteAt s k) = false → k < s.size → vb false = vb R := fun h hlt=>by rw [← hR,nameB_false hlt h]
 have good : nameAt k (byteAt s k) = true → ∀ j,j < k + 1 → nameAt j (byteAt s j) = true := fun h j hj=>by
  rcases Nat.lt_succ_iff_lt_or_eq.1 hj with h' | rfl
  ·exact hf j h'
  ·exact h
 unfold nameAt isLetter at bad good
 refine ifB_intro (fun h1=>?_) (fun h1=>?_)
 ·have hlt : k < s.size := by have := of_decide_eq_true h1; omega
  refine ⟨⟨by omega,by omega⟩,?_⟩
  refine ⟨hI,?_⟩
  refine .inl ⟨_,_,byS (d := 2) (S59 (byteAt s k) 97 122),?_⟩
  refine ifB_intro (fun h2=>?_) (fun h2=>?_)
  ·refine ⟨inK64 (by omega) (by omega),?_⟩
   refine ⟨_,_,⟨⟨k + 1,by omega,good (by rw [h2]; rfl),rfl,rfl⟩,by omega⟩,⟨⟨.inl rfl,rfl,rfl,rfl⟩,trivial,trivial⟩⟩
  ·refine ⟨hI,?_⟩
   refine .inl ⟨_,_,byS (d := 2) (S59 (byteAt s k) 65 90),?_⟩
   refine ifB_intro (fun h3=>?_) (fun h3=>?_)
   ·have h3' : decide (65 ≤ byteAt s k ∧ byteAt s k ≤ 90) = false := not_t h3
    rw [h2,h3'] at bad good
    refine ifB_intro (fun h4=>?_) (fun h4=>?_)
    ·have h4' : k = 0 := by have := eq_of_beq h4; omega
     refine ⟨?_,nofun⟩
     exact bad (by simp [h4']) hlt
    ·have h4' : ¬ k = 0 := by have := ne_of_beq_false h4; omega
     refine ifB_intro (fun h5=>?_) (fun h5=>?_)
     ·have h5' : ¬ byteAt s k = 45 := bne_iff_ne.1 h5
      refine ⟨hI,?_⟩
      refine .inl ⟨_,_,byS (d := 2) (S59 (byteAt s k) 48 57),?_⟩
      refine ifB_intro (fun h6=>?_) (fun h6=>?_)
      ·have h6' : decide (48 ≤ byteAt s k ∧ byteAt s k ≤ 57) = false := not_t h6
       refine ⟨?_,nofun⟩
       exact bad (by rw [h6']; simp [h5']) hlt
      ·have h6' : decide (48 ≤ byteAt s k ∧ byteAt s k ≤ 57) = true := not_f h6
       refine ⟨inK64 (by omega) (by omega),?_⟩
       refine ⟨_,_,⟨⟨k + 1,by omega,good (by rw [h6']; simp [h4']),rfl,rfl⟩,by omega⟩,⟨⟨.inl rfl,rfl,rfl,rfl⟩,trivial,trivial⟩⟩
     ·have h5' : byteAt s k = 45 := bne_eq_false_iff_eq.1 h5
      refine ⟨inK64 (by omega) (by omega),?_⟩
      refine ⟨_,_,⟨⟨k + 1,by omega,good (by simp [h4',h5']),rfl,rfl⟩,by omega⟩,⟨⟨.inl rfl,rfl,rfl,rfl⟩,trivial,trivial⟩⟩
   ·have h3' : decide (65 ≤ byteAt s k ∧ byteAt s k ≤ 90) = true := not_f h3
    refine ⟨inK64 (by omega) (by omega),?_⟩
    refine ⟨_,_,⟨⟨k + 1,by omega,good (by rw [h3']; simp),rfl,rfl⟩,by omega⟩,⟨⟨.inl rfl,rfl,rfl,rfl⟩,trivial,trivial⟩⟩
 ·have hlt : k = s.size := by have := of_decide_eq_false h1; omega
  refine .inl ⟨_,_,byS (d := 2) (S59 (s.size) 1 12),?_⟩
  refine ⟨?_,nofun⟩
  show vb _ = vb R
  subst hlt
  rw [← hR,nameB_all hf]

theorem nameB_len {s : ByteArray} (h : ¬ (1 ≤ s.size ∧ s.size ≤ 12)) : nameB s = false := by
 unfold nameB
 rw [decide_eq_false h,Bool.false_and]

theorem S100 (s : ByteArray) (hs : s.size ≤ 9223372036854775807) : SP 100 [sv s] (vb (nameB s)) false := by
 generalize hR : nameB s = R
 refine sound (d := 2) tok2 mixed2 Tryz.func100 (by kernel_rfl) (by kernel_rfl) ?_
 refine ifB_intro (fun h0=>?_) (fun h0=>?_)
 ·have h0' : (s.size : Int) < 1 := of_decide_eq_true h0
  refine ⟨?_,nofun⟩
  show vb false = vb R
  rw [← hR,nameB_len (by omega)]
 ·have h0' : ¬ (s.size : Int) < 1 := of_decide_eq_false h0
  refine ifB_intro (fun hb=>?_) (fun hb=>?_)
  ·have hb' : (s.size : Int) > 12 := of_decide_eq_true hb
   refine ⟨?_,nofun⟩
   show vb false = vb R
   rw [← hR,nameB_len (by omega)]
  ·have hb' : ¬ (s.size : Int) > 12 := of_decide_eq_false hb
   refine ⟨[],[0,3],fun st m=>∃ k : Nat,k ≤ s.size ∧ (∀ j,j < k → nameAt j (byteAt s j) = true) ∧ st = ⟨[(0,sv s),(3,i64 k)],⟨[],[],none,0⟩,[]⟩ ∧ m = s.size - k,
    ⟨_,_,⟨0,by omega,fun j hj=>absurd hj (Nat.not_lt_zero j),rfl,rfl⟩,⟨⟨.inl rfl,rfl,rfl,rfl⟩,trivial,trivial⟩⟩,?_⟩
   rintro s0 m0 ⟨k,hk,hf,rfl,rfl⟩
   have hc := byteAt_lt s k
   have bad : nameAt k (byteAt s k) = false → k < s.size → vb false = vb R := fun h hlt=>by rw [← hR,nameB_false hlt h]
   have good : nameAt k (byteAt s k) = true → ∀ j,j < k + 1 → nameAt j (byteAt s j) = true := fun h j hj=>by
    rcases Nat.lt_succ_iff_lt_or_eq.1 hj with h' | rfl
    ·exact hf j h'
    ·exact h
   unfold nameAt isLetter at bad good
   refine ifB_intro (fun h1=>?_) (fun h1=>?_)
   ·have hlt : k < s.size := by have := of_decide_eq_true h1; omega
    refine ⟨⟨by omega,by omega⟩,?_⟩
    refine ifB_intro (fun ha=>?_) (fun ha=>?_)
    ·have ha' : 97 ≤ byteAt s k := of_decide_eq_true ha
     refine ifB_intro (fun hz=>?_) (fun hz=>?_)
     ·have hz' : byteAt s k ≤ 122 := of_decide_eq_true hz
      refine ⟨inK64 (by omega) (by omega),?_⟩
      refine ⟨_,_,⟨⟨k + 1,by omega,good (by simp; omega),rfl,rfl⟩,by omega⟩,⟨⟨.inl rfl,rfl,rfl,rfl⟩,trivial,trivial⟩⟩
     ·have hz' : ¬ (byteAt s k ≤ 122) := of_decide_eq_false hz
      refine ifB_intro (fun hl=>?_) (fun hl=>?_)
      ·have hl' : 65 ≤ byteAt s k := of_decide_eq_true hl
       refine ifB_intro (fun hl9=>?_) (fun hl9=>?_)
       ·have hl9' : ¬ byteAt s k ≤ 90 := of_decide_eq_false (not_t hl9)
        refine ifB_intro (fun h4=>?_) (fun h4=>?_)
        ·have h4' : (k : Int) = 0 := eq_of_beq h4
         refine ⟨?_,nofun⟩
         exact bad (by simp; omega) hlt
        ·have h4' : ¬ ((k : Int) = 0) := ne_of_beq_false h4
         refine ifB_intro (fun h5=>?_) (fun h5=>?_)
         ·have h5' : ¬ byteAt s k = 45 := bne_iff_ne.1 h5
          refine ifB_intro (fun h6=>?_) (fun h6=>?_)
          ·have h6' : byteAt s k < 48 := of_decide_eq_true h6
           refine ⟨?_,nofun⟩
           exact bad (by simp; omega) hlt
          ·have h6' : ¬ (byteAt s k < 48) := of_decide_eq_false h6
           refine ifB_intro (fun h7=>?_) (fun h7=>?_)
           ·have h7' : byteAt s k > 57 := of_decide_eq_true h7
            refine ⟨?_,nofun⟩
            exact bad (by simp; omega) hlt
           ·have h7' : ¬ (byteAt s k > 57) := of_decide_eq_false h7
            refine ⟨inK64 (by omega) (by omega),?_⟩
            refine ⟨_,_,⟨⟨k + 1,by omega,good (by simp; omega),rfl,rfl⟩,by omega⟩,⟨⟨.inl rfl,rfl,rfl,rfl⟩,trivial,trivial⟩⟩
         ·have h5' : ¬ (¬ byteAt s k = 45) := not_not_intro <| bne_eq_false_iff_eq.1 h5
          refine ⟨inK64 (by omega) (by omega),?_⟩
          refine ⟨_,_,⟨⟨k + 1,by omega,good (by simp; omega),rfl,rfl⟩,by omega⟩,⟨⟨.inl rfl,rfl,rfl,rfl⟩,trivial,trivial⟩⟩
       ·have hl9' : byteAt s k ≤ 90 := of_decide_eq_true (not_f hl9)
        refine ⟨inK64 (by omega) (by omega),?_⟩
        refine ⟨_,_,⟨⟨k + 1,by omega,good (by simp; omega),rfl,rfl⟩,by omega⟩,⟨⟨.inl rfl,rfl,rfl,rfl⟩,trivial,trivial⟩⟩
      ·have hl' : ¬ (65 ≤ byteAt s k) := of_decide_eq_false hl
       refine ifB_intro (fun h4=>?_) (fun h4=>?_)
       ·have h4' : (k : Int) = 0 := eq_of_beq h4
        refine ⟨?_,nofun⟩
        exact bad (by simp; omega) hlt
       ·have h4' : ¬ ((k : Int) = 0) := ne_of_beq_false h4
        refine ifB_intro (fun h5=>?_) (fun h5=>?_)
        ·have h5' : ¬ byteAt s k = 45 := bne_iff_ne.1 h5
         refine ifB_intro (fun h6=>?_) (fun h6=>?_)
         ·have h6' : byteAt s k < 48 := of_decide_eq_true h6
          refine ⟨?_,nofun⟩
          exact bad (by simp; omega) hlt
         ·have h6' : ¬ (byteAt s k < 48) := of_decide_eq_false h6
          refine ifB_intro (fun h7=>?_) (fun h7=>?_)
          ·have h7' : byteAt s k > 57 := of_decide_eq_true h7
           refine ⟨?_,nofun⟩
           exact bad (by simp; omega) hlt
          ·have h7' : ¬ (byteAt s k > 57) := of_decide_eq_false h7
           refine ⟨inK64 (by omega) (by omega),?_⟩
           refine ⟨_,_,⟨⟨k + 1,by omega,good (by simp; omega),rfl,rfl⟩,by omega⟩,⟨⟨.inl rfl,rfl,rfl,rfl⟩,trivial,trivial⟩⟩
        ·have h5' : ¬ (¬ byteAt s k = 45) := not_not_intro <| bne_eq_false_iff_eq.1 h5
         refine ⟨inK64 (by omega) (by omega),?_⟩
         refine ⟨_,_,⟨⟨k + 1,by omega,good (by simp; omega),rfl,rfl⟩,by omega⟩,⟨⟨.inl rfl,rfl,rfl,rfl⟩,trivial,trivial⟩⟩
    ·have ha' : ¬ (97 ≤ byteAt s k) := of_decide_eq_false ha
     refine ifB_intro (fun hm=>?_) (fun hm=>?_)
     ·have hm' : 65 ≤ byteAt s k := of_decide_eq_true hm
      refine ifB_intro (fun hm9=>?_) (fun hm9=>?_)
      ·have hm9' : ¬ byteAt s k ≤ 90 := of_decide_eq_false (not_t hm9)
       refine ifB_intro (fun h4=>?_) (fun h4=>?_)
       ·have h4' : (k : Int) = 0 := eq_of_beq h4
        refine ⟨?_,nofun⟩
        exact bad (by simp; omega) hlt
       ·have h4' : ¬ ((k : Int) = 0) := ne_of_beq_false h4
        refine ifB_intro (fun h5=>?_) (fun h5=>?_)
        ·have h5' : ¬ byteAt s k = 45 := bne_iff_ne.1 h5
         refine ifB_intro (fun h6=>?_) (fun h6=>?_)
         ·have h6' : byteAt s k < 48 := of_decide_eq_true h6
          refine ⟨?_,nofun⟩
          exact bad (by simp; omega) hlt
         ·have h6' : ¬ (byteAt s k < 48) := of_decide_eq_false h6
          refine ifB_intro (fun h7=>?_) (fun h7=>?_)
          ·have h7' : byteAt s k > 57 := of_decide_eq_true h7
           refine ⟨?_,nofun⟩
           exact bad (by simp; omega) hlt
          ·have h7' : ¬ (byteAt s k > 57) := of_decide_eq_false h7
           refine ⟨inK64 (by omega) (by omega),?_⟩
           refine ⟨_,_,⟨⟨k + 1,by omega,good (by simp; omega),rfl,rfl⟩,by omega⟩,⟨⟨.inl rfl,rfl,rfl,rfl⟩,trivial,trivial⟩⟩
        ·have h5' : ¬ (¬ byteAt s k = 45) := not_not_intro <| bne_eq_false_iff_eq.1 h5
         refine ⟨inK64 (by omega) (by omega),?_⟩
         refine ⟨_,_,⟨⟨k + 1,by omega,good (by simp; omega),rfl,rfl⟩,by omega⟩,⟨⟨.inl rfl,rfl,rfl,rfl⟩,trivial,trivial⟩⟩
      ·have hm9' : byteAt s k ≤ 90 := of_decide_eq_true (not_f hm9)
       refine ⟨inK64 (by omega) (by omega),?_⟩
       refine ⟨_,_,⟨⟨k + 1,by omega,good (by simp; omega),rfl,rfl⟩,by omega⟩,⟨⟨.inl rfl,rfl,rfl,rfl⟩,trivial,trivial⟩⟩
     ·have hm' : ¬ (65 ≤ byteAt s k) := of_decide_eq_false hm
      refine ifB_intro (fun h4=>?_) (fun h4=>?_)
      ·have h4' : (k : Int) = 0 := eq_of_beq h4
       refine ⟨?_,nofun⟩
       exact bad (by simp; omega) hlt
      ·have h4' : ¬ ((k : Int) = 0) := ne_of_beq_false h4
       refine ifB_intro (fun h5=>?_) (fun h5=>?_)
       ·have h5' : ¬ byteAt s k = 45 := bne_iff_ne.1 h5
        refine ifB_intro (fun h6=>?_) (fun h6=>?_)
        ·have h6' : byteAt s k < 48 := of_decide_eq_true h6
         refine ⟨?_,nofun⟩
         exact bad (by simp; omega) hlt
        ·have h6' : ¬ (byteAt s k < 48) := of_decide_eq_false h6
         refine ifB_intro (fun h7=>?_) (fun h7=>?_)
         ·have h7' : byteAt s k > 57 := of_decide_eq_true h7
          refine ⟨?_,nofun⟩
          exact bad (by simp; omega) hlt
         ·have h7' : ¬ (byteAt s k > 57) := of_decide_eq_false h7
          refine ⟨inK64 (by omega) (by omega),?_⟩
          refine ⟨_,_,⟨⟨k + 1,by omega,good (by simp; omega),rfl,rfl⟩,by omega⟩,⟨⟨.inl rfl,rfl,rfl,rfl⟩,trivial,trivial⟩⟩
       ·have h5' : ¬ (¬ byteAt s k = 45) := not_not_intro <| bne_eq_false_iff_eq.1 h5
        refine ⟨inK64 (by omega) (by omega),?_⟩
        refine ⟨_,_,⟨⟨k + 1,by omega,good (by simp; omega),rfl,rfl⟩,by omega⟩,⟨⟨.inl rfl,rfl,rfl,rfl⟩,trivial,trivial⟩⟩
   ·have hlt : k = s.size := by have := of_decide_eq_false h1; omega
    subst hlt
    refine ⟨?_,nofun⟩
    show vb true = vb R
    rw [← hR,nameB_all hf,decide_eq_true (by omega)]
end Go.Tr

/- Chapter 7: plans as plain data; which plans are valid. Conditions: none. -/
namespace Go.Tr
open Go Go.Proofs
set_option maxRecDepth 20000
set_option maxHeartbeats 8000000

def AVF : Nat → AV → AV → Prop
 | 0,_,_=>False
 | n + 1,.rslice es len f,.rslice es' len' g=>es = es' ∧ len = len' ∧ ∀ i,i < len → (f i).length = (g i).length ∧ ∀ j x y,nth? (f i) j = some x → nth? (g i) j = some y → x = y ∨ AVF n x y
 | _ + 1,.eslice,.rslice _ len _=>len = 0
 | n + 1,.agg l,.agg l'=>l.length = l'.length ∧ ∀ i x y,nth? l i = some x → nth? l' i = some y → x = y ∨ AVF n x y
 | n + 1,.tuple l,.tuple l'=>l.length = l'.length ∧ ∀ i x y,nth? l i = some x → nth? l' i = some y → x = y ∨ AVF n x y
 | _ + 1,x,y=>x = y
theorem AVF_ok {P : Program} {w : World} {p : Nat → Prop} : ∀ (k : Nat) {x y : AV} {v : Value},AVF k x y → VT P w p x v → VT P w p y v
 | 0,x,y,v,h,_=>h.elim
 | k + 1, x, y, v, h, hx => by
  have eqc : x = y → VT P w p y v := fun e=>e ▸ hx
  have list : ∀ (l l' : List AV) (vs : Array Value),l.length = l'.length → (∀ i x y,nth? l i = some x → nth? l' i = some y → x = y ∨ AVF k x y) → (∀ i x,l[i]? = some x → VT P w p x (vs.getD i undef)) → ∀ i x,l'[i]? = some x → VT P w p x (vs.getD i undef) := by
   intro l l' vs hl he hv i x hi
   have hlt : i < l.length := by rw [hl]; exact (List.getElem?_eq_some_iff.1 hi).1
   have hvi := hv i _ (List.getElem?_eq_getElem hlt)
   rcases he i _ _ (by rw [nth?_eq]; exact List.getElem?_eq_getElem hlt) (by rw [nth?_eq]; exact hi) with e | e
   ·rw [← e]; exact hvi
   ·exact AVF_ok k e hvi
  cases x with
  | rslice es len f =>
   cases y with
   | rslice es' len' g =>
    obtain ⟨rfl,rfl,hf⟩ := h
    cases hx with
    | rslice0=>exact .rslice0 _ _ _ _
    | rslice _ _ _ b off kk gg h1 h2 h3 h4 h5 =>
     refine .rslice _ _ _ b off kk gg h1 h2 (fun i hi=>by rw [← (hf i hi).1]; exact h3 i hi) h4 (fun i j y hi hy=>?_)
     have hl := (hf i hi).1
     have hlt : j < (f i).length := by rw [hl]; exact (List.getElem?_eq_some_iff.1 hy).1
     have hvi := h5 i j _ hi (List.getElem?_eq_getElem hlt)
     rcases (hf i hi).2 j _ y (by rw [nth?_eq]; exact List.getElem?_eq_getElem hlt) (by rw [nth?_eq]; exact hy) with e | e
     ·rw [← e]; exact hvi
     ·exact AVF_ok k e hvi
   | _=>exact eqc h
  | eslice =>
   cases y with
   | rslice es' len' g =>
    have h : len' = 0 := h
    subst h
    cases hx with
    | eslice a=>exact .rslice0 _ _ _ _
   | _=>exact eqc h
  | agg l =>
   cases y with
   | agg l' =>
    obtain ⟨h1,h2⟩ := h
    cases hx with
    | agg _ vs g1 g2 g3=>exact .agg l' vs (by rw [← h1]; exact g1) g2 (list l l' vs h1 h2 g3)
   | _=>exact eqc h
  | tuple l =>
   cases y with
   | tuple l' =>
    obtain ⟨h1,h2⟩ := h
    cases hx with
    | tuple _ vs g1 g3=>exact .tuple l' vs (by rw [← h1]; exact g1) (list l l' vs h1 h2 g3)
   | _=>exact eqc h
  | _=>cases y <;> exact eqc h
theorem Sound1.argsD {P : Program} {f : FuncId} {xs ys : List AV} {r : AV} {fr : Bool} (h : Sound1 P f xs r fr) (hl : ys.length = xs.length) (hx : ∀ i y x,nth? ys i = some y → nth? xs i = some x → y = x ∨ ∃ k,AVF k y x) : Sound1 P f ys r fr := by
 refine ⟨h.1,fun w q vs hq hg hs hv=>h.2 w q vs hq hg (hs.trans hl) fun i x hi=>?_⟩
 have hlt : i < ys.length := by rw [hl]; exact (List.getElem?_eq_some_iff.1 hi).1
 have hvi := hv i _ (List.getElem?_eq_getElem hlt)
 rcases hx i _ x (by rw [nth?_eq]; exact List.getElem?_eq_getElem hlt) (by rw [nth?_eq]; exact hi) with e | ⟨k,hk⟩
 ·rw [← e]; exact hvi
 ·exact AVF_ok k hk hvi
theorem Sound1.resD {P : Program} {f : FuncId} {xs : List AV} {r r' : AV} (h : Sound1 P f xs r false) {k : Nat} (hr : AVF k r r') : Sound1 P f xs r' false := by
 refine ⟨h.1,fun w q vs hq hg hs hv=>Calls.mono (h.2 w q vs hq hg hs hv) ?_⟩
 rintro e w' ⟨u,h1,h2,h3⟩
 exact ⟨u,h1,h2,AVF_ok k hr h3⟩

structure Stp where
 name : ByteArray
 safe : Bool
 needs : Int
 trip : Int
 wait : Int
 home : Int
 exits : List Int
 on : Int
 off : Int
 mon : Int
 mof : Int
 time : Int
 next : Int
 back : Int
structure Pln where
 sig : List ByteArray
 start : Int
 steps : List Stp
def stpC (s : Stp) : List AV := [sv s.name,vb s.safe,i64 s.needs,i64 s.trip,i64 s.wait,i64 s.home,ints s.exits,i64 s.on,i64 s.off,i64 s.mon,i64 s.mof,i64 s.time,i64 s.next,i64 s.back]
def stp0 : Stp := ⟨ByteArray.empty,false,0,0,0,0,[],0,0,0,0,0,0,0⟩
def stepsA (l : List Stp) : AV := .rslice 14 l.length fun i=>stpC (l.getD i stp0)
def planC (p : Pln) : List AV := [strs p.sig,i64 p.start,stepsA p.steps]
def planA (p : Pln) : AV := .agg (planC p)
def stepA (s : Stp) : AV := .agg (stpC s)

abbrev pw (n : Nat) : Int := shlI .i64 1 (n : Int)
theorem pw_le : ∀ n : Nat,n ≤ 7 → 1 ≤ shlI .i64 1 (n : Int) ∧ shlI .i64 1 (n : Int) ≤ 128 := by
 intro n hn
 match n,hn with
 | 0,_=>decide | 1,_=>decide | 2,_=>decide | 3,_=>decide | 4,_=>decide | 5,_=>decide | 6,_=>decide | 7,_=>decide

def inS (n : Nat) (x : Int) : Bool := decide (0 ≤ x ∧ x ≤ pw n - 1)
def inX (m : Nat) (x : Int) : Bool := decide (0 ≤ x ∧ x ≤ (m : Int) - 1)
def setE (n : Nat) (x : Int) : Int := if inS n x then 0 else 2
def idxE (m : Nat) (x : Int) : Int := if inX m x then 0 else 6
def setsE (n : Nat) (l : List Int) : Int := if l.all (inS n) then 0 else 2
def idxsE (m : Nat) (l : List Int) : Int := if l.all (inX m) then 0 else 6

theorem S111 (p : Pln) (hn : p.sig.length ≤ 7) (x : Int) : SP 111 [i64 x,.rptr (planC p)] (vb (!inS p.sig.length x)) false := by
 have hp := pw_le _ hn
 refine sound (d := 2) tok2 mixed2 Tryz.func111 (by kernel_rfl) (by kernel_rfl) ?_
 (conv=>whnf); refine ⟨(by omega),?_⟩
 (conv=>whnf); refine ⟨inK64 (by omega) (by omega),?_⟩
 (conv=>whnf); refine .inl ⟨_,_,byX rfl (Sound1.pl (S59 _ _ _) rfl),?_⟩
 (conv=>whnf); refine ⟨?_,nofun⟩
 rfl
theorem S90 (p : Pln) (hm : p.steps.length ≤ 1000) (x : Int) : SP 90 [i64 x,.rptr (planC p)] (vb (!inX p.steps.length x)) false := by
 refine sound (d := 2) tok2 mixed2 Tryz.func90 (by kernel_rfl) (by kernel_rfl) ?_
 (conv=>whnf); refine ⟨inK64 (by omega) (by omega),?_⟩
 (conv=>whnf); refine .inl ⟨_,_,byX rfl (Sound1.pl (S59 _ _ _) rfl),?_⟩
 (conv=>whnf); refine ⟨?_,nofun⟩
 rfl

def idxF (P : Int → Bool) : List Int → Nat → Int
  | [],_=>-1
  | y :: r,k=>if P y then k else idxF P r (k + 1)
theorem idxF_any (P : Int → Bool) : ∀ (l : List Int) (k : Nat),decide (idxF P l k ≥ 0) = l.any P
 | [],k=>by simp [idxF]
 | y :: r,k=>by
  have ih := idxF_any P r (k + 1)
  unfold idxF
  rw [List.any_cons]
  cases h : P y with
  | true=>simp
  | false=>simp only [Bool.false_eq_true,if_false,ih,Bool.false_or]
theorem idxF_drop (P : Int → Bool) (l : List Int) (k : Nat) (h : k < l.length) : idxF P (l.drop k) k = if P (l.getD k 0) then (k : Int) else idxF P (l.drop (k + 1)) (k + 1) := by
  rw [List.drop_eq_getElem_cons h,idxF]; simp [List.getD,h]
theorem S113 (l : List Int) (hl : l.length ≤ 9223372036854775807) (g : FuncId) (C : List AV) (P : Int → Bool) (hg : ∀ x,SP g [i64 x,.rptr C] (vb (P x)) false) : SP 113 [ints l,.func (.func g) 0 [.rptr C]] (i64 (idxF P l 0)) false := by
 refine sound (d := 2) tok2 mixed2 Tryz.func113 (by kernel_rfl) (by kernel_rfl) ?_
 (conv=>whnf); refine ⟨[],[0,1,7,8],fun st mq=>∃ (k : Nat),(k ≤ l.length) ∧ (idxF P (l.drop k) k = idxF P l 0) ∧ st = ⟨[(0,ints l),(1,.func (.func g) 0 [.rptr C]),(7,i64 l.length),(8,i64 k)],⟨[],[],none,0⟩,[]⟩ ∧ mq = l.length - k,
  ⟨_,_,⟨0,by omega,rfl,rfl,rfl⟩,⟨⟨.inl rfl,rfl,rfl,rfl⟩,trivial,trivial⟩⟩,?_⟩
 rintro s0 m0 ⟨k,hk,hf,rfl,hmeas⟩
 by_cases hlt : k < l.length
 ·have hd := idxF_drop P l k hlt
  have hgx := hg (l.getD k 0)
  conv=>whnf
  (conv=>whnf); refine ifB_dec (fun w1=>?_) (fun w1=>?_)
  ·conv=>whnf
   (conv=>whnf); refine ⟨⟨(by omega),(by omega)⟩,?_⟩
   conv=>whnf
   (conv=>whnf); refine .inl ⟨_,_,byX rfl (Sound1.pl (hgx) rfl),?_⟩
   conv=>whnf
   (conv=>whnf); refine ifB_intro (fun w2=>?_) (fun w2=>?_)
   ·conv=>whnf
    (conv=>whnf); refine ⟨?_,nofun⟩
    rw [if_pos w2] at hd
    show i64 _ = i64 _
    rw [← hf,hd]
   ·conv=>whnf
    (conv=>whnf); refine ⟨inK64 (by omega) (by omega),?_⟩
    rw [if_neg (by rw [w2]; nofun)] at hd
    conv=>whnf
    (conv=>whnf); refine ⟨_,_,⟨⟨k + 1,by omega,hd.symm.trans hf,rfl,rfl⟩,by omega⟩,⟨⟨.inl rfl,rfl,rfl,rfl⟩,trivial,trivial⟩⟩
  ·(exfalso; omega)
 ·have e : k = l.length := by omega
  subst e
  conv=>whnf
  (conv=>whnf); refine ifB_dec (fun w1=>?_) (fun w1=>?_)
  ·(exfalso; omega)
  ·conv=>whnf
   (conv=>whnf); refine ⟨?_,nofun⟩
   simp [idxF] at hf
   show i64 _ = i64 _
   rw [← hf]
theorem S113n (l : List Int) (hl : l.length ≤ 9223372036854775807) (g : FuncId) (P : Int → Bool) (hg : ∀ x,SP g [i64 x] (vb (P x)) false) : SP 113 [ints l,.func (.func g) 0 []] (i64 (idxF P l 0)) false := by
 refine sound (d := 2) tok2 mixed2 Tryz.func113 (by kernel_rfl) (by kernel_rfl) ?_
 (conv=>whnf); refine ⟨[],[0,1,7,8],fun st mq=>∃ (k : Nat),(k ≤ l.length) ∧ (idxF P (l.drop k) k = idxF P l 0) ∧ st = ⟨[(0,ints l),(1,.func (.func g) 0 []),(7,i64 l.length),(8,i64 k)],⟨[],[],none,0⟩,[]⟩ ∧ mq = l.length - k,
  ⟨_,_,⟨0,by omega,rfl,rfl,rfl⟩,⟨⟨.inl rfl,rfl,rfl,rfl⟩,trivial,trivial⟩⟩,?_⟩
 rintro s0 m0 ⟨k,hk,hf,rfl,hmeas⟩
 by_cases hlt : k < l.length
 ·have hd := idxF_drop P l k hlt
  have hgx := hg (l.getD k 0)
  conv=>whnf
  (conv=>whnf); refine ifB_dec (fun w1=>?_) (fun w1=>?_)
  ·conv=>whnf
   (conv=>whnf); refine ⟨⟨(by omega),(by omega)⟩,?_⟩
   conv=>whnf
   (conv=>whnf); refine .inl ⟨_,_,byX rfl (Sound1.pl (hgx) rfl),?_⟩
   conv=>whnf
   (conv=>whnf); refine ifB_intro (fun w2=>?_) (fun w2=>?_)
   ·conv=>whnf
    (conv=>whnf); refine ⟨?_,nofun⟩
    rw [if_pos w2] at hd
    show i64 _ = i64 _
    rw [← hf,hd]
   ·conv=>whnf
    (conv=>whnf); refine ⟨inK64 (by omega) (by omega),?_⟩
    rw [if_neg (by rw [w2]; nofun)] at hd
    conv=>whnf
    (conv=>whnf); refine ⟨_,_,⟨⟨k + 1,by omega,hd.symm.trans hf,rfl,rfl⟩,by omega⟩,⟨⟨.inl rfl,rfl,rfl,rfl⟩,trivial,trivial⟩⟩
  ·(exfalso; omega)
 ·have e : k = l.length := by omega
  subst e
  conv=>whnf
  (conv=>whnf); refine ifB_dec (fun w1=>?_) (fun w1=>?_)
  ·(exfalso; omega)
  ·conv=>whnf
   (conv=>whnf); refine ⟨?_,nofun⟩
   simp [idxF] at hf
   show i64 _ = i64 _
   rw [← hf]
theorem S89 (l : List Int) (hl : l.length ≤ 9223372036854775807) (g : FuncId) (C : List AV) (P : Int → Bool) (hg : ∀ x,SP g [i64 x,.rptr C] (vb (P x)) false) : SP 89 [ints l,.func (.func g) 0 [.rptr C]] (vb (l.any P)) false := by
 have h := S113 l hl g C P hg
 refine sound (d := 2) tok2 mixed2 Tryz.func89 (by kernel_rfl) (by kernel_rfl) ?_
 (conv=>whnf); refine .inl ⟨_,_,byX rfl (Sound1.pl (h) rfl),?_⟩
 (conv=>whnf); refine ⟨?_,nofun⟩
 show vb (decide (idxF P l 0 ≥ 0)) = _
 rw [idxF_any]
theorem S89n (l : List Int) (hl : l.length ≤ 9223372036854775807) (g : FuncId) (P : Int → Bool) (hg : ∀ x,SP g [i64 x] (vb (P x)) false) : SP 89 [ints l,.func (.func g) 0 []] (vb (l.any P)) false := by
 have h := S113n l hl g P hg
 refine sound (d := 2) tok2 mixed2 Tryz.func89 (by kernel_rfl) (by kernel_rfl) ?_
 (conv=>whnf); refine .inl ⟨_,_,byX rfl (Sound1.pl (h) rfl),?_⟩
 (conv=>whnf); refine ⟨?_,nofun⟩
 show vb (decide (idxF P l 0 ≥ 0)) = _
 rw [idxF_any]
theorem any_not (l : List Int) (P : Int → Bool) : (!l.any fun x=>!P x) = l.all P := by
  rw [List.not_any_eq_all_not]; simp
theorem S86 (p : Pln) (hn : p.sig.length ≤ 7) (l : List Int) (hl : l.length ≤ 9223372036854775807) : SP 86 [planA p,ints l] (i64 (setsE p.sig.length l)) false := by
 have h := S89 l hl 111 (planC p) _ (S111 p hn)
 refine sound (d := 2) tok2 mixed2 Tryz.func86 (by kernel_rfl) (by kernel_rfl) ?_
 (conv=>whnf); refine .inl ⟨_,_,byX rfl (Sound1.pl (h) rfl),?_⟩
 (conv=>whnf); refine .inl ⟨_,_,byX rfl (Sound1.pl (S45 _ _) rfl),?_⟩
 (conv=>whnf); refine ⟨?_,nofun⟩
 show i64 (if (!l.any fun x=>!inS p.sig.length x) = true then 0 else 2) = _
 rw [any_not]; rfl
theorem S62 (p : Pln) (hm : p.steps.length ≤ 1000) (l : List Int) (hl : l.length ≤ 9223372036854775807) : SP 62 [planA p,ints l] (i64 (idxsE p.steps.length l)) false := by
 have h := S89 l hl 90 (planC p) _ (S90 p hm)
 refine sound (d := 2) tok2 mixed2 Tryz.func62 (by kernel_rfl) (by kernel_rfl) ?_
 (conv=>whnf); refine .inl ⟨_,_,byX rfl (Sound1.pl (h) rfl),?_⟩
 (conv=>whnf); refine .inl ⟨_,_,byX rfl (Sound1.pl (S45 _ _) rfl),?_⟩
 (conv=>whnf); refine ⟨?_,nofun⟩
 show i64 (if (!l.any fun x=>!inX p.steps.length x) = true then 0 else 6) = _
 rw [any_not]; rfl

theorem AVF_rows {es n n' : Nat} {f g : Nat → List AV} (hn : n = n') (h : ∀ i,i < n → f i = g i) (k : Nat) : AVF (k + 1) (.rslice es n f) (.rslice es n' g) := by
 refine ⟨rfl,hn,fun i hi=>⟨by rw [h i hi],fun j x y hx hy=>.inl ?_⟩⟩
 rw [h i hi] at hx
 exact Option.some.inj (hx.symm.trans hy)
theorem S57_2 (a b : Int) {f : Nat → List AV} (h : f 0 = [i64 a] ∧ f 1 = [i64 b]) : SP 57 [.rslice 1 2 f] (i64 (firstOf [a,b])) false := by
 have key : ∀ i,i < 2 → f i = [i64 (([a,b] : List Int).getD i 0)] := fun i hi=>by
  match i,hi with
  | 0,_=>exact h.1
  | 1,_=>exact h.2
 refine (S57 [a,b] (by simp)).argsD rfl fun i y x hy hx=>?_
 match i,hy,hx with
 | 0,hy,hx=>cases hy; cases hx; exact .inr ⟨1,AVF_rows rfl key 0⟩
theorem S57_3 (a b c : Int) {f : Nat → List AV} (h : f 0 = [i64 a] ∧ f 1 = [i64 b] ∧ f 2 = [i64 c]) : SP 57 [.rslice 1 3 f] (i64 (firstOf [a,b,c])) false := by
 have key : ∀ i,i < 3 → f i = [i64 (([a,b,c] : List Int).getD i 0)] := fun i hi=>by
  match i,hi with
  | 0,_=>exact h.1
  | 1,_=>exact h.2.1
  | 2,_=>exact h.2.2
 refine (S57 [a,b,c] (by simp)).argsD rfl fun i y x hy hx=>?_
 match i,hy,hx with
 | 0,hy,hx=>cases hy; cases hx; exact .inr ⟨1,AVF_rows rfl key 0⟩
theorem S57_5 (a b c d e : Int) {f : Nat → List AV} (h : f 0 = [i64 a] ∧ f 1 = [i64 b] ∧ f 2 = [i64 c] ∧ f 3 = [i64 d] ∧ f 4 = [i64 e]) : SP 57 [.rslice 1 5 f] (i64 (firstOf [a,b,c,d,e])) false := by
 have key : ∀ i,i < 5 → f i = [i64 (([a,b,c,d,e] : List Int).getD i 0)] := fun i hi=>by
  match i,hi with
  | 0,_=>exact h.1
  | 1,_=>exact h.2.1
  | 2,_=>exact h.2.2.1
  | 3,_=>exact h.2.2.2.1
  | 4,_=>exact h.2.2.2.2
 refine (S57 [a,b,c,d,e] (by simp)).argsD rfl fun i y x hy hx=>?_
 match i,hy,hx with
 | 0,hy,hx=>cases hy; cases hx; exact .inr ⟨1,AVF_rows rfl key 0⟩
theorem S70_2 (a b : Int) {f : Nat → List AV} (h : f 0 = [i64 a] ∧ f 1 = [i64 b]) : SP 70 [.rslice 1 2 f] (i64 (firstOf [a,b])) false := by
 have key : ∀ i,i < 2 → f i = [i64 (([a,b] : List Int).getD i 0)] := fun i hi=>by
  match i,hi with
  | 0,_=>exact h.1
  | 1,_=>exact h.2
 refine (S70 [a,b] (by simp)).argsD rfl fun i y x hy hx=>?_
 match i,hy,hx with
 | 0,hy,hx=>cases hy; cases hx; exact .inr ⟨1,AVF_rows rfl key 0⟩
theorem S70_3 (a b c : Int) {f : Nat → List AV} (h : f 0 = [i64 a] ∧ f 1 = [i64 b] ∧ f 2 = [i64 c]) : SP 70 [.rslice 1 3 f] (i64 (firstOf [a,b,c])) false := by
 have key : ∀ i,i < 3 → f i = [i64 (([a,b,c] : List Int).getD i 0)] := fun i hi=>by
  match i,hi with
  | 0,_=>exact h.1
  | 1,_=>exact h.2.1
  | 2,_=>exact h.2.2
 refine (S70 [a,b,c] (by simp)).argsD rfl fun i y x hy hx=>?_
 match i,hy,hx with
 | 0,hy,hx=>cases hy; cases hx; exact .inr ⟨1,AVF_rows rfl key 0⟩
theorem S70_4 (a b c d : Int) {f : Nat → List AV} (h : f 0 = [i64 a] ∧ f 1 = [i64 b] ∧ f 2 = [i64 c] ∧ f 3 = [i64 d]) : SP 70 [.rslice 1 4 f] (i64 (firstOf [a,b,c,d])) false := by
 have key : ∀ i,i < 4 → f i = [i64 (([a,b,c,d] : List Int).getD i 0)] := fun i hi=>by
  match i,hi with
  | 0,_=>exact h.1
  | 1,_=>exact h.2.1
  | 2,_=>exact h.2.2.1
  | 3,_=>exact h.2.2.2
 refine (S70 [a,b,c,d] (by simp)).argsD rfl fun i y x hy hx=>?_
 match i,hy,hx with
 | 0,hy,hx=>cases hy; cases hx; exact .inr ⟨1,AVF_rows rfl key 0⟩
theorem S91_2 (a b : Int) {f : Nat → List AV} (h : f 0 = [i64 a] ∧ f 1 = [i64 b]) : SP 91 [.rslice 1 2 f] (i64 (firstOf [a,b])) false := by
 have key : ∀ i,i < 2 → f i = [i64 (([a,b] : List Int).getD i 0)] := fun i hi=>by
  match i,hi with
  | 0,_=>exact h.1
  | 1,_=>exact h.2
 refine (S91 [a,b] (by simp)).argsD rfl fun i y x hy hx=>?_
 match i,hy,hx with
 | 0,hy,hx=>cases hy; cases hx; exact .inr ⟨1,AVF_rows rfl key 0⟩
theorem S86_1 (p : Pln) (hn : p.sig.length ≤ 7) (a : Int) {f : Nat → List AV} (h : f 0 = [i64 a]) : SP 86 [planA p,.rslice 1 1 f] (i64 (setsE p.sig.length [a])) false := by
 have key : ∀ i,i < 1 → f i = [i64 (([a] : List Int).getD i 0)] := fun i hi=>by
  match i,hi with
  | 0,_=>exact h
 refine (S86 p hn [a] (by simp)).argsD rfl fun i y x hy hx=>?_
 match i,hy,hx with
 | 0,hy,hx=>cases hy; cases hx; exact .inl rfl
 | 1,hy,hx=>cases hy; cases hx; exact .inr ⟨1,AVF_rows rfl key 0⟩
theorem S86_4 (p : Pln) (hn : p.sig.length ≤ 7) (a b c d : Int) {f : Nat → List AV} (h : f 0 = [i64 a] ∧ f 1 = [i64 b] ∧ f 2 = [i64 c] ∧ f 3 = [i64 d]) : SP 86 [planA p,.rslice 1 4 f] (i64 (setsE p.sig.length [a,b,c,d])) false := by
 have key : ∀ i,i < 4 → f i = [i64 (([a,b,c,d] : List Int).getD i 0)] := fun i hi=>by
  match i,hi with
  | 0,_=>exact h.1
  | 1,_=>exact h.2.1
  | 2,_=>exact h.2.2.1
  | 3,_=>exact h.2.2.2
 refine (S86 p hn [a,b,c,d] (by simp)).argsD rfl fun i y x hy hx=>?_
 match i,hy,hx with
 | 0,hy,hx=>cases hy; cases hx; exact .inl rfl
 | 1,hy,hx=>cases hy; cases hx; exact .inr ⟨1,AVF_rows rfl key 0⟩
theorem S62_1 (p : Pln) (hm : p.steps.length ≤ 1000) (a : Int) {f : Nat → List AV} (h : f 0 = [i64 a]) : SP 62 [planA p,.rslice 1 1 f] (i64 (idxsE p.steps.length [a])) false := by
 have key : ∀ i,i < 1 → f i = [i64 (([a] : List Int).getD i 0)] := fun i hi=>by
  match i,hi with
  | 0,_=>exact h
 refine (S62 p hm [a] (by simp)).argsD rfl fun i y x hy hx=>?_
 match i,hy,hx with
 | 0,hy,hx=>cases hy; cases hx; exact .inl rfl
 | 1,hy,hx=>cases hy; cases hx; exact .inr ⟨1,AVF_rows rfl key 0⟩
theorem S62_2 (p : Pln) (hm : p.steps.length ≤ 1000) (a b : Int) {f : Nat → List AV} (h : f 0 = [i64 a] ∧ f 1 = [i64 b]) : SP 62 [planA p,.rslice 1 2 f] (i64 (idxsE p.steps.length [a,b])) false := by
 have key : ∀ i,i < 2 → f i = [i64 (([a,b] : List Int).getD i 0)] := fun i hi=>by
  match i,hi with
  | 0,_=>exact h.1
  | 1,_=>exact h.2
 refine (S62 p hm [a,b] (by simp)).argsD rfl fun i y x hy hx=>?_
 match i,hy,hx with
 | 0,hy,hx=>cases hy; cases hx; exact .inl rfl
 | 1,hy,hx=>cases hy; cases hx; exact .inr ⟨1,AVF_rows rfl key 0⟩
end Go.Tr

/- Contracts of chapter 7: the errors of plans, by the program and by the reference. Conditions: none. -/
namespace Go.Tr
open Go Go.Proofs
set_option maxRecDepth 20000
set_option maxHeartbeats 8000000

theorem S41 (p : Pln) (hn : p.sig.length ≤ 7) : SP 41 [planA p] (i64 (shlI .i64 1 (p.sig.length : Int))) false := by
 refine sound (d := 2) tok2 mixed2 Tryz.func41 (by kernel_rfl) (by kernel_rfl) ?_
 (conv=>whnf); refine ⟨(by omega),?_⟩
 (conv=>whnf); refine ⟨?_,nofun⟩
 rfl
theorem S69 (p : Pln) (hn : p.sig.length ≤ 7) (x : Int) : SP 69 [planA p,i64 x] (i64 (setE p.sig.length x)) false := by
 have h := S41 p hn
 have hp := pw_le _ hn
 refine sound (d := 2) tok2 mixed2 Tryz.func69 (by kernel_rfl) (by kernel_rfl) ?_
 unfold setE inS
 (conv=>whnf); refine .inl ⟨_,_,byX rfl (Sound1.pl (h) rfl),?_⟩
 (conv=>whnf); refine ⟨inK64 (by omega) (by omega),?_⟩
 (conv=>whnf); refine .inl ⟨_,_,byX rfl (Sound1.pl (S28 _ _ _) rfl),?_⟩
 (conv=>whnf); refine ifB_not ?_
 (conv=>whnf); refine ifB_dec (fun w1=>?_) (fun w1=>?_)
 ·(conv=>whnf); refine ⟨?_,nofun⟩
  show i64 0 = i64 _
  rw [decide_eq_true w1]; rfl
 ·(conv=>whnf); refine ⟨?_,nofun⟩
  show i64 2 = i64 _
  rw [decide_eq_false w1]; rfl
theorem S71 (p : Pln) (hm : p.steps.length ≤ 1000) (x : Int) : SP 71 [planA p,i64 x] (i64 (idxE p.steps.length x)) false := by
 refine sound (d := 2) tok2 mixed2 Tryz.func71 (by kernel_rfl) (by kernel_rfl) ?_
 unfold idxE inX
 (conv=>whnf); refine ⟨inK64 (by omega) (by omega),?_⟩
 (conv=>whnf); refine .inl ⟨_,_,byX rfl (Sound1.pl (S28 _ _ _) rfl),?_⟩
 (conv=>whnf); refine ifB_not ?_
 (conv=>whnf); refine ifB_dec (fun w1=>?_) (fun w1=>?_)
 ·(conv=>whnf); refine ⟨?_,nofun⟩
  show i64 0 = i64 _
  rw [decide_eq_true w1]; rfl
 ·(conv=>whnf); refine ⟨?_,nofun⟩
  show i64 6 = i64 _
  rw [decide_eq_false w1]; rfl
theorem S63 (s : Stp) : SP 63 [stepA s] (vb (decide (s.wait = 0))) false := by
 refine sound (d := 2) tok2 mixed2 Tryz.func63 (by kernel_rfl) (by kernel_rfl) ?_
 (conv=>whnf); refine ⟨?_,nofun⟩
 show vb (s.wait == 0) = vb _
 rfl
theorem S105 (s : Stp) : SP 105 [stepA s] (vb (s.safe && decide (s.wait = 0))) false := by
 have h := S63 s
 refine sound (d := 2) tok2 mixed2 Tryz.func105 (by kernel_rfl) (by kernel_rfl) ?_
 (conv=>whnf); refine ifB_intro (fun w1=>?_) (fun w1=>?_)
 ·(conv=>whnf); refine .inl ⟨_,_,byX rfl (Sound1.pl (h) rfl),?_⟩
  (conv=>whnf); refine ⟨?_,nofun⟩
  show vb _ = vb _
  rw [w1,Bool.true_and]
 ·(conv=>whnf); refine ⟨?_,nofun⟩
  show vb _ = vb _
  rw [w1]; rfl

def scan (f : Nat → Int) : Nat → Nat → Int × Int
  | 0,_=>(0,0)
  | n + 1,i=>if f i = 0 then scan f n (i + 1) else (i,f i)
theorem scan_at {f : Nat → Int} {n k : Nat} (hk : k < n) (h : ∀ j,j < k → f j = 0) (hf : f k ≠ 0) : scan f n 0 = ((k : Int),f k) := by
 have key : ∀ (n i : Nat),i ≤ k → k < i + n → scan f n i = ((k : Int),f k) := by
  intro n
  induction n with
  | zero=>intro i h1 h2; omega
  | succ n ih =>
   intro i h1 h2
   unfold scan
   by_cases hi : i = k
   ·subst hi; rw [if_neg hf]
   ·rw [if_pos (h i (by omega)),ih (i + 1) (by omega) (by omega)]
 exact key n 0 (by omega) (by omega)
theorem scan_all {f : Nat → Int} {n : Nat} (h : ∀ j,j < n → f j = 0) : scan f n 0 = (0,0) := by
 have key : ∀ (m i : Nat),i + m = n → scan f m i = (0,0) := by
  intro m
  induction m with
  | zero=>intro i _; rfl
  | succ m ih=>intro i hi; unfold scan; rw [if_pos (h i (by omega)),ih (i + 1) (by omega)]
 exact key n 0 (by omega)
theorem scan_zero {f : Nat → Int} {n : Nat} (h : (scan f n 0).2 = 0) : ∀ j,j < n → f j = 0 := by
 have key : ∀ (m i : Nat),(scan f m i).2 = 0 → ∀ j,i ≤ j → j < i + m → f j = 0 := by
  intro m
  induction m with
  | zero=>intro i _ j h1 h2; omega
  | succ m ih =>
   intro i hs j h1 h2
   unfold scan at hs
   by_cases hz : f i = 0
   ·rw [if_pos hz] at hs
    rcases Nat.eq_or_lt_of_le h1 with e | e
    ·rw [← e]; exact hz
    ·exact ih (i + 1) hs j (by omega) (by omega)
   ·rw [if_neg hz] at hs; exact absurd hs hz
 intro j hj
 exact key n 0 h j (by omega) (by omega)
theorem inv_next {f : Nat → Int} {k : Nat} (h : ∀ j,j < k → f j = 0) (hk : f k = 0) : ∀ j,j < k + 1 → f j = 0 := fun j hj=>by
 rcases Nat.lt_succ_iff_lt_or_eq.1 hj with h1 | rfl
 ·exact h j h1
 ·exact hk
theorem inv_none {f : Nat → Int} : ∀ j,j < 0 → f j = 0 := fun j hj=>absurd hj (Nat.not_lt_zero j)

def exAt (m : Nat) (l : List Int) (i : Nat) : Int :=
  if idxE m (l.getD i 0) ≠ 0 then idxE m (l.getD i 0) else if i = 0 ∨ l.getD i 0 > l.getD (i - 1) 0 then 0 else 9
def steadyE (m : Nat) (s : Stp) : Int :=
 if ¬ (s.on = 0 ∧ s.off = 0 ∧ s.mon = 0 ∧ s.mof = 0 ∧ s.time = 0 ∧ s.next = 0 ∧ s.back = 0) then 3
 else if (scan (exAt m s.exits) s.exits.length 0).2 ≠ 0 then (scan (exAt m s.exits) s.exits.length 0).2
 else if hasI s.exits s.home || (decide (s.exits.length = 0) && decide (s.home = 0)) then 0 else 21
def movingE (n m : Nat) (s : Stp) : Int :=
 firstOf [if !s.safe && decide (s.home = 0) && decide (s.exits.length = 0) then 0 else 3,setsE n [s.on,s.off,s.mon,s.mof],
  if decide (bitI .and .i64 s.on s.off = 0) && decide (bitI .and .i64 s.mon s.mof = 0) then 0 else 13,if 1 ≤ s.time ∧ s.time ≤ s.wait then 0 else 2,idxsE m [s.next,s.back]]

theorem veq7 {a b c d e f g : Int} : vEqL [.int .i64 a,.int .i64 b,.int .i64 c,.int .i64 d,.int .i64 e,.int .i64 f,.int .i64 g] [.int .i64 0,.int .i64 0,.int .i64 0,.int .i64 0,.int .i64 0,.int .i64 0,.int .i64 0] = true ↔
    a = 0 ∧ b = 0 ∧ c = 0 ∧ d = 0 ∧ e = 0 ∧ f = 0 ∧ g = 0 := by simp [vEqL]
theorem endi {a b : Int} (h : a = b) : i64 a = i64 b := congrArg (fun x=>i64 x) h
theorem endb {a b : Bool} (h : a = b) : vb a = vb b := congrArg (fun x=>vb x) h
theorem first2 (a b : Int) : firstOf [a,b] = if a ≠ 0 then a else b := by
 unfold firstOf firstOf firstOf
 by_cases h : a = 0
 ·rw [if_pos h,if_neg (not_not_intro h)]
  by_cases h2 : b = 0
  ·rw [if_pos h2,h2]
  ·rw [if_neg h2]
 ·rw [if_neg h,if_pos h]
theorem idxs1 (m : Nat) (x : Int) : idxsE m [x] = idxE m x := by simp [idxsE,idxE]
theorem sets1 (n : Nat) (x : Int) : setsE n [x] = setE n x := by simp [setsE,setE]
theorem exAt_zero {m : Nat} {l : List Int} {k : Nat} (h : idxE m (l.getD k 0) = 0) : exAt m l k = if k = 0 ∨ l.getD k 0 > l.getD (k - 1) 0 then 0 else 9 := by
  unfold exAt
  rw [if_neg (fun e=>e h)]
theorem sets4 (n : Nat) (a b c d : Int) : setsE n [a,b,c,d] = firstOf [setE n a,setE n b,setE n c,setE n d] := by
 show (if (inS n a && (inS n b && (inS n c && (inS n d && true)))) = true then (0 : Int) else 2) = firstOf [if inS n a = true then 0 else 2,if inS n b = true then 0 else 2,if inS n c = true then 0 else 2,if inS n d = true then 0 else 2]
 generalize inS n a = A
 generalize inS n b = B
 generalize inS n c = C
 generalize inS n d = D
 cases A <;> cases B <;> cases C <;> cases D <;> rfl
theorem idxs2 (m : Nat) (a b : Int) : idxsE m [a,b] = firstOf [idxE m a,idxE m b] := by
 show (if (inX m a && (inX m b && true)) = true then (0 : Int) else 6) = firstOf [if inX m a = true then 0 else 6,if inX m b = true then 0 else 6]
 generalize inX m a = A
 generalize inX m b = B
 cases A <;> cases B <;> rfl
theorem steady_bad {m : Nat} {s : Stp} {k : Nat} {e : Int} (w : s.on = 0 ∧ s.off = 0 ∧ s.mon = 0 ∧ s.mof = 0 ∧ s.time = 0 ∧ s.next = 0 ∧ s.back = 0) (hk : k < s.exits.length) (hf : ∀ j,j < k → exAt m s.exits j = 0) (he : exAt m s.exits k = e) (h0 : ¬ e = 0) : steadyE m s = e := by
 unfold steadyE
 rw [if_neg (fun h=>h w),scan_at hk hf (by rw [he]; exact h0)]
 show (if exAt m s.exits k ≠ 0 then exAt m s.exits k else _) = e
 rw [he,if_pos h0]
theorem steady_end {m : Nat} {s : Stp} (w : s.on = 0 ∧ s.off = 0 ∧ s.mon = 0 ∧ s.mof = 0 ∧ s.time = 0 ∧ s.next = 0 ∧ s.back = 0) (hf : ∀ j,j < s.exits.length → exAt m s.exits j = 0) : steadyE m s = if hasI s.exits s.home || (decide (s.exits.length = 0) && decide (s.home = 0)) then 0 else 21 := by
  unfold steadyE
  rw [if_neg (fun h=>h w),scan_all hf,if_neg (fun h=>h rfl)]
theorem S117 (p : Pln) (s : Stp) (hm : p.steps.length ≤ 1000) (he : s.exits.length ≤ 1000) : SP 117 [planA p,stepA s] (i64 (steadyE p.steps.length s)) false := by
 have h68 := @S62_1 p hm
 have h94 := S77 s.exits (by omega) s.home
 refine sound (d := 2) tok2 mixed2 Tryz.func117 (by kernel_rfl) (by kernel_rfl) ?_
 (conv=>whnf); refine ifB_not ?_
 (conv=>whnf); refine ifB_intro (fun w1=>?_) (fun w1=>?_)
 ·have w := w1
  rw [veq7] at w
  (conv=>whnf); refine ⟨[],[2,3,29,30,31],fun st mq=>∃ (k : Nat) (F2 : Nat → List AV),(k ≤ s.exits.length) ∧ (∀ j,j < k → exAt p.steps.length s.exits j = 0) ∧ st = ⟨[(2,.optr 0 0 0 0),(3,.optr 1 0 0 0),(29,ints s.exits),(30,i64 s.exits.length),(31,i64 k)],⟨[⟨3,1,fun _=>planC p,0,false,true,true⟩,⟨14,1,fun _=>stpC s,0,false,true,true⟩,⟨7,1,F2,0,false,true,false⟩],[],none,0⟩,[]⟩ ∧ mq = s.exits.length - k,
   ⟨_,_,⟨0,_,by omega,inv_none,rfl,rfl⟩,⟨⟨.inl rfl,rfl,rfl,rfl⟩,⟨bA,⟨bA,⟨bA,trivial⟩⟩⟩,trivial⟩⟩,?_⟩
  rintro s0 m0 ⟨k,F2,hk,hf,rfl,hmeas⟩
  by_cases hlt : k < s.exits.length
  ·have hx : ∀ (b : Bool),(b = true ↔ (k = 0 ∨ s.exits.getD k 0 > s.exits.getD (k - 1) 0)) → firstOf [idxsE p.steps.length [s.exits.getD k 0],if b then 0 else 9] = exAt p.steps.length s.exits k := fun b hb=>by
    rw [first2,idxs1]
    unfold exAt
    by_cases h : k = 0 ∨ s.exits.getD k 0 > s.exits.getD (k - 1) 0
    ·rw [if_pos h,if_pos (hb.2 h)]
    ·rw [if_neg h,if_neg (fun e=>h (hb.1 e))]
   conv=>whnf
   (conv=>whnf); refine ifB_dec (fun w2=>?_) (fun w2=>?_)
   ·conv=>whnf
    (conv=>whnf); refine ⟨⟨(by omega),(by omega)⟩,?_⟩
    conv=>whnf
    (conv=>whnf); refine .inl ⟨_,_,byX rfl (Sound1.pl (h68 _ rfl) rfl),?_⟩
    conv=>whnf
    (conv=>whnf); refine ifB_beq (fun w3=>?_) (fun w3=>?_)
    ·conv=>whnf
     (conv=>whnf); refine .inl ⟨_,_,byX rfl (Sound1.pl (S45 _ _) rfl),?_⟩
     conv=>whnf
     (conv=>whnf); refine .inl ⟨_,_,byX rfl (Sound1.pl (S57_2 _ _ ⟨rfl,rfl⟩) rfl),?_⟩
     conv=>whnf
     (conv=>whnf); refine ifB_bne (fun w4=>?_) (fun w4=>?_)
     ·conv=>whnf
      (conv=>whnf); refine ⟨?_,nofun⟩
      refine endi (Eq.trans ?_ (steady_bad w hlt hf (hx true (by simp; omega)).symm w4).symm)
      rfl
     ·conv=>whnf
      (conv=>whnf); refine ⟨inK64 (by omega) (by omega),?_⟩
      conv=>whnf
      (conv=>whnf); refine ⟨_,_,⟨⟨k + 1,_,by omega,inv_next hf ((hx true (by simp; omega)).symm.trans w4),rfl,rfl⟩,by omega⟩,⟨⟨.inl rfl,rfl,rfl,rfl⟩,⟨bA,⟨bA,⟨bA,trivial⟩⟩⟩,trivial⟩⟩
    ·conv=>whnf
     (conv=>whnf); refine ⟨inK64 (by omega) (by omega),?_⟩
     conv=>whnf
     (conv=>whnf); refine ⟨⟨(by omega),(by omega)⟩,?_⟩
     conv=>whnf
     (conv=>whnf); refine .inl ⟨_,_,byX rfl (Sound1.pl (S45 _ _) rfl),?_⟩
     conv=>whnf
     (conv=>whnf); refine .inl ⟨_,_,byX rfl (Sound1.pl (S57_2 _ _ ⟨rfl,rfl⟩) rfl),?_⟩
     conv=>whnf
     (conv=>whnf); refine ifB_bne (fun w4=>?_) (fun w4=>?_)
     ·conv=>whnf
      (conv=>whnf); refine ⟨?_,nofun⟩
      have e2 : (if (k : Int) - 1 > 0 then (k : Int) - 1 else 0).toNat = k - 1 := by split <;> omega
      have hv : firstOf [idxsE p.steps.length [s.exits.getD (k : Int).toNat 0],if decide (s.exits.getD (k : Int).toNat 0 > s.exits.getD (if (k : Int) - 1 > 0 then (k : Int) - 1 else 0).toNat 0) = true then 0 else 9] = exAt p.steps.length s.exits k := by
       rw [e2]
       exact hx (decide (s.exits.getD k 0 > s.exits.getD (k - 1) 0)) (by simp; omega)
      refine endi (Eq.trans hv (steady_bad w hlt hf rfl ?_).symm)
      rw [← hv]; exact w4
     ·conv=>whnf
      (conv=>whnf); refine ⟨inK64 (by omega) (by omega),?_⟩
      have e2 : (if (k : Int) - 1 > 0 then (k : Int) - 1 else 0).toNat = k - 1 := by split <;> omega
      rw [e2] at w4
      conv=>whnf
      (conv=>whnf); refine ⟨_,_,⟨⟨k + 1,_,by omega,inv_next hf ((hx (decide (s.exits.getD k 0 > s.exits.getD (k - 1) 0)) (by simp; omega)).symm.trans w4),rfl,rfl⟩,by omega⟩,⟨⟨.inl rfl,rfl,rfl,rfl⟩,⟨bA,⟨bA,⟨bA,trivial⟩⟩⟩,trivial⟩⟩
   ·(exfalso; omega)
  ·have e : k = s.exits.length := by omega
   have hst := steady_end w (by rw [e] at hf; exact hf)
   conv=>whnf
   (conv=>whnf); refine ifB_dec (fun w2=>?_) (fun w2=>?_)
   ·(exfalso; omega)
   ·conv=>whnf
    (conv=>whnf); refine .inl ⟨_,_,byX rfl (Sound1.pl (h94) rfl),?_⟩
    conv=>whnf
    (conv=>whnf); refine ifB_intro (fun w3=>?_) (fun w3=>?_)
    ·conv=>whnf
     (conv=>whnf); refine .inl ⟨_,_,byX rfl (Sound1.pl (S45 _ _) rfl),?_⟩
     conv=>whnf
     (conv=>whnf); refine ⟨?_,nofun⟩
     refine endi (Eq.trans ?_ hst.symm)
     rw [show hasI s.exits s.home = true from w3]; rfl
    ·conv=>whnf
     (conv=>whnf); refine ifB_beq (fun w4=>?_) (fun w4=>?_)
     ·conv=>whnf
      (conv=>whnf); refine .inl ⟨_,_,byX rfl (Sound1.pl (S45 _ _) rfl),?_⟩
      conv=>whnf
      (conv=>whnf); refine ⟨?_,nofun⟩
      refine endi (Eq.trans ?_ hst.symm)
      have h0 : s.exits.length = 0 := by omega
      rw [show hasI s.exits s.home = false from w3,decide_eq_true h0]
      simp
     ·conv=>whnf
      (conv=>whnf); refine .inl ⟨_,_,byX rfl (Sound1.pl (S45 _ _) rfl),?_⟩
      conv=>whnf
      (conv=>whnf); refine ⟨?_,nofun⟩
      refine endi (Eq.trans ?_ hst.symm)
      have h0 : ¬ s.exits.length = 0 := by omega
      rw [show hasI s.exits s.home = false from w3,decide_eq_false h0]; rfl
 ·(conv=>whnf); refine ⟨?_,nofun⟩
  refine endi (b := steadyE _ _) ?_
  unfold steadyE
  rw [if_pos]
  intro h
  rw [veq7.2 h] at w1
  cases w1
theorem S118 (p : Pln) (s : Stp) (hn : p.sig.length ≤ 7) (hm : p.steps.length ≤ 1000) : SP 118 [planA p,stepA s] (i64 (movingE p.sig.length p.steps.length s)) false := by
 have h68 := @S62_2 p hm s.next s.back
 have h98 := @S86_4 p hn s.on s.off s.mon s.mof
 refine sound (d := 2) tok2 mixed2 Tryz.func118 (by kernel_rfl) (by kernel_rfl) ?_
 (conv=>whnf); refine ⟨[],by kernel_rfl,?_⟩
 (conv=>whnf); refine ifB_not ?_
 (conv=>whnf); refine ifB_intro (fun w1=>?_) (fun w1=>?_)
 ·(conv=>whnf); refine .inl ⟨_,_,byX rfl (Sound1.pl (S45 _ _) rfl),?_⟩
  (conv=>whnf); refine .inl ⟨_,_,byX rfl (Sound1.pl (h98 ⟨rfl,rfl,rfl,rfl⟩) rfl),?_⟩
  (conv=>whnf); refine ifB_beq (fun w2=>?_) (fun w2=>?_)
  ·(conv=>whnf); refine .inl ⟨_,_,byX rfl (Sound1.pl (S45 _ _) rfl),?_⟩
   (conv=>whnf); refine .inl ⟨_,_,byX rfl (Sound1.pl (S59 _ _ _) rfl),?_⟩
   (conv=>whnf); refine .inl ⟨_,_,byX rfl (Sound1.pl (S45 _ _) rfl),?_⟩
   (conv=>whnf); refine .inl ⟨_,_,byX rfl (Sound1.pl (h68 ⟨rfl,rfl⟩) rfl),?_⟩
   (conv=>whnf); refine .inl ⟨_,_,byX rfl (Sound1.pl (S57_5 _ _ _ _ _ ⟨rfl,rfl,rfl,rfl,rfl⟩) rfl),?_⟩
   (conv=>whnf); refine ⟨?_,nofun⟩
   show i64 (firstOf _) = i64 (movingE _ _ _)
   unfold movingE; simp_all
  ·(conv=>whnf); refine .inl ⟨_,_,byX rfl (Sound1.pl (S45 _ _) rfl),?_⟩
   (conv=>whnf); refine .inl ⟨_,_,byX rfl (Sound1.pl (S59 _ _ _) rfl),?_⟩
   (conv=>whnf); refine .inl ⟨_,_,byX rfl (Sound1.pl (S45 _ _) rfl),?_⟩
   (conv=>whnf); refine .inl ⟨_,_,byX rfl (Sound1.pl (h68 ⟨rfl,rfl⟩) rfl),?_⟩
   (conv=>whnf); refine .inl ⟨_,_,byX rfl (Sound1.pl (S57_5 _ _ _ _ _ ⟨rfl,rfl,rfl,rfl,rfl⟩) rfl),?_⟩
   (conv=>whnf); refine ⟨?_,nofun⟩
   show i64 (firstOf _) = i64 (movingE _ _ _)
   unfold movingE; simp_all
 ·(conv=>whnf); refine ifB_beq (fun w2=>?_) (fun w2=>?_)
  ·(conv=>whnf); refine .inl ⟨_,_,byX rfl (Sound1.pl (S45 _ _) rfl),?_⟩
   (conv=>whnf); refine .inl ⟨_,_,byX rfl (Sound1.pl (h98 ⟨rfl,rfl,rfl,rfl⟩) rfl),?_⟩
   (conv=>whnf); refine ifB_beq (fun w3=>?_) (fun w3=>?_)
   ·(conv=>whnf); refine .inl ⟨_,_,byX rfl (Sound1.pl (S45 _ _) rfl),?_⟩
    (conv=>whnf); refine .inl ⟨_,_,byX rfl (Sound1.pl (S59 _ _ _) rfl),?_⟩
    (conv=>whnf); refine .inl ⟨_,_,byX rfl (Sound1.pl (S45 _ _) rfl),?_⟩
    (conv=>whnf); refine .inl ⟨_,_,byX rfl (Sound1.pl (h68 ⟨rfl,rfl⟩) rfl),?_⟩
    (conv=>whnf); refine .inl ⟨_,_,byX rfl (Sound1.pl (S57_5 _ _ _ _ _ ⟨rfl,rfl,rfl,rfl,rfl⟩) rfl),?_⟩
    (conv=>whnf); refine ⟨?_,nofun⟩
    show i64 (firstOf _) = i64 (movingE _ _ _)
    unfold movingE; simp_all
   ·(conv=>whnf); refine .inl ⟨_,_,byX rfl (Sound1.pl (S45 _ _) rfl),?_⟩
    (conv=>whnf); refine .inl ⟨_,_,byX rfl (Sound1.pl (S59 _ _ _) rfl),?_⟩
    (conv=>whnf); refine .inl ⟨_,_,byX rfl (Sound1.pl (S45 _ _) rfl),?_⟩
    (conv=>whnf); refine .inl ⟨_,_,byX rfl (Sound1.pl (h68 ⟨rfl,rfl⟩) rfl),?_⟩
    (conv=>whnf); refine .inl ⟨_,_,byX rfl (Sound1.pl (S57_5 _ _ _ _ _ ⟨rfl,rfl,rfl,rfl,rfl⟩) rfl),?_⟩
    (conv=>whnf); refine ⟨?_,nofun⟩
    show i64 (firstOf _) = i64 (movingE _ _ _)
    unfold movingE; simp_all
  ·(conv=>whnf); refine .inl ⟨_,_,byX rfl (Sound1.pl (S45 _ _) rfl),?_⟩
   (conv=>whnf); refine .inl ⟨_,_,byX rfl (Sound1.pl (h98 ⟨rfl,rfl,rfl,rfl⟩) rfl),?_⟩
   (conv=>whnf); refine ifB_beq (fun w3=>?_) (fun w3=>?_)
   ·(conv=>whnf); refine .inl ⟨_,_,byX rfl (Sound1.pl (S45 _ _) rfl),?_⟩
    (conv=>whnf); refine .inl ⟨_,_,byX rfl (Sound1.pl (S59 _ _ _) rfl),?_⟩
    (conv=>whnf); refine .inl ⟨_,_,byX rfl (Sound1.pl (S45 _ _) rfl),?_⟩
    (conv=>whnf); refine .inl ⟨_,_,byX rfl (Sound1.pl (h68 ⟨rfl,rfl⟩) rfl),?_⟩
    (conv=>whnf); refine .inl ⟨_,_,byX rfl (Sound1.pl (S57_5 _ _ _ _ _ ⟨rfl,rfl,rfl,rfl,rfl⟩) rfl),?_⟩
    (conv=>whnf); refine ⟨?_,nofun⟩
    show i64 (firstOf _) = i64 (movingE _ _ _)
    unfold movingE; simp_all
   ·(conv=>whnf); refine .inl ⟨_,_,byX rfl (Sound1.pl (S45 _ _) rfl),?_⟩
    (conv=>whnf); refine .inl ⟨_,_,byX rfl (Sound1.pl (S59 _ _ _) rfl),?_⟩
    (conv=>whnf); refine .inl ⟨_,_,byX rfl (Sound1.pl (S45 _ _) rfl),?_⟩
    (conv=>whnf); refine .inl ⟨_,_,byX rfl (Sound1.pl (h68 ⟨rfl,rfl⟩) rfl),?_⟩
    (conv=>whnf); refine .inl ⟨_,_,byX rfl (Sound1.pl (S57_5 _ _ _ _ _ ⟨rfl,rfl,rfl,rfl,rfl⟩) rfl),?_⟩
    (conv=>whnf); refine ⟨?_,nofun⟩
    show i64 (firstOf _) = i64 (movingE _ _ _)
    unfold movingE; simp_all

theorem steady_form {m : Nat} {s : Stp} (h : ¬ (s.on = 0 ∧ s.off = 0 ∧ s.mon = 0 ∧ s.mof = 0 ∧ s.time = 0 ∧ s.next = 0 ∧ s.back = 0)) : steadyE m s = 3 := by
  unfold steadyE
  rw [if_pos h]
theorem moving_form (n m : Nat) (s : Stp) : movingE n m s = if s.safe = true then 3 else if ¬ s.home = 0 then 3 else if ¬ s.exits.length = 0 then 3 else
  if ¬ firstOf [setE n s.on,setE n s.off,setE n s.mon,setE n s.mof] = 0 then firstOf [setE n s.on,setE n s.off,setE n s.mon,setE n s.mof] else
  if ¬ bitI .and .i64 s.on s.off = 0 then 13 else if ¬ bitI .and .i64 s.mon s.mof = 0 then 13 else
  if 1 ≤ s.time ∧ s.time ≤ s.wait then firstOf [idxE m s.next,idxE m s.back] else 2 := by
 unfold movingE
 rw [sets4,idxs2]
 unfold firstOf
 cases s.safe with
 | true=>simp
 | false =>
  by_cases h1 : s.home = 0
  ·by_cases h2 : s.exits.length = 0
   ·simp [h1,h2,firstOf]
    repeat' split
    all_goals simp_all
   ·simp [h1,h2]
  ·simp [h1]
theorem S72 (p : Pln) (s : Stp) (hm : p.steps.length ≤ 1000) (he : s.exits.length ≤ 1000) : SP 72 [planA p, stepA s] (i64 (steadyE p.steps.length s)) false := by
 have h21 := S71 p hm
 have h93 := S43 s.exits (by omega) s.home
 refine sound (d := 2) tok2 mixed2 Tryz.func72 (by kernel_rfl) (by kernel_rfl) ?_
 by_cases w : s.on = 0 ∧ s.off = 0 ∧ s.mon = 0 ∧ s.mof = 0 ∧ s.time = 0 ∧ s.next = 0 ∧ s.back = 0
 ·obtain ⟨q1, q2, q3, q4, q5, q6, q7⟩ := w
  have w : s.on = 0 ∧ s.off = 0 ∧ s.mon = 0 ∧ s.mof = 0 ∧ s.time = 0 ∧ s.next = 0 ∧ s.back = 0 := ⟨q1,q2,q3,q4,q5,q6,q7⟩
  (conv=>whnf); refine ifB_bne (fun w1=>?_) (fun w1=>?_)
  ·(exfalso; omega)
  ·(conv => whnf); refine ifB_bne (fun w2 => ?_) (fun w2 => ?_)
   ·(exfalso; omega)
   ·(conv => whnf); refine ifB_bne (fun w3 => ?_) (fun w3 => ?_)
    ·(exfalso; omega)
    ·(conv => whnf); refine ifB_bne (fun w4 => ?_) (fun w4 => ?_)
     ·(exfalso; omega)
     ·(conv => whnf); refine ifB_bne (fun w5 => ?_) (fun w5 => ?_)
      ·(exfalso; omega)
      ·(conv => whnf); refine ifB_bne (fun w6 => ?_) (fun w6 => ?_)
       ·(exfalso; omega)
       ·(conv => whnf); refine ifB_bne (fun w7 => ?_) (fun w7 => ?_)
        ·(exfalso; omega)
        ·(conv=>whnf); refine ⟨[],[2,3,5],fun st mq=>∃ (k : Nat),(k ≤ s.exits.length) ∧ (∀ j,j < k → exAt p.steps.length s.exits j = 0) ∧ st = ⟨[(2,.optr 0 0 0 0),(3,.optr 1 0 0 0),(5,i64 k)],⟨[⟨3,1,fun _=>planC p,0,false,true,true⟩,⟨14,1,fun _=>stpC s,0,false,true,true⟩],[],none,0⟩,[]⟩ ∧ mq = s.exits.length - k,
          ⟨_,_,⟨0,by omega,inv_none,rfl,rfl⟩,⟨⟨.inl rfl,rfl,rfl,rfl⟩,⟨bA,⟨bA,trivial⟩⟩,trivial⟩⟩,?_⟩
         rintro s0 m0 ⟨k,hk,hf,rfl,hmeas⟩
         by_cases hlt : k < s.exits.length
         ·have e2 : 0 < k → ((k : Int) - 1).toNat = k - 1 := by omega
          conv=>whnf
          (conv=>whnf); refine ifB_dec (fun w8=>?_) (fun w8=>?_)
          ·conv=>whnf
           (conv=>whnf); refine ⟨[],by kernel_rfl,?_⟩
           conv=>whnf
           (conv=>whnf); refine ⟨⟨(by omega),(by omega)⟩,?_⟩
           conv=>whnf
           (conv=>whnf); refine .inl ⟨_,_,byX rfl (Sound1.pl (h21 _) rfl),?_⟩
           conv=>whnf
           (conv=>whnf); refine ifB_bne (fun w9=>?_) (fun w9=>?_)
           ·conv=>whnf
            (conv=>whnf); refine ⟨?_,nofun⟩
            exact endi (steady_bad w hlt hf (if_pos w9) w9).symm
           ·conv=>whnf
            (conv=>whnf); refine ⟨[],by kernel_rfl,?_⟩
            conv=>whnf
            (conv=>whnf); refine ifB_dec (fun w10=>?_) (fun w10=>?_)
            ·conv=>whnf
             (conv=>whnf); refine ⟨⟨(by omega),(by omega)⟩,?_⟩
             conv=>whnf
             (conv=>whnf); refine ⟨inK64 (by omega) (by omega),?_⟩
             conv=>whnf
             (conv=>whnf); refine ⟨⟨(by omega),(by omega)⟩,?_⟩
             conv=>whnf
             (conv=>whnf); refine ifB_dec (fun w11=>?_) (fun w11=>?_)
             ·conv=>whnf
              (conv=>whnf); refine ⟨?_,nofun⟩
              have hk0 : 0 < k := by omega
              have w9 : idxE p.steps.length (s.exits.getD k 0) = 0 := w9
              rw [e2 hk0] at w11
              have w11 : s.exits.getD k 0 ≤ s.exits.getD (k - 1) 0 := w11
              exact endi (steady_bad w hlt hf ((exAt_zero w9).trans (if_neg (by omega))) (by decide)).symm
             ·conv=>whnf
              (conv=>whnf); refine ⟨inK64 (by omega) (by omega),?_⟩
              have hk0 : 0 < k := by omega
              have w9 : idxE p.steps.length (s.exits.getD k 0) = 0 := w9
              rw [e2 hk0] at w11
              have w11 : ¬ s.exits.getD k 0 ≤ s.exits.getD (k - 1) 0 := w11
              conv=>whnf
              (conv=>whnf); refine ⟨_,_,⟨⟨k + 1,by omega,inv_next hf ((exAt_zero w9).trans (if_pos (by omega))),rfl,rfl⟩,by omega⟩,⟨⟨.inl rfl,rfl,rfl,rfl⟩,⟨bA,⟨bA,trivial⟩⟩,trivial⟩⟩
            ·conv=>whnf
             (conv=>whnf); refine ⟨inK64 (by omega) (by omega),?_⟩
             conv=>whnf
             (conv=>whnf); refine ⟨_,_,⟨⟨k + 1,by omega,inv_next hf ((exAt_zero w9).trans (if_pos (by omega))),rfl,rfl⟩,by omega⟩,⟨⟨.inl rfl,rfl,rfl,rfl⟩,⟨bA,⟨bA,trivial⟩⟩,trivial⟩⟩
          ·(exfalso; omega)
         ·have e : k = s.exits.length := by omega
          have hst := steady_end w (by rw [e] at hf; exact hf)
          conv=>whnf
          (conv=>whnf); refine ifB_dec (fun w8=>?_) (fun w8=>?_)
          ·(exfalso; omega)
          ·conv=>whnf
           (conv=>whnf); refine ifB_beq (fun w9=>?_) (fun w9=>?_)
           ·conv=>whnf
            (conv=>whnf); refine ifB_bne (fun w10=>?_) (fun w10=>?_)
            ·conv=>whnf
             (conv=>whnf); refine ⟨?_,nofun⟩
             have e0 : s.exits = [] := List.length_eq_zero_iff.1 (by omega)
             refine endi (Eq.trans ?_ hst.symm)
             rw [e0]; simp [hasI,w10]
            ·conv=>whnf
             (conv=>whnf); refine ifB_dec (fun w11=>?_) (fun w11=>?_)
             ·(exfalso; omega)
             ·conv=>whnf
              (conv=>whnf); refine ⟨?_,nofun⟩
              have e0 : s.exits = [] := List.length_eq_zero_iff.1 (by omega)
              refine endi (Eq.trans ?_ hst.symm)
              rw [e0]; simp [hasI,w10]
           ·conv=>whnf
            (conv=>whnf); refine ifB_dec (fun w10=>?_) (fun w10=>?_)
            ·conv=>whnf
             (conv=>whnf); refine .inl ⟨_,_,byX rfl (Sound1.pl (h93) rfl),?_⟩
             conv=>whnf
             (conv=>whnf); refine ifB_not ?_
             conv=>whnf
             (conv=>whnf); refine ifB_intro (fun w11=>?_) (fun w11=>?_)
             ·conv=>whnf
              (conv=>whnf); refine ⟨?_,nofun⟩
              refine endi (Eq.trans ?_ hst.symm)
              rw [show hasI s.exits s.home = true by first | exact w10 | exact w11 | exact w12]; rfl
             ·conv=>whnf
              (conv=>whnf); refine ⟨?_,nofun⟩
              refine endi (Eq.trans ?_ hst.symm)
              have h0 : ¬ s.exits.length = 0 := by omega
              rw [show hasI s.exits s.home = false by first | exact w10 | exact w11 | exact w12,decide_eq_false h0]; rfl
            ·(exfalso; omega)
 ·have hst := steady_form (m := p.steps.length) w
  (conv=>whnf); refine ifB_bne (fun w1=>?_) (fun w1=>?_)
  ·(conv=>whnf); refine ⟨?_,nofun⟩
   (exact congrArg (fun x=>i64 x) hst.symm)
  ·(conv => whnf); refine ifB_bne (fun w2 => ?_) (fun w2 => ?_)
   ·(conv=>whnf); refine ⟨?_,nofun⟩
    (exact congrArg (fun x=>i64 x) hst.symm)
   ·(conv=>whnf); refine ifB_bne (fun w3=>?_) (fun w3=>?_)
    ·(conv=>whnf); refine ⟨?_,nofun⟩
     (exact congrArg (fun x=>i64 x) hst.symm)
    ·(conv=>whnf); refine ifB_bne (fun w4=>?_) (fun w4=>?_)
     ·(conv=>whnf); refine ⟨?_,nofun⟩
      (exact congrArg (fun x=>i64 x) hst.symm)
     ·(conv=>whnf); refine ifB_bne (fun w5=>?_) (fun w5=>?_)
      ·(conv=>whnf); refine ⟨?_,nofun⟩
       (exact congrArg (fun x=>i64 x) hst.symm)
      ·(conv=>whnf); refine ifB_bne (fun w6=>?_) (fun w6=>?_)
       ·(conv=>whnf); refine ⟨?_,nofun⟩
        (exact congrArg (fun x=>i64 x) hst.symm)
       ·(conv=>whnf); refine ifB_bne (fun w7=>?_) (fun w7=>?_)
        ·(conv=>whnf); refine ⟨?_,nofun⟩
         (exact congrArg (fun x=>i64 x) hst.symm)
        ·(exfalso; omega)
theorem S73 (p : Pln) (s : Stp) (hn : p.sig.length ≤ 7) (hm : p.steps.length ≤ 1000) : SP 73 [planA p, stepA s] (i64 (movingE p.sig.length p.steps.length s)) false := by
 have h21 := S71 p hm
 have h105 := S69 p hn
 refine sound (d := 2) tok2 mixed2 Tryz.func73 (by kernel_rfl) (by kernel_rfl) ?_
 have h41 := S28 s.time 1 s.wait
 (conv=>whnf); refine ifB_intro (fun w1=>?_) (fun w1=>?_)
 ·(conv=>whnf); refine ⟨?_,nofun⟩
  refine endi (Eq.trans ?_ (moving_form p.sig.length p.steps.length s).symm)
  simp_all
 ·(conv => whnf); refine ifB_bne (fun w2 => ?_) (fun w2 => ?_)
  ·(conv=>whnf); refine ⟨?_,nofun⟩
   refine endi (Eq.trans ?_ (moving_form p.sig.length p.steps.length s).symm)
   simp_all
  ·(conv=>whnf); refine ifB_dec (fun w3=>?_) (fun w3=>?_)
   ·(conv=>whnf); refine ⟨?_,nofun⟩
    refine endi (Eq.trans ?_ (moving_form p.sig.length p.steps.length s).symm)
    have h0 : ¬ s.exits.length = 0 := by omega
    simp_all
   ·(conv=>whnf); refine ⟨[],by kernel_rfl,?_⟩
    (conv=>whnf); refine .inl ⟨_,_,byX rfl (Sound1.pl (h105 _) rfl),?_⟩
    (conv=>whnf); refine .inl ⟨_,_,byX rfl (Sound1.pl (h105 _) rfl),?_⟩
    (conv=>whnf); refine .inl ⟨_,_,byX rfl (Sound1.pl (h105 _) rfl),?_⟩
    (conv=>whnf); refine .inl ⟨_,_,byX rfl (Sound1.pl (h105 _) rfl),?_⟩
    (conv=>whnf); refine .inl ⟨_,_,byX rfl (Sound1.pl (S70_4 _ _ _ _ ⟨rfl,rfl,rfl,rfl⟩) rfl),?_⟩
    (conv=>whnf); refine ifB_bne (fun w4=>?_) (fun w4=>?_)
    ·(conv=>whnf); refine ⟨?_,nofun⟩
     refine endi (Eq.trans ?_ (moving_form p.sig.length p.steps.length s).symm)
     simp_all
    ·(conv=>whnf); refine ifB_bne (fun w5=>?_) (fun w5=>?_)
     ·(conv=>whnf); refine ⟨?_,nofun⟩
      refine endi (Eq.trans ?_ (moving_form p.sig.length p.steps.length s).symm)
      simp_all
     ·(conv=>whnf); refine ifB_bne (fun w6=>?_) (fun w6=>?_)
      ·(conv=>whnf); refine ⟨?_,nofun⟩
       refine endi (Eq.trans ?_ (moving_form p.sig.length p.steps.length s).symm)
       simp_all
      ·(conv=>whnf); refine .inl ⟨_,_,byX rfl (Sound1.pl (h41) rfl),?_⟩
       (conv=>whnf); refine ifB_not ?_
       (conv=>whnf); refine ifB_dec (fun w7=>?_) (fun w7=>?_)
       ·(conv=>whnf); refine ⟨[],by kernel_rfl,?_⟩
        (conv=>whnf); refine .inl ⟨_,_,byX rfl (Sound1.pl (h21 _) rfl),?_⟩
        (conv=>whnf); refine .inl ⟨_,_,byX rfl (Sound1.pl (h21 _) rfl),?_⟩
        (conv=>whnf); refine .inl ⟨_,_,byX rfl (Sound1.pl (S70_2 _ _ ⟨rfl,rfl⟩) rfl),?_⟩
        (conv=>whnf); refine ⟨?_,nofun⟩
        refine endi (Eq.trans ?_ (moving_form p.sig.length p.steps.length s).symm)
        simp_all
       ·(conv=>whnf); refine ⟨?_,nofun⟩
        refine endi (Eq.trans ?_ (moving_form p.sig.length p.steps.length s).symm)
        simp_all
        intros; omega
end Go.Tr

/- Contracts of chapter 7: which plans are valid, by the program and by the reference. Conditions: none. -/
namespace Go.Tr
open Go Go.Proofs
set_option maxRecDepth 20000
set_option maxHeartbeats 8000000

theorem toList_loop (bs : ByteArray) : ∀ (n i : Nat) (r : List UInt8),n = bs.size - i → ByteArray.toList.loop bs i r = r.reverse ++ bs.data.toList.drop i := by
 intro n
 induction n with
 | zero =>
  intro i r h
  unfold ByteArray.toList.loop
  have hz : bs.data.toList.length = bs.size := rfl
  rw [if_neg (by omega),List.drop_of_length_le (by omega),List.append_nil]
 | succ n ih =>
  intro i r h
  unfold ByteArray.toList.loop
  have hz : bs.data.toList.length = bs.size := rfl
  rw [if_pos (by omega),ih (i + 1) _ (by omega),List.drop_eq_getElem_cons (show i < bs.data.toList.length by omega)]
  have : bs.get! i = bs.data.toList[i]'(by omega) := by
   show bs.data[i]! = _
   rw [getElem!_pos bs.data i (by show i < bs.size; omega)]
   rfl
  rw [this]; simp
theorem toList_eq (bs : ByteArray) : bs.toList = bs.data.toList := by
  unfold ByteArray.toList
  rw [toList_loop bs (bs.size) 0 [] (by omega)]; simp
theorem toList_inj {a b : ByteArray} : a.toList = b.toList ↔ a = b := by
  rw [toList_eq,toList_eq]
  exact ⟨fun h=>by cases a; cases b; simp at h; simp [h],fun h=>by rw [h]⟩
theorem keyS (a b : ByteArray) : opEv.keyEq (.string a) (.string b) = (b.toList == a.toList) := by
 have h : (a == b) = true ↔ a = b := by
  cases a with | mk a=>cases b with | mk b =>
  show (a == b) = true ↔ _
  rw [beq_iff_eq]
  exact ⟨fun h=>h ▸ rfl,fun h=>by cases h; rfl⟩
 show (a == b) = _
 rw [Bool.eq_iff_iff,h,beq_iff_eq,toList_inj]
 exact ⟨fun h=>h.symm,fun h=>h.symm⟩
theorem bif_vb (b x y : Bool) : vb (bif b then x else y) = bif b then vb x else vb y := by cases b <;> rfl
theorem ave_tup2 {k : Nat} {a b a' b' : AV} (ha : AVE k a a') (hb : AVE k b b') : AVE (k + 1) (.tuple [a,b]) (.tuple [a',b']) := by
 refine ⟨rfl,fun i x y h1 h2=>?_⟩
 match i,h1,h2 with
 | 0,h1,h2=>cases h1; cases h2; exact ha
 | 1,h1,h2=>cases h1; cases h2; exact hb

theorem S103t (l : List ByteArray) (hl : l.length ≤ 9223372036854775807) (x : ByteArray) {k : Nat} (hk : k ≤ l.length) {f : Nat → List AV} (h : ∀ i,f i = [sv (l.getD i ByteArray.empty)]) : SP 103 [.rslice 1 k f,sv x] (vb (hasS (l.take k) x)) false := by
 have h1 : (l.take k).length = k := by simp; omega
 have key : ∀ i,i < k → f i = [sv ((l.take k).getD i ByteArray.empty)] := fun i hi=>by
  rw [h i]
  simp [List.getD,hi]
 refine (S103 (l.take k) (by omega) x).argsD rfl fun i y z hy hz=>?_
 match i,hy,hz with
 | 0,hy,hz=>cases hy; cases hz; exact .inr ⟨1,AVF_rows h1.symm key 0⟩
 | 1,hy,hz=>cases hy; cases hz; exact .inl rfl
theorem S101t (l : List ByteArray) (hl : l.length ≤ 9223372036854775807) (x : ByteArray) {k : Nat} (hk : k ≤ l.length) {f : Nat → List AV} (h : ∀ i,f i = [sv (l.getD i ByteArray.empty)]) : SP 101 [.rslice 1 k f,sv x] (vb (hasS (l.take k) x)) false := by
 have h1 : (l.take k).length = k := by simp; omega
 have key : ∀ i,i < k → f i = [sv ((l.take k).getD i ByteArray.empty)] := fun i hi=>by
  rw [h i]
  simp [List.getD,hi]
 refine (S101 (l.take k) (by omega) x).argsD rfl fun i y z hy hz=>?_
 match i,hy,hz with
 | 0,hy,hz=>cases hy; cases hz; exact .inr ⟨1,AVF_rows h1.symm key 0⟩
 | 1,hy,hz=>cases hy; cases hz; exact .inl rfl

structure FewP (p : Pln) : Prop where
 sig : p.sig.length ≤ 7
 steps : p.steps.length ≤ 12
 size : ∀ i,i < p.sig.length → (p.sig.getD i ByteArray.empty).size ≤ 30
 name : ∀ i,i < p.steps.length → (p.steps.getD i stp0).name.size ≤ 30
 exits : ∀ i,i < p.steps.length → (p.steps.getD i stp0).exits.length ≤ 12

def nameE (s : ByteArray) (seen : Bool) : Int := firstOf [if nameB s then 0 else 4,if !seen then 0 else 5]
def stepE (p : Pln) (s : Stp) (seen : Bool) : Int :=
 if firstOf [if nameB s.name then 0 else 4,if !seen then 0 else 5,setsE p.sig.length [s.needs],idxsE p.steps.length [s.trip],if decide (0 ≤ s.wait ∧ s.wait ≤ 10000) then 0 else 2] ≠ 0 then
  firstOf [if nameB s.name then 0 else 4,if !seen then 0 else 5,setsE p.sig.length [s.needs],idxsE p.steps.length [s.trip],if decide (0 ≤ s.wait ∧ s.wait ≤ 10000) then 0 else 2]
 else if s.wait = 0 then steadyE p.steps.length s else movingE p.sig.length p.steps.length s
theorem step_form (p : Pln) (s : Stp) (seen : Bool) : stepE p s seen = if ¬ firstOf [nameE s.name seen,setE p.sig.length s.needs,idxE p.steps.length s.trip] = 0 then firstOf [nameE s.name seen,setE p.sig.length s.needs,idxE p.steps.length s.trip]
  else if 0 ≤ s.wait ∧ s.wait ≤ 10000 then (if s.wait = 0 then steadyE p.steps.length s else movingE p.sig.length p.steps.length s) else 2 := by
 unfold stepE nameE
 rw [sets1,idxs1]
 generalize (if nameB s.name = true then (0 : Int) else 4) = A
 generalize (if (!seen) = true then (0 : Int) else 5) = B
 generalize setE p.sig.length s.needs = C
 generalize idxE p.steps.length s.trip = D
 by_cases h : 0 ≤ s.wait ∧ s.wait ≤ 10000
 ·rw [if_pos h,decide_eq_true h]
  unfold firstOf firstOf firstOf firstOf firstOf firstOf
  by_cases hA : A = 0 <;> by_cases hB : B = 0 <;> by_cases hC : C = 0 <;> by_cases hD : D = 0 <;> simp [hA,hB,hC,hD]
 ·rw [if_neg h,decide_eq_false h]
  unfold firstOf firstOf firstOf firstOf firstOf firstOf
  by_cases hA : A = 0 <;> by_cases hB : B = 0 <;> by_cases hC : C = 0 <;> by_cases hD : D = 0 <;> simp [hA,hB,hC,hD]
theorem S104 (p : Pln) (s : Stp) (seen : Bool) (hn : p.sig.length ≤ 7) (hm : p.steps.length ≤ 1000) (he : s.exits.length ≤ 1000) (hs : s.name.size ≤ 1000) : SP 104 [planA p,stepA s,vb seen] (i64 (stepE p s seen)) false := by
 have h96 := S102 s.name (by omega)
 have h127 := S117 p s hm he
 have h128 := S118 p s hn hm
 have h98 := @S86_1 p hn s.needs
 have h68 := @S62_1 p hm s.trip
 have h78 := S59 s.wait 0 10000
 refine sound (d := 2) tok2 mixed2 Tryz.func104 (by kernel_rfl) (by kernel_rfl) ?_
 (conv=>whnf); refine ⟨[],by kernel_rfl,?_⟩
 (conv=>whnf); refine .inl ⟨_,_,byX rfl (Sound1.pl (h96) rfl),?_⟩
 (conv=>whnf); refine .inl ⟨_,_,byX rfl (Sound1.pl (S45 _ _) rfl),?_⟩
 (conv=>whnf); refine .inl ⟨_,_,byX rfl (Sound1.pl (S45 _ _) rfl),?_⟩
 (conv=>whnf); refine .inl ⟨_,_,byX rfl (Sound1.pl (h98 rfl) rfl),?_⟩
 (conv=>whnf); refine .inl ⟨_,_,byX rfl (Sound1.pl (h68 rfl) rfl),?_⟩
 (conv=>whnf); refine .inl ⟨_,_,byX rfl (Sound1.pl (h78) rfl),?_⟩
 (conv=>whnf); refine .inl ⟨_,_,byX rfl (Sound1.pl (S45 _ _) rfl),?_⟩
 (conv=>whnf); refine .inl ⟨_,_,byX rfl (Sound1.pl (S57_5 _ _ _ _ _ ⟨rfl,rfl,rfl,rfl,rfl⟩) rfl),?_⟩
 (conv=>whnf); refine ifB_bne (fun w1=>?_) (fun w1=>?_)
 ·(conv=>whnf); refine ⟨?_,nofun⟩
  refine endi (b := stepE p s seen) (Eq.trans ?_ (if_pos w1).symm)
  rfl
 ·(conv=>whnf); refine ifB_beq (fun w2=>?_) (fun w2=>?_)
  ·(conv=>whnf); refine .inl ⟨_,_,byX rfl (Sound1.pl (h127) rfl),?_⟩
   (conv=>whnf); refine ⟨?_,nofun⟩
   refine endi (b := stepE p s seen) (Eq.trans ?_ (if_neg (not_not_intro w1)).symm)
   rw [if_pos w2]
  ·(conv=>whnf); refine .inl ⟨_,_,byX rfl (Sound1.pl (h128) rfl),?_⟩
   (conv=>whnf); refine ⟨?_,nofun⟩
   refine endi (b := stepE p s seen) (Eq.trans ?_ (if_neg (not_not_intro w1)).symm)
   rw [if_neg w2]

def hasN (p : Pln) (k : Nat) (s : ByteArray) : Bool := hasS ((p.steps.map Stp.name).take k) s
def sigAt (p : Pln) (i : Nat) : Int := nameE (p.sig.getD i ByteArray.empty) (hasS (p.sig.take i) (p.sig.getD i ByteArray.empty))
def stepAt (p : Pln) (i : Nat) : Int := stepE p (p.steps.getD i stp0) (hasN p i (p.steps.getD i stp0).name)
def headE (p : Pln) : Int := firstOf [setsE p.sig.length [p.start],if decide ((p.steps.length : Int) > 0) then 0 else 10,if decide ((p.steps.length : Int) ≤ 10) then 0 else 8]
def checkP (p : Pln) : Int × Int :=
 if p.sig.length > 5 then (0,8)
 else if (scan (sigAt p) p.sig.length 0).2 ≠ 0 then (0,(scan (sigAt p) p.sig.length 0).2)
 else if headE p ≠ 0 then (0,headE p)
 else if (scan (stepAt p) p.steps.length 0).2 ≠ 0 then scan (stepAt p) p.steps.length 0
 else (0,if (p.steps.getD 0 stp0).safe && decide ((p.steps.getD 0 stp0).wait = 0) then 0 else 20)
abbrev t2 (a b : Int) : AV := .tuple [i64 a,i64 b]
theorem check_1 {p : Pln} (h : p.sig.length > 5) : checkP p = (0,8) := if_pos h
theorem check_2 {p : Pln} {k : Nat} {e : Int} (h : ¬ p.sig.length > 5) (hk : k < p.sig.length) (hf : ∀ j,j < k → sigAt p j = 0) (he : sigAt p k = e) (h0 : ¬ e = 0) : checkP p = (0,e) := by
 unfold checkP
 rw [if_neg h,scan_at hk hf (by rw [he]; exact h0),he]
 exact if_pos h0
theorem check_3 {p : Pln} (h : ¬ p.sig.length > 5) (hf : ∀ j,j < p.sig.length → sigAt p j = 0) (h0 : ¬ headE p = 0) : checkP p = (0,headE p) := by
  unfold checkP
  rw [if_neg h,scan_all hf,if_neg (fun e=>e rfl),if_pos h0]
theorem check_4 {p : Pln} {k : Nat} {e : Int} (h : ¬ p.sig.length > 5) (hf : ∀ j,j < p.sig.length → sigAt p j = 0) (hh : headE p = 0) (hk : k < p.steps.length) (hg : ∀ j,j < k → stepAt p j = 0) (he : stepAt p k = e) (h0 : ¬ e = 0) : checkP p = (↑k,e) := by
  unfold checkP
  rw [if_neg h,scan_all hf,if_neg (fun e=>e rfl),if_neg (not_not_intro hh),scan_at hk hg (by rw [he]; exact h0),he,if_pos h0]
theorem check_5 {p : Pln} (h : ¬ p.sig.length > 5) (hf : ∀ j,j < p.sig.length → sigAt p j = 0) (hh : headE p = 0) (hg : ∀ j,j < p.steps.length → stepAt p j = 0) :
  checkP p = (0,if (p.steps.getD 0 stp0).safe && decide ((p.steps.getD 0 stp0).wait = 0) then 0 else 20) := by
 unfold checkP
 rw [if_neg h,scan_all hf,if_neg (fun e=>e rfl),if_neg (not_not_intro hh),scan_all hg,if_neg (fun e=>e rfl)]
theorem first3_iff {a b c : Int} : firstOf [a,b,c] = 0 ↔ a = 0 ∧ b = 0 ∧ c = 0 := by
  unfold firstOf firstOf firstOf firstOf
  by_cases h : a = 0 <;> by_cases h2 : b = 0 <;> by_cases h3 : c = 0 <;> simp [h,h2,h3]
theorem head_len {p : Pln} (hh : headE p = 0) : 0 < p.steps.length := by
 unfold headE at hh
 rw [first3_iff] at hh
 have := hh.2.1
 by_cases h : (p.steps.length : Int) > 0
 ·omega
 ·rw [decide_eq_false h] at this; cases this

def nms (p : Pln) : List ByteArray := p.steps.map Stp.name
theorem hasN_succ {p : Pln} {k : Nat} (hk : k < p.steps.length) (s : ByteArray) : hasN p (k + 1) s = (hasN p k s || (p.steps.getD k stp0).name.toList == s.toList) := by
 unfold hasN hasS
 rw [List.take_add_one,List.any_append]
 congr 1
 simp [List.getD,hk]
theorem endp {a b : Int} {q : Int × Int} (h : q = (a,b)) : AVE 5 (t2 a b) (t2 q.1 q.2) := by
  rw [h]
  exact ave_tup2 (k := 4) rfl rfl
theorem head_form (p : Pln) : headE p = if ¬ setE p.sig.length p.start = 0 then setE p.sig.length p.start else if p.steps.length = 0 then 10 else if p.steps.length > 10 then 8 else 0 := by
 unfold headE
 rw [sets1]
 unfold firstOf firstOf firstOf firstOf
 by_cases h : setE p.sig.length p.start = 0
 ·rw [if_pos h,if_neg (not_not_intro h)]
  by_cases h2 : p.steps.length = 0
  ·rw [if_pos h2,decide_eq_false (by omega)]; rfl
  ·rw [if_neg h2,decide_eq_true (by omega)]
   by_cases h3 : p.steps.length > 10
   ·rw [if_pos h3,decide_eq_false (by omega)]; rfl
   ·rw [if_neg h3,decide_eq_true (by omega)]; rfl
 ·rw [if_neg h,if_pos h]
theorem nms_row {p : Pln} {k : Nat} (hk : k < p.steps.length) (i : Nat) (h : i < k + 1) : [sv ((nms p).getD i ByteArray.empty)] = if i < k then [sv ((nms p).getD (0 + i) ByteArray.empty)] else List.take 1 (List.drop ((i - k) * 1) [sv (p.steps.getD k stp0).name]) := by
 rw [Nat.zero_add]
 by_cases hi : i < k
 ·rw [if_pos hi]
 ·have : i = k := by omega
  subst this
  rw [if_neg hi]; simp [nms,List.getD_eq_getElem?_getD,hk]
theorem S74 (p : Pln) (hp : FewP p) : SP 74 [planA p] (t2 (checkP p).1 (checkP p).2) false := by
 have hn := hp.sig
 have hm := hp.steps
 refine sound (d := 2) tok2 mixed2 Tryz.func74 (by kernel_rfl) (by kernel_rfl) ?_
 (conv=>whnf); refine ifB_dec (fun w1=>?_) (fun w1=>?_)
 ·(conv=>whnf); refine ⟨?_,nofun⟩
  exact endp (check_1 (p := p) (by omega))
 ·(conv => whnf); refine ⟨[], [4, 22, 23, 24], fun st mq => ∃ (k : Nat), (k ≤ p.sig.length) ∧ (∀ j, j < k → sigAt p j = 0) ∧ st = ⟨[(4, .optr 1 0 0 0), (22, strs p.sig), (23, i64 p.sig.length), (24, i64 k)], ⟨[⟨3, 1, fun _ => planC p, 0, false, true, true⟩, ⟨3, 1, fun _ => planC p, 0, false, true, true⟩], [], none, 0⟩, []⟩ ∧ mq = p.sig.length - k,
   ⟨_,_,⟨0,by omega,inv_none,rfl,rfl⟩,⟨⟨.inl rfl,rfl,rfl,rfl⟩,⟨bA,⟨bA,trivial⟩⟩,trivial⟩⟩,?_⟩
  rintro s0 m0 ⟨k,hk,hf,rfl,hmeas⟩
  by_cases hlt : k < p.sig.length
  ·have hz := hp.size k hlt
   have h96 := S102 (p.sig.getD (k : Int).toNat ByteArray.empty) (by show (p.sig.getD k ByteArray.empty).size ≤ _; omega)
   have h97 := @S103t p.sig (by omega) (p.sig.getD (k : Int).toNat ByteArray.empty) k (by omega)
   conv=>whnf
   (conv=>whnf); refine ifB_dec (fun w2=>?_) (fun w2=>?_)
   ·conv=>whnf
    (conv=>whnf); refine ⟨⟨(by omega),(by omega)⟩,?_⟩
    conv=>whnf
    (conv=>whnf); refine ⟨[],by kernel_rfl,?_⟩
    conv=>whnf
    (conv=>whnf); refine .inl ⟨_,_,byX rfl (Sound1.pl (h96) rfl),?_⟩
    conv=>whnf
    (conv=>whnf); refine .inl ⟨_,_,byX rfl (Sound1.pl (S45 _ _) rfl),?_⟩
    conv=>whnf
    (conv=>whnf); refine ⟨⟨(by omega),⟨(by omega),(by omega)⟩⟩,?_⟩
    conv=>whnf
    (conv=>whnf); refine .inl ⟨_,_,byX rfl (Sound1.pl (h97 (fun _=>rfl)) rfl),?_⟩
    conv=>whnf
    (conv=>whnf); refine .inl ⟨_,_,byX rfl (Sound1.pl (S45 _ _) rfl),?_⟩
    conv=>whnf
    (conv=>whnf); refine .inl ⟨_,_,byX rfl (Sound1.pl (S57_2 _ _ ⟨rfl,rfl⟩) rfl),?_⟩
    conv=>whnf
    (conv=>whnf); refine ifB_bne (fun w3=>?_) (fun w3=>?_)
    ·conv=>whnf
     (conv=>whnf); refine ⟨?_,nofun⟩
     exact endp (check_2 (by omega) hlt hf rfl (by first | exact w2 | exact w3))
    ·conv=>whnf
     (conv=>whnf); refine ⟨inK64 (by omega) (by omega),?_⟩
     conv=>whnf
     (conv=>whnf); refine ⟨_,_,⟨⟨k + 1,by omega,inv_next hf (by first | exact w2 | exact w3),rfl,rfl⟩,by omega⟩,⟨⟨.inl rfl,rfl,rfl,rfl⟩,⟨bA,⟨bA,trivial⟩⟩,trivial⟩⟩
   ·(exfalso; omega)
  ·have e : k = p.sig.length := by omega
   subst e
   have h98 := @S86_1 p hn p.start
   conv=>whnf
   (conv=>whnf); refine ifB_dec (fun w2=>?_) (fun w2=>?_)
   ·(exfalso; omega)
   ·conv=>whnf
    (conv=>whnf); refine ⟨[],by kernel_rfl,?_⟩
    conv=>whnf
    (conv=>whnf); refine .inl ⟨_,_,byX rfl (Sound1.pl (h98 rfl) rfl),?_⟩
    conv=>whnf
    (conv=>whnf); refine .inl ⟨_,_,byX rfl (Sound1.pl (S45 _ _) rfl),?_⟩
    conv=>whnf
    (conv=>whnf); refine .inl ⟨_,_,byX rfl (Sound1.pl (S45 _ _) rfl),?_⟩
    conv=>whnf
    (conv=>whnf); refine .inl ⟨_,_,byX rfl (Sound1.pl (S57_3 _ _ _ ⟨rfl,rfl,rfl⟩) rfl),?_⟩
    conv=>whnf
    (conv=>whnf); refine ifB_bne (fun w3=>?_) (fun w3=>?_)
    ·conv=>whnf
     (conv=>whnf); refine ⟨?_,nofun⟩
     exact endp (check_3 (by omega) hf (by first | exact w2 | exact w3))
    ·have hh : headE p = 0 := by first | exact w2 | exact w3
     conv=>whnf
     (conv=>whnf); refine ⟨[],[4,9,73,74,75],fun st mq=>∃ (k : Nat) (H : Value → Bool) (G : Value → Bool) (F2 : Nat → List AV) (F3 : Nat → List AV),(k ≤ p.steps.length) ∧ (∀ s,G (.string s) = hasN p k s) ∧ (∀ j,j < k → stepAt p j = 0) ∧ st = ⟨[(4,.optr 1 0 0 0),(9,.omap 0),(73,stepsA p.steps),(74,i64 p.steps.length),(75,i64 k)],⟨[⟨3,1,fun _=>planC p,0,false,true,true⟩,⟨3,1,fun _=>planC p,0,false,true,true⟩,⟨1,1,F2,0,false,true,false⟩,⟨1,3,F3,0,false,true,false⟩],[⟨.str,4,H,fun v=>vb (G v),false,none,0,.top⟩],none,0⟩,[]⟩ ∧ mq = p.steps.length - k,
      ⟨_,_,⟨0,fun _=>false,fun _=>false,_,_,by omega,fun _=>rfl,inv_none,rfl,rfl⟩,⟨⟨.inl rfl,rfl,rfl,rfl⟩,⟨bA,⟨bA,⟨bA,⟨bA,trivial⟩⟩⟩⟩,⟨⟨rfl,rfl,rfl,trivial,.inl rfl,fun _=>⟨rfl,.inl rfl⟩⟩,trivial⟩⟩⟩,?_⟩
     rintro s0 m0 ⟨k,H,G,F2,F3,hk,hG,hg,rfl,hmeas⟩
     by_cases hlt : k < p.steps.length
     ·have hz := hp.name k hlt
      have hx := hp.exits k hlt
      have h99 := S104 p (p.steps.getD (k : Int).toNat stp0) (G (.string (p.steps.getD (k : Int).toNat stp0).name)) hn (by omega) (by show (p.steps.getD k stp0).exits.length ≤ _; omega) (by show (p.steps.getD k stp0).name.size ≤ _; omega)
      rw [show stepE p (p.steps.getD (k : Int).toNat stp0) (G (.string (p.steps.getD (k : Int).toNat stp0).name)) = stepAt p k by rw [hG]; rfl] at h99
      have hG2 : ∀ s,(bif opEv.keyEq (.string s) (.string (p.steps.getD (k : Int).toNat stp0).name) then true else G (.string s)) = hasN p (k + 1) s := fun s=>by
       rw [keyS,hG,hasN_succ hlt,show (k : Int).toNat = k from rfl]
       generalize ((p.steps.getD k stp0).name.toList == s.toList) = A
       generalize hasN p k s = B
       cases A <;> cases B <;> rfl
      conv=>whnf
      conv=>whnf
      (conv=>whnf); refine ifB_dec (fun w4=>?_) (fun w4=>?_)
      ·conv=>whnf
       conv=>whnf
       (conv=>whnf); refine ⟨⟨(by omega),(by omega)⟩,?_⟩
       conv=>whnf
       conv=>whnf
       (conv=>whnf); refine .inl ⟨_,_,byX rfl (Sound1.pl (h99) rfl),?_⟩
       conv=>whnf
       conv=>whnf
       (conv=>whnf); refine ifB_bne (fun w5=>?_) (fun w5=>?_)
       ·conv=>whnf
        conv=>whnf
        (conv=>whnf); refine ⟨?_,nofun⟩
        exact endp (check_4 (by omega) hf hh hlt hg rfl (by first | exact w5 | exact w4 | exact w3 | exact w2))
       ·conv=>whnf
        conv=>whnf
        (conv=>whnf); refine ⟨inK64 (by omega) (by omega),?_⟩
        conv=>whnf
        conv=>whnf
        (conv=>whnf); refine ⟨_,_,⟨⟨k + 1,fun v=>Bool.or (H v) (opEv.keyEq v (.string (p.steps.getD (k : Int).toNat stp0).name)),fun v=>bif opEv.keyEq v (.string (p.steps.getD (k : Int).toNat stp0).name) then true else G v,_,_,by omega,hG2,inv_next hg (by first | exact w5 | exact w4 | exact w3 | exact w2),rfl,rfl⟩,by omega⟩,⟨⟨.inl rfl,rfl,rfl,rfl⟩,⟨bA,⟨bA,⟨bA,⟨bA,trivial⟩⟩⟩⟩,⟨⟨rfl,rfl,rfl,trivial,.inl rfl,fun v=>And.imp id Or.inl (⟨rfl,bif_vb _ _ _⟩)⟩,trivial⟩⟩⟩
      ·(exfalso; omega)
     ·have e : k = p.steps.length := by omega
      subst e
      have h100 := S105 (p.steps.getD 0 stp0)
      have h0 := head_len hh
      conv=>whnf
      conv=>whnf
      (conv=>whnf); refine ifB_dec (fun w4=>?_) (fun w4=>?_)
      ·(exfalso; omega)
      ·conv=>whnf
       conv=>whnf
       (conv=>whnf); refine ⟨⟨(by omega),(by omega)⟩,?_⟩
       conv=>whnf
       conv=>whnf
       (conv=>whnf); refine .inl ⟨_,_,byX rfl (Sound1.pl (h100) rfl),?_⟩
       conv=>whnf
       conv=>whnf
       (conv=>whnf); refine .inl ⟨_,_,byX rfl (Sound1.pl (S45 _ _) rfl),?_⟩
       conv=>whnf
       conv=>whnf
       (conv=>whnf); refine ⟨?_,nofun⟩
       exact endp (check_5 (by omega) hf hh hg)
theorem S68 (s : ByteArray) (hs : s.size ≤ 1000) (l : List ByteArray) (hl : l.length ≤ 1000) {k : Nat} (hk : k ≤ l.length) {f : Nat → List AV} (h : ∀ i,f i = [sv (l.getD i ByteArray.empty)]) : SP 68 [sv s,.rslice 1 k f] (i64 (nameE s (hasS (l.take k) s))) false := by
 have h129 := S100 s (by omega)
 have h130 := @S101t l (by omega) s k hk f h
 refine sound (d := 2) tok2 mixed2 Tryz.func68 (by kernel_rfl) (by kernel_rfl) ?_
 unfold nameE
 (conv=>whnf); refine .inl ⟨_,_,byX rfl (Sound1.pl (h129) rfl),?_⟩
 (conv=>whnf); refine ifB_not ?_
 (conv=>whnf); refine ifB_intro (fun w1=>?_) (fun w1=>?_)
 ·(conv=>whnf); refine .inl ⟨_,_,byX rfl (Sound1.pl (h130) rfl),?_⟩
  (conv=>whnf); refine ifB_intro (fun w2=>?_) (fun w2=>?_)
  ·(conv=>whnf); refine ⟨?_,nofun⟩
   refine endi ?_
   rw [w1,w2]; rfl
  ·(conv=>whnf); refine ⟨?_,nofun⟩
   refine endi ?_
   rw [w1,w2]; rfl
 ·(conv=>whnf); refine ⟨?_,nofun⟩
  refine endi ?_
  rw [w1]; rfl
theorem S35 (p : Pln) (hp : FewP p) : SP 35 [planA p] (t2 (checkP p).1 (checkP p).2) false := by
 have hn := hp.sig
 have hm := hp.steps
 refine sound (d := 2) tok2 mixed2 Tryz.func35 (by kernel_rfl) (by kernel_rfl) ?_
 (conv=>whnf); refine ifB_dec (fun w1=>?_) (fun w1=>?_)
 ·(conv=>whnf); refine ⟨?_,nofun⟩
  exact endp (check_1 (p := p) (by omega))
 ·(conv => whnf); refine ⟨[], [1, 4], fun st mq => ∃ (k : Nat), (k ≤ p.sig.length) ∧ (∀ j, j < k → sigAt p j = 0) ∧ st = ⟨[(1, .optr 0 0 0 0), (4, i64 k)], ⟨[⟨3, 1, fun _ => planC p, 0, false, true, true⟩], [], none, 0⟩, []⟩ ∧ mq = p.sig.length - k,
   ⟨_,_,⟨0,by omega,inv_none,rfl,rfl⟩,⟨⟨.inl rfl,rfl,rfl,rfl⟩,⟨bA,trivial⟩,trivial⟩⟩,?_⟩
  rintro s0 m0 ⟨k,hk,hf,rfl,hmeas⟩
  by_cases hlt : k < p.sig.length
  ·have hz := hp.size k hlt
   have h104 := @S68 (p.sig.getD (k : Int).toNat ByteArray.empty) (by show (p.sig.getD k ByteArray.empty).size ≤ _; omega) p.sig (by omega) ((k : Int) - 0).toNat (by omega)
   conv=>whnf
   (conv=>whnf); refine ifB_dec (fun w2=>?_) (fun w2=>?_)
   ·conv=>whnf
    (conv=>whnf); refine ⟨[],by kernel_rfl,?_⟩
    conv=>whnf
    (conv=>whnf); refine ⟨⟨(by omega),(by omega)⟩,?_⟩
    conv=>whnf
    (conv=>whnf); refine ⟨⟨(by omega),⟨(by omega),(by omega)⟩⟩,?_⟩
    conv=>whnf
    (conv=>whnf); refine .inl ⟨_,_,byX rfl (Sound1.pl (h104 (fun _=>rfl)) rfl),?_⟩
    conv=>whnf
    (conv=>whnf); refine ifB_bne (fun w3=>?_) (fun w3=>?_)
    ·conv=>whnf
     (conv=>whnf); refine ⟨?_,nofun⟩
     exact endp (check_2 (by omega) hlt hf rfl (by first | exact w2 | exact w3))
    ·conv=>whnf
     (conv=>whnf); refine ⟨inK64 (by omega) (by omega),?_⟩
     conv=>whnf
     (conv=>whnf); refine ⟨_,_,⟨⟨k + 1,by omega,inv_next hf (by first | exact w2 | exact w3),rfl,rfl⟩,by omega⟩,⟨⟨.inl rfl,rfl,rfl,rfl⟩,⟨bA,trivial⟩,trivial⟩⟩
   ·(exfalso; omega)
  ·have e : k = p.sig.length := by omega
   subst e
   have h105 := S69 p hn p.start
   conv=>whnf
   (conv=>whnf); refine ifB_dec (fun w2=>?_) (fun w2=>?_)
   ·(exfalso; omega)
   ·conv => whnf
    (conv=>whnf); refine .inl ⟨_,_,byX rfl (Sound1.pl (h105) rfl),?_⟩
    conv=>whnf
    (conv=>whnf); refine ifB_bne (fun w3=>?_) (fun w3=>?_)
    ·conv=>whnf
     (conv=>whnf); refine ⟨?_,nofun⟩
     exact endp ((check_3 (by omega) hf (by rw [head_form]; simp_all)).trans (by rw [head_form,if_pos (by first | exact w2 | exact w3)]))
    ·conv => whnf
     (conv=>whnf); refine ifB_beq (fun w4=>?_) (fun w4=>?_)
     ·conv=>whnf
      (conv=>whnf); refine ⟨?_,nofun⟩
      exact endp ((check_3 (by omega) hf (by rw [head_form]; simp_all)).trans (by rw [head_form,if_neg (not_not_intro (by first | exact w2 | exact w3)),if_pos (by omega)]))
     ·conv => whnf
      (conv=>whnf); refine ifB_dec (fun w5=>?_) (fun w5=>?_)
      ·conv=>whnf
       (conv=>whnf); refine ⟨?_,nofun⟩
       have h8 : headE p = 8 := by rw [head_form,if_neg (not_not_intro (by first | exact w2 | exact w3)),if_neg (by omega),if_pos (by omega)]
       exact endp ((check_3 (by omega) hf (by rw [h8]; decide)).trans (by rw [h8]))
      ·have hh : headE p = 0 := by rw [head_form, if_neg (not_not_intro (by first | exact w2 | exact w3)), if_neg (by omega), if_neg (by omega)]
       conv=>whnf
       (conv=>whnf); refine ⟨[.slot 7 1],[1,7,8],fun st mq=>∃ (k : Nat),(k ≤ p.steps.length) ∧ (∀ j,j < k → stepAt p j = 0) ∧ st = ⟨[(1,.optr 0 0 0 0),(7,.oslice 1 0 0 k none),(8,i64 k)],⟨[⟨3,1,fun _=>planC p,0,false,true,true⟩,⟨1,k,fun i=>[sv ((nms p).getD i ByteArray.empty)],0,false,true,false⟩],[],none,0⟩,[]⟩ ∧ mq = p.steps.length - k,
        ⟨_,_,⟨0,by omega,inv_none,rfl,rfl⟩,⟨⟨.inl rfl,rfl,rfl,rfl⟩,⟨bA,⟨⟨rfl,rfl,rfl,rfl,fun _=>rfl,fun i h=>.inl (absurd h (Nat.not_lt_zero i))⟩,trivial⟩⟩,trivial⟩⟩,?_⟩
       rintro s0 m0 ⟨k,hk,hg,rfl,hmeas⟩
       by_cases hlt : k < p.steps.length
       ·have hz := hp.name k hlt
        have hx := hp.exits k hlt
        have hl : (nms p).length = p.steps.length := by simp [nms]
        have h104 := @S68 (p.steps.getD (k : Int).toNat stp0).name (by show (p.steps.getD k stp0).name.size ≤ _; omega) (nms p) (by omega) k (by omega)
        have h105 := S69 p hn (p.steps.getD (k : Int).toNat stp0).needs
        have h21 := S71 p (by omega) (p.steps.getD (k : Int).toNat stp0).trip
        have h41 := S28 (p.steps.getD (k : Int).toNat stp0).wait 0 10000
        have h107 := S72 p (p.steps.getD (k : Int).toNat stp0) (by omega) (by show (p.steps.getD k stp0).exits.length ≤ _; omega)
        have h108 := S73 p (p.steps.getD (k : Int).toNat stp0) hn (by omega)
        have hform : stepAt p k = _ := step_form p (p.steps.getD (k : Int).toNat stp0) (hasS (List.take k (nms p)) (p.steps.getD (k : Int).toNat stp0).name)
        conv=>whnf
        conv=>whnf
        (conv=>whnf); refine ifB_dec (fun w6=>?_) (fun w6=>?_)
        ·conv => whnf
         conv=>whnf
         (conv=>whnf); refine ⟨⟨(by omega),(by omega)⟩,?_⟩
         conv=>whnf
         conv=>whnf
         (conv=>whnf); refine ⟨[],by kernel_rfl,?_⟩
         conv=>whnf
         conv=>whnf
         (conv=>whnf); refine .inl ⟨_,_,byX rfl (Sound1.pl (h104 (fun _=>rfl)) rfl),?_⟩
         conv=>whnf
         conv=>whnf
         (conv=>whnf); refine .inl ⟨_,_,byX rfl (Sound1.pl (h105) rfl),?_⟩
         conv=>whnf
         conv=>whnf
         (conv=>whnf); refine .inl ⟨_,_,byX rfl (Sound1.pl (h21) rfl),?_⟩
         conv=>whnf
         conv=>whnf
         (conv=>whnf); refine .inl ⟨_,_,byX rfl (Sound1.pl (S70_3 _ _ _ ⟨rfl,rfl,rfl⟩) rfl),?_⟩
         conv=>whnf
         conv=>whnf
         (conv=>whnf); refine ifB_beq (fun w7=>?_) (fun w7=>?_)
         ·conv => whnf
          conv=>whnf
          (conv=>whnf); refine .inl ⟨_,_,byX rfl (Sound1.pl (h41) rfl),?_⟩
          conv=>whnf
          conv=>whnf
          (conv=>whnf); refine ifB_not ?_
          conv=>whnf
          conv=>whnf
          (conv=>whnf); refine ifB_dec (fun w8=>?_) (fun w8=>?_)
          ·conv=>whnf
           conv=>whnf
           (conv=>whnf); refine ifB_beq (fun w9=>?_) (fun w9=>?_)
           ·conv=>whnf
            conv=>whnf
            (conv=>whnf); refine ifB_beq (fun w10=>?_) (fun w10=>?_)
            ·conv=>whnf
             conv=>whnf
             (conv=>whnf); refine .inl ⟨_,_,byX rfl (Sound1.pl (h107) rfl),?_⟩
             conv=>whnf
             conv=>whnf
             (conv=>whnf); refine ifB_bne (fun w11=>?_) (fun w11=>?_)
             ·conv=>whnf
              conv=>whnf
              (conv=>whnf); refine ⟨?_,nofun⟩
              rw [if_neg (not_not_intro w7),if_pos w8,if_pos (by first | exact w9 | exact w10)] at hform
              exact endp (check_4 (by omega) hf hh hlt hg hform (by first | exact w10 | exact w11 | exact w12))
             ·conv=>whnf
              conv=>whnf
              (conv=>whnf); refine .inl ?_
              conv=>whnf
              conv=>whnf
              (conv=>whnf); refine ⟨(by show _ * (16 + 1) ≤ _; omega),?_⟩
              conv=>whnf
              conv=>whnf
              (conv=>whnf); refine ⟨inK64 (by omega) (by omega),?_⟩
              rw [if_neg (not_not_intro w7),if_pos w8,if_pos (by first | exact w9 | exact w10)] at hform
              conv=>whnf
              conv=>whnf
              (conv=>whnf); refine ⟨_,_,⟨⟨k + 1,by omega,inv_next hg (hform.trans (by first | exact w10 | exact w11 | exact w12)),rfl,rfl⟩,by omega⟩,⟨⟨.inl rfl,rfl,rfl,rfl⟩,⟨bA,⟨⟨rfl,rfl,rfl,rfl,fun _=>rfl,fun i h=>.inl (nms_row hlt i h)⟩,trivial⟩⟩,trivial⟩⟩
            ·conv=>whnf
             conv=>whnf
             (conv=>whnf); refine ifB_beq (fun w11=>?_) (fun w11=>?_)
             ·conv=>whnf
              conv=>whnf
              (conv=>whnf); refine .inl ⟨_,_,byX rfl (Sound1.pl (h108) rfl),?_⟩
              conv=>whnf
              conv=>whnf
              (conv=>whnf); refine ifB_bne (fun w12=>?_) (fun w12=>?_)
              ·conv=>whnf
               conv=>whnf
               (conv=>whnf); refine ⟨?_,nofun⟩
               rw [if_neg (not_not_intro w7),if_pos w8,if_neg (by first | exact w9 | exact w10)] at hform
               exact endp (check_4 (by omega) hf hh hlt hg hform (by first | exact w10 | exact w11 | exact w12))
              ·conv=>whnf
               conv=>whnf
               (conv=>whnf); refine .inl ?_
               conv=>whnf
               conv=>whnf
               (conv=>whnf); refine ⟨(by show _ * (16 + 1) ≤ _; omega),?_⟩
               conv=>whnf
               conv=>whnf
               (conv=>whnf); refine ⟨inK64 (by omega) (by omega),?_⟩
               rw [if_neg (not_not_intro w7),if_pos w8,if_neg (by first | exact w9 | exact w10)] at hform
               conv=>whnf
               conv=>whnf
               (conv=>whnf); refine ⟨_,_,⟨⟨k + 1,by omega,inv_next hg (hform.trans (by first | exact w10 | exact w11 | exact w12)),rfl,rfl⟩,by omega⟩,⟨⟨.inl rfl,rfl,rfl,rfl⟩,⟨bA,⟨⟨rfl,rfl,rfl,rfl,fun _=>rfl,fun i h=>.inl (nms_row hlt i h)⟩,trivial⟩⟩,trivial⟩⟩
             ·(exfalso; omega)
           ·(exfalso; omega)
          ·conv=>whnf
           conv=>whnf
           (conv=>whnf); refine ⟨?_,nofun⟩
           rw [if_neg (not_not_intro w7),if_neg w8] at hform
           exact endp (check_4 (by omega) hf hh hlt hg hform (by decide))
         ·conv=>whnf
          conv=>whnf
          (conv=>whnf); refine ifB_beq (fun w8=>?_) (fun w8=>?_)
          ·(exfalso; omega)
          ·conv=>whnf
           conv=>whnf
           (conv=>whnf); refine ifB_beq (fun w9=>?_) (fun w9=>?_)
           ·(exfalso; omega)
           ·conv=>whnf
            conv=>whnf
            (conv=>whnf); refine ifB_bne (fun w10=>?_) (fun w10=>?_)
            ·conv=>whnf
             conv=>whnf
             (conv=>whnf); refine ⟨?_,nofun⟩
             rw [if_pos w7] at hform
             exact endp (check_4 (by omega) hf hh hlt hg hform w7)
            ·(exfalso; omega)
        ·(exfalso; omega)
       ·have e : k = p.steps.length := by omega
        subst e
        have h5 := check_5 (by omega) hf hh hg
        conv=>whnf
        conv=>whnf
        (conv=>whnf); refine ifB_dec (fun w6=>?_) (fun w6=>?_)
        ·(exfalso; omega)
        ·conv=>whnf
         conv=>whnf
         (conv=>whnf); refine ⟨⟨(by omega),(by omega)⟩,?_⟩
         conv=>whnf
         conv=>whnf
         (conv=>whnf); refine ifB_bne (fun w7=>?_) (fun w7=>?_)
         ·conv=>whnf
          conv=>whnf
          (conv=>whnf); refine ⟨?_,nofun⟩
          exact endp (h5.trans (by rw [decide_eq_false (show ¬ (p.steps.getD 0 stp0).wait = 0 from w7),Bool.and_false]; rfl))
         ·conv=>whnf
          conv=>whnf
          (conv=>whnf); refine ⟨⟨(by omega),(by omega)⟩,?_⟩
          conv=>whnf
          conv=>whnf
          (conv=>whnf); refine ifB_not ?_
          conv=>whnf
          conv=>whnf
          (conv=>whnf); refine ifB_intro (fun w8=>?_) (fun w8=>?_)
          ·conv=>whnf
           conv=>whnf
           (conv=>whnf); refine ⟨?_,nofun⟩
           exact endp (h5.trans (by rw [decide_eq_true (show (p.steps.getD 0 stp0).wait = 0 from w7),show (p.steps.getD 0 stp0).safe = true from w8]; rfl))
          ·conv=>whnf
           conv=>whnf
           (conv=>whnf); refine ⟨?_,nofun⟩
           exact endp (h5.trans (by rw [decide_eq_true (show (p.steps.getD 0 stp0).wait = 0 from w7),show (p.steps.getD 0 stp0).safe = false from w8]; rfl))
end Go.Tr

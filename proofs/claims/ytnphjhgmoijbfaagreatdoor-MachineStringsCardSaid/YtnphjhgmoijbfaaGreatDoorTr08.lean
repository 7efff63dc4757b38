/- Contracts of chapter 6: what all share; its examples. Conditions: none. -/
import Derived.Test.YtnphjhgmoijbfaaGreatDoorTr06
import Derived.Test.YtnphjhgmoijbfaaGreatDoorTr07
import Derived.Test.YtnphjhgmoijbfaaGreatDoorProg
import Derived.WalkKit
set_option linter.unusedSectionVars false
set_option linter.unnecessarySimpa false
set_option linter.unusedVariables false
set_option linter.unusedSimpArgs false

namespace Go.Tr
open Go Go.Proofs

abbrev i64 (n : Int) : AV := .val (.int .i64 n)
abbrev vb (b : Bool) : AV := .val (.bool b)
theorem mixed2 : Tryz.prog.follows .mixedOrders = true := by kernel_rfl
def pow10V : List Value := (List.range 20).map fun i=>.int .u64 ((10 ^ i : Nat) : Int)
instance gtab : GTab := ⟨fun g=>match g with | 0=>some (pow10V.map .val) | 4=>some [.err] | 5=>some [.err] | _=>none,False,fun g=>match g with | 1=>true | _=>false⟩
set_option maxRecDepth 20000
set_option maxHeartbeats 8000000
abbrev SP := Sound1 Tryz.prog
def K2 (t : Nat) : Option (List LK) :=
  bif Nat.beq t 44 then some [.int .i64,.int .i64] else bif Nat.beq t 62 then some [.int .i64,.int .i64,.int .i64] else bif Nat.beq t 98 then some [.int .i64,.int .i64,.int .i64,.int .i64] else bif Nat.beq t 55 then some [.int .i64,.int .i64,.int .i64,.int .i64,.int .i64,.int .i64] else none
theorem tok2 : TOK Tryz.prog (TK Tryz.prog K2) := TOK_TK fun t ks h=>by
 unfold K2 at h
 cases e0 : Nat.beq t 44 with
 | true=>rw [e0] at h; cases h; cases Nat.eq_of_beq_eq_true e0; exact ⟨_,Tryz.underlying44,by kernel_rfl⟩
 | false =>
 rw [e0] at h
 cases e1 : Nat.beq t 62 with
 | true=>rw [e1] at h; cases h; cases Nat.eq_of_beq_eq_true e1; exact ⟨_,Tryz.underlying62,by kernel_rfl⟩
 | false =>
 rw [e1] at h
 cases e2 : Nat.beq t 98 with
 | true=>rw [e2] at h; cases h; cases Nat.eq_of_beq_eq_true e2; exact ⟨_,Tryz.underlying98,by kernel_rfl⟩
 | false =>
 rw [e2] at h
 cases e3 : Nat.beq t 55 with
 | true=>rw [e3] at h; cases h; cases Nat.eq_of_beq_eq_true e3; exact ⟨_,Tryz.underlying55,by kernel_rfl⟩
 | false=>rw [e3] at h; cases h

def tblE : AV := .agg [.rslice 2 2 fun i=>[[i64 10,.rslice 3 3 fun i=>[[i64 0,i64 0,i64 0],[i64 100,i64 10,i64 500],[i64 200,i64 14,i64 1800]].getD i []],[i64 20,.rslice 3 3 fun i=>[[i64 0,i64 10,i64 0],[i64 100,i64 30,i64 2000],[i64 200,i64 40,i64 6000]].getD i []]].getD i []]
def frE : AV := .agg [i64 15,i64 1]
theorem run13 : Run.ok Tryz.prog ⟨13,[tblE],.tuple [i64 7600,i64 0]⟩ := run_ok mixed2 (l := []) (by simp) 1000 60 (by kernel_rfl)
theorem run15 : Run.ok Tryz.prog ⟨15,[tblE,frE,i64 75],.tuple [.rslice 2 1 fun _=>[i64 15,i64 1],i64 0]⟩ := run_ok mixed2 (l := []) (by simp) 1000 60 (by kernel_rfl)
theorem run17 : Run.ok Tryz.prog ⟨17,[tblE,frE,.agg [i64 150,i64 10,i64 1]],.tuple [.rslice 6 1 fun _=>[i64 37100,i64 251,i64 5500,i64 251,i64 469750,i64 251],i64 0]⟩ := run_ok mixed2 (l := []) (by simp) 1000 60 (by kernel_rfl)
theorem run18 : Run.ok Tryz.prog ⟨18,[tblE,i64 100],.tuple [.agg [i64 2000,i64 1],i64 0]⟩ := run_ok mixed2 (l := []) (by simp) 1000 60 (by kernel_rfl)
theorem S4 : SP 4 [] (vb true) false := run_ok mixed2 (l := [⟨13,[tblE],.tuple [i64 7600,i64 0]⟩,⟨15,[tblE,frE,i64 75],.tuple [.rslice 2 1 fun _=>[i64 15,i64 1],i64 0]⟩,⟨17,[tblE,frE,.agg [i64 150,i64 10,i64 1]],.tuple [.rslice 6 1 fun _=>[i64 37100,i64 251,i64 5500,i64 251,i64 469750,i64 251],i64 0]⟩,⟨18,[tblE,i64 100],.tuple [.agg [i64 2000,i64 1],i64 0]⟩]) (by
  intro x hx
  simp only [List.mem_cons,List.not_mem_nil,or_false] at hx
  rcases hx with rfl | rfl | rfl | rfl
  ·exact run13
  ·exact run15
  ·exact run17
  ·exact run18) 1000 60 (by kernel_rfl)
end Go.Tr

/- Contracts of chapter 6: small functions; gates and rules. Conditions: none. -/
namespace Go.Tr
open Go Go.Proofs
set_option maxRecDepth 20000
set_option maxHeartbeats 8000000

def firstOf : List Int → Int
  | []=>0
  | x :: r=>if x = 0 then firstOf r else x
theorem firstOf_drop (l : List Int) (k : Nat) (h : k < l.length) : firstOf (l.drop k) = if l.getD k 0 = 0 then firstOf (l.drop (k+1)) else l.getD k 0 := by
  rw [List.drop_eq_getElem_cons h,firstOf]; simp [List.getD,h]
def ints (l : List Int) : AV := .rslice 1 l.length fun i=>[i64 (l.getD i 0)]
theorem endi {a b : Int} (h : a = b) : i64 a = i64 b := congrArg (fun x=>i64 x) h
theorem endb {a b : Bool} (h : a = b) : vb a = vb b := congrArg (fun x=>vb x) h
theorem first2 (a b : Int) : firstOf [a,b] = if a ≠ 0 then a else b := by
 unfold firstOf firstOf firstOf
 by_cases h : a = 0
 ·subst h; by_cases h2 : b = 0 <;> simp [h2]
 ·simp [h]
theorem first3 (a b c : Int) : firstOf [a,b,c] = if a ≠ 0 then a else if b ≠ 0 then b else c := by
 unfold firstOf
 by_cases h : a = 0
 ·rw [if_pos h,if_neg (by simpa using h)]; exact first2 b c
 ·rw [if_neg h,if_pos h]

def win (x a b : Int) : Bool := decide (a ≤ x ∧ x ≤ b)
theorem S46 (x a b : Int) : SP 46 [i64 x,i64 a,i64 b] (vb (win x a b)) false := by
 refine sound (d := 2) tok2 mixed2 Tryz.func46 (by kernel_rfl) (by kernel_rfl) ?_
 unfold win
 (conv=>whnf); refine ifB_dec (fun w1=>?_) (fun w1=>?_)
 ·(conv=>whnf); refine ⟨?_,nofun⟩
  exact endb (decide_eq_decide.2 ⟨fun h=>⟨w1,h⟩,fun h=>h.2⟩)
 ·(conv=>whnf); refine ⟨?_,nofun⟩
  exact endb (decide_eq_false fun h=>w1 h.1).symm
theorem S93 (x a b : Int) : SP 93 [i64 x,i64 a,i64 b] (vb (win x a b)) false := by
 refine sound (d := 2) tok2 mixed2 Tryz.func93 (by kernel_rfl) (by kernel_rfl) ?_
 unfold win
 (conv=>whnf); refine ifB_dec (fun w1=>?_) (fun w1=>?_)
 ·(conv=>whnf); refine ⟨?_,nofun⟩
  exact endb (decide_eq_decide.2 ⟨fun h=>⟨w1,h⟩,fun h=>h.2⟩)
 ·(conv=>whnf); refine ⟨?_,nofun⟩
  exact endb (decide_eq_false fun h=>w1 h.1).symm
theorem S69 (x b : Int) (h1 : -9223372036854775807 ≤ b ∧ b ≤ 9223372036854775807) : SP 69 [i64 x,i64 b] (vb (win x (-b) b)) false := by
 have h := S46 x (-b) b
 refine sound (d := 2) tok2 mixed2 Tryz.func69 (by kernel_rfl) (by kernel_rfl) ?_
 (conv=>whnf); refine ⟨inK64 (by omega) (by omega),?_⟩
 (conv=>whnf); refine .inl ⟨_,_,byX rfl (Sound1.pl (h) rfl),?_⟩
 (conv=>whnf); refine ⟨?_,nofun⟩
 rfl
theorem S47 (c : Bool) (e : Int) : SP 47 [vb c,i64 e] (i64 (if c then 0 else e)) false := by
 refine sound (d := 2) tok2 mixed2 Tryz.func47 (by kernel_rfl) (by kernel_rfl) ?_
 cases c with
 | true =>
  (conv=>whnf); refine ⟨?_,nofun⟩
  rfl
 | false =>
  (conv=>whnf); refine ⟨?_,nofun⟩
  rfl
theorem S38 (l : List Int) (hl : l.length ≤ 1000000000) : SP 38 [ints l] (i64 (firstOf l)) false := by
 refine sound (d := 2) tok2 mixed2 Tryz.func38 (by kernel_rfl) (by kernel_rfl) ?_
 (conv=>whnf); refine ⟨[],[5,6,7],fun st mq=>∃ (k : Nat),(k ≤ l.length) ∧ (firstOf (l.drop k) = firstOf l) ∧ st = ⟨[(5,ints l),(6,i64 l.length),(7,i64 k)],⟨[],[],none,0⟩,[]⟩ ∧ mq = l.length - k,
  ⟨_,_,⟨0,by omega,rfl,rfl,rfl⟩,⟨⟨.inl rfl,rfl,rfl,rfl⟩,trivial,trivial⟩⟩,?_⟩
 rintro s0 m0 ⟨k,hk,hf,rfl,hmeas⟩
 by_cases hlt : k < l.length
 ·have hd := firstOf_drop l k hlt
  conv=>whnf
  (conv=>whnf); refine ifB_dec (fun w1=>?_) (fun w1=>?_)
  ·conv=>whnf
   (conv=>whnf); refine ⟨⟨(by omega),(by omega)⟩,?_⟩
   conv=>whnf
   (conv=>whnf); refine ifB_bne (fun w2=>?_) (fun w2=>?_)
   ·conv=>whnf
    (conv=>whnf); refine ⟨?_,nofun⟩
    rw [if_neg (show ¬ l.getD k 0 = 0 from w2)] at hd
    show i64 _ = i64 _
    rw [← hf,hd]; rfl
   ·conv=>whnf
    (conv=>whnf); refine ⟨inK64 (by omega) (by omega),?_⟩
    rw [if_pos (show l.getD k 0 = 0 from w2)] at hd
    conv=>whnf
    (conv=>whnf); refine ⟨_,_,⟨⟨k + 1,by omega,hd.symm.trans hf,rfl,rfl⟩,by omega⟩,⟨⟨.inl rfl,rfl,rfl,rfl⟩,trivial,trivial⟩⟩
  ·(exfalso; omega)
 ·have e : k = l.length := by omega
  subst e
  conv=>whnf
  (conv=>whnf); refine ifB_dec (fun w1=>?_) (fun w1=>?_)
  ·(exfalso; omega)
  ·conv=>whnf
   (conv=>whnf); refine ⟨?_,nofun⟩
   simp [firstOf] at hf
   show i64 _ = i64 _
   rw [← hf]
end Go.Tr

/- Values equal in depth. Conditions: none. -/
namespace Go.Tr
open Go
variable [GTab]

def AVF : Nat → AV → AV → Prop
 | 0,_,_=>False
 | n + 1,.rslice es len f,.rslice es' len' g=>es = es' ∧ len = len' ∧ ∀ i,i < len → (f i).length = (g i).length ∧ ∀ j x y,nth? (f i) j = some x → nth? (g i) j = some y → x = y ∨ AVF n x y
 | _ + 1,.eslice,.rslice _ len _=>len = 0
 | n + 1,.agg l,.agg l'=>l.length = l'.length ∧ ∀ i x y,nth? l i = some x → nth? l' i = some y → x = y ∨ AVF n x y
 | n + 1,.tuple l,.tuple l'=>l.length = l'.length ∧ ∀ i x y,nth? l i = some x → nth? l' i = some y → x = y ∨ AVF n x y
 | _ + 1,x,y=>x = y
theorem AVF_ok {P : Program} {w : World} {p : Nat → Prop} : ∀ (k : Nat) {x y : AV} {v : Value},AVF k x y → VT P w p x v → VT P w p y v
 | 0,x,y,v,h,_=>h.elim
 | k + 1, x, y, v, h, hx => by
  have eqc : x = y → VT P w p y v := fun e=>e ▸ hx
  have list : ∀ (l l' : List AV) (vs : Array Value),l.length = l'.length → (∀ i x y,nth? l i = some x → nth? l' i = some y → x = y ∨ AVF k x y) → (∀ i x,l[i]? = some x → VT P w p x (vs.getD i undef)) → ∀ i x,l'[i]? = some x → VT P w p x (vs.getD i undef) := by
   intro l l' vs hl he hv i x hi
   have hlt : i < l.length := by rw [hl]; exact (List.getElem?_eq_some_iff.1 hi).1
   have hvi := hv i _ (List.getElem?_eq_getElem hlt)
   rcases he i _ _ (by rw [nth?_eq]; exact List.getElem?_eq_getElem hlt) (by rw [nth?_eq]; exact hi) with e | e
   ·rw [← e]; exact hvi
   ·exact AVF_ok k e hvi
  cases x with
  | rslice es len f =>
   cases y with
   | rslice es' len' g =>
    obtain ⟨rfl,rfl,hf⟩ := h
    cases hx with
    | rslice0=>exact .rslice0 _ _ _ _
    | rslice _ _ _ b off kk gg h1 h2 h3 h4 h5 =>
     refine .rslice _ _ _ b off kk gg h1 h2 (fun i hi=>by rw [← (hf i hi).1]; exact h3 i hi) h4 (fun i j y hi hy=>?_)
     have hl := (hf i hi).1
     have hlt : j < (f i).length := by rw [hl]; exact (List.getElem?_eq_some_iff.1 hy).1
     have hvi := h5 i j _ hi (List.getElem?_eq_getElem hlt)
     rcases (hf i hi).2 j _ y (by rw [nth?_eq]; exact List.getElem?_eq_getElem hlt) (by rw [nth?_eq]; exact hy) with e | e
     ·rw [← e]; exact hvi
     ·exact AVF_ok k e hvi
   | _=>exact eqc h
  | eslice =>
   cases y with
   | rslice es' len' g =>
    have h : len' = 0 := h
    subst h
    cases hx with
    | eslice a=>exact .rslice0 _ _ _ _
   | _=>exact eqc h
  | agg l =>
   cases y with
   | agg l' =>
    obtain ⟨h1,h2⟩ := h
    cases hx with
    | agg _ vs g1 g2 g3=>exact .agg l' vs (by rw [← h1]; exact g1) g2 (list l l' vs h1 h2 g3)
   | _=>exact eqc h
  | tuple l =>
   cases y with
   | tuple l' =>
    obtain ⟨h1,h2⟩ := h
    cases hx with
    | tuple _ vs g1 g3=>exact .tuple l' vs (by rw [← h1]; exact g1) (list l l' vs h1 h2 g3)
   | _=>exact eqc h
  | _=>cases y <;> exact eqc h
theorem Sound1.argsD {P : Program} {f : FuncId} {xs ys : List AV} {r : AV} {fr : Bool} (h : Sound1 P f xs r fr) (hl : ys.length = xs.length) (hx : ∀ i y x,nth? ys i = some y → nth? xs i = some x → y = x ∨ ∃ k,AVF k y x) : Sound1 P f ys r fr := by
 refine ⟨h.1,fun w q vs hq hg hs hv=>h.2 w q vs hq hg (hs.trans hl) fun i x hi=>?_⟩
 have hlt : i < ys.length := by rw [hl]; exact (List.getElem?_eq_some_iff.1 hi).1
 have hvi := hv i _ (List.getElem?_eq_getElem hlt)
 rcases hx i _ x (by rw [nth?_eq]; exact List.getElem?_eq_getElem hlt) (by rw [nth?_eq]; exact hi) with e | ⟨k,hk⟩
 ·rw [← e]; exact hvi
 ·exact AVF_ok k hk hvi
theorem AVF_rows {es n n' : Nat} {f g : Nat → List AV} (hn : n = n') (h : ∀ i,i < n → f i = g i) (k : Nat) : AVF (k + 1) (.rslice es n f) (.rslice es n' g) := by
 refine ⟨rfl,hn,fun i hi=>⟨by rw [h i hi],fun j x y hx hy=>.inl ?_⟩⟩
 rw [h i hi] at hx
 exact Option.some.inj (hx.symm.trans hy)
end Go.Tr

/- Contracts of chapter 6: gates and rules. Conditions: none. -/
namespace Go.Tr
open Go Go.Proofs
set_option maxRecDepth 20000
set_option maxHeartbeats 8000000

theorem S38_2 (a b : Int) {f : Nat → List AV} (h : f 0 = [i64 a] ∧ f 1 = [i64 b]) : SP 38 [.rslice 1 2 f] (i64 (firstOf [a,b])) false := by
 have key : ∀ i,i < 2 → f i = [i64 (([a,b] : List Int).getD i 0)] := fun i hi=>by
  match i,hi with
  | 0,_=>exact h.1
  | 1,_=>exact h.2
 refine (S38 [a,b] (by simp)).argsD rfl fun i y x hy hx=>?_
 match i,hy,hx with
 | 0,hy,hx=>cases hy; cases hx; exact .inr ⟨1,AVF_rows rfl key 0⟩
theorem S38_3 (a b c : Int) {f : Nat → List AV} (h : f 0 = [i64 a] ∧ f 1 = [i64 b] ∧ f 2 = [i64 c]) : SP 38 [.rslice 1 3 f] (i64 (firstOf [a,b,c])) false := by
 have key : ∀ i,i < 3 → f i = [i64 (([a,b,c] : List Int).getD i 0)] := fun i hi=>by
  match i,hi with
  | 0,_=>exact h.1
  | 1,_=>exact h.2.1
  | 2,_=>exact h.2.2
 refine (S38 [a,b,c] (by simp)).argsD rfl fun i y x hy hx=>?_
 match i,hy,hx with
 | 0,hy,hx=>cases hy; cases hx; exact .inr ⟨1,AVF_rows rfl key 0⟩
structure Gt where
 a : Int
 l : Int
 h : Int
 r : Int
structure Ru where
 b : Int
 n : Int
 d : Int
 s : Int
def gateE (g : Gt) : Int :=
  if (0 ≤ g.l ∧ g.l ≤ 10000) ∧ (0 ≤ g.h ∧ g.h ≤ 10000) ∧ (0 ≤ g.a ∧ g.a ≤ 10000) ∧ (1 ≤ g.r ∧ g.r ≤ 10000) then (if g.l ≤ g.h then (if g.l ≤ g.a ∧ g.a ≤ g.h then 0 else 22) else 9) else 2
def rulesE (r : Ru) : Int := if (0 ≤ r.b ∧ r.b ≤ 100000) ∧ (0 ≤ r.n ∧ r.n ≤ 1000) ∧ (1 ≤ r.d ∧ r.d ≤ 1000) ∧ (0 ≤ r.s ∧ r.s ≤ 10000) then 0 else 2
end Go.Tr

/- Contracts of chapter 6: the wanted position, steps of a gate. Conditions: none. -/
namespace Go.Tr
open Go Go.Proofs
set_option maxRecDepth 20000
set_option maxHeartbeats 8000000

theorem ave_tup2 {k : Nat} {a b a' b' : AV} (ha : AVE k a a') (hb : AVE k b b') : AVE (k + 1) (.tuple [a,b]) (.tuple [a',b']) := by
 refine ⟨rfl,fun i x y hx hy=>?_⟩
 match i,hx,hy with
 | 0,hx,hy=>cases hx; cases hy; exact ha
 | 1,hx,hy=>cases hx; cases hy; exact hb
structure GtOk (g : Gt) : Prop where
 l : 0 ≤ g.l ∧ g.l ≤ 10000
 h : 0 ≤ g.h ∧ g.h ≤ 10000
 a : 0 ≤ g.a ∧ g.a ≤ 10000
 r : 1 ≤ g.r ∧ g.r ≤ 10000
 lh : g.l ≤ g.h
 la : g.l ≤ g.a ∧ g.a ≤ g.h
theorem GtOk.of {g : Gt} (h : gateE g = 0) : GtOk g := by
 unfold gateE at h
 (repeat' split at h) <;> first | omega | skip
 rename_i h1 h2 h3
 exact ⟨h1.1,h1.2.1,h1.2.2.1,h1.2.2.2,h2,h3⟩
structure RuOk (r : Ru) : Prop where
 b : 0 ≤ r.b ∧ r.b ≤ 100000
 n : 0 ≤ r.n ∧ r.n ≤ 1000
 d : 1 ≤ r.d ∧ r.d ≤ 1000
 s : 0 ≤ r.s ∧ r.s ≤ 10000
theorem RuOk.of {r : Ru} (h : rulesE r = 0) : RuOk r := by
 unfold rulesE at h
 split at h
 ·rename_i h1; exact ⟨h1.1,h1.2.1,h1.2.2.1,h1.2.2.2⟩
 ·omega
end Go.Tr

/- The law GovernorGates returns true. Conditions: none. -/
/- Contracts of chapter 6: lists of numbers; each one checked; runs of a gate. Conditions: none. -/
/- Contracts of chapter 6: valid polynomials; entries; the greatest common divisor. Conditions: none. -/
namespace Go.Tr
open Go Go.Proofs
set_option maxRecDepth 20000
set_option maxHeartbeats 8000000

theorem S59 (x : Int) (h : -9223372036854775807 ≤ x ∧ x ≤ 9223372036854775807) : SP 59 [i64 x] (i64 (x.natAbs : Nat)) false := by
 refine sound (d := 2) tok2 mixed2 Tryz.func59 (by kernel_rfl) (by kernel_rfl) ?_
 (conv=>whnf); refine ⟨inK64 (by omega) (by omega),?_⟩
 (conv=>whnf); refine ⟨?_,nofun⟩
 exact endi (by split <;> omega)
end Go.Tr

/- Plain laws: whole numbers of any size as digits to the base 10^9. Conditions: none. -/
namespace Go.Tr
open Go Go.Proofs
set_option maxRecDepth 20000
set_option maxHeartbeats 8000000

def digs (n : Nat) : List Int := if h : n = 0 then [] else ((n % 1000000000 : Nat) : Int) :: digs (n / 1000000000)
termination_by n
decreasing_by omega
theorem digs0 : digs 0 = [] := by rw [digs]; rfl
theorem digs_pos {n : Nat} (h : n ≠ 0) : digs n = ((n % 1000000000 : Nat) : Int) :: digs (n / 1000000000) := by
  rw [digs,dif_neg h]
theorem digs_ind {p : Nat → Prop} (h0 : p 0) (hs : ∀ n,n ≠ 0 → p (n / 1000000000) → p n) : ∀ n,p n := by
 intro n
 induction n using Nat.strongRecOn with
 | _ n ih =>
  by_cases h : n = 0
  ·rw [h]; exact h0
  ·exact hs n h (ih _ (by omega))
theorem digs_mono : ∀ n m : Nat,m ≤ n → (digs m).length ≤ (digs n).length := digs_ind (fun m h=>by rw [show m = 0 by omega]; exact Nat.le_refl _) fun n h ih m hm=>by
 by_cases h0 : m = 0
 ·rw [h0,digs0]; simp
 ·rw [digs_pos h,digs_pos h0]
  have := ih (m / 1000000000) (Nat.div_le_div_right hm)
  simpa using this
theorem drop_zero {l : List Int} {i : Nat} (h : l.drop i = digs 0) : l.length ≤ i ∧ l.getD i 0 = 0 ∧ l.drop (i + 1) = digs 0 := by
 rw [digs0] at h
 have hi : l.length ≤ i := List.drop_eq_nil_iff.1 h
 refine ⟨hi,?_,?_⟩
 ·rw [List.getD_eq_getElem?_getD,List.getElem?_eq_none hi]; rfl
 ·rw [digs0]; exact List.drop_eq_nil_of_le (by omega)
end Go.Tr

/- Contracts: whole numbers of any size. Conditions: none. -/
namespace Go.Tr
open Go Go.Proofs
set_option maxRecDepth 20000
set_option maxHeartbeats 8000000

theorem digs_len : ∀ (k n : Nat),n < 1000000000 ^ k → (digs n).length ≤ k
 | 0,n,h=>by
  have : n = 0 := by simpa using h
  rw [this,digs0]; simp
 | k + 1, n, h => by
  by_cases h0 : n = 0
  ·rw [h0,digs0]; simp
  ·rw [digs_pos h0]
   have := digs_len k (n / 1000000000) (by rw [Nat.pow_succ] at h; exact Nat.div_lt_of_lt_mul (by rw [Nat.mul_comm]; exact h))
   simpa using this
theorem digs_lt : ∀ n : Nat,n < 1000000000 ^ (digs n).length := digs_ind (by rw [digs0]; decide) fun n h ih=>by
  rw [digs_pos h,List.length_cons,Nat.pow_succ]
  omega
def Wd (z : Int) : Prop := (digs z.natAbs).length ≤ 100
theorem digs_add_len (m n : Nat) : (digs (m + n)).length ≤ max (digs m).length (digs n).length + 1 := by
 refine digs_len _ _ ?_
 have h1 := digs_lt m
 have h2 := digs_lt n
 have h3 : (1000000000 : Nat) ^ (digs m).length ≤ 1000000000 ^ max (digs m).length (digs n).length := Nat.pow_le_pow_right (by decide) (Nat.le_max_left _ _)
 have h4 : (1000000000 : Nat) ^ (digs n).length ≤ 1000000000 ^ max (digs m).length (digs n).length := Nat.pow_le_pow_right (by decide) (Nat.le_max_right _ _)
 rw [Nat.pow_succ]
 omega
theorem Wd.neg {z : Int} (h : Wd z) : Wd (-z) := by
  unfold Wd at h ⊢
  rwa [show (-z).natAbs = z.natAbs by omega]
end Go.Tr

/- Contracts: products of whole numbers of any size. Conditions: none. -/
/- Contracts: whole parts of quotients. Conditions: none. Printed by gen166.py. -/
/- Contracts: fractions of whole numbers of any size. Conditions: none. -/
namespace Go.Tr
open Go Go.Proofs
set_option maxRecDepth 20000
set_option maxHeartbeats 8000000

theorem Wd.le {a b : Int} (h : Wd b) (hl : a.natAbs ≤ b.natAbs) : Wd a := Nat.le_trans (digs_mono _ _ hl) h
end Go.Tr

/- Plain laws: sizes of fractions. Conditions: none. -/
namespace Go.Tr
open Go Go.Proofs
set_option maxRecDepth 20000
set_option maxHeartbeats 8000000

def Rk (k : Nat) (q : Rat) : Prop := (digs q.num.natAbs).length ≤ k ∧ (digs q.den).length ≤ k
theorem digs_mul (m n : Nat) : (digs (m * n)).length ≤ (digs m).length + (digs n).length :=
  digs_len _ _ (by rw [Nat.pow_add]; exact Nat.mul_lt_mul'' (digs_lt m) (digs_lt n))
theorem div_num_le {n d : Int} (hd : d ≠ 0) : (Rat.divInt n d).num.natAbs ≤ n.natAbs := by
 rw [Rat.num_divInt]
 refine Nat.le_trans (Int.natAbs_ediv_le_natAbs _ _) ?_
 rw [Int.natAbs_mul,Int.natAbs_sign_of_ne_zero hd,Nat.one_mul]
 exact Nat.le_refl _
theorem div_den_le {n d : Int} (hd : d ≠ 0) : (Rat.divInt n d).den ≤ d.natAbs := by
  rw [Rat.den_divInt,if_neg hd]
  exact Nat.div_le_self _ _
theorem Rk.mono {k l : Nat} {q : Rat} (h : Rk k q) (hl : k ≤ l) : Rk l q := ⟨Nat.le_trans h.1 hl,Nat.le_trans h.2 hl⟩
theorem Rk.of {k : Nat} {n d : Int} (hd : d ≠ 0) (h1 : (digs n.natAbs).length ≤ k) (h2 : (digs d.natAbs).length ≤ k) : Rk k (Rat.divInt n d) :=
  ⟨Nat.le_trans (digs_mono _ _ (div_num_le hd)) h1,Nat.le_trans (digs_mono _ _ (div_den_le hd)) h2⟩
def Zk (k : Nat) (z : Int) : Prop := (digs z.natAbs).length ≤ k
theorem Zk.mul {k l : Nat} {a b : Int} (ha : Zk k a) (hb : Zk l b) : Zk (k + l) (a * b) := by
 unfold Zk at *
 rw [Int.natAbs_mul]
 have := digs_mul a.natAbs b.natAbs
 omega
theorem Zk.add {k : Nat} {a b : Int} (ha : Zk k a) (hb : Zk k b) : Zk (k + 1) (a + b) := by
 unfold Zk at *
 have h1 := digs_add_len a.natAbs b.natAbs
 have h2 := digs_mono _ _ (Int.natAbs_add_le a b)
 omega
theorem Rk.num {k : Nat} {q : Rat} (h : Rk k q) : Zk k q.num := h.1
theorem Rk.den {k : Nat} {q : Rat} (h : Rk k q) : Zk k (q.den : Nat) := by
 unfold Zk
 rw [Int.natAbs_natCast]
 exact h.2
theorem Rk.divI {k : Nat} {n d : Int} (hd : d ≠ 0) (h1 : Zk k n) (h2 : Zk k d) : Rk k (Rat.divInt n d) := Rk.of hd h1 h2
theorem rat_add (p q : Rat) : p + q = Rat.divInt (p.num * (q.den : Nat) + q.num * (p.den : Nat)) ((p.den : Nat) * (q.den : Nat)) := by
 rw [Rat.add_def',← Rat.divInt_ofNat]
 push_cast
 rfl
theorem rat_mul (p q : Rat) : p * q = Rat.divInt (p.num * q.num) ((p.den : Nat) * (q.den : Nat)) := by
 rw [Rat.mul_def',← Rat.divInt_ofNat]
 push_cast
 rfl
theorem den_pos (q : Rat) : 0 < (q.den : Int) := by have := q.den_pos; omega
theorem Rk.add {k l : Nat} {p q : Rat} (hp : Rk k p) (hq : Rk l q) : Rk (k + l + 1) (p + q) := by
 rw [rat_add]
 have hd : ((p.den : Nat) * (q.den : Nat) : Int) ≠ 0 := Int.ne_of_gt (Int.mul_pos (den_pos p) (den_pos q))
 refine Rk.divI hd ?_ ?_
 ·have h1 := hp.num.mul hq.den
  have h2 := hq.num.mul hp.den
  rw [Nat.add_comm l k] at h2
  exact h1.add h2
 ·exact Nat.le_trans (hp.den.mul hq.den) (Nat.le_succ _)
theorem Rk.mul {k l : Nat} {p q : Rat} (hp : Rk k p) (hq : Rk l q) : Rk (k + l) (p * q) := by
  rw [rat_mul]
  exact Rk.divI (Int.ne_of_gt (Int.mul_pos (den_pos p) (den_pos q))) (hp.num.mul hq.num) (hp.den.mul hq.den)
theorem Rk.neg {k : Nat} {p : Rat} (hp : Rk k p) : Rk k (-p) := by
 refine ⟨?_,hp.2⟩
 rw [Rat.neg_num,Int.natAbs_neg]
 exact hp.1
theorem Rk.sub {k l : Nat} {p q : Rat} (hp : Rk k p) (hq : Rk l q) : Rk (k + l + 1) (p - q) := by
  rw [Rat.sub_eq_add_neg]
  exact hp.add hq.neg
end Go.Tr

/- Plain laws: fractions in lowest terms. Conditions: none. (In chapter 5 in the place of TrSX.) -/
namespace Go.Tr
open Go Go.Proofs
set_option maxRecDepth 20000
set_option maxHeartbeats 8000000

def gcdI (a b : Int) : Int := (Nat.gcd a.natAbs b.natAbs : Nat)
end Go.Tr

/- Contracts: sums, products and comparisons of fractions of any size. Conditions: none. -/
/- Plain laws: lists in strict order, each item once. Conditions: none. -/
/- Plain laws: sorting by insertion, for any order. Conditions: none. -/
/- Plain laws: the order of spots as fractions. Conditions: none. -/
namespace Go.Tr
open Go Go.Proofs
set_option maxRecDepth 20000
set_option maxHeartbeats 8000000

abbrev Q2 := Rat × Rat
def lt2 (a b : Q2) : Prop := a.1 < b.1 ∨ (a.1 = b.1 ∧ a.2 < b.2)
instance : DecidableRel lt2 := fun a b=>inferInstanceAs (Decidable (a.1 < b.1 ∨ (a.1 = b.1 ∧ a.2 < b.2)))
abbrev Q3 := Rat × Rat × Rat
def lt3 (a b : Q3) : Prop := a.1 < b.1 ∨ (a.1 = b.1 ∧ lt2 a.2 b.2)
instance : DecidableRel lt3 := fun a b=>inferInstanceAs (Decidable (a.1 < b.1 ∨ (a.1 = b.1 ∧ lt2 a.2 b.2)))
def smR (q : Rat) : Prop := (-1000000000 ≤ q.num ∧ q.num ≤ 1000000000) ∧ q.den ≤ 1000000000
instance (q : Rat) : Decidable (smR q) := inferInstanceAs (Decidable ((-1000000000 ≤ q.num ∧ q.num ≤ 1000000000) ∧ q.den ≤ 1000000000))
end Go.Tr

/- Plain laws of chapter 5: numbers over one denominator as fractions; curves; what lies on a line. Conditions: none. -/
namespace Go.Tr
open Go Go.Proofs
set_option maxRecDepth 20000
set_option maxHeartbeats 8000000

abbrev P3 := Int × Int × Int
def p0 : P3 := (0,0,0)
abbrev Nm := P3 × Int
def n0 : Nm := (p0,0)
def crossB (a b : Int) : Prop := (a < 0 ∧ b > 0) ∨ (a > 0 ∧ b < 0)
instance (a b : Int) : Decidable (crossB a b) := inferInstanceAs (Decidable ((a < 0 ∧ b > 0) ∨ (a > 0 ∧ b < 0)))
def q0 : Q3 := (0,0,0)
theorem getD_mapG {α β : Type} (f : α → β) (l : List α) (k : Nat) (d : α) (e : β) (h : k < l.length) : (l.map f).getD k e = f (l.getD k d) := by
  simp [List.getD_eq_getElem?_getD,h]
end Go.Tr

/- Plain laws of chapter 5: tables. Conditions: none. -/
namespace Go.Tr
open Go Go.Proofs
set_option maxRecDepth 20000
set_option maxHeartbeats 8000000

structure MRow where
  o : Int
  ps : List P3
def r0 : MRow := ⟨0,[]⟩
def turnI (a b c : P3) : Int := (b.1 - a.1) * (c.2.1 - a.2.1) - (c.1 - a.1) * (b.2.1 - a.2.1)
def fstE (f : Nat → Int) : Nat → Nat → Int × Int
  | 0,_=>(0,0)
  | n + 1,k=>if f k ≠ 0 then ((k : Int),f k) else fstE f n (k + 1)
theorem fstE_step (f : Nat → Int) {n k : Nat} (h : k < n) : fstE f (n - k) k = if f k ≠ 0 then ((k : Int),f k) else fstE f (n - (k + 1)) (k + 1) := by
  obtain ⟨m,e⟩ : ∃ m,n - k = m + 1 := ⟨n - k - 1,by omega⟩
  rw [e,fstE,show n - (k + 1) = m by omega]
theorem fstE_end (f : Nat → Int) {n k : Nat} (h : ¬ k < n) : fstE f (n - k) k = (0,0) := by
  rw [show n - k = 0 by omega,fstE]
theorem fstE_all {f : Nat → Int} : ∀ {n k : Nat},(fstE f n k).2 = 0 → ∀ i,k ≤ i → i < k + n → f i = 0
 | 0,k,_,i,h1,h2=>by omega
 | n + 1, k, h, i, h1, h2 => by
  unfold fstE at h
  by_cases hk : f k = 0
  ·rw [if_neg (not_not_intro hk)] at h
   by_cases e : i = k
   ·rw [e]; exact hk
   ·exact fstE_all h i (by omega) (by omega)
  ·rw [if_pos hk] at h; exact absurd h hk
def pntE (p : P3) : Int := if (-1000 ≤ p.1 ∧ p.1 ≤ 1000) ∧ (-1000 ≤ p.2.1 ∧ p.2.1 ≤ 1000) ∧ -10000 ≤ p.2.2 ∧ p.2.2 ≤ 10000 then 0 else 2
def pntsE (l : List P3) : Int := (fstE (fun k=>pntE (l.getD k p0)) l.length 0).2
def npT (t : List MRow) : Nat := (t.getD 0 r0).ps.length
def rowA (t : List MRow) (i : Nat) : Int :=
 if ¬ (0 ≤ (t.getD i r0).o ∧ (t.getD i r0).o ≤ 100) then 2
 else if ¬ (2 ≤ (t.getD i r0).ps.length ∧ (t.getD i r0).ps.length = npT t) then 10
 else if 6 < (t.getD i r0).ps.length then 8
 else pntsE (t.getD i r0).ps
def rowO (t : List MRow) (i : Nat) : Int :=
  if i = 0 then 0 else if (t.getD i r0).o ≤ (t.getD (i - 1) r0).o then 9 else if (t.getD i r0).o - (t.getD (i - 1) r0).o > 20 then 22 else 0
def rowX (t : List MRow) (i : Nat) : Int := if rowA t i ≠ 0 then rowA t i else rowO t i
def ptT (t : List MRow) (i k : Nat) : P3 := (t.getD i r0).ps.getD k p0
def tri1 (t : List MRow) (i k : Nat) : Int := turnI (ptT t i k) (ptT t i (k + 1)) (ptT t (i + 1) k)
def tri2 (t : List MRow) (i k : Nat) : Int := turnI (ptT t i (k + 1)) (ptT t (i + 1) (k + 1)) (ptT t (i + 1) k)
def quadE (t : List MRow) (i k : Nat) : Int := if tri1 t i k ≤ 0 then 13 else if tri2 t i k ≤ 0 then 13 else 0
def stripE (t : List MRow) (i : Nat) : Int := (fstE (quadE t i) ((t.getD i r0).ps.length - 1) 0).2
def chkM (t : List MRow) : Int × Int :=
  if t.length < 2 then (0,10) else if t.length > 6 then (0,8)
  else if (fstE (rowX t) t.length 0).2 ≠ 0 then fstE (rowX t) t.length 0 else fstE (stripE t) (t.length - 1) 0
structure TblOk (t : List MRow) : Prop where
 n : 2 ≤ t.length ∧ t.length ≤ 6
 np : 2 ≤ npT t ∧ npT t ≤ 6
 len : ∀ i,i < t.length → (t.getD i r0).ps.length = npT t
 op : ∀ i,i < t.length → 0 ≤ (t.getD i r0).o ∧ (t.getD i r0).o ≤ 100
 ord : ∀ i,i + 1 < t.length → (t.getD i r0).o < (t.getD (i + 1) r0).o ∧ (t.getD (i + 1) r0).o - (t.getD i r0).o ≤ 20
 pts : ∀ i k,i < t.length → k < npT t → (-1000 ≤ (ptT t i k).1 ∧ (ptT t i k).1 ≤ 1000) ∧ (-1000 ≤ (ptT t i k).2.1 ∧ (ptT t i k).2.1 ≤ 1000) ∧ -10000 ≤ (ptT t i k).2.2 ∧ (ptT t i k).2.2 ≤ 10000
 ar : ∀ i k,i + 1 < t.length → k + 1 < npT t → 0 < tri1 t i k ∧ 0 < tri2 t i k
theorem rowA_ok {t : List MRow} {i : Nat} (h : rowA t i = 0) : (0 ≤ (t.getD i r0).o ∧ (t.getD i r0).o ≤ 100) ∧ (2 ≤ (t.getD i r0).ps.length ∧ (t.getD i r0).ps.length = npT t) ∧ (t.getD i r0).ps.length ≤ 6 ∧ pntsE (t.getD i r0).ps = 0 := by
 unfold rowA at h
 by_cases h1 : 0 ≤ (t.getD i r0).o ∧ (t.getD i r0).o ≤ 100
 ·rw [if_neg (not_not_intro h1)] at h
  by_cases h2 : 2 ≤ (t.getD i r0).ps.length ∧ (t.getD i r0).ps.length = npT t
  ·rw [if_neg (not_not_intro h2)] at h
   by_cases h3 : 6 < (t.getD i r0).ps.length
   ·rw [if_pos h3] at h; exact absurd h (by decide)
   ·rw [if_neg h3] at h
    exact ⟨h1,h2,by omega,h⟩
  ·rw [if_pos h2] at h; exact absurd h (by decide)
 ·rw [if_pos h1] at h; exact absurd h (by decide)
theorem pntE_ok {p : P3} (h : pntE p = 0) : (-1000 ≤ p.1 ∧ p.1 ≤ 1000) ∧ (-1000 ≤ p.2.1 ∧ p.2.1 ≤ 1000) ∧ -10000 ≤ p.2.2 ∧ p.2.2 ≤ 10000 := by
 unfold pntE at h
 by_cases h1 : (-1000 ≤ p.1 ∧ p.1 ≤ 1000) ∧ (-1000 ≤ p.2.1 ∧ p.2.1 ≤ 1000) ∧ -10000 ≤ p.2.2 ∧ p.2.2 ≤ 10000
 ·exact h1
 ·rw [if_neg h1] at h; exact absurd h (by decide)
theorem TblOk.of {t : List MRow} (h : (chkM t).2 = 0) : TblOk t := by
 unfold chkM at h
 by_cases h1 : t.length < 2
 ·rw [if_pos h1] at h; exact absurd h (by decide)
 ·rw [if_neg h1] at h
  by_cases h2 : t.length > 6
  ·rw [if_pos h2] at h; exact absurd h (by decide)
  ·rw [if_neg h2] at h
   by_cases h3 : (fstE (rowX t) t.length 0).2 = 0
   ·rw [if_neg (not_not_intro h3)] at h
    have hr : ∀ i,i < t.length → rowX t i = 0 := fun i hi=>fstE_all h3 i (Nat.zero_le _) (by omega)
    have hA : ∀ i,i < t.length → rowA t i = 0 := fun i hi=>by
     have := hr i hi
     unfold rowX at this
     by_cases e : rowA t i = 0
     ·exact e
     ·rw [if_pos e] at this; exact this
    have hO : ∀ i,i < t.length → rowO t i = 0 := fun i hi=>by
     have := hr i hi
     unfold rowX at this
     rwa [if_neg (not_not_intro (hA i hi))] at this
    have hlen : ∀ i,i < t.length → (t.getD i r0).ps.length = npT t := fun i hi=>(rowA_ok (hA i hi)).2.1.2
    have hp0 := rowA_ok (hA 0 (by omega))
    refine ⟨by omega,⟨hp0.2.1.1,hp0.2.2.1⟩,hlen,fun i hi=>(rowA_ok (hA i hi)).1,fun i hi=>?_,fun i k hi hk=>?_,fun i k hi hk=>?_⟩
    ·have := hO (i + 1) hi
     unfold rowO at this
     rw [if_neg (by omega),show i + 1 - 1 = i by omega] at this
     by_cases e1 : (t.getD (i + 1) r0).o ≤ (t.getD i r0).o
     ·rw [if_pos e1] at this; exact absurd this (by decide)
     ·rw [if_neg e1] at this
      by_cases e2 : (t.getD (i + 1) r0).o - (t.getD i r0).o > 20
      ·rw [if_pos e2] at this; exact absurd this (by decide)
      ·omega
    ·have := (rowA_ok (hA i hi)).2.2.2
     have := fstE_all this k (Nat.zero_le _) (by rw [hlen i hi]; omega)
     exact pntE_ok this
    ·have := fstE_all h i (Nat.zero_le _) (by omega)
     have := fstE_all this k (Nat.zero_le _) (by rw [hlen i (by omega)]; omega)
     unfold quadE at this
     by_cases e1 : tri1 t i k ≤ 0
     ·rw [if_pos e1] at this; exact absurd this (by decide)
     ·rw [if_neg e1] at this
      by_cases e2 : tri2 t i k ≤ 0
      ·rw [if_pos e2] at this; exact absurd this (by decide)
      ·omega
   ·rw [if_pos h3] at h; exact absurd h h3
end Go.Tr

/- Contracts of chapter 5: fractions, spots by themselves. Conditions: none. -/
-- seat YtnphjhgmoijbfaaGreatDoor
namespace Go.Tr
open Go Go.Proofs
set_option maxRecDepth 20000
set_option maxHeartbeats 8000000

def AV.atom : AV → Prop
  | .agg _ | .tuple _=>False
  | _=>True
theorem ave_atom {k : Nat} (x : AV) (h : x.atom) : AVE (k + 1) x x := by
  cases x <;> first | exact h.elim | rfl | exact ⟨rfl,rfl,fun _ _=>rfl⟩
theorem ave_aggR {k : Nat} {l : List AV} (h : ∀ x ∈ l,x.atom) : AVE (k + 2) (.agg l) (.agg l) :=
 ⟨rfl,fun i x y hx hy=>by
  rw [hx] at hy; cases hy
  rw [nth?_eq] at hx
  exact ave_atom x (h x (List.mem_of_getElem? hx))⟩
def lowF (f : Int × Int) : Prop := 0 < f.2 ∧ gcdI f.1 f.2 = 1
instance (f : Int × Int) : Decidable (lowF f) := inferInstanceAs (Decidable (0 < f.2 ∧ gcdI f.1 f.2 = 1))
end Go.Tr

/- Contracts of chapter 5: quotients of whole numbers, spots, fractions of any size as small ones. Conditions: none. -/
-- seat YtnphjhgmoijbfaaGreatDoor
namespace Go.Tr
open Go Go.Proofs
set_option maxRecDepth 20000
set_option maxHeartbeats 8000000

abbrev F3 := (Int × Int) × (Int × Int) × Int × Int
end Go.Tr

/- Contracts of chapter 5: tables. Conditions: none. -/
-- seat YtnphjhgmoijbfaaGreatDoor
namespace Go.Tr
open Go Go.Proofs
set_option maxRecDepth 20000
set_option maxHeartbeats 8000000

abbrev ptC (p : P3) : List AV := [i64 p.1,i64 p.2.1,i64 p.2.2]
def ptsA (l : List P3) : AV := .rslice 3 l.length fun i=>[i64 (l.getD i p0).1,i64 (l.getD i p0).2.1,i64 (l.getD i p0).2.2]
abbrev rowC (r : MRow) : List AV := [i64 r.o,ptsA r.ps]
def rowsA (t : List MRow) : AV := .rslice 2 t.length fun i=>[i64 (t.getD i r0).o,ptsA (t.getD i r0).ps]
abbrev tblA (t : List MRow) : AV := .agg [rowsA t]
theorem S130 (p : P3) : SP 130 [.agg [i64 p.1,i64 p.2.1,i64 p.2.2]] (i64 (pntE p)) false := by
 have h1 := S69 p.1 1000 (by decide)
 have h2 := S69 p.2.1 1000 (by decide)
 have h3 := S69 p.2.2 10000 (by decide)
 have h78t := S47 (win p.2.2 (-10000) 10000) 2
 have h78f := S47 false 2
 unfold pntE
 refine sound (d := 2) tok2 mixed2 Tryz.func130 (by kernel_rfl) (by kernel_rfl) ?_
 (conv=>whnf); refine .inl ⟨_,_,byX rfl (Sound1.pl (h1) rfl),?_⟩
 (conv=>whnf); refine ifB_dec (fun w1=>?_) (fun w1=>?_)
 ·(conv=>whnf); refine .inl ⟨_,_,byX rfl (Sound1.pl (h2) rfl),?_⟩
  (conv=>whnf); refine ifB_dec (fun w2=>?_) (fun w2=>?_)
  ·(conv=>whnf); refine .inl ⟨_,_,byX rfl (Sound1.pl (h3) rfl),?_⟩
   (conv=>whnf); refine .inl ⟨_,_,byX rfl (Sound1.pl (h78t) rfl),?_⟩
   (conv=>whnf); refine ⟨?_,nofun⟩
   refine endi ?_
   unfold win
   by_cases h : -10000 ≤ p.2.2 ∧ p.2.2 ≤ 10000
   ·rw [if_pos (decide_eq_true h),if_pos ⟨by assumption,by assumption,h.1,h.2⟩]
   ·rw [if_neg (by simpa using h),if_neg (fun e=>h e.2.2)]
  ·(conv=>whnf); refine .inl ⟨_,_,byX rfl (Sound1.pl (h78f) rfl),?_⟩
   (conv=>whnf); refine ⟨?_,nofun⟩
   exact endi (if_neg (fun e=>absurd e.2.1 (by assumption))).symm
 ·(conv=>whnf); refine .inl ⟨_,_,byX rfl (Sound1.pl (h78f) rfl),?_⟩
  (conv=>whnf); refine ⟨?_,nofun⟩
  exact endi (if_neg (fun e=>absurd e.1 (by assumption))).symm
theorem fstE_succ (f : Nat → Int) : ∀ (k j : Nat),(fstE f (k + 1) j).2 = if (fstE f k j).2 ≠ 0 then (fstE f k j).2 else f (j + k)
 | 0,j=>by
  show (if f j ≠ 0 then ((j : Int),f j) else (0,0)).2 = if (0 : Int) ≠ 0 then 0 else f j
  rw [if_neg (show ¬ (0 : Int) ≠ 0 by decide)]
  by_cases h : f j = 0
  ·rw [if_neg (not_not_intro h),h]
  ·rw [if_pos h]
 | k + 1, j => by
  have ih := fstE_succ f k (j + 1)
  rw [fstE]
  by_cases h : f j = 0
  ·rw [if_neg (not_not_intro h),ih,show fstE f (k + 1) j = fstE f k (j + 1) by rw [fstE,if_neg (not_not_intro h)],show j + 1 + k = j + (k + 1) by omega]
  ·rw [if_pos h,show fstE f (k + 1) j = ((j : Int),f j) by rw [fstE,if_pos h]]
   exact (if_pos h).symm
def ptsP (l : List P3) (k : Nat) : Int := (fstE (fun k=>pntE (l.getD k p0)) k 0).2
theorem ptsP_succ (l : List P3) (k : Nat) : ptsP l (k + 1) = if ptsP l k ≠ 0 then ptsP l k else pntE (l.getD k p0) := by
  unfold ptsP
  rw [fstE_succ,Nat.zero_add]
def rowB (t : List MRow) (i : Nat) : Int :=
  firstOf [if 0 ≤ (t.getD i r0).o ∧ (t.getD i r0).o ≤ 100 then 0 else 2,if 2 ≤ (t.getD i r0).ps.length ∧ (t.getD i r0).ps.length = npT t then 0 else 10,if (t.getD i r0).ps.length ≤ 6 then 0 else 8]
theorem ifw (o a b x : Int) : (if win o a b = true then (0 : Int) else x) = if a ≤ o ∧ o ≤ b then 0 else x := by
 unfold win
 by_cases h : a ≤ o ∧ o ≤ b
 ·rw [if_pos (decide_eq_true h),if_pos h]
 ·rw [if_neg (by simpa using h),if_neg h]
theorem if6 (n : Nat) (x : Int) : (if decide ((n : Int) ≤ 6) = true then (0 : Int) else x) = if n ≤ 6 then 0 else x := by
 by_cases h : n ≤ 6
 ·rw [if_pos (decide_eq_true (by omega)),if_pos h]
 ·rw [if_neg (by simp; omega),if_neg h]
theorem rowB_A {t : List MRow} {i : Nat} (h : 2 ≤ (t.getD i r0).ps.length) :
  firstOf [if win (t.getD i r0).o 0 100 = true then 0 else 2,if (((t.getD i r0).ps.length : Int) == ((t.getD 0 r0).ps.length : Int)) = true then 0 else 10,if decide (((t.getD i r0).ps.length : Int) ≤ 6) = true then 0 else 8] = rowB t i := by
 unfold rowB npT
 rw [ifw,if6]
 generalize (t.getD i r0).ps.length = a at *
 generalize (t.getD 0 r0).ps.length = b at *
 have e : (if ((a : Int) == (b : Int)) = true then (0 : Int) else 10) = if 2 ≤ a ∧ a = b then 0 else 10 := by
  by_cases h2 : a = b
  ·rw [if_pos (by simp [h2]),if_pos ⟨h,h2⟩]
  ·rw [if_neg (by simp; omega),if_neg (fun e=>h2 e.2)]
 rw [e]
theorem rowB_B {t : List MRow} {i : Nat} (h : ¬ 2 ≤ (t.getD i r0).ps.length) :
  firstOf [if win (t.getD i r0).o 0 100 = true then 0 else 2,if false = true then 0 else 10,if decide (((t.getD i r0).ps.length : Int) ≤ 6) = true then 0 else 8] = rowB t i := by
 unfold rowB npT
 rw [ifw,if6]
 generalize (t.getD i r0).ps.length = a at *
 generalize (t.getD 0 r0).ps.length = b at *
 have e : (if 2 ≤ a ∧ a = b then (0 : Int) else 10) = 10 := if_neg (fun e=>h e.1)
 rw [e]
 rfl
theorem if_key (A B C : Prop) [Decidable A] [Decidable B] [Decidable C] (z : Int) : (if (if (if A then (0 : Int) else 2) ≠ 0 then (if A then (0 : Int) else 2) else if (if B then (0 : Int) else 10) ≠ 0 then (if B then (0 : Int) else 10) else if C then (0 : Int) else 8) ≠ 0 then (if (if A then (0 : Int) else 2) ≠ 0 then (if A then (0 : Int) else 2) else if (if B then (0 : Int) else 10) ≠ 0 then (if B then (0 : Int) else 10) else if C then (0 : Int) else 8) else z) = if ¬ A then 2 else if ¬ B then 10 else if ¬ C then 8 else z := by
  by_cases a : A <;> by_cases b : B <;> by_cases c : C <;> simp [a,b,c]
theorem rowB_eq (t : List MRow) (i : Nat) : (if rowB t i ≠ 0 then rowB t i else ptsP (t.getD i r0).ps (t.getD i r0).ps.length) = rowA t i := by
 unfold rowB rowA pntsE ptsP
 rw [first3,if_key]
 simp only [Nat.not_le]
def Fit (t : List MRow) : Prop := t.length ≤ 1000000 ∧ ∀ i,(t.getD i r0).ps.length ≤ 1000000
theorem S92 (t : List MRow) (ht : Fit t) (i : Nat) (hi : i < t.length) (hp : i = 0 ∨ (0 ≤ (t.getD (i - 1) r0).o ∧ (t.getD (i - 1) r0).o ≤ 100)) : SP 92 [tblA t, i64 i] (i64 (rowX t i)) false := by
 have h75 := S46 (t.getD i r0).o 0 100
 have h78w := S47 (win (t.getD i r0).o 0 100) 2
 have h78e := S47 (((t.getD i r0).ps.length : Int) == ((t.getD 0 r0).ps.length : Int)) 10
 have h78f := S47 false 10
 have h786 := S47 (decide (((t.getD i r0).ps.length : Int) ≤ 6)) 8
 have hl := ht.2 i
 by_cases h2 : 2 ≤ (t.getD i r0).ps.length
 ·have h2' : (((t.getD (i : Int).toNat r0).ps.length : Int) ≥ 2) := by show (((t.getD i r0).ps.length : Int) ≥ 2); omega
  have h76 := @S38_3 (if win (t.getD i r0).o 0 100 = true then 0 else 2) (if (((t.getD i r0).ps.length : Int) == ((t.getD 0 r0).ps.length : Int)) = true then 0 else 10) (if decide (((t.getD i r0).ps.length : Int) ≤ 6) = true then 0 else 8)
  rw [rowB_A h2] at h76
  refine sound (d := 2) tok2 mixed2 Tryz.func92 (by kernel_rfl) (by kernel_rfl) ?_
  (conv=>whnf); refine ⟨⟨(by omega),(by omega)⟩,?_⟩
  (conv=>whnf); refine ⟨[],by kernel_rfl,?_⟩
  (conv=>whnf); refine .inl ⟨_,_,byX rfl (Sound1.pl (h75) rfl),?_⟩
  (conv=>whnf); refine .inl ⟨_,_,byX rfl (Sound1.pl (h78w) rfl),?_⟩
  (conv=>whnf); refine ifB_dec (fun w1=>?_) (fun w1=>?_)
  ·(conv=>whnf); refine ⟨⟨(by omega),(by omega)⟩,?_⟩
   (conv=>whnf); refine .inl ⟨_,_,byX rfl (Sound1.pl (h78e) rfl),?_⟩
   (conv=>whnf); refine .inl ⟨_,_,byX rfl (Sound1.pl (h786) rfl),?_⟩
   (conv=>whnf); refine .inl ⟨_,_,byX rfl (Sound1.pl (h76 ⟨rfl,rfl,rfl⟩) rfl),?_⟩
   (conv=>whnf); refine ⟨[],[1,2,5,6,44,45,46],fun st mq=>∃ (k : Nat) (e : Int) (F2 : Nat → List AV),(k ≤ (t.getD i r0).ps.length) ∧ (e = if rowB t i ≠ 0 then rowB t i else ptsP (t.getD i r0).ps k) ∧ st = ⟨[(1,i64 i),(2,.optr 0 0 0 0),(5,.optr 1 0 0 0),(6,i64 e),(44,ptsA (t.getD i r0).ps),(45,i64 (t.getD i r0).ps.length),(46,i64 k)],⟨[⟨1,1,fun _=>[rowsA t],0,false,true,true⟩,⟨2,1,fun _=>[i64 (t.getD i r0).o,ptsA (t.getD i r0).ps],0,false,true,true⟩,⟨1,3,F2,0,false,true,false⟩],[],none,0⟩,[]⟩ ∧ mq = (t.getD i r0).ps.length - k,
    ⟨_,_,⟨0,rowB t i,_,by omega,(by by_cases h : rowB t i = 0; (rw [if_neg (not_not_intro h),h]; rfl); rw [if_pos h]),rfl,rfl⟩,⟨⟨.inl rfl,rfl,rfl,rfl⟩,⟨⟨rfl,rfl,rfl,rfl,fun _=>rfl,fun _ _=>.inl rfl⟩,⟨⟨rfl,rfl,rfl,rfl,fun _=>rfl,fun _ _=>.inl rfl⟩,⟨⟨rfl,rfl,rfl,rfl,fun _=>rfl,fun _ _=>.inl rfl⟩,trivial⟩⟩⟩,trivial⟩⟩,?_⟩
   rintro s0 m0 ⟨k,e,F2,hk,he,rfl,hmeas⟩
   by_cases hlt : k < (t.getD i r0).ps.length
   ·have h222 := S130 ((t.getD i r0).ps.getD k p0)
    have h762 := @S38_2 e (pntE ((t.getD i r0).ps.getD k p0))
    rw [first2] at h762
    conv=>whnf
    (conv=>whnf); refine ifB_dec (fun w2=>?_) (fun w2=>?_)
    ·conv=>whnf
     (conv=>whnf); refine ⟨⟨(by omega),(by omega)⟩,?_⟩
     conv=>whnf
     (conv=>whnf); refine .inl ⟨_,_,byX rfl (Sound1.pl (h222) rfl),?_⟩
     conv=>whnf
     (conv=>whnf); refine .inl ⟨_,_,byX rfl (Sound1.pl (h762 ⟨rfl,rfl⟩) rfl),?_⟩
     conv=>whnf
     (conv=>whnf); refine ⟨inK64 (by omega) (by omega),?_⟩
     conv=>whnf
     (conv=>whnf); refine ⟨_,_,⟨⟨k + 1,(if e ≠ 0 then e else pntE ((t.getD i r0).ps.getD k p0)),_,by omega,(by rw [he,ptsP_succ]; by_cases hb : rowB t i = 0; (rw [if_neg (not_not_intro hb),if_neg (not_not_intro hb)]); (rw [if_pos hb,if_pos hb,if_pos hb])),rfl,rfl⟩,by omega⟩,⟨⟨.inl rfl,rfl,rfl,rfl⟩,⟨⟨rfl,rfl,rfl,rfl,fun _=>rfl,fun _ _=>.inl rfl⟩,⟨⟨rfl,rfl,rfl,rfl,fun _=>rfl,fun _ _=>.inl rfl⟩,⟨⟨rfl,rfl,rfl,rfl,fun _=>rfl,fun _ _=>.inl rfl⟩,trivial⟩⟩⟩,trivial⟩⟩
    ·(exfalso; omega)
   ·have ek : k = (t.getD i r0).ps.length := by omega
    subst ek
    rw [rowB_eq] at he
    subst he
    unfold rowX
    by_cases hA : rowA t i = 0
    ·have ho := (rowA_ok hA).1
     rw [if_neg (not_not_intro hA),hA]
     unfold rowO
     by_cases hi0 : i = 0
     ·subst hi0
      rw [if_pos rfl]
      conv=>whnf
      (conv=>whnf); refine ifB_dec (fun w2=>?_) (fun w2=>?_)
      ·(exfalso; omega)
      ·conv=>whnf
       (conv=>whnf); refine ⟨?_,nofun⟩
       (first | contradiction | rfl)
     ·rw [if_neg hi0]
      have ei : ((i : Int) - 1).toNat = i - 1 := by omega
      have hpv := hp.resolve_left hi0
      have hpv' : 0 ≤ (t.getD ((i : Int) - 1).toNat r0).o ∧ (t.getD ((i : Int) - 1).toNat r0).o ≤ 100 := by rw [ei]; exact hpv
      have hd : inK .i64 ((t.getD i r0).o - (t.getD ((i : Int) - 1).toNat r0).o) := by
       have hmx : IntKind.max .i64 = 9223372036854775807 := by decide
       have hmn : IntKind.min .i64 = -9223372036854775808 := by decide
       exact ⟨by omega,by omega⟩
      have hlt := ht.1
      have hi1 : inK .i64 ((i : Int) - 1) := by
       have hmx : IntKind.max .i64 = 9223372036854775807 := by decide
       have hmn : IntKind.min .i64 = -9223372036854775808 := by decide
       exact ⟨by omega,by omega⟩
      have hix : 0 ≤ (i : Int) - 1 ∧ (i : Int) - 1 < (t.length : Int) := by omega
      have h789 := S47 (decide ((t.getD i r0).o - (t.getD ((i : Int) - 1).toNat r0).o > 0)) 9
      have h7822 := S47 (decide ((t.getD i r0).o - (t.getD ((i : Int) - 1).toNat r0).o ≤ 20)) 22
      have h76d := @S38_2 (if decide ((t.getD i r0).o - (t.getD ((i : Int) - 1).toNat r0).o > 0) = true then 0 else 9) (if decide ((t.getD i r0).o - (t.getD ((i : Int) - 1).toNat r0).o ≤ 20) = true then 0 else 22)
      have eq : firstOf [if decide ((t.getD i r0).o - (t.getD ((i : Int) - 1).toNat r0).o > 0) = true then 0 else 9,if decide ((t.getD i r0).o - (t.getD ((i : Int) - 1).toNat r0).o ≤ 20) = true then 0 else 22] = (if (t.getD i r0).o ≤ (t.getD (i - 1) r0).o then 9 else if (t.getD i r0).o - (t.getD (i - 1) r0).o > 20 then 22 else 0) := by
       rw [first2,ei]
       generalize (t.getD i r0).o = a
       generalize (t.getD (i - 1) r0).o = b
       by_cases g1 : a ≤ b
       ·have e1 : (if decide (a - b > 0) = true then (0 : Int) else 9) = 9 := if_neg (by simp; omega)
        rw [e1,if_pos (by decide),if_pos g1]
       ·have e1 : (if decide (a - b > 0) = true then (0 : Int) else 9) = 0 := if_pos (decide_eq_true (by omega))
        rw [e1,if_neg (by decide),if_neg g1]
        by_cases g2 : a - b > 20
        ·rw [if_neg (by simp; omega),if_pos g2]
        ·rw [if_pos (decide_eq_true (by omega)),if_neg g2]
      rw [eq] at h76d
      conv=>whnf
      (conv=>whnf); refine ifB_dec (fun w2=>?_) (fun w2=>?_)
      ·(exfalso; omega)
      ·conv=>whnf
       (conv=>whnf); refine ifB_beq (fun w3=>?_) (fun w3=>?_)
       ·(exfalso; omega)
       ·conv=>whnf
        (conv=>whnf); refine ⟨[],by kernel_rfl,?_⟩
        conv=>whnf
        (conv=>whnf); refine ⟨inK64 (by omega) (by omega),?_⟩
        conv=>whnf
        (conv=>whnf); refine ⟨⟨(by omega),(by omega)⟩,?_⟩
        conv=>whnf
        (conv=>whnf); refine ⟨inK64 (by omega) (by omega),?_⟩
        conv=>whnf
        (conv=>whnf); refine .inl ⟨_,_,byX rfl (Sound1.pl (h789) rfl),?_⟩
        conv=>whnf
        (conv=>whnf); refine .inl ⟨_,_,byX rfl (Sound1.pl (h7822) rfl),?_⟩
        conv=>whnf
        (conv=>whnf); refine .inl ⟨_,_,byX rfl (Sound1.pl (h76d ⟨rfl,rfl⟩) rfl),?_⟩
        conv=>whnf
        (conv=>whnf); refine ⟨?_,nofun⟩
        (first | rfl | contradiction | exact hd | exact hi1 | exact hix | omega)
    ·rw [if_pos hA]
     conv=>whnf
     (conv=>whnf); refine ifB_dec (fun w2=>?_) (fun w2=>?_)
     ·(exfalso; omega)
     ·conv=>whnf
      (conv=>whnf); refine ifB_bne (fun w3=>?_) (fun w3=>?_)
      ·conv=>whnf
       (conv=>whnf); refine ⟨?_,nofun⟩
       (first | contradiction | rfl)
      ·(exfalso; omega)
  ·(exfalso; omega)
 ·have h2' : ¬ (((t.getD (i : Int).toNat r0).ps.length : Int) ≥ 2) := by show ¬ (((t.getD i r0).ps.length : Int) ≥ 2); omega
  have h76 := @S38_3 (if win (t.getD i r0).o 0 100 = true then 0 else 2) (if false = true then 0 else 10) (if decide (((t.getD i r0).ps.length : Int) ≤ 6) = true then 0 else 8)
  rw [rowB_B h2] at h76
  refine sound (d := 2) tok2 mixed2 Tryz.func92 (by kernel_rfl) (by kernel_rfl) ?_
  (conv=>whnf); refine ⟨⟨(by omega),(by omega)⟩,?_⟩
  (conv=>whnf); refine ⟨[],by kernel_rfl,?_⟩
  (conv=>whnf); refine .inl ⟨_,_,byX rfl (Sound1.pl (h75) rfl),?_⟩
  (conv=>whnf); refine .inl ⟨_,_,byX rfl (Sound1.pl (h78w) rfl),?_⟩
  (conv=>whnf); refine ifB_dec (fun w1=>?_) (fun w1=>?_)
  ·(exfalso; omega)
  ·(conv=>whnf); refine .inl ⟨_,_,byX rfl (Sound1.pl (h78f) rfl),?_⟩
   (conv=>whnf); refine .inl ⟨_,_,byX rfl (Sound1.pl (h786) rfl),?_⟩
   (conv=>whnf); refine .inl ⟨_,_,byX rfl (Sound1.pl (h76 ⟨rfl,rfl,rfl⟩) rfl),?_⟩
   (conv=>whnf); refine ⟨[],[1,2,5,6,44,45,46],fun st mq=>∃ (k : Nat) (e : Int) (F2 : Nat → List AV),(k ≤ (t.getD i r0).ps.length) ∧ (e = if rowB t i ≠ 0 then rowB t i else ptsP (t.getD i r0).ps k) ∧ st = ⟨[(1,i64 i),(2,.optr 0 0 0 0),(5,.optr 1 0 0 0),(6,i64 e),(44,ptsA (t.getD i r0).ps),(45,i64 (t.getD i r0).ps.length),(46,i64 k)],⟨[⟨1,1,fun _=>[rowsA t],0,false,true,true⟩,⟨2,1,fun _=>[i64 (t.getD i r0).o,ptsA (t.getD i r0).ps],0,false,true,true⟩,⟨1,3,F2,0,false,true,false⟩],[],none,0⟩,[]⟩ ∧ mq = (t.getD i r0).ps.length - k,
    ⟨_,_,⟨0,rowB t i,_,by omega,(by by_cases h : rowB t i = 0; (rw [if_neg (not_not_intro h),h]; rfl); rw [if_pos h]),rfl,rfl⟩,⟨⟨.inl rfl,rfl,rfl,rfl⟩,⟨⟨rfl,rfl,rfl,rfl,fun _=>rfl,fun _ _=>.inl rfl⟩,⟨⟨rfl,rfl,rfl,rfl,fun _=>rfl,fun _ _=>.inl rfl⟩,⟨⟨rfl,rfl,rfl,rfl,fun _=>rfl,fun _ _=>.inl rfl⟩,trivial⟩⟩⟩,trivial⟩⟩,?_⟩
   rintro s0 m0 ⟨k,e,F2,hk,he,rfl,hmeas⟩
   by_cases hlt : k < (t.getD i r0).ps.length
   ·have h222 := S130 ((t.getD i r0).ps.getD k p0)
    have h762 := @S38_2 e (pntE ((t.getD i r0).ps.getD k p0))
    rw [first2] at h762
    conv=>whnf
    (conv=>whnf); refine ifB_dec (fun w2=>?_) (fun w2=>?_)
    ·conv=>whnf
     (conv=>whnf); refine ⟨⟨(by omega),(by omega)⟩,?_⟩
     conv=>whnf
     (conv=>whnf); refine .inl ⟨_,_,byX rfl (Sound1.pl (h222) rfl),?_⟩
     conv=>whnf
     (conv=>whnf); refine .inl ⟨_,_,byX rfl (Sound1.pl (h762 ⟨rfl,rfl⟩) rfl),?_⟩
     conv=>whnf
     (conv=>whnf); refine ⟨inK64 (by omega) (by omega),?_⟩
     conv=>whnf
     (conv=>whnf); refine ⟨_,_,⟨⟨k + 1,(if e ≠ 0 then e else pntE ((t.getD i r0).ps.getD k p0)),_,by omega,(by rw [he,ptsP_succ]; by_cases hb : rowB t i = 0; (rw [if_neg (not_not_intro hb),if_neg (not_not_intro hb)]); (rw [if_pos hb,if_pos hb,if_pos hb])),rfl,rfl⟩,by omega⟩,⟨⟨.inl rfl,rfl,rfl,rfl⟩,⟨⟨rfl,rfl,rfl,rfl,fun _=>rfl,fun _ _=>.inl rfl⟩,⟨⟨rfl,rfl,rfl,rfl,fun _=>rfl,fun _ _=>.inl rfl⟩,⟨⟨rfl,rfl,rfl,rfl,fun _=>rfl,fun _ _=>.inl rfl⟩,trivial⟩⟩⟩,trivial⟩⟩
    ·(exfalso; omega)
   ·have ek : k = (t.getD i r0).ps.length := by omega
    subst ek
    rw [rowB_eq] at he
    subst he
    unfold rowX
    by_cases hA : rowA t i = 0
    ·have ho := (rowA_ok hA).1
     rw [if_neg (not_not_intro hA),hA]
     unfold rowO
     by_cases hi0 : i = 0
     ·subst hi0
      rw [if_pos rfl]
      conv=>whnf
      (conv=>whnf); refine ifB_dec (fun w2=>?_) (fun w2=>?_)
      ·(exfalso; omega)
      ·conv=>whnf
       (conv=>whnf); refine ⟨?_,nofun⟩
       (first | contradiction | rfl)
     ·rw [if_neg hi0]
      have ei : ((i : Int) - 1).toNat = i - 1 := by omega
      have hpv := hp.resolve_left hi0
      have hpv' : 0 ≤ (t.getD ((i : Int) - 1).toNat r0).o ∧ (t.getD ((i : Int) - 1).toNat r0).o ≤ 100 := by rw [ei]; exact hpv
      have hd : inK .i64 ((t.getD i r0).o - (t.getD ((i : Int) - 1).toNat r0).o) := by
       have hmx : IntKind.max .i64 = 9223372036854775807 := by decide
       have hmn : IntKind.min .i64 = -9223372036854775808 := by decide
       exact ⟨by omega,by omega⟩
      have hlt := ht.1
      have hi1 : inK .i64 ((i : Int) - 1) := by
       have hmx : IntKind.max .i64 = 9223372036854775807 := by decide
       have hmn : IntKind.min .i64 = -9223372036854775808 := by decide
       exact ⟨by omega,by omega⟩
      have hix : 0 ≤ (i : Int) - 1 ∧ (i : Int) - 1 < (t.length : Int) := by omega
      have h789 := S47 (decide ((t.getD i r0).o - (t.getD ((i : Int) - 1).toNat r0).o > 0)) 9
      have h7822 := S47 (decide ((t.getD i r0).o - (t.getD ((i : Int) - 1).toNat r0).o ≤ 20)) 22
      have h76d := @S38_2 (if decide ((t.getD i r0).o - (t.getD ((i : Int) - 1).toNat r0).o > 0) = true then 0 else 9) (if decide ((t.getD i r0).o - (t.getD ((i : Int) - 1).toNat r0).o ≤ 20) = true then 0 else 22)
      have eq : firstOf [if decide ((t.getD i r0).o - (t.getD ((i : Int) - 1).toNat r0).o > 0) = true then 0 else 9,if decide ((t.getD i r0).o - (t.getD ((i : Int) - 1).toNat r0).o ≤ 20) = true then 0 else 22] = (if (t.getD i r0).o ≤ (t.getD (i - 1) r0).o then 9 else if (t.getD i r0).o - (t.getD (i - 1) r0).o > 20 then 22 else 0) := by
       rw [first2,ei]
       generalize (t.getD i r0).o = a
       generalize (t.getD (i - 1) r0).o = b
       by_cases g1 : a ≤ b
       ·have e1 : (if decide (a - b > 0) = true then (0 : Int) else 9) = 9 := if_neg (by simp; omega)
        rw [e1,if_pos (by decide),if_pos g1]
       ·have e1 : (if decide (a - b > 0) = true then (0 : Int) else 9) = 0 := if_pos (decide_eq_true (by omega))
        rw [e1,if_neg (by decide),if_neg g1]
        by_cases g2 : a - b > 20
        ·rw [if_neg (by simp; omega),if_pos g2]
        ·rw [if_pos (decide_eq_true (by omega)),if_neg g2]
      rw [eq] at h76d
      conv=>whnf
      (conv=>whnf); refine ifB_dec (fun w2=>?_) (fun w2=>?_)
      ·(exfalso; omega)
      ·conv=>whnf
       (conv=>whnf); refine ifB_beq (fun w3=>?_) (fun w3=>?_)
       ·(exfalso; omega)
       ·conv=>whnf
        (conv=>whnf); refine ⟨[],by kernel_rfl,?_⟩
        conv=>whnf
        (conv=>whnf); refine ⟨inK64 (by omega) (by omega),?_⟩
        conv=>whnf
        (conv=>whnf); refine ⟨⟨(by omega),(by omega)⟩,?_⟩
        conv=>whnf
        (conv=>whnf); refine ⟨inK64 (by omega) (by omega),?_⟩
        conv=>whnf
        (conv=>whnf); refine .inl ⟨_,_,byX rfl (Sound1.pl (h789) rfl),?_⟩
        conv=>whnf
        (conv=>whnf); refine .inl ⟨_,_,byX rfl (Sound1.pl (h7822) rfl),?_⟩
        conv=>whnf
        (conv=>whnf); refine .inl ⟨_,_,byX rfl (Sound1.pl (h76d ⟨rfl,rfl⟩) rfl),?_⟩
        conv=>whnf
        (conv=>whnf); refine ⟨?_,nofun⟩
        (first | rfl | contradiction | exact hd | exact hi1 | exact hix | omega)
    ·rw [if_pos hA]
     conv=>whnf
     (conv=>whnf); refine ifB_dec (fun w2=>?_) (fun w2=>?_)
     ·(exfalso; omega)
     ·conv=>whnf
      (conv=>whnf); refine ifB_bne (fun w3=>?_) (fun w3=>?_)
      ·conv=>whnf
       (conv=>whnf); refine ⟨?_,nofun⟩
       (first | contradiction | rfl)
      ·(exfalso; omega)
end Go.Tr

/- Contracts of chapter 5: triangles, the check of a table. Conditions: none. -/
-- seat YtnphjhgmoijbfaaGreatDoor
namespace Go.Tr
open Go Go.Proofs
set_option maxRecDepth 20000
set_option maxHeartbeats 8000000

def PtOk (p : P3) : Prop := (-1000 ≤ p.1 ∧ p.1 ≤ 1000) ∧ (-1000 ≤ p.2.1 ∧ p.2.1 ≤ 1000) ∧ -10000 ≤ p.2.2 ∧ p.2.2 ≤ 10000
theorem mul2 {a b : Int} (ha : a.natAbs ≤ 2000) (hb : b.natAbs ≤ 2000) : -4000000 ≤ a * b ∧ a * b ≤ 4000000 := by
 have h := Nat.mul_le_mul ha hb
 rw [← Int.natAbs_mul] at h
 omega
theorem S64 (a b c : P3) (ha : PtOk a) (hb : PtOk b) (hc : PtOk c) : SP 64 [.agg (ptC a),.agg (ptC b),.agg (ptC c)] (i64 (turnI a b c)) false := by
 have h1 := mul2 (a := b.1 - a.1) (b := c.2.1 - a.2.1) (by unfold PtOk at *; omega) (by unfold PtOk at *; omega)
 have h2 := mul2 (a := c.1 - a.1) (b := b.2.1 - a.2.1) (by unfold PtOk at *; omega) (by unfold PtOk at *; omega)
 unfold PtOk at *
 unfold turnI
 refine sound (d := 2) tok2 mixed2 Tryz.func64 (by kernel_rfl) (by kernel_rfl) ?_
 (conv=>whnf); refine ⟨inK64 (by omega) (by omega),?_⟩
 (conv=>whnf); refine ⟨inK64 (by omega) (by omega),?_⟩
 (conv=>whnf); refine ⟨inK64 (by omega) (by omega),?_⟩
 (conv=>whnf); refine ⟨inK64 (by omega) (by omega),?_⟩
 (conv=>whnf); refine ⟨inK64 (by omega) (by omega),?_⟩
 (conv=>whnf); refine ⟨inK64 (by omega) (by omega),?_⟩
 (conv=>whnf); refine ⟨inK64 (by omega) (by omega),?_⟩
 (conv=>whnf); refine ⟨?_,nofun⟩
 (first | rfl | contradiction)
abbrev Tri := (P3 × Int) × (P3 × Int) × P3 × Int
abbrev triC (x : Tri) : List AV := [i64 x.1.1.1,i64 x.1.1.2.1,i64 x.1.1.2.2,i64 x.1.2,i64 x.2.1.1.1,i64 x.2.1.1.2.1,i64 x.2.1.1.2.2,i64 x.2.1.2,i64 x.2.2.1.1,i64 x.2.2.1.2.1,i64 x.2.2.1.2.2,i64 x.2.2.2]
abbrev triA (x : Tri) : AV := .agg (triC x)
theorem S36 (x : Tri) (ha : PtOk x.1.1) (hb : PtOk x.2.1.1) (hc : PtOk x.2.2.1) : SP 36 [triA x] (i64 (turnI x.1.1 x.2.1.1 x.2.2.1)) false := by
 have h := S64 _ _ _ ha hb hc
 refine sound (d := 2) tok2 mixed2 Tryz.func36 (by kernel_rfl) (by kernel_rfl) ?_
 (conv=>whnf); refine ⟨⟨(by omega),(by omega)⟩,?_⟩
 (conv=>whnf); refine ⟨⟨(by omega),(by omega)⟩,?_⟩
 (conv=>whnf); refine ⟨⟨(by omega),(by omega)⟩,?_⟩
 (conv=>whnf); refine .inl ⟨_,_,byX rfl (Sound1.pl (h) rfl),?_⟩
 (conv=>whnf); refine ⟨?_,nofun⟩
 (first | rfl | contradiction)
structure RwOk (t : List MRow) : Prop where
 n : 2 ≤ t.length ∧ t.length ≤ 6
 np : 2 ≤ npT t ∧ npT t ≤ 6
 len : ∀ i,i < t.length → (t.getD i r0).ps.length = npT t
 pts : ∀ i k,i < t.length → k < npT t → PtOk (ptT t i k)
theorem RwOk.of {t : List MRow} (hn : 2 ≤ t.length ∧ t.length ≤ 6) (h : (fstE (rowX t) t.length 0).2 = 0) : RwOk t := by
 have hA : ∀ i,i < t.length → rowA t i = 0 := fun i hi=>by
  have := fstE_all h i (Nat.zero_le _) (by omega)
  unfold rowX at this
  by_cases e : rowA t i = 0
  ·exact e
  ·rw [if_pos e] at this; exact this
 have hlen : ∀ i,i < t.length → (t.getD i r0).ps.length = npT t := fun i hi=>(rowA_ok (hA i hi)).2.1.2
 have hp0 := rowA_ok (hA 0 (by omega))
 refine ⟨hn,⟨hp0.2.1.1,hp0.2.2.1⟩,hlen,fun i k hi hk=>?_⟩
 have := (rowA_ok (hA i hi)).2.2.2
 have := fstE_all this k (Nat.zero_le _) (by rw [hlen i hi]; omega)
 exact pntE_ok this
set_option maxHeartbeats 8000000 in
theorem S58 (t : List MRow) (ht : Fit t) : SP 58 [tblA t] (.tuple [i64 (chkM t).1, i64 (chkM t).2]) false := by
 have h1 := ht.1
 have h78a := S47 (decide ((t.length : Int) ≥ 2)) 10
 have h78b := S47 (decide ((t.length : Int) ≤ 6)) 8
 have h76 := @S38_2 (if decide ((t.length : Int) ≥ 2) = true then 0 else 10) (if decide ((t.length : Int) ≤ 6) = true then 0 else 8)
 have eq : firstOf [if decide ((t.length : Int) ≥ 2) = true then (0 : Int) else 10,if decide ((t.length : Int) ≤ 6) = true then 0 else 8] = if t.length < 2 then 10 else if t.length > 6 then 8 else 0 := by
  rw [first2]
  by_cases g1 : t.length < 2
  ·have e1 : (if decide ((t.length : Int) ≥ 2) = true then (0 : Int) else 10) = 10 := if_neg (by simp; omega)
   rw [e1,if_pos (by decide),if_pos g1]
  ·have e1 : (if decide ((t.length : Int) ≥ 2) = true then (0 : Int) else 10) = 0 := if_pos (decide_eq_true (by omega))
   rw [e1,if_neg (by decide),if_neg g1]
   by_cases g2 : t.length > 6
   ·rw [if_neg (by simp; omega),if_pos g2]
   ·rw [if_pos (decide_eq_true (by omega)),if_neg g2]
 rw [eq] at h76
 unfold chkM
 by_cases g1 : t.length < 2
 ·rw [if_pos g1]
  rw [if_pos g1] at h76
  refine sound (d := 2) tok2 mixed2 Tryz.func58 (by kernel_rfl) (by kernel_rfl) ?_
  (conv=>whnf); refine ⟨[],by kernel_rfl,?_⟩
  (conv=>whnf); refine .inl ⟨_,_,byX rfl (Sound1.pl (h78a) rfl),?_⟩
  (conv=>whnf); refine .inl ⟨_,_,byX rfl (Sound1.pl (h78b) rfl),?_⟩
  (conv=>whnf); refine .inl ⟨_,_,byX rfl (Sound1.pl (h76 ⟨rfl,rfl⟩) rfl),?_⟩
  (conv=>whnf); refine ⟨?_,nofun⟩
  (first | contradiction | exact ave_tup2 rfl rfl)
 ·rw [if_neg g1]
  rw [if_neg g1] at h76
  by_cases g2 : t.length > 6
  ·rw [if_pos g2]
   rw [if_pos g2] at h76
   refine sound (d := 2) tok2 mixed2 Tryz.func58 (by kernel_rfl) (by kernel_rfl) ?_
   (conv=>whnf); refine ⟨[],by kernel_rfl,?_⟩
   (conv=>whnf); refine .inl ⟨_,_,byX rfl (Sound1.pl (h78a) rfl),?_⟩
   (conv=>whnf); refine .inl ⟨_,_,byX rfl (Sound1.pl (h78b) rfl),?_⟩
   (conv=>whnf); refine .inl ⟨_,_,byX rfl (Sound1.pl (h76 ⟨rfl,rfl⟩) rfl),?_⟩
   (conv=>whnf); refine ⟨?_,nofun⟩
   (first | contradiction | exact ave_tup2 rfl rfl)
  ·rw [if_neg g2]
   rw [if_neg g2] at h76
   refine sound (d := 2) tok2 mixed2 Tryz.func58 (by kernel_rfl) (by kernel_rfl) ?_
   (conv=>whnf); refine ⟨[],by kernel_rfl,?_⟩
   (conv=>whnf); refine .inl ⟨_,_,byX rfl (Sound1.pl (h78a) rfl),?_⟩
   (conv=>whnf); refine .inl ⟨_,_,byX rfl (Sound1.pl (h78b) rfl),?_⟩
   (conv=>whnf); refine .inl ⟨_,_,byX rfl (Sound1.pl (h76 ⟨rfl,rfl⟩) rfl),?_⟩
   (conv=>whnf); refine ⟨[],[1,2,3,26,27],fun st mq=>∃ (i : Nat) (F3 : Nat → List AV),(i ≤ t.length) ∧ (fstE (rowX t) (t.length - i) i = fstE (rowX t) t.length 0) ∧ (∀ j,j < i → rowX t j = 0) ∧ st = ⟨[(1,.optr 0 0 0 0),(2,.optr 1 0 0 0),(3,.optr 2 0 0 0),(26,i64 t.length),(27,i64 i)],⟨[⟨1,1,fun _=>[rowsA t],0,false,true,true⟩,⟨1,1,fun _=>[i64 0],0,false,true,true⟩,⟨1,1,fun _=>[i64 0],0,false,true,true⟩,⟨1,2,F3,0,false,true,false⟩],[],none,0⟩,[]⟩ ∧ mq = t.length - i,
    ⟨_,_,⟨0,_,by omega,rfl,fun j h=>absurd h (Nat.not_lt_zero j),rfl,rfl⟩,⟨⟨.inl rfl,rfl,rfl,rfl⟩,⟨⟨rfl,rfl,rfl,rfl,fun _=>rfl,fun _ _=>.inl rfl⟩,⟨⟨rfl,rfl,rfl,rfl,fun _=>rfl,fun _ _=>.inl rfl⟩,⟨⟨rfl,rfl,rfl,rfl,fun _=>rfl,fun _ _=>.inl rfl⟩,⟨⟨rfl,rfl,rfl,rfl,fun _=>rfl,fun _ _=>.inl rfl⟩,trivial⟩⟩⟩⟩,trivial⟩⟩,?_⟩
   rintro s0 m0 ⟨i,F3,hi,he,hz,rfl,hmeas⟩
   by_cases hlt : i < t.length
   ·have hp : i = 0 ∨ (0 ≤ (t.getD (i - 1) r0).o ∧ (t.getD (i - 1) r0).o ≤ 100) := by
     by_cases e : i = 0
     ·exact .inl e
     ·right
      have h2 := hz (i - 1) (by omega)
      unfold rowX at h2
      by_cases e2 : rowA t (i - 1) = 0
      ·exact (rowA_ok e2).1
      ·rw [if_pos e2] at h2; exact absurd h2 e2
    have h185 := S92 t ht i hlt hp
    rw [fstE_step _ hlt] at he
    by_cases hr : rowX t i = 0
    ·rw [if_neg (not_not_intro hr)] at he
     rw [hr] at h185
     conv=>whnf
     (conv=>whnf); refine ifB_dec (fun w1=>?_) (fun w1=>?_)
     ·conv=>whnf
      (conv=>whnf); refine .inl ⟨_,_,byX rfl (Sound1.pl (h185) rfl),?_⟩
      conv=>whnf
      (conv=>whnf); refine ⟨inK64 (by omega) (by omega),?_⟩
      conv=>whnf
      (conv=>whnf); refine ⟨_,_,⟨⟨i + 1,_,by omega,he,(fun j hj=>by by_cases e : j = i; (rw [e]; exact hr); exact hz j (by omega)),rfl,rfl⟩,by omega⟩,⟨⟨.inl rfl,rfl,rfl,rfl⟩,⟨⟨rfl,rfl,rfl,rfl,fun _=>rfl,fun _ _=>.inl rfl⟩,⟨⟨rfl,rfl,rfl,rfl,fun _=>rfl,fun _ _=>.inl rfl⟩,⟨⟨rfl,rfl,rfl,rfl,fun _=>rfl,fun _ _=>.inl rfl⟩,⟨⟨rfl,rfl,rfl,rfl,fun _=>rfl,fun _ _=>.inl rfl⟩,trivial⟩⟩⟩⟩,trivial⟩⟩
     ·(exfalso; omega)
    ·rw [if_pos hr] at he
     rw [← he,if_pos hr]
     conv=>whnf
     (conv=>whnf); refine ifB_dec (fun w1=>?_) (fun w1=>?_)
     ·conv=>whnf
      (conv=>whnf); refine .inl ⟨_,_,byX rfl (Sound1.pl (h185) rfl),?_⟩
      conv=>whnf
      (conv=>whnf); refine ifB_bne (fun w2=>?_) (fun w2=>?_)
      ·conv=>whnf
       (conv=>whnf); refine ⟨?_,nofun⟩
       (first | contradiction | exact ave_tup2 rfl rfl)
      ·(exfalso; omega)
     ·(exfalso; omega)
   ·rw [fstE_end _ hlt] at he
    have hE : (fstE (rowX t) t.length 0).2 = 0 := by rw [← he]
    have hR := RwOk.of ⟨by omega,by omega⟩ hE
    rw [if_neg (not_not_intro hE)]
    conv=>whnf
    (conv=>whnf); refine ifB_dec (fun w1=>?_) (fun w1=>?_)
    ·(exfalso; omega)
    ·conv => whnf
     (conv=>whnf); refine .inr (.inl ⟨[],?_⟩)
     conv=>whnf
     (conv=>whnf); refine ⟨(by first | rfl | assumption),?_⟩
     refine ⟨_,keep_ok [1,2,3,39] _,?_⟩
     conv=>whnf
     (conv=>whnf); refine ⟨inK64 (by omega) (by omega),?_⟩
     conv=>whnf
     (conv=>whnf); refine ⟨[],[0,1,14,15],fun st mq=>∃ (i : Nat) (F3 : Nat → List AV),(i ≤ t.length - 1) ∧ (fstE (stripE t) (t.length - 1 - i) i = fstE (stripE t) (t.length - 1) 0) ∧ st = ⟨[(0,.yld 0),(1,.optr 4 0 0 0),(14,i64 ((t.length : Int) - 1)),(15,i64 i)],⟨[⟨1,1,fun _=>[rowsA t],0,false,true,true⟩,⟨1,1,fun _=>[i64 0],0,false,true,true⟩,⟨1,1,fun _=>[i64 0],0,false,true,true⟩,⟨1,2,F3,0,false,true,false⟩,⟨1,1,fun _=>[rowsA t],0,false,true,true⟩],[],none,1⟩,[(1,.optr 0 0 0 0),(2,.optr 1 0 0 0),(3,.optr 2 0 0 0),(39,.func (.func 63) 0 [.optr 4 0 0 0])]⟩ ∧ mq = t.length - 1 - i,
      ⟨_,_,⟨0,_,by omega,rfl,rfl,rfl⟩,⟨⟨.inl rfl,rfl,rfl,rfl⟩,⟨⟨rfl,rfl,rfl,rfl,fun _=>rfl,fun _ _=>.inl rfl⟩,⟨⟨rfl,rfl,rfl,rfl,fun _=>rfl,fun _ _=>.inl rfl⟩,⟨⟨rfl,rfl,rfl,rfl,fun _=>rfl,fun _ _=>.inl rfl⟩,⟨⟨rfl,rfl,rfl,rfl,fun _=>rfl,fun _ _=>.inl rfl⟩,⟨⟨rfl,rfl,rfl,rfl,fun _=>rfl,fun _ _=>.inl rfl⟩,trivial⟩⟩⟩⟩⟩,trivial⟩⟩,?_⟩
     rintro s0 m0 ⟨i,F3,hi,hs,rfl,hmeas⟩
     by_cases hlt2 : i < t.length - 1
     ·have hl1 : (t.getD i r0).ps.length = npT t := hR.len i (by omega)
      have hl2 : (t.getD (i + 1) r0).ps.length = npT t := hR.len (i + 1) (by omega)
      have hnp := hR.np
      rw [fstE_step _ hlt2] at hs
      have q1 : inK .i64 (((t.getD i r0).ps.length : Int) - 1) := by
       have hmx : IntKind.max .i64 = 9223372036854775807 := by decide
       have hmn : IntKind.min .i64 = -9223372036854775808 := by decide
       exact ⟨by omega,by omega⟩
      conv=>whnf
      conv=>whnf
      (conv=>whnf); refine ifB_dec (fun w2=>?_) (fun w2=>?_)
      ·conv => whnf
       conv=>whnf
       (conv=>whnf); refine ⟨[(6,13),(10,13)],by kernel_rfl,?_⟩
       conv=>whnf
       conv=>whnf
       (conv=>whnf); refine ⟨⟨(by omega),(by omega)⟩,?_⟩
       conv=>whnf
       conv=>whnf
       (conv=>whnf); refine ⟨inK64 (by omega) (by omega),?_⟩
       conv=>whnf
       conv=>whnf
       (conv=>whnf); refine ⟨⟨(by omega),(by omega)⟩,?_⟩
       conv=>whnf
       conv=>whnf
       (conv=>whnf); refine ⟨by assumption,?_⟩
       conv=>whnf
       conv=>whnf
       (conv=>whnf); refine ⟨[],[0,1,3,4,5,14,15,32,33],fun st mq=>∃ (k : Nat) (F3 : Nat → List AV),(k ≤ npT t - 1) ∧ (fstE (quadE t i) (npT t - 1 - k) k = fstE (quadE t i) (npT t - 1) 0) ∧ st = ⟨[(0,.yld 0),(1,.optr 4 0 0 0),(3,i64 i),(4,.optr 5 0 0 0),(5,.optr 6 0 0 0),(14,i64 ((t.length : Int) - 1)),(15,i64 i),(32,i64 (((t.getD i r0).ps.length : Int) - 1)),(33,i64 k)],⟨[⟨1,1,fun _=>[rowsA t],0,false,true,true⟩,⟨1,1,fun _=>[i64 0],0,false,true,true⟩,⟨1,1,fun _=>[i64 0],0,false,true,true⟩,⟨1,2,F3,0,false,true,false⟩,⟨1,1,fun _=>[rowsA t],0,false,true,true⟩,⟨2,1,fun _=>[i64 (t.getD i r0).o,ptsA (t.getD i r0).ps],0,false,true,true⟩,⟨2,1,fun _=>[i64 (t.getD (i + 1) r0).o,ptsA (t.getD (i + 1) r0).ps],0,false,true,true⟩],[],none,1⟩,[(1,.optr 0 0 0 0),(2,.optr 1 0 0 0),(3,.optr 2 0 0 0),(39,.func (.func 63) 0 [.optr 4 0 0 0])]⟩ ∧ mq = npT t - 1 - k,
        ⟨_,_,⟨0,_,by omega,rfl,rfl,rfl⟩,⟨⟨.inl rfl,rfl,rfl,rfl⟩,⟨⟨rfl,rfl,rfl,rfl,fun _=>rfl,fun _ _=>.inl rfl⟩,⟨⟨rfl,rfl,rfl,rfl,fun _=>rfl,fun _ _=>.inl rfl⟩,⟨⟨rfl,rfl,rfl,rfl,fun _=>rfl,fun _ _=>.inl rfl⟩,⟨⟨rfl,rfl,rfl,rfl,fun _=>rfl,fun _ _=>.inl rfl⟩,⟨⟨rfl,rfl,rfl,rfl,fun _=>rfl,fun _ _=>.inl rfl⟩,⟨⟨rfl,rfl,rfl,rfl,fun _=>rfl,fun _ _=>.inl rfl⟩,⟨⟨rfl,rfl,rfl,rfl,fun _=>rfl,fun _ _=>.inl rfl⟩,trivial⟩⟩⟩⟩⟩⟩⟩,trivial⟩⟩,?_⟩
       rintro s0 m0 ⟨k,F3,hk,hq,rfl,hmeas⟩
       have hse : stripE t i = (fstE (quadE t i) (npT t - 1) 0).2 := by unfold stripE; rw [hl1]
       by_cases hlt3 : k < npT t - 1
       ·have p1 := hR.pts i k (by omega) (by omega)
        have p2 := hR.pts i (k + 1) (by omega) (by omega)
        have p3 := hR.pts (i + 1) k (by omega) (by omega)
        have p4 := hR.pts (i + 1) (k + 1) (by omega) (by omega)
        have ha := S36 ((ptT t i k,(t.getD i r0).o),(ptT t i (k + 1),(t.getD i r0).o),(ptT t (i + 1) k,(t.getD (i + 1) r0).o)) p1 p2 p3
        have hb := S36 ((ptT t i (k + 1),(t.getD i r0).o),(ptT t (i + 1) (k + 1),(t.getD (i + 1) r0).o),(ptT t (i + 1) k,(t.getD (i + 1) r0).o)) p2 p4 p3
        change SP 36 _ (i64 (tri1 t i k)) false at ha
        change SP 36 _ (i64 (tri2 t i k)) false at hb
        rw [fstE_step _ hlt3] at hq
        have hend : quadE t i k = 13 → fstE (stripE t) (t.length - 1) 0 = ((i : Int),13) := fun e=>by
         rw [e,if_pos (by decide)] at hq
         have e2 : stripE t i = 13 := by rw [hse,← hq]
         rw [e2,if_pos (by decide)] at hs
         exact hs.symm
        by_cases g1 : tri1 t i k ≤ 0
        ·rw [hend (if_pos g1)]
         conv=>whnf
         conv=>whnf
         conv=>whnf
         (conv=>whnf); refine ifB_dec (fun w3=>?_) (fun w3=>?_)
         ·conv=>whnf
          conv=>whnf
          conv=>whnf
          (conv=>whnf); refine ⟨[(9,19),(13,19),(15,19)],by kernel_rfl,?_⟩
          conv=>whnf
          conv=>whnf
          conv=>whnf
          (conv=>whnf); refine ⟨⟨(by omega),(by omega)⟩,?_⟩
          conv=>whnf
          conv=>whnf
          conv=>whnf
          (conv=>whnf); refine ⟨inK64 (by omega) (by omega),?_⟩
          conv=>whnf
          conv=>whnf
          conv=>whnf
          (conv=>whnf); refine ⟨⟨(by omega),(by omega)⟩,?_⟩
          conv=>whnf
          conv=>whnf
          conv=>whnf
          (conv=>whnf); refine ⟨[(9,19),(13,19),(15,19)],by kernel_rfl,?_⟩
          conv=>whnf
          conv=>whnf
          conv=>whnf
          (conv=>whnf); refine ⟨⟨(by omega),(by omega)⟩,?_⟩
          conv=>whnf
          conv=>whnf
          conv=>whnf
          (conv=>whnf); refine ⟨inK64 (by omega) (by omega),?_⟩
          conv=>whnf
          conv=>whnf
          conv=>whnf
          (conv=>whnf); refine ⟨⟨(by omega),(by omega)⟩,?_⟩
          conv=>whnf
          conv=>whnf
          conv=>whnf
          (conv=>whnf); refine ⟨(by first | rfl | assumption),?_⟩
          conv=>whnf
          conv=>whnf
          conv=>whnf
          (conv=>whnf); refine .inl ⟨_,_,byX rfl (Sound1.pl (ha) rfl),?_⟩
          conv=>whnf
          conv=>whnf
          conv=>whnf
          (conv=>whnf); refine ifB_dec (fun w4=>?_) (fun w4=>?_)
          ·conv=>whnf
           conv=>whnf
           conv=>whnf
           (conv=>whnf); refine ⟨?_,nofun⟩
           (first | contradiction | omega | exact ave_tup2 rfl rfl)
          ·(exfalso; omega)
         ·(exfalso; omega)
        ·by_cases g2 : tri2 t i k ≤ 0
         ·rw [hend (by unfold quadE; rw [if_neg g1, if_pos g2])]
          conv=>whnf
          conv=>whnf
          conv=>whnf
          (conv=>whnf); refine ifB_dec (fun w3=>?_) (fun w3=>?_)
          ·conv=>whnf
           conv=>whnf
           conv=>whnf
           (conv=>whnf); refine ⟨[(9,19),(13,19),(15,19)],by kernel_rfl,?_⟩
           conv=>whnf
           conv=>whnf
           conv=>whnf
           (conv=>whnf); refine ⟨⟨(by omega),(by omega)⟩,?_⟩
           conv=>whnf
           conv=>whnf
           conv=>whnf
           (conv=>whnf); refine ⟨inK64 (by omega) (by omega),?_⟩
           conv=>whnf
           conv=>whnf
           conv=>whnf
           (conv=>whnf); refine ⟨⟨(by omega),(by omega)⟩,?_⟩
           conv=>whnf
           conv=>whnf
           conv=>whnf
           (conv=>whnf); refine ⟨[(9,19),(13,19),(15,19)],by kernel_rfl,?_⟩
           conv=>whnf
           conv=>whnf
           conv=>whnf
           (conv=>whnf); refine ⟨⟨(by omega),(by omega)⟩,?_⟩
           conv=>whnf
           conv=>whnf
           conv=>whnf
           (conv=>whnf); refine ⟨inK64 (by omega) (by omega),?_⟩
           conv=>whnf
           conv=>whnf
           conv=>whnf
           (conv=>whnf); refine ⟨⟨(by omega),(by omega)⟩,?_⟩
           conv=>whnf
           conv=>whnf
           conv=>whnf
           (conv=>whnf); refine ⟨(by first | rfl | assumption),?_⟩
           conv=>whnf
           conv=>whnf
           conv=>whnf
           (conv=>whnf); refine .inl ⟨_,_,byX rfl (Sound1.pl (ha) rfl),?_⟩
           conv=>whnf
           conv=>whnf
           conv=>whnf
           (conv=>whnf); refine ifB_dec (fun w4=>?_) (fun w4=>?_)
           ·(exfalso; omega)
           ·conv=>whnf
            conv=>whnf
            conv=>whnf
            (conv=>whnf); refine ⟨(by first | rfl | assumption),?_⟩
            conv=>whnf
            conv=>whnf
            conv=>whnf
            (conv=>whnf); refine .inl ⟨_,_,byX rfl (Sound1.pl (hb) rfl),?_⟩
            conv=>whnf
            conv=>whnf
            conv=>whnf
            (conv=>whnf); refine ifB_dec (fun w5=>?_) (fun w5=>?_)
            ·conv=>whnf
             conv=>whnf
             conv=>whnf
             (conv=>whnf); refine ⟨?_,nofun⟩
             (first | contradiction | omega | exact ave_tup2 rfl rfl)
            ·(exfalso; omega)
          ·(exfalso; omega)
         ·have e0 : quadE t i k = 0 := by unfold quadE; rw [if_neg g1,if_neg g2]
          rw [e0,if_neg (by decide)] at hq
          conv=>whnf
          conv=>whnf
          conv=>whnf
          (conv=>whnf); refine ifB_dec (fun w3=>?_) (fun w3=>?_)
          ·conv=>whnf
           conv=>whnf
           conv=>whnf
           (conv=>whnf); refine ⟨[(9,19),(13,19),(15,19)],by kernel_rfl,?_⟩
           conv=>whnf
           conv=>whnf
           conv=>whnf
           (conv=>whnf); refine ⟨⟨(by omega),(by omega)⟩,?_⟩
           conv=>whnf
           conv=>whnf
           conv=>whnf
           (conv=>whnf); refine ⟨inK64 (by omega) (by omega),?_⟩
           conv=>whnf
           conv=>whnf
           conv=>whnf
           (conv=>whnf); refine ⟨⟨(by omega),(by omega)⟩,?_⟩
           conv=>whnf
           conv=>whnf
           conv=>whnf
           (conv=>whnf); refine ⟨[(9,19),(13,19),(15,19)],by kernel_rfl,?_⟩
           conv=>whnf
           conv=>whnf
           conv=>whnf
           (conv=>whnf); refine ⟨⟨(by omega),(by omega)⟩,?_⟩
           conv=>whnf
           conv=>whnf
           conv=>whnf
           (conv=>whnf); refine ⟨inK64 (by omega) (by omega),?_⟩
           conv=>whnf
           conv=>whnf
           conv=>whnf
           (conv=>whnf); refine ⟨⟨(by omega),(by omega)⟩,?_⟩
           conv=>whnf
           conv=>whnf
           conv=>whnf
           (conv=>whnf); refine ⟨(by first | rfl | assumption),?_⟩
           conv=>whnf
           conv=>whnf
           conv=>whnf
           (conv=>whnf); refine .inl ⟨_,_,byX rfl (Sound1.pl (ha) rfl),?_⟩
           conv=>whnf
           conv=>whnf
           conv=>whnf
           (conv=>whnf); refine ifB_dec (fun w4=>?_) (fun w4=>?_)
           ·(exfalso; omega)
           ·conv=>whnf
            conv=>whnf
            conv=>whnf
            (conv=>whnf); refine ⟨(by first | rfl | assumption),?_⟩
            conv=>whnf
            conv=>whnf
            conv=>whnf
            (conv=>whnf); refine .inl ⟨_,_,byX rfl (Sound1.pl (hb) rfl),?_⟩
            conv=>whnf
            conv=>whnf
            conv=>whnf
            (conv=>whnf); refine ifB_dec (fun w5=>?_) (fun w5=>?_)
            ·(exfalso; omega)
            ·conv=>whnf
             conv=>whnf
             conv=>whnf
             (conv=>whnf); refine ⟨inK64 (by omega) (by omega),?_⟩
             conv=>whnf
             conv=>whnf
             conv=>whnf
             (conv=>whnf); refine ⟨_,_,⟨⟨k + 1,_,by omega,hq,rfl,rfl⟩,by omega⟩,⟨⟨.inl rfl,rfl,rfl,rfl⟩,⟨⟨rfl,rfl,rfl,rfl,fun _=>rfl,fun _ _=>.inl rfl⟩,⟨⟨rfl,rfl,rfl,rfl,fun _=>rfl,fun _ _=>.inl rfl⟩,⟨⟨rfl,rfl,rfl,rfl,fun _=>rfl,fun _ _=>.inl rfl⟩,⟨⟨rfl,rfl,rfl,rfl,fun _=>rfl,fun _ _=>.inl rfl⟩,⟨⟨rfl,rfl,rfl,rfl,fun _=>rfl,fun _ _=>.inl rfl⟩,⟨⟨rfl,rfl,rfl,rfl,fun _=>rfl,fun _ _=>.inl rfl⟩,⟨⟨rfl,rfl,rfl,rfl,fun _=>rfl,fun _ _=>.inl rfl⟩,trivial⟩⟩⟩⟩⟩⟩⟩,trivial⟩⟩
          ·(exfalso; omega)
       ·rw [fstE_end _ hlt3] at hq
        have e0 : stripE t i = 0 := by rw [hse,← hq]
        rw [e0,if_neg (by decide)] at hs
        conv=>whnf
        conv=>whnf
        conv=>whnf
        (conv=>whnf); refine ifB_dec (fun w3=>?_) (fun w3=>?_)
        ·(exfalso; omega)
        ·conv=>whnf
         conv=>whnf
         conv=>whnf
         (conv=>whnf); refine ⟨inK64 (by omega) (by omega),?_⟩
         conv=>whnf
         conv=>whnf
         conv=>whnf
         (conv=>whnf); refine ⟨_,_,⟨⟨i + 1,_,by omega,hs,rfl,rfl⟩,by omega⟩,⟨⟨.inl rfl,rfl,rfl,rfl⟩,⟨⟨rfl,rfl,rfl,rfl,fun _=>rfl,fun _ _=>.inl rfl⟩,⟨⟨rfl,rfl,rfl,rfl,fun _=>rfl,fun _ _=>.inl rfl⟩,⟨⟨rfl,rfl,rfl,rfl,fun _=>rfl,fun _ _=>.inl rfl⟩,⟨⟨rfl,rfl,rfl,rfl,fun _=>rfl,fun _ _=>.inl rfl⟩,⟨⟨rfl,rfl,rfl,rfl,fun _=>rfl,fun _ _=>.inl rfl⟩,trivial⟩⟩⟩⟩⟩,trivial⟩⟩
      ·(exfalso; omega)
     ·rw [fstE_end _ hlt2] at hs
      rw [← hs]
      conv=>whnf
      conv=>whnf
      (conv=>whnf); refine ifB_dec (fun w2=>?_) (fun w2=>?_)
      ·(exfalso; omega)
      ·conv=>whnf
       conv=>whnf
       (conv=>whnf); refine ⟨?_,nofun⟩
       (first | contradiction | omega | exact ave_tup2 rfl rfl)
end Go.Tr

/- Contracts of chapter 5: copies of tables; the errors of the reference. Conditions: none. -/
-- seat YtnphjhgmoijbfaaGreatDoor
namespace Go.Tr
open Go Go.Proofs
set_option maxRecDepth 20000
set_option maxHeartbeats 8000000

theorem S28 (t : List MRow) (ht : Fit t) : SP 28 [tblA t] (i64 (chkM t).2) false := by
 have h := S58 t ht
 refine sound (d := 2) tok2 mixed2 Tryz.func28 (by kernel_rfl) (by kernel_rfl) ?_
 (conv=>whnf); refine .inl ⟨_,_,byX rfl (Sound1.pl (h) rfl),?_⟩
 (conv=>whnf); refine ⟨?_,nofun⟩
 (first | rfl)
theorem row_le {fl : Bool} (hf : fl = true) {a b x y : AV} (h1 : a = b) (h2 : AVE 5 x y) : RowLe fl [a,x] [b,y] :=
 ⟨hf,rfl,fun j u v hu hv=>by
  match j,hu,hv with
  | 0,hu,hv=>cases hu; cases hv; exact .inl h1
  | 1,hu,hv=>cases hu; cases hv; exact .inr h2⟩
theorem cp_row {o : Nat → Int} {P : Nat → List P3} {k i : Nat} (hi : i < k + 1) {bs : List Nat} {H : Hp} {x : AV} (hx : AVE 5 (fzIn bs H x) (ptsA (P k))) :
  RowLe true ((if i < k then [i64 (o (0 + i)),ptsA (P (0 + i))] else List.take 2 (List.drop ((i - k) * 2) [i64 (o k),x])).map (fzIn bs H)) [i64 (o i),ptsA (P i)] := by
 by_cases h : i < k
 ·rw [if_pos h,Nat.zero_add]
  exact row_le rfl rfl ⟨rfl,rfl,fun _ _=>rfl⟩
 ·obtain rfl : i = k := by omega
  rw [if_neg h,Nat.sub_self,Nat.zero_mul]
  exact row_le rfl rfl hx
theorem S23 (t : List MRow) (ht : Fit t) : SP 23 [rowsA t] (rowsA t) false := by
 have h1 := ht.1
 refine sound (d := 2) tok2 mixed2 Tryz.func23 (by kernel_rfl) (by kernel_rfl) ?_
 (conv=>whnf); refine ⟨[.slot 3 2,.fzl 0 [1,2,3]],[0,3,4],fun st mq=>∃ (k : Nat),(k ≤ t.length) ∧ st = ⟨[(0,rowsA t),(3,.oslice 0 0 0 k none),(4,i64 k)],⟨[⟨2,k,fun i=>[i64 (t.getD i r0).o,ptsA (t.getD i r0).ps],0,false,true,false⟩],[],none,0⟩,[]⟩ ∧ mq = t.length - k,
  ⟨_,_,⟨0,by omega,rfl,rfl⟩,⟨⟨.inl rfl,rfl,rfl,rfl⟩,⟨⟨rfl,rfl,rfl,rfl,fun _=>rfl,fun i h=>.inl (absurd h (Nat.not_lt_zero i))⟩,trivial⟩,trivial⟩⟩,?_⟩
 rintro s0 m0 ⟨k,hk,rfl,hmeas⟩
 by_cases hlt : k < t.length
 ·have hl := ht.2 k
  have hb : Tryz.prog.types[62].bytes = 24 := by kernel_rfl
  have hneed : (0 < 0 + (t.getD (k : Int).toNat r0).ps.length ∨ (t.getD (k : Int).toNat r0).ps.length = 0 ∧ 0 = 0) ∧ (0 + (t.getD (k : Int).toNat r0).ps.length) * (Tryz.prog.types[62].bytes + 1) ≤ 1000000000000 := by
   rw [hb]
   show (0 < 0 + (t.getD k r0).ps.length ∨ (t.getD k r0).ps.length = 0 ∧ 0 = 0) ∧ (0 + (t.getD k r0).ps.length) * (24 + 1) ≤ 1000000000000
   omega
  conv=>whnf
  (conv=>whnf); refine ifB_dec (fun w1=>?_) (fun w1=>?_)
  ·conv=>whnf
   (conv=>whnf); refine ⟨[],by kernel_rfl,?_⟩
   conv=>whnf
   (conv=>whnf); refine ⟨⟨(by omega),(by omega)⟩,?_⟩
   conv=>whnf
   (conv=>whnf); refine ⟨⟨(by omega),(by omega)⟩,?_⟩
   conv=>whnf
   (conv=>whnf); refine .inl ?_
   conv=>whnf
   (conv=>whnf); refine ⟨by assumption,?_⟩
   conv=>whnf
   (conv=>whnf); refine .inl ?_
   conv=>whnf
   (conv=>whnf); refine ⟨(by show _ * (32 + 1) ≤ _; omega),?_⟩
   conv=>whnf
   (conv=>whnf); refine ⟨inK64 (by omega) (by omega),?_⟩
   conv=>whnf
   (conv=>whnf); refine ⟨_,_,⟨⟨k + 1,by omega,rfl,rfl⟩,by omega⟩,⟨⟨.inl rfl,rfl,rfl,rfl⟩,⟨⟨rfl,rfl,rfl,rfl,fun _=>rfl,fun i hi=>.inr (cp_row (o := fun i=>(t.getD i r0).o) (P := fun i=>(t.getD i r0).ps) hi ⟨rfl,Nat.zero_add _,fun j hj=>rfl⟩)⟩,trivial⟩,trivial⟩⟩
  ·(exfalso; omega)
 ·have e : k = t.length := by omega
  subst e
  conv=>whnf
  (conv=>whnf); refine ifB_dec (fun w1=>?_) (fun w1=>?_)
  ·(exfalso; omega)
  ·conv=>whnf
   (conv=>whnf); refine ⟨?_,nofun⟩
   exact ⟨rfl,rfl,fun _ _=>rfl⟩
theorem S7 (t : List MRow) (ht : Fit t) : SP 7 [tblA t] (tblA t) false := by
 have h := S23 t ht
 refine sound (d := 2) tok2 mixed2 Tryz.func7 (by kernel_rfl) (by kernel_rfl) ?_
 (conv=>whnf); refine .inl ⟨_,_,byX rfl (h),?_⟩
 (conv=>whnf); refine ⟨?_,nofun⟩
 exact ave_aggR (l := [rowsA t]) (by simp [AV.atom,rowsA])
def fewT (t : List MRow) : Bool := decide (t.length ≤ 8) && t.all fun r=>decide (r.ps.length ≤ 8)
theorem S5 (t : List MRow) (h1 : t.length ≤ 9223372036854775807) : SP 5 [tblA t] (vb (fewT t)) false := by
 unfold fewT
 by_cases h8 : t.length ≤ 8
 ·rw [decide_eq_true h8, Bool.true_and]
  refine sound (d := 2) tok2 mixed2 Tryz.func5 (by kernel_rfl) (by kernel_rfl) ?_
  (conv=>whnf); refine ifB_dec (fun w1=>?_) (fun w1=>?_)
  ·(exfalso; omega)
  ·(conv=>whnf); refine ⟨[],[1,3],fun st mq=>∃ (k : Nat),(k ≤ t.length) ∧ (∀ j,j < k → (t.getD j r0).ps.length ≤ 8) ∧ st = ⟨[(1,.optr 0 0 0 0),(3,i64 k)],⟨[⟨1,1,fun _=>[rowsA t],0,false,true,true⟩],[],none,0⟩,[]⟩ ∧ mq = t.length - k,
    ⟨_,_,⟨0,by omega,fun j h=>absurd h (Nat.not_lt_zero j),rfl,rfl⟩,⟨⟨.inl rfl,rfl,rfl,rfl⟩,⟨⟨rfl,rfl,rfl,rfl,fun _=>rfl,fun _ _=>.inl rfl⟩,trivial⟩,trivial⟩⟩,?_⟩
   rintro s0 m0 ⟨k,hk,hq,rfl,hmeas⟩
   by_cases hlt : k < t.length
   ·conv=>whnf
    (conv=>whnf); refine ifB_dec (fun w2=>?_) (fun w2=>?_)
    ·conv=>whnf
     (conv=>whnf); refine ⟨⟨(by omega),(by omega)⟩,?_⟩
     conv=>whnf
     (conv=>whnf); refine ifB_dec (fun w3=>?_) (fun w3=>?_)
     ·conv=>whnf
      (conv=>whnf); refine ⟨?_,nofun⟩
      refine endb ?_
      have hw : ((t.getD k r0).ps.length : Int) > 8 := by assumption
      have hm : t.getD k r0 ∈ t := by rw [List.getD_eq_getElem?_getD,List.getElem?_eq_getElem hlt]; exact List.getElem_mem hlt
      symm
      rw [List.all_eq_false]
      exact ⟨_,hm,by simp only [decide_eq_true_eq]; omega⟩
     ·conv=>whnf
      (conv=>whnf); refine ⟨inK64 (by omega) (by omega),?_⟩
      have hw : ¬ ((t.getD k r0).ps.length : Int) > 8 := by assumption
      conv=>whnf
      (conv=>whnf); refine ⟨_,_,⟨⟨k + 1,by omega,(fun j hj=>by by_cases e : j = k; (rw [e]; omega); exact hq j (by omega)),rfl,rfl⟩,by omega⟩,⟨⟨.inl rfl,rfl,rfl,rfl⟩,⟨⟨rfl,rfl,rfl,rfl,fun _=>rfl,fun _ _=>.inl rfl⟩,trivial⟩,trivial⟩⟩
    ·(exfalso; omega)
   ·have e : k = t.length := by omega
    subst e
    conv=>whnf
    (conv=>whnf); refine ifB_dec (fun w2=>?_) (fun w2=>?_)
    ·(exfalso; omega)
    ·conv=>whnf
     (conv=>whnf); refine ⟨?_,nofun⟩
     refine endb ?_
     symm
     rw [List.all_eq_true]
     intro r hr
     obtain ⟨j,hj,e⟩ := List.getElem_of_mem hr
     have := hq j hj
     rw [List.getD_eq_getElem?_getD,List.getElem?_eq_getElem hj] at this
     rw [← e]
     exact decide_eq_true this
 ·rw [decide_eq_false h8,Bool.false_and]
  refine sound (d := 2) tok2 mixed2 Tryz.func5 (by kernel_rfl) (by kernel_rfl) ?_
  (conv=>whnf); refine ifB_dec (fun w1=>?_) (fun w1=>?_)
  ·(conv=>whnf); refine ⟨?_,nofun⟩
   (first | contradiction | omega | rfl)
  ·(exfalso; omega)
theorem S94 (n : Int) : SP 94 [i64 n] (i64 (if -1000 ≤ n ∧ n ≤ 1000 then 0 else 2)) false := by
 have h := S93 n (-1000) 1000
 refine sound (d := 2) tok2 mixed2 Tryz.func94 (by kernel_rfl) (by kernel_rfl) ?_
 (conv=>whnf); refine .inl ⟨_,_,byX rfl (Sound1.pl (h) rfl),?_⟩
 (conv=>whnf); refine ifB_not ?_
 (conv=>whnf); refine ifB_dec (fun w1=>?_) (fun w1=>?_)
 ·(conv=>whnf); refine ⟨?_,nofun⟩
  exact endi (if_pos (by assumption)).symm
 ·(conv=>whnf); refine ⟨?_,nofun⟩
  exact endi (if_neg (by assumption)).symm
theorem S95 (n : Int) : SP 95 [i64 n] (i64 (if -10000 ≤ n ∧ n ≤ 10000 then 0 else 2)) false := by
 have h := S93 n (-10000) 10000
 refine sound (d := 2) tok2 mixed2 Tryz.func95 (by kernel_rfl) (by kernel_rfl) ?_
 (conv=>whnf); refine .inl ⟨_,_,byX rfl (Sound1.pl (h) rfl),?_⟩
 (conv=>whnf); refine ifB_not ?_
 (conv=>whnf); refine ifB_dec (fun w1=>?_) (fun w1=>?_)
 ·(conv=>whnf); refine ⟨?_,nofun⟩
  exact endi (if_pos (by assumption)).symm
 ·(conv=>whnf); refine ⟨?_,nofun⟩
  exact endi (if_neg (by assumption)).symm
theorem S62 (a b c : P3) (ha : PtOk a) (hb : PtOk b) (hc : PtOk c) : SP 62 [.agg [i64 a.1,i64 a.2.1,i64 a.2.2],.agg [i64 b.1,i64 b.2.1,i64 b.2.2],.agg [i64 c.1,i64 c.2.1,i64 c.2.2]] (i64 (turnI a b c)) false := by
 have h1 := mul2 (a := b.1 - a.1) (b := c.2.1 - a.2.1) (by unfold PtOk at *; omega) (by unfold PtOk at *; omega)
 have h2 := mul2 (a := c.1 - a.1) (b := b.2.1 - a.2.1) (by unfold PtOk at *; omega) (by unfold PtOk at *; omega)
 unfold PtOk at *
 unfold turnI
 refine sound (d := 2) tok2 mixed2 Tryz.func62 (by kernel_rfl) (by kernel_rfl) ?_
 (conv=>whnf); refine ⟨inK64 (by omega) (by omega),?_⟩
 (conv=>whnf); refine ⟨inK64 (by omega) (by omega),?_⟩
 (conv=>whnf); refine ⟨inK64 (by omega) (by omega),?_⟩
 (conv=>whnf); refine ⟨inK64 (by omega) (by omega),?_⟩
 (conv=>whnf); refine ⟨inK64 (by omega) (by omega),?_⟩
 (conv=>whnf); refine ⟨inK64 (by omega) (by omega),?_⟩
 (conv=>whnf); refine ⟨inK64 (by omega) (by omega),?_⟩
 (conv=>whnf); refine ⟨?_,nofun⟩
 (first | rfl | contradiction)
theorem pnt_ifs (p : P3) : (pntE p = 0) ↔ ((-1000 ≤ p.1 ∧ p.1 ≤ 1000) ∧ (-1000 ≤ p.2.1 ∧ p.2.1 ≤ 1000) ∧ -10000 ≤ p.2.2 ∧ p.2.2 ≤ 10000) := ⟨pntE_ok,fun h=>if_pos h⟩
theorem ptsP_two (l : List P3) : ∀ k,ptsP l k = 0 ∨ ptsP l k = 2
 | 0=>.inl rfl
 | k + 1 => by
  rw [ptsP_succ]
  by_cases h : ptsP l k = 0
  ·rw [if_neg (not_not_intro h)]
   unfold pntE
   split
   ·exact .inl rfl
   ·exact .inr rfl
  ·rw [if_pos h]; exact ptsP_two l k
theorem ptsP_mono {l : List P3} {k : Nat} (h : ptsP l k ≠ 0) : ∀ j,k ≤ j → ptsP l j = ptsP l k := fun j hj=>by
 induction j with
 | zero=>rw [show k = 0 by omega]
 | succ j ih =>
  by_cases e : k = j + 1
  ·rw [e]
  ·have := ih (by omega)
   rw [ptsP_succ,this,if_pos h]
theorem S60 (t : List MRow) (ht : Fit t) (i : Nat) (hi : i < t.length) : SP 60 [tblA t, i64 i] (i64 (rowA t i)) false := by
 have h36 := S93 (t.getD i r0).o 0 100
 have hl := ht.2 i
 unfold rowA
 by_cases g1 : 0 ≤ (t.getD i r0).o ∧ (t.getD i r0).o ≤ 100
 ·rw [if_neg (not_not_intro g1)]
  rw [show win (t.getD i r0).o 0 100 = true from decide_eq_true g1] at h36
  by_cases g2 : 2 ≤ (t.getD i r0).ps.length ∧ (t.getD i r0).ps.length = npT t
  ·have g2a : ¬ (((t.getD (i : Int).toNat r0).ps.length : Int) < 2) := by show ¬ (((t.getD i r0).ps.length : Int) < 2); omega
   have g2b : ((t.getD (i : Int).toNat r0).ps.length : Int) = ((t.getD (0 : Int).toNat r0).ps.length : Int) := by
    show ((t.getD i r0).ps.length : Int) = ((t.getD 0 r0).ps.length : Int)
    have := g2.2
    unfold npT at this
    omega
   rw [if_neg (not_not_intro g2)]
   by_cases g3 : 6 < (t.getD i r0).ps.length
   ·rw [if_pos g3]
    have g3a : ((t.getD (i : Int).toNat r0).ps.length : Int) > 6 := by show ((t.getD i r0).ps.length : Int) > 6; omega
    refine sound (d := 2) tok2 mixed2 Tryz.func60 (by kernel_rfl) (by kernel_rfl) ?_
    (conv=>whnf); refine ⟨⟨(by omega),(by omega)⟩,?_⟩
    (conv=>whnf); refine .inl ⟨_,_,byX rfl (Sound1.pl (h36) rfl),?_⟩
    (conv=>whnf); refine ⟨[],by kernel_rfl,?_⟩
    (conv=>whnf); refine ifB_dec (fun w1=>?_) (fun w1=>?_)
    ·(exfalso; omega)
    ·(conv=>whnf); refine ⟨⟨(by omega),(by omega)⟩,?_⟩
     (conv=>whnf); refine ifB_bne (fun w2=>?_) (fun w2=>?_)
     ·(exfalso; omega)
     ·(conv=>whnf); refine ifB_dec (fun w3=>?_) (fun w3=>?_)
      ·(conv=>whnf); refine ⟨?_,nofun⟩
       (first | contradiction | rfl)
      ·(exfalso; omega)
   ·rw [if_neg g3]
    have g3a : ¬ ((t.getD (i : Int).toNat r0).ps.length : Int) > 6 := by show ¬ ((t.getD i r0).ps.length : Int) > 6; omega
    refine sound (d := 2) tok2 mixed2 Tryz.func60 (by kernel_rfl) (by kernel_rfl) ?_
    (conv=>whnf); refine ⟨⟨(by omega),(by omega)⟩,?_⟩
    (conv=>whnf); refine .inl ⟨_,_,byX rfl (Sound1.pl (h36) rfl),?_⟩
    (conv=>whnf); refine ⟨[],by kernel_rfl,?_⟩
    (conv=>whnf); refine ifB_dec (fun w1=>?_) (fun w1=>?_)
    ·(exfalso; omega)
    ·(conv => whnf); refine ⟨⟨(by omega), (by omega)⟩, ?_⟩
     (conv=>whnf); refine ifB_bne (fun w2=>?_) (fun w2=>?_)
     ·(exfalso; omega)
     ·(conv => whnf); refine ifB_dec (fun w3 => ?_) (fun w3 => ?_)
      ·(exfalso; omega)
      ·(conv=>whnf); refine ⟨[],[5,6],fun st mq=>∃ (k : Nat),(k ≤ (t.getD i r0).ps.length) ∧ (ptsP (t.getD i r0).ps k = 0) ∧ st = ⟨[(5,.optr 1 0 0 0),(6,i64 k)],⟨[⟨1,1,fun _=>[rowsA t],0,false,true,true⟩,⟨2,1,fun _=>[i64 (t.getD i r0).o,ptsA (t.getD i r0).ps],0,false,true,true⟩],[],none,0⟩,[]⟩ ∧ mq = (t.getD i r0).ps.length - k,
        ⟨_,_,⟨0,by omega,rfl,rfl,rfl⟩,⟨⟨.inl rfl,rfl,rfl,rfl⟩,⟨⟨rfl,rfl,rfl,rfl,fun _=>rfl,fun _ _=>.inl rfl⟩,⟨⟨rfl,rfl,rfl,rfl,fun _=>rfl,fun _ _=>.inl rfl⟩,trivial⟩⟩,trivial⟩⟩,?_⟩
       rintro s0 m0 ⟨k,hk,hz,rfl,hmeas⟩
       by_cases hlt : k < (t.getD i r0).ps.length
       ·have c1 := S94 ((t.getD i r0).ps.getD k p0).1
        have c2 := S94 ((t.getD i r0).ps.getD k p0).2.1
        have c3 := S95 ((t.getD i r0).ps.getD k p0).2.2
        have hs := ptsP_succ (t.getD i r0).ps k
        rw [if_neg (not_not_intro hz)] at hs
        by_cases hp : pntE ((t.getD i r0).ps.getD k p0) = 0
        ·have hb := pntE_ok hp
         rw [if_pos hb.1] at c1
         rw [if_pos hb.2.1] at c2
         rw [if_pos hb.2.2] at c3
         rw [hp] at hs
         conv=>whnf
         (conv=>whnf); refine ifB_dec (fun w4=>?_) (fun w4=>?_)
         ·conv=>whnf
          (conv=>whnf); refine ⟨⟨(by omega),(by omega)⟩,?_⟩
          conv=>whnf
          (conv=>whnf); refine .inl ⟨_,_,byX rfl (Sound1.pl (c1) rfl),?_⟩
          conv=>whnf
          (conv=>whnf); refine .inl ⟨_,_,byX rfl (Sound1.pl (c2) rfl),?_⟩
          conv=>whnf
          (conv=>whnf); refine .inl ⟨_,_,byX rfl (Sound1.pl (c3) rfl),?_⟩
          conv=>whnf
          (conv=>whnf); refine ⟨inK64 (by omega) (by omega),?_⟩
          conv=>whnf
          (conv=>whnf); refine ⟨_,_,⟨⟨k + 1,by omega,hs,rfl,rfl⟩,by omega⟩,⟨⟨.inl rfl,rfl,rfl,rfl⟩,⟨⟨rfl,rfl,rfl,rfl,fun _=>rfl,fun _ _=>.inl rfl⟩,⟨⟨rfl,rfl,rfl,rfl,fun _=>rfl,fun _ _=>.inl rfl⟩,trivial⟩⟩,trivial⟩⟩
         ·(exfalso; omega)
        ·have hn : ¬ ptsP (t.getD i r0).ps (k + 1) = 0 := by rw [hs]; exact hp
         have h2 : pntsE (t.getD i r0).ps = 2 := by
          have := ptsP_mono hn (t.getD i r0).ps.length (by omega)
          have h3 := (ptsP_two (t.getD i r0).ps (k + 1)).resolve_left hn
          show ptsP (t.getD i r0).ps (t.getD i r0).ps.length = 2
          rw [this,h3]
         rw [h2]
         by_cases b1 : -1000 ≤ ((t.getD i r0).ps.getD k p0).1 ∧ ((t.getD i r0).ps.getD k p0).1 ≤ 1000
         ·rw [if_pos b1] at c1
          by_cases b2 : -1000 ≤ ((t.getD i r0).ps.getD k p0).2.1 ∧ ((t.getD i r0).ps.getD k p0).2.1 ≤ 1000
          ·rw [if_pos b2] at c2
           rw [if_neg (fun e=>hp ((pnt_ifs _).2 ⟨b1,b2,e⟩))] at c3
           conv=>whnf
           (conv=>whnf); refine ifB_dec (fun w4=>?_) (fun w4=>?_)
           ·conv=>whnf
            (conv=>whnf); refine ⟨⟨(by omega),(by omega)⟩,?_⟩
            conv=>whnf
            (conv=>whnf); refine .inl ⟨_,_,byX rfl (Sound1.pl (c1) rfl),?_⟩
            conv=>whnf
            (conv=>whnf); refine .inl ⟨_,_,byX rfl (Sound1.pl (c2) rfl),?_⟩
            conv=>whnf
            (conv=>whnf); refine .inl ⟨_,_,byX rfl (Sound1.pl (c3) rfl),?_⟩
            conv=>whnf
            (conv=>whnf); refine ⟨?_,nofun⟩
            (first | contradiction | rfl)
           ·(exfalso; omega)
          ·rw [if_neg b2] at c2
           conv=>whnf
           (conv=>whnf); refine ifB_dec (fun w4=>?_) (fun w4=>?_)
           ·conv=>whnf
            (conv=>whnf); refine ⟨⟨(by omega),(by omega)⟩,?_⟩
            conv=>whnf
            (conv=>whnf); refine .inl ⟨_,_,byX rfl (Sound1.pl (c1) rfl),?_⟩
            conv=>whnf
            (conv=>whnf); refine .inl ⟨_,_,byX rfl (Sound1.pl (c2) rfl),?_⟩
            conv=>whnf
            (conv=>whnf); refine ⟨?_,nofun⟩
            (first | contradiction | rfl)
           ·(exfalso; omega)
         ·rw [if_neg b1] at c1
          conv=>whnf
          (conv=>whnf); refine ifB_dec (fun w4=>?_) (fun w4=>?_)
          ·conv=>whnf
           (conv=>whnf); refine ⟨⟨(by omega),(by omega)⟩,?_⟩
           conv=>whnf
           (conv=>whnf); refine .inl ⟨_,_,byX rfl (Sound1.pl (c1) rfl),?_⟩
           conv=>whnf
           (conv=>whnf); refine ⟨?_,nofun⟩
           (first | contradiction | rfl)
          ·(exfalso; omega)
       ·have e : k = (t.getD i r0).ps.length := by omega
        subst e
        have e : pntsE (t.getD i r0).ps = 0 := hz
        rw [e]
        conv=>whnf
        (conv=>whnf); refine ifB_dec (fun w4=>?_) (fun w4=>?_)
        ·(exfalso; omega)
        ·conv=>whnf
         (conv=>whnf); refine ⟨?_,nofun⟩
         (first | contradiction | rfl)
  ·rw [if_pos g2]
   have g2' : ¬ (¬ (((t.getD (i : Int).toNat r0).ps.length : Int) < 2) ∧ ((t.getD (i : Int).toNat r0).ps.length : Int) = ((t.getD (0 : Int).toNat r0).ps.length : Int)) := by
    show ¬ (¬ (((t.getD i r0).ps.length : Int) < 2) ∧ ((t.getD i r0).ps.length : Int) = ((t.getD 0 r0).ps.length : Int))
    unfold npT at g2
    omega
   refine sound (d := 2) tok2 mixed2 Tryz.func60 (by kernel_rfl) (by kernel_rfl) ?_
   (conv=>whnf); refine ⟨⟨(by omega),(by omega)⟩,?_⟩
   (conv=>whnf); refine .inl ⟨_,_,byX rfl (Sound1.pl (h36) rfl),?_⟩
   (conv=>whnf); refine ⟨[],by kernel_rfl,?_⟩
   (conv=>whnf); refine ifB_dec (fun w1=>?_) (fun w1=>?_)
   ·(conv=>whnf); refine ⟨?_,nofun⟩
    (first | contradiction | rfl | (exfalso; exact g2' ⟨by assumption,by assumption⟩))
   ·(conv=>whnf); refine ⟨⟨(by omega),(by omega)⟩,?_⟩
    (conv=>whnf); refine ifB_bne (fun w2=>?_) (fun w2=>?_)
    ·(conv=>whnf); refine ⟨?_,nofun⟩
     (first | contradiction | rfl | (exfalso; exact g2' ⟨by assumption,by assumption⟩))
    ·(exfalso; omega)
 ·rw [if_pos g1]
  rw [show win (t.getD i r0).o 0 100 = false from decide_eq_false g1] at h36
  refine sound (d := 2) tok2 mixed2 Tryz.func60 (by kernel_rfl) (by kernel_rfl) ?_
  (conv=>whnf); refine ⟨⟨(by omega),(by omega)⟩,?_⟩
  (conv=>whnf); refine .inl ⟨_,_,byX rfl (Sound1.pl (h36) rfl),?_⟩
  (conv=>whnf); refine ⟨?_,nofun⟩
  (first | contradiction | rfl)
end Go.Tr

/- Contracts of chapter 5: the reference's triangles and its check of a table. Conditions: none. -/
-- seat YtnphjhgmoijbfaaGreatDoor
namespace Go.Tr
open Go Go.Proofs
set_option maxRecDepth 20000
set_option maxHeartbeats 8000000

def tri0 : Tri := ((p0,0),(p0,0),p0,0)
abbrev rtC (x : Tri) : List AV := [i64 x.1.1.1,i64 x.1.1.2.1,i64 x.1.1.2.2,i64 x.2.1.1.1,i64 x.2.1.1.2.1,i64 x.2.1.1.2.2,i64 x.2.2.1.1,i64 x.2.2.1.2.1,i64 x.2.2.1.2.2,i64 x.1.2,i64 x.2.1.2,i64 x.2.2.2]
def tris (L : List Tri) : AV := .rslice 12 L.length fun j=>rtC (L.getD j tri0)
def triU (t : List MRow) (i k : Nat) : Tri := ((ptT t i k,(t.getD i r0).o),(ptT t i (k + 1),(t.getD i r0).o),ptT t (i + 1) k,(t.getD (i + 1) r0).o)
def triD (t : List MRow) (i k : Nat) : Tri := ((ptT t i (k + 1),(t.getD i r0).o),(ptT t (i + 1) (k + 1),(t.getD (i + 1) r0).o),ptT t (i + 1) k,(t.getD (i + 1) r0).o)
def triK (t : List MRow) (i : Nat) : Nat → List Tri
  | 0=>[]
  | k + 1=>triK t i k ++ [triU t i k] ++ [triD t i k]
theorem triK_len (t : List MRow) (i : Nat) : ∀ k,(triK t i k).length = 2 * k
 | 0=>rfl
 | k + 1=>by
  unfold triK
  rw [List.length_append,List.length_append,triK_len t i k]
  simp
  omega
theorem app_tri (L : List Tri) (x : Tri) (n j : Nat) (hn : L.length = n) (hj : j < n + 1) : rtC ((L ++ [x]).getD j tri0) = if j < n then rtC (L.getD (0 + j) tri0) else List.take 12 (List.drop ((j - n) * 12) (rtC x)) := by
 subst hn
 rw [Nat.zero_add]
 by_cases h : j < L.length
 ·rw [if_pos h]; simp [List.getD_eq_getElem?_getD,h,List.getElem?_append_left h]
 ·have : j = L.length := by omega
  subst this
  rw [if_neg h]; simp [List.getD_eq_getElem?_getD]
theorem app_tri2 (L : List Tri) (x y : Tri) (n j : Nat) (hn : L.length = n) (hj : j < n + 1 + 1) : rtC ((L ++ [x] ++ [y]).getD j tri0) = if j < n + 1 then (if 0 + j < n then rtC (L.getD (0 + (0 + j)) tri0) else List.take 12 (List.drop ((0 + j - n) * 12) (rtC x))) else List.take 12 (List.drop ((j - (n + 1)) * 12) (rtC y)) := by
 rw [app_tri (L ++ [x]) y (n + 1) j (by simp [hn]) hj]
 by_cases h : j < n + 1
 ·rw [if_pos h,if_pos h,app_tri L x n (0 + j) hn (by omega)]
 ·rw [if_neg h,if_neg h]
theorem S61 (t : List MRow) (hR : RwOk t) (i : Nat) (hi : i + 1 < t.length) : SP 61 [tblA t,i64 i] (tris (triK t i (npT t - 1))) false := by
 have hl1 : (t.getD i r0).ps.length = npT t := hR.len i (by omega)
 have hl2 : (t.getD (i + 1) r0).ps.length = npT t := hR.len (i + 1) (by omega)
 have hnp := hR.np
 have hn := hR.n
 refine sound (d := 2) tok2 mixed2 Tryz.func61 (by kernel_rfl) (by kernel_rfl) ?_
 (conv=>whnf); refine ⟨[(6,13),(10,13)],by kernel_rfl,?_⟩
 (conv=>whnf); refine ⟨⟨(by omega),(by omega)⟩,?_⟩
 (conv=>whnf); refine ⟨inK64 (by omega) (by omega),?_⟩
 (conv=>whnf); refine ⟨⟨(by omega),(by omega)⟩,?_⟩
 (conv=>whnf); refine ⟨[.slot 7 12],[5,6,7,8],fun st mq=>∃ (k : Nat) (L : List Tri),(k + 1 ≤ npT t) ∧ (L = triK t i k) ∧ (L.length = 2 * k) ∧ st = ⟨[(5,.optr 1 0 0 0),(6,.optr 2 0 0 0),(7,.oslice 3 0 0 (2 * k) none),(8,i64 k)],⟨[⟨1,1,fun _=>[rowsA t],0,false,true,true⟩,⟨2,1,fun _=>[i64 (t.getD i r0).o,ptsA (t.getD i r0).ps],0,false,true,true⟩,⟨2,1,fun _=>[i64 (t.getD (i + 1) r0).o,ptsA (t.getD (i + 1) r0).ps],0,false,true,true⟩,⟨12,2 * k,fun j=>rtC (L.getD j tri0),0,false,true,false⟩],[],none,0⟩,[]⟩ ∧ mq = npT t - k,
  ⟨_,_,⟨0,[],by omega,rfl,rfl,rfl,rfl⟩,⟨⟨.inl rfl,rfl,rfl,rfl⟩,⟨⟨rfl,rfl,rfl,rfl,fun _=>rfl,fun _ _=>.inl rfl⟩,⟨⟨rfl,rfl,rfl,rfl,fun _=>rfl,fun _ _=>.inl rfl⟩,⟨⟨rfl,rfl,rfl,rfl,fun _=>rfl,fun _ _=>.inl rfl⟩,⟨⟨rfl,rfl,rfl,rfl,fun _=>rfl,fun i h=>.inl (absurd h (Nat.not_lt_zero i))⟩,trivial⟩⟩⟩⟩,trivial⟩⟩,?_⟩
 rintro s0 m0 ⟨k,L,hk,hL,hln,rfl,hmeas⟩
 by_cases hlt : k + 1 < npT t
 ·conv=>whnf
  (conv=>whnf); refine ⟨inK64 (by omega) (by omega),?_⟩
  conv=>whnf
  (conv=>whnf); refine ifB_dec (fun w1=>?_) (fun w1=>?_)
  ·conv=>whnf
   (conv=>whnf); refine ⟨[],by kernel_rfl,?_⟩
   conv=>whnf
   (conv=>whnf); refine ⟨⟨(by omega),(by omega)⟩,?_⟩
   conv=>whnf
   (conv=>whnf); refine ⟨inK64 (by omega) (by omega),?_⟩
   conv=>whnf
   (conv=>whnf); refine ⟨⟨(by omega),(by omega)⟩,?_⟩
   conv=>whnf
   (conv=>whnf); refine ⟨⟨(by omega),(by omega)⟩,?_⟩
   conv=>whnf
   (conv=>whnf); refine .inl ?_
   conv=>whnf
   (conv=>whnf); refine ⟨(by show _ * (96 + 1) ≤ _; omega),?_⟩
   conv=>whnf
   (conv=>whnf); refine ⟨[],by kernel_rfl,?_⟩
   conv=>whnf
   (conv=>whnf); refine ⟨inK64 (by omega) (by omega),?_⟩
   conv=>whnf
   (conv=>whnf); refine ⟨⟨(by omega),(by omega)⟩,?_⟩
   conv=>whnf
   (conv=>whnf); refine ⟨inK64 (by omega) (by omega),?_⟩
   conv=>whnf
   (conv=>whnf); refine ⟨⟨(by omega),(by omega)⟩,?_⟩
   conv=>whnf
   (conv=>whnf); refine ⟨⟨(by omega),(by omega)⟩,?_⟩
   conv=>whnf
   (conv=>whnf); refine .inl ?_
   conv=>whnf
   (conv=>whnf); refine ⟨(by show _ * (96 + 1) ≤ _; omega),?_⟩
   conv=>whnf
   (conv=>whnf); refine ⟨inK64 (by omega) (by omega),?_⟩
   conv=>whnf
   (conv=>whnf); refine ⟨_,_,⟨⟨k + 1,L ++ [triU t i k] ++ [triD t i k],by omega,(by rw [hL]; rfl),(by simp [hln]; omega),rfl,rfl⟩,by omega⟩,⟨⟨.inl rfl,rfl,rfl,rfl⟩,⟨⟨rfl,rfl,rfl,rfl,fun _=>rfl,fun _ _=>.inl rfl⟩,⟨⟨rfl,rfl,rfl,rfl,fun _=>rfl,fun _ _=>.inl rfl⟩,⟨⟨rfl,rfl,rfl,rfl,fun _=>rfl,fun _ _=>.inl rfl⟩,⟨⟨rfl,rfl,rfl,rfl,fun _=>rfl,fun j hj=>.inl (app_tri2 L (triU t i k) (triD t i k) (2 * k) j hln hj)⟩,trivial⟩⟩⟩⟩,trivial⟩⟩
  ·(exfalso; omega)
 ·have e : k = npT t - 1 := by omega
  rw [← e,← hL]
  conv=>whnf
  (conv=>whnf); refine ⟨inK64 (by omega) (by omega),?_⟩
  conv=>whnf
  (conv=>whnf); refine ifB_dec (fun w1=>?_) (fun w1=>?_)
  ·(exfalso; omega)
  ·conv=>whnf
   (conv=>whnf); refine ⟨?_,nofun⟩
   exact ⟨rfl,hln.symm,fun _ _=>rfl⟩
def trE (L : List Tri) (j : Nat) : Int := if turnI (L.getD j tri0).1.1 (L.getD j tri0).2.1.1 (L.getD j tri0).2.2.1 ≤ 0 then 13 else 0
theorem triK_get (t : List MRow) (i : Nat) : ∀ (n k : Nat),k < n → (triK t i n).getD (2 * k) tri0 = triU t i k ∧ (triK t i n).getD (2 * k + 1) tri0 = triD t i k
 | 0,k,h=>absurd h (Nat.not_lt_zero k)
 | n + 1, k, h => by
  have hl := triK_len t i n
  unfold triK
  by_cases e : k < n
  ·have ih := triK_get t i n k e
   rw [← ih.1,← ih.2]
   constructor
   ·rw [List.getD_eq_getElem?_getD,List.append_assoc,List.getElem?_append_left (by omega),List.getD_eq_getElem?_getD]
   ·rw [List.getD_eq_getElem?_getD,List.append_assoc,List.getElem?_append_left (by omega),List.getD_eq_getElem?_getD]
  ·obtain rfl : k = n := by omega
   constructor
   ·rw [List.getD_eq_getElem?_getD,List.append_assoc,List.getElem?_append_right (by omega),hl,Nat.sub_self]; rfl
   ·rw [List.getD_eq_getElem?_getD,List.append_assoc,List.getElem?_append_right (by omega),hl,show 2 * k + 1 - 2 * k = 1 by omega]; rfl
theorem trE_strip (t : List MRow) (i : Nat) : ∀ (n k : Nat),k ≤ n → ((fstE (trE (triK t i n)) (2 * n - 2 * k) (2 * k)).2 = (fstE (quadE t i) (n - k) k).2)
 | n, k, h => by
  induction hm : n - k generalizing k with
  | zero =>
   rw [show 2 * n - 2 * k = 0 by omega]; rfl
  | succ m ih =>
   have hlt : k < n := by omega
   have hg := triK_get t i n k hlt
   have e1 : trE (triK t i n) (2 * k) = if tri1 t i k ≤ 0 then 13 else 0 := by unfold trE; rw [hg.1]; rfl
   have e2 : trE (triK t i n) (2 * k + 1) = if tri2 t i k ≤ 0 then 13 else 0 := by unfold trE; rw [hg.2]; rfl
   have ih := ih (k + 1) (by omega) (by omega)
   have n13 : (13 : Int) ≠ 0 := by decide
   have n0 : ¬ (0 : Int) ≠ 0 := by decide
   rw [show 2 * n - 2 * k = (2 * n - 2 * (k + 1)) + 1 + 1 by omega]
   by_cases g1 : tri1 t i k ≤ 0
   ·have e3 : quadE t i k = 13 := if_pos g1
    rw [fstE,e1,if_pos g1,if_pos n13,fstE,e3,if_pos n13]
   ·by_cases g2 : tri2 t i k ≤ 0
    ·have e3 : quadE t i k = 13 := by unfold quadE; rw [if_neg g1,if_pos g2]
     rw [fstE,e1,if_neg g1,if_neg n0,fstE,e2,if_pos g2,if_pos n13,fstE,e3,if_pos n13]
    ·have e3 : quadE t i k = 0 := by unfold quadE; rw [if_neg g1,if_neg g2]
     rw [fstE,e1,if_neg g1,if_neg n0,fstE,e2,if_neg g2,if_neg n0,show fstE (quadE t i) (m + 1) k = fstE (quadE t i) m (k + 1) by rw [fstE,e3,if_neg n0]]
     exact ih
end Go.Tr

/- Contracts of chapter 6: what all share; its examples. Conditions: none. -/
import Derived.Test.YtadidnljgmlaoaaGreatDoorTr06
import Derived.Test.YtadidnljgmlaoaaGreatDoorTr07
import Derived.Test.YtadidnljgmlaoaaGreatDoorProg
import Derived.Lib.ItoaNum
import Derived.Lib.AtoiTie
import Derived.Lib.Strings
import Derived.Shelf.Strconv.Itoa3
import Derived.Shelf.Strconv.AtoiAll
import Derived.Shelf.Strings.Split
import Derived.Shelf.Strings.Search3
import Derived.Shelf.Strings.Prefix
import Derived.Shelf.Strings.OnBuilder
import Derived.Shelf.LaysM
import Derived.Shelf.LaysC
import Derived.Shelf.Strings.BuilderX
import Derived.Lib.SplitLaws
import Derived.Lib.Join
import Derived.Lib.ItoaLen
set_option linter.unusedSectionVars false
set_option linter.unnecessarySimpa false
set_option linter.unusedVariables false
set_option linter.unusedSimpArgs false

namespace Go.Tr
open Go Go.Proofs

abbrev i64 (n : Int) : AV := .val (.int .i64 n)
abbrev vb (b : Bool) : AV := .val (.bool b)
theorem mixed2 : Tryz.prog.follows .mixedOrders = true := by kernel_rfl
def pow10V : List Value := (List.range 20).map fun i=>.int .u64 ((10 ^ i : Nat) : Int)
instance gtab : GTab := ⟨fun g=>match g with | 2=>some (pow10V.map .val) | 0=>some [.err] | 1=>some [.err] | _=>none,False,fun g=>match g with | 3=>true | _=>false⟩
set_option maxRecDepth 20000
set_option maxHeartbeats 8000000
abbrev SP := Sound1 Tryz.prog
def K2 (t : Nat) : Option (List LK) :=
   none
theorem tok2 : TOK Tryz.prog (TK Tryz.prog K2) := TOK_TK fun t ks h=>by
  cases h

theorem run47 : Run.ok Tryz.prog ⟨12,[.agg [i64 2,i64 1,i64 2,i64 50],i64 7],.tuple [i64 48,i64 0]⟩ := run_ok mixed2 (l := []) (by simp) 1000 60 (by kernel_rfl)
def intsV (l : List Int) : AV := .rslice 1 l.length fun i=>[i64 (l.getD i 0)]
def boxE : AV := .agg [.rslice 2 4 fun i=>[[i64 1,i64 1],[i64 2,i64 3],[i64 3,i64 4],[i64 1,i64 2]].getD i []]
theorem run20 : Run.ok Tryz.prog ⟨14,[intsV [1,2,3,1],intsV [0,1,2,3]],.tuple [intsV [0,1,2,2],i64 0]⟩ := run_ok mixed2 (l := []) (by simp) 1000 60 (by kernel_rfl)
theorem run30 : Run.ok Tryz.prog ⟨15,[boxE],.tuple [vb true,i64 0]⟩ := run_ok mixed2 (l := []) (by simp) 1000 60 (by kernel_rfl)
theorem run70 : Run.ok Tryz.prog ⟨19,[.agg [i64 100,vb false,i64 103,vb false,i64 200,vb false],i64 5],.tuple [.agg [i64 103,vb false,vb false,vb true],i64 0]⟩ := run_ok mixed2 (l := []) (by simp) 1000 60 (by kernel_rfl)
theorem S4 : SP 4 [] (vb true) false := run_ok mixed2 (l := [⟨12,[.agg [i64 2,i64 1,i64 2,i64 50],i64 7],.tuple [i64 48,i64 0]⟩,⟨14,[intsV [1,2,3,1],intsV [0,1,2,3]],.tuple [intsV [0,1,2,2],i64 0]⟩,⟨15,[boxE],.tuple [vb true,i64 0]⟩,
 ⟨19,[.agg [i64 100,vb false,i64 103,vb false,i64 200,vb false],i64 5],.tuple [.agg [i64 103,vb false,vb false,vb true],i64 0]⟩]) (by
  intro x hx
  simp only [List.mem_cons,List.not_mem_nil,or_false] at hx
  rcases hx with rfl | rfl | rfl | rfl
  ·exact run47
  ·exact run20
  ·exact run30
  ·exact run70) 1000 60 (by kernel_rfl)
end Go.Tr

/- Contracts of chapter 6: small functions; gates and rules. Conditions: none. -/
namespace Go.Tr
open Go Go.Proofs
set_option maxRecDepth 20000
set_option maxHeartbeats 8000000

def firstOf : List Int → Int
  | []=>0
  | x :: r=>if x = 0 then firstOf r else x
theorem firstOf_drop (l : List Int) (k : Nat) (h : k < l.length) : firstOf (l.drop k) = if l.getD k 0 = 0 then firstOf (l.drop (k+1)) else l.getD k 0 := by
  rw [List.drop_eq_getElem_cons h,firstOf]; simp [List.getD,h]
def ints (l : List Int) : AV := .rslice 1 l.length fun i=>[i64 (l.getD i 0)]
theorem endi {a b : Int} (h : a = b) : i64 a = i64 b := congrArg (fun x=>i64 x) h
theorem endb {a b : Bool} (h : a = b) : vb a = vb b := congrArg (fun x=>vb x) h
theorem first2 (a b : Int) : firstOf [a,b] = if a ≠ 0 then a else b := by
 unfold firstOf firstOf firstOf
 by_cases h : a = 0
 ·subst h; by_cases h2 : b = 0 <;> simp [h2]
 ·simp [h]
def win (x a b : Int) : Bool := decide (a ≤ x ∧ x ≤ b)
theorem S52 (x a b : Int) : SP 52 [i64 x,i64 a,i64 b] (vb (win x a b)) false := by
 refine sound (d := 2) tok2 mixed2 Tryz.func52 (by kernel_rfl) (by kernel_rfl) ?_
 unfold win
 (conv=>whnf); refine ifB_dec (fun w1=>?_) (fun w1=>?_)
 ·(conv=>whnf); refine ⟨?_,nofun⟩
  exact endb (decide_eq_decide.2 ⟨fun h=>⟨w1,h⟩,fun h=>h.2⟩)
 ·(conv=>whnf); refine ⟨?_,nofun⟩
  exact endb (decide_eq_false fun h=>w1 h.1).symm
theorem S30 (x a b : Int) : SP 30 [i64 x,i64 a,i64 b] (vb (win x a b)) false := by
 refine sound (d := 2) tok2 mixed2 Tryz.func30 (by kernel_rfl) (by kernel_rfl) ?_
 unfold win
 (conv=>whnf); refine ifB_dec (fun w1=>?_) (fun w1=>?_)
 ·(conv=>whnf); refine ⟨?_,nofun⟩
  exact endb (decide_eq_decide.2 ⟨fun h=>⟨w1,h⟩,fun h=>h.2⟩)
 ·(conv=>whnf); refine ⟨?_,nofun⟩
  exact endb (decide_eq_false fun h=>w1 h.1).symm
theorem S51 (x b : Int) (h1 : -9223372036854775807 ≤ b ∧ b ≤ 9223372036854775807) : SP 51 [i64 x,i64 b] (vb (win x (-b) b)) false := by
 have h := S52 x (-b) b
 refine sound (d := 2) tok2 mixed2 Tryz.func51 (by kernel_rfl) (by kernel_rfl) ?_
 (conv=>whnf); refine ⟨inK64 (by omega) (by omega),?_⟩
 (conv=>whnf); refine .inl ⟨_,_,byX rfl (Sound1.pl (h) rfl),?_⟩
 (conv=>whnf); refine ⟨?_,nofun⟩
 rfl
theorem S35 (c : Bool) (e : Int) : SP 35 [vb c,i64 e] (i64 (if c then 0 else e)) false := by
 refine sound (d := 2) tok2 mixed2 Tryz.func35 (by kernel_rfl) (by kernel_rfl) ?_
 cases c with
 | true =>
  (conv=>whnf); refine ⟨?_,nofun⟩
  rfl
 | false =>
  (conv=>whnf); refine ⟨?_,nofun⟩
  rfl
theorem S31 (l : List Int) (hl : l.length ≤ 1000000000) : SP 31 [ints l] (i64 (firstOf l)) false := by
 refine sound (d := 2) tok2 mixed2 Tryz.func31 (by kernel_rfl) (by kernel_rfl) ?_
 (conv=>whnf); refine ⟨[],[5,6,7],fun st mq=>∃ (k : Nat),(k ≤ l.length) ∧ (firstOf (l.drop k) = firstOf l) ∧ st = ⟨[(5,ints l),(6,i64 l.length),(7,i64 k)],⟨[],[],none,0⟩,[]⟩ ∧ mq = l.length - k,
  ⟨_,_,⟨0,by omega,rfl,rfl,rfl⟩,⟨⟨.inl rfl,rfl,rfl,rfl⟩,trivial,trivial⟩⟩,?_⟩
 rintro s0 m0 ⟨k,hk,hf,rfl,hmeas⟩
 by_cases hlt : k < l.length
 ·have hd := firstOf_drop l k hlt
  conv=>whnf
  (conv=>whnf); refine ifB_dec (fun w1=>?_) (fun w1=>?_)
  ·conv=>whnf
   (conv=>whnf); refine ⟨⟨(by omega),(by omega)⟩,?_⟩
   conv=>whnf
   (conv=>whnf); refine ifB_bne (fun w2=>?_) (fun w2=>?_)
   ·conv=>whnf
    (conv=>whnf); refine ⟨?_,nofun⟩
    rw [if_neg (show ¬ l.getD k 0 = 0 from w2)] at hd
    show i64 _ = i64 _
    rw [← hf,hd]; rfl
   ·conv=>whnf
    (conv=>whnf); refine ⟨inK64 (by omega) (by omega),?_⟩
    rw [if_pos (show l.getD k 0 = 0 from w2)] at hd
    conv=>whnf
    (conv=>whnf); refine ⟨_,_,⟨⟨k + 1,by omega,hd.symm.trans hf,rfl,rfl⟩,by omega⟩,⟨⟨.inl rfl,rfl,rfl,rfl⟩,trivial,trivial⟩⟩
  ·(exfalso; omega)
 ·have e : k = l.length := by omega
  subst e
  conv=>whnf
  (conv=>whnf); refine ifB_dec (fun w1=>?_) (fun w1=>?_)
  ·(exfalso; omega)
  ·conv=>whnf
   (conv=>whnf); refine ⟨?_,nofun⟩
   simp [firstOf] at hf
   show i64 _ = i64 _
   rw [← hf]
end Go.Tr

/- Values equal in depth. Conditions: none. -/
namespace Go.Tr
open Go
variable [GTab]

def AVF : Nat → AV → AV → Prop
 | 0,_,_=>False
 | n + 1,.rslice es len f,.rslice es' len' g=>es = es' ∧ len = len' ∧ ∀ i,i < len → (f i).length = (g i).length ∧ ∀ j x y,nth? (f i) j = some x → nth? (g i) j = some y → x = y ∨ AVF n x y
 | _ + 1,.eslice,.rslice _ len _=>len = 0
 | n + 1,.agg l,.agg l'=>l.length = l'.length ∧ ∀ i x y,nth? l i = some x → nth? l' i = some y → x = y ∨ AVF n x y
 | n + 1,.tuple l,.tuple l'=>l.length = l'.length ∧ ∀ i x y,nth? l i = some x → nth? l' i = some y → x = y ∨ AVF n x y
 | _ + 1,x,y=>x = y
theorem AVF_ok {P : Program} {w : World} {p : Nat → Prop} : ∀ (k : Nat) {x y : AV} {v : Value},AVF k x y → VT P w p x v → VT P w p y v
 | 0,x,y,v,h,_=>h.elim
 | k + 1, x, y, v, h, hx => by
  have eqc : x = y → VT P w p y v := fun e=>e ▸ hx
  have list : ∀ (l l' : List AV) (vs : Array Value),l.length = l'.length → (∀ i x y,nth? l i = some x → nth? l' i = some y → x = y ∨ AVF k x y) → (∀ i x,l[i]? = some x → VT P w p x (vs.getD i undef)) → ∀ i x,l'[i]? = some x → VT P w p x (vs.getD i undef) := by
   intro l l' vs hl he hv i x hi
   have hlt : i < l.length := by rw [hl]; exact (List.getElem?_eq_some_iff.1 hi).1
   have hvi := hv i _ (List.getElem?_eq_getElem hlt)
   rcases he i _ _ (by rw [nth?_eq]; exact List.getElem?_eq_getElem hlt) (by rw [nth?_eq]; exact hi) with e | e
   ·rw [← e]; exact hvi
   ·exact AVF_ok k e hvi
  cases x with
  | rslice es len f =>
   cases y with
   | rslice es' len' g =>
    obtain ⟨rfl,rfl,hf⟩ := h
    cases hx with
    | rslice0=>exact .rslice0 _ _ _ _
    | rslice _ _ _ b off kk gg h1 h2 h3 h4 h5 =>
     refine .rslice _ _ _ b off kk gg h1 h2 (fun i hi=>by rw [← (hf i hi).1]; exact h3 i hi) h4 (fun i j y hi hy=>?_)
     have hl := (hf i hi).1
     have hlt : j < (f i).length := by rw [hl]; exact (List.getElem?_eq_some_iff.1 hy).1
     have hvi := h5 i j _ hi (List.getElem?_eq_getElem hlt)
     rcases (hf i hi).2 j _ y (by rw [nth?_eq]; exact List.getElem?_eq_getElem hlt) (by rw [nth?_eq]; exact hy) with e | e
     ·rw [← e]; exact hvi
     ·exact AVF_ok k e hvi
   | _=>exact eqc h
  | eslice =>
   cases y with
   | rslice es' len' g =>
    have h : len' = 0 := h
    subst h
    cases hx with
    | eslice a=>exact .rslice0 _ _ _ _
   | _=>exact eqc h
  | agg l =>
   cases y with
   | agg l' =>
    obtain ⟨h1,h2⟩ := h
    cases hx with
    | agg _ vs g1 g2 g3=>exact .agg l' vs (by rw [← h1]; exact g1) g2 (list l l' vs h1 h2 g3)
   | _=>exact eqc h
  | tuple l =>
   cases y with
   | tuple l' =>
    obtain ⟨h1,h2⟩ := h
    cases hx with
    | tuple _ vs g1 g3=>exact .tuple l' vs (by rw [← h1]; exact g1) (list l l' vs h1 h2 g3)
   | _=>exact eqc h
  | _=>cases y <;> exact eqc h
theorem Sound1.argsD {P : Program} {f : FuncId} {xs ys : List AV} {r : AV} {fr : Bool} (h : Sound1 P f xs r fr) (hl : ys.length = xs.length) (hx : ∀ i y x,nth? ys i = some y → nth? xs i = some x → y = x ∨ ∃ k,AVF k y x) : Sound1 P f ys r fr := by
 refine ⟨h.1,fun w q vs hq hg hs hv=>h.2 w q vs hq hg (hs.trans hl) fun i x hi=>?_⟩
 have hlt : i < ys.length := by rw [hl]; exact (List.getElem?_eq_some_iff.1 hi).1
 have hvi := hv i _ (List.getElem?_eq_getElem hlt)
 rcases hx i _ x (by rw [nth?_eq]; exact List.getElem?_eq_getElem hlt) (by rw [nth?_eq]; exact hi) with e | ⟨k,hk⟩
 ·rw [← e]; exact hvi
 ·exact AVF_ok k hk hvi
theorem AVF_rows {es n n' : Nat} {f g : Nat → List AV} (hn : n = n') (h : ∀ i,i < n → f i = g i) (k : Nat) : AVF (k + 1) (.rslice es n f) (.rslice es n' g) := by
 refine ⟨rfl,hn,fun i hi=>⟨by rw [h i hi],fun j x y hx hy=>.inl ?_⟩⟩
 rw [h i hi] at hx
 exact Option.some.inj (hx.symm.trans hy)
end Go.Tr

/- Contracts of chapter 6: gates and rules. Conditions: none. -/
namespace Go.Tr
open Go Go.Proofs
set_option maxRecDepth 20000
set_option maxHeartbeats 8000000

theorem S31_2 (a b : Int) {f : Nat → List AV} (h : f 0 = [i64 a] ∧ f 1 = [i64 b]) : SP 31 [.rslice 1 2 f] (i64 (firstOf [a,b])) false := by
 have key : ∀ i,i < 2 → f i = [i64 (([a,b] : List Int).getD i 0)] := fun i hi=>by
  match i,hi with
  | 0,_=>exact h.1
  | 1,_=>exact h.2
 refine (S31 [a,b] (by simp)).argsD rfl fun i y x hy hx=>?_
 match i,hy,hx with
 | 0,hy,hx=>cases hy; cases hx; exact .inr ⟨1,AVF_rows rfl key 0⟩
structure Gt where
 a : Int
 l : Int
 h : Int
 r : Int
structure Ru where
 b : Int
 n : Int
 d : Int
 s : Int
def gateE (g : Gt) : Int :=
  if (0 ≤ g.l ∧ g.l ≤ 10000) ∧ (0 ≤ g.h ∧ g.h ≤ 10000) ∧ (0 ≤ g.a ∧ g.a ≤ 10000) ∧ (1 ≤ g.r ∧ g.r ≤ 10000) then (if g.l ≤ g.h then (if g.l ≤ g.a ∧ g.a ≤ g.h then 0 else 22) else 9) else 2
def rulesE (r : Ru) : Int := if (0 ≤ r.b ∧ r.b ≤ 100000) ∧ (0 ≤ r.n ∧ r.n ≤ 1000) ∧ (1 ≤ r.d ∧ r.d ≤ 1000) ∧ (0 ≤ r.s ∧ r.s ≤ 10000) then 0 else 2
end Go.Tr

/- Contracts of chapter 6: the wanted position, steps of a gate. Conditions: none. -/
namespace Go.Tr
open Go Go.Proofs
set_option maxRecDepth 20000
set_option maxHeartbeats 8000000

theorem ave_tup2 {k : Nat} {a b a' b' : AV} (ha : AVE k a a') (hb : AVE k b b') : AVE (k + 1) (.tuple [a,b]) (.tuple [a',b']) := by
 refine ⟨rfl,fun i x y hx hy=>?_⟩
 match i,hx,hy with
 | 0,hx,hy=>cases hx; cases hy; exact ha
 | 1,hx,hy=>cases hx; cases hy; exact hb
structure GtOk (g : Gt) : Prop where
 l : 0 ≤ g.l ∧ g.l ≤ 10000
 h : 0 ≤ g.h ∧ g.h ≤ 10000
 a : 0 ≤ g.a ∧ g.a ≤ 10000
 r : 1 ≤ g.r ∧ g.r ≤ 10000
 lh : g.l ≤ g.h
 la : g.l ≤ g.a ∧ g.a ≤ g.h
theorem GtOk.of {g : Gt} (h : gateE g = 0) : GtOk g := by
 unfold gateE at h
 (repeat' split at h) <;> first | omega | skip
 rename_i h1 h2 h3
 exact ⟨h1.1,h1.2.1,h1.2.2.1,h1.2.2.2,h2,h3⟩
structure RuOk (r : Ru) : Prop where
 b : 0 ≤ r.b ∧ r.b ≤ 100000
 n : 0 ≤ r.n ∧ r.n ≤ 1000
 d : 1 ≤ r.d ∧ r.d ≤ 1000
 s : 0 ≤ r.s ∧ r.s ≤ 10000
theorem RuOk.of {r : Ru} (h : rulesE r = 0) : RuOk r := by
 unfold rulesE at h
 split at h
 ·rename_i h1; exact ⟨h1.1,h1.2.1,h1.2.2.1,h1.2.2.2⟩
 ·omega

end Go.Tr

/- The law GovernorGates returns true. Conditions: none. -/
/- Contracts of chapter 6: lists of numbers; each one checked; runs of a gate. Conditions: none. -/
namespace Go.Tr
open Go Go.Proofs
set_option maxRecDepth 20000
set_option maxHeartbeats 8000000

theorem S6 (l : List Int) (hl : l.length ≤ 1000000) : SP 6 [ints l] (ints l) false := by
 refine sound (d := 2) tok2 mixed2 Tryz.func6 (by kernel_rfl) (by kernel_rfl) ?_
 (conv=>whnf); refine .inl ?_
 (conv=>whnf); refine ⟨⟨(by omega),(by show _ * (8 + 1) ≤ _; omega)⟩,?_⟩
 (conv=>whnf); refine ⟨?_,nofun⟩
 exact ⟨rfl,Nat.zero_add _,fun i hi=>rfl⟩
theorem S10 (a b : List Int) (ha : a.length ≤ 1000000000) (hb : b.length ≤ 1000000000) : SP 10 [ints a,ints b] (vb (decide (a = b))) false := by
 refine sound (d := 2) tok2 mixed2 Tryz.func10 (by kernel_rfl) (by kernel_rfl) ?_
 (conv=>whnf); refine ifB_bne (fun w1=>?_) (fun w1=>?_)
 ·(conv=>whnf); refine ⟨?_,nofun⟩
  show vb false = vb _
  rw [decide_eq_false]
  intro e; subst e; exact w1 rfl
 ·have hab : a.length = b.length := by omega
  (conv=>whnf); refine ⟨[],[0,1,5],fun st mq=>∃ (k : Nat),(k ≤ a.length) ∧ (∀ i,i < k → a.getD i 0 = b.getD i 0) ∧ st = ⟨[(0,ints a),(1,ints b),(5,i64 k)],⟨[],[],none,0⟩,[]⟩ ∧ mq = a.length - k,
   ⟨_,_,⟨0,by omega,fun i h=>absurd h (Nat.not_lt_zero i),rfl,rfl⟩,⟨⟨.inl rfl,rfl,rfl,rfl⟩,trivial,trivial⟩⟩,?_⟩
  rintro s0 m0 ⟨k,hk,h1,rfl,hmeas⟩
  conv=>whnf
  (conv=>whnf); refine ifB_dec (fun w2=>?_) (fun w2=>?_)
  ·conv=>whnf
   (conv=>whnf); refine ⟨[],by kernel_rfl,?_⟩
   conv=>whnf
   (conv=>whnf); refine ⟨⟨(by omega),(by omega)⟩,?_⟩
   conv=>whnf
   (conv=>whnf); refine ⟨⟨(by omega),(by omega)⟩,?_⟩
   conv=>whnf
   (conv=>whnf); refine ifB_bne (fun w3=>?_) (fun w3=>?_)
   ·conv=>whnf
    (conv=>whnf); refine ⟨?_,nofun⟩
    have e : ¬ a.getD k 0 = b.getD k 0 := w3
    show vb false = vb _
    rw [decide_eq_false]
    intro h; subst h; exact e rfl
   ·conv=>whnf
    (conv=>whnf); refine ⟨inK64 (by omega) (by omega),?_⟩
    have e : a.getD k 0 = b.getD k 0 := w3
    conv=>whnf
    (conv=>whnf); refine ⟨_,_,⟨⟨k + 1,by omega,fun i hi=>(by rcases Nat.lt_or_ge i k with h | h; exact h1 i h; rw [show i = k by omega]; exact e),rfl,rfl⟩,by omega⟩,⟨⟨.inl rfl,rfl,rfl,rfl⟩,trivial,trivial⟩⟩
  ·conv=>whnf
   (conv=>whnf); refine ⟨?_,nofun⟩
   have e : k = a.length := by omega
   subst e
   show vb true = vb _
   rw [decide_eq_true]
   apply List.ext_getElem hab
   intro i h2 h3
   have := h1 i h2
   simpa [List.getD_eq_getElem?_getD,h2,h3] using this
def eachI (g : Nat → Int → Int) : List Int → Nat → Int × Int
  | [],_=>(0,0)
  | x :: r,k=>if g k x = 0 then eachI g r (k + 1) else ((k : Int),g k x)
theorem eachI_drop (g : Nat → Int → Int) (l : List Int) (k : Nat) (h : k < l.length) : eachI g (l.drop k) k = if g k (l.getD k 0) = 0 then eachI g (l.drop (k + 1)) (k + 1) else ((k : Int),g k (l.getD k 0)) := by
  rw [List.drop_eq_getElem_cons h,eachI]; simp [List.getD,h]
theorem S36 (f : Nat) (g : Nat → Int → Int) (l : List Int) (hl : l.length ≤ 1000000000) (hf : ∀ k : Nat,k < l.length → SP f [i64 k,i64 (l.getD k 0)] (i64 (g k (l.getD k 0))) false) : SP 36 [ints l,.func (.func f) 0 []] (.tuple [i64 (eachI g l 0).1,i64 (eachI g l 0).2]) false := by
 refine sound (d := 2) tok2 mixed2 Tryz.func36 (by kernel_rfl) (by kernel_rfl) ?_
 (conv=>whnf); refine ⟨[],[1,9,10,11],fun st mq=>∃ (k : Nat),(k ≤ l.length) ∧ (eachI g (l.drop k) k = eachI g l 0) ∧ st = ⟨[(1,.func (.func f) 0 []),(9,ints l),(10,i64 l.length),(11,i64 k)],⟨[],[],none,0⟩,[]⟩ ∧ mq = l.length - k,
  ⟨_,_,⟨0,by omega,rfl,rfl,rfl⟩,⟨⟨.inl rfl,rfl,rfl,rfl⟩,trivial,trivial⟩⟩,?_⟩
 rintro s0 m0 ⟨k,hk,he,rfl,hmeas⟩
 by_cases hlt : k < l.length
 ·have hd := eachI_drop g l k hlt
  have hc := hf k hlt
  conv=>whnf
  (conv=>whnf); refine ifB_dec (fun w1=>?_) (fun w1=>?_)
  ·conv=>whnf
   (conv=>whnf); refine ⟨⟨(by omega),(by omega)⟩,?_⟩
   conv=>whnf
   (conv=>whnf); refine .inl ⟨_,_,byX rfl (Sound1.pl (hc) rfl),?_⟩
   conv=>whnf
   (conv=>whnf); refine ifB_bne (fun w2=>?_) (fun w2=>?_)
   ·conv=>whnf
    (conv=>whnf); refine ⟨?_,nofun⟩
    rw [if_neg w2] at hd
    exact ave_tup2 (endi (by rw [← he,hd])) (endi (by rw [← he,hd]))
   ·conv=>whnf
    (conv=>whnf); refine ⟨inK64 (by omega) (by omega),?_⟩
    rw [if_pos w2] at hd
    conv=>whnf
    (conv=>whnf); refine ⟨_,_,⟨⟨k + 1,by omega,hd.symm.trans he,rfl,rfl⟩,by omega⟩,⟨⟨.inl rfl,rfl,rfl,rfl⟩,trivial,trivial⟩⟩
  ·(exfalso; omega)
 ·have e : k = l.length := by omega
  subst e
  rw [List.drop_length] at he
  conv=>whnf
  (conv=>whnf); refine ifB_dec (fun w1=>?_) (fun w1=>?_)
  ·(exfalso; omega)
  ·conv=>whnf
   (conv=>whnf); refine ⟨?_,nofun⟩
   exact ave_tup2 (endi (by rw [← he]; rfl)) (endi (by rw [← he]; rfl))

end Go.Tr

/- Contracts of chapter 6: valid polynomials; entries; the greatest common divisor. Conditions: none. -/
namespace Go.Tr
open Go Go.Proofs
set_option maxRecDepth 20000
set_option maxHeartbeats 8000000

def coefE (x : Int) : Int := if -1000 ≤ x ∧ x ≤ 1000 then 0 else 2
def shapeE (n : Int) : Int := if n < 2 then 10 else if n > 5 then 8 else 0
theorem S29 (n : Int) : SP 29 [i64 n] (i64 (shapeE n)) false := by
 refine sound (d := 2) tok2 mixed2 Tryz.func29 (by kernel_rfl) (by kernel_rfl) ?_
 (conv=>whnf); refine ifB_dec (fun w1=>?_) (fun w1=>?_)
 ·(conv=>whnf); refine ⟨?_,nofun⟩
  (exact endi (by unfold shapeE; (repeat' split) <;> omega))
 ·(conv=>whnf); refine ifB_dec (fun w2=>?_) (fun w2=>?_)
  ·(conv=>whnf); refine ⟨?_,nofun⟩
   (exact endi (by unfold shapeE; (repeat' split) <;> omega))
  ·(conv=>whnf); refine ⟨?_,nofun⟩
   (exact endi (by unfold shapeE; (repeat' split) <;> omega))
theorem S63 (n : Int) : SP 63 [i64 n] (i64 (shapeE n)) false := by
 have h90 := fun a b=>@S31_2 a b
 refine sound (d := 2) tok2 mixed2 Tryz.func63 (by kernel_rfl) (by kernel_rfl) ?_
 (conv=>whnf); refine .inl ⟨_,_,byX rfl (Sound1.pl (S35 _ _) rfl),?_⟩
 (conv=>whnf); refine .inl ⟨_,_,byX rfl (Sound1.pl (S35 _ _) rfl),?_⟩
 (conv=>whnf); refine .inl ⟨_,_,byX rfl (Sound1.pl (h90 _ _ ⟨rfl,rfl⟩) rfl),?_⟩
 (conv=>whnf); refine ⟨?_,nofun⟩
 (exact endi (by rw [first2]; unfold shapeE; simp only [decide_eq_true_eq]; (repeat' split) <;> first | omega | contradiction | simp_all))
theorem S65 (x : Int) : SP 65 [i64 x] (i64 (coefE x)) false := by
 have h := S51 x 1000
 have h93 := S35 (win x (-1000) 1000) 2
 refine sound (d := 2) tok2 mixed2 Tryz.func65 (by kernel_rfl) (by kernel_rfl) ?_
 (conv=>whnf); refine .inl ⟨_,_,byX rfl (Sound1.pl (h (by omega)) rfl),?_⟩
 (conv=>whnf); refine .inl ⟨_,_,byX rfl (Sound1.pl (h93) rfl),?_⟩
 (conv=>whnf); refine ⟨?_,nofun⟩
 exact endi (by unfold coefE win; simp)
theorem S64 (k x : Int) : SP 64 [i64 k,i64 x] (i64 (coefE x)) false := by
 have h := S65 x
 refine sound (d := 2) tok2 mixed2 Tryz.func64 (by kernel_rfl) (by kernel_rfl) ?_
 (conv=>whnf); refine .inl ⟨_,_,byX rfl (Sound1.pl (h) rfl),?_⟩
 (conv=>whnf); refine ⟨?_,nofun⟩
 rfl
def coefsE (l : List Int) : Int := (eachI (fun _ x=>coefE x) l 0).2
def polyE (l : List Int) : Int := if shapeE l.length ≠ 0 then shapeE l.length else if coefsE l ≠ 0 then coefsE l else if l.getD 0 0 > 0 then 0 else 3
theorem shape_ok {n : Nat} (h : shapeE n = 0) : 2 ≤ n ∧ n ≤ 5 := by
  unfold shapeE at h
  (repeat' split at h) <;> omega
theorem S25 (l : List Int) (hl : l.length ≤ 1000000) : SP 25 [ints l] (i64 (polyE l)) false := by
 have h101 := S63 l.length
 have h94 := S36 64 (fun _ x=>coefE x) l (by omega) (fun k hk=>S64 k (l.getD k 0))
 have h90 := fun b=>@S31_2 (coefsE l) b
 unfold polyE
 by_cases hs : shapeE l.length = 0
 ·have hn := shape_ok hs
  rw [if_neg (not_not_intro hs)]
  rw [hs] at h101
  refine sound (d := 2) tok2 mixed2 Tryz.func25 (by kernel_rfl) (by kernel_rfl) ?_
  (conv=>whnf); refine .inl ⟨_,_,byX rfl (Sound1.pl (h101) rfl),?_⟩
  (conv=>whnf); refine .inl ⟨_,_,byX rfl (Sound1.pl (h94) rfl),?_⟩
  (conv=>whnf); refine ⟨⟨(by omega),(by omega)⟩,?_⟩
  (conv=>whnf); refine .inl ⟨_,_,byX rfl (Sound1.pl (S35 _ _) rfl),?_⟩
  (conv=>whnf); refine .inl ⟨_,_,byX rfl (Sound1.pl (h90 _ ⟨rfl,rfl⟩) rfl),?_⟩
  (conv=>whnf); refine ⟨?_,nofun⟩
  exact endi (by rw [first2]; by_cases h : l.getD 0 0 > 0 <;> simp [h])
 ·rw [if_pos hs]
  refine sound (d := 2) tok2 mixed2 Tryz.func25 (by kernel_rfl) (by kernel_rfl) ?_
  (conv=>whnf); refine .inl ⟨_,_,byX rfl (Sound1.pl (h101) rfl),?_⟩
  (conv=>whnf); refine ifB_bne (fun w1=>?_) (fun w1=>?_)
  ·(conv=>whnf); refine ⟨?_,nofun⟩
   rfl
  ·(exfalso; omega)
theorem S11 (l : List Int) (hl : l.length ≤ 1000000) : SP 11 [ints l] (i64 (polyE l)) false := by
 have h97 := S29 l.length
 unfold polyE
 by_cases hs : shapeE l.length = 0
 ·have hn := shape_ok hs
  rw [if_neg (not_not_intro hs)]
  rw [hs] at h97
  unfold coefsE
  refine sound (d := 2) tok2 mixed2 Tryz.func11 (by kernel_rfl) (by kernel_rfl) ?_
  (conv=>whnf); refine .inl ⟨_,_,byX rfl (Sound1.pl (h97) rfl),?_⟩
  (conv=>whnf); refine ⟨[],[0,4],fun st mq=>∃ (k : Nat),(k ≤ l.length) ∧ ((eachI (fun _ x=>coefE x) (l.drop k) k).2 = (eachI (fun _ x=>coefE x) l 0).2) ∧ st = ⟨[(0,ints l),(4,i64 k)],⟨[],[],none,0⟩,[]⟩ ∧ mq = l.length - k,
   ⟨_,_,⟨0,by omega,rfl,rfl,rfl⟩,⟨⟨.inl rfl,rfl,rfl,rfl⟩,trivial,trivial⟩⟩,?_⟩
  rintro s0 m0 ⟨k,hk,he,rfl,hmeas⟩
  by_cases hlt : k < l.length
  ·have hd := eachI_drop (fun _ x=>coefE x) l k hlt
   conv=>whnf
   (conv=>whnf); refine ifB_dec (fun w1=>?_) (fun w1=>?_)
   ·conv=>whnf
    (conv=>whnf); refine ⟨⟨(by omega),(by omega)⟩,?_⟩
    conv=>whnf
    (conv=>whnf); refine .inl ⟨_,_,byX rfl (Sound1.pl (S30 _ _ _) rfl),?_⟩
    conv=>whnf
    (conv=>whnf); refine ifB_not ?_
    conv=>whnf
    (conv=>whnf); refine ifB_dec (fun w2=>?_) (fun w2=>?_)
    ·conv=>whnf
     (conv=>whnf); refine ⟨inK64 (by omega) (by omega),?_⟩
     rw [if_pos (show coefE (l.getD k 0) = 0 from if_pos w2)] at hd
     rw [hd] at he
     conv=>whnf
     (conv=>whnf); refine ⟨_,_,⟨⟨k + 1,by omega,he,rfl,rfl⟩,by omega⟩,⟨⟨.inl rfl,rfl,rfl,rfl⟩,trivial,trivial⟩⟩
    ·conv=>whnf
     (conv=>whnf); refine ⟨?_,nofun⟩
     have hc : coefE (l.getD k 0) = 2 := if_neg w2
     rw [hc,if_neg (by decide)] at hd
     rw [hd] at he
     exact endi (by rw [← he]; exact (if_pos (show (2 : Int) ≠ 0 by decide)).symm)
   ·(exfalso; omega)
  ·have e : k = l.length := by omega
   subst e
   rw [List.drop_length] at he
   rw [← he]
   conv=>whnf
   (conv=>whnf); refine ifB_dec (fun w1=>?_) (fun w1=>?_)
   ·(exfalso; omega)
   ·conv=>whnf
    (conv=>whnf); refine ⟨⟨(by omega),(by omega)⟩,?_⟩
    conv=>whnf
    (conv=>whnf); refine ifB_dec (fun w2=>?_) (fun w2=>?_)
    ·conv=>whnf
     (conv=>whnf); refine ⟨?_,nofun⟩
     have w2 : l.getD 0 0 < 1 := w2
     exact endi (by show (3 : Int) = if (0 : Int) ≠ 0 then 0 else if l.getD 0 0 > 0 then 0 else 3; rw [if_neg (by simp),if_neg (by omega)])
    ·conv=>whnf
     (conv=>whnf); refine ⟨?_,nofun⟩
     have w2 : ¬ l.getD 0 0 < 1 := w2
     exact endi (by show (0 : Int) = if (0 : Int) ≠ 0 then 0 else if l.getD 0 0 > 0 then 0 else 3; rw [if_neg (by simp),if_pos (by omega)])
 ·rw [if_pos hs]
  refine sound (d := 2) tok2 mixed2 Tryz.func11 (by kernel_rfl) (by kernel_rfl) ?_
  (conv=>whnf); refine .inl ⟨_,_,byX rfl (Sound1.pl (h97) rfl),?_⟩
  (conv=>whnf); refine ifB_bne (fun w1=>?_) (fun w1=>?_)
  ·(conv=>whnf); refine ⟨?_,nofun⟩
   rfl
  ·(exfalso; omega)
end Go.Tr

/- Plain laws: decimal numerals. Conditions: none. -/
namespace Go.Tr
open Go.Lib

def isDig (c : UInt8) : Bool := Nat.ble 48 c.toNat && Nat.ble c.toNat 57
theorem isDig_iff {c : UInt8} : isDig c = true ↔ 48 ≤ c.toNat ∧ c.toNat ≤ 57 := by simp [isDig]
def decV (l : List UInt8) : Nat := l.foldl (fun a c=>10 * a + (c.toNat - 48)) 0
theorem decV_snoc (l : List UInt8) (c : UInt8) : decV (l ++ [c]) = 10 * decV l + (c.toNat - 48) := by simp [decV]
theorem head_app {α : Type} {l r : List α} (h : l ≠ []) : (l ++ r).head? = l.head? := by
 cases l with
 | nil=>exact absurd rfl h
 | cons=>rfl
theorem digOf (d : Nat) (h : d < 10) : (UInt8.ofNat (48 + d)).toNat = 48 + d := by
  rw [UInt8.toNat_ofNat']; omega
theorem dec_dig : ∀ u : Nat,(∀ c ∈ decDigits u,isDig c = true) ∧ decV (decDigits u) = u ∧ decDigits u ≠ [] ∧ (u ≠ 0 → (decDigits u).head? ≠ some 48)
 | u => by
  by_cases h : u < 10
  ·have e : decDigits u = [UInt8.ofNat (48 + u)] := by rw [decDigits,dif_pos h]
   have hd := digOf u h
   rw [e]
   refine ⟨fun c hc=>?_,?_,by simp,fun h0 h1=>?_⟩
   ·rw [List.mem_singleton.1 hc,isDig_iff,hd]; omega
   ·simp only [decV,List.foldl_cons,List.foldl_nil,hd]; omega
   ·simp only [List.head?_cons,Option.some.injEq] at h1
    rw [h1] at hd
    have : (48 : UInt8).toNat = 48 := rfl
    omega
  ·have e : decDigits u = decDigits (u / 10) ++ [UInt8.ofNat (48 + u % 10)] := by rw [decDigits,dif_neg h]
   have hd := digOf (u % 10) (by omega)
   obtain ⟨h1,h2,h3,h4⟩ := dec_dig (u / 10)
   rw [e]
   refine ⟨fun c hc=>?_,?_,by simp,fun h0 h5=>h4 (by omega) ?_⟩
   ·rcases List.mem_append.1 hc with hc | hc
    ·exact h1 c hc
    ·rw [List.mem_singleton.1 hc,isDig_iff,hd]; omega
   ·rw [decV_snoc,h2,hd]; omega
   ·rwa [head_app h3] at h5
theorem dec_of : ∀ (n : Nat) (l : List UInt8),l.length = n → l ≠ [] → (∀ c ∈ l,isDig c = true) → (l.head? ≠ some 48 ∨ l.length = 1) → decDigits (decV l) = l
 | 0,l,hn,h0,_,_=>absurd (List.length_eq_zero_iff.1 hn) h0
 | n + 1, l, hn, h0, hd, hh => by
  obtain ⟨r,c,rfl⟩ : ∃ r c,l = r ++ [c] := ⟨l.dropLast,l.getLast h0,(List.dropLast_concat_getLast h0).symm⟩
  have hc := isDig_iff.1 (hd c (by simp))
  have hof : UInt8.ofNat (48 + (c.toNat - 48)) = c := by
   rw [show 48 + (c.toNat - 48) = c.toNat by omega]; simp
  rw [decV_snoc]
  by_cases hr : r = []
  ·subst hr
   rw [show decV [] = 0 from rfl,decDigits,dif_pos (by omega),show 10 * 0 + (c.toNat - 48) = c.toNat - 48 by omega,hof]; rfl
  ·have hh' : r.head? ≠ some 48 := by
    rcases hh with hh | hh
    ·rwa [head_app hr] at hh
    ·rw [List.length_append,List.length_singleton] at hh
     have := List.length_pos_iff.2 hr
     omega
   have ih := dec_of n r (by simpa using hn) hr (fun c h=>hd c (by simp [h])) (.inl hh')
   have hpos : decV r ≠ 0 := fun e=>by
    rw [e] at ih
    rw [← ih] at hh'
    exact hh' (by rw [decDigits,dif_pos (by omega)]; rfl)
   rw [decDigits,dif_neg (by omega),show (10 * decV r + (c.toNat - 48)) / 10 = decV r by omega,show (10 * decV r + (c.toNat - 48)) % 10 = c.toNat - 48 by omega,ih,hof]
theorem decFrom_dig : ∀ (l : List UInt8) (a : Nat),(∀ c ∈ l,isDig c = true) → decFrom a l = some (l.foldl (fun a c=>10 * a + (c.toNat - 48)) a)
 | [],_,_=>rfl
 | c :: l,a,h=>by
  have hc := isDig_iff.1 (h c (.head _))
  rw [decFrom,digitVal,if_pos hc]
  show decFrom _ l = _
  rw [decFrom_dig l _ fun c h'=>h c (.tail _ h'),List.foldl_cons,Nat.mul_comm]
theorem parse_dig {l : List UInt8} (h0 : l ≠ []) (hd : ∀ c ∈ l,isDig c = true) (hl : l.length ≤ 18) : parseMag l = .ok (decV l) := by
  rw [parseMag_short l hl,decNat,if_neg (by simpa using h0),decFrom_dig l 0 hd]; rfl
theorem decV_lt : ∀ (n : Nat) (l : List UInt8),l.length = n → (∀ c ∈ l,isDig c = true) → decV l < 10 ^ n
 | 0,l,hn,_=>by rw [List.length_eq_zero_iff.1 hn]; decide
 | n + 1,l,hn,hd=>by
  have h0 : l ≠ [] := fun e=>by rw [e] at hn; cases hn
  obtain ⟨r,c,rfl⟩ : ∃ r c,l = r ++ [c] := ⟨l.dropLast,l.getLast h0,(List.dropLast_concat_getLast h0).symm⟩
  have := decV_lt n r (by simpa using hn) fun c h=>hd c (by simp [h])
  have hc := isDig_iff.1 (hd c (by simp))
  rw [decV_snoc,Nat.pow_succ]; omega

def magL (l : List UInt8) : List UInt8 := if l.head? = some 45 then l.tail else l
def refOk (l : List UInt8) (k : Nat) : Bool := !(magL l).isEmpty && Nat.ble (magL l).length k && !((magL l).head? == some 48 && Nat.ble 2 l.length) && (magL l).all isDig
def refV (l : List UInt8) : Int := if l.head? = some 45 then -(decV (magL l) : Int) else decV (magL l)
theorem itoa_neg' {n : Int} (h : n < 0) : itoa n = 45 :: decDigits n.natAbs := by rw [itoa,if_pos h]
theorem itoa_pos' {n : Int} (h : ¬ n < 0) : itoa n = decDigits n.toNat := by rw [itoa,if_neg h]
theorem head_dec (u : Nat) : (decDigits u).head? ≠ some 45 := fun e=>by
  have := (dec_dig u).1 45 (List.mem_of_mem_head? e)
  revert this; decide
theorem magL_itoa (n : Int) : magL (itoa n) = decDigits n.natAbs ∧ ((itoa n).head? = some 45 ↔ n < 0) := by
 by_cases h : n < 0
 ·rw [itoa_neg' h]
  exact ⟨by simp [magL],by simp [h]⟩
 ·rw [itoa_pos' h]
  refine ⟨?_,?_⟩
  ·rw [magL,if_neg (head_dec _),show n.toNat = n.natAbs by omega]
  ·constructor
   ·intro e; exact absurd e (head_dec _)
   ·intro e; exact absurd e h
theorem trim_itoa (n : Int) : trimPrefix (itoa n) [45] = magL (itoa n) := by
 unfold trimPrefix hasPrefix magL
 cases h : itoa n with
 | nil=>rfl
 | cons c r =>
  by_cases hc : c = 45
  ·subst hc; simp
  ·simp [hc,Ne.symm hc]
theorem refOk_itoa (n : Int) (k : Nat) : refOk (itoa n) k = Nat.ble (decDigits n.natAbs).length k ∧ refV (itoa n) = n := by
 obtain ⟨h1,h2⟩ := magL_itoa n
 obtain ⟨d1,d2,d3,d4⟩ := dec_dig n.natAbs
 unfold refOk refV
 rw [h1,d2]
 constructor
 ·have e1 : (decDigits n.natAbs).isEmpty = false := by cases h : decDigits n.natAbs with | nil=>exact absurd h d3 | cons=>rfl
  have e2 : (decDigits n.natAbs).all isDig = true := List.all_eq_true.2 d1
  rw [e1,e2]
  have e3 : ((decDigits n.natAbs).head? == some 48 && Nat.ble 2 (itoa n).length) = false := by
   by_cases h0 : n = 0
   ·subst h0
    rw [show itoa 0 = decDigits 0 by rw [itoa_pos' (by omega)]; rfl,show decDigits (0 : Int).natAbs = decDigits 0 from rfl,decDigits,dif_pos (by omega)]; rfl
   ·have := d4 (by omega)
    rw [Bool.and_eq_false_iff]; left
    simpa using this
  rw [e3]; simp
 ·split
  ·rename_i h; have h5 := h2.1 h; omega
  ·rename_i h; have h5 : ¬ n < 0 := fun e=>h (h2.2 e)
   omega
theorem itoa_of_ref {l : List UInt8} {k : Nat} (h : refOk l k = true) : itoa (refV l) = l := by
 unfold refOk at h
 simp only [Bool.and_eq_true,Bool.not_eq_true',List.all_eq_true] at h
 obtain ⟨⟨⟨h1,h2⟩,h3⟩,h4⟩ := h
 have h0 : magL l ≠ [] := fun e=>by rw [e] at h1; cases h1
 have h3' : ¬ ((magL l).head? = some 48 ∧ 2 ≤ l.length) := fun ⟨a,b⟩=>by
  rw [a,show Nat.ble 2 l.length = true from Nat.ble_eq ▸ b] at h3; revert h3; decide
 unfold refV
 unfold magL at h0 h1 h2 h3 h4 h3' ⊢
 by_cases hs : l.head? = some 45
 ·rw [if_pos hs] at h0 h1 h2 h3 h4 h3' ⊢
  rw [if_pos hs]
  obtain ⟨r,rfl⟩ : ∃ r,l = 45 :: r := by
   cases l with
   | nil=>cases hs
   | cons c r=>simp at hs; exact ⟨r,by rw [hs]⟩
  simp only [List.tail_cons] at *
  have hr := List.length_pos_iff.2 h0
  have hh : r.head? ≠ some 48 := fun e=>h3' ⟨e,by simp; omega⟩
  have := dec_of _ r rfl h0 h4 (.inl hh)
  have hp : decV r ≠ 0 := fun e=>by
   rw [e] at this
   exact hh (by rw [← this,decDigits,dif_pos (by omega)]; rfl)
  rw [itoa_neg' (by omega),show (-(decV r : Int)).natAbs = decV r by omega,this]
 ·rw [if_neg hs] at h0 h1 h2 h3 h4 h3' ⊢
  rw [if_neg hs]
  have hr := List.length_pos_iff.2 h0
  rw [itoa_pos' (by omega),Int.toNat_natCast]
  refine dec_of _ l rfl h0 h4 ?_
  by_cases h : l.length = 1
  ·exact .inr h
  ·exact .inl fun e=>h3' ⟨e,by omega⟩
theorem atoi_itoa {n : Int} (h : (decDigits n.natAbs).length ≤ 17) : atoiAll (itoa n) = .ok n := by
 obtain ⟨d1,d2,d3,d4⟩ := dec_dig n.natAbs
 have hm := parse_dig d3 d1 (by omega)
 rw [d2] at hm
 have hlt : n.natAbs < 10 ^ 17 := by
  have := decV_lt _ _ rfl d1
  rw [d2] at this
  exact Nat.lt_of_lt_of_le this (Nat.pow_le_pow_right (by omega) h)
 have hp : (10 : Nat) ^ 17 = 100000000000000000 := by decide
 by_cases hn : n < 0
 ·rw [itoa_neg' hn,atoiAll_minus,hm]
  unfold signed
  simp only
  rw [if_neg (by omega)]
  congr 1
  omega
 ·rw [itoa_pos' hn,show n.toNat = n.natAbs by omega]
  cases h2 : decDigits n.natAbs with
  | nil=>exact absurd h2 d3
  | cons c r =>
   have hc := isDig_iff.1 (d1 c (by rw [h2]; exact .head _))
   rw [atoiAll_plain c r (by omega) (by omega),← h2,hm]
   unfold signless
   simp only
   rw [if_neg (by omega)]
   congr 1
   omega
end Go.Tr

/- Contracts of the library's functions over strings, out of the kit's laws, over any program. Conditions: none. -/
namespace Go.Tr
open Go Go.RowKit Go.Proofs Go.Shelf
set_option maxRecDepth 20000
set_option maxHeartbeats 8000000
variable [GTab]

theorem below_of_kit (hk : ¬ GTab.kept) {B : Nat} {w w' : World} (h : RowKit.Below B w w') : Below B w w' := ⟨h.os,h.tape,h.output,h.size,h.block,fun e=>absurd e hk⟩
theorem below_grown (w : World) (k : Nat) (os : Array Obj) : Below w.heap.size w (Go.Sort.grow (w.drewN k) os) := by
 refine ⟨rfl,rfl,rfl,?_,fun b hb=>?_,fun _=>Nat.le_add_right _ _⟩
 ·simp [Go.Sort.grow]
 ·show (w.heap ++ os)[b]? = _
  rw [Array.getElem?_append_left hb]
theorem g_cell {P : Program} {w : World} {q : Nat → Prop} (hg : GOk P w q) {g : Nat} {l : List AV} (h : GTab.gt g = some l) {v : Value} {j : Nat} (hj : l[j]? = some (.val v)) : w.cell? ⟨g,j,none⟩ = some v := by
 obtain ⟨h1,_⟩ := hg.g g l h
 cases h1 with
 | rptr _ b off x _ hc hr =>
  have hlt : j < l.length := (List.getElem?_eq_some_iff.1 hj).1
  have := hr j _ hj
  have hc' := (hc j hlt).1
  rw [Nat.zero_add] at hc'
  rw [hc']
  generalize x j = z at this
  cases this
  rfl
theorem g_err {P : Program} {w : World} {q : Nat → Prop} (hg : GOk P w q) {g : Nat} {l : List AV} (h : GTab.gt g = some l) {j : Nat} (hj : l[j]? = some .err) : ∃ t v,w.cell? ⟨g,j,none⟩ = some (.iface t v) := by
 obtain ⟨h1,_⟩ := hg.g g l h
 cases h1 with
 | rptr _ b off x _ hc hr =>
  have hlt : j < l.length := (List.getElem?_eq_some_iff.1 hj).1
  have := hr j _ hj
  have hc' := (hc j hlt).1
  rw [Nat.zero_add] at hc'
  rw [hc']
  generalize x j = z at this
  cases this with
  | err t v=>exact ⟨t,v,rfl⟩
theorem g_var {P : Program} {w : World} {q : Nat → Prop} (hg : GOk P w q) {g : Nat} {vs : List Value} (h : GTab.gt g = some (vs.map .val)) {name : String} (hn : P.globalNamed name = some g) : w.var? P name = some vs.toArray := by
 obtain ⟨h1,cs,t,a,hc,hz⟩ := hg.g g _ h
 simp only [World.var?,hn,Option.bind_some,hc]
 have e : cs = vs.toArray := by
  apply Array.ext_getElem?
  intro j
  by_cases hj : j < vs.length
  ·have := g_cell hg h (v := vs[j]) (j := j) (by simp [hj])
   simp only [World.cell?,hc] at this
   rw [show vs.toArray[j]? = some vs[j] by simp [hj]]
   simpa using this
  ·rw [List.length_map] at hz
   rw [Array.getElem?_eq_none (by omega),show vs.toArray[j]? = none by simp; omega]
 rw [e]
theorem g_int {P : Program} {w : World} {q : Nat → Prop} (hg : GOk P w q) {g : Nat} (h : GTab.gi g = true) : ∃ m : Int,w.cell? ⟨g,0,none⟩ = some (.int .i64 m) := by
  obtain ⟨_,m,t,a,hc⟩ := hg.i g h
  exact ⟨m,by simp [World.cell?,hc]⟩
section
variable {P : Program} {ρ : Ren}
theorem args_one {w : World} {q : Nat → Prop} {vs : Array Value} {v : Value} (hs : vs.size = 1) (hv : ∀ (i : Nat) x,[AV.val v][i]? = some x → VT P w q x (vs.getD i undef)) : vs = #[v] := by
 have h0 := hv 0 _ rfl
 apply Array.ext_getElem?
 intro i
 match i with
 | 0 =>
  rw [Array.getElem?_eq_getElem (by omega)]
  have : vs.getD 0 undef = vs[0] := by simp [Array.getD,hs]
  rw [this] at h0
  generalize vs[0] = z at h0
  cases h0; rfl
 | i + 1=>rw [Array.getElem?_eq_none (by omega)]; simp
theorem args_two {w : World} {q : Nat → Prop} {vs : Array Value} {x : AV} {v : Value} (hs : vs.size = 2) (hv : ∀ (i : Nat) y,[x,AV.val v][i]? = some y → VT P w q y (vs.getD i undef)) : ∃ u,vs = #[u,v] ∧ VT P w q x u := by
 have h0 := hv 0 _ rfl
 have h1 := hv 1 _ rfl
 refine ⟨vs.getD 0 undef,?_,h0⟩
 apply Array.ext_getElem?
 intro i
 match i with
 | 0 =>
  rw [Array.getElem?_eq_getElem (by omega)]
  simp [Array.getD,hs]
 | 1 =>
  rw [Array.getElem?_eq_getElem (by omega)]
  have : vs.getD 1 undef = vs[1] := by simp [Array.getD,hs]
  rw [this] at h1
  generalize vs[1] = z at h1
  cases h1; rfl
 | i + 2=>rw [Array.getElem?_eq_none (by omega)]; simp

theorem itoa_s (L : LaysM.n171 P ρ) {g : Nat} (hgt : GTab.gt g = some ((Lib.pow10Tab.map fun z => Value.int .u64 z).map .val)) (hn : P.globalNamed "internal/strconv.uint64pow10" = some g) (ef : ∀ z w, (callFunc (ρ.f 171) z).run P w = .ok (.enter (ρ.f 171) z) w)
  (n : Int) (h0 : -9223372036854775808 ≤ n) (h1 : n ≤ 9223372036854775807) : Sound1 P (ρ.f 171) [.val (.int .i64 n)] (.val (.string ⟨(Lib.itoa n).toArray⟩)) true := by
 refine Sound1.pl ⟨ef,fun w q vs hq hg hs hv=>?_⟩ rfl
 rw [args_one hs hv]
 refine (Any.strconv_Itoa L n h0 h1 w (g_var hg hgt hn)).mono ?_
 rintro e w' ⟨rfl,k,os,rfl⟩
 exact ⟨_,rfl,below_grown _ _ _,.val _⟩

def atoiV (s : ByteArray) : Int := match Lib.atoiAll s.data.toList with | .ok v=>v | .syntax=>0 | .range=>Lib.atoiSat s.data.toList
def atoiOk (s : ByteArray) : Bool := match Lib.atoiAll s.data.toList with | .ok _=>true | .syntax=>false | .range=>false
theorem atoi_s (hk : ¬ GTab.kept) (L : LaysC.n172 P ρ) (h15 : GTab.gt (ρ.g 15) = some [.err]) (h16 : GTab.gt (ρ.g 16) = some [.err]) (ef : ∀ z w,(callFunc (ρ.f 172) z).run P w = .ok (.enter (ρ.f 172) z) w)
  (s : ByteArray) (hs : s.size ≤ 281474976710656) : Sound1 P (ρ.f 172) [.val (.string s)] (.tuple [.val (.int .i64 (atoiV s)),if atoiOk s then .val .nilIface else .err]) false := by
 refine ⟨ef,fun w q vs hq hg hz hv=>?_⟩
 rw [args_one hz hv]
 have tup : ∀ {w' : World} {p : Nat → Prop} {a : Int} {y : AV} {u : Value},VT P w' p y u → VT P w' p (.tuple [.val (.int .i64 a),y]) (.tuple #[.int .i64 a,u]) := fun h=>.tuple _ _ rfl fun i x hi=>by
  match i,hi with
  | 0,hi=>cases hi; exact .val _
  | 1,hi=>cases hi; exact h
 unfold atoiV atoiOk
 cases hc : Lib.atoiAll s.data.toList with
 | ok v =>
  refine (Any.strconv_Atoi_ok L s (by omega) v hc w).mono ?_
  rintro e w' ⟨rfl,h⟩
  refine ⟨_,rfl,?_,tup (.val _)⟩
  rcases h with rfl | ⟨t,rfl⟩
  ·exact Below.refl _ _
  ·exact below_of_kit hk (Lib.bytesWorld_below _ _ _)
 | «syntax» =>
  obtain ⟨te,pe,h⟩ := g_err hg h15 (j := 0) rfl
  refine (Any.strconv_Atoi_syntax L s hs hc _ w h (.inr ⟨te,pe,rfl⟩)).mono ?_
  rintro e w' ⟨N,rfl,h1,h2,h3⟩
  exact ⟨_,rfl,below_of_kit hk h3,tup (.err _ _)⟩
 | range =>
  obtain ⟨te,pe,h⟩ := g_err hg h16 (j := 0) rfl
  refine (Any.strconv_Atoi_range L s hs hc _ w h (.inr ⟨te,pe,rfl⟩)).mono ?_
  rintro e w' ⟨N,rfl,h1,h2,h3⟩
  exact ⟨_,rfl,below_of_kit hk h3,tup (.err _ _)⟩

theorem trim_s (L : Lays.n101 P ρ) (ef : ∀ z w,(callFunc (ρ.f 101) z).run P w = .ok (.enter (ρ.f 101) z) w) (s p : ByteArray) : Sound1 P (ρ.f 101) [.val (.string s),.val (.string p)] (.val (.string ⟨(Lib.trimPrefix s.data.toList p.data.toList).toArray⟩)) true := by
 refine Sound1.pl ⟨ef,fun w q vs hq hg hz hv=>?_⟩ rfl
 obtain ⟨u,rfl,hu⟩ := args_two hz hv
 cases hu
 refine (Any.strings_TrimPrefix L s p w).mono ?_
 rintro e w' ⟨rfl,rfl⟩
 exact ⟨_,rfl,Below.refl _ _,.val _⟩

def sepL (s sep : ByteArray) : List ByteArray := Lib.splitB sep 0 (Lib.countB s sep) s
theorem index_s (L : Lays.n143 P ρ) (hm : GTab.gi (ρ.g 1) = true) (ef : ∀ z w,(callFunc (ρ.f 143) z).run P w = .ok (.enter (ρ.f 143) z) w) (s sub : ByteArray) (hs : s.size < 4294967281) :
  Sound1 P (ρ.f 143) [.val (.string s),.val (.string sub)] (.val (.int .i64 (Lib.index s.data.toList sub.data.toList))) true := by
 refine Sound1.pl ⟨ef,fun w q vs hq hg hz hv=>?_⟩ rfl
 obtain ⟨u,rfl,hu⟩ := args_two hz hv
 cases hu
 obtain ⟨m,hmc⟩ := g_int hg hm
 refine (Any.strings_Index L s sub m w hs hmc).mono ?_
 rintro e w' ⟨rfl,rfl⟩
 exact ⟨_,rfl,Below.refl _ _,.val _⟩

def joinB (l : List ByteArray) (sep : ByteArray) : ByteArray := ⟨(Lib.join (l.map (·.data.toList)) sep.data.toList).toArray⟩
theorem join_s (hk : ¬ GTab.kept) (L : Lays.n156 P ρ) (X : Builder.Extra P ρ) (ef : ∀ z w,(callFunc (ρ.f 156) z).run P w = .ok (.enter (ρ.f 156) z) w) (l : List ByteArray) (sep : ByteArray) (f : Nat → List AV)
  (hf : ∀ i,i < l.length → f i = [.val (.string (l.getD i ByteArray.empty))]) (hN : l.length ≤ 140737488355328) (hlen : (joinB l sep).size ≤ 140737488355328) : Sound1 P (ρ.f 156) [.rslice 1 l.length f,.val (.string sep)] (.val (.string (joinB l sep))) true := by
 refine Sound1.pl ⟨ef,fun w q vs hq hg hz hv=>?_⟩ rfl
 obtain ⟨u,rfl,hu⟩ := args_two hz hv
 generalize hm : l.length = n at hu
 cases hu with
 | rslice0 _ _ a k =>
  have : l = [] := List.length_eq_zero_iff.1 hm
  subst this
  refine (Any.strings_Join_none L X a k sep w).mono ?_
  rintro e w' ⟨rfl,rfl⟩
  exact ⟨_,rfl,Below.refl _ _,.val _⟩
 | rslice _ _ _ b off k x hle hb hl hc hr =>
  subst hm
  refine (Any.strings_Join L X b off k l sep w (fun j y hy=>?_) (hq b hb) hN hle ?_).mono ?_
  ·have hj : j < l.length := (List.getElem?_eq_some_iff.1 hy).1
   have h1 := hr j 0 (.val (.string (l.getD j ByteArray.empty))) hj (by rw [hf j hj]; rfl)
   have h2 := (hc j 0 hj (by omega)).1
   rw [Nat.mul_one,Nat.add_zero] at h2
   rw [h2]
   generalize x j 0 = z at h1
   cases h1
   rw [List.getD_eq_getElem?_getD,hy]; rfl
  ·have : (joinB l sep).size = (Lib.join (l.map (·.data.toList)) sep.data.toList).length := by simp [joinB,ByteArray.size]
   omega
  ·rintro e w' ⟨rfl,h⟩
   exact ⟨_,rfl,below_of_kit hk h,.val _⟩
end
end Go.Tr

/- The library's functions over strings, laid by the kit (printed by its tool in plain text). Conditions: none. -/
-- seat YtadidnljgmlaoaaGreatDoor
namespace Go.Proofs
open Go.Shelf
def Tryz.layItoa_ren : Go.Shelf.Ren := ⟨fun | 171=>20 | 243=>55 | 246=>84 | 283=>113 | 284=>114 | 285=>115 | 286=>116 | 129=>112 | 317=>140 | 318=>141 | 319=>142 | 320=>143 | 337=>154 | 338=>155 | n=>n,fun | 3=>3 | 9=>9 | 2=>2 | 4=>4 | 171=>156 | 0=>0 | 53=>146 | 37=>104 | 5=>5 | 173=>158 | 212=>182 | 51=>144 | 20=>20 | 213=>183 | 46=>102 | 232=>201 | 233=>202 | n=>n,fun | 17=>2 | 18=>6 | 19=>7 | n=>n⟩
theorem Tryz.layItoa : Go.Proofs.LaysM.n171 Tryz.prog Tryz.layItoa_ren := {
 mixed := by kernel_rfl
 f129 := Tryz.func112.trans (congrArg some (by kernel_rfl))
 f171 := Tryz.func20.trans (congrArg some (by kernel_rfl))
 f243 := Tryz.func55.trans (congrArg some (by kernel_rfl))
 f246 := Tryz.func84.trans (congrArg some (by kernel_rfl))
 f283 := Tryz.func113.trans (congrArg some (by kernel_rfl))
 f284 := Tryz.func114.trans (congrArg some (by kernel_rfl))
 f285 := Tryz.func115.trans (congrArg some (by kernel_rfl))
 f286 := Tryz.func116.trans (congrArg some (by kernel_rfl))
 f317 := Tryz.func140.trans (congrArg some (by kernel_rfl))
 f318 := Tryz.func141.trans (congrArg some (by kernel_rfl))
 f319 := Tryz.func142.trans (congrArg some (by kernel_rfl))
 f320 := Tryz.func143.trans (congrArg some (by kernel_rfl))
 f337 := Tryz.func154.trans (congrArg some (by kernel_rfl))
 f338 := Tryz.func155.trans (congrArg some (by kernel_rfl))
 t0 := Tryz.underlying0
 a0 := Tryz.isAgg0
 z0 := Tryz.sizeOf0
 v0 := Tryz.zeroValue0
 t2 := Tryz.underlying2
 a2 := Tryz.isAgg2
 z2 := Tryz.sizeOf2
 v2 := Tryz.zeroValue2
 t3 := Tryz.underlying3
 a3 := Tryz.isAgg3
 z3 := Tryz.sizeOf3
 v3 := Tryz.zeroValue3
 t4 := Tryz.underlying4
 a4 := Tryz.isAgg4
 z4 := Tryz.sizeOf4
 v4 := Tryz.zeroValue4
 t5 := Tryz.underlying5
 a5 := Tryz.isAgg5
 z5 := Tryz.sizeOf5
 v5 := Tryz.zeroValue5
 t9 := Tryz.underlying9
 a9 := Tryz.isAgg9
 z9 := Tryz.sizeOf9
 v9 := Tryz.zeroValue9
 t20 := Tryz.underlying20
 a20 := Tryz.isAgg20
 z20 := Tryz.sizeOf20
 v20 := Tryz.zeroValue20
 t37 := Tryz.underlying104
 a37 := Tryz.isAgg104
 z37 := Tryz.sizeOf104
 v37 := Tryz.zeroValue104
 t46 := Tryz.underlying102
 a46 := Tryz.isAgg102
 z46 := Tryz.sizeOf102
 v46 := Tryz.zeroValue102
 t51 := Tryz.underlying144
 a51 := Tryz.isAgg144
 z51 := Tryz.sizeOf144
 v51 := Tryz.zeroValue144
 t53 := Tryz.underlying146
 a53 := Tryz.isAgg146
 z53 := Tryz.sizeOf146
 v53 := Tryz.zeroValue146
 t171 := Tryz.underlying156
 a171 := Tryz.isAgg156
 z171 := Tryz.sizeOf156
 v171 := Tryz.zeroValue156
 t173 := Tryz.underlying158
 a173 := Tryz.isAgg158
 z173 := Tryz.sizeOf158
 v173 := Tryz.zeroValue158
 t212 := Tryz.underlying182
 a212 := Tryz.isAgg182
 z212 := Tryz.sizeOf182
 v212 := Tryz.zeroValue182
 t213 := Tryz.underlying183
 a213 := Tryz.isAgg183
 z213 := Tryz.sizeOf183
 t232 := Tryz.underlying201
 a232 := Tryz.isAgg201
 z232 := Tryz.sizeOf201
 v232 := Tryz.zeroValue201
 t233 := Tryz.underlying202
 a233 := Tryz.isAgg202
 z233 := Tryz.sizeOf202
 v233 := Tryz.zeroValue202
 g17 := by kernel_rfl
 g18 := by kernel_rfl
 g19 := by kernel_rfl
 i0 := by kernel_rfl
 i2 := by kernel_rfl
 i3 := by kernel_rfl
 i4 := by kernel_rfl
 i5 := by kernel_rfl
 i9 := by kernel_rfl
 i20 := by kernel_rfl
 i37 := by kernel_rfl
 i46 := by kernel_rfl
 i51 := by kernel_rfl
 i53 := by kernel_rfl
 i171 := by kernel_rfl
 i173 := by kernel_rfl
 i212 := by kernel_rfl
 i232 := by kernel_rfl
 i233 := by kernel_rfl
 m17 := by kernel_rfl
 m18 := by kernel_rfl
 m19 := by kernel_rfl }
def Tryz.layAtoi_ren : Go.Shelf.Ren := ⟨fun | 172=>23 | 244=>60 | 245=>61 | 247=>90 | 279=>91 | 280=>92 | 281=>93 | 282=>94 | 287=>121 | 316=>122 | 171=>20 | 205=>123 | 321=>148 | 322=>149 | 243=>55 | 246=>84 | 283=>113 | 284=>114 | 285=>115 | 286=>116 | 129=>112 | 317=>140 | 318=>141 | 319=>142 | 320=>143 | 337=>154 | 338=>155 | n=>n,fun | 9=>9 | 3=>3 | 75=>66 | 76=>67 | 4=>4 | 5=>5 | 167=>134 | 37=>104 | 0=>0 | 85=>135 | 2=>2 | 168=>137 | 53=>146 | 175=>163 | 46=>102 | 210=>167 | 127=>129 | 145=>192 | 143=>190 | 21=>21 | 171=>156 | 173=>158 | 212=>182 | 51=>144 | 20=>20 | 213=>183 | 232=>201 | 233=>202 | 80=>108 | n=>n,fun | 15=>0 | 16=>1 | 17=>2 | 18=>6 | 19=>7 | n=>n⟩
theorem Tryz.layAtoi : Go.Proofs.LaysC.n172 Tryz.prog Tryz.layAtoi_ren := {
 mixed := by kernel_rfl
 f129 := Tryz.func112.trans (congrArg some (by kernel_rfl))
 f171 := Tryz.func20.trans (congrArg some (by kernel_rfl))
 f172 := Tryz.func23.trans (congrArg some (by kernel_rfl))
 f205 := Tryz.func123.trans (congrArg some (by kernel_rfl))
 f243 := Tryz.func55.trans (congrArg some (by kernel_rfl))
 f244 := Tryz.func60.trans (congrArg some (by kernel_rfl))
 f245 := Tryz.func61.trans (congrArg some (by kernel_rfl))
 f246 := Tryz.func84.trans (congrArg some (by kernel_rfl))
 f247 := Tryz.func90.trans (congrArg some (by kernel_rfl))
 f279 := Tryz.func91.trans (congrArg some (by kernel_rfl))
 f280 := Tryz.func92.trans (congrArg some (by kernel_rfl))
 f281 := Tryz.func93.trans (congrArg some (by kernel_rfl))
 f282 := Tryz.func94.trans (congrArg some (by kernel_rfl))
 f283 := Tryz.func113.trans (congrArg some (by kernel_rfl))
 f284 := Tryz.func114.trans (congrArg some (by kernel_rfl))
 f285 := Tryz.func115.trans (congrArg some (by kernel_rfl))
 f286 := Tryz.func116.trans (congrArg some (by kernel_rfl))
 f287 := Tryz.func121.trans (congrArg some (by kernel_rfl))
 f316 := Tryz.func122.trans (congrArg some (by kernel_rfl))
 f317 := Tryz.func140.trans (congrArg some (by kernel_rfl))
 f318 := Tryz.func141.trans (congrArg some (by kernel_rfl))
 f319 := Tryz.func142.trans (congrArg some (by kernel_rfl))
 f320 := Tryz.func143.trans (congrArg some (by kernel_rfl))
 f321 := Tryz.func148.trans (congrArg some (by kernel_rfl))
 f322 := Tryz.func149.trans (congrArg some (by kernel_rfl))
 f337 := Tryz.func154.trans (congrArg some (by kernel_rfl))
 f338 := Tryz.func155.trans (congrArg some (by kernel_rfl))
 t0 := Tryz.underlying0
 a0 := Tryz.isAgg0
 z0 := Tryz.sizeOf0
 v0 := Tryz.zeroValue0
 t2 := Tryz.underlying2
 a2 := Tryz.isAgg2
 z2 := Tryz.sizeOf2
 v2 := Tryz.zeroValue2
 t3 := Tryz.underlying3
 a3 := Tryz.isAgg3
 z3 := Tryz.sizeOf3
 v3 := Tryz.zeroValue3
 t4 := Tryz.underlying4
 a4 := Tryz.isAgg4
 z4 := Tryz.sizeOf4
 v4 := Tryz.zeroValue4
 t5 := Tryz.underlying5
 a5 := Tryz.isAgg5
 z5 := Tryz.sizeOf5
 v5 := Tryz.zeroValue5
 t9 := Tryz.underlying9
 a9 := Tryz.isAgg9
 z9 := Tryz.sizeOf9
 v9 := Tryz.zeroValue9
 t20 := Tryz.underlying20
 a20 := Tryz.isAgg20
 z20 := Tryz.sizeOf20
 v20 := Tryz.zeroValue20
 t21 := Tryz.underlying21
 a21 := Tryz.isAgg21
 z21 := Tryz.sizeOf21
 v21 := Tryz.zeroValue21
 t37 := Tryz.underlying104
 a37 := Tryz.isAgg104
 z37 := Tryz.sizeOf104
 v37 := Tryz.zeroValue104
 t46 := Tryz.underlying102
 a46 := Tryz.isAgg102
 z46 := Tryz.sizeOf102
 v46 := Tryz.zeroValue102
 t51 := Tryz.underlying144
 a51 := Tryz.isAgg144
 z51 := Tryz.sizeOf144
 v51 := Tryz.zeroValue144
 t53 := Tryz.underlying146
 a53 := Tryz.isAgg146
 z53 := Tryz.sizeOf146
 v53 := Tryz.zeroValue146
 t75 := Tryz.underlying66
 a75 := Tryz.isAgg66
 z75 := Tryz.sizeOf66
 v75 := Tryz.zeroValue66
 t76 := Tryz.underlying67
 a76 := Tryz.isAgg67
 z76 := Tryz.sizeOf67
 v76 := Tryz.zeroValue67
 t85 := Tryz.underlying135
 a85 := Tryz.isAgg135
 z85 := Tryz.sizeOf135
 v85 := Tryz.zeroValue135
 t127 := Tryz.underlying129
 a127 := Tryz.isAgg129
 z127 := Tryz.sizeOf129
 v127 := Tryz.zeroValue129
 t143 := Tryz.underlying190
 a143 := Tryz.isAgg190
 z143 := Tryz.sizeOf190
 v143 := Tryz.zeroValue190
 t145 := Tryz.underlying192
 a145 := Tryz.isAgg192
 z145 := Tryz.sizeOf192
 v145 := Tryz.zeroValue192
 t167 := Tryz.underlying134
 a167 := Tryz.isAgg134
 z167 := Tryz.sizeOf134
 v167 := Tryz.zeroValue134
 t168 := Tryz.underlying137
 a168 := Tryz.isAgg137
 z168 := Tryz.sizeOf137
 v168 := Tryz.zeroValue137
 t171 := Tryz.underlying156
 a171 := Tryz.isAgg156
 z171 := Tryz.sizeOf156
 v171 := Tryz.zeroValue156
 t173 := Tryz.underlying158
 a173 := Tryz.isAgg158
 z173 := Tryz.sizeOf158
 v173 := Tryz.zeroValue158
 t175 := Tryz.underlying163
 a175 := Tryz.isAgg163
 z175 := Tryz.sizeOf163
 v175 := Tryz.zeroValue163
 t210 := Tryz.underlying167
 a210 := Tryz.isAgg167
 z210 := Tryz.sizeOf167
 v210 := Tryz.zeroValue167
 t212 := Tryz.underlying182
 a212 := Tryz.isAgg182
 z212 := Tryz.sizeOf182
 v212 := Tryz.zeroValue182
 t213 := Tryz.underlying183
 a213 := Tryz.isAgg183
 z213 := Tryz.sizeOf183
 t232 := Tryz.underlying201
 a232 := Tryz.isAgg201
 z232 := Tryz.sizeOf201
 v232 := Tryz.zeroValue201
 t233 := Tryz.underlying202
 a233 := Tryz.isAgg202
 z233 := Tryz.sizeOf202
 v233 := Tryz.zeroValue202
 g15 := by kernel_rfl
 g16 := by kernel_rfl
 g17 := by kernel_rfl
 g18 := by kernel_rfl
 g19 := by kernel_rfl
 t80 := Tryz.underlying108
 a80 := Tryz.isAgg108
 z80 := Tryz.sizeOf108
 v80 := Tryz.zeroValue108
 i0 := by kernel_rfl
 i2 := by kernel_rfl
 i3 := by kernel_rfl
 i4 := by kernel_rfl
 i5 := by kernel_rfl
 i9 := by kernel_rfl
 i20 := by kernel_rfl
 i21 := by kernel_rfl
 i37 := by kernel_rfl
 i46 := by kernel_rfl
 i51 := by kernel_rfl
 i53 := by kernel_rfl
 i75 := by kernel_rfl
 i76 := by kernel_rfl
 i80 := by kernel_rfl
 i85 := by kernel_rfl
 i127 := by kernel_rfl
 i143 := by kernel_rfl
 i145 := by kernel_rfl
 i167 := by kernel_rfl
 i168 := by kernel_rfl
 i171 := by kernel_rfl
 i173 := by kernel_rfl
 i175 := by kernel_rfl
 i210 := by kernel_rfl
 i212 := by kernel_rfl
 i232 := by kernel_rfl
 i233 := by kernel_rfl
 m15 := by kernel_rfl
 m16 := by kernel_rfl
 m17 := by kernel_rfl
 m18 := by kernel_rfl
 m19 := by kernel_rfl
 c0 := by kernel_rfl
 c2 := by kernel_rfl
 c3 := by kernel_rfl
 c4 := by kernel_rfl
 c5 := by kernel_rfl
 c9 := by kernel_rfl
 c20 := by kernel_rfl
 c21 := by kernel_rfl
 c37 := by kernel_rfl
 c46 := by kernel_rfl
 c51 := by kernel_rfl
 c53 := by kernel_rfl
 c75 := by kernel_rfl
 c76 := by kernel_rfl
 c80 := by kernel_rfl
 c85 := by kernel_rfl
 c127 := by kernel_rfl
 c143 := by kernel_rfl
 c145 := by kernel_rfl
 c167 := by kernel_rfl
 c168 := by kernel_rfl
 c171 := by kernel_rfl
 c173 := by kernel_rfl
 c175 := by kernel_rfl
 c210 := by kernel_rfl
 c212 := by kernel_rfl
 c213 := by kernel_rfl
 c232 := by kernel_rfl
 c233 := by kernel_rfl }
def Tryz.layTrim_ren : Go.Shelf.Ren := ⟨fun | 101=>24 | 208=>62 | 206=>95 | n=>n,fun | 9=>9 | 4=>4 | 3=>3 | n=>n,fun | n=>n⟩
theorem Tryz.layTrim : Go.Proofs.Lays.n101 Tryz.prog Tryz.layTrim_ren := {
 mixed := by kernel_rfl
 f101 := Tryz.func24.trans (congrArg some (by kernel_rfl))
 f206 := Tryz.func95.trans (congrArg some (by kernel_rfl))
 f208 := Tryz.func62.trans (congrArg some (by kernel_rfl))
 t3 := Tryz.underlying3
 a3 := Tryz.isAgg3
 z3 := Tryz.sizeOf3
 v3 := Tryz.zeroValue3
 t4 := Tryz.underlying4
 a4 := Tryz.isAgg4
 z4 := Tryz.sizeOf4
 v4 := Tryz.zeroValue4
 t9 := Tryz.underlying9
 a9 := Tryz.isAgg9
 z9 := Tryz.sizeOf9
 v9 := Tryz.zeroValue9 }
def Tryz.layIndex_ren : Go.Shelf.Ren := ⟨fun | 143=>89 | 219=>120 | 217=>144 | 225=>145 | 224=>146 | 267=>147 | 266=>156 | 314=>157 | n=>n,fun | 9=>9 | 3=>3 | 4=>4 | 5=>5 | 46=>102 | 146=>198 | 51=>144 | n=>n,fun | 1=>3 | n=>n⟩
theorem Tryz.layIndex : Go.Proofs.Lays.n143 Tryz.prog Tryz.layIndex_ren := {
 mixed := by kernel_rfl
 f143 := Tryz.func89.trans (congrArg some (by kernel_rfl))
 f217 := Tryz.func144.trans (congrArg some (by kernel_rfl))
 f219 := Tryz.func120.trans (congrArg some (by kernel_rfl))
 f224 := Tryz.func146.trans (congrArg some (by kernel_rfl))
 f225 := Tryz.func145.trans (congrArg some (by kernel_rfl))
 f266 := Tryz.func156.trans (congrArg some (by kernel_rfl))
 f267 := Tryz.func147.trans (congrArg some (by kernel_rfl))
 f314 := Tryz.func157.trans (congrArg some (by kernel_rfl))
 t3 := Tryz.underlying3
 a3 := Tryz.isAgg3
 z3 := Tryz.sizeOf3
 v3 := Tryz.zeroValue3
 t4 := Tryz.underlying4
 a4 := Tryz.isAgg4
 z4 := Tryz.sizeOf4
 v4 := Tryz.zeroValue4
 t5 := Tryz.underlying5
 a5 := Tryz.isAgg5
 z5 := Tryz.sizeOf5
 v5 := Tryz.zeroValue5
 t9 := Tryz.underlying9
 a9 := Tryz.isAgg9
 z9 := Tryz.sizeOf9
 v9 := Tryz.zeroValue9
 t46 := Tryz.underlying102
 a46 := Tryz.isAgg102
 z46 := Tryz.sizeOf102
 v46 := Tryz.zeroValue102
 t51 := Tryz.underlying144
 a51 := Tryz.isAgg144
 z51 := Tryz.sizeOf144
 v51 := Tryz.zeroValue144
 t146 := Tryz.underlying198
 a146 := Tryz.isAgg198
 z146 := Tryz.sizeOf198
 v146 := Tryz.zeroValue198
 g1 := by kernel_rfl }
def Tryz.layJoin_ren : Go.Shelf.Ren := ⟨fun | 156=>21 | 165=>56 | 166=>57 | 169=>58 | 240=>85 | 241=>86 | 276=>117 | 277=>118 | n=>n,fun | 31=>59 | 9=>9 | 3=>3 | 4=>4 | 0=>0 | 20=>20 | 72=>106 | 76=>67 | 70=>103 | 37=>104 | 75=>66 | 127=>129 | 164=>160 | 5=>5 | 80=>108 | n=>n,fun | n=>n⟩
theorem Tryz.layJoin : Go.Proofs.Lays.n156 Tryz.prog Tryz.layJoin_ren := {
 mixed := by kernel_rfl
 f156 := Tryz.func21.trans (congrArg some (by kernel_rfl))
 f165 := Tryz.func56.trans (congrArg some (by kernel_rfl))
 f166 := Tryz.func57.trans (congrArg some (by kernel_rfl))
 f169 := Tryz.func58.trans (congrArg some (by kernel_rfl))
 f240 := Tryz.func85.trans (congrArg some (by kernel_rfl))
 f241 := Tryz.func86.trans (congrArg some (by kernel_rfl))
 f276 := Tryz.func117.trans (congrArg some (by kernel_rfl))
 f277 := Tryz.func118.trans (congrArg some (by kernel_rfl))
 t0 := Tryz.underlying0
 a0 := Tryz.isAgg0
 z0 := Tryz.sizeOf0
 v0 := Tryz.zeroValue0
 t3 := Tryz.underlying3
 a3 := Tryz.isAgg3
 z3 := Tryz.sizeOf3
 v3 := Tryz.zeroValue3
 t4 := Tryz.underlying4
 a4 := Tryz.isAgg4
 z4 := Tryz.sizeOf4
 v4 := Tryz.zeroValue4
 t9 := Tryz.underlying9
 a9 := Tryz.isAgg9
 z9 := Tryz.sizeOf9
 v9 := Tryz.zeroValue9
 t20 := Tryz.underlying20
 a20 := Tryz.isAgg20
 z20 := Tryz.sizeOf20
 v20 := Tryz.zeroValue20
 t31 := Tryz.underlying59
 a31 := Tryz.isAgg59
 z31 := Tryz.sizeOf59
 v31 := Tryz.zeroValue59
 t37 := Tryz.underlying104
 a37 := Tryz.isAgg104
 z37 := Tryz.sizeOf104
 v37 := Tryz.zeroValue104
 t70 := Tryz.underlying103
 a70 := Tryz.isAgg103
 z70 := Tryz.sizeOf103
 v70 := Tryz.zeroValue103
 t72 := Tryz.underlying106
 a72 := Tryz.isAgg106
 z72 := Tryz.sizeOf106
 v72 := Tryz.zeroValue106
 t75 := Tryz.underlying66
 a75 := Tryz.isAgg66
 z75 := Tryz.sizeOf66
 v75 := Tryz.zeroValue66
 t76 := Tryz.underlying67
 a76 := Tryz.isAgg67
 z76 := Tryz.sizeOf67
 v76 := Tryz.zeroValue67
 t127 := Tryz.underlying129
 a127 := Tryz.isAgg129
 z127 := Tryz.sizeOf129
 v127 := Tryz.zeroValue129
 t164 := Tryz.underlying160
 a164 := Tryz.isAgg160
 z164 := Tryz.sizeOf160
 v164 := Tryz.zeroValue160 }
theorem Tryz.layJoinX : Builder.Extra Tryz.prog Tryz.layJoin_ren := {
 sizeBuilder := by kernel_rfl
 liesBuilder := by kernel_rfl
 t5 := Tryz.underlying5
 a5 := Tryz.isAgg5
 z5 := Tryz.sizeOf5
 v5 := Tryz.zeroValue5
 infoByte := by kernel_rfl
 cellsByte := by kernel_rfl
 sizeByte := by kernel_rfl
 neB5 := by decide }
end Go.Proofs

/- The library's functions over strings at this seat. Conditions: none. -/
-- seat YtadidnljgmlaoaaGreatDoor
namespace Go.Tr
open Go Go.RowKit Go.Proofs Go.Shelf
set_option maxRecDepth 20000
set_option maxHeartbeats 8000000
abbrev sv (s : ByteArray) : AV := .val (.string s)
def itoaB (n : Int) : ByteArray := ⟨(Lib.itoa n).toArray⟩
theorem hgPow : GTab.gt 2 = some ((Lib.pow10Tab.map fun z=>Value.int .u64 z).map .val) := by
  show some (pow10V.map AV.val) = _
  rw [show pow10V = Lib.pow10Tab.map fun z=>Value.int .u64 z by simp [pow10V,Lib.pow10Tab,List.map_map,Function.comp_def]]
theorem notKept : ¬ GTab.kept := fun h=>h
theorem S20 (n : Int) (h0 : -9223372036854775808 ≤ n) (h1 : n ≤ 9223372036854775807) : SP 20 [i64 n] (sv (itoaB n)) true :=
  itoa_s (ρ := Tryz.layItoa_ren) Tryz.layItoa (g := 2) hgPow (by kernel_rfl) (enters_of Tryz.layItoa.f171 (by kernel_rfl) rfl) n h0 h1
theorem S23 (s : ByteArray) (hs : s.size ≤ 281474976710656) : SP 23 [sv s] (.tuple [i64 (atoiV s),if atoiOk s then .val .nilIface else .err]) false :=
  atoi_s (ρ := Tryz.layAtoi_ren) notKept Tryz.layAtoi rfl rfl (enters_of Tryz.layAtoi.f172 (by kernel_rfl) rfl) s hs
theorem S24 (s p : ByteArray) : SP 24 [sv s,sv p] (sv ⟨(Lib.trimPrefix s.data.toList p.data.toList).toArray⟩) true :=
  trim_s (ρ := Tryz.layTrim_ren) Tryz.layTrim (enters_of Tryz.layTrim.f101 (by kernel_rfl) rfl) s p
theorem S89 (s sub : ByteArray) (hs : s.size < 4294967281) : SP 89 [sv s,sv sub] (i64 (Lib.index s.data.toList sub.data.toList)) true :=
  index_s (ρ := Tryz.layIndex_ren) Tryz.layIndex rfl (enters_of Tryz.layIndex.f143 (by kernel_rfl) rfl) s sub hs
theorem S21 (l : List ByteArray) (sep : ByteArray) (f : Nat → List AV) (hf : ∀ i,i < l.length → f i = [sv (l.getD i ByteArray.empty)]) (hN : l.length ≤ 140737488355328) (hlen : (joinB l sep).size ≤ 140737488355328) :
    SP 21 [.rslice 1 l.length f,sv sep] (sv (joinB l sep)) true :=
  join_s (ρ := Tryz.layJoin_ren) notKept Tryz.layJoin Tryz.layJoinX (enters_of Tryz.layJoin.f156 (by kernel_rfl) rfl) l sep f hf hN hlen
end Go.Tr

/- Numbers as strings: the package's function, the reference's. Conditions: none. -/
-- seat YtadidnljgmlaoaaGreatDoor
namespace Go.Tr
open Go Go.Proofs
set_option maxRecDepth 20000
set_option maxHeartbeats 8000000

theorem atoiV_in (s : ByteArray) : -9223372036854775808 ≤ atoiV s ∧ atoiV s ≤ 9223372036854775807 := by
 unfold atoiV
 split
 ·rename_i v h; exact Lib.atoiAll_bounds h
 ·omega
 ·exact Lib.atoiSat_bounds _
def numO (s : ByteArray) (b : Bool) : Bool := atoiOk s && ((itoaB (atoiV s)).toList == s.toList) && (b || decide (0 ≤ atoiV s)) && decide ((Lib.trimPrefix s.data.toList [45]).length ≤ 7)
theorem size_mk (l : List UInt8) : (ByteArray.mk l.toArray).size = l.length := by simp [ByteArray.size]
theorem ave_iv {a b : Int} {x y : Bool} (h : a = b) (h2 : x = y) : AVE 5 (.tuple [i64 a,vb x]) (.tuple [i64 b,vb y]) := by
  subst h; subst h2
  exact ave_tup2 (k := 4) rfl rfl
theorem S66 (x : Int) (h : -9223372036854775807 ≤ x ∧ x ≤ 9223372036854775807) : SP 66 [i64 x] (i64 (x.natAbs : Nat)) false := by
 refine sound (d := 2) tok2 mixed2 Tryz.func66 (by kernel_rfl) (by kernel_rfl) ?_
 (conv=>whnf); refine ⟨inK64 (by omega) (by omega),?_⟩
 (conv=>whnf); refine ⟨?_,nofun⟩
 exact endi (by split <;> omega)
end Go.Tr

/- Plain laws: strings as lists of bytes; what lies between separators. Conditions: none. -/
namespace Go.Tr
open Go.Lib

theorem bs_ext {a b : ByteArray} (h : a.data.toList = b.data.toList) : a = b := by
 obtain ⟨a⟩ := a
 obtain ⟨b⟩ := b
 have : a = b := Array.toList_inj.1 h
 rw [this]
theorem bs_app (a b : ByteArray) : (a ++ b).data.toList = a.data.toList ++ b.data.toList := by simp
theorem bs_ex (s : ByteArray) (i j : Nat) : (s.extract i j).data.toList = (s.data.toList.drop i).take (j - i) := extract_data s i j
theorem bs_len (s : ByteArray) : s.size = s.data.toList.length := size_eq s

def cutL (c : UInt8) : List UInt8 → List (List UInt8)
  | []=>[[]]
  | x :: r=>if x = c then [] :: cutL c r else match cutL c r with | []=>[[x]] | y :: t=>(x :: y) :: t
theorem cutL_ne (c : UInt8) : ∀ l,cutL c l ≠ []
 | []=>by simp [cutL]
 | x :: r=>by
  rw [cutL]
  split
  ·simp
  ·split <;> simp
theorem cutL_step (c x : UInt8) (r : List UInt8) (h : x ≠ c) : cutL c (x :: r) = (x :: (cutL c r).headD []) :: (cutL c r).tail := by
 rw [cutL,if_neg h]
 cases hc : cutL c r with
 | nil=>exact absurd hc (cutL_ne c r)
 | cons y t=>rfl
theorem cut_miss {c : UInt8} : ∀ {l : List UInt8},(∀ x ∈ l,x ≠ c) → cutL c l = [l]
  | [],_=>rfl
  | x :: r,h=>by rw [cutL_step c x r (h x (.head _)),cut_miss fun y hy=>h y (.tail _ hy)]; rfl
theorem cut_hit {c : UInt8} : ∀ {l r : List UInt8},(∀ x ∈ l,x ≠ c) → cutL c (l ++ c :: r) = l :: cutL c r
  | [],r,_=>by simp [cutL]
  | x :: l,r,h=>by rw [List.cons_append,cutL_step c x _ (h x (.head _)),cut_hit fun y hy=>h y (.tail _ hy)]; rfl
theorem index_miss {c : UInt8} : ∀ {l : List UInt8},index l [c] = -1 → ∀ x ∈ l,x ≠ c
 | [],_,x,hx=>by cases hx
 | y :: r, h, x, hx => by
  rw [index] at h
  by_cases hy : ([c] : List UInt8).isPrefixOf (y :: r) = true
  ·rw [hy] at h; simp at h
  ·have hyc : y ≠ c := fun e=>hy (by simp [List.isPrefixOf,e])
   rw [Bool.not_eq_true] at hy
   rw [hy] at h
   have hi : index r [c] = -1 := by
    by_cases hi : index r [c] = -1
    ·exact hi
    ·have := index_ge r [c]
     simp [hi] at h
     omega
   rcases List.mem_cons.1 hx with e | hx
   ·rw [e]; exact hyc
   ·exact index_miss hi x hx
theorem index_hit {c : UInt8} : ∀ {l : List UInt8} {i : Nat},index l [c] = (i : Int) → ∃ a r,l = a ++ c :: r ∧ a.length = i ∧ ∀ x ∈ a,x ≠ c
 | [],i,h=>by
  have h : (-1 : Int) = (i : Int) := by rw [← h,index]; rfl
  omega
 | y :: r, i, h => by
  rw [index] at h
  by_cases hy : ([c] : List UInt8).isPrefixOf (y :: r) = true
  ·rw [hy] at h
   have : i = 0 := by simp at h; omega
   subst this
   have hyc : y = c := by
    have : (c == y) = true := by simpa [List.isPrefixOf] using hy
    exact (beq_iff_eq.1 this).symm
   exact ⟨[],r,by rw [hyc]; rfl,rfl,by simp⟩
  ·have hyc : y ≠ c := fun e=>hy (by simp [List.isPrefixOf,e])
   rw [Bool.not_eq_true] at hy
   rw [hy] at h
   by_cases hi : index r [c] = -1
   ·simp [hi] at h
   ·have := index_ge r [c]
    obtain ⟨j,hj⟩ : ∃ j : Nat,index r [c] = j := ⟨(index r [c]).toNat,by omega⟩
    simp [hi] at h
    obtain ⟨a,r',e1,e2,e3⟩ := index_hit hj
    refine ⟨y :: a,r',by rw [e1]; rfl,by simp [e2]; omega,fun x hx=>?_⟩
    rcases List.mem_cons.1 hx with e | hx
    ·rw [e]; exact hyc
    ·exact e3 x hx
def byteB (c : UInt8) : ByteArray := ⟨#[c]⟩
theorem split_cut (c : UInt8) : ∀ (k : Nat) (s : ByteArray),countB s (byteB c) = k → (splitB (byteB c) 0 k s).map (·.data.toList) = cutL c s.data.toList
 | 0, s, h => by
  rw [splitB_zero]
  rcases indexB_cases s (byteB c) with hix | ⟨i,hix,_⟩
  ·have h2 : index s.data.toList [c] = -1 := hix
   rw [List.map_singleton,cut_miss (index_miss h2)]
  ·have := countB_hit s (byteB c) i (Nat.le_refl 1) hix
   omega
 | k + 1, s, h => by
  rcases indexB_cases s (byteB c) with hix | ⟨i,hix,_⟩
  ·rw [countB_miss s (byteB c) hix] at h; omega
  ·have h2 : index s.data.toList [c] = (i : Int) := hix
   have h3 := countB_hit s (byteB c) i (Nat.le_refl 1) hix
   obtain ⟨a,r,e1,e2,e3⟩ := index_hit h2
   have hb : (byteB c).size = 1 := rfl
   rw [splitB_hit (byteB c) 0 k s i hix,List.map_cons,split_cut c k _ (by omega),bs_ex,bs_ex,hb,e1,cut_hit e3]
   congr 1
   ·rw [List.drop_zero,Nat.add_zero,Nat.sub_zero,← e2,List.take_left']; rfl
   ·rw [List.take_of_length_le (by rw [List.length_drop,bs_len,e1]; omega),← e2,show a ++ c :: r = (a ++ [c]) ++ r by simp,List.drop_left' (by simp)]
theorem cut_join (c : UInt8) : ∀ (l : List (List UInt8)),l ≠ [] → (∀ p ∈ l,∀ x ∈ p,x ≠ c) → cutL c (join l [c]) = l
 | [],h,_=>absurd rfl h
 | [p],_,h=>by rw [join_one]; exact cut_miss (h p (.head _))
 | p :: q :: r, _, h => by
  have e : join (p :: q :: r) [c] = p ++ c :: join (q :: r) [c] := by
   rw [join_cons,join_cons]; simp [joinTail]
  rw [e,cut_hit (h p (.head _)),cut_join c (q :: r) (by simp) fun x hx=>h x (.tail _ hx)]
end Go.Tr

/- Numbers as strings in the reference: Decimal, Number. Conditions: none. -/
-- seat YtadidnljgmlaoaaGreatDoor
namespace Go.Tr
open Go Go.Proofs
set_option maxRecDepth 20000
set_option maxHeartbeats 8000000

theorem bs_tl (s : ByteArray) : s.toList = s.data.toList := by obtain ⟨⟨l⟩⟩ := s; simp
theorem itoaB_l (n : Int) : (itoaB n).data.toList = Lib.itoa n := rfl
theorem num_ref (s : ByteArray) : numO s true = refOk s.data.toList 7 ∧ (refOk s.data.toList 7 = true → atoiV s = refV s.data.toList) := by
 by_cases h : refOk s.data.toList 7 = true
 ·have e := itoa_of_ref h
  have hlen := (refOk_itoa (refV s.data.toList) 7).1
  rw [e,h] at hlen
  have hle : (Lib.decDigits (refV s.data.toList).natAbs).length ≤ 7 := Nat.le_of_ble_eq_true hlen.symm
  have ha := atoi_itoa (n := refV s.data.toList) (by omega)
  rw [e] at ha
  have h1 : atoiOk s = true := by unfold atoiOk; rw [ha]
  have h2 : atoiV s = refV s.data.toList := by unfold atoiV; rw [ha]
  refine ⟨?_,fun _=>h2⟩
  rw [h]
  unfold numO
  rw [h1,h2,show itoaB (refV s.data.toList) = s from bs_ext (by rw [itoaB_l,e])]
  have h3 : (Lib.trimPrefix s.data.toList [45]).length ≤ 7 := by
   rw [← e,trim_itoa,(magL_itoa _).1]
   exact hle
  simp [h3]
 ·refine ⟨?_,fun h'=>absurd h' h⟩
  rw [Bool.not_eq_true] at h
  rw [h]
  cases hn : numO s true with
  | false=>rfl
  | true =>
   unfold numO at hn
   simp only [Bool.and_eq_true,beq_iff_eq,decide_eq_true_eq] at hn
   obtain ⟨⟨⟨_,h2⟩,_⟩,h4⟩ := hn
   rw [bs_tl,bs_tl,itoaB_l] at h2
   rw [← h2,trim_itoa,(magL_itoa _).1] at h4
   have := (refOk_itoa (atoiV s) 7).1
   rw [h2,h,Nat.ble_eq_true_of_le h4] at this
   cases this
theorem itoa_0 : Lib.itoa 0 = [48] := by rw [itoa_pos' (by omega),show (0 : Int).toNat = 0 from rfl,Lib.decDigits,dif_pos (by omega)]; rfl
theorem sv_eq {a b : ByteArray} (h : a.data.toList = b.data.toList) : sv a = sv b := by rw [bs_ext h]
theorem dec_step {m : Int} (hm : m ≠ 0) (S : List UInt8) {D : List UInt8} (h : Lib.decDigits m.natAbs ++ S = D) :
  (m.tdiv 10 = 0 ∧ UInt8.ofNat (48 + (m.tmod 10).natAbs) :: S = D) ∨ (m.tdiv 10 ≠ 0 ∧ Lib.decDigits (m.tdiv 10).natAbs ++ UInt8.ofNat (48 + (m.tmod 10).natAbs) :: S = D) := by
 have e1 : (m.tdiv 10).natAbs = m.natAbs / 10 := by rw [Int.natAbs_tdiv]; rfl
 have e2 : (m.tmod 10).natAbs = m.natAbs % 10 := by rw [Int.natAbs_tmod]; rfl
 by_cases h10 : m.natAbs < 10
 ·left
  refine ⟨by omega,?_⟩
  rw [Lib.decDigits,dif_pos h10] at h
  rw [e2,Nat.mod_eq_of_lt h10]
  exact h
 ·right
  refine ⟨by omega,?_⟩
  rw [Lib.decDigits,dif_neg h10] at h
  rw [e1,e2,← h]
  simp
theorem S28z : SP 28 [i64 0] (sv (itoaB 0)) false := by
 refine sound (d := 2) tok2 mixed2 Tryz.func28 (by kernel_rfl) (by kernel_rfl) ?_
 (conv=>whnf); refine ⟨?_,nofun⟩
 (first | omega | exact sv_eq itoa_0.symm)
theorem dec_len {m : Int} (hm : m ≠ 0) {S D : List UInt8} (hN : D.length ≤ 20) (h : Lib.decDigits m.natAbs ++ S = D) (c : UInt8) : ([c] ++ S).length ≤ 20 := by
 have h1 := List.length_pos_iff.2 (dec_dig m.natAbs).2.2.1
 rw [← h,List.length_append] at hN
 simp; omega
theorem S28 (n : Int) (hn : n ≠ 0) (h : -9223372036854775808 ≤ n ∧ n ≤ 9223372036854775807) : SP 28 [i64 n] (sv (itoaB n)) false := by
 have hN : (Lib.decDigits n.natAbs).length ≤ 20 := by rw [Lib.decDigits_length]; exact Lib.nDigits_le20 _ (by omega)
 refine sound (d := 2) tok2 mixed2 Tryz.func28 (by kernel_rfl) (by kernel_rfl) ?_
 (conv=>whnf); refine ifB_beq (fun w1=>?_) (fun w1=>?_)
 ·(exfalso; omega)
 ·(conv=>whnf); refine ifB_dec (fun w2=>?_) (fun w2=>?_)
  ·(conv=>whnf); refine ⟨[],[0,3,4],fun st mq=>∃ (m : Int) (S : ByteArray),((m = 0 ∧ S.data.toList = Lib.decDigits n.natAbs) ∨ (m ≠ 0 ∧ Lib.decDigits m.natAbs ++ S.data.toList = Lib.decDigits n.natAbs)) ∧ (-9223372036854775808 ≤ m ∧ m ≤ 9223372036854775807) ∧ (S.data.toList.length ≤ 20) ∧ st = ⟨[(0,i64 m),(3,sv S),(4,sv ⟨#[45]⟩)],⟨[],[],none,0⟩,[]⟩ ∧ mq = m.natAbs,
    ⟨_,_,⟨n,⟨#[]⟩,.inr ⟨hn,by simp⟩,h,by simp,rfl,rfl⟩,⟨⟨.inl rfl,rfl,rfl,rfl⟩,trivial,trivial⟩⟩,?_⟩
   rintro s0 m0 ⟨m,S,hD,hb,hS,rfl,hmeas⟩
   by_cases hm : m = 0
   ·have hD2 : S.data.toList = Lib.decDigits n.natAbs := by
     rcases hD with h5 | h5
     ·exact h5.2
     ·exact absurd hm h5.1
    have hz : S.size ≤ 20 := by rw [bs_len]; exact hS
    have hone : (⟨#[45]⟩ : ByteArray).size = 1 := rfl
    have hnil : (⟨#[]⟩ : ByteArray).size = 0 := rfl
    conv=>whnf
    (conv=>whnf); refine ifB_bne (fun w3=>?_) (fun w3=>?_)
    ·(exfalso; omega)
    ·conv=>whnf
     (conv=>whnf); refine ⟨(by omega),?_⟩
     conv=>whnf
     (conv=>whnf); refine ⟨?_,nofun⟩
     (first | omega | exact sv_eq (by rw [bs_app,hD2,itoaB_l,itoa_neg' (by assumption)]; rfl))
   ·have hD2 : Lib.decDigits m.natAbs ++ S.data.toList = Lib.decDigits n.natAbs := by
     rcases hD with h5 | h5
     ·exact absurd h5.1 hm
     ·exact h5.2
    have hr : (m.tmod 10).natAbs ≤ 9 := by rw [Int.natAbs_tmod,show (10 : Int).natAbs = 10 from rfl]; omega
    have hq : (m.tdiv 10).natAbs = m.natAbs / 10 := by rw [Int.natAbs_tdiv]; rfl
    have h59 := S66 (m.tmod 10) (by omega)
    have hz : S.size ≤ 20 := by rw [bs_len]; exact hS
    have hst := dec_step hm S.data.toList hD2
    have hln := dec_len hm hN hD2 (UInt8.ofNat (48 + ((m.tmod 10).natAbs : Int)).toNat)
    have hone : (⟨#[UInt8.ofNat (48 + ((m.tmod 10).natAbs : Int)).toNat]⟩ : ByteArray).size = 1 := rfl
    conv=>whnf
    (conv=>whnf); refine ifB_bne (fun w3=>?_) (fun w3=>?_)
    ·conv=>whnf
     (conv=>whnf); refine ⟨(by omega),?_⟩
     conv=>whnf
     (conv=>whnf); refine .inl ⟨_,_,byX rfl (Sound1.pl (h59) rfl),?_⟩
     conv=>whnf
     (conv=>whnf); refine ⟨inK64 (by omega) (by omega),?_⟩
     conv=>whnf
     (conv=>whnf); refine ⟨inKu8 (by omega) (by omega),?_⟩
     conv=>whnf
     (conv=>whnf); refine ⟨(by omega),?_⟩
     conv=>whnf
     (conv=>whnf); refine ⟨⟨(by omega),inK64 (by omega) (by omega)⟩,?_⟩
     conv=>whnf
     (conv=>whnf); refine ⟨_,_,⟨⟨m.tdiv 10,((⟨#[UInt8.ofNat (48 + ((m.tmod 10).natAbs : Int)).toNat]⟩ : ByteArray) ++ S),(by rw [bs_app]; exact hst),(by omega),(by rw [bs_app]; exact hln),rfl,rfl⟩,by omega⟩,⟨⟨.inl rfl,rfl,rfl,rfl⟩,trivial,trivial⟩⟩
    ·(exfalso; omega)
  ·(conv=>whnf); refine ⟨[],[0,3,4],fun st mq=>∃ (m : Int) (S : ByteArray),((m = 0 ∧ S.data.toList = Lib.decDigits n.natAbs) ∨ (m ≠ 0 ∧ Lib.decDigits m.natAbs ++ S.data.toList = Lib.decDigits n.natAbs)) ∧ (-9223372036854775808 ≤ m ∧ m ≤ 9223372036854775807) ∧ (S.data.toList.length ≤ 20) ∧ st = ⟨[(0,i64 m),(3,sv S),(4,sv ⟨#[]⟩)],⟨[],[],none,0⟩,[]⟩ ∧ mq = m.natAbs,
    ⟨_,_,⟨n,⟨#[]⟩,.inr ⟨hn,by simp⟩,h,by simp,rfl,rfl⟩,⟨⟨.inl rfl,rfl,rfl,rfl⟩,trivial,trivial⟩⟩,?_⟩
   rintro s0 m0 ⟨m,S,hD,hb,hS,rfl,hmeas⟩
   by_cases hm : m = 0
   ·have hD2 : S.data.toList = Lib.decDigits n.natAbs := by
     rcases hD with h5 | h5
     ·exact h5.2
     ·exact absurd hm h5.1
    have hz : S.size ≤ 20 := by rw [bs_len]; exact hS
    have hone : (⟨#[45]⟩ : ByteArray).size = 1 := rfl
    have hnil : (⟨#[]⟩ : ByteArray).size = 0 := rfl
    conv=>whnf
    (conv=>whnf); refine ifB_bne (fun w3=>?_) (fun w3=>?_)
    ·(exfalso; omega)
    ·conv=>whnf
     (conv=>whnf); refine ⟨(by omega),?_⟩
     conv=>whnf
     (conv=>whnf); refine ⟨?_,nofun⟩
     (first | omega | exact sv_eq (by rw [bs_app,hD2,itoaB_l,itoa_pos' (by assumption),show n.toNat = n.natAbs by omega]; rfl))
   ·have hD2 : Lib.decDigits m.natAbs ++ S.data.toList = Lib.decDigits n.natAbs := by
     rcases hD with h5 | h5
     ·exact absurd h5.1 hm
     ·exact h5.2
    have hr : (m.tmod 10).natAbs ≤ 9 := by rw [Int.natAbs_tmod,show (10 : Int).natAbs = 10 from rfl]; omega
    have hq : (m.tdiv 10).natAbs = m.natAbs / 10 := by rw [Int.natAbs_tdiv]; rfl
    have h59 := S66 (m.tmod 10) (by omega)
    have hz : S.size ≤ 20 := by rw [bs_len]; exact hS
    have hst := dec_step hm S.data.toList hD2
    have hln := dec_len hm hN hD2 (UInt8.ofNat (48 + ((m.tmod 10).natAbs : Int)).toNat)
    have hone : (⟨#[UInt8.ofNat (48 + ((m.tmod 10).natAbs : Int)).toNat]⟩ : ByteArray).size = 1 := rfl
    conv=>whnf
    (conv=>whnf); refine ifB_bne (fun w3=>?_) (fun w3=>?_)
    ·conv=>whnf
     (conv=>whnf); refine ⟨(by omega),?_⟩
     conv=>whnf
     (conv=>whnf); refine .inl ⟨_,_,byX rfl (Sound1.pl (h59) rfl),?_⟩
     conv=>whnf
     (conv=>whnf); refine ⟨inK64 (by omega) (by omega),?_⟩
     conv=>whnf
     (conv=>whnf); refine ⟨inKu8 (by omega) (by omega),?_⟩
     conv=>whnf
     (conv=>whnf); refine ⟨(by omega),?_⟩
     conv=>whnf
     (conv=>whnf); refine ⟨⟨(by omega),inK64 (by omega) (by omega)⟩,?_⟩
     conv=>whnf
     (conv=>whnf); refine ⟨_,_,⟨⟨m.tdiv 10,((⟨#[UInt8.ofNat (48 + ((m.tmod 10).natAbs : Int)).toNat]⟩ : ByteArray) ++ S),(by rw [bs_app]; exact hst),(by omega),(by rw [bs_app]; exact hln),rfl,rfl⟩,by omega⟩,⟨⟨.inl rfl,rfl,rfl,rfl⟩,trivial,trivial⟩⟩
    ·(exfalso; omega)
end Go.Tr

/- The reference's Number. Conditions: none. -/
-- seat YtadidnljgmlaoaaGreatDoor
namespace Go.Tr
open Go Go.Proofs
set_option maxRecDepth 20000
set_option maxHeartbeats 8000000

theorem u8_eq {c : UInt8} {n : Nat} (hn : n < 256) : (c.toNat : Int) = n ↔ c = UInt8.ofNat n := by
 constructor
 ·intro h
  apply UInt8.toNat_inj.1
  rw [UInt8.toNat_ofNat']; omega
 ·intro h
  rw [h,UInt8.toNat_ofNat']; omega
theorem mag0 {l : List UInt8} (h : ¬ ((l.getD 0 0).toNat : Int) = 45) : magL l = l.drop 0 ∧ ¬ l.head? = some 45 := by
 have h2 : ¬ l.head? = some 45 := fun e=>h (by
  cases l with
  | nil=>cases e
  | cons c r=>simp at e; rw [e]; rfl)
 exact ⟨by rw [magL,if_neg h2]; rfl,h2⟩
theorem mag1 {l : List UInt8} (h0 : 0 < l.length) (h : ((l.getD 0 0).toNat : Int) = 45) : magL l = l.drop 1 ∧ l.head? = some 45 := by
 have h2 : l.head? = some 45 := by
  cases l with
  | nil=>cases h0
  | cons c r=>exact congrArg some ((u8_eq (n := 45) (by decide)).1 h)
 exact ⟨by rw [magL,if_pos h2,List.drop_one],h2⟩
section
variable {l : List UInt8} {a : Nat} (hm : magL l = l.drop a)
include hm
theorem ref_none (h : l.length ≤ a) : refOk l 7 = false := by
  unfold refOk
  rw [hm,List.drop_eq_nil_of_le h]; rfl
theorem ref_long (h : 7 < l.length - a) : refOk l 7 = false := by
 unfold refOk
 rw [hm]
 have : Nat.ble (l.drop a).length 7 = false := by
  cases hb : Nat.ble (l.drop a).length 7 with
  | false=>rfl
  | true=>have := Nat.le_of_ble_eq_true hb; rw [List.length_drop] at this; omega
 rw [this]; simp
theorem head_drop (h : a < l.length) : (l.drop a).head? = some (l.getD a 0) := by
  rw [List.head?_drop,List.getD_eq_getElem?_getD,List.getElem?_eq_getElem h]; rfl
theorem ref_zero (ha : a < l.length) (h1 : ((l.getD a 0).toNat : Int) = 48) (h2 : 1 < l.length) : refOk l 7 = false := by
  unfold refOk
  rw [hm,head_drop hm ha,(u8_eq (n := 48) (by decide)).1 h1,Nat.ble_eq_true_of_le (by omega : 2 ≤ l.length)]; simp
theorem ref_dig {i : Nat} (ha : a ≤ i) (hi : i < l.length) (h : ¬ (48 ≤ (l.getD i 0).toNat ∧ (l.getD i 0).toNat ≤ 57)) : refOk l 7 = false := by
 unfold refOk
 rw [hm]
 have : (l.drop a).all isDig = false := by
  rw [List.all_eq_false]
  refine ⟨l.getD i 0,?_,fun e=>h (isDig_iff.1 e)⟩
  rw [List.mem_iff_getElem?]
  exact ⟨i - a,by rw [List.getElem?_drop,show a + (i - a) = i by omega,List.getD_eq_getElem?_getD,List.getElem?_eq_getElem hi]; rfl⟩
 rw [this]; simp
theorem ref_yes (h1 : a < l.length) (h2 : l.length - a ≤ 7) (h3 : ¬ (((l.getD a 0).toNat : Int) = 48 ∧ 1 < l.length)) (h4 : ∀ i,a ≤ i → i < l.length → 48 ≤ (l.getD i 0).toNat ∧ (l.getD i 0).toNat ≤ 57) : refOk l 7 = true := by
 unfold refOk
 rw [hm,head_drop hm h1]
 have e1 : (l.drop a).isEmpty = false := by
  cases hd : l.drop a with
  | nil=>have := congrArg List.length hd; rw [List.length_drop] at this; simp at this; omega
  | cons=>rfl
 have e2 : (l.drop a).all isDig = true := by
  rw [List.all_eq_true]
  intro c hc
  obtain ⟨i,hi⟩ := List.mem_iff_getElem?.1 hc
  rw [List.getElem?_drop] at hi
  have hlt := (List.getElem?_eq_some_iff.1 hi).1
  have := h4 (a + i) (by omega) hlt
  rw [List.getD_eq_getElem?_getD,hi] at this
  exact isDig_iff.2 this
 have e3 : (some (l.getD a 0) == some 48 && Nat.ble 2 l.length) = false := by
  rw [Bool.and_eq_false_iff]
  by_cases hc : l.getD a 0 = 48
  ·right
   cases hb : Nat.ble 2 l.length with
   | false=>rfl
   | true=>exact absurd ⟨(u8_eq (n := 48) (by decide)).2 hc,by have := Nat.le_of_ble_eq_true hb; omega⟩ h3
  ·left; simpa using hc
 rw [e1,e2,e3,Nat.ble_eq_true_of_le (by rw [List.length_drop]; omega)]; rfl
end
def sofar (l : List UInt8) (a i : Nat) : Nat := decV ((l.drop a).take (i - a))
theorem sofar_0 (l : List UInt8) (a : Nat) : sofar l a a = 0 := by unfold sofar; rw [Nat.sub_self]; rfl
theorem sofar_s {l : List UInt8} {a i : Nat} (ha : a ≤ i) (hi : i < l.length) : sofar l a (i + 1) = 10 * sofar l a i + ((l.getD i 0).toNat - 48) := by
  unfold sofar
  rw [show i + 1 - a = (i - a) + 1 by omega,List.take_add_one,List.getElem?_drop,show a + (i - a) = i by omega,List.getElem?_eq_getElem hi,Option.toList_some,decV_snoc,List.getD_eq_getElem?_getD,List.getElem?_eq_getElem hi]; rfl
theorem sofar_e (l : List UInt8) (a : Nat) : sofar l a l.length = decV (l.drop a) := by
  unfold sofar
  rw [List.take_of_length_le (by rw [List.length_drop]; omega)]
def refN (l : List UInt8) : Int := if refOk l 7 then refV l else 0
theorem u8_lt (c : UInt8) : c.toNat < 256 := c.toNat_lt
theorem sofar_lt {l : List UInt8} {a i : Nat} (h1 : a ≤ i) (h2 : i ≤ l.length) (h3 : l.length - a ≤ 7) (hd : ∀ j,a ≤ j → j < i → 48 ≤ (l.getD j 0).toNat ∧ (l.getD j 0).toNat ≤ 57) : sofar l a i < 10000000 := by
 have hlen : ((l.drop a).take (i - a)).length = i - a := by rw [List.length_take,List.length_drop]; omega
 have := decV_lt (i - a) _ hlen fun c hc=>by
  obtain ⟨j,hj⟩ := List.mem_iff_getElem?.1 hc
  have hlt := (List.getElem?_eq_some_iff.1 hj).1
  rw [hlen] at hlt
  rw [List.getElem?_take_of_lt hlt,List.getElem?_drop] at hj
  have := hd (a + j) (by omega) (by omega)
  rw [List.getD_eq_getElem?_getD,hj] at this
  exact isDig_iff.2 this
 exact Nat.lt_of_lt_of_le this (Nat.pow_le_pow_right (by omega : 0 < 10) (by omega : i - a ≤ 7))
theorem fin_no {l : List UInt8} (h : refOk l 7 = false) : AVE 5 (.tuple [i64 0,vb false]) (.tuple [i64 (refN l),vb (refOk l 7)]) := by
  rw [refN,h]; exact ave_iv rfl rfl
theorem fin_yes1 {l : List UInt8} (h : refOk l 7 = true) (hm : magL l = l.drop 1) (hh : l.head? = some 45) {n : Int} (hn : n = (sofar l 1 l.length : Nat)) : AVE 5 (.tuple [i64 (-n),vb true]) (.tuple [i64 (refN l),vb (refOk l 7)]) := by
  rw [refN,h,if_pos rfl,refV,if_pos hh,hm,← sofar_e,← hn]; exact ave_iv rfl rfl
theorem fin_yes0 {l : List UInt8} (h : refOk l 7 = true) (hm : magL l = l.drop 0) (hh : ¬ l.head? = some 45) {n : Int} (hn : n = (sofar l 0 l.length : Nat)) : AVE 5 (.tuple [i64 n,vb true]) (.tuple [i64 (refN l),vb (refOk l 7)]) := by
  rw [refN,h,if_pos rfl,refV,if_neg hh,hm,← sofar_e,← hn]; exact ave_iv rfl rfl
theorem S27 (s : ByteArray) (hs : s.size ≤ 1000000000) : SP 27 [sv s, i64 7] (.tuple [i64 (refN s.data.toList), vb (refOk s.data.toList 7)]) false := by
  have hz := bs_len s
  by_cases h0 : s.size = 0
  · have hr := fin_no (ref_none (l := s.data.toList) (a := s.data.toList.length) (by
      have : s.data.toList = [] := List.length_eq_zero_iff.1 (by omega)
      rw [this]; rfl) (Nat.le_refl _))
    refine sound (d := 2) tok2 mixed2 Tryz.func27 (by kernel_rfl) (by kernel_rfl) ?_
    (conv=>whnf); refine ifB_dec (fun w1=>?_) (fun w1=>?_)
    · (exfalso; omega)
    · (conv=>whnf); refine ifB_beq (fun w2=>?_) (fun w2=>?_)
      · (conv=>whnf); refine ⟨?_,nofun⟩
        (first | omega | exact hr)
      · (exfalso; omega)
  by_cases h45 : ((s.data.toList.getD (Int.toNat 0) 0).toNat : Int) = 45
  · obtain ⟨hm, hh⟩ := mag1 (by omega) h45
    by_cases c1 : s.data.toList.length ≤ 1
    · have hr := fin_no (ref_none hm c1)
      refine sound (d := 2) tok2 mixed2 Tryz.func27 (by kernel_rfl) (by kernel_rfl) ?_
      (conv=>whnf); refine ifB_dec (fun w1=>?_) (fun w1=>?_)
      · (conv=>whnf); refine ⟨⟨(by omega),(by omega)⟩,?_⟩
        (conv=>whnf); refine ifB_beq (fun w2=>?_) (fun w2=>?_)
        · (conv=>whnf); refine ifB_beq (fun w3=>?_) (fun w3=>?_)
          · (conv=>whnf); refine ⟨?_,nofun⟩
            (first | omega | contradiction | exact hr)
          · (exfalso; omega)
        · (exfalso; omega)
      · (exfalso; omega)
    by_cases c2 : 7 < s.data.toList.length - 1
    · have hr := fin_no (ref_long hm c2)
      refine sound (d := 2) tok2 mixed2 Tryz.func27 (by kernel_rfl) (by kernel_rfl) ?_
      (conv=>whnf); refine ifB_dec (fun w1=>?_) (fun w1=>?_)
      · (conv => whnf); refine ⟨⟨(by omega), (by omega)⟩, ?_⟩
        (conv=>whnf); refine ifB_beq (fun w2=>?_) (fun w2=>?_)
        · (conv=>whnf); refine ifB_beq (fun w3=>?_) (fun w3=>?_)
          · (exfalso; omega)
          · (conv=>whnf); refine ⟨inK64 (by omega) (by omega),?_⟩
            (conv=>whnf); refine ifB_dec (fun w4=>?_) (fun w4=>?_)
            · (conv=>whnf); refine ⟨?_,nofun⟩
              (first | omega | contradiction | exact hr)
            · (exfalso; omega)
        · (exfalso; omega)
      · (exfalso; omega)
    by_cases h48 : ((s.data.toList.getD (Int.toNat 1) 0).toNat : Int) = 48 ∧ 1 < s.data.toList.length
    · have hr := fin_no (ref_zero hm (by omega) h48.1 h48.2)
      obtain ⟨k1,k2⟩ := h48
      refine sound (d := 2) tok2 mixed2 Tryz.func27 (by kernel_rfl) (by kernel_rfl) ?_
      (conv=>whnf); refine ifB_dec (fun w1=>?_) (fun w1=>?_)
      · (conv => whnf); refine ⟨⟨(by omega), (by omega)⟩, ?_⟩
        (conv=>whnf); refine ifB_beq (fun w2=>?_) (fun w2=>?_)
        · (conv => whnf); refine ifB_beq (fun w3 => ?_) (fun w3 => ?_)
          · (exfalso; omega)
          · (conv => whnf); refine ⟨inK64 (by omega) (by omega), ?_⟩
            (conv=>whnf); refine ifB_dec (fun w4=>?_) (fun w4=>?_)
            · (exfalso; omega)
            · (conv=>whnf); refine ⟨⟨(by omega),(by omega)⟩,?_⟩
              (conv=>whnf); refine ifB_beq (fun w5=>?_) (fun w5=>?_)
              · (conv=>whnf); refine ifB_dec (fun w6=>?_) (fun w6=>?_)
                · (conv=>whnf); refine ⟨?_,nofun⟩
                  (first | omega | contradiction | exact hr)
                · (exfalso; omega)
              · (exfalso; omega)
        · (exfalso; omega)
      · (exfalso; omega)
    have k1 : ¬ ((s.data.toList.getD (Int.toNat 1) 0).toNat : Int) = 48 := fun e=>h48 ⟨e,by omega⟩
    refine sound (d := 2) tok2 mixed2 Tryz.func27 (by kernel_rfl) (by kernel_rfl) ?_
    (conv=>whnf); refine ifB_dec (fun w1=>?_) (fun w1=>?_)
    · (conv => whnf); refine ⟨⟨(by omega), (by omega)⟩, ?_⟩
      (conv=>whnf); refine ifB_beq (fun w2=>?_) (fun w2=>?_)
      · (conv => whnf); refine ifB_beq (fun w3 => ?_) (fun w3 => ?_)
        · (exfalso; omega)
        · (conv => whnf); refine ⟨inK64 (by omega) (by omega), ?_⟩
          (conv=>whnf); refine ifB_dec (fun w4=>?_) (fun w4=>?_)
          · (exfalso; omega)
          · (conv => whnf); refine ⟨⟨(by omega), (by omega)⟩, ?_⟩
            (conv=>whnf); refine ifB_beq (fun w5=>?_) (fun w5=>?_)
            · (exfalso; omega)
            · · (conv => whnf); refine ⟨[], [0, 6, 7, 8], fun st mq => ∃ (i : Nat) (n : Int), (1 ≤ i ∧ i ≤ s.data.toList.length) ∧ (n = (sofar s.data.toList 1 i : Nat)) ∧ (∀ j, 1 ≤ j → j < i → 48 ≤ (s.data.toList.getD j 0).toNat ∧ (s.data.toList.getD j 0).toNat ≤ 57) ∧ st = ⟨[(0, sv s), (6, i64 1), (7, i64 n), (8, i64 i)], ⟨[], [], none, 0⟩, []⟩ ∧ mq = s.data.toList.length - i,
                  ⟨_,_,⟨1,0,⟨by omega,by omega⟩,(by rw [sofar_0]; rfl),fun j h1 h2=>by omega,rfl,rfl⟩,⟨⟨.inl rfl,rfl,rfl,rfl⟩,trivial,trivial⟩⟩,?_⟩
                rintro s0 m0 ⟨i,n,hi,hn,hd,rfl,hmeas⟩
                have hb := sofar_lt hi.1 hi.2 (by omega : s.data.toList.length - 1 ≤ 7) hd
                by_cases hlt : i < s.data.toList.length
                · have hst : sofar s.data.toList 1 (i + 1) = 10 * sofar s.data.toList 1 i + ((s.data.toList.getD (i : Int).toNat 0).toNat - 48) := sofar_s hi.1 hlt
                  have hu := u8_lt (s.data.toList.getD (i : Int).toNat 0)
                  by_cases hg : 48 ≤ (s.data.toList.getD (i : Int).toNat 0).toNat ∧ (s.data.toList.getD (i : Int).toNat 0).toNat ≤ 57
                  · obtain ⟨hg1,hg2⟩ := hg
                    conv=>whnf
                    (conv=>whnf); refine ifB_dec (fun w6=>?_) (fun w6=>?_)
                    · conv=>whnf
                      (conv=>whnf); refine ⟨⟨(by omega),(by omega)⟩,?_⟩
                      conv=>whnf
                      (conv=>whnf); refine ifB_dec (fun w7=>?_) (fun w7=>?_)
                      · (exfalso; omega)
                      · conv=>whnf
                        (conv=>whnf); refine ⟨⟨(by omega),(by omega)⟩,?_⟩
                        conv=>whnf
                        (conv=>whnf); refine ifB_dec (fun w8=>?_) (fun w8=>?_)
                        · (exfalso; omega)
                        · conv=>whnf
                          (conv=>whnf); refine ⟨inK64 (by omega) (by omega),?_⟩
                          conv=>whnf
                          (conv=>whnf); refine ⟨⟨(by omega),(by omega)⟩,?_⟩
                          conv=>whnf
                          (conv=>whnf); refine ⟨inKu8 (by omega) (by omega),?_⟩
                          conv=>whnf
                          (conv=>whnf); refine ⟨inK64 (by omega) (by omega),?_⟩
                          conv=>whnf
                          (conv=>whnf); refine ⟨inK64 (by omega) (by omega),?_⟩
                          conv=>whnf
                          (conv=>whnf); refine ⟨inK64 (by omega) (by omega),?_⟩
                          conv=>whnf
                          (conv=>whnf); refine ⟨_,_,⟨⟨i + 1,(10 * n + (((s.data.toList.getD (i : Int).toNat 0).toNat : Int) - 48)),⟨by omega,by omega⟩,(by rw [hst,hn]; omega),(fun j h1 h2=>by by_cases e : j = i; (rw [e]; exact ⟨hg1,hg2⟩); exact hd j h1 (by omega)),rfl,rfl⟩,by omega⟩,⟨⟨.inl rfl,rfl,rfl,rfl⟩,trivial,trivial⟩⟩
                    · (exfalso; omega)
                  · have hno := fin_no (ref_dig hm hi.1 hlt hg)
                    conv=>whnf
                    (conv=>whnf); refine ifB_dec (fun w6=>?_) (fun w6=>?_)
                    · conv=>whnf
                      (conv=>whnf); refine ⟨⟨(by omega),(by omega)⟩,?_⟩
                      conv=>whnf
                      (conv=>whnf); refine ifB_dec (fun w7=>?_) (fun w7=>?_)
                      · conv=>whnf
                        (conv=>whnf); refine ⟨?_,nofun⟩
                        (first | omega | exact hno)
                      · conv=>whnf
                        (conv=>whnf); refine ⟨⟨(by omega),(by omega)⟩,?_⟩
                        conv=>whnf
                        (conv=>whnf); refine ifB_dec (fun w8=>?_) (fun w8=>?_)
                        · conv=>whnf
                          (conv=>whnf); refine ⟨?_,nofun⟩
                          (first | omega | exact hno)
                        · (exfalso; omega)
                    · (exfalso; omega)
                · have he : i = s.data.toList.length := by omega
                  have hyes := fin_yes1 (n := n) (ref_yes hm (by omega) (by omega) h48 (by rw [← he]; exact hd)) hm hh (by rw [hn,he])
                  conv=>whnf
                  (conv=>whnf); refine ifB_dec (fun w6=>?_) (fun w6=>?_)
                  · (exfalso; omega)
                  · conv=>whnf
                    (conv=>whnf); refine ⟨inK64 (by omega) (by omega),?_⟩
                    conv=>whnf
                    (conv=>whnf); refine ⟨?_,nofun⟩
                    (first | omega | exact hyes)
      · (exfalso; omega)
    · (exfalso; omega)
  · obtain ⟨hm, hh⟩ := mag0 h45
    by_cases c1 : s.data.toList.length ≤ 0
    · have hr := fin_no (ref_none hm c1)
      refine sound (d := 2) tok2 mixed2 Tryz.func27 (by kernel_rfl) (by kernel_rfl) ?_
      (conv=>whnf); refine ifB_dec (fun w1=>?_) (fun w1=>?_)
      · (exfalso; omega)
      · (exfalso; omega)
    by_cases c2 : 7 < s.data.toList.length - 0
    · have hr := fin_no (ref_long hm c2)
      refine sound (d := 2) tok2 mixed2 Tryz.func27 (by kernel_rfl) (by kernel_rfl) ?_
      (conv=>whnf); refine ifB_dec (fun w1=>?_) (fun w1=>?_)
      · (conv => whnf); refine ⟨⟨(by omega), (by omega)⟩, ?_⟩
        (conv=>whnf); refine ifB_beq (fun w2=>?_) (fun w2=>?_)
        · (exfalso; omega)
        · (conv=>whnf); refine ifB_beq (fun w3=>?_) (fun w3=>?_)
          · (exfalso; omega)
          · (conv=>whnf); refine ⟨inK64 (by omega) (by omega),?_⟩
            (conv=>whnf); refine ifB_dec (fun w4=>?_) (fun w4=>?_)
            · (conv=>whnf); refine ⟨?_,nofun⟩
              (first | omega | contradiction | exact hr)
            · (exfalso; omega)
      · (exfalso; omega)
    by_cases h48 : ((s.data.toList.getD (Int.toNat 0) 0).toNat : Int) = 48 ∧ 1 < s.data.toList.length
    · have hr := fin_no (ref_zero hm (by omega) h48.1 h48.2)
      obtain ⟨k1,k2⟩ := h48
      refine sound (d := 2) tok2 mixed2 Tryz.func27 (by kernel_rfl) (by kernel_rfl) ?_
      (conv=>whnf); refine ifB_dec (fun w1=>?_) (fun w1=>?_)
      · (conv => whnf); refine ⟨⟨(by omega), (by omega)⟩, ?_⟩
        (conv=>whnf); refine ifB_beq (fun w2=>?_) (fun w2=>?_)
        · (exfalso; omega)
        · (conv => whnf); refine ifB_beq (fun w3 => ?_) (fun w3 => ?_)
          · (exfalso; omega)
          · (conv => whnf); refine ⟨inK64 (by omega) (by omega), ?_⟩
            (conv=>whnf); refine ifB_dec (fun w4=>?_) (fun w4=>?_)
            · (exfalso; omega)
            · (conv=>whnf); refine ⟨⟨(by omega),(by omega)⟩,?_⟩
              (conv=>whnf); refine ifB_beq (fun w5=>?_) (fun w5=>?_)
              · (conv=>whnf); refine ifB_dec (fun w6=>?_) (fun w6=>?_)
                · (conv=>whnf); refine ⟨?_,nofun⟩
                  (first | omega | contradiction | exact hr)
                · (exfalso; omega)
              · (exfalso; omega)
      · (exfalso; omega)
    by_cases c3 : s.data.toList.length = 1
    · refine sound (d := 2) tok2 mixed2 Tryz.func27 (by kernel_rfl) (by kernel_rfl) ?_
      (conv=>whnf); refine ifB_dec (fun w1=>?_) (fun w1=>?_)
      · (conv => whnf); refine ⟨⟨(by omega), (by omega)⟩, ?_⟩
        (conv=>whnf); refine ifB_beq (fun w2=>?_) (fun w2=>?_)
        · (exfalso; omega)
        · (conv => whnf); refine ifB_beq (fun w3 => ?_) (fun w3 => ?_)
          · (exfalso; omega)
          · (conv => whnf); refine ⟨inK64 (by omega) (by omega), ?_⟩
            (conv=>whnf); refine ifB_dec (fun w4=>?_) (fun w4=>?_)
            · (exfalso; omega)
            · (conv => whnf); refine ⟨⟨(by omega), (by omega)⟩, ?_⟩
              (conv=>whnf); refine ifB_beq (fun w5=>?_) (fun w5=>?_)
              · (conv => whnf); refine ifB_dec (fun w6 => ?_) (fun w6 => ?_)
                · (exfalso; omega)
                · (conv => whnf); refine ⟨[], [0, 6, 7, 8], fun st mq => ∃ (i : Nat) (n : Int), (0 ≤ i ∧ i ≤ s.data.toList.length) ∧ (n = (sofar s.data.toList 0 i : Nat)) ∧ (∀ j, 0 ≤ j → j < i → 48 ≤ (s.data.toList.getD j 0).toNat ∧ (s.data.toList.getD j 0).toNat ≤ 57) ∧ st = ⟨[(0, sv s), (6, i64 0), (7, i64 n), (8, i64 i)], ⟨[], [], none, 0⟩, []⟩ ∧ mq = s.data.toList.length - i,
                    ⟨_,_,⟨0,0,⟨by omega,by omega⟩,(by rw [sofar_0]; rfl),fun j h1 h2=>by omega,rfl,rfl⟩,⟨⟨.inl rfl,rfl,rfl,rfl⟩,trivial,trivial⟩⟩,?_⟩
                  rintro s0 m0 ⟨i,n,hi,hn,hd,rfl,hmeas⟩
                  have hb := sofar_lt hi.1 hi.2 (by omega : s.data.toList.length - 0 ≤ 7) hd
                  by_cases hlt : i < s.data.toList.length
                  · have hst : sofar s.data.toList 0 (i + 1) = 10 * sofar s.data.toList 0 i + ((s.data.toList.getD (i : Int).toNat 0).toNat - 48) := sofar_s hi.1 hlt
                    have hu := u8_lt (s.data.toList.getD (i : Int).toNat 0)
                    by_cases hg : 48 ≤ (s.data.toList.getD (i : Int).toNat 0).toNat ∧ (s.data.toList.getD (i : Int).toNat 0).toNat ≤ 57
                    · obtain ⟨hg1,hg2⟩ := hg
                      conv=>whnf
                      (conv=>whnf); refine ifB_dec (fun w7=>?_) (fun w7=>?_)
                      · conv=>whnf
                        (conv=>whnf); refine ⟨⟨(by omega),(by omega)⟩,?_⟩
                        conv=>whnf
                        (conv=>whnf); refine ifB_dec (fun w8=>?_) (fun w8=>?_)
                        · (exfalso; omega)
                        · conv=>whnf
                          (conv=>whnf); refine ⟨⟨(by omega),(by omega)⟩,?_⟩
                          conv=>whnf
                          (conv=>whnf); refine ifB_dec (fun w9=>?_) (fun w9=>?_)
                          · (exfalso; omega)
                          · conv=>whnf
                            (conv=>whnf); refine ⟨inK64 (by omega) (by omega),?_⟩
                            conv=>whnf
                            (conv=>whnf); refine ⟨⟨(by omega),(by omega)⟩,?_⟩
                            conv=>whnf
                            (conv=>whnf); refine ⟨inKu8 (by omega) (by omega),?_⟩
                            conv=>whnf
                            (conv=>whnf); refine ⟨inK64 (by omega) (by omega),?_⟩
                            conv=>whnf
                            (conv=>whnf); refine ⟨inK64 (by omega) (by omega),?_⟩
                            conv=>whnf
                            (conv=>whnf); refine ⟨inK64 (by omega) (by omega),?_⟩
                            conv=>whnf
                            (conv=>whnf); refine ⟨_,_,⟨⟨i + 1,(10 * n + (((s.data.toList.getD (i : Int).toNat 0).toNat : Int) - 48)),⟨by omega,by omega⟩,(by rw [hst,hn]; omega),(fun j h1 h2=>by by_cases e : j = i; (rw [e]; exact ⟨hg1,hg2⟩); exact hd j h1 (by omega)),rfl,rfl⟩,by omega⟩,⟨⟨.inl rfl,rfl,rfl,rfl⟩,trivial,trivial⟩⟩
                      · (exfalso; omega)
                    · have hno := fin_no (ref_dig hm hi.1 hlt hg)
                      conv=>whnf
                      (conv=>whnf); refine ifB_dec (fun w7=>?_) (fun w7=>?_)
                      · conv=>whnf
                        (conv=>whnf); refine ⟨⟨(by omega),(by omega)⟩,?_⟩
                        conv=>whnf
                        (conv=>whnf); refine ifB_dec (fun w8=>?_) (fun w8=>?_)
                        · conv=>whnf
                          (conv=>whnf); refine ⟨?_,nofun⟩
                          (first | omega | exact hno)
                        · conv=>whnf
                          (conv=>whnf); refine ⟨⟨(by omega),(by omega)⟩,?_⟩
                          conv=>whnf
                          (conv=>whnf); refine ifB_dec (fun w9=>?_) (fun w9=>?_)
                          · conv=>whnf
                            (conv=>whnf); refine ⟨?_,nofun⟩
                            (first | omega | exact hno)
                          · (exfalso; omega)
                      · (exfalso; omega)
                  · have he : i = s.data.toList.length := by omega
                    have hyes := fin_yes0 (n := n) (ref_yes hm (by omega) (by omega) h48 (by rw [← he]; exact hd)) hm hh (by rw [hn,he])
                    conv=>whnf
                    (conv=>whnf); refine ifB_dec (fun w7=>?_) (fun w7=>?_)
                    · (exfalso; omega)
                    · conv=>whnf
                      (conv=>whnf); refine ⟨?_,nofun⟩
                      (first | omega | exact hyes)
              · (conv => whnf); refine ⟨[], [0, 6, 7, 8], fun st mq => ∃ (i : Nat) (n : Int), (0 ≤ i ∧ i ≤ s.data.toList.length) ∧ (n = (sofar s.data.toList 0 i : Nat)) ∧ (∀ j, 0 ≤ j → j < i → 48 ≤ (s.data.toList.getD j 0).toNat ∧ (s.data.toList.getD j 0).toNat ≤ 57) ∧ st = ⟨[(0, sv s), (6, i64 0), (7, i64 n), (8, i64 i)], ⟨[], [], none, 0⟩, []⟩ ∧ mq = s.data.toList.length - i,
                  ⟨_,_,⟨0,0,⟨by omega,by omega⟩,(by rw [sofar_0]; rfl),fun j h1 h2=>by omega,rfl,rfl⟩,⟨⟨.inl rfl,rfl,rfl,rfl⟩,trivial,trivial⟩⟩,?_⟩
                rintro s0 m0 ⟨i,n,hi,hn,hd,rfl,hmeas⟩
                have hb := sofar_lt hi.1 hi.2 (by omega : s.data.toList.length - 0 ≤ 7) hd
                by_cases hlt : i < s.data.toList.length
                · have hst : sofar s.data.toList 0 (i + 1) = 10 * sofar s.data.toList 0 i + ((s.data.toList.getD (i : Int).toNat 0).toNat - 48) := sofar_s hi.1 hlt
                  have hu := u8_lt (s.data.toList.getD (i : Int).toNat 0)
                  by_cases hg : 48 ≤ (s.data.toList.getD (i : Int).toNat 0).toNat ∧ (s.data.toList.getD (i : Int).toNat 0).toNat ≤ 57
                  · obtain ⟨hg1,hg2⟩ := hg
                    conv=>whnf
                    (conv=>whnf); refine ifB_dec (fun w6=>?_) (fun w6=>?_)
                    · conv=>whnf
                      (conv=>whnf); refine ⟨⟨(by omega),(by omega)⟩,?_⟩
                      conv=>whnf
                      (conv=>whnf); refine ifB_dec (fun w7=>?_) (fun w7=>?_)
                      · (exfalso; omega)
                      · conv=>whnf
                        (conv=>whnf); refine ⟨⟨(by omega),(by omega)⟩,?_⟩
                        conv=>whnf
                        (conv=>whnf); refine ifB_dec (fun w8=>?_) (fun w8=>?_)
                        · (exfalso; omega)
                        · conv=>whnf
                          (conv=>whnf); refine ⟨inK64 (by omega) (by omega),?_⟩
                          conv=>whnf
                          (conv=>whnf); refine ⟨⟨(by omega),(by omega)⟩,?_⟩
                          conv=>whnf
                          (conv=>whnf); refine ⟨inKu8 (by omega) (by omega),?_⟩
                          conv=>whnf
                          (conv=>whnf); refine ⟨inK64 (by omega) (by omega),?_⟩
                          conv=>whnf
                          (conv=>whnf); refine ⟨inK64 (by omega) (by omega),?_⟩
                          conv=>whnf
                          (conv=>whnf); refine ⟨inK64 (by omega) (by omega),?_⟩
                          conv=>whnf
                          (conv=>whnf); refine ⟨_,_,⟨⟨i + 1,(10 * n + (((s.data.toList.getD (i : Int).toNat 0).toNat : Int) - 48)),⟨by omega,by omega⟩,(by rw [hst,hn]; omega),(fun j h1 h2=>by by_cases e : j = i; (rw [e]; exact ⟨hg1,hg2⟩); exact hd j h1 (by omega)),rfl,rfl⟩,by omega⟩,⟨⟨.inl rfl,rfl,rfl,rfl⟩,trivial,trivial⟩⟩
                    · (exfalso; omega)
                  · have hno := fin_no (ref_dig hm hi.1 hlt hg)
                    conv=>whnf
                    (conv=>whnf); refine ifB_dec (fun w6=>?_) (fun w6=>?_)
                    · conv=>whnf
                      (conv=>whnf); refine ⟨⟨(by omega),(by omega)⟩,?_⟩
                      conv=>whnf
                      (conv=>whnf); refine ifB_dec (fun w7=>?_) (fun w7=>?_)
                      · conv=>whnf
                        (conv=>whnf); refine ⟨?_,nofun⟩
                        (first | omega | exact hno)
                      · conv=>whnf
                        (conv=>whnf); refine ⟨⟨(by omega),(by omega)⟩,?_⟩
                        conv=>whnf
                        (conv=>whnf); refine ifB_dec (fun w8=>?_) (fun w8=>?_)
                        · conv=>whnf
                          (conv=>whnf); refine ⟨?_,nofun⟩
                          (first | omega | exact hno)
                        · (exfalso; omega)
                    · (exfalso; omega)
                · have he : i = s.data.toList.length := by omega
                  have hyes := fin_yes0 (n := n) (ref_yes hm (by omega) (by omega) h48 (by rw [← he]; exact hd)) hm hh (by rw [hn,he])
                  conv=>whnf
                  (conv=>whnf); refine ifB_dec (fun w6=>?_) (fun w6=>?_)
                  · (exfalso; omega)
                  · conv=>whnf
                    (conv=>whnf); refine ⟨?_,nofun⟩
                    (first | omega | exact hyes)
      · (exfalso; omega)
    · have k1 : ¬ ((s.data.toList.getD (Int.toNat 0) 0).toNat : Int) = 48 := fun e => h48 ⟨e, by omega⟩
      refine sound (d := 2) tok2 mixed2 Tryz.func27 (by kernel_rfl) (by kernel_rfl) ?_
      (conv=>whnf); refine ifB_dec (fun w1=>?_) (fun w1=>?_)
      · (conv => whnf); refine ⟨⟨(by omega), (by omega)⟩, ?_⟩
        (conv=>whnf); refine ifB_beq (fun w2=>?_) (fun w2=>?_)
        · (exfalso; omega)
        · (conv => whnf); refine ifB_beq (fun w3 => ?_) (fun w3 => ?_)
          · (exfalso; omega)
          · (conv => whnf); refine ⟨inK64 (by omega) (by omega), ?_⟩
            (conv=>whnf); refine ifB_dec (fun w4=>?_) (fun w4=>?_)
            · (exfalso; omega)
            · (conv => whnf); refine ⟨⟨(by omega), (by omega)⟩, ?_⟩
              (conv=>whnf); refine ifB_beq (fun w5=>?_) (fun w5=>?_)
              · (exfalso; omega)
              · · (conv => whnf); refine ⟨[], [0, 6, 7, 8], fun st mq => ∃ (i : Nat) (n : Int), (0 ≤ i ∧ i ≤ s.data.toList.length) ∧ (n = (sofar s.data.toList 0 i : Nat)) ∧ (∀ j, 0 ≤ j → j < i → 48 ≤ (s.data.toList.getD j 0).toNat ∧ (s.data.toList.getD j 0).toNat ≤ 57) ∧ st = ⟨[(0, sv s), (6, i64 0), (7, i64 n), (8, i64 i)], ⟨[], [], none, 0⟩, []⟩ ∧ mq = s.data.toList.length - i,
                    ⟨_,_,⟨0,0,⟨by omega,by omega⟩,(by rw [sofar_0]; rfl),fun j h1 h2=>by omega,rfl,rfl⟩,⟨⟨.inl rfl,rfl,rfl,rfl⟩,trivial,trivial⟩⟩,?_⟩
                  rintro s0 m0 ⟨i,n,hi,hn,hd,rfl,hmeas⟩
                  have hb := sofar_lt hi.1 hi.2 (by omega : s.data.toList.length - 0 ≤ 7) hd
                  by_cases hlt : i < s.data.toList.length
                  · have hst : sofar s.data.toList 0 (i + 1) = 10 * sofar s.data.toList 0 i + ((s.data.toList.getD (i : Int).toNat 0).toNat - 48) := sofar_s hi.1 hlt
                    have hu := u8_lt (s.data.toList.getD (i : Int).toNat 0)
                    by_cases hg : 48 ≤ (s.data.toList.getD (i : Int).toNat 0).toNat ∧ (s.data.toList.getD (i : Int).toNat 0).toNat ≤ 57
                    · obtain ⟨hg1,hg2⟩ := hg
                      conv=>whnf
                      (conv=>whnf); refine ifB_dec (fun w6=>?_) (fun w6=>?_)
                      · conv=>whnf
                        (conv=>whnf); refine ⟨⟨(by omega),(by omega)⟩,?_⟩
                        conv=>whnf
                        (conv=>whnf); refine ifB_dec (fun w7=>?_) (fun w7=>?_)
                        · (exfalso; omega)
                        · conv=>whnf
                          (conv=>whnf); refine ⟨⟨(by omega),(by omega)⟩,?_⟩
                          conv=>whnf
                          (conv=>whnf); refine ifB_dec (fun w8=>?_) (fun w8=>?_)
                          · (exfalso; omega)
                          · conv=>whnf
                            (conv=>whnf); refine ⟨inK64 (by omega) (by omega),?_⟩
                            conv=>whnf
                            (conv=>whnf); refine ⟨⟨(by omega),(by omega)⟩,?_⟩
                            conv=>whnf
                            (conv=>whnf); refine ⟨inKu8 (by omega) (by omega),?_⟩
                            conv=>whnf
                            (conv=>whnf); refine ⟨inK64 (by omega) (by omega),?_⟩
                            conv=>whnf
                            (conv=>whnf); refine ⟨inK64 (by omega) (by omega),?_⟩
                            conv=>whnf
                            (conv=>whnf); refine ⟨inK64 (by omega) (by omega),?_⟩
                            conv=>whnf
                            (conv=>whnf); refine ⟨_,_,⟨⟨i + 1,(10 * n + (((s.data.toList.getD (i : Int).toNat 0).toNat : Int) - 48)),⟨by omega,by omega⟩,(by rw [hst,hn]; omega),(fun j h1 h2=>by by_cases e : j = i; (rw [e]; exact ⟨hg1,hg2⟩); exact hd j h1 (by omega)),rfl,rfl⟩,by omega⟩,⟨⟨.inl rfl,rfl,rfl,rfl⟩,trivial,trivial⟩⟩
                      · (exfalso; omega)
                    · have hno := fin_no (ref_dig hm hi.1 hlt hg)
                      conv=>whnf
                      (conv=>whnf); refine ifB_dec (fun w6=>?_) (fun w6=>?_)
                      · conv=>whnf
                        (conv=>whnf); refine ⟨⟨(by omega),(by omega)⟩,?_⟩
                        conv=>whnf
                        (conv=>whnf); refine ifB_dec (fun w7=>?_) (fun w7=>?_)
                        · conv=>whnf
                          (conv=>whnf); refine ⟨?_,nofun⟩
                          (first | omega | exact hno)
                        · conv=>whnf
                          (conv=>whnf); refine ⟨⟨(by omega),(by omega)⟩,?_⟩
                          conv=>whnf
                          (conv=>whnf); refine ifB_dec (fun w8=>?_) (fun w8=>?_)
                          · conv=>whnf
                            (conv=>whnf); refine ⟨?_,nofun⟩
                            (first | omega | exact hno)
                          · (exfalso; omega)
                      · (exfalso; omega)
                  · have he : i = s.data.toList.length := by omega
                    have hyes := fin_yes0 (n := n) (ref_yes hm (by omega) (by omega) h48 (by rw [← he]; exact hd)) hm hh (by rw [hn,he])
                    conv=>whnf
                    (conv=>whnf); refine ifB_dec (fun w6=>?_) (fun w6=>?_)
                    · (exfalso; omega)
                    · conv=>whnf
                      (conv=>whnf); refine ⟨?_,nofun⟩
                      (first | omega | exact hyes)
      · (exfalso; omega)
end Go.Tr

/- The reference's Cut. Conditions: none. -/
-- seat YtadidnljgmlaoaaGreatDoor
namespace Go.Tr
open Go Go.Proofs
set_option maxRecDepth 20000
set_option maxHeartbeats 8000000

theorem sep_cut (s : ByteArray) (c : UInt8) : (sepL s (byteB c)).map (·.data.toList) = cutL c s.data.toList := split_cut c _ s rfl
def PcAt (s : ByteArray) (c : UInt8) (a m : Nat) : Prop := ((sepL s (byteB c)).drop m).map (·.data.toList) = cutL c (s.data.toList.drop a)
theorem pc_0 (s : ByteArray) (c : UInt8) : PcAt s c 0 0 := sep_cut s c
theorem pc_hit {s : ByteArray} {c : UInt8} {a m i : Nat} (h : PcAt s c a m) (h1 : a ≤ i) (h2 : i < s.data.toList.length) (hc : s.data.toList.getD i 0 = c) (hf : ∀ j,a ≤ j → j < i → s.data.toList.getD j 0 ≠ c) :
  m < (sepL s (byteB c)).length ∧ s.extract a i = (sepL s (byteB c)).getD m ByteArray.empty ∧ PcAt s c (i + 1) (m + 1) := by
 have e : s.data.toList.drop a = (s.data.toList.drop a).take (i - a) ++ c :: s.data.toList.drop (i + 1) := by
  conv=>lhs; rw [← List.take_append_drop (i - a) (s.data.toList.drop a)]
  rw [List.drop_drop,show a + (i - a) = i by omega,List.drop_eq_getElem_cons h2,← hc,List.getD_eq_getElem?_getD,List.getElem?_eq_getElem h2]; rfl
 unfold PcAt at h
 rw [e,cut_hit fun x hx=>by
  obtain ⟨j,hj⟩ := List.mem_iff_getElem?.1 hx
  have hlt : j < i - a := by have := (List.getElem?_eq_some_iff.1 hj).1; rw [List.length_take] at this; omega
  rw [List.getElem?_take_of_lt hlt,List.getElem?_drop] at hj
  have := hf (a + j) (by omega) (by omega)
  rw [List.getD_eq_getElem?_getD,hj] at this
  exact this] at h
 have hm : m < (sepL s (byteB c)).length := by
  by_cases hm : m < (sepL s (byteB c)).length
  ·exact hm
  ·rw [List.drop_eq_nil_of_le (by omega)] at h; cases h
 rw [List.drop_eq_getElem_cons hm,List.map_cons] at h
 injection h with h3 h4
 refine ⟨hm,bs_ext ?_,h4⟩
 rw [bs_ex,← h3,List.getD_eq_getElem?_getD,List.getElem?_eq_getElem hm]; rfl
theorem pc_end {s : ByteArray} {c : UInt8} {a m : Nat} (h : PcAt s c a m) (hf : ∀ j,a ≤ j → j < s.data.toList.length → s.data.toList.getD j 0 ≠ c) :
  (sepL s (byteB c)).length = m + 1 ∧ s.extract a s.size = (sepL s (byteB c)).getD m ByteArray.empty := by
 unfold PcAt at h
 rw [cut_miss fun x hx=>by
  obtain ⟨j,hj⟩ := List.mem_iff_getElem?.1 hx
  rw [List.getElem?_drop] at hj
  have := hf (a + j) (by omega) (List.getElem?_eq_some_iff.1 hj).1
  rw [List.getD_eq_getElem?_getD,hj] at this
  exact this] at h
 have hm : m < (sepL s (byteB c)).length := by
  by_cases hm : m < (sepL s (byteB c)).length
  ·exact hm
  ·rw [List.drop_eq_nil_of_le (by omega)] at h; cases h
 rw [List.drop_eq_getElem_cons hm,List.map_cons] at h
 injection h with h3 h4
 have h5 := congrArg List.length h4
 rw [List.length_map,List.length_drop] at h5
 refine ⟨by simp at h5; omega,bs_ext ?_⟩
 rw [bs_ex,bs_len,List.take_of_length_le (by rw [List.length_drop]; omega),← h3,List.getD_eq_getElem?_getD,List.getElem?_eq_getElem hm]; rfl
abbrev strsA (l : List ByteArray) : AV := .rslice 1 l.length fun i=>[sv (l.getD i ByteArray.empty)]
theorem app_str {F : List ByteArray} {x : ByteArray} {m i : Nat} (hx : x = F.getD m ByteArray.empty) (hi : i < m + 1) :
  (if i < m then [sv (F.getD (0 + i) ByteArray.empty)] else List.take (0 + 1) (List.drop ((i - m) * (0 + 1)) [sv x])) = [sv (F.getD i ByteArray.empty)] := by
 by_cases h : i < m
 ·rw [if_pos h,Nat.zero_add]
 ·obtain rfl : i = m := by omega
  rw [if_neg h,Nat.sub_self,hx]; rfl
theorem S26 (s : ByteArray) (c : UInt8) (hs : s.size ≤ 1000000000) : SP 26 [sv s,.val (.int .u8 c.toNat)] (strsA (sepL s (byteB c))) false := by
 have hz := bs_len s
 refine sound (d := 2) tok2 mixed2 Tryz.func26 (by kernel_rfl) (by kernel_rfl) ?_
 (conv=>whnf); refine ⟨[.slot 5 1],[0,1,5,6,7],fun st mq=>∃ (i : Nat) (a : Nat) (m : Nat),(a ≤ i ∧ i ≤ s.data.toList.length ∧ m ≤ i) ∧ (PcAt s c a m) ∧ (∀ j,a ≤ j → j < i → s.data.toList.getD j 0 ≠ c) ∧ st = ⟨[(0,sv s),(1,.val (.int .u8 c.toNat)),(5,.oslice 0 0 0 m none),(6,i64 a),(7,i64 i)],⟨[⟨1,m,fun i=>[sv ((sepL s (byteB c)).getD i ByteArray.empty)],0,false,true,false⟩],[],none,0⟩,[]⟩ ∧ mq = s.data.toList.length - i,
  ⟨_,_,⟨0,0,0,⟨by omega,by omega,by omega⟩,pc_0 s c,(fun j h1 h2=>by omega),rfl,rfl⟩,⟨⟨.inl rfl,rfl,rfl,rfl⟩,⟨⟨rfl,rfl,rfl,rfl,fun _=>rfl,fun i h=>.inl (absurd h (Nat.not_lt_zero i))⟩,trivial⟩,trivial⟩⟩,?_⟩
 rintro s0 m0 ⟨i,a,m,hi,hp,hf,rfl,hmeas⟩
 by_cases hlt : i < s.data.toList.length
 ·by_cases hc : s.data.toList.getD (i : Int).toNat 0 = c
  ·obtain ⟨p1,p2,p3⟩ := pc_hit hp hi.1 hlt hc hf
   have hc2 : ((s.data.toList.getD (i : Int).toNat 0).toNat : Int) = c.toNat := by rw [hc]
   conv=>whnf
   (conv=>whnf); refine ifB_dec (fun w1=>?_) (fun w1=>?_)
   ·conv=>whnf
    (conv=>whnf); refine ⟨⟨(by omega),(by omega)⟩,?_⟩
    conv=>whnf
    (conv=>whnf); refine ifB_beq (fun w2=>?_) (fun w2=>?_)
    ·conv=>whnf
     (conv=>whnf); refine ⟨⟨(by omega),⟨(by omega),(by omega)⟩⟩,?_⟩
     conv=>whnf
     (conv=>whnf); refine .inl ?_
     conv=>whnf
     (conv=>whnf); refine ⟨(by show _ * (16 + 1) ≤ _; omega),?_⟩
     conv=>whnf
     (conv=>whnf); refine ⟨inK64 (by omega) (by omega),?_⟩
     conv=>whnf
     (conv=>whnf); refine ⟨inK64 (by omega) (by omega),?_⟩
     conv=>whnf
     (conv=>whnf); refine ⟨_,_,⟨⟨i + 1,i + 1,m + 1,⟨by omega,by omega,by omega⟩,p3,(fun j h1 h2=>by omega),rfl,rfl⟩,by omega⟩,⟨⟨.inl rfl,rfl,rfl,rfl⟩,⟨⟨rfl,rfl,rfl,rfl,fun _=>rfl,fun j hj=>.inl ((app_str p2 hj).symm)⟩,trivial⟩,trivial⟩⟩
    ·(exfalso; omega)
   ·(exfalso; omega)
  ·have hc2 : ¬ ((s.data.toList.getD (i : Int).toNat 0).toNat : Int) = c.toNat := fun e=>hc (UInt8.toNat_inj.1 (by omega))
   conv=>whnf
   (conv=>whnf); refine ifB_dec (fun w1=>?_) (fun w1=>?_)
   ·conv=>whnf
    (conv=>whnf); refine ⟨⟨(by omega),(by omega)⟩,?_⟩
    conv=>whnf
    (conv=>whnf); refine ifB_beq (fun w2=>?_) (fun w2=>?_)
    ·(exfalso; omega)
    ·conv=>whnf
     (conv=>whnf); refine ⟨inK64 (by omega) (by omega),?_⟩
     conv=>whnf
     (conv=>whnf); refine ⟨_,_,⟨⟨i + 1,a,m,⟨by omega,by omega,by omega⟩,hp,(fun j h1 h2=>by by_cases e : j = i; (rw [e]; exact hc); exact hf j h1 (by omega)),rfl,rfl⟩,by omega⟩,⟨⟨.inl rfl,rfl,rfl,rfl⟩,⟨⟨rfl,rfl,rfl,rfl,fun _=>rfl,fun _ _=>.inl rfl⟩,trivial⟩,trivial⟩⟩
   ·(exfalso; omega)
 ·have e : i = s.data.toList.length := by omega
  subst e
  obtain ⟨p1,p2⟩ := pc_end hp hf
  conv=>whnf
  (conv=>whnf); refine ifB_dec (fun w1=>?_) (fun w1=>?_)
  ·(exfalso; omega)
  ·conv=>whnf
   (conv=>whnf); refine ⟨⟨(by omega),⟨(by omega),(by omega)⟩⟩,?_⟩
   conv=>whnf
   (conv=>whnf); refine .inl ?_
   conv=>whnf
   (conv=>whnf); refine ⟨(by show _ * (16 + 1) ≤ _; omega),?_⟩
   conv=>whnf
   (conv=>whnf); refine ⟨?_,nofun⟩
   (first | omega | contradiction | exact ⟨rfl,p1.symm,fun i hi=>app_str p2 hi⟩)
end Go.Tr

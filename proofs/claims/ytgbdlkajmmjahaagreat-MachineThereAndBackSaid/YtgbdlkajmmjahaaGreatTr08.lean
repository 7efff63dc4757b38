/- Contracts of chapter 6: what all share; its examples. Conditions: none. -/
import Derived.Test.YtgbdlkajmmjahaaGreatTr06
import Derived.Test.YtgbdlkajmmjahaaGreatTr07
import Derived.Test.YtgbdlkajmmjahaaGreatProg
import Derived.WalkKit
set_option linter.unusedSectionVars false
set_option linter.unnecessarySimpa false
set_option linter.unusedVariables false
set_option linter.unusedSimpArgs false

namespace Go.Tr
open Go Go.Proofs

abbrev i64 (n : Int) : AV := .val (.int .i64 n)
abbrev vb (b : Bool) : AV := .val (.bool b)
theorem mixed2 : Tryz.prog.follows .mixedOrders = true := by kernel_rfl
instance gtab : GTab := ⟨fun _=>none⟩
set_option maxRecDepth 20000
set_option maxHeartbeats 8000000
abbrev SP := Sound1 Tryz.prog
def K2 (t : Nat) : Option (List LK) :=
  bif Nat.beq t 26 then some [.int .i64,.int .i64] else bif Nat.beq t 152 then some [.int .i64,.int .i64,.int .i64] else bif Nat.beq t 157 then some [.int .i64,.int .i64,.int .i64,.int .i64] else bif Nat.beq t 69 then some [.int .i64,.int .i64,.int .i64,.int .i64,.int .i64,.int .i64] else bif Nat.beq t 71 then some [.int .i64,.int .i64,.int .i64,.int .i64,.int .i64,.int .i64,.int .i64] else bif Nat.beq t 99 then some [.int .i64,.int .i64,.int .i64,.int .i64] else none
theorem tok2 : TOK Tryz.prog (TK Tryz.prog K2) := TOK_TK fun t ks h=>by
 unfold K2 at h
 cases e0 : Nat.beq t 26 with
 | true=>rw [e0] at h; cases h; cases Nat.eq_of_beq_eq_true e0; exact ⟨_,Tryz.underlying26,by kernel_rfl⟩
 | false =>
 rw [e0] at h
 cases e1 : Nat.beq t 152 with
 | true=>rw [e1] at h; cases h; cases Nat.eq_of_beq_eq_true e1; exact ⟨_,Tryz.underlying152,by kernel_rfl⟩
 | false =>
 rw [e1] at h
 cases e2 : Nat.beq t 157 with
 | true=>rw [e2] at h; cases h; cases Nat.eq_of_beq_eq_true e2; exact ⟨_,Tryz.underlying157,by kernel_rfl⟩
 | false =>
 rw [e2] at h
 cases e3 : Nat.beq t 69 with
 | true=>rw [e3] at h; cases h; cases Nat.eq_of_beq_eq_true e3; exact ⟨_,Tryz.underlying69,by kernel_rfl⟩
 | false =>
 rw [e3] at h
 cases e4 : Nat.beq t 71 with
 | true=>rw [e4] at h; cases h; cases Nat.eq_of_beq_eq_true e4; exact ⟨_,Tryz.underlying71,by kernel_rfl⟩
 | false =>
 rw [e4] at h
 cases e5 : Nat.beq t 99 with
 | true=>rw [e5] at h; cases h; cases Nat.eq_of_beq_eq_true e5; exact ⟨_,Tryz.underlying99,by kernel_rfl⟩
 | false=>rw [e5] at h; cases h

def tblE : AV := .agg [.rslice 2 2 fun i=>[[i64 10,.rslice 3 3 fun i=>[[i64 0,i64 0,i64 0],[i64 100,i64 10,i64 500],[i64 200,i64 14,i64 1800]].getD i []],[i64 20,.rslice 3 3 fun i=>[[i64 0,i64 10,i64 0],[i64 100,i64 30,i64 2000],[i64 200,i64 40,i64 6000]].getD i []]].getD i []]
def frE : AV := .agg [i64 15,i64 1]
theorem run68 : Run.ok Tryz.prog ⟨68,[tblE],.tuple [i64 7600,i64 0]⟩ := run_ok mixed2 (l := []) (by simp) 1000 60 (by kernel_rfl)
theorem run26 : Run.ok Tryz.prog ⟨26,[tblE,frE,i64 75],.tuple [.rslice 2 1 fun _=>[i64 15,i64 1],i64 0]⟩ := run_ok mixed2 (l := []) (by simp) 1000 60 (by kernel_rfl)
theorem run16 : Run.ok Tryz.prog ⟨16,[tblE,frE,.agg [i64 150,i64 10,i64 1]],.tuple [.rslice 6 1 fun _=>[i64 37100,i64 251,i64 5500,i64 251,i64 469750,i64 251],i64 0]⟩ := run_ok mixed2 (l := []) (by simp) 1000 60 (by kernel_rfl)
theorem run37 : Run.ok Tryz.prog ⟨37,[tblE,i64 100],.tuple [.agg [i64 2000,i64 1],i64 0]⟩ := run_ok mixed2 (l := []) (by simp) 1000 60 (by kernel_rfl)
theorem S14 : SP 14 [] (vb true) false := run_ok mixed2 (l := [⟨68,[tblE],.tuple [i64 7600,i64 0]⟩,⟨26,[tblE,frE,i64 75],.tuple [.rslice 2 1 fun _=>[i64 15,i64 1],i64 0]⟩,⟨16,[tblE,frE,.agg [i64 150,i64 10,i64 1]],.tuple [.rslice 6 1 fun _=>[i64 37100,i64 251,i64 5500,i64 251,i64 469750,i64 251],i64 0]⟩,⟨37,[tblE,i64 100],.tuple [.agg [i64 2000,i64 1],i64 0]⟩]) (by
  intro x hx
  simp only [List.mem_cons,List.not_mem_nil,or_false] at hx
  rcases hx with rfl | rfl | rfl | rfl
  ·exact run68
  ·exact run26
  ·exact run16
  ·exact run37) 1000 60 (by kernel_rfl)
end Go.Tr

/- Contracts of chapter 6: small functions; gates and rules. Conditions: none. -/
namespace Go.Tr
open Go Go.Proofs
set_option maxRecDepth 20000
set_option maxHeartbeats 8000000

def firstOf : List Int → Int
  | []=>0
  | x :: r=>if x = 0 then firstOf r else x
theorem firstOf_drop (l : List Int) (k : Nat) (h : k < l.length) : firstOf (l.drop k) = if l.getD k 0 = 0 then firstOf (l.drop (k+1)) else l.getD k 0 := by
  rw [List.drop_eq_getElem_cons h,firstOf]; simp [List.getD,h]
def ints (l : List Int) : AV := .rslice 1 l.length fun i=>[i64 (l.getD i 0)]
theorem endi {a b : Int} (h : a = b) : i64 a = i64 b := congrArg (fun x=>i64 x) h
theorem endb {a b : Bool} (h : a = b) : vb a = vb b := congrArg (fun x=>vb x) h
theorem first2 (a b : Int) : firstOf [a,b] = if a ≠ 0 then a else b := by
 unfold firstOf firstOf firstOf
 by_cases h : a = 0
 ·subst h; by_cases h2 : b = 0 <;> simp [h2]
 ·simp [h]
theorem first3 (a b c : Int) : firstOf [a,b,c] = if a ≠ 0 then a else if b ≠ 0 then b else c := by
 unfold firstOf
 by_cases h : a = 0
 ·rw [if_pos h,if_neg (by simpa using h)]; exact first2 b c
 ·rw [if_neg h,if_pos h]

def win (x a b : Int) : Bool := decide (a ≤ x ∧ x ≤ b)
theorem S75 (x a b : Int) : SP 75 [i64 x,i64 a,i64 b] (vb (win x a b)) false := by
 refine sound (d := 2) tok2 mixed2 Tryz.func75 (by kernel_rfl) (by kernel_rfl) ?_
 unfold win
 (conv=>whnf); refine ifB_dec (fun w1=>?_) (fun w1=>?_)
 ·(conv=>whnf); refine ⟨?_,nofun⟩
  exact endb (decide_eq_decide.2 ⟨fun h=>⟨w1,h⟩,fun h=>h.2⟩)
 ·(conv=>whnf); refine ⟨?_,nofun⟩
  exact endb (decide_eq_false fun h=>w1 h.1).symm
theorem S36 (x a b : Int) : SP 36 [i64 x,i64 a,i64 b] (vb (win x a b)) false := by
 refine sound (d := 2) tok2 mixed2 Tryz.func36 (by kernel_rfl) (by kernel_rfl) ?_
 unfold win
 (conv=>whnf); refine ifB_dec (fun w1=>?_) (fun w1=>?_)
 ·(conv=>whnf); refine ⟨?_,nofun⟩
  exact endb (decide_eq_decide.2 ⟨fun h=>⟨w1,h⟩,fun h=>h.2⟩)
 ·(conv=>whnf); refine ⟨?_,nofun⟩
  exact endb (decide_eq_false fun h=>w1 h.1).symm
theorem S140 (x b : Int) (h1 : -9223372036854775807 ≤ b ∧ b ≤ 9223372036854775807) : SP 140 [i64 x,i64 b] (vb (win x (-b) b)) false := by
 have h := S75 x (-b) b
 refine sound (d := 2) tok2 mixed2 Tryz.func140 (by kernel_rfl) (by kernel_rfl) ?_
 (conv=>whnf); refine ⟨inK64 (by omega) (by omega),?_⟩
 (conv=>whnf); refine .inl ⟨_,_,byX rfl (Sound1.pl (h) rfl),?_⟩
 (conv=>whnf); refine ⟨?_,nofun⟩
 rfl
theorem S78 (c : Bool) (e : Int) : SP 78 [vb c,i64 e] (i64 (if c then 0 else e)) false := by
 refine sound (d := 2) tok2 mixed2 Tryz.func78 (by kernel_rfl) (by kernel_rfl) ?_
 cases c with
 | true =>
  (conv=>whnf); refine ⟨?_,nofun⟩
  rfl
 | false =>
  (conv=>whnf); refine ⟨?_,nofun⟩
  rfl
theorem S76 (l : List Int) (hl : l.length ≤ 1000000000) : SP 76 [ints l] (i64 (firstOf l)) false := by
 refine sound (d := 2) tok2 mixed2 Tryz.func76 (by kernel_rfl) (by kernel_rfl) ?_
 (conv=>whnf); refine ⟨[],[5,6,7],fun st mq=>∃ (k : Nat),(k ≤ l.length) ∧ (firstOf (l.drop k) = firstOf l) ∧ st = ⟨[(5,ints l),(6,i64 l.length),(7,i64 k)],⟨[],[],none,0⟩,[]⟩ ∧ mq = l.length - k,
  ⟨_,_,⟨0,by omega,rfl,rfl,rfl⟩,⟨⟨.inl rfl,rfl,rfl,rfl⟩,trivial,trivial⟩⟩,?_⟩
 rintro s0 m0 ⟨k,hk,hf,rfl,hmeas⟩
 by_cases hlt : k < l.length
 ·have hd := firstOf_drop l k hlt
  conv=>whnf
  (conv=>whnf); refine ifB_dec (fun w1=>?_) (fun w1=>?_)
  ·conv=>whnf
   (conv=>whnf); refine ⟨⟨(by omega),(by omega)⟩,?_⟩
   conv=>whnf
   (conv=>whnf); refine ifB_bne (fun w2=>?_) (fun w2=>?_)
   ·conv=>whnf
    (conv=>whnf); refine ⟨?_,nofun⟩
    rw [if_neg (show ¬ l.getD k 0 = 0 from w2)] at hd
    show i64 _ = i64 _
    rw [← hf,hd]; rfl
   ·conv=>whnf
    (conv=>whnf); refine ⟨inK64 (by omega) (by omega),?_⟩
    rw [if_pos (show l.getD k 0 = 0 from w2)] at hd
    conv=>whnf
    (conv=>whnf); refine ⟨_,_,⟨⟨k + 1,by omega,hd.symm.trans hf,rfl,rfl⟩,by omega⟩,⟨⟨.inl rfl,rfl,rfl,rfl⟩,trivial,trivial⟩⟩
  ·(exfalso; omega)
 ·have e : k = l.length := by omega
  subst e
  conv=>whnf
  (conv=>whnf); refine ifB_dec (fun w1=>?_) (fun w1=>?_)
  ·(exfalso; omega)
  ·conv=>whnf
   (conv=>whnf); refine ⟨?_,nofun⟩
   simp [firstOf] at hf
   show i64 _ = i64 _
   rw [← hf]
end Go.Tr

/- Values equal in depth. Conditions: none. -/
namespace Go.Tr
open Go
variable [GTab]

def AVF : Nat → AV → AV → Prop
 | 0,_,_=>False
 | n + 1,.rslice es len f,.rslice es' len' g=>es = es' ∧ len = len' ∧ ∀ i,i < len → (f i).length = (g i).length ∧ ∀ j x y,nth? (f i) j = some x → nth? (g i) j = some y → x = y ∨ AVF n x y
 | _ + 1,.eslice,.rslice _ len _=>len = 0
 | n + 1,.agg l,.agg l'=>l.length = l'.length ∧ ∀ i x y,nth? l i = some x → nth? l' i = some y → x = y ∨ AVF n x y
 | n + 1,.tuple l,.tuple l'=>l.length = l'.length ∧ ∀ i x y,nth? l i = some x → nth? l' i = some y → x = y ∨ AVF n x y
 | _ + 1,x,y=>x = y
theorem AVF_ok {P : Program} {w : World} {p : Nat → Prop} : ∀ (k : Nat) {x y : AV} {v : Value},AVF k x y → VT P w p x v → VT P w p y v
 | 0,x,y,v,h,_=>h.elim
 | k + 1, x, y, v, h, hx => by
  have eqc : x = y → VT P w p y v := fun e=>e ▸ hx
  have list : ∀ (l l' : List AV) (vs : Array Value),l.length = l'.length → (∀ i x y,nth? l i = some x → nth? l' i = some y → x = y ∨ AVF k x y) → (∀ i x,l[i]? = some x → VT P w p x (vs.getD i undef)) → ∀ i x,l'[i]? = some x → VT P w p x (vs.getD i undef) := by
   intro l l' vs hl he hv i x hi
   have hlt : i < l.length := by rw [hl]; exact (List.getElem?_eq_some_iff.1 hi).1
   have hvi := hv i _ (List.getElem?_eq_getElem hlt)
   rcases he i _ _ (by rw [nth?_eq]; exact List.getElem?_eq_getElem hlt) (by rw [nth?_eq]; exact hi) with e | e
   ·rw [← e]; exact hvi
   ·exact AVF_ok k e hvi
  cases x with
  | rslice es len f =>
   cases y with
   | rslice es' len' g =>
    obtain ⟨rfl,rfl,hf⟩ := h
    cases hx with
    | rslice0=>exact .rslice0 _ _ _ _
    | rslice _ _ _ b off kk gg h1 h2 h3 h4 h5 =>
     refine .rslice _ _ _ b off kk gg h1 h2 (fun i hi=>by rw [← (hf i hi).1]; exact h3 i hi) h4 (fun i j y hi hy=>?_)
     have hl := (hf i hi).1
     have hlt : j < (f i).length := by rw [hl]; exact (List.getElem?_eq_some_iff.1 hy).1
     have hvi := h5 i j _ hi (List.getElem?_eq_getElem hlt)
     rcases (hf i hi).2 j _ y (by rw [nth?_eq]; exact List.getElem?_eq_getElem hlt) (by rw [nth?_eq]; exact hy) with e | e
     ·rw [← e]; exact hvi
     ·exact AVF_ok k e hvi
   | _=>exact eqc h
  | eslice =>
   cases y with
   | rslice es' len' g =>
    have h : len' = 0 := h
    subst h
    cases hx with
    | eslice a=>exact .rslice0 _ _ _ _
   | _=>exact eqc h
  | agg l =>
   cases y with
   | agg l' =>
    obtain ⟨h1,h2⟩ := h
    cases hx with
    | agg _ vs g1 g2 g3=>exact .agg l' vs (by rw [← h1]; exact g1) g2 (list l l' vs h1 h2 g3)
   | _=>exact eqc h
  | tuple l =>
   cases y with
   | tuple l' =>
    obtain ⟨h1,h2⟩ := h
    cases hx with
    | tuple _ vs g1 g3=>exact .tuple l' vs (by rw [← h1]; exact g1) (list l l' vs h1 h2 g3)
   | _=>exact eqc h
  | _=>cases y <;> exact eqc h
theorem Sound1.argsD {P : Program} {f : FuncId} {xs ys : List AV} {r : AV} {fr : Bool} (h : Sound1 P f xs r fr) (hl : ys.length = xs.length) (hx : ∀ i y x,nth? ys i = some y → nth? xs i = some x → y = x ∨ ∃ k,AVF k y x) : Sound1 P f ys r fr := by
 refine ⟨h.1,fun w q vs hq hg hs hv=>h.2 w q vs hq hg (hs.trans hl) fun i x hi=>?_⟩
 have hlt : i < ys.length := by rw [hl]; exact (List.getElem?_eq_some_iff.1 hi).1
 have hvi := hv i _ (List.getElem?_eq_getElem hlt)
 rcases hx i _ x (by rw [nth?_eq]; exact List.getElem?_eq_getElem hlt) (by rw [nth?_eq]; exact hi) with e | ⟨k,hk⟩
 ·rw [← e]; exact hvi
 ·exact AVF_ok k hk hvi
theorem AVF_rows {es n n' : Nat} {f g : Nat → List AV} (hn : n = n') (h : ∀ i,i < n → f i = g i) (k : Nat) : AVF (k + 1) (.rslice es n f) (.rslice es n' g) := by
 refine ⟨rfl,hn,fun i hi=>⟨by rw [h i hi],fun j x y hx hy=>.inl ?_⟩⟩
 rw [h i hi] at hx
 exact Option.some.inj (hx.symm.trans hy)
end Go.Tr

/- Contracts of chapter 6: gates and rules. Conditions: none. -/
namespace Go.Tr
open Go Go.Proofs
set_option maxRecDepth 20000
set_option maxHeartbeats 8000000

theorem S76_2 (a b : Int) {f : Nat → List AV} (h : f 0 = [i64 a] ∧ f 1 = [i64 b]) : SP 76 [.rslice 1 2 f] (i64 (firstOf [a,b])) false := by
 have key : ∀ i,i < 2 → f i = [i64 (([a,b] : List Int).getD i 0)] := fun i hi=>by
  match i,hi with
  | 0,_=>exact h.1
  | 1,_=>exact h.2
 refine (S76 [a,b] (by simp)).argsD rfl fun i y x hy hx=>?_
 match i,hy,hx with
 | 0,hy,hx=>cases hy; cases hx; exact .inr ⟨1,AVF_rows rfl key 0⟩
theorem S76_3 (a b c : Int) {f : Nat → List AV} (h : f 0 = [i64 a] ∧ f 1 = [i64 b] ∧ f 2 = [i64 c]) : SP 76 [.rslice 1 3 f] (i64 (firstOf [a,b,c])) false := by
 have key : ∀ i,i < 3 → f i = [i64 (([a,b,c] : List Int).getD i 0)] := fun i hi=>by
  match i,hi with
  | 0,_=>exact h.1
  | 1,_=>exact h.2.1
  | 2,_=>exact h.2.2
 refine (S76 [a,b,c] (by simp)).argsD rfl fun i y x hy hx=>?_
 match i,hy,hx with
 | 0,hy,hx=>cases hy; cases hx; exact .inr ⟨1,AVF_rows rfl key 0⟩
structure Gt where
 a : Int
 l : Int
 h : Int
 r : Int
structure Ru where
 b : Int
 n : Int
 d : Int
 s : Int
def gateE (g : Gt) : Int :=
  if (0 ≤ g.l ∧ g.l ≤ 10000) ∧ (0 ≤ g.h ∧ g.h ≤ 10000) ∧ (0 ≤ g.a ∧ g.a ≤ 10000) ∧ (1 ≤ g.r ∧ g.r ≤ 10000) then (if g.l ≤ g.h then (if g.l ≤ g.a ∧ g.a ≤ g.h then 0 else 22) else 9) else 2
def rulesE (r : Ru) : Int := if (0 ≤ r.b ∧ r.b ≤ 100000) ∧ (0 ≤ r.n ∧ r.n ≤ 1000) ∧ (1 ≤ r.d ∧ r.d ≤ 1000) ∧ (0 ≤ r.s ∧ r.s ≤ 10000) then 0 else 2
end Go.Tr

/- Contracts of chapter 6: the wanted position, steps of a gate. Conditions: none. -/
namespace Go.Tr
open Go Go.Proofs
set_option maxRecDepth 20000
set_option maxHeartbeats 8000000

theorem ave_tup2 {k : Nat} {a b a' b' : AV} (ha : AVE k a a') (hb : AVE k b b') : AVE (k + 1) (.tuple [a,b]) (.tuple [a',b']) := by
 refine ⟨rfl,fun i x y hx hy=>?_⟩
 match i,hx,hy with
 | 0,hx,hy=>cases hx; cases hy; exact ha
 | 1,hx,hy=>cases hx; cases hy; exact hb
theorem ave_tup3 {k : Nat} {a b c a' b' c' : AV} (ha : AVE k a a') (hb : AVE k b b') (hc : AVE k c c') : AVE (k + 1) (.tuple [a,b,c]) (.tuple [a',b',c']) := by
 refine ⟨rfl,fun i x y hx hy=>?_⟩
 match i,hx,hy with
 | 0,hx,hy=>cases hx; cases hy; exact ha
 | 1,hx,hy=>cases hx; cases hy; exact hb
 | 2,hx,hy=>cases hx; cases hy; exact hc
theorem ave_agg2 {k : Nat} {a b a' b' : AV} (ha : AVE k a a') (hb : AVE k b b') : AVE (k + 1) (.agg [a,b]) (.agg [a',b']) := by
 refine ⟨rfl,fun i x y hx hy=>?_⟩
 match i,hx,hy with
 | 0,hx,hy=>cases hx; cases hy; exact ha
 | 1,hx,hy=>cases hx; cases hy; exact hb
structure GtOk (g : Gt) : Prop where
 l : 0 ≤ g.l ∧ g.l ≤ 10000
 h : 0 ≤ g.h ∧ g.h ≤ 10000
 a : 0 ≤ g.a ∧ g.a ≤ 10000
 r : 1 ≤ g.r ∧ g.r ≤ 10000
 lh : g.l ≤ g.h
 la : g.l ≤ g.a ∧ g.a ≤ g.h
theorem GtOk.of {g : Gt} (h : gateE g = 0) : GtOk g := by
 unfold gateE at h
 (repeat' split at h) <;> first | omega | skip
 rename_i h1 h2 h3
 exact ⟨h1.1,h1.2.1,h1.2.2.1,h1.2.2.2,h2,h3⟩
structure RuOk (r : Ru) : Prop where
 b : 0 ≤ r.b ∧ r.b ≤ 100000
 n : 0 ≤ r.n ∧ r.n ≤ 1000
 d : 1 ≤ r.d ∧ r.d ≤ 1000
 s : 0 ≤ r.s ∧ r.s ≤ 10000
theorem RuOk.of {r : Ru} (h : rulesE r = 0) : RuOk r := by
 unfold rulesE at h
 split at h
 ·rename_i h1; exact ⟨h1.1,h1.2.1,h1.2.2.1,h1.2.2.2⟩
 ·omega
end Go.Tr

/- The law GovernorGates returns true. Conditions: none. -/
/- Contracts of chapter 6: lists of numbers; each one checked; runs of a gate. Conditions: none. -/
/- Contracts of chapter 6: valid polynomials; entries; the greatest common divisor. Conditions: none. -/
namespace Go.Tr
open Go Go.Proofs
set_option maxRecDepth 20000
set_option maxHeartbeats 8000000

theorem tmod_lt {a b : Int} (h : b ≠ 0) : (a.tmod b).natAbs < b.natAbs := by
  rw [Int.natAbs_tmod]
  exact Nat.mod_lt _ (by omega)
theorem S129 (x : Int) (h : -9223372036854775807 ≤ x ∧ x ≤ 9223372036854775807) : SP 129 [i64 x] (i64 (x.natAbs : Nat)) false := by
 refine sound (d := 2) tok2 mixed2 Tryz.func129 (by kernel_rfl) (by kernel_rfl) ?_
 (conv=>whnf); refine ⟨inK64 (by omega) (by omega),?_⟩
 (conv=>whnf); refine ⟨?_,nofun⟩
 exact endi (by split <;> omega)
end Go.Tr

/- Plain laws: whole numbers of any size as digits to the base 10^9. Conditions: none. -/
namespace Go.Tr
open Go Go.Proofs
set_option maxRecDepth 20000
set_option maxHeartbeats 8000000

def digs (n : Nat) : List Int := if h : n = 0 then [] else ((n % 1000000000 : Nat) : Int) :: digs (n / 1000000000)
termination_by n
decreasing_by omega
theorem digs0 : digs 0 = [] := by rw [digs]; rfl
theorem digs_pos {n : Nat} (h : n ≠ 0) : digs n = ((n % 1000000000 : Nat) : Int) :: digs (n / 1000000000) := by
  rw [digs,dif_neg h]
theorem digs_ind {p : Nat → Prop} (h0 : p 0) (hs : ∀ n,n ≠ 0 → p (n / 1000000000) → p n) : ∀ n,p n := by
 intro n
 induction n using Nat.strongRecOn with
 | _ n ih =>
  by_cases h : n = 0
  ·rw [h]; exact h0
  ·exact hs n h (ih _ (by omega))
theorem digs_mono : ∀ n m : Nat,m ≤ n → (digs m).length ≤ (digs n).length := digs_ind (fun m h=>by rw [show m = 0 by omega]; exact Nat.le_refl _) fun n h ih m hm=>by
 by_cases h0 : m = 0
 ·rw [h0,digs0]; simp
 ·rw [digs_pos h,digs_pos h0]
  have := ih (m / 1000000000) (Nat.div_le_div_right hm)
  simpa using this
theorem drop_zero {l : List Int} {i : Nat} (h : l.drop i = digs 0) : l.length ≤ i ∧ l.getD i 0 = 0 ∧ l.drop (i + 1) = digs 0 := by
 rw [digs0] at h
 have hi : l.length ≤ i := List.drop_eq_nil_iff.1 h
 refine ⟨hi,?_,?_⟩
 ·rw [List.getD_eq_getElem?_getD,List.getElem?_eq_none hi]; rfl
 ·rw [digs0]; exact List.drop_eq_nil_of_le (by omega)
def sgI (z : Int) : Int := if z < 0 then -1 else if z = 0 then 0 else 1
end Go.Tr

/- Contracts: whole numbers of any size. Conditions: none. -/
namespace Go.Tr
open Go Go.Proofs
set_option maxRecDepth 20000
set_option maxHeartbeats 8000000

theorem digs_len : ∀ (k n : Nat),n < 1000000000 ^ k → (digs n).length ≤ k
 | 0,n,h=>by
  have : n = 0 := by simpa using h
  rw [this,digs0]; simp
 | k + 1, n, h => by
  by_cases h0 : n = 0
  ·rw [h0,digs0]; simp
  ·rw [digs_pos h0]
   have := digs_len k (n / 1000000000) (by rw [Nat.pow_succ] at h; exact Nat.div_lt_of_lt_mul (by rw [Nat.mul_comm]; exact h))
   simpa using this
theorem digs_lt : ∀ n : Nat,n < 1000000000 ^ (digs n).length := digs_ind (by rw [digs0]; decide) fun n h ih=>by
  rw [digs_pos h,List.length_cons,Nat.pow_succ]
  omega
def Wd (z : Int) : Prop := (digs z.natAbs).length ≤ 100
theorem digs_add_len (m n : Nat) : (digs (m + n)).length ≤ max (digs m).length (digs n).length + 1 := by
 refine digs_len _ _ ?_
 have h1 := digs_lt m
 have h2 := digs_lt n
 have h3 : (1000000000 : Nat) ^ (digs m).length ≤ 1000000000 ^ max (digs m).length (digs n).length := Nat.pow_le_pow_right (by decide) (Nat.le_max_left _ _)
 have h4 : (1000000000 : Nat) ^ (digs n).length ≤ 1000000000 ^ max (digs m).length (digs n).length := Nat.pow_le_pow_right (by decide) (Nat.le_max_right _ _)
 rw [Nat.pow_succ]
 omega
theorem sg_cases (z : Int) : (z < 0 ∧ sgI z = -1) ∨ (z = 0 ∧ sgI z = 0) ∨ (0 < z ∧ sgI z = 1) := by
  unfold sgI
  (repeat' split) <;> omega
theorem Wd.neg {z : Int} (h : Wd z) : Wd (-z) := by
  unfold Wd at h ⊢
  rwa [show (-z).natAbs = z.natAbs by omega]
end Go.Tr

/- Contracts: products of whole numbers of any size. Conditions: none. -/
/- Contracts: whole parts of quotients. Conditions: none. Printed by gen166.py. -/
/- Contracts: fractions of whole numbers of any size. Conditions: none. -/
namespace Go.Tr
open Go Go.Proofs
set_option maxRecDepth 20000
set_option maxHeartbeats 8000000

theorem Wd.le {a b : Int} (h : Wd b) (hl : a.natAbs ≤ b.natAbs) : Wd a := Nat.le_trans (digs_mono _ _ hl) h
theorem div_num {n d : Int} (hd : 0 < d) : (Rat.divInt n d).num = n / (Int.gcd n d : Nat) := by
  rw [Rat.num_divInt,Int.sign_eq_one_of_pos hd,Int.one_mul,Int.gcd_comm]
theorem div_den {n d : Int} (hd : 0 < d) : ((Rat.divInt n d).den : Int) = d / (Int.gcd n d : Nat) := by
 rw [Rat.den_divInt,if_neg (by omega),Int.gcd_comm,Int.natCast_ediv]
 congr 1
 omega
end Go.Tr

/- Plain laws: sizes of fractions. Conditions: none. -/
namespace Go.Tr
open Go Go.Proofs
set_option maxRecDepth 20000
set_option maxHeartbeats 8000000

def Rk (k : Nat) (q : Rat) : Prop := (digs q.num.natAbs).length ≤ k ∧ (digs q.den).length ≤ k
theorem digs_mul (m n : Nat) : (digs (m * n)).length ≤ (digs m).length + (digs n).length :=
  digs_len _ _ (by rw [Nat.pow_add]; exact Nat.mul_lt_mul'' (digs_lt m) (digs_lt n))
theorem div_num_le {n d : Int} (hd : d ≠ 0) : (Rat.divInt n d).num.natAbs ≤ n.natAbs := by
 rw [Rat.num_divInt]
 refine Nat.le_trans (Int.natAbs_ediv_le_natAbs _ _) ?_
 rw [Int.natAbs_mul,Int.natAbs_sign_of_ne_zero hd,Nat.one_mul]
 exact Nat.le_refl _
theorem div_den_le {n d : Int} (hd : d ≠ 0) : (Rat.divInt n d).den ≤ d.natAbs := by
  rw [Rat.den_divInt,if_neg hd]
  exact Nat.div_le_self _ _
theorem Rk.mono {k l : Nat} {q : Rat} (h : Rk k q) (hl : k ≤ l) : Rk l q := ⟨Nat.le_trans h.1 hl,Nat.le_trans h.2 hl⟩
theorem Rk.of {k : Nat} {n d : Int} (hd : d ≠ 0) (h1 : (digs n.natAbs).length ≤ k) (h2 : (digs d.natAbs).length ≤ k) : Rk k (Rat.divInt n d) :=
  ⟨Nat.le_trans (digs_mono _ _ (div_num_le hd)) h1,Nat.le_trans (digs_mono _ _ (div_den_le hd)) h2⟩
def Zk (k : Nat) (z : Int) : Prop := (digs z.natAbs).length ≤ k
theorem Zk.mul {k l : Nat} {a b : Int} (ha : Zk k a) (hb : Zk l b) : Zk (k + l) (a * b) := by
 unfold Zk at *
 rw [Int.natAbs_mul]
 have := digs_mul a.natAbs b.natAbs
 omega
theorem Zk.add {k : Nat} {a b : Int} (ha : Zk k a) (hb : Zk k b) : Zk (k + 1) (a + b) := by
 unfold Zk at *
 have h1 := digs_add_len a.natAbs b.natAbs
 have h2 := digs_mono _ _ (Int.natAbs_add_le a b)
 omega
theorem Zk.small {z : Int} {k : Nat} (h : z.natAbs < 1000000000 ^ k) : Zk k z := digs_len k _ h
theorem Rk.num {k : Nat} {q : Rat} (h : Rk k q) : Zk k q.num := h.1
theorem Rk.den {k : Nat} {q : Rat} (h : Rk k q) : Zk k (q.den : Nat) := by
 unfold Zk
 rw [Int.natAbs_natCast]
 exact h.2
theorem Rk.divI {k : Nat} {n d : Int} (hd : d ≠ 0) (h1 : Zk k n) (h2 : Zk k d) : Rk k (Rat.divInt n d) := Rk.of hd h1 h2
theorem rat_add (p q : Rat) : p + q = Rat.divInt (p.num * (q.den : Nat) + q.num * (p.den : Nat)) ((p.den : Nat) * (q.den : Nat)) := by
 rw [Rat.add_def',← Rat.divInt_ofNat]
 push_cast
 rfl
theorem rat_mul (p q : Rat) : p * q = Rat.divInt (p.num * q.num) ((p.den : Nat) * (q.den : Nat)) := by
 rw [Rat.mul_def',← Rat.divInt_ofNat]
 push_cast
 rfl
theorem den_pos (q : Rat) : 0 < (q.den : Int) := by have := q.den_pos; omega
theorem Rk.add {k l : Nat} {p q : Rat} (hp : Rk k p) (hq : Rk l q) : Rk (k + l + 1) (p + q) := by
 rw [rat_add]
 have hd : ((p.den : Nat) * (q.den : Nat) : Int) ≠ 0 := Int.ne_of_gt (Int.mul_pos (den_pos p) (den_pos q))
 refine Rk.divI hd ?_ ?_
 ·have h1 := hp.num.mul hq.den
  have h2 := hq.num.mul hp.den
  rw [Nat.add_comm l k] at h2
  exact h1.add h2
 ·exact Nat.le_trans (hp.den.mul hq.den) (Nat.le_succ _)
theorem Rk.mul {k l : Nat} {p q : Rat} (hp : Rk k p) (hq : Rk l q) : Rk (k + l) (p * q) := by
  rw [rat_mul]
  exact Rk.divI (Int.ne_of_gt (Int.mul_pos (den_pos p) (den_pos q))) (hp.num.mul hq.num) (hp.den.mul hq.den)
theorem Rk.neg {k : Nat} {p : Rat} (hp : Rk k p) : Rk k (-p) := by
 refine ⟨?_,hp.2⟩
 rw [Rat.neg_num,Int.natAbs_neg]
 exact hp.1
theorem Rk.sub {k l : Nat} {p q : Rat} (hp : Rk k p) (hq : Rk l q) : Rk (k + l + 1) (p - q) := by
  rw [Rat.sub_eq_add_neg]
  exact hp.add hq.neg
theorem cmp_zero (p q : Rat) : p.num * (q.den : Nat) - q.num * (p.den : Nat) = 0 ↔ p = q := by
  rw [Rat.eq_iff_mul_eq_mul]
  omega
theorem cmp_neg (p q : Rat) : p.num * (q.den : Nat) - q.num * (p.den : Nat) < 0 ↔ p < q := by
  rw [Rat.lt_iff]
  omega
end Go.Tr

/- Plain laws: fractions in lowest terms. Conditions: none. (In chapter 5 in the place of TrSX.) -/
namespace Go.Tr
open Go Go.Proofs
set_option maxRecDepth 20000
set_option maxHeartbeats 8000000

def gcdI (a b : Int) : Int := (Nat.gcd a.natAbs b.natAbs : Nat)
def fracG (a b : Int) : Int × Int := (a.tdiv (gcdI a b),b.tdiv (gcdI a b))
theorem gcdI_pos {a b : Int} (h : 0 < b) : 0 < gcdI a b ∧ gcdI a b ≤ b ∧ gcdI a b ∣ a ∧ gcdI a b ∣ b := by
 unfold gcdI
 have h1 : 0 < b.natAbs := by omega
 have h2 := Nat.gcd_pos_of_pos_right a.natAbs h1
 have h3 := Nat.gcd_le_right a.natAbs h1
 refine ⟨by omega,by omega,?_,?_⟩
 ·exact Int.ofNat_dvd_left.2 (Nat.gcd_dvd_left _ _)
 ·exact Int.ofNat_dvd_left.2 (Nat.gcd_dvd_right _ _)
theorem frac_parts {a b : Int} (hb : 0 < b) : ∃ g,0 < g ∧ gcdI a b = g ∧ a = g * (fracG a b).1 ∧ b = g * (fracG a b).2 := by
 obtain ⟨hg,_,⟨k1,e1⟩,⟨k2,e2⟩⟩ := gcdI_pos (a := a) hb
 refine ⟨gcdI a b,hg,rfl,?_,?_⟩
 ·show a = gcdI a b * a.tdiv (gcdI a b)
  conv=>rhs; rhs; lhs; rw [e1]
  rw [Int.mul_tdiv_cancel_left _ (by omega)]
  exact e1
 ·show b = gcdI a b * b.tdiv (gcdI a b)
  conv=>rhs; rhs; lhs; rw [e2]
  rw [Int.mul_tdiv_cancel_left _ (by omega)]
  exact e2
theorem divInt_int (a : Int) {d : Int} (hd : d ≠ 0) : Rat.divInt (a * d) d = (a : Rat) := by
 have h := Rat.divInt_mul_right (n := a) (d := 1) hd
 rw [Int.one_mul] at h
 rw [h]
 show Rat.divInt a ((1 : Nat) : Int) = _
 rw [Rat.divInt_ofNat]
 exact Rat.mkRat_self (a : Rat)
abbrev gaF (f : Int × Int) : AV := .agg [i64 f.1,i64 f.2]
end Go.Tr

/- Contracts: sums, products and comparisons of fractions of any size. Conditions: none. -/
namespace Go.Tr
open Go Go.Proofs
set_option maxRecDepth 20000
set_option maxHeartbeats 8000000

def cmpR (p q : Rat) : Int := sgI (p.num * (q.den : Nat) - q.num * (p.den : Nat))
theorem cmpR_zero (p q : Rat) : cmpR p q = 0 ↔ p = q := by
 rw [← cmp_zero p q]
 unfold cmpR
 have := sg_cases (p.num * (q.den : Nat) - q.num * (p.den : Nat))
 omega
theorem cmpR_neg (p q : Rat) : cmpR p q < 0 ↔ p < q := by
 rw [← cmp_neg p q]
 unfold cmpR
 have := sg_cases (p.num * (q.den : Nat) - q.num * (p.den : Nat))
 omega
end Go.Tr

/- Plain laws: lists in strict order, each item once. Conditions: none. -/
namespace Go.Tr
open Go
section
variable {α : Type} [DecidableEq α]

def compS (o : List α) (x : α) : List α := if o.getLast? = some x then o else o ++ [x]
def compL (l : List α) : List α := l.foldl compS []
theorem compL_snoc (l : List α) (x : α) : compL (l ++ [x]) = compS (compL l) x := by simp [compL]
theorem compS_last (o : List α) (x : α) : (compS o x).getLast? = some x := by
 unfold compS
 split
 ·assumption
 ·simp
theorem snoc_ind {p : List α → Prop} (h0 : p []) (hs : ∀ l x,p l → p (l ++ [x])) : ∀ l,p l := by
 intro l
 induction h : l.length generalizing l with
 | zero=>rw [List.length_eq_zero_iff.1 h]; exact h0
 | succ n ih =>
  have hne : l ≠ [] := by intro e; rw [e] at h; simp at h
  rw [← List.dropLast_concat_getLast hne]
  exact hs _ _ (ih _ (by simp [h]))
theorem compL_last (l : List α) : (compL l).getLast? = l.getLast? := by
 induction l using snoc_ind with
 | h0=>rfl
 | hs l x _=>rw [compL_snoc,compS_last]; simp
theorem compL_mem (l : List α) (y : α) : y ∈ compL l ↔ y ∈ l := by
 induction l using snoc_ind with
 | h0=>exact Iff.rfl
 | hs l x ih =>
  rw [compL_snoc]
  unfold compS
  split
  ·rename_i h
   have hm : x ∈ l := (ih' l x h)
   simp only [List.mem_append,List.mem_singleton,ih]
   exact ⟨.inl,fun h=>h.elim id (fun e=>e ▸ hm)⟩
  ·simp [ih]
where ih' (l : List α) (x : α) (h : (compL l).getLast? = some x) : x ∈ l := by
        rw [compL_last] at h
        exact List.mem_of_getLast? h
theorem compL_len (l : List α) : (compL l).length ≤ l.length := by
 induction l using snoc_ind with
 | h0=>exact Nat.le_refl _
 | hs l x ih =>
  rw [compL_snoc]
  unfold compS
  split <;> simp <;> omega
theorem compL_sorted {le : α → α → Prop} (anti : ∀ a b,le a b → le b a → a = b) (tr : ∀ a b c,le a b → le b c → le a c) (l : List α) (h : l.Pairwise le) : (compL l).Pairwise fun a b=>le a b ∧ a ≠ b := by
 induction l using snoc_ind with
 | h0=>exact List.Pairwise.nil
 | hs l x ih =>
  rw [List.pairwise_append] at h
  have ih := ih h.1
  rw [compL_snoc]
  unfold compS
  split
  ·exact ih
  ·rename_i hne
   rw [List.pairwise_append]
   refine ⟨ih,List.pairwise_singleton _ _,fun a ha b hb=>?_⟩
   rw [List.mem_singleton.1 hb]
   have hax := h.2.2 a ((compL_mem l a).1 ha) x (by simp)
   refine ⟨hax,fun e=>hne ?_⟩
   subst e
   -- a is the last one: everything behind it lies between a and a
   cases hl : (compL l).getLast? with
   | none =>
    rw [List.getLast?_eq_none_iff] at hl
    rw [hl] at ha; cases ha
   | some z =>
    have hz : z ∈ compL l := List.mem_of_getLast? hl
    by_cases hza : z = a
    ·rw [hza]
    ·exfalso
     have h1 := h.2.2 z ((compL_mem l z).1 hz) a (by simp)
     -- a stands ahead of z
     have h2 : le a z := by
      obtain ⟨r,hr⟩ : ∃ r,compL l = r ++ [z] := by
       obtain ⟨ys,hys⟩ := List.getLast?_eq_some_iff.1 hl
       exact ⟨ys,hys⟩
      rw [hr,List.pairwise_append] at ih
      rw [hr] at ha
      rcases List.mem_append.1 ha with ha | ha
      ·exact (ih.2.2 a ha z (by simp)).1
      ·exact absurd (List.mem_singleton.1 ha).symm hza
     exact hza (anti _ _ h1 h2)
theorem sorted_ext {lt : α → α → Prop} (irr : ∀ a,¬ lt a a) (tr : ∀ a b c,lt a b → lt b c → lt a c) : ∀ {l m : List α},l.Pairwise lt → m.Pairwise lt → (∀ x,x ∈ l ↔ x ∈ m) → l = m
 | [],[],_,_,_=>rfl
 | [],y :: m,_,_,h=>absurd ((h y).2 (by simp)) (by simp)
 | x :: l,[],_,_,h=>absurd ((h x).1 (by simp)) (by simp)
 | x :: l, y :: m, hl, hm, h => by
  rw [List.pairwise_cons] at hl hm
  have e : x = y := by
   rcases List.mem_cons.1 ((h x).1 (by simp)) with e | hx
   ·exact e
   ·rcases List.mem_cons.1 ((h y).2 (by simp)) with e | hy
    ·exact e.symm
    ·exact absurd (tr _ _ _ (hl.1 y hy) (hm.1 x hx)) (irr x)
  subst e
  have hl2 : l = m := sorted_ext irr tr hl.2 hm.2 fun z=>by
   constructor
   ·intro hz
    rcases List.mem_cons.1 ((h z).1 (by simp [hz])) with e | hz'
    ·exact absurd (e ▸ hl.1 z hz) (irr _)
    ·exact hz'
   ·intro hz
    rcases List.mem_cons.1 ((h z).2 (by simp [hz])) with e | hz'
    ·exact absurd (e ▸ hm.1 z hz) (irr _)
    ·exact hz'
  rw [hl2]
def putL (lt : α → α → Prop) [DecidableRel lt] : List α → α → List α
  | [],x=>[x]
  | y :: l,x=>if lt y x then y :: putL lt l x else if y = x then y :: l else x :: y :: l
variable {lt : α → α → Prop} [DecidableRel lt]
theorem putL_mem (l : List α) (x z : α) : z ∈ putL lt l x ↔ z = x ∨ z ∈ l := by
 induction l with
 | nil=>simp [putL]
 | cons y l ih =>
  unfold putL
  split
  ·rw [List.mem_cons,ih,List.mem_cons]
   constructor
   ·rintro (h | h | h)
    ·exact .inr (.inl h)
    ·exact .inl h
    ·exact .inr (.inr h)
   ·rintro (h | h | h)
    ·exact .inr (.inl h)
    ·exact .inl h
    ·exact .inr (.inr h)
  ·split
   ·rename_i e
    subst e
    simp
   ·simp
theorem putL_sorted (tr : ∀ a b c,lt a b → lt b c → lt a c) (tri : ∀ a b,lt a b ∨ a = b ∨ lt b a) : ∀ {l : List α} (x : α),l.Pairwise lt → (putL lt l x).Pairwise lt
 | [],x,_=>List.pairwise_singleton _ _
 | y :: l, x, h => by
  rw [List.pairwise_cons] at h
  unfold putL
  split
  ·rename_i hyx
   rw [List.pairwise_cons]
   refine ⟨fun z hz=>?_,putL_sorted tr tri x h.2⟩
   rcases (putL_mem l x z).1 hz with e | hz
   ·rw [e]; exact hyx
   ·exact h.1 z hz
  ·split
   ·exact List.pairwise_cons.2 h
   ·rename_i hn hne
    have hxy : lt x y := by
     rcases tri x y with h | h | h
     ·exact h
     ·exact absurd h.symm hne
     ·exact absurd h hn
    rw [List.pairwise_cons]
    refine ⟨fun z hz=>?_,List.pairwise_cons.2 h⟩
    rcases List.mem_cons.1 hz with e | hz
    ·rw [e]; exact hxy
    ·exact tr _ _ _ hxy (h.1 z hz)
def putAll (lt : α → α → Prop) [DecidableRel lt] (l : List α) : List α := l.foldl (putL lt) []
theorem putAll_snoc (l : List α) (x : α) : putAll lt (l ++ [x]) = putL lt (putAll lt l) x := by simp [putAll]
theorem putAll_mem (l : List α) (z : α) : z ∈ putAll lt l ↔ z ∈ l := by
 induction l using snoc_ind with
 | h0=>exact Iff.rfl
 | hs l x ih=>rw [putAll_snoc,putL_mem,ih]; simp [or_comm]
theorem putAll_sorted (tr : ∀ a b c,lt a b → lt b c → lt a c) (tri : ∀ a b,lt a b ∨ a = b ∨ lt b a) (l : List α) : (putAll lt l).Pairwise lt := by
 induction l using snoc_ind with
 | h0=>exact List.Pairwise.nil
 | hs l x ih=>rw [putAll_snoc]; exact putL_sorted tr tri x ih
theorem sort_put {l s : List α} (irr : ∀ a,¬ lt a a) (tr : ∀ a b c,lt a b → lt b c → lt a c) (tri : ∀ a b,lt a b ∨ a = b ∨ lt b a) (hp : s.Perm l) (hs : s.Pairwise fun a b=>¬ lt b a) : compL s = putAll lt l := by
 refine sorted_ext irr tr ?_ (putAll_sorted tr tri l) fun x=>?_
 ·refine List.Pairwise.imp ?_ (compL_sorted (le := fun a b=>¬ lt b a) ?_ ?_ s hs)
  ·rintro a b ⟨h1,h2⟩
   rcases tri a b with h | h | h
   ·exact h
   ·exact absurd h h2
   ·exact absurd h h1
  ·intro a b h1 h2
   rcases tri a b with h | h | h
   ·exact absurd h h2
   ·exact h
   ·exact absurd h h1
  ·intro a b c h1 h2 h3
   rcases tri a b with h | h | h
   ·exact h2 (tr _ _ _ h3 h)
   ·subst h; exact h2 h3
   ·exact h1 h
 ·rw [compL_mem,putAll_mem,hp.mem_iff]
end
end Go.Tr

/- Plain laws: sorting by insertion, for any order. Conditions: none. -/
namespace Go.Tr
open Go
section
variable {α : Type} (le : α → α → Prop) (d : α)

def SortG (a : List α) (n : Nat) : Prop := ∀ p q,p < q → q < n → le (a.getD p d) (a.getD q d)
structure SinkG (a : List α) (j n : Nat) : Prop where
 lo : ∀ p q,p < q → q < j → le (a.getD p d) (a.getD q d)
 hi : ∀ p q,j ≤ p → p < q → q < n → le (a.getD p d) (a.getD q d)
 cr : ∀ p q,p < j → j < q → q < n → le (a.getD p d) (a.getD q d)
def swapG (a : List α) (j : Nat) : List α := (a.set j (a.getD (j - 1) d)).set (j - 1) (a.getD j d)
variable {le} {d}
theorem swapG_perm {a : List α} {j : Nat} (h : j < a.length) : (swapG d a j).Perm a := by
 have h1 : j - 1 < a.length := by omega
 have e1 : a.getD (j - 1) d = a[j - 1] := by simp [List.getD_eq_getElem?_getD,h1]
 have e2 : a.getD j d = a[j] := by simp [List.getD_eq_getElem?_getD,h]
 unfold swapG
 rw [e1,e2]
 exact List.set_set_perm h h1
theorem getD_setG (l : List α) (i j : Nat) (v : α) : (l.set i v).getD j d = if j = i ∧ i < l.length then v else l.getD j d := by
 rw [List.getD_eq_getElem?_getD,List.getElem?_set,List.getD_eq_getElem?_getD]
 by_cases h : i = j
 ·subst h
  by_cases h2 : i < l.length
  ·rw [if_pos rfl,if_pos h2,if_pos ⟨rfl,h2⟩]; rfl
  ·rw [if_pos rfl,if_neg h2,if_neg (fun e=>h2 e.2),List.getElem?_eq_none (by omega)]
 ·rw [if_neg h,if_neg (fun e=>h e.1.symm)]
theorem swapG_get {a : List α} {j : Nat} (h0 : 0 < j) (h : j < a.length) (i : Nat) : (swapG d a j).getD i d = if i = j - 1 then a.getD j d else if i = j then a.getD (j - 1) d else a.getD i d := by
 unfold swapG
 rw [getD_setG,getD_setG]
 by_cases h1 : i = j - 1
 ·rw [if_pos ⟨h1,by rw [List.length_set]; omega⟩,if_pos h1]
 ·rw [if_neg (fun e=>h1 e.1),if_neg h1]
  by_cases h2 : i = j
  ·rw [if_pos ⟨h2,h⟩,if_pos h2]
  ·rw [if_neg (fun e=>h2 e.1),if_neg h2]
theorem swapG_len (a : List α) (j : Nat) : (swapG d a j).length = a.length := by simp [swapG]
theorem sinkG_swap {a : List α} {j n : Nat} (h0 : 0 < j) (h : j < a.length) (hs : SinkG le d a j n) (hlt : le (a.getD j d) (a.getD (j - 1) d)) : SinkG le d (swapG d a j) (j - 1) n := by
 have g := swapG_get (d := d) h0 h
 refine ⟨fun p q h1 h2=>?_,fun p q h1 h2 h3=>?_,fun p q h1 h2 h3=>?_⟩
 ·rw [g,g,if_neg (by omega),if_neg (by omega),if_neg (by omega),if_neg (by omega)]
  exact hs.lo p q h1 (by omega)
 ·rw [g,g]
  by_cases e1 : p = j - 1
  ·rw [if_pos e1,if_neg (show ¬ q = j - 1 by omega)]
   by_cases e2 : q = j
   ·rw [if_pos e2]; exact hlt
   ·rw [if_neg e2]
    exact hs.hi j q (Nat.le_refl _) (by omega) h3
  ·rw [if_neg e1,if_neg (show ¬ q = j - 1 by omega)]
   by_cases e2 : p = j
   ·rw [if_pos e2,if_neg (by omega)]
    exact hs.cr (j - 1) q (by omega) (by omega) h3
   ·rw [if_neg e2,if_neg (by omega)]
    exact hs.hi p q (by omega) h2 h3
 ·rw [g,g,if_neg (show ¬ p = j - 1 by omega),if_neg (show ¬ p = j by omega),if_neg (show ¬ q = j - 1 by omega)]
  by_cases e2 : q = j
  ·rw [if_pos e2]; exact hs.lo p (j - 1) (by omega) (by omega)
  ·rw [if_neg e2]; exact hs.cr p q (by omega) (by omega) h3
theorem sinkG_end (tr : ∀ a b c,le a b → le b c → le a c) {a : List α} {j n : Nat} (hs : SinkG le d a j n) (h : j = 0 ∨ le (a.getD (j - 1) d) (a.getD j d)) : SortG le d a n := fun p q h1 h2=>by
 by_cases e1 : q < j
 ·exact hs.lo p q h1 e1
 ·by_cases e2 : j ≤ p
  ·exact hs.hi p q e2 h1 h2
  ·by_cases e3 : q = j
   ·subst e3
    rcases h with h | h
    ·omega
    ·by_cases e4 : p = q - 1
     ·rw [e4]; exact h
     ·exact tr _ _ _ (hs.lo p (q - 1) (by omega) (by omega)) h
   ·exact hs.cr p q (by omega) (by omega) h2
theorem sinkG_start {a : List α} {i : Nat} (h : SortG le d a i) : SinkG le d a i (i + 1) :=
  ⟨h,fun p q h1 h2 h3=>by omega,fun p q h1 h2 h3=>by omega⟩
theorem sortG_pair {a : List α} (h : SortG le d a a.length) : a.Pairwise le := by
 rw [List.pairwise_iff_getElem]
 intro i j hi hj hij
 have := h i j hij hj
 rwa [List.getD_eq_getElem?_getD,List.getElem?_eq_getElem hi,List.getD_eq_getElem?_getD,List.getElem?_eq_getElem hj] at this
theorem compL_take [DecidableEq α] {l : List α} {p : Nat} (hp : 1 ≤ p) (h : p < l.length) : compL (l.take (p + 1)) = if l.getD p d = l.getD (p - 1) d then compL (l.take p) else compL (l.take p) ++ [l.getD p d] := by
 have e : l.take (p + 1) = l.take p ++ [l.getD p d] := by
  rw [List.getD_eq_getElem?_getD,List.getElem?_eq_getElem h]
  simp
 rw [e,compL_snoc]
 unfold compS
 have e2 : (compL (l.take p)).getLast? = some (l.getD (p - 1) d) := by
  rw [compL_last,List.getLast?_take,if_neg (by omega),List.getD_eq_getElem?_getD,List.getElem?_eq_getElem (by omega)]
  rfl
 rw [e2]
 by_cases he : l.getD p d = l.getD (p - 1) d
 ·rw [if_pos he,if_pos (congrArg some he.symm)]
 ·rw [if_neg he,if_neg (fun e=>he (Option.some.inj e).symm)]
end
end Go.Tr

/- Plain laws: the order of spots as fractions. Conditions: none. -/
namespace Go.Tr
open Go Go.Proofs
set_option maxRecDepth 20000
set_option maxHeartbeats 8000000

theorem rlt_irr (a : Rat) : ¬ a < a := by grind
theorem rlt_tr {a b c : Rat} (h1 : a < b) (h2 : b < c) : a < c := by grind
theorem rlt_tri (a b : Rat) : a < b ∨ a = b ∨ b < a := by grind
theorem cmpR_pos (p q : Rat) : 0 < cmpR p q ↔ q < p := by
 have h1 := cmpR_zero p q
 have h2 := cmpR_neg p q
 constructor
 ·intro h
  rcases rlt_tri p q with h3 | h3 | h3
  ·have := h2.2 h3; omega
  ·have := h1.2 h3; omega
  ·exact h3
 ·intro h
  have h4 : ¬ p = q := fun e=>rlt_irr _ (e ▸ h)
  have h5 : ¬ p < q := fun e=>rlt_irr _ (rlt_tr e h)
  have h6 : ¬ cmpR p q = 0 := fun e=>h4 (h1.1 e)
  have h7 : ¬ cmpR p q < 0 := fun e=>h5 (h2.1 e)
  omega
abbrev Q2 := Rat × Rat
def lt2 (a b : Q2) : Prop := a.1 < b.1 ∨ (a.1 = b.1 ∧ a.2 < b.2)
instance : DecidableRel lt2 := fun a b=>inferInstanceAs (Decidable (a.1 < b.1 ∨ (a.1 = b.1 ∧ a.2 < b.2)))
theorem lt2_irr (a : Q2) : ¬ lt2 a a := by unfold lt2; grind
theorem lt2_tr (a b c : Q2) (h1 : lt2 a b) (h2 : lt2 b c) : lt2 a c := by unfold lt2 at *; grind
theorem lt2_tri (a b : Q2) : lt2 a b ∨ a = b ∨ lt2 b a := by
 obtain ⟨a1,a2⟩ := a
 obtain ⟨b1,b2⟩ := b
 unfold lt2
 rw [Prod.mk.injEq]
 dsimp only
 have h1 := rlt_tri a1 b1
 have h2 := rlt_tri a2 b2
 grind
def cmp2 (a b : Q2) : Int := if cmpR a.1 b.1 ≠ 0 then cmpR a.1 b.1 else cmpR a.2 b.2
theorem cmp2_neg (a b : Q2) : cmp2 a b < 0 ↔ lt2 a b := by
 have h1 := cmpR_zero a.1 b.1
 have h2 := cmpR_neg a.1 b.1
 have h3 := cmpR_neg a.2 b.2
 unfold cmp2 lt2
 by_cases h : cmpR a.1 b.1 = 0
 ·rw [if_neg (not_not_intro h),h3]
  have e := h1.1 h
  constructor
  ·intro h4; exact .inr ⟨e,h4⟩
  ·rintro (h4 | h4)
   ·exact absurd (e ▸ h4) (rlt_irr _)
   ·exact h4.2
 ·rw [if_pos h,h2]
  constructor
  ·intro h4; exact .inl h4
  ·rintro (h4 | h4)
   ·exact h4
   ·exact absurd (h1.2 h4.1) h
abbrev Q3 := Rat × Rat × Rat
def lt3 (a b : Q3) : Prop := a.1 < b.1 ∨ (a.1 = b.1 ∧ lt2 a.2 b.2)
instance : DecidableRel lt3 := fun a b=>inferInstanceAs (Decidable (a.1 < b.1 ∨ (a.1 = b.1 ∧ lt2 a.2 b.2)))
theorem lt3_irr (a : Q3) : ¬ lt3 a a := by
 unfold lt3
 rintro (h | h)
 ·exact rlt_irr _ h
 ·exact lt2_irr _ h.2
theorem lt3_tr (a b c : Q3) (h1 : lt3 a b) (h2 : lt3 b c) : lt3 a c := by
 unfold lt3 at *
 rcases h1 with h1 | ⟨e1,h1⟩
 ·rcases h2 with h2 | ⟨e2,h2⟩
  ·exact .inl (rlt_tr h1 h2)
  ·exact .inl (e2 ▸ h1)
 ·rcases h2 with h2 | ⟨e2,h2⟩
  ·exact .inl (e1 ▸ h2)
  ·exact .inr ⟨e1.trans e2,lt2_tr _ _ _ h1 h2⟩
theorem lt3_tri (a b : Q3) : lt3 a b ∨ a = b ∨ lt3 b a := by
 unfold lt3
 rcases rlt_tri a.1 b.1 with h | h | h
 ·exact .inl (.inl h)
 ·rcases lt2_tri a.2 b.2 with h2 | h2 | h2
  ·exact .inl (.inr ⟨h,h2⟩)
  ·exact .inr (.inl (Prod.ext h h2))
  ·exact .inr (.inr (.inr ⟨h.symm,h2⟩))
 ·exact .inr (.inr (.inl h))
def cmp3 (a b : Q3) : Int := if cmpR a.1 b.1 ≠ 0 then cmpR a.1 b.1 else cmp2 a.2 b.2
theorem cmp3_neg (a b : Q3) : cmp3 a b < 0 ↔ lt3 a b := by
 have h1 := cmpR_zero a.1 b.1
 have h2 := cmpR_neg a.1 b.1
 have h3 := cmp2_neg a.2 b.2
 unfold cmp3 lt3
 by_cases h : cmpR a.1 b.1 = 0
 ·rw [if_neg (not_not_intro h),h3]
  have e := h1.1 h
  constructor
  ·intro h4; exact .inr ⟨e,h4⟩
  ·rintro (h4 | h4)
   ·exact absurd (e ▸ h4) (rlt_irr _)
   ·exact h4.2
 ·rw [if_pos h,h2]
  constructor
  ·intro h4; exact .inl h4
  ·rintro (h4 | h4)
   ·exact h4
   ·exact absurd (h1.2 h4.1) h
def smR (q : Rat) : Prop := (-1000000000 ≤ q.num ∧ q.num ≤ 1000000000) ∧ q.den ≤ 1000000000
instance (q : Rat) : Decidable (smR q) := inferInstanceAs (Decidable ((-1000000000 ≤ q.num ∧ q.num ≤ 1000000000) ∧ q.den ≤ 1000000000))
def frI (q : Rat) : Int × Int := (q.num,(q.den : Nat))
theorem frI_inj {p q : Rat} (h : frI p = frI q) : p = q := by
 have h1 := congrArg Prod.fst h
 have h2 := congrArg Prod.snd h
 exact Rat.ext h1 (by have h2 : ((p.den : Nat) : Int) = (q.den : Nat) := h2; omega)
theorem fracG_eq {a b : Int} (hb : 0 < b) : fracG a b = frI (Rat.divInt a b) := by
 obtain ⟨g,hg,he,h1,h2⟩ := frac_parts (a := a) hb
 have e : gcdI a b = (Int.gcd a b : Nat) := rfl
 unfold frI
 rw [div_num hb,div_den hb]
 unfold fracG
 rw [e]
 have hgp : 0 < (Int.gcd a b : Int) := by rw [← e,he]; exact hg
 have hd1 : ((Int.gcd a b : Nat) : Int) ∣ a := Int.gcd_dvd_left ..
 have hd2 : ((Int.gcd a b : Nat) : Int) ∣ b := Int.gcd_dvd_right ..
 rw [Int.tdiv_eq_ediv_of_dvd hd1,Int.tdiv_eq_ediv_of_dvd hd2]
end Go.Tr

/- Plain laws of chapter 5: numbers over one denominator as fractions; curves; what lies on a line. Conditions: none. -/
namespace Go.Tr
open Go Go.Proofs
set_option maxRecDepth 20000
set_option maxHeartbeats 8000000

abbrev P3 := Int × Int × Int
def p0 : P3 := (0,0,0)
abbrev Nm := P3 × Int
def n0 : Nm := (p0,0)
def nmQ (n : Nm) : Q3 := (Rat.divInt n.1.1 n.2,Rat.divInt n.1.2.1 n.2,Rat.divInt n.1.2.2 n.2)
def ptQ (p : P3) : Q3 := ((p.1 : Rat),(p.2.1 : Rat),(p.2.2 : Rat))
def mix1 (a b part : Rat) : Rat := a + part * (b - a)
def mixQ (a b : Q3) (part : Rat) : Q3 := (mix1 a.1 b.1 part,mix1 a.2.1 b.2.1 part,mix1 a.2.2 b.2.2 part)
theorem divInt_inj {a b d : Int} (hd : d ≠ 0) (h : Rat.divInt a d = Rat.divInt b d) : a = b := by
  have := (Rat.divInt_eq_divInt_iff hd hd).1 h
  exact Int.eq_of_mul_eq_mul_right hd this
theorem nmQ_inj {m n : Nm} (hd : m.2 = n.2) (h0 : m.2 ≠ 0) (h : nmQ m = nmQ n) : m = n := by
 obtain ⟨⟨a,b,c⟩,d⟩ := m
 obtain ⟨⟨a',b',c'⟩,d'⟩ := n
 have hd : d = d' := hd
 subst hd
 have h0 : d ≠ 0 := h0
 unfold nmQ at h
 rw [Prod.mk.injEq,Prod.mk.injEq] at h
 have e1 : a = a' := divInt_inj h0 h.1
 have e2 : b = b' := divInt_inj h0 h.2.1
 have e3 : c = c' := divInt_inj h0 h.2.2
 rw [e1,e2,e3]
theorem cast_ne {d : Int} (h : d ≠ 0) : (d : Rat) ≠ 0 := by simpa using h
theorem mix_int (x y part : Int) {den : Int} (hd : den ≠ 0) : Rat.divInt (x * den + (y - x) * part) den = mix1 (x : Rat) (y : Rat) (Rat.divInt part den) := by
 unfold mix1
 rw [Rat.divInt_eq_div,Rat.divInt_eq_div]
 have := cast_ne hd
 push_cast
 grind
def btwN (p q : P3) (part den : Int) : Nm := ((p.1 * den + (q.1 - p.1) * part,p.2.1 * den + (q.2.1 - p.2.1) * part,p.2.2 * den + (q.2.2 - p.2.2) * part),den)
theorem btwN_q (p q : P3) (part : Int) {den : Int} (hd : den ≠ 0) : nmQ (btwN p q part den) = mixQ (ptQ p) (ptQ q) (Rat.divInt part den) := by
 unfold nmQ btwN mixQ ptQ
 dsimp only
 rw [mix_int _ _ _ hd,mix_int _ _ _ hd,mix_int _ _ _ hd]
def rawN (A B : List P3) (part den : Int) : Nat → List Nm
  | 0=>[]
  | k + 1=>rawN A B part den k ++ (btwN (A.getD k p0) (B.getD k p0) part den :: if k + 1 < A.length then [btwN (A.getD (k + 1) p0) (B.getD k p0) part den] else [])
def rawQ (A B : List P3) (part : Rat) : Nat → List Q3
  | 0=>[]
  | k + 1=>rawQ A B part k ++ (mixQ (ptQ (A.getD k p0)) (ptQ (B.getD k p0)) part :: if k + 1 < A.length then [mixQ (ptQ (A.getD (k + 1) p0)) (ptQ (B.getD k p0)) part] else [])
theorem raw_map (A B : List P3) (part : Int) {den : Int} (hd : den ≠ 0) : ∀ k,(rawN A B part den k).map nmQ = rawQ A B (Rat.divInt part den) k
 | 0=>rfl
 | k + 1=>by
  unfold rawN rawQ
  rw [List.map_append,raw_map A B part hd k,List.map_cons,btwN_q _ _ _ hd]
  split
  ·rw [List.map_cons,btwN_q _ _ _ hd]; rfl
  ·rfl
theorem rawN_den (A B : List P3) (part den : Int) : ∀ k,∀ n ∈ rawN A B part den k,n.2 = den
 | 0,n,h=>by cases h
 | k + 1, n, h => by
  unfold rawN at h
  rcases List.mem_append.1 h with h | h
  ·exact rawN_den A B part den k n h
  ·rcases List.mem_cons.1 h with e | h
   ·rw [e]; rfl
   ·split at h
    ·rw [List.mem_singleton.1 h]; rfl
    ·cases h
theorem compL_map {α β : Type} [DecidableEq α] [DecidableEq β] (f : α → β) (l : List α) (inj : ∀ a ∈ l,∀ b ∈ l,f a = f b → a = b) : compL (l.map f) = (compL l).map f := by
 induction l using snoc_ind with
 | h0=>rfl
 | hs l x ih =>
  have ih := ih fun a ha b hb=>inj a (by simp [ha]) b (by simp [hb])
  rw [List.map_append,List.map_singleton,compL_snoc,compL_snoc,ih]
  unfold compS
  rw [List.getLast?_map,compL_last]
  cases hl : l.getLast? with
  | none=>simp
  | some z =>
   have hz := List.mem_of_getLast? hl
   by_cases e : z = x
   ·subst e; simp
   ·have : ¬ f z = f x := fun h=>e (inj z (by simp [hz]) x (by simp) h)
    rw [if_neg (by simpa using this),if_neg (by simpa using e)]
    simp
abbrev Ln := Int × Int × Int × Int
def sideN (l : Ln) (n : Nm) : Int := l.1 * n.1.1 + l.2.1 * n.1.2.1 + l.2.2.1 * n.1.2.2 - l.2.2.2 * n.2
def sideQ (l : Ln) (q : Q3) : Rat := q.1 * (l.1 : Rat) + q.2.1 * (l.2.1 : Rat) + q.2.2 * (l.2.2.1 : Rat) - (l.2.2.2 : Rat)
theorem side_eq (l : Ln) {n : Nm} (hd : n.2 ≠ 0) : sideQ l (nmQ n) = Rat.divInt (sideN l n) n.2 := by
 unfold sideQ sideN nmQ
 dsimp only
 rw [Rat.divInt_eq_div,Rat.divInt_eq_div,Rat.divInt_eq_div,Rat.divInt_eq_div]
 have h1 := cast_ne hd
 push_cast
 grind
theorem divInt_zero_iff {a d : Int} (hd : d ≠ 0) : Rat.divInt a d = 0 ↔ a = 0 := by
 constructor
 ·intro h
  have e : Rat.divInt a d = Rat.divInt 0 d := by rw [h,Rat.zero_divInt]
  exact divInt_inj hd e
 ·intro h; rw [h,Rat.zero_divInt]
theorem divInt_pos_iff {a d : Int} (hd : 0 < d) : 0 < Rat.divInt a d ↔ 0 < a := by
 have h1 := Rat.divInt_nonneg_iff_of_pos_right (a := a) hd
 have h2 := divInt_zero_iff (a := a) (show d ≠ 0 by omega)
 constructor
 ·intro h
  have h3 : 0 ≤ a := h1.1 (Rat.le_of_lt h)
  have h4 : a ≠ 0 := fun e=>by rw [h2.2 e] at h; exact rlt_irr _ h
  omega
 ·intro h
  rcases rlt_tri 0 (Rat.divInt a d) with h3 | h3 | h3
  ·exact h3
  ·have := h2.1 h3.symm; omega
  ·exact absurd (h1.2 (by omega)) (Rat.not_le.2 h3)
theorem divInt_neg_iff {a d : Int} (hd : 0 < d) : Rat.divInt a d < 0 ↔ a < 0 := by
 have h1 := divInt_pos_iff (a := a) hd
 have h2 := divInt_zero_iff (a := a) (show d ≠ 0 by omega)
 constructor
 ·intro h
  have h3 : ¬ 0 < a := fun e=>rlt_irr _ (rlt_tr h (h1.2 e))
  have h4 : a ≠ 0 := fun e=>by rw [h2.2 e] at h; exact rlt_irr _ h
  omega
 ·intro h
  rcases rlt_tri 0 (Rat.divInt a d) with h3 | h3 | h3
  ·have := h1.1 h3; omega
  ·have := h2.1 h3.symm; omega
  ·exact h3
def crsN (p q : Nm) (a b : Int) : Nm :=
  let x : Nm := ((p.1.1 * (a - b) + (q.1.1 - p.1.1) * a,p.1.2.1 * (a - b) + (q.1.2.1 - p.1.2.1) * a,p.1.2.2 * (a - b) + (q.1.2.2 - p.1.2.2) * a),p.2 * (a - b))
  if x.2 < 0 then ((-x.1.1,-x.1.2.1,-x.1.2.2),-x.2) else x
theorem crs_int {p q a b d : Int} (hd : d ≠ 0) (hab : a - b ≠ 0) : Rat.divInt (p * (a - b) + (q - p) * a) (d * (a - b)) = mix1 (Rat.divInt p d) (Rat.divInt q d) (Rat.divInt a (a - b)) := by
 unfold mix1
 rw [Rat.divInt_eq_div,Rat.divInt_eq_div,Rat.divInt_eq_div,Rat.divInt_eq_div]
 have h1 := cast_ne hd
 have h2 := cast_ne hab
 push_cast at *
 grind
theorem crsN_q {p q : Nm} {a b : Int} (hd : p.2 = q.2) (h0 : p.2 ≠ 0) (hab : a - b ≠ 0) : nmQ (crsN p q a b) = mixQ (nmQ p) (nmQ q) (Rat.divInt a (a - b)) := by
 have e : nmQ (crsN p q a b) = nmQ ((p.1.1 * (a - b) + (q.1.1 - p.1.1) * a,p.1.2.1 * (a - b) + (q.1.2.1 - p.1.2.1) * a,p.1.2.2 * (a - b) + (q.1.2.2 - p.1.2.2) * a),p.2 * (a - b)) := by
  unfold crsN
  dsimp only
  split
  ·unfold nmQ
   dsimp only
   rw [Rat.neg_divInt_neg,Rat.neg_divInt_neg,Rat.neg_divInt_neg]
  ·rfl
 rw [e]
 unfold nmQ mixQ
 dsimp only
 rw [crs_int h0 hab,crs_int h0 hab,crs_int h0 hab,hd]
theorem frac_of_parts {a b d : Int} (hd : d ≠ 0) : Rat.divInt a d / (Rat.divInt a d - Rat.divInt b d) = Rat.divInt a (a - b) := by
 by_cases hab : a - b = 0
 ·have e : a = b := by omega
  subst e
  rw [Rat.sub_self,hab,Rat.divInt_zero,Rat.div_def,Rat.inv_zero,Rat.mul_zero]
 ·rw [Rat.divInt_eq_div,Rat.divInt_eq_div,Rat.divInt_eq_div]
  have h1 := cast_ne hd
  have h2 := cast_ne hab
  push_cast at *
  grind
def crossB (a b : Int) : Prop := (a < 0 ∧ b > 0) ∨ (a > 0 ∧ b < 0)
instance (a b : Int) : Decidable (crossB a b) := inferInstanceAs (Decidable ((a < 0 ∧ b > 0) ∨ (a > 0 ∧ b < 0)))
def onN (L : List Nm) (l : Ln) : Nat → List Nm
 | 0=>[]
 | k + 1 => onN L l k ++ ((if sideN l (L.getD k n0) = 0 then [L.getD k n0] else []) ++
   if k + 1 < L.length ∧ crossB (sideN l (L.getD k n0)) (sideN l (L.getD (k + 1) n0)) then [crsN (L.getD k n0) (L.getD (k + 1) n0) (sideN l (L.getD k n0)) (sideN l (L.getD (k + 1) n0))] else [])
def q0 : Q3 := (0,0,0)
def sgR (q : Rat) : Int := sgI q.num
def onQ (L : List Q3) (l : Ln) : Nat → List Q3
 | 0=>[]
 | k + 1 => onQ L l k ++ ((if sideQ l (L.getD k q0) = 0 then [L.getD k q0] else []) ++
   if k + 1 < L.length ∧ sgR (sideQ l (L.getD k q0)) * sgR (sideQ l (L.getD (k + 1) q0)) < 0 then [mixQ (L.getD k q0) (L.getD (k + 1) q0) (sideQ l (L.getD k q0) / (sideQ l (L.getD k q0) - sideQ l (L.getD (k + 1) q0)))] else [])
theorem sgR_cases (q : Rat) : (q < 0 ∧ sgR q = -1) ∨ (q = 0 ∧ sgR q = 0) ∨ (0 < q ∧ sgR q = 1) := by
 have h := cmpR_neg q 0
 have h2 := cmpR_zero q 0
 have h3 := cmpR_pos q 0
 have e : cmpR q 0 = sgR q := by
  unfold cmpR sgR
  rw [Rat.zero_num,Rat.zero_den]
  congr 1
  omega
 rw [e] at h h2 h3
 have := sg_cases q.num
 have e2 : sgR q = sgI q.num := rfl
 rcases rlt_tri q 0 with h4 | h4 | h4
 ·exact .inl ⟨h4,by have := h.2 h4; omega⟩
 ·exact .inr (.inl ⟨h4,h2.2 h4⟩)
 ·exact .inr (.inr ⟨h4,by have := h3.2 h4; omega⟩)
theorem sgR_div {a d : Int} (hd : 0 < d) : sgR (Rat.divInt a d) = sgI a := by
 have h1 := divInt_pos_iff (a := a) hd
 have h2 := divInt_zero_iff (a := a) (show d ≠ 0 by omega)
 have h3 := divInt_neg_iff (a := a) hd
 have := sg_cases a
 rcases sgR_cases (Rat.divInt a d) with ⟨h4,e⟩ | ⟨h4,e⟩ | ⟨h4,e⟩
 ·have := h3.1 h4; omega
 ·have := h2.1 h4; omega
 ·have := h1.1 h4; omega
theorem getD_mapG {α β : Type} (f : α → β) (l : List α) (k : Nat) (d : α) (e : β) (h : k < l.length) : (l.map f).getD k e = f (l.getD k d) := by
  simp [List.getD_eq_getElem?_getD,h]
theorem cross_iff (a b : Int) : sgI a * sgI b < 0 ↔ crossB a b := by
 have h1 := sg_cases a
 have h2 := sg_cases b
 unfold crossB
 rcases h1 with ⟨h,e⟩ | ⟨h,e⟩ | ⟨h,e⟩ <;> rcases h2 with ⟨h',e'⟩ | ⟨h',e'⟩ | ⟨h',e'⟩ <;> rw [e,e'] <;> omega
theorem on_map (L : List Nm) (l : Ln) {den : Int} (hd : 0 < den) (hL : ∀ n ∈ L,n.2 = den) : ∀ k,k ≤ L.length → (onN L l k).map nmQ = onQ (L.map nmQ) l k
 | 0,_=>rfl
 | k + 1, hk => by
  have h1 : k < L.length := by omega
  have m1 : L.getD k n0 ∈ L := by
   rw [List.getD_eq_getElem?_getD,List.getElem?_eq_getElem h1]; exact List.getElem_mem h1
  have d1 := hL _ m1
  unfold onN onQ
  rw [List.map_append,on_map L l hd hL k (by omega),getD_mapG nmQ L k n0 q0 h1,side_eq l (by omega),List.map_append,d1]
  congr 1
  congr 1
  ·by_cases h : sideN l (L.getD k n0) = 0
   ·rw [if_pos h,if_pos ((divInt_zero_iff (by omega)).2 h)]; rfl
   ·rw [if_neg h,if_neg (fun e=>h ((divInt_zero_iff (by omega)).1 e))]; rfl
  ·rw [List.length_map]
   by_cases h2 : k + 1 < L.length
   ·have m2 : L.getD (k + 1) n0 ∈ L := by
     rw [List.getD_eq_getElem?_getD,List.getElem?_eq_getElem h2]; exact List.getElem_mem h2
    have d2 := hL _ m2
    rw [getD_mapG nmQ L (k + 1) n0 q0 h2,side_eq l (by omega),d2,sgR_div hd,sgR_div hd,frac_of_parts (by omega)]
    have hc := cross_iff (sideN l (L.getD k n0)) (sideN l (L.getD (k + 1) n0))
    by_cases h3 : crossB (sideN l (L.getD k n0)) (sideN l (L.getD (k + 1) n0))
    ·have hab : sideN l (L.getD k n0) - sideN l (L.getD (k + 1) n0) ≠ 0 := by unfold crossB at h3; omega
     rw [if_pos ⟨h2,h3⟩,if_pos ⟨h2,hc.2 h3⟩,List.map_singleton,crsN_q (by omega) (by omega) hab]
    ·rw [if_neg (fun e=>h3 e.2),if_neg (fun e=>h3 (hc.1 e.2))]; rfl
   ·rw [if_neg (fun e=>h2 e.1),if_neg (fun e=>h2 e.1)]; rfl
end Go.Tr

/- Plain laws of chapter 5: tables. Conditions: none. -/
namespace Go.Tr
open Go Go.Proofs
set_option maxRecDepth 20000
set_option maxHeartbeats 8000000

structure MRow where
  o : Int
  ps : List P3
def r0 : MRow := ⟨0,[]⟩
def turnI (a b c : P3) : Int := (b.1 - a.1) * (c.2.1 - a.2.1) - (c.1 - a.1) * (b.2.1 - a.2.1)
def fstE (f : Nat → Int) : Nat → Nat → Int × Int
  | 0,_=>(0,0)
  | n + 1,k=>if f k ≠ 0 then ((k : Int),f k) else fstE f n (k + 1)
theorem fstE_step (f : Nat → Int) {n k : Nat} (h : k < n) : fstE f (n - k) k = if f k ≠ 0 then ((k : Int),f k) else fstE f (n - (k + 1)) (k + 1) := by
  obtain ⟨m,e⟩ : ∃ m,n - k = m + 1 := ⟨n - k - 1,by omega⟩
  rw [e,fstE,show n - (k + 1) = m by omega]
theorem fstE_end (f : Nat → Int) {n k : Nat} (h : ¬ k < n) : fstE f (n - k) k = (0,0) := by
  rw [show n - k = 0 by omega,fstE]
theorem fstE_all {f : Nat → Int} : ∀ {n k : Nat},(fstE f n k).2 = 0 → ∀ i,k ≤ i → i < k + n → f i = 0
 | 0,k,_,i,h1,h2=>by omega
 | n + 1, k, h, i, h1, h2 => by
  unfold fstE at h
  by_cases hk : f k = 0
  ·rw [if_neg (not_not_intro hk)] at h
   by_cases e : i = k
   ·rw [e]; exact hk
   ·exact fstE_all h i (by omega) (by omega)
  ·rw [if_pos hk] at h; exact absurd h hk
def pntE (p : P3) : Int := if (-1000 ≤ p.1 ∧ p.1 ≤ 1000) ∧ (-1000 ≤ p.2.1 ∧ p.2.1 ≤ 1000) ∧ -10000 ≤ p.2.2 ∧ p.2.2 ≤ 10000 then 0 else 2
def pntsE (l : List P3) : Int := (fstE (fun k=>pntE (l.getD k p0)) l.length 0).2
def npT (t : List MRow) : Nat := (t.getD 0 r0).ps.length
def rowA (t : List MRow) (i : Nat) : Int :=
 if ¬ (0 ≤ (t.getD i r0).o ∧ (t.getD i r0).o ≤ 100) then 2
 else if ¬ (2 ≤ (t.getD i r0).ps.length ∧ (t.getD i r0).ps.length = npT t) then 10
 else if 6 < (t.getD i r0).ps.length then 8
 else pntsE (t.getD i r0).ps
def rowO (t : List MRow) (i : Nat) : Int :=
  if i = 0 then 0 else if (t.getD i r0).o ≤ (t.getD (i - 1) r0).o then 9 else if (t.getD i r0).o - (t.getD (i - 1) r0).o > 20 then 22 else 0
def rowX (t : List MRow) (i : Nat) : Int := if rowA t i ≠ 0 then rowA t i else rowO t i
def ptT (t : List MRow) (i k : Nat) : P3 := (t.getD i r0).ps.getD k p0
def tri1 (t : List MRow) (i k : Nat) : Int := turnI (ptT t i k) (ptT t i (k + 1)) (ptT t (i + 1) k)
def tri2 (t : List MRow) (i k : Nat) : Int := turnI (ptT t i (k + 1)) (ptT t (i + 1) (k + 1)) (ptT t (i + 1) k)
def quadE (t : List MRow) (i k : Nat) : Int := if tri1 t i k ≤ 0 then 13 else if tri2 t i k ≤ 0 then 13 else 0
def stripE (t : List MRow) (i : Nat) : Int := (fstE (quadE t i) ((t.getD i r0).ps.length - 1) 0).2
def chkM (t : List MRow) : Int × Int :=
  if t.length < 2 then (0,10) else if t.length > 6 then (0,8)
  else if (fstE (rowX t) t.length 0).2 ≠ 0 then fstE (rowX t) t.length 0 else fstE (stripE t) (t.length - 1) 0
structure TblOk (t : List MRow) : Prop where
 n : 2 ≤ t.length ∧ t.length ≤ 6
 np : 2 ≤ npT t ∧ npT t ≤ 6
 len : ∀ i,i < t.length → (t.getD i r0).ps.length = npT t
 op : ∀ i,i < t.length → 0 ≤ (t.getD i r0).o ∧ (t.getD i r0).o ≤ 100
 ord : ∀ i,i + 1 < t.length → (t.getD i r0).o < (t.getD (i + 1) r0).o ∧ (t.getD (i + 1) r0).o - (t.getD i r0).o ≤ 20
 pts : ∀ i k,i < t.length → k < npT t → (-1000 ≤ (ptT t i k).1 ∧ (ptT t i k).1 ≤ 1000) ∧ (-1000 ≤ (ptT t i k).2.1 ∧ (ptT t i k).2.1 ≤ 1000) ∧ -10000 ≤ (ptT t i k).2.2 ∧ (ptT t i k).2.2 ≤ 10000
 ar : ∀ i k,i + 1 < t.length → k + 1 < npT t → 0 < tri1 t i k ∧ 0 < tri2 t i k
theorem rowA_ok {t : List MRow} {i : Nat} (h : rowA t i = 0) : (0 ≤ (t.getD i r0).o ∧ (t.getD i r0).o ≤ 100) ∧ (2 ≤ (t.getD i r0).ps.length ∧ (t.getD i r0).ps.length = npT t) ∧ (t.getD i r0).ps.length ≤ 6 ∧ pntsE (t.getD i r0).ps = 0 := by
 unfold rowA at h
 by_cases h1 : 0 ≤ (t.getD i r0).o ∧ (t.getD i r0).o ≤ 100
 ·rw [if_neg (not_not_intro h1)] at h
  by_cases h2 : 2 ≤ (t.getD i r0).ps.length ∧ (t.getD i r0).ps.length = npT t
  ·rw [if_neg (not_not_intro h2)] at h
   by_cases h3 : 6 < (t.getD i r0).ps.length
   ·rw [if_pos h3] at h; exact absurd h (by decide)
   ·rw [if_neg h3] at h
    exact ⟨h1,h2,by omega,h⟩
  ·rw [if_pos h2] at h; exact absurd h (by decide)
 ·rw [if_pos h1] at h; exact absurd h (by decide)
theorem pntE_ok {p : P3} (h : pntE p = 0) : (-1000 ≤ p.1 ∧ p.1 ≤ 1000) ∧ (-1000 ≤ p.2.1 ∧ p.2.1 ≤ 1000) ∧ -10000 ≤ p.2.2 ∧ p.2.2 ≤ 10000 := by
 unfold pntE at h
 by_cases h1 : (-1000 ≤ p.1 ∧ p.1 ≤ 1000) ∧ (-1000 ≤ p.2.1 ∧ p.2.1 ≤ 1000) ∧ -10000 ≤ p.2.2 ∧ p.2.2 ≤ 10000
 ·exact h1
 ·rw [if_neg h1] at h; exact absurd h (by decide)
theorem TblOk.of {t : List MRow} (h : (chkM t).2 = 0) : TblOk t := by
 unfold chkM at h
 by_cases h1 : t.length < 2
 ·rw [if_pos h1] at h; exact absurd h (by decide)
 ·rw [if_neg h1] at h
  by_cases h2 : t.length > 6
  ·rw [if_pos h2] at h; exact absurd h (by decide)
  ·rw [if_neg h2] at h
   by_cases h3 : (fstE (rowX t) t.length 0).2 = 0
   ·rw [if_neg (not_not_intro h3)] at h
    have hr : ∀ i,i < t.length → rowX t i = 0 := fun i hi=>fstE_all h3 i (Nat.zero_le _) (by omega)
    have hA : ∀ i,i < t.length → rowA t i = 0 := fun i hi=>by
     have := hr i hi
     unfold rowX at this
     by_cases e : rowA t i = 0
     ·exact e
     ·rw [if_pos e] at this; exact this
    have hO : ∀ i,i < t.length → rowO t i = 0 := fun i hi=>by
     have := hr i hi
     unfold rowX at this
     rwa [if_neg (not_not_intro (hA i hi))] at this
    have hlen : ∀ i,i < t.length → (t.getD i r0).ps.length = npT t := fun i hi=>(rowA_ok (hA i hi)).2.1.2
    have hp0 := rowA_ok (hA 0 (by omega))
    refine ⟨by omega,⟨hp0.2.1.1,hp0.2.2.1⟩,hlen,fun i hi=>(rowA_ok (hA i hi)).1,fun i hi=>?_,fun i k hi hk=>?_,fun i k hi hk=>?_⟩
    ·have := hO (i + 1) hi
     unfold rowO at this
     rw [if_neg (by omega),show i + 1 - 1 = i by omega] at this
     by_cases e1 : (t.getD (i + 1) r0).o ≤ (t.getD i r0).o
     ·rw [if_pos e1] at this; exact absurd this (by decide)
     ·rw [if_neg e1] at this
      by_cases e2 : (t.getD (i + 1) r0).o - (t.getD i r0).o > 20
      ·rw [if_pos e2] at this; exact absurd this (by decide)
      ·omega
    ·have := (rowA_ok (hA i hi)).2.2.2
     have := fstE_all this k (Nat.zero_le _) (by rw [hlen i hi]; omega)
     exact pntE_ok this
    ·have := fstE_all h i (Nat.zero_le _) (by omega)
     have := fstE_all this k (Nat.zero_le _) (by rw [hlen i (by omega)]; omega)
     unfold quadE at this
     by_cases e1 : tri1 t i k ≤ 0
     ·rw [if_pos e1] at this; exact absurd this (by decide)
     ·rw [if_neg e1] at this
      by_cases e2 : tri2 t i k ≤ 0
      ·rw [if_pos e2] at this; exact absurd this (by decide)
      ·omega
   ·rw [if_pos h3] at h; exact absurd h h3
abbrev B3 := (Int × Int) × (Int × Int) × Int × Int
def bnd1 (b : Int × Int) (n : Int) : Int × Int := (min b.1 n,max b.2 n)
def bndP (b : B3) (p : P3) : B3 := (bnd1 b.1 p.1,bnd1 b.2.1 p.2.1,bnd1 b.2.2 p.2.2)
def bndL (b : B3) (l : List P3) : B3 := l.foldl bndP b
end Go.Tr

/- Contracts of chapter 5: fractions, spots by themselves. Conditions: none. -/
-- seat YtgbdlkajmmjahaaGreat
namespace Go.Tr
open Go Go.Proofs
set_option maxRecDepth 20000
set_option maxHeartbeats 8000000

def AV.atom : AV → Prop
  | .agg _ | .tuple _=>False
  | _=>True
theorem ave_atom {k : Nat} (x : AV) (h : x.atom) : AVE (k + 1) x x := by
  cases x <;> first | exact h.elim | rfl | exact ⟨rfl,rfl,fun _ _=>rfl⟩
theorem ave_aggR {k : Nat} {l : List AV} (h : ∀ x ∈ l,x.atom) : AVE (k + 2) (.agg l) (.agg l) :=
 ⟨rfl,fun i x y hx hy=>by
  rw [hx] at hy; cases hy
  rw [nth?_eq] at hx
  exact ave_atom x (h x (List.mem_of_getElem? hx))⟩
theorem ave_ok2 {k : Nat} {l : List AV} {e : AV} (h : ∀ x ∈ l,x.atom) (he : e.atom) : AVE (k + 3) (.tuple [.agg l,e]) (.tuple [.agg l,e]) :=
  ave_tup2 (ave_aggR h) (ave_atom _ he)
theorem S151 (a b : Int) (ha : -9223372036854775808 ≤ a ∧ a ≤ 9223372036854775807) (hb : 0 < b ∧ b ≤ 9223372036854775807) : SP 151 [i64 a,i64 b] (i64 (gcdI a b)) false := by
 unfold gcdI
 refine sound (d := 2) tok2 mixed2 Tryz.func151 (by kernel_rfl) (by kernel_rfl) ?_
 (conv=>whnf); refine ⟨[],[0,1],fun st mq=>∃ (x : Int) (y : Int),(-9223372036854775808 ≤ x ∧ x ≤ 9223372036854775807) ∧ (-9223372036854775807 ≤ y ∧ y ≤ 9223372036854775807) ∧ (y = 0 → -9223372036854775807 ≤ x) ∧ (Nat.gcd x.natAbs y.natAbs = Nat.gcd a.natAbs b.natAbs) ∧ st = ⟨[(0,i64 x),(1,i64 y)],⟨[],[],none,0⟩,[]⟩ ∧ mq = y.natAbs,
  ⟨_,_,⟨a,b,ha,by omega,(fun h=>by omega),rfl,rfl,rfl⟩,⟨⟨.inl rfl,rfl,rfl,rfl⟩,trivial,trivial⟩⟩,?_⟩
 rintro s0 m0 ⟨x,y,hx,hy,hz,hg,rfl,hmeas⟩
 by_cases h0 : y = 0
 ·have hx0 := hz h0
  subst h0
  conv=>whnf
  (conv=>whnf); refine ⟨inK64 (by omega) (by omega),?_⟩
  conv=>whnf
  (conv=>whnf); refine ⟨?_,nofun⟩
  exact endi (by rw [← hg]; simp; split <;> omega)
 ·have ht := tmod_lt (a := x) h0
  conv=>whnf
  (conv=>whnf); refine ifB_bne (fun w1=>?_) (fun w1=>?_)
  ·conv=>whnf
   (conv=>whnf); refine ⟨[],by kernel_rfl,?_⟩
   conv=>whnf
   (conv=>whnf); refine ⟨(by omega),?_⟩
   conv=>whnf
   (conv=>whnf); refine ⟨_,_,⟨⟨y,x.tmod y,by omega,by omega,(fun _=>by omega),(by rw [← hg,Int.natAbs_tmod,Nat.gcd_comm x.natAbs,Nat.gcd_rec y.natAbs x.natAbs,Nat.gcd_comm]),rfl,rfl⟩,by omega⟩,⟨⟨.inl rfl,rfl,rfl,rfl⟩,trivial,trivial⟩⟩
  ·(exfalso; omega)
theorem S167g (a b : Int) (ha : -9223372036854775808 ≤ a ∧ a ≤ 9223372036854775807) (hb : 0 < b ∧ b ≤ 9223372036854775807) : SP 167 [i64 a,i64 b] (i64 (gcdI a b)) false := by
 unfold gcdI
 refine sound (d := 2) tok2 mixed2 Tryz.func167 (by kernel_rfl) (by kernel_rfl) ?_
 (conv=>whnf); refine ⟨[],[0,1],fun st mq=>∃ (x : Int) (y : Int),(-9223372036854775808 ≤ x ∧ x ≤ 9223372036854775807) ∧ (-9223372036854775807 ≤ y ∧ y ≤ 9223372036854775807) ∧ (y = 0 → -9223372036854775807 ≤ x) ∧ (Nat.gcd x.natAbs y.natAbs = Nat.gcd a.natAbs b.natAbs) ∧ st = ⟨[(0,i64 x),(1,i64 y)],⟨[],[],none,0⟩,[]⟩ ∧ mq = y.natAbs,
  ⟨_,_,⟨a,b,ha,by omega,(fun h=>by omega),rfl,rfl,rfl⟩,⟨⟨.inl rfl,rfl,rfl,rfl⟩,trivial,trivial⟩⟩,?_⟩
 rintro s0 m0 ⟨x,y,hx,hy,hz,hg,rfl,hmeas⟩
 by_cases h0 : y = 0
 ·have hx0 := hz h0
  have h129 := S129 x (by omega)
  subst h0
  conv=>whnf
  (conv=>whnf); refine .inl ⟨_,_,byX rfl (Sound1.pl (h129) rfl),?_⟩
  conv=>whnf
  (conv=>whnf); refine ⟨?_,nofun⟩
  exact endi (by rw [← hg]; simp)
 ·have ht := tmod_lt (a := x) h0
  conv=>whnf
  (conv=>whnf); refine ifB_bne (fun w1=>?_) (fun w1=>?_)
  ·conv=>whnf
   (conv=>whnf); refine ⟨[],by kernel_rfl,?_⟩
   conv=>whnf
   (conv=>whnf); refine ⟨(by omega),?_⟩
   conv=>whnf
   (conv=>whnf); refine ⟨_,_,⟨⟨y,x.tmod y,by omega,by omega,(fun _=>by omega),(by rw [← hg,Int.natAbs_tmod,Nat.gcd_comm x.natAbs,Nat.gcd_rec y.natAbs x.natAbs,Nat.gcd_comm]),rfl,rfl⟩,by omega⟩,⟨⟨.inl rfl,rfl,rfl,rfl⟩,trivial,trivial⟩⟩
  ·(exfalso; omega)
def lowF (f : Int × Int) : Prop := 0 < f.2 ∧ gcdI f.1 f.2 = 1
instance (f : Int × Int) : Decidable (lowF f) := inferInstanceAs (Decidable (0 < f.2 ∧ gcdI f.1 f.2 = 1))
def FrI (f : Int × Int) : Prop := (-9223372036854775808 ≤ f.1 ∧ f.1 ≤ 9223372036854775807) ∧ -9223372036854775808 ≤ f.2 ∧ f.2 ≤ 9223372036854775807
theorem S165 (f : Int × Int) (h : FrI f) : SP 165 [gaF f] (vb (decide (lowF f))) false := by
 unfold lowF
 by_cases hd : 0 < f.2
 ·have h1 := S151 f.1 f.2 h.1 ⟨hd,h.2.2⟩
  refine sound (d := 2) tok2 mixed2 Tryz.func165 (by kernel_rfl) (by kernel_rfl) ?_
  (conv=>whnf); refine ifB_dec (fun w1=>?_) (fun w1=>?_)
  ·(conv=>whnf); refine .inl ⟨_,_,byX rfl (Sound1.pl (h1) rfl),?_⟩
   (conv=>whnf); refine ⟨?_,nofun⟩
   exact endb (by simp [hd]; rfl)
  ·(exfalso; omega)
 ·refine sound (d := 2) tok2 mixed2 Tryz.func165 (by kernel_rfl) (by kernel_rfl) ?_
  (conv=>whnf); refine ifB_dec (fun w1=>?_) (fun w1=>?_)
  ·(exfalso; omega)
  ·(conv=>whnf); refine ⟨?_,nofun⟩
   exact endb (by simp [hd])
theorem S130g (f : Int × Int) (h : FrI f) : SP 130 [gaF f] (vb (decide (lowF f))) false := by
 unfold lowF
 by_cases hd : 0 < f.2
 ·have h1 := S167g f.1 f.2 h.1 ⟨hd,h.2.2⟩
  refine sound (d := 2) tok2 mixed2 Tryz.func130 (by kernel_rfl) (by kernel_rfl) ?_
  (conv=>whnf); refine ifB_dec (fun w1=>?_) (fun w1=>?_)
  ·(conv=>whnf); refine .inl ⟨_,_,byX rfl (Sound1.pl (h1) rfl),?_⟩
   (conv=>whnf); refine ⟨?_,nofun⟩
   exact endb (by simp [hd]; rfl)
  ·(exfalso; omega)
 ·refine sound (d := 2) tok2 mixed2 Tryz.func130 (by kernel_rfl) (by kernel_rfl) ?_
  (conv=>whnf); refine ifB_dec (fun w1=>?_) (fun w1=>?_)
  ·(exfalso; omega)
  ·(conv=>whnf); refine ⟨?_,nofun⟩
   exact endb (by simp [hd])
end Go.Tr

/- Contracts of chapter 5: quotients of whole numbers, spots, fractions of any size as small ones. Conditions: none. -/
-- seat YtgbdlkajmmjahaaGreat
namespace Go.Tr
open Go Go.Proofs
set_option maxRecDepth 20000
set_option maxHeartbeats 8000000

def frcE (f : Int × Int) : Int := if lowF f then (if (-10000 ≤ f.1 ∧ f.1 ≤ 10000) ∧ f.2 ≤ 10000 then 0 else 2) else 3
abbrev F3 := (Int × Int) × (Int × Int) × Int × Int
abbrev spC (s : F3) : List AV := [i64 s.1.1,i64 s.1.2,i64 s.2.1.1,i64 s.2.1.2,i64 s.2.2.1,i64 s.2.2.2]
abbrev spA (s : F3) : AV := .agg (spC s)
def spE (s : F3) : Int := if frcE s.1 ≠ 0 then frcE s.1 else if frcE s.2.1 ≠ 0 then frcE s.2.1 else frcE s.2.2
def okR (q : Rat) : Int × Int := if smR q then frI q else (0,0)
theorem frac_eq {a b : Int} (h : 0 < b) : (a.tdiv (gcdI a b),b.tdiv (gcdI a b)) = frI (Rat.divInt a b) := fracG_eq h
theorem S92q (a b : Int) (ha : -9223372036854775807 ≤ a ∧ a ≤ 9223372036854775807) (hb : 0 < b ∧ b ≤ 9223372036854775807) (x y : Int) (hx : a.tdiv (gcdI a b) = x) (hy : b.tdiv (gcdI a b) = y) :
  SP 92 [i64 a,i64 b] (.tuple [gaF (if (-1000000000 ≤ x ∧ x ≤ 1000000000) ∧ y ≤ 1000000000 then (x,y) else (0,0)),i64 (if (-1000000000 ≤ x ∧ x ≤ 1000000000) ∧ y ≤ 1000000000 then 0 else 8)]) false := by
 have h1 := S151 a b (by omega) hb
 have hg := gcdI_pos (a := a) hb.1
 have b1 : ((a.tdiv (gcdI a b)).natAbs) ≤ a.natAbs := Int.natAbs_tdiv_le_natAbs _ _
 have b2 : ((b.tdiv (gcdI a b)).natAbs) ≤ b.natAbs := Int.natAbs_tdiv_le_natAbs _ _
 generalize gcdI a b = g at h1 hg hx hy b1 b2
 subst hx hy
 have h140 := S140 (a.tdiv g) 1000000000 (by decide)
 refine sound (d := 2) tok2 mixed2 Tryz.func92 (by kernel_rfl) (by kernel_rfl) ?_
 (conv=>whnf); refine ifB_dec (fun w1=>?_) (fun w1=>?_)
 ·(exfalso; omega)
 ·(conv=>whnf); refine .inl ⟨_,_,byX rfl (Sound1.pl (h1) rfl),?_⟩
  (conv=>whnf); refine ⟨[],by kernel_rfl,?_⟩
  (conv=>whnf); refine ⟨⟨(by omega),inK64 (by omega) (by omega)⟩,?_⟩
  (conv=>whnf); refine ⟨⟨(by omega),inK64 (by omega) (by omega)⟩,?_⟩
  (conv=>whnf); refine .inl ⟨_,_,byX rfl (Sound1.pl (h140) rfl),?_⟩
  (conv=>whnf); refine ifB_not ?_
  (conv=>whnf); refine ifB_dec (fun w2=>?_) (fun w2=>?_)
  ·(conv=>whnf); refine ifB_dec (fun w3=>?_) (fun w3=>?_)
   ·(conv=>whnf); refine ⟨?_,nofun⟩
    have hn : ¬ ((-1000000000 ≤ a.tdiv g ∧ a.tdiv g ≤ 1000000000) ∧ b.tdiv g ≤ 1000000000) := fun e=>by omega
    rw [if_neg hn,if_neg hn]
    exact ave_tup2 (ave_agg2 rfl rfl) rfl
   ·(conv=>whnf); refine ⟨?_,nofun⟩
    have hn : (-1000000000 ≤ a.tdiv g ∧ a.tdiv g ≤ 1000000000) ∧ b.tdiv g ≤ 1000000000 := ⟨by assumption,by omega⟩
    rw [if_pos hn,if_pos hn]
    exact ave_tup2 (ave_agg2 rfl rfl) rfl
  ·(conv=>whnf); refine ⟨?_,nofun⟩
   have hn : ¬ ((-1000000000 ≤ a.tdiv g ∧ a.tdiv g ≤ 1000000000) ∧ b.tdiv g ≤ 1000000000) := fun e=>by have := e.1; contradiction
   rw [if_neg hn,if_neg hn]
   exact ave_tup2 (ave_agg2 rfl rfl) rfl
theorem okR_eq (q : Rat) : (if (-1000000000 ≤ q.num ∧ q.num ≤ 1000000000) ∧ ((q.den : Nat) : Int) ≤ 1000000000 then (q.num,((q.den : Nat) : Int)) else (0,0)) = okR q ∧
  (if (-1000000000 ≤ q.num ∧ q.num ≤ 1000000000) ∧ ((q.den : Nat) : Int) ≤ 1000000000 then (0 : Int) else 8) = if smR q then 0 else 8 := by
 have h : ((-1000000000 ≤ q.num ∧ q.num ≤ 1000000000) ∧ ((q.den : Nat) : Int) ≤ 1000000000) ↔ smR q := by unfold smR; omega
 unfold okR frI
 by_cases hs : smR q
 ·rw [if_pos (h.2 hs),if_pos hs,if_pos (h.2 hs),if_pos hs]; exact ⟨rfl,rfl⟩
 ·rw [if_neg (fun e=>hs (h.1 e)),if_neg hs,if_neg (fun e=>hs (h.1 e)),if_neg hs]; exact ⟨rfl,rfl⟩
theorem S92p (a b : Int) (ha : -9223372036854775807 ≤ a ∧ a ≤ 9223372036854775807) (hb : 0 < b ∧ b ≤ 9223372036854775807) : SP 92 [i64 a,i64 b] (.tuple [gaF (okR (Rat.divInt a b)),i64 (if smR (Rat.divInt a b) then 0 else 8)]) false := by
 have hf := frac_eq (a := a) hb.1
 have h := S92q a b ha hb (Rat.divInt a b).num ((Rat.divInt a b).den : Nat) (congrArg Prod.fst hf) (congrArg Prod.snd hf)
 rw [(okR_eq _).1,(okR_eq _).2] at h
 exact h
end Go.Tr

/- Contracts of chapter 5: tables. Conditions: none. -/
-- seat YtgbdlkajmmjahaaGreat
namespace Go.Tr
open Go Go.Proofs
set_option maxRecDepth 20000
set_option maxHeartbeats 8000000

abbrev ptC (p : P3) : List AV := [i64 p.1,i64 p.2.1,i64 p.2.2]
def ptsA (l : List P3) : AV := .rslice 3 l.length fun i=>[i64 (l.getD i p0).1,i64 (l.getD i p0).2.1,i64 (l.getD i p0).2.2]
def rowsA (t : List MRow) : AV := .rslice 2 t.length fun i=>[i64 (t.getD i r0).o,ptsA (t.getD i r0).ps]
abbrev tblA (t : List MRow) : AV := .agg [rowsA t]
theorem S222 (p : P3) : SP 222 [.agg [i64 p.1,i64 p.2.1,i64 p.2.2]] (i64 (pntE p)) false := by
 have h1 := S140 p.1 1000 (by decide)
 have h2 := S140 p.2.1 1000 (by decide)
 have h3 := S140 p.2.2 10000 (by decide)
 have h78t := S78 (win p.2.2 (-10000) 10000) 2
 have h78f := S78 false 2
 unfold pntE
 refine sound (d := 2) tok2 mixed2 Tryz.func222 (by kernel_rfl) (by kernel_rfl) ?_
 (conv=>whnf); refine .inl ⟨_,_,byX rfl (Sound1.pl (h1) rfl),?_⟩
 (conv=>whnf); refine ifB_dec (fun w1=>?_) (fun w1=>?_)
 ·(conv=>whnf); refine .inl ⟨_,_,byX rfl (Sound1.pl (h2) rfl),?_⟩
  (conv=>whnf); refine ifB_dec (fun w2=>?_) (fun w2=>?_)
  ·(conv=>whnf); refine .inl ⟨_,_,byX rfl (Sound1.pl (h3) rfl),?_⟩
   (conv=>whnf); refine .inl ⟨_,_,byX rfl (Sound1.pl (h78t) rfl),?_⟩
   (conv=>whnf); refine ⟨?_,nofun⟩
   refine endi ?_
   unfold win
   by_cases h : -10000 ≤ p.2.2 ∧ p.2.2 ≤ 10000
   ·rw [if_pos (decide_eq_true h),if_pos ⟨by assumption,by assumption,h.1,h.2⟩]
   ·rw [if_neg (by simpa using h),if_neg (fun e=>h e.2.2)]
  ·(conv=>whnf); refine .inl ⟨_,_,byX rfl (Sound1.pl (h78f) rfl),?_⟩
   (conv=>whnf); refine ⟨?_,nofun⟩
   exact endi (if_neg (fun e=>absurd e.2.1 (by assumption))).symm
 ·(conv=>whnf); refine .inl ⟨_,_,byX rfl (Sound1.pl (h78f) rfl),?_⟩
  (conv=>whnf); refine ⟨?_,nofun⟩
  exact endi (if_neg (fun e=>absurd e.1 (by assumption))).symm
theorem fstE_succ (f : Nat → Int) : ∀ (k j : Nat),(fstE f (k + 1) j).2 = if (fstE f k j).2 ≠ 0 then (fstE f k j).2 else f (j + k)
 | 0,j=>by
  show (if f j ≠ 0 then ((j : Int),f j) else (0,0)).2 = if (0 : Int) ≠ 0 then 0 else f j
  rw [if_neg (show ¬ (0 : Int) ≠ 0 by decide)]
  by_cases h : f j = 0
  ·rw [if_neg (not_not_intro h),h]
  ·rw [if_pos h]
 | k + 1, j => by
  have ih := fstE_succ f k (j + 1)
  rw [fstE]
  by_cases h : f j = 0
  ·rw [if_neg (not_not_intro h),ih,show fstE f (k + 1) j = fstE f k (j + 1) by rw [fstE,if_neg (not_not_intro h)],show j + 1 + k = j + (k + 1) by omega]
  ·rw [if_pos h,show fstE f (k + 1) j = ((j : Int),f j) by rw [fstE,if_pos h]]
   exact (if_pos h).symm
def ptsP (l : List P3) (k : Nat) : Int := (fstE (fun k=>pntE (l.getD k p0)) k 0).2
theorem ptsP_succ (l : List P3) (k : Nat) : ptsP l (k + 1) = if ptsP l k ≠ 0 then ptsP l k else pntE (l.getD k p0) := by
  unfold ptsP
  rw [fstE_succ,Nat.zero_add]
def rowB (t : List MRow) (i : Nat) : Int :=
  firstOf [if 0 ≤ (t.getD i r0).o ∧ (t.getD i r0).o ≤ 100 then 0 else 2,if 2 ≤ (t.getD i r0).ps.length ∧ (t.getD i r0).ps.length = npT t then 0 else 10,if (t.getD i r0).ps.length ≤ 6 then 0 else 8]
theorem ifw (o a b x : Int) : (if win o a b = true then (0 : Int) else x) = if a ≤ o ∧ o ≤ b then 0 else x := by
 unfold win
 by_cases h : a ≤ o ∧ o ≤ b
 ·rw [if_pos (decide_eq_true h),if_pos h]
 ·rw [if_neg (by simpa using h),if_neg h]
theorem if6 (n : Nat) (x : Int) : (if decide ((n : Int) ≤ 6) = true then (0 : Int) else x) = if n ≤ 6 then 0 else x := by
 by_cases h : n ≤ 6
 ·rw [if_pos (decide_eq_true (by omega)),if_pos h]
 ·rw [if_neg (by simp; omega),if_neg h]
theorem rowB_A {t : List MRow} {i : Nat} (h : 2 ≤ (t.getD i r0).ps.length) :
  firstOf [if win (t.getD i r0).o 0 100 = true then 0 else 2,if (((t.getD i r0).ps.length : Int) == ((t.getD 0 r0).ps.length : Int)) = true then 0 else 10,if decide (((t.getD i r0).ps.length : Int) ≤ 6) = true then 0 else 8] = rowB t i := by
 unfold rowB npT
 rw [ifw,if6]
 generalize (t.getD i r0).ps.length = a at *
 generalize (t.getD 0 r0).ps.length = b at *
 have e : (if ((a : Int) == (b : Int)) = true then (0 : Int) else 10) = if 2 ≤ a ∧ a = b then 0 else 10 := by
  by_cases h2 : a = b
  ·rw [if_pos (by simp [h2]),if_pos ⟨h,h2⟩]
  ·rw [if_neg (by simp; omega),if_neg (fun e=>h2 e.2)]
 rw [e]
theorem rowB_B {t : List MRow} {i : Nat} (h : ¬ 2 ≤ (t.getD i r0).ps.length) :
  firstOf [if win (t.getD i r0).o 0 100 = true then 0 else 2,if false = true then 0 else 10,if decide (((t.getD i r0).ps.length : Int) ≤ 6) = true then 0 else 8] = rowB t i := by
 unfold rowB npT
 rw [ifw,if6]
 generalize (t.getD i r0).ps.length = a at *
 generalize (t.getD 0 r0).ps.length = b at *
 have e : (if 2 ≤ a ∧ a = b then (0 : Int) else 10) = 10 := if_neg (fun e=>h e.1)
 rw [e]
 rfl
theorem if_key (A B C : Prop) [Decidable A] [Decidable B] [Decidable C] (z : Int) : (if (if (if A then (0 : Int) else 2) ≠ 0 then (if A then (0 : Int) else 2) else if (if B then (0 : Int) else 10) ≠ 0 then (if B then (0 : Int) else 10) else if C then (0 : Int) else 8) ≠ 0 then (if (if A then (0 : Int) else 2) ≠ 0 then (if A then (0 : Int) else 2) else if (if B then (0 : Int) else 10) ≠ 0 then (if B then (0 : Int) else 10) else if C then (0 : Int) else 8) else z) = if ¬ A then 2 else if ¬ B then 10 else if ¬ C then 8 else z := by
  by_cases a : A <;> by_cases b : B <;> by_cases c : C <;> simp [a,b,c]
theorem rowB_eq (t : List MRow) (i : Nat) : (if rowB t i ≠ 0 then rowB t i else ptsP (t.getD i r0).ps (t.getD i r0).ps.length) = rowA t i := by
 unfold rowB rowA pntsE ptsP
 rw [first3,if_key]
 simp only [Nat.not_le]
def Fit (t : List MRow) : Prop := t.length ≤ 1000000 ∧ ∀ i,(t.getD i r0).ps.length ≤ 1000000
theorem S185 (t : List MRow) (ht : Fit t) (i : Nat) (hi : i < t.length) (hp : i = 0 ∨ (0 ≤ (t.getD (i - 1) r0).o ∧ (t.getD (i - 1) r0).o ≤ 100)) : SP 185 [tblA t, i64 i] (i64 (rowX t i)) false := by
 have h75 := S75 (t.getD i r0).o 0 100
 have h78w := S78 (win (t.getD i r0).o 0 100) 2
 have h78e := S78 (((t.getD i r0).ps.length : Int) == ((t.getD 0 r0).ps.length : Int)) 10
 have h78f := S78 false 10
 have h786 := S78 (decide (((t.getD i r0).ps.length : Int) ≤ 6)) 8
 have hl := ht.2 i
 by_cases h2 : 2 ≤ (t.getD i r0).ps.length
 ·have h2' : (((t.getD (i : Int).toNat r0).ps.length : Int) ≥ 2) := by show (((t.getD i r0).ps.length : Int) ≥ 2); omega
  have h76 := @S76_3 (if win (t.getD i r0).o 0 100 = true then 0 else 2) (if (((t.getD i r0).ps.length : Int) == ((t.getD 0 r0).ps.length : Int)) = true then 0 else 10) (if decide (((t.getD i r0).ps.length : Int) ≤ 6) = true then 0 else 8)
  rw [rowB_A h2] at h76
  refine sound (d := 2) tok2 mixed2 Tryz.func185 (by kernel_rfl) (by kernel_rfl) ?_
  (conv=>whnf); refine ⟨⟨(by omega),(by omega)⟩,?_⟩
  (conv=>whnf); refine ⟨[],by kernel_rfl,?_⟩
  (conv=>whnf); refine .inl ⟨_,_,byX rfl (Sound1.pl (h75) rfl),?_⟩
  (conv=>whnf); refine .inl ⟨_,_,byX rfl (Sound1.pl (h78w) rfl),?_⟩
  (conv=>whnf); refine ifB_dec (fun w1=>?_) (fun w1=>?_)
  ·(conv=>whnf); refine ⟨⟨(by omega),(by omega)⟩,?_⟩
   (conv=>whnf); refine .inl ⟨_,_,byX rfl (Sound1.pl (h78e) rfl),?_⟩
   (conv=>whnf); refine .inl ⟨_,_,byX rfl (Sound1.pl (h786) rfl),?_⟩
   (conv=>whnf); refine .inl ⟨_,_,byX rfl (Sound1.pl (h76 ⟨rfl,rfl,rfl⟩) rfl),?_⟩
   (conv=>whnf); refine ⟨[],[1,2,5,6,44,45,46],fun st mq=>∃ (k : Nat) (e : Int) (F2 : Nat → List AV),(k ≤ (t.getD i r0).ps.length) ∧ (e = if rowB t i ≠ 0 then rowB t i else ptsP (t.getD i r0).ps k) ∧ st = ⟨[(1,i64 i),(2,.optr 0 0 0 0),(5,.optr 1 0 0 0),(6,i64 e),(44,ptsA (t.getD i r0).ps),(45,i64 (t.getD i r0).ps.length),(46,i64 k)],⟨[⟨1,1,fun _=>[rowsA t],0,false,true,true⟩,⟨2,1,fun _=>[i64 (t.getD i r0).o,ptsA (t.getD i r0).ps],0,false,true,true⟩,⟨1,3,F2,0,false,true,false⟩],[],none,0⟩,[]⟩ ∧ mq = (t.getD i r0).ps.length - k,
    ⟨_,_,⟨0,rowB t i,_,by omega,(by by_cases h : rowB t i = 0; (rw [if_neg (not_not_intro h),h]; rfl); rw [if_pos h]),rfl,rfl⟩,⟨⟨.inl rfl,rfl,rfl,rfl⟩,⟨bA,⟨bA,⟨bA,trivial⟩⟩⟩,trivial⟩⟩,?_⟩
   rintro s0 m0 ⟨k,e,F2,hk,he,rfl,hmeas⟩
   by_cases hlt : k < (t.getD i r0).ps.length
   ·have h222 := S222 ((t.getD i r0).ps.getD k p0)
    have h762 := @S76_2 e (pntE ((t.getD i r0).ps.getD k p0))
    rw [first2] at h762
    conv=>whnf
    (conv=>whnf); refine ifB_dec (fun w2=>?_) (fun w2=>?_)
    ·conv=>whnf
     (conv=>whnf); refine ⟨⟨(by omega),(by omega)⟩,?_⟩
     conv=>whnf
     (conv=>whnf); refine .inl ⟨_,_,byX rfl (Sound1.pl (h222) rfl),?_⟩
     conv=>whnf
     (conv=>whnf); refine .inl ⟨_,_,byX rfl (Sound1.pl (h762 ⟨rfl,rfl⟩) rfl),?_⟩
     conv=>whnf
     (conv=>whnf); refine ⟨inK64 (by omega) (by omega),?_⟩
     conv=>whnf
     (conv=>whnf); refine ⟨_,_,⟨⟨k + 1,(if e ≠ 0 then e else pntE ((t.getD i r0).ps.getD k p0)),_,by omega,(by rw [he,ptsP_succ]; by_cases hb : rowB t i = 0; (rw [if_neg (not_not_intro hb),if_neg (not_not_intro hb)]); (rw [if_pos hb,if_pos hb,if_pos hb])),rfl,rfl⟩,by omega⟩,⟨⟨.inl rfl,rfl,rfl,rfl⟩,⟨bA,⟨bA,⟨bA,trivial⟩⟩⟩,trivial⟩⟩
    ·(exfalso; omega)
   ·have ek : k = (t.getD i r0).ps.length := by omega
    subst ek
    rw [rowB_eq] at he
    subst he
    unfold rowX
    by_cases hA : rowA t i = 0
    ·have ho := (rowA_ok hA).1
     rw [if_neg (not_not_intro hA),hA]
     unfold rowO
     by_cases hi0 : i = 0
     ·subst hi0
      rw [if_pos rfl]
      conv=>whnf
      (conv=>whnf); refine ifB_dec (fun w2=>?_) (fun w2=>?_)
      ·(exfalso; omega)
      ·conv=>whnf
       (conv=>whnf); refine ⟨?_,nofun⟩
       (first | contradiction | rfl)
     ·rw [if_neg hi0]
      have ei : ((i : Int) - 1).toNat = i - 1 := by omega
      have hpv := hp.resolve_left hi0
      have hpv' : 0 ≤ (t.getD ((i : Int) - 1).toNat r0).o ∧ (t.getD ((i : Int) - 1).toNat r0).o ≤ 100 := by rw [ei]; exact hpv
      have hd : inK .i64 ((t.getD i r0).o - (t.getD ((i : Int) - 1).toNat r0).o) := by
       have hmx : IntKind.max .i64 = 9223372036854775807 := by decide
       have hmn : IntKind.min .i64 = -9223372036854775808 := by decide
       exact ⟨by omega,by omega⟩
      have hlt := ht.1
      have hi1 : inK .i64 ((i : Int) - 1) := by
       have hmx : IntKind.max .i64 = 9223372036854775807 := by decide
       have hmn : IntKind.min .i64 = -9223372036854775808 := by decide
       exact ⟨by omega,by omega⟩
      have hix : 0 ≤ (i : Int) - 1 ∧ (i : Int) - 1 < (t.length : Int) := by omega
      have h789 := S78 (decide ((t.getD i r0).o - (t.getD ((i : Int) - 1).toNat r0).o > 0)) 9
      have h7822 := S78 (decide ((t.getD i r0).o - (t.getD ((i : Int) - 1).toNat r0).o ≤ 20)) 22
      have h76d := @S76_2 (if decide ((t.getD i r0).o - (t.getD ((i : Int) - 1).toNat r0).o > 0) = true then 0 else 9) (if decide ((t.getD i r0).o - (t.getD ((i : Int) - 1).toNat r0).o ≤ 20) = true then 0 else 22)
      have eq : firstOf [if decide ((t.getD i r0).o - (t.getD ((i : Int) - 1).toNat r0).o > 0) = true then 0 else 9,if decide ((t.getD i r0).o - (t.getD ((i : Int) - 1).toNat r0).o ≤ 20) = true then 0 else 22] = (if (t.getD i r0).o ≤ (t.getD (i - 1) r0).o then 9 else if (t.getD i r0).o - (t.getD (i - 1) r0).o > 20 then 22 else 0) := by
       rw [first2,ei]
       generalize (t.getD i r0).o = a
       generalize (t.getD (i - 1) r0).o = b
       by_cases g1 : a ≤ b
       ·have e1 : (if decide (a - b > 0) = true then (0 : Int) else 9) = 9 := if_neg (by simp; omega)
        rw [e1,if_pos (by decide),if_pos g1]
       ·have e1 : (if decide (a - b > 0) = true then (0 : Int) else 9) = 0 := if_pos (decide_eq_true (by omega))
        rw [e1,if_neg (by decide),if_neg g1]
        by_cases g2 : a - b > 20
        ·rw [if_neg (by simp; omega),if_pos g2]
        ·rw [if_pos (decide_eq_true (by omega)),if_neg g2]
      rw [eq] at h76d
      conv=>whnf
      (conv=>whnf); refine ifB_dec (fun w2=>?_) (fun w2=>?_)
      ·(exfalso; omega)
      ·conv=>whnf
       (conv=>whnf); refine ifB_beq (fun w3=>?_) (fun w3=>?_)
       ·(exfalso; omega)
       ·conv=>whnf
        (conv=>whnf); refine ⟨[],by kernel_rfl,?_⟩
        conv=>whnf
        (conv=>whnf); refine ⟨inK64 (by omega) (by omega),?_⟩
        conv=>whnf
        (conv=>whnf); refine ⟨⟨(by omega),(by omega)⟩,?_⟩
        conv=>whnf
        (conv=>whnf); refine ⟨inK64 (by omega) (by omega),?_⟩
        conv=>whnf
        (conv=>whnf); refine .inl ⟨_,_,byX rfl (Sound1.pl (h789) rfl),?_⟩
        conv=>whnf
        (conv=>whnf); refine .inl ⟨_,_,byX rfl (Sound1.pl (h7822) rfl),?_⟩
        conv=>whnf
        (conv=>whnf); refine .inl ⟨_,_,byX rfl (Sound1.pl (h76d ⟨rfl,rfl⟩) rfl),?_⟩
        conv=>whnf
        (conv=>whnf); refine ⟨?_,nofun⟩
        (first | rfl | contradiction | exact hd | exact hi1 | exact hix | omega)
    ·rw [if_pos hA]
     conv=>whnf
     (conv=>whnf); refine ifB_dec (fun w2=>?_) (fun w2=>?_)
     ·(exfalso; omega)
     ·conv=>whnf
      (conv=>whnf); refine ifB_bne (fun w3=>?_) (fun w3=>?_)
      ·conv=>whnf
       (conv=>whnf); refine ⟨?_,nofun⟩
       (first | contradiction | rfl)
      ·(exfalso; omega)
  ·(exfalso; omega)
 ·have h2' : ¬ (((t.getD (i : Int).toNat r0).ps.length : Int) ≥ 2) := by show ¬ (((t.getD i r0).ps.length : Int) ≥ 2); omega
  have h76 := @S76_3 (if win (t.getD i r0).o 0 100 = true then 0 else 2) (if false = true then 0 else 10) (if decide (((t.getD i r0).ps.length : Int) ≤ 6) = true then 0 else 8)
  rw [rowB_B h2] at h76
  refine sound (d := 2) tok2 mixed2 Tryz.func185 (by kernel_rfl) (by kernel_rfl) ?_
  (conv=>whnf); refine ⟨⟨(by omega),(by omega)⟩,?_⟩
  (conv=>whnf); refine ⟨[],by kernel_rfl,?_⟩
  (conv=>whnf); refine .inl ⟨_,_,byX rfl (Sound1.pl (h75) rfl),?_⟩
  (conv=>whnf); refine .inl ⟨_,_,byX rfl (Sound1.pl (h78w) rfl),?_⟩
  (conv=>whnf); refine ifB_dec (fun w1=>?_) (fun w1=>?_)
  ·(exfalso; omega)
  ·(conv=>whnf); refine .inl ⟨_,_,byX rfl (Sound1.pl (h78f) rfl),?_⟩
   (conv=>whnf); refine .inl ⟨_,_,byX rfl (Sound1.pl (h786) rfl),?_⟩
   (conv=>whnf); refine .inl ⟨_,_,byX rfl (Sound1.pl (h76 ⟨rfl,rfl,rfl⟩) rfl),?_⟩
   (conv=>whnf); refine ⟨[],[1,2,5,6,44,45,46],fun st mq=>∃ (k : Nat) (e : Int) (F2 : Nat → List AV),(k ≤ (t.getD i r0).ps.length) ∧ (e = if rowB t i ≠ 0 then rowB t i else ptsP (t.getD i r0).ps k) ∧ st = ⟨[(1,i64 i),(2,.optr 0 0 0 0),(5,.optr 1 0 0 0),(6,i64 e),(44,ptsA (t.getD i r0).ps),(45,i64 (t.getD i r0).ps.length),(46,i64 k)],⟨[⟨1,1,fun _=>[rowsA t],0,false,true,true⟩,⟨2,1,fun _=>[i64 (t.getD i r0).o,ptsA (t.getD i r0).ps],0,false,true,true⟩,⟨1,3,F2,0,false,true,false⟩],[],none,0⟩,[]⟩ ∧ mq = (t.getD i r0).ps.length - k,
    ⟨_,_,⟨0,rowB t i,_,by omega,(by by_cases h : rowB t i = 0; (rw [if_neg (not_not_intro h),h]; rfl); rw [if_pos h]),rfl,rfl⟩,⟨⟨.inl rfl,rfl,rfl,rfl⟩,⟨bA,⟨bA,⟨bA,trivial⟩⟩⟩,trivial⟩⟩,?_⟩
   rintro s0 m0 ⟨k,e,F2,hk,he,rfl,hmeas⟩
   by_cases hlt : k < (t.getD i r0).ps.length
   ·have h222 := S222 ((t.getD i r0).ps.getD k p0)
    have h762 := @S76_2 e (pntE ((t.getD i r0).ps.getD k p0))
    rw [first2] at h762
    conv=>whnf
    (conv=>whnf); refine ifB_dec (fun w2=>?_) (fun w2=>?_)
    ·conv=>whnf
     (conv=>whnf); refine ⟨⟨(by omega),(by omega)⟩,?_⟩
     conv=>whnf
     (conv=>whnf); refine .inl ⟨_,_,byX rfl (Sound1.pl (h222) rfl),?_⟩
     conv=>whnf
     (conv=>whnf); refine .inl ⟨_,_,byX rfl (Sound1.pl (h762 ⟨rfl,rfl⟩) rfl),?_⟩
     conv=>whnf
     (conv=>whnf); refine ⟨inK64 (by omega) (by omega),?_⟩
     conv=>whnf
     (conv=>whnf); refine ⟨_,_,⟨⟨k + 1,(if e ≠ 0 then e else pntE ((t.getD i r0).ps.getD k p0)),_,by omega,(by rw [he,ptsP_succ]; by_cases hb : rowB t i = 0; (rw [if_neg (not_not_intro hb),if_neg (not_not_intro hb)]); (rw [if_pos hb,if_pos hb,if_pos hb])),rfl,rfl⟩,by omega⟩,⟨⟨.inl rfl,rfl,rfl,rfl⟩,⟨bA,⟨bA,⟨bA,trivial⟩⟩⟩,trivial⟩⟩
    ·(exfalso; omega)
   ·have ek : k = (t.getD i r0).ps.length := by omega
    subst ek
    rw [rowB_eq] at he
    subst he
    unfold rowX
    by_cases hA : rowA t i = 0
    ·have ho := (rowA_ok hA).1
     rw [if_neg (not_not_intro hA),hA]
     unfold rowO
     by_cases hi0 : i = 0
     ·subst hi0
      rw [if_pos rfl]
      conv=>whnf
      (conv=>whnf); refine ifB_dec (fun w2=>?_) (fun w2=>?_)
      ·(exfalso; omega)
      ·conv=>whnf
       (conv=>whnf); refine ⟨?_,nofun⟩
       (first | contradiction | rfl)
     ·rw [if_neg hi0]
      have ei : ((i : Int) - 1).toNat = i - 1 := by omega
      have hpv := hp.resolve_left hi0
      have hpv' : 0 ≤ (t.getD ((i : Int) - 1).toNat r0).o ∧ (t.getD ((i : Int) - 1).toNat r0).o ≤ 100 := by rw [ei]; exact hpv
      have hd : inK .i64 ((t.getD i r0).o - (t.getD ((i : Int) - 1).toNat r0).o) := by
       have hmx : IntKind.max .i64 = 9223372036854775807 := by decide
       have hmn : IntKind.min .i64 = -9223372036854775808 := by decide
       exact ⟨by omega,by omega⟩
      have hlt := ht.1
      have hi1 : inK .i64 ((i : Int) - 1) := by
       have hmx : IntKind.max .i64 = 9223372036854775807 := by decide
       have hmn : IntKind.min .i64 = -9223372036854775808 := by decide
       exact ⟨by omega,by omega⟩
      have hix : 0 ≤ (i : Int) - 1 ∧ (i : Int) - 1 < (t.length : Int) := by omega
      have h789 := S78 (decide ((t.getD i r0).o - (t.getD ((i : Int) - 1).toNat r0).o > 0)) 9
      have h7822 := S78 (decide ((t.getD i r0).o - (t.getD ((i : Int) - 1).toNat r0).o ≤ 20)) 22
      have h76d := @S76_2 (if decide ((t.getD i r0).o - (t.getD ((i : Int) - 1).toNat r0).o > 0) = true then 0 else 9) (if decide ((t.getD i r0).o - (t.getD ((i : Int) - 1).toNat r0).o ≤ 20) = true then 0 else 22)
      have eq : firstOf [if decide ((t.getD i r0).o - (t.getD ((i : Int) - 1).toNat r0).o > 0) = true then 0 else 9,if decide ((t.getD i r0).o - (t.getD ((i : Int) - 1).toNat r0).o ≤ 20) = true then 0 else 22] = (if (t.getD i r0).o ≤ (t.getD (i - 1) r0).o then 9 else if (t.getD i r0).o - (t.getD (i - 1) r0).o > 20 then 22 else 0) := by
       rw [first2,ei]
       generalize (t.getD i r0).o = a
       generalize (t.getD (i - 1) r0).o = b
       by_cases g1 : a ≤ b
       ·have e1 : (if decide (a - b > 0) = true then (0 : Int) else 9) = 9 := if_neg (by simp; omega)
        rw [e1,if_pos (by decide),if_pos g1]
       ·have e1 : (if decide (a - b > 0) = true then (0 : Int) else 9) = 0 := if_pos (decide_eq_true (by omega))
        rw [e1,if_neg (by decide),if_neg g1]
        by_cases g2 : a - b > 20
        ·rw [if_neg (by simp; omega),if_pos g2]
        ·rw [if_pos (decide_eq_true (by omega)),if_neg g2]
      rw [eq] at h76d
      conv=>whnf
      (conv=>whnf); refine ifB_dec (fun w2=>?_) (fun w2=>?_)
      ·(exfalso; omega)
      ·conv=>whnf
       (conv=>whnf); refine ifB_beq (fun w3=>?_) (fun w3=>?_)
       ·(exfalso; omega)
       ·conv=>whnf
        (conv=>whnf); refine ⟨[],by kernel_rfl,?_⟩
        conv=>whnf
        (conv=>whnf); refine ⟨inK64 (by omega) (by omega),?_⟩
        conv=>whnf
        (conv=>whnf); refine ⟨⟨(by omega),(by omega)⟩,?_⟩
        conv=>whnf
        (conv=>whnf); refine ⟨inK64 (by omega) (by omega),?_⟩
        conv=>whnf
        (conv=>whnf); refine .inl ⟨_,_,byX rfl (Sound1.pl (h789) rfl),?_⟩
        conv=>whnf
        (conv=>whnf); refine .inl ⟨_,_,byX rfl (Sound1.pl (h7822) rfl),?_⟩
        conv=>whnf
        (conv=>whnf); refine .inl ⟨_,_,byX rfl (Sound1.pl (h76d ⟨rfl,rfl⟩) rfl),?_⟩
        conv=>whnf
        (conv=>whnf); refine ⟨?_,nofun⟩
        (first | rfl | contradiction | exact hd | exact hi1 | exact hix | omega)
    ·rw [if_pos hA]
     conv=>whnf
     (conv=>whnf); refine ifB_dec (fun w2=>?_) (fun w2=>?_)
     ·(exfalso; omega)
     ·conv=>whnf
      (conv=>whnf); refine ifB_bne (fun w3=>?_) (fun w3=>?_)
      ·conv=>whnf
       (conv=>whnf); refine ⟨?_,nofun⟩
       (first | contradiction | rfl)
      ·(exfalso; omega)
end Go.Tr

/- Contracts of chapter 5: triangles, the check of a table. Conditions: none. -/
-- seat YtgbdlkajmmjahaaGreat
namespace Go.Tr
open Go Go.Proofs
set_option maxRecDepth 20000
set_option maxHeartbeats 8000000

def PtOk (p : P3) : Prop := (-1000 ≤ p.1 ∧ p.1 ≤ 1000) ∧ (-1000 ≤ p.2.1 ∧ p.2.1 ≤ 1000) ∧ -10000 ≤ p.2.2 ∧ p.2.2 ≤ 10000
theorem mul2 {a b : Int} (ha : a.natAbs ≤ 2000) (hb : b.natAbs ≤ 2000) : -4000000 ≤ a * b ∧ a * b ≤ 4000000 := by
 have h := Nat.mul_le_mul ha hb
 rw [← Int.natAbs_mul] at h
 omega
theorem turn_b {a b c : P3} (ha : PtOk a) (hb : PtOk b) (hc : PtOk c) : -8000000 ≤ turnI a b c ∧ turnI a b c ≤ 8000000 := by
 unfold PtOk at *
 unfold turnI
 have h1 := mul2 (a := b.1 - a.1) (b := c.2.1 - a.2.1) (by omega) (by omega)
 have h2 := mul2 (a := c.1 - a.1) (b := b.2.1 - a.2.1) (by omega) (by omega)
 omega
theorem S161 (a b c : P3) (ha : PtOk a) (hb : PtOk b) (hc : PtOk c) : SP 161 [.agg (ptC a),.agg (ptC b),.agg (ptC c)] (i64 (turnI a b c)) false := by
 have h1 := mul2 (a := b.1 - a.1) (b := c.2.1 - a.2.1) (by unfold PtOk at *; omega) (by unfold PtOk at *; omega)
 have h2 := mul2 (a := c.1 - a.1) (b := b.2.1 - a.2.1) (by unfold PtOk at *; omega) (by unfold PtOk at *; omega)
 unfold PtOk at *
 unfold turnI
 refine sound (d := 2) tok2 mixed2 Tryz.func161 (by kernel_rfl) (by kernel_rfl) ?_
 (conv=>whnf); refine ⟨inK64 (by omega) (by omega),?_⟩
 (conv=>whnf); refine ⟨inK64 (by omega) (by omega),?_⟩
 (conv=>whnf); refine ⟨inK64 (by omega) (by omega),?_⟩
 (conv=>whnf); refine ⟨inK64 (by omega) (by omega),?_⟩
 (conv=>whnf); refine ⟨inK64 (by omega) (by omega),?_⟩
 (conv=>whnf); refine ⟨inK64 (by omega) (by omega),?_⟩
 (conv=>whnf); refine ⟨inK64 (by omega) (by omega),?_⟩
 (conv=>whnf); refine ⟨?_,nofun⟩
 (first | rfl | contradiction)
abbrev Tri := (P3 × Int) × (P3 × Int) × P3 × Int
abbrev triC (x : Tri) : List AV := [i64 x.1.1.1,i64 x.1.1.2.1,i64 x.1.1.2.2,i64 x.1.2,i64 x.2.1.1.1,i64 x.2.1.1.2.1,i64 x.2.1.1.2.2,i64 x.2.1.2,i64 x.2.2.1.1,i64 x.2.2.1.2.1,i64 x.2.2.1.2.2,i64 x.2.2.2]
abbrev triA (x : Tri) : AV := .agg (triC x)
theorem S135 (x : Tri) (ha : PtOk x.1.1) (hb : PtOk x.2.1.1) (hc : PtOk x.2.2.1) : SP 135 [triA x] (i64 (turnI x.1.1 x.2.1.1 x.2.2.1)) false := by
 have h := S161 _ _ _ ha hb hc
 refine sound (d := 2) tok2 mixed2 Tryz.func135 (by kernel_rfl) (by kernel_rfl) ?_
 (conv=>whnf); refine ⟨⟨(by omega),(by omega)⟩,?_⟩
 (conv=>whnf); refine ⟨⟨(by omega),(by omega)⟩,?_⟩
 (conv=>whnf); refine ⟨⟨(by omega),(by omega)⟩,?_⟩
 (conv=>whnf); refine .inl ⟨_,_,byX rfl (Sound1.pl (h) rfl),?_⟩
 (conv=>whnf); refine ⟨?_,nofun⟩
 (first | rfl | contradiction)
structure RwOk (t : List MRow) : Prop where
 n : 2 ≤ t.length ∧ t.length ≤ 6
 np : 2 ≤ npT t ∧ npT t ≤ 6
 len : ∀ i,i < t.length → (t.getD i r0).ps.length = npT t
 pts : ∀ i k,i < t.length → k < npT t → PtOk (ptT t i k)
theorem RwOk.of {t : List MRow} (hn : 2 ≤ t.length ∧ t.length ≤ 6) (h : (fstE (rowX t) t.length 0).2 = 0) : RwOk t := by
 have hA : ∀ i,i < t.length → rowA t i = 0 := fun i hi=>by
  have := fstE_all h i (Nat.zero_le _) (by omega)
  unfold rowX at this
  by_cases e : rowA t i = 0
  ·exact e
  ·rw [if_pos e] at this; exact this
 have hlen : ∀ i,i < t.length → (t.getD i r0).ps.length = npT t := fun i hi=>(rowA_ok (hA i hi)).2.1.2
 have hp0 := rowA_ok (hA 0 (by omega))
 refine ⟨hn,⟨hp0.2.1.1,hp0.2.2.1⟩,hlen,fun i k hi hk=>?_⟩
 have := (rowA_ok (hA i hi)).2.2.2
 have := fstE_all this k (Nat.zero_le _) (by rw [hlen i hi]; omega)
 exact pntE_ok this
set_option maxHeartbeats 8000000 in
theorem S154 (t : List MRow) (ht : Fit t) : SP 154 [tblA t] (.tuple [i64 (chkM t).1, i64 (chkM t).2]) false := by
 have h1 := ht.1
 have h78a := S78 (decide ((t.length : Int) ≥ 2)) 10
 have h78b := S78 (decide ((t.length : Int) ≤ 6)) 8
 have h76 := @S76_2 (if decide ((t.length : Int) ≥ 2) = true then 0 else 10) (if decide ((t.length : Int) ≤ 6) = true then 0 else 8)
 have eq : firstOf [if decide ((t.length : Int) ≥ 2) = true then (0 : Int) else 10,if decide ((t.length : Int) ≤ 6) = true then 0 else 8] = if t.length < 2 then 10 else if t.length > 6 then 8 else 0 := by
  rw [first2]
  by_cases g1 : t.length < 2
  ·have e1 : (if decide ((t.length : Int) ≥ 2) = true then (0 : Int) else 10) = 10 := if_neg (by simp; omega)
   rw [e1,if_pos (by decide),if_pos g1]
  ·have e1 : (if decide ((t.length : Int) ≥ 2) = true then (0 : Int) else 10) = 0 := if_pos (decide_eq_true (by omega))
   rw [e1,if_neg (by decide),if_neg g1]
   by_cases g2 : t.length > 6
   ·rw [if_neg (by simp; omega),if_pos g2]
   ·rw [if_pos (decide_eq_true (by omega)),if_neg g2]
 rw [eq] at h76
 unfold chkM
 by_cases g1 : t.length < 2
 ·rw [if_pos g1]
  rw [if_pos g1] at h76
  refine sound (d := 2) tok2 mixed2 Tryz.func154 (by kernel_rfl) (by kernel_rfl) ?_
  (conv=>whnf); refine ⟨[],by kernel_rfl,?_⟩
  (conv=>whnf); refine .inl ⟨_,_,byX rfl (Sound1.pl (h78a) rfl),?_⟩
  (conv=>whnf); refine .inl ⟨_,_,byX rfl (Sound1.pl (h78b) rfl),?_⟩
  (conv=>whnf); refine .inl ⟨_,_,byX rfl (Sound1.pl (h76 ⟨rfl,rfl⟩) rfl),?_⟩
  (conv=>whnf); refine ⟨?_,nofun⟩
  (first | contradiction | exact ave_tup2 rfl rfl)
 ·rw [if_neg g1]
  rw [if_neg g1] at h76
  by_cases g2 : t.length > 6
  ·rw [if_pos g2]
   rw [if_pos g2] at h76
   refine sound (d := 2) tok2 mixed2 Tryz.func154 (by kernel_rfl) (by kernel_rfl) ?_
   (conv=>whnf); refine ⟨[],by kernel_rfl,?_⟩
   (conv=>whnf); refine .inl ⟨_,_,byX rfl (Sound1.pl (h78a) rfl),?_⟩
   (conv=>whnf); refine .inl ⟨_,_,byX rfl (Sound1.pl (h78b) rfl),?_⟩
   (conv=>whnf); refine .inl ⟨_,_,byX rfl (Sound1.pl (h76 ⟨rfl,rfl⟩) rfl),?_⟩
   (conv=>whnf); refine ⟨?_,nofun⟩
   (first | contradiction | exact ave_tup2 rfl rfl)
  ·rw [if_neg g2]
   rw [if_neg g2] at h76
   refine sound (d := 2) tok2 mixed2 Tryz.func154 (by kernel_rfl) (by kernel_rfl) ?_
   (conv=>whnf); refine ⟨[],by kernel_rfl,?_⟩
   (conv=>whnf); refine .inl ⟨_,_,byX rfl (Sound1.pl (h78a) rfl),?_⟩
   (conv=>whnf); refine .inl ⟨_,_,byX rfl (Sound1.pl (h78b) rfl),?_⟩
   (conv=>whnf); refine .inl ⟨_,_,byX rfl (Sound1.pl (h76 ⟨rfl,rfl⟩) rfl),?_⟩
   (conv=>whnf); refine ⟨[],[1,2,3,26,27],fun st mq=>∃ (i : Nat) (F3 : Nat → List AV),(i ≤ t.length) ∧ (fstE (rowX t) (t.length - i) i = fstE (rowX t) t.length 0) ∧ (∀ j,j < i → rowX t j = 0) ∧ st = ⟨[(1,.optr 0 0 0 0),(2,.optr 1 0 0 0),(3,.optr 2 0 0 0),(26,i64 t.length),(27,i64 i)],⟨[⟨1,1,fun _=>[rowsA t],0,false,true,true⟩,⟨1,1,fun _=>[i64 0],0,false,true,true⟩,⟨1,1,fun _=>[i64 0],0,false,true,true⟩,⟨1,2,F3,0,false,true,false⟩],[],none,0⟩,[]⟩ ∧ mq = t.length - i,
    ⟨_,_,⟨0,_,by omega,rfl,fun j h=>absurd h (Nat.not_lt_zero j),rfl,rfl⟩,⟨⟨.inl rfl,rfl,rfl,rfl⟩,⟨bA,⟨bA,⟨bA,⟨bA,trivial⟩⟩⟩⟩,trivial⟩⟩,?_⟩
   rintro s0 m0 ⟨i,F3,hi,he,hz,rfl,hmeas⟩
   by_cases hlt : i < t.length
   ·have hp : i = 0 ∨ (0 ≤ (t.getD (i - 1) r0).o ∧ (t.getD (i - 1) r0).o ≤ 100) := by
     by_cases e : i = 0
     ·exact .inl e
     ·right
      have h2 := hz (i - 1) (by omega)
      unfold rowX at h2
      by_cases e2 : rowA t (i - 1) = 0
      ·exact (rowA_ok e2).1
      ·rw [if_pos e2] at h2; exact absurd h2 e2
    have h185 := S185 t ht i hlt hp
    rw [fstE_step _ hlt] at he
    by_cases hr : rowX t i = 0
    ·rw [if_neg (not_not_intro hr)] at he
     rw [hr] at h185
     conv=>whnf
     (conv=>whnf); refine ifB_dec (fun w1=>?_) (fun w1=>?_)
     ·conv=>whnf
      (conv=>whnf); refine .inl ⟨_,_,byX rfl (Sound1.pl (h185) rfl),?_⟩
      conv=>whnf
      (conv=>whnf); refine ⟨inK64 (by omega) (by omega),?_⟩
      conv=>whnf
      (conv=>whnf); refine ⟨_,_,⟨⟨i + 1,_,by omega,he,(fun j hj=>by by_cases e : j = i; (rw [e]; exact hr); exact hz j (by omega)),rfl,rfl⟩,by omega⟩,⟨⟨.inl rfl,rfl,rfl,rfl⟩,⟨bA,⟨bA,⟨bA,⟨bA,trivial⟩⟩⟩⟩,trivial⟩⟩
     ·(exfalso; omega)
    ·rw [if_pos hr] at he
     rw [← he,if_pos hr]
     conv=>whnf
     (conv=>whnf); refine ifB_dec (fun w1=>?_) (fun w1=>?_)
     ·conv=>whnf
      (conv=>whnf); refine .inl ⟨_,_,byX rfl (Sound1.pl (h185) rfl),?_⟩
      conv=>whnf
      (conv=>whnf); refine ifB_bne (fun w2=>?_) (fun w2=>?_)
      ·conv=>whnf
       (conv=>whnf); refine ⟨?_,nofun⟩
       (first | contradiction | exact ave_tup2 rfl rfl)
      ·(exfalso; omega)
     ·(exfalso; omega)
   ·rw [fstE_end _ hlt] at he
    have hE : (fstE (rowX t) t.length 0).2 = 0 := by rw [← he]
    have hR := RwOk.of ⟨by omega,by omega⟩ hE
    rw [if_neg (not_not_intro hE)]
    conv=>whnf
    (conv=>whnf); refine ifB_dec (fun w1=>?_) (fun w1=>?_)
    ·(exfalso; omega)
    ·conv => whnf
     (conv=>whnf); refine .inr (.inl ⟨[],?_⟩)
     conv=>whnf
     (conv=>whnf); refine ⟨(by first | rfl | assumption),?_⟩
     refine ⟨_,keep_ok [1,2,3,39] _,?_⟩
     conv=>whnf
     (conv=>whnf); refine ⟨inK64 (by omega) (by omega),?_⟩
     conv=>whnf
     (conv=>whnf); refine ⟨[],[0,1,14,15],fun st mq=>∃ (i : Nat) (F3 : Nat → List AV),(i ≤ t.length - 1) ∧ (fstE (stripE t) (t.length - 1 - i) i = fstE (stripE t) (t.length - 1) 0) ∧ st = ⟨[(0,.yld 0),(1,.optr 4 0 0 0),(14,i64 ((t.length : Int) - 1)),(15,i64 i)],⟨[⟨1,1,fun _=>[rowsA t],0,false,true,true⟩,⟨1,1,fun _=>[i64 0],0,false,true,true⟩,⟨1,1,fun _=>[i64 0],0,false,true,true⟩,⟨1,2,F3,0,false,true,false⟩,⟨1,1,fun _=>[rowsA t],0,false,true,true⟩],[],none,1⟩,[(1,.optr 0 0 0 0),(2,.optr 1 0 0 0),(3,.optr 2 0 0 0),(39,.func (.func 155) 0 [.optr 4 0 0 0])]⟩ ∧ mq = t.length - 1 - i,
      ⟨_,_,⟨0,_,by omega,rfl,rfl,rfl⟩,⟨⟨.inl rfl,rfl,rfl,rfl⟩,⟨bA,⟨bA,⟨bA,⟨bA,⟨bA,trivial⟩⟩⟩⟩⟩,trivial⟩⟩,?_⟩
     rintro s0 m0 ⟨i,F3,hi,hs,rfl,hmeas⟩
     by_cases hlt2 : i < t.length - 1
     ·have hl1 : (t.getD i r0).ps.length = npT t := hR.len i (by omega)
      have hl2 : (t.getD (i + 1) r0).ps.length = npT t := hR.len (i + 1) (by omega)
      have hnp := hR.np
      rw [fstE_step _ hlt2] at hs
      have q1 : inK .i64 (((t.getD i r0).ps.length : Int) - 1) := by
       have hmx : IntKind.max .i64 = 9223372036854775807 := by decide
       have hmn : IntKind.min .i64 = -9223372036854775808 := by decide
       exact ⟨by omega,by omega⟩
      conv=>whnf
      conv=>whnf
      (conv=>whnf); refine ifB_dec (fun w2=>?_) (fun w2=>?_)
      ·conv => whnf
       conv=>whnf
       (conv=>whnf); refine ⟨[(6,13),(10,13)],by kernel_rfl,?_⟩
       conv=>whnf
       conv=>whnf
       (conv=>whnf); refine ⟨⟨(by omega),(by omega)⟩,?_⟩
       conv=>whnf
       conv=>whnf
       (conv=>whnf); refine ⟨inK64 (by omega) (by omega),?_⟩
       conv=>whnf
       conv=>whnf
       (conv=>whnf); refine ⟨⟨(by omega),(by omega)⟩,?_⟩
       conv=>whnf
       conv=>whnf
       (conv=>whnf); refine ⟨by assumption,?_⟩
       conv=>whnf
       conv=>whnf
       (conv=>whnf); refine ⟨[],[0,1,3,4,5,14,15,32,33],fun st mq=>∃ (k : Nat) (F3 : Nat → List AV),(k ≤ npT t - 1) ∧ (fstE (quadE t i) (npT t - 1 - k) k = fstE (quadE t i) (npT t - 1) 0) ∧ st = ⟨[(0,.yld 0),(1,.optr 4 0 0 0),(3,i64 i),(4,.optr 5 0 0 0),(5,.optr 6 0 0 0),(14,i64 ((t.length : Int) - 1)),(15,i64 i),(32,i64 (((t.getD i r0).ps.length : Int) - 1)),(33,i64 k)],⟨[⟨1,1,fun _=>[rowsA t],0,false,true,true⟩,⟨1,1,fun _=>[i64 0],0,false,true,true⟩,⟨1,1,fun _=>[i64 0],0,false,true,true⟩,⟨1,2,F3,0,false,true,false⟩,⟨1,1,fun _=>[rowsA t],0,false,true,true⟩,⟨2,1,fun _=>[i64 (t.getD i r0).o,ptsA (t.getD i r0).ps],0,false,true,true⟩,⟨2,1,fun _=>[i64 (t.getD (i + 1) r0).o,ptsA (t.getD (i + 1) r0).ps],0,false,true,true⟩],[],none,1⟩,[(1,.optr 0 0 0 0),(2,.optr 1 0 0 0),(3,.optr 2 0 0 0),(39,.func (.func 155) 0 [.optr 4 0 0 0])]⟩ ∧ mq = npT t - 1 - k,
        ⟨_,_,⟨0,_,by omega,rfl,rfl,rfl⟩,⟨⟨.inl rfl,rfl,rfl,rfl⟩,⟨bA,⟨bA,⟨bA,⟨bA,⟨bA,⟨bA,⟨bA,trivial⟩⟩⟩⟩⟩⟩⟩,trivial⟩⟩,?_⟩
       rintro s0 m0 ⟨k,F3,hk,hq,rfl,hmeas⟩
       have hse : stripE t i = (fstE (quadE t i) (npT t - 1) 0).2 := by unfold stripE; rw [hl1]
       by_cases hlt3 : k < npT t - 1
       ·have p1 := hR.pts i k (by omega) (by omega)
        have p2 := hR.pts i (k + 1) (by omega) (by omega)
        have p3 := hR.pts (i + 1) k (by omega) (by omega)
        have p4 := hR.pts (i + 1) (k + 1) (by omega) (by omega)
        have ha := S135 ((ptT t i k,(t.getD i r0).o),(ptT t i (k + 1),(t.getD i r0).o),(ptT t (i + 1) k,(t.getD (i + 1) r0).o)) p1 p2 p3
        have hb := S135 ((ptT t i (k + 1),(t.getD i r0).o),(ptT t (i + 1) (k + 1),(t.getD (i + 1) r0).o),(ptT t (i + 1) k,(t.getD (i + 1) r0).o)) p2 p4 p3
        change SP 135 _ (i64 (tri1 t i k)) false at ha
        change SP 135 _ (i64 (tri2 t i k)) false at hb
        rw [fstE_step _ hlt3] at hq
        have hend : quadE t i k = 13 → fstE (stripE t) (t.length - 1) 0 = ((i : Int),13) := fun e=>by
         rw [e,if_pos (by decide)] at hq
         have e2 : stripE t i = 13 := by rw [hse,← hq]
         rw [e2,if_pos (by decide)] at hs
         exact hs.symm
        by_cases g1 : tri1 t i k ≤ 0
        ·rw [hend (if_pos g1)]
         conv=>whnf
         conv=>whnf
         conv=>whnf
         (conv=>whnf); refine ifB_dec (fun w3=>?_) (fun w3=>?_)
         ·conv=>whnf
          conv=>whnf
          conv=>whnf
          (conv=>whnf); refine ⟨[(9,19),(13,19),(15,19)],by kernel_rfl,?_⟩
          conv=>whnf
          conv=>whnf
          conv=>whnf
          (conv=>whnf); refine ⟨⟨(by omega),(by omega)⟩,?_⟩
          conv=>whnf
          conv=>whnf
          conv=>whnf
          (conv=>whnf); refine ⟨inK64 (by omega) (by omega),?_⟩
          conv=>whnf
          conv=>whnf
          conv=>whnf
          (conv=>whnf); refine ⟨⟨(by omega),(by omega)⟩,?_⟩
          conv=>whnf
          conv=>whnf
          conv=>whnf
          (conv=>whnf); refine ⟨[(9,19),(13,19),(15,19)],by kernel_rfl,?_⟩
          conv=>whnf
          conv=>whnf
          conv=>whnf
          (conv=>whnf); refine ⟨⟨(by omega),(by omega)⟩,?_⟩
          conv=>whnf
          conv=>whnf
          conv=>whnf
          (conv=>whnf); refine ⟨inK64 (by omega) (by omega),?_⟩
          conv=>whnf
          conv=>whnf
          conv=>whnf
          (conv=>whnf); refine ⟨⟨(by omega),(by omega)⟩,?_⟩
          conv=>whnf
          conv=>whnf
          conv=>whnf
          (conv=>whnf); refine ⟨(by first | rfl | assumption),?_⟩
          conv=>whnf
          conv=>whnf
          conv=>whnf
          (conv=>whnf); refine .inl ⟨_,_,byX rfl (Sound1.pl (ha) rfl),?_⟩
          conv=>whnf
          conv=>whnf
          conv=>whnf
          (conv=>whnf); refine ifB_dec (fun w4=>?_) (fun w4=>?_)
          ·conv=>whnf
           conv=>whnf
           conv=>whnf
           (conv=>whnf); refine ⟨?_,nofun⟩
           (first | contradiction | omega | exact ave_tup2 rfl rfl)
          ·(exfalso; omega)
         ·(exfalso; omega)
        ·by_cases g2 : tri2 t i k ≤ 0
         ·rw [hend (by unfold quadE; rw [if_neg g1, if_pos g2])]
          conv=>whnf
          conv=>whnf
          conv=>whnf
          (conv=>whnf); refine ifB_dec (fun w3=>?_) (fun w3=>?_)
          ·conv=>whnf
           conv=>whnf
           conv=>whnf
           (conv=>whnf); refine ⟨[(9,19),(13,19),(15,19)],by kernel_rfl,?_⟩
           conv=>whnf
           conv=>whnf
           conv=>whnf
           (conv=>whnf); refine ⟨⟨(by omega),(by omega)⟩,?_⟩
           conv=>whnf
           conv=>whnf
           conv=>whnf
           (conv=>whnf); refine ⟨inK64 (by omega) (by omega),?_⟩
           conv=>whnf
           conv=>whnf
           conv=>whnf
           (conv=>whnf); refine ⟨⟨(by omega),(by omega)⟩,?_⟩
           conv=>whnf
           conv=>whnf
           conv=>whnf
           (conv=>whnf); refine ⟨[(9,19),(13,19),(15,19)],by kernel_rfl,?_⟩
           conv=>whnf
           conv=>whnf
           conv=>whnf
           (conv=>whnf); refine ⟨⟨(by omega),(by omega)⟩,?_⟩
           conv=>whnf
           conv=>whnf
           conv=>whnf
           (conv=>whnf); refine ⟨inK64 (by omega) (by omega),?_⟩
           conv=>whnf
           conv=>whnf
           conv=>whnf
           (conv=>whnf); refine ⟨⟨(by omega),(by omega)⟩,?_⟩
           conv=>whnf
           conv=>whnf
           conv=>whnf
           (conv=>whnf); refine ⟨(by first | rfl | assumption),?_⟩
           conv=>whnf
           conv=>whnf
           conv=>whnf
           (conv=>whnf); refine .inl ⟨_,_,byX rfl (Sound1.pl (ha) rfl),?_⟩
           conv=>whnf
           conv=>whnf
           conv=>whnf
           (conv=>whnf); refine ifB_dec (fun w4=>?_) (fun w4=>?_)
           ·(exfalso; omega)
           ·conv=>whnf
            conv=>whnf
            conv=>whnf
            (conv=>whnf); refine ⟨(by first | rfl | assumption),?_⟩
            conv=>whnf
            conv=>whnf
            conv=>whnf
            (conv=>whnf); refine .inl ⟨_,_,byX rfl (Sound1.pl (hb) rfl),?_⟩
            conv=>whnf
            conv=>whnf
            conv=>whnf
            (conv=>whnf); refine ifB_dec (fun w5=>?_) (fun w5=>?_)
            ·conv=>whnf
             conv=>whnf
             conv=>whnf
             (conv=>whnf); refine ⟨?_,nofun⟩
             (first | contradiction | omega | exact ave_tup2 rfl rfl)
            ·(exfalso; omega)
          ·(exfalso; omega)
         ·have e0 : quadE t i k = 0 := by unfold quadE; rw [if_neg g1,if_neg g2]
          rw [e0,if_neg (by decide)] at hq
          conv=>whnf
          conv=>whnf
          conv=>whnf
          (conv=>whnf); refine ifB_dec (fun w3=>?_) (fun w3=>?_)
          ·conv=>whnf
           conv=>whnf
           conv=>whnf
           (conv=>whnf); refine ⟨[(9,19),(13,19),(15,19)],by kernel_rfl,?_⟩
           conv=>whnf
           conv=>whnf
           conv=>whnf
           (conv=>whnf); refine ⟨⟨(by omega),(by omega)⟩,?_⟩
           conv=>whnf
           conv=>whnf
           conv=>whnf
           (conv=>whnf); refine ⟨inK64 (by omega) (by omega),?_⟩
           conv=>whnf
           conv=>whnf
           conv=>whnf
           (conv=>whnf); refine ⟨⟨(by omega),(by omega)⟩,?_⟩
           conv=>whnf
           conv=>whnf
           conv=>whnf
           (conv=>whnf); refine ⟨[(9,19),(13,19),(15,19)],by kernel_rfl,?_⟩
           conv=>whnf
           conv=>whnf
           conv=>whnf
           (conv=>whnf); refine ⟨⟨(by omega),(by omega)⟩,?_⟩
           conv=>whnf
           conv=>whnf
           conv=>whnf
           (conv=>whnf); refine ⟨inK64 (by omega) (by omega),?_⟩
           conv=>whnf
           conv=>whnf
           conv=>whnf
           (conv=>whnf); refine ⟨⟨(by omega),(by omega)⟩,?_⟩
           conv=>whnf
           conv=>whnf
           conv=>whnf
           (conv=>whnf); refine ⟨(by first | rfl | assumption),?_⟩
           conv=>whnf
           conv=>whnf
           conv=>whnf
           (conv=>whnf); refine .inl ⟨_,_,byX rfl (Sound1.pl (ha) rfl),?_⟩
           conv=>whnf
           conv=>whnf
           conv=>whnf
           (conv=>whnf); refine ifB_dec (fun w4=>?_) (fun w4=>?_)
           ·(exfalso; omega)
           ·conv=>whnf
            conv=>whnf
            conv=>whnf
            (conv=>whnf); refine ⟨(by first | rfl | assumption),?_⟩
            conv=>whnf
            conv=>whnf
            conv=>whnf
            (conv=>whnf); refine .inl ⟨_,_,byX rfl (Sound1.pl (hb) rfl),?_⟩
            conv=>whnf
            conv=>whnf
            conv=>whnf
            (conv=>whnf); refine ifB_dec (fun w5=>?_) (fun w5=>?_)
            ·(exfalso; omega)
            ·conv=>whnf
             conv=>whnf
             conv=>whnf
             (conv=>whnf); refine ⟨inK64 (by omega) (by omega),?_⟩
             conv=>whnf
             conv=>whnf
             conv=>whnf
             (conv=>whnf); refine ⟨_,_,⟨⟨k + 1,_,by omega,hq,rfl,rfl⟩,by omega⟩,⟨⟨.inl rfl,rfl,rfl,rfl⟩,⟨bA,⟨bA,⟨bA,⟨bA,⟨bA,⟨bA,⟨bA,trivial⟩⟩⟩⟩⟩⟩⟩,trivial⟩⟩
          ·(exfalso; omega)
       ·rw [fstE_end _ hlt3] at hq
        have e0 : stripE t i = 0 := by rw [hse,← hq]
        rw [e0,if_neg (by decide)] at hs
        conv=>whnf
        conv=>whnf
        conv=>whnf
        (conv=>whnf); refine ifB_dec (fun w3=>?_) (fun w3=>?_)
        ·(exfalso; omega)
        ·conv=>whnf
         conv=>whnf
         conv=>whnf
         (conv=>whnf); refine ⟨inK64 (by omega) (by omega),?_⟩
         conv=>whnf
         conv=>whnf
         conv=>whnf
         (conv=>whnf); refine ⟨_,_,⟨⟨i + 1,_,by omega,hs,rfl,rfl⟩,by omega⟩,⟨⟨.inl rfl,rfl,rfl,rfl⟩,⟨bA,⟨bA,⟨bA,⟨bA,⟨bA,trivial⟩⟩⟩⟩⟩,trivial⟩⟩
      ·(exfalso; omega)
     ·rw [fstE_end _ hlt2] at hs
      rw [← hs]
      conv=>whnf
      conv=>whnf
      (conv=>whnf); refine ifB_dec (fun w2=>?_) (fun w2=>?_)
      ·(exfalso; omega)
      ·conv=>whnf
       conv=>whnf
       (conv=>whnf); refine ⟨?_,nofun⟩
       (first | contradiction | omega | exact ave_tup2 rfl rfl)
end Go.Tr

/- Contracts of chapter 5: fractions of any size: quotients, differences, signs; as small ones. Conditions: none. -/
-- seat YtgbdlkajmmjahaaGreat
namespace Go.Tr
open Go Go.Proofs
set_option maxRecDepth 20000
set_option maxHeartbeats 8000000

theorem S111 (f : Int × Int) : SP 111 [gaF f] (vb (decide ((-1000000000 ≤ f.1 ∧ f.1 ≤ 1000000000) ∧ 1 ≤ f.2 ∧ f.2 ≤ 1000000000))) false := by
 have h1 := S36 f.1 (-1000000000) 1000000000
 have h2 := S36 f.2 1 1000000000
 refine sound (d := 2) tok2 mixed2 Tryz.func111 (by kernel_rfl) (by kernel_rfl) ?_
 (conv=>whnf); refine .inl ⟨_,_,byX rfl (Sound1.pl (h1) rfl),?_⟩
 (conv=>whnf); refine ifB_dec (fun w1=>?_) (fun w1=>?_)
 ·(conv=>whnf); refine .inl ⟨_,_,byX rfl (Sound1.pl (h2) rfl),?_⟩
  (conv=>whnf); refine ⟨?_,nofun⟩
  exact endb (decide_eq_decide.2 ⟨fun h=>⟨by assumption,h⟩,fun h=>h.2⟩)
 ·(conv=>whnf); refine ⟨?_,nofun⟩
  exact endb (decide_eq_false (fun h=>absurd h.1 (by assumption))).symm
end Go.Tr

/- Contracts of chapter 5: efficiency, quadrant and margin of a spot. Conditions: none. -/
-- seat YtgbdlkajmmjahaaGreat
namespace Go.Tr
open Go Go.Proofs
set_option maxRecDepth 20000
set_option maxHeartbeats 8000000

def SpOk (s : F3) : Prop := spE s = 0
theorem SpOk.fr {s : F3} (h : SpOk s) : frcE s.1 = 0 ∧ frcE s.2.1 = 0 ∧ frcE s.2.2 = 0 := by
 unfold SpOk spE at h
 by_cases h1 : frcE s.1 = 0
 ·rw [if_neg (not_not_intro h1)] at h
  by_cases h2 : frcE s.2.1 = 0
  ·rw [if_neg (not_not_intro h2)] at h; exact ⟨h1,h2,h⟩
  ·rw [if_pos h2] at h; exact absurd h h2
 ·rw [if_pos h1] at h; exact absurd h h1
end Go.Tr

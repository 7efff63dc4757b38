/- Contracts of chapter 6: what all share; its examples. Conditions: none. -/
import Derived.Test.YtgbdlkajmmjahaaGreatTr06
import Derived.Test.YtgbdlkajmmjahaaGreatTr07
import Derived.Test.YtgbdlkajmmjahaaGreatProg
set_option linter.unusedSectionVars false
set_option linter.unnecessarySimpa false
set_option linter.unusedVariables false
set_option linter.unusedSimpArgs false

namespace Go.Tr
open Go Go.Proofs

abbrev i64 (n : Int) : AV := .val (.int .i64 n)
abbrev vb (b : Bool) : AV := .val (.bool b)
theorem mixed2 : Tryz.prog.follows .mixedOrders = true := by kernel_rfl
instance gtab : GTab := ⟨fun _=>none⟩
set_option maxRecDepth 20000
set_option maxHeartbeats 8000000
abbrev SP := Sound1 Tryz.prog
def K2 (t : Nat) : Option (List LK) :=
  bif Nat.beq t 26 then some [.int .i64,.int .i64] else bif Nat.beq t 152 then some [.int .i64,.int .i64,.int .i64] else bif Nat.beq t 157 then some [.int .i64,.int .i64,.int .i64,.int .i64] else bif Nat.beq t 69 then some [.int .i64,.int .i64,.int .i64,.int .i64,.int .i64,.int .i64] else bif Nat.beq t 71 then some [.int .i64,.int .i64,.int .i64,.int .i64,.int .i64,.int .i64,.int .i64] else bif Nat.beq t 99 then some [.int .i64,.int .i64,.int .i64,.int .i64] else none
theorem tok2 : TOK Tryz.prog (TK Tryz.prog K2) := TOK_TK fun t ks h=>by
 unfold K2 at h
 cases e0 : Nat.beq t 26 with
 | true=>rw [e0] at h; cases h; cases Nat.eq_of_beq_eq_true e0; exact ⟨_,Tryz.underlying26,by kernel_rfl⟩
 | false =>
 rw [e0] at h
 cases e1 : Nat.beq t 152 with
 | true=>rw [e1] at h; cases h; cases Nat.eq_of_beq_eq_true e1; exact ⟨_,Tryz.underlying152,by kernel_rfl⟩
 | false =>
 rw [e1] at h
 cases e2 : Nat.beq t 157 with
 | true=>rw [e2] at h; cases h; cases Nat.eq_of_beq_eq_true e2; exact ⟨_,Tryz.underlying157,by kernel_rfl⟩
 | false =>
 rw [e2] at h
 cases e3 : Nat.beq t 69 with
 | true=>rw [e3] at h; cases h; cases Nat.eq_of_beq_eq_true e3; exact ⟨_,Tryz.underlying69,by kernel_rfl⟩
 | false =>
 rw [e3] at h
 cases e4 : Nat.beq t 71 with
 | true=>rw [e4] at h; cases h; cases Nat.eq_of_beq_eq_true e4; exact ⟨_,Tryz.underlying71,by kernel_rfl⟩
 | false =>
 rw [e4] at h
 cases e5 : Nat.beq t 99 with
 | true=>rw [e5] at h; cases h; cases Nat.eq_of_beq_eq_true e5; exact ⟨_,Tryz.underlying99,by kernel_rfl⟩
 | false=>rw [e5] at h; cases h

def tblE : AV := .agg [.rslice 2 2 fun i=>[[i64 10,.rslice 3 3 fun i=>[[i64 0,i64 0,i64 0],[i64 100,i64 10,i64 500],[i64 200,i64 14,i64 1800]].getD i []],[i64 20,.rslice 3 3 fun i=>[[i64 0,i64 10,i64 0],[i64 100,i64 30,i64 2000],[i64 200,i64 40,i64 6000]].getD i []]].getD i []]
def frE : AV := .agg [i64 15,i64 1]
theorem run68 : Run.ok Tryz.prog ⟨68,[tblE],.tuple [i64 7600,i64 0]⟩ := run_ok mixed2 (l := []) (by simp) 1000 60 (by kernel_rfl)
theorem run26 : Run.ok Tryz.prog ⟨26,[tblE,frE,i64 75],.tuple [.rslice 2 1 fun _=>[i64 15,i64 1],i64 0]⟩ := run_ok mixed2 (l := []) (by simp) 1000 60 (by kernel_rfl)
theorem run16 : Run.ok Tryz.prog ⟨16,[tblE,frE,.agg [i64 150,i64 10,i64 1]],.tuple [.rslice 6 1 fun _=>[i64 37100,i64 251,i64 5500,i64 251,i64 469750,i64 251],i64 0]⟩ := run_ok mixed2 (l := []) (by simp) 1000 60 (by kernel_rfl)
theorem run37 : Run.ok Tryz.prog ⟨37,[tblE,i64 100],.tuple [.agg [i64 2000,i64 1],i64 0]⟩ := run_ok mixed2 (l := []) (by simp) 1000 60 (by kernel_rfl)
theorem S14 : SP 14 [] (vb true) false := run_ok mixed2 (l := [⟨68,[tblE],.tuple [i64 7600,i64 0]⟩,⟨26,[tblE,frE,i64 75],.tuple [.rslice 2 1 fun _=>[i64 15,i64 1],i64 0]⟩,⟨16,[tblE,frE,.agg [i64 150,i64 10,i64 1]],.tuple [.rslice 6 1 fun _=>[i64 37100,i64 251,i64 5500,i64 251,i64 469750,i64 251],i64 0]⟩,⟨37,[tblE,i64 100],.tuple [.agg [i64 2000,i64 1],i64 0]⟩]) (by
  intro x hx
  simp only [List.mem_cons,List.not_mem_nil,or_false] at hx
  rcases hx with rfl | rfl | rfl | rfl
  ·exact run68
  ·exact run26
  ·exact run16
  ·exact run37) 1000 60 (by kernel_rfl)
end Go.Tr

/- Contracts of chapter 6: small functions; gates and rules. Conditions: none. -/
namespace Go.Tr
open Go Go.Proofs
set_option maxRecDepth 20000
set_option maxHeartbeats 8000000

def firstOf : List Int → Int
  | []=>0
  | x :: r=>if x = 0 then firstOf r else x
theorem firstOf_drop (l : List Int) (k : Nat) (h : k < l.length) : firstOf (l.drop k) = if l.getD k 0 = 0 then firstOf (l.drop (k+1)) else l.getD k 0 := by
  rw [List.drop_eq_getElem_cons h,firstOf]; simp [List.getD,h]
def ints (l : List Int) : AV := .rslice 1 l.length fun i=>[i64 (l.getD i 0)]
theorem endi {a b : Int} (h : a = b) : i64 a = i64 b := congrArg (fun x=>i64 x) h
theorem endb {a b : Bool} (h : a = b) : vb a = vb b := congrArg (fun x=>vb x) h
theorem first2 (a b : Int) : firstOf [a,b] = if a ≠ 0 then a else b := by
 unfold firstOf firstOf firstOf
 by_cases h : a = 0
 ·subst h; by_cases h2 : b = 0 <;> simp [h2]
 ·simp [h]
theorem first3 (a b c : Int) : firstOf [a,b,c] = if a ≠ 0 then a else if b ≠ 0 then b else c := by
 unfold firstOf
 by_cases h : a = 0
 ·rw [if_pos h,if_neg (by simpa using h)]; exact first2 b c
 ·rw [if_neg h,if_pos h]

def win (x a b : Int) : Bool := decide (a ≤ x ∧ x ≤ b)
theorem S75 (x a b : Int) : SP 75 [i64 x,i64 a,i64 b] (vb (win x a b)) false := by
 refine sound (d := 2) tok2 mixed2 Tryz.func75 (by kernel_rfl) (by kernel_rfl) ?_
 unfold win
 (conv=>whnf); refine ifB_dec (fun w1=>?_) (fun w1=>?_)
 ·(conv=>whnf); refine ⟨?_,nofun⟩
  exact endb (decide_eq_decide.2 ⟨fun h=>⟨w1,h⟩,fun h=>h.2⟩)
 ·(conv=>whnf); refine ⟨?_,nofun⟩
  exact endb (decide_eq_false fun h=>w1 h.1).symm
theorem S36 (x a b : Int) : SP 36 [i64 x,i64 a,i64 b] (vb (win x a b)) false := by
 refine sound (d := 2) tok2 mixed2 Tryz.func36 (by kernel_rfl) (by kernel_rfl) ?_
 unfold win
 (conv=>whnf); refine ifB_dec (fun w1=>?_) (fun w1=>?_)
 ·(conv=>whnf); refine ⟨?_,nofun⟩
  exact endb (decide_eq_decide.2 ⟨fun h=>⟨w1,h⟩,fun h=>h.2⟩)
 ·(conv=>whnf); refine ⟨?_,nofun⟩
  exact endb (decide_eq_false fun h=>w1 h.1).symm
theorem S140 (x b : Int) (h1 : -9223372036854775807 ≤ b ∧ b ≤ 9223372036854775807) : SP 140 [i64 x,i64 b] (vb (win x (-b) b)) false := by
 have h := S75 x (-b) b
 refine sound (d := 2) tok2 mixed2 Tryz.func140 (by kernel_rfl) (by kernel_rfl) ?_
 (conv=>whnf); refine ⟨inK64 (by omega) (by omega),?_⟩
 (conv=>whnf); refine .inl ⟨_,_,byX rfl (Sound1.pl (h) rfl),?_⟩
 (conv=>whnf); refine ⟨?_,nofun⟩
 rfl
theorem S78 (c : Bool) (e : Int) : SP 78 [vb c,i64 e] (i64 (if c then 0 else e)) false := by
 refine sound (d := 2) tok2 mixed2 Tryz.func78 (by kernel_rfl) (by kernel_rfl) ?_
 cases c with
 | true =>
  (conv=>whnf); refine ⟨?_,nofun⟩
  rfl
 | false =>
  (conv=>whnf); refine ⟨?_,nofun⟩
  rfl
theorem S76 (l : List Int) (hl : l.length ≤ 1000000000) : SP 76 [ints l] (i64 (firstOf l)) false := by
 refine sound (d := 2) tok2 mixed2 Tryz.func76 (by kernel_rfl) (by kernel_rfl) ?_
 (conv=>whnf); refine ⟨[],[5,6,7],fun st mq=>∃ (k : Nat),(k ≤ l.length) ∧ (firstOf (l.drop k) = firstOf l) ∧ st = ⟨[(5,ints l),(6,i64 l.length),(7,i64 k)],⟨[],[],none,0⟩,[]⟩ ∧ mq = l.length - k,
  ⟨_,_,⟨0,by omega,rfl,rfl,rfl⟩,⟨⟨.inl rfl,rfl,rfl,rfl⟩,trivial,trivial⟩⟩,?_⟩
 rintro s0 m0 ⟨k,hk,hf,rfl,hmeas⟩
 by_cases hlt : k < l.length
 ·have hd := firstOf_drop l k hlt
  conv=>whnf
  (conv=>whnf); refine ifB_dec (fun w1=>?_) (fun w1=>?_)
  ·conv=>whnf
   (conv=>whnf); refine ⟨⟨(by omega),(by omega)⟩,?_⟩
   conv=>whnf
   (conv=>whnf); refine ifB_bne (fun w2=>?_) (fun w2=>?_)
   ·conv=>whnf
    (conv=>whnf); refine ⟨?_,nofun⟩
    rw [if_neg (show ¬ l.getD k 0 = 0 from w2)] at hd
    show i64 _ = i64 _
    rw [← hf,hd]; rfl
   ·conv=>whnf
    (conv=>whnf); refine ⟨inK64 (by omega) (by omega),?_⟩
    rw [if_pos (show l.getD k 0 = 0 from w2)] at hd
    conv=>whnf
    (conv=>whnf); refine ⟨_,_,⟨⟨k + 1,by omega,hd.symm.trans hf,rfl,rfl⟩,by omega⟩,⟨⟨.inl rfl,rfl,rfl,rfl⟩,trivial,trivial⟩⟩
  ·(exfalso; omega)
 ·have e : k = l.length := by omega
  subst e
  conv=>whnf
  (conv=>whnf); refine ifB_dec (fun w1=>?_) (fun w1=>?_)
  ·(exfalso; omega)
  ·conv=>whnf
   (conv=>whnf); refine ⟨?_,nofun⟩
   simp [firstOf] at hf
   show i64 _ = i64 _
   rw [← hf]
end Go.Tr

/- Values equal in depth. Conditions: none. -/
namespace Go.Tr
open Go
variable [GTab]

def AVF : Nat → AV → AV → Prop
 | 0,_,_=>False
 | n + 1,.rslice es len f,.rslice es' len' g=>es = es' ∧ len = len' ∧ ∀ i,i < len → (f i).length = (g i).length ∧ ∀ j x y,nth? (f i) j = some x → nth? (g i) j = some y → x = y ∨ AVF n x y
 | _ + 1,.eslice,.rslice _ len _=>len = 0
 | n + 1,.agg l,.agg l'=>l.length = l'.length ∧ ∀ i x y,nth? l i = some x → nth? l' i = some y → x = y ∨ AVF n x y
 | n + 1,.tuple l,.tuple l'=>l.length = l'.length ∧ ∀ i x y,nth? l i = some x → nth? l' i = some y → x = y ∨ AVF n x y
 | _ + 1,x,y=>x = y
theorem AVF_ok {P : Program} {w : World} {p : Nat → Prop} : ∀ (k : Nat) {x y : AV} {v : Value},AVF k x y → VT P w p x v → VT P w p y v
 | 0,x,y,v,h,_=>h.elim
 | k + 1, x, y, v, h, hx => by
  have eqc : x = y → VT P w p y v := fun e=>e ▸ hx
  have list : ∀ (l l' : List AV) (vs : Array Value),l.length = l'.length → (∀ i x y,nth? l i = some x → nth? l' i = some y → x = y ∨ AVF k x y) → (∀ i x,l[i]? = some x → VT P w p x (vs.getD i undef)) → ∀ i x,l'[i]? = some x → VT P w p x (vs.getD i undef) := by
   intro l l' vs hl he hv i x hi
   have hlt : i < l.length := by rw [hl]; exact (List.getElem?_eq_some_iff.1 hi).1
   have hvi := hv i _ (List.getElem?_eq_getElem hlt)
   rcases he i _ _ (by rw [nth?_eq]; exact List.getElem?_eq_getElem hlt) (by rw [nth?_eq]; exact hi) with e | e
   ·rw [← e]; exact hvi
   ·exact AVF_ok k e hvi
  cases x with
  | rslice es len f =>
   cases y with
   | rslice es' len' g =>
    obtain ⟨rfl,rfl,hf⟩ := h
    cases hx with
    | rslice0=>exact .rslice0 _ _ _ _
    | rslice _ _ _ b off kk gg h1 h2 h3 h4 h5 =>
     refine .rslice _ _ _ b off kk gg h1 h2 (fun i hi=>by rw [← (hf i hi).1]; exact h3 i hi) h4 (fun i j y hi hy=>?_)
     have hl := (hf i hi).1
     have hlt : j < (f i).length := by rw [hl]; exact (List.getElem?_eq_some_iff.1 hy).1
     have hvi := h5 i j _ hi (List.getElem?_eq_getElem hlt)
     rcases (hf i hi).2 j _ y (by rw [nth?_eq]; exact List.getElem?_eq_getElem hlt) (by rw [nth?_eq]; exact hy) with e | e
     ·rw [← e]; exact hvi
     ·exact AVF_ok k e hvi
   | _=>exact eqc h
  | eslice =>
   cases y with
   | rslice es' len' g =>
    have h : len' = 0 := h
    subst h
    cases hx with
    | eslice a=>exact .rslice0 _ _ _ _
   | _=>exact eqc h
  | agg l =>
   cases y with
   | agg l' =>
    obtain ⟨h1,h2⟩ := h
    cases hx with
    | agg _ vs g1 g2 g3=>exact .agg l' vs (by rw [← h1]; exact g1) g2 (list l l' vs h1 h2 g3)
   | _=>exact eqc h
  | tuple l =>
   cases y with
   | tuple l' =>
    obtain ⟨h1,h2⟩ := h
    cases hx with
    | tuple _ vs g1 g3=>exact .tuple l' vs (by rw [← h1]; exact g1) (list l l' vs h1 h2 g3)
   | _=>exact eqc h
  | _=>cases y <;> exact eqc h
theorem Sound1.argsD {P : Program} {f : FuncId} {xs ys : List AV} {r : AV} {fr : Bool} (h : Sound1 P f xs r fr) (hl : ys.length = xs.length) (hx : ∀ i y x,nth? ys i = some y → nth? xs i = some x → y = x ∨ ∃ k,AVF k y x) : Sound1 P f ys r fr := by
 refine ⟨h.1,fun w q vs hq hg hs hv=>h.2 w q vs hq hg (hs.trans hl) fun i x hi=>?_⟩
 have hlt : i < ys.length := by rw [hl]; exact (List.getElem?_eq_some_iff.1 hi).1
 have hvi := hv i _ (List.getElem?_eq_getElem hlt)
 rcases hx i _ x (by rw [nth?_eq]; exact List.getElem?_eq_getElem hlt) (by rw [nth?_eq]; exact hi) with e | ⟨k,hk⟩
 ·rw [← e]; exact hvi
 ·exact AVF_ok k hk hvi
theorem AVF_rows {es n n' : Nat} {f g : Nat → List AV} (hn : n = n') (h : ∀ i,i < n → f i = g i) (k : Nat) : AVF (k + 1) (.rslice es n f) (.rslice es n' g) := by
 refine ⟨rfl,hn,fun i hi=>⟨by rw [h i hi],fun j x y hx hy=>.inl ?_⟩⟩
 rw [h i hi] at hx
 exact Option.some.inj (hx.symm.trans hy)
end Go.Tr

/- Contracts of chapter 6: gates and rules. Conditions: none. -/
namespace Go.Tr
open Go Go.Proofs
set_option maxRecDepth 20000
set_option maxHeartbeats 8000000

theorem S76_2 (a b : Int) {f : Nat → List AV} (h : f 0 = [i64 a] ∧ f 1 = [i64 b]) : SP 76 [.rslice 1 2 f] (i64 (firstOf [a,b])) false := by
 have key : ∀ i,i < 2 → f i = [i64 (([a,b] : List Int).getD i 0)] := fun i hi=>by
  match i,hi with
  | 0,_=>exact h.1
  | 1,_=>exact h.2
 refine (S76 [a,b] (by simp)).argsD rfl fun i y x hy hx=>?_
 match i,hy,hx with
 | 0,hy,hx=>cases hy; cases hx; exact .inr ⟨1,AVF_rows rfl key 0⟩
theorem S76_3 (a b c : Int) {f : Nat → List AV} (h : f 0 = [i64 a] ∧ f 1 = [i64 b] ∧ f 2 = [i64 c]) : SP 76 [.rslice 1 3 f] (i64 (firstOf [a,b,c])) false := by
 have key : ∀ i,i < 3 → f i = [i64 (([a,b,c] : List Int).getD i 0)] := fun i hi=>by
  match i,hi with
  | 0,_=>exact h.1
  | 1,_=>exact h.2.1
  | 2,_=>exact h.2.2
 refine (S76 [a,b,c] (by simp)).argsD rfl fun i y x hy hx=>?_
 match i,hy,hx with
 | 0,hy,hx=>cases hy; cases hx; exact .inr ⟨1,AVF_rows rfl key 0⟩
structure Gt where
 a : Int
 l : Int
 h : Int
 r : Int
structure Ru where
 b : Int
 n : Int
 d : Int
 s : Int
def gateE (g : Gt) : Int :=
  if (0 ≤ g.l ∧ g.l ≤ 10000) ∧ (0 ≤ g.h ∧ g.h ≤ 10000) ∧ (0 ≤ g.a ∧ g.a ≤ 10000) ∧ (1 ≤ g.r ∧ g.r ≤ 10000) then (if g.l ≤ g.h then (if g.l ≤ g.a ∧ g.a ≤ g.h then 0 else 22) else 9) else 2
def rulesE (r : Ru) : Int := if (0 ≤ r.b ∧ r.b ≤ 100000) ∧ (0 ≤ r.n ∧ r.n ≤ 1000) ∧ (1 ≤ r.d ∧ r.d ≤ 1000) ∧ (0 ≤ r.s ∧ r.s ≤ 10000) then 0 else 2
end Go.Tr

/- Contracts of chapter 6: the wanted position, steps of a gate. Conditions: none. -/
namespace Go.Tr
open Go Go.Proofs
set_option maxRecDepth 20000
set_option maxHeartbeats 8000000

theorem ave_tup2 {k : Nat} {a b a' b' : AV} (ha : AVE k a a') (hb : AVE k b b') : AVE (k + 1) (.tuple [a,b]) (.tuple [a',b']) := by
 refine ⟨rfl,fun i x y hx hy=>?_⟩
 match i,hx,hy with
 | 0,hx,hy=>cases hx; cases hy; exact ha
 | 1,hx,hy=>cases hx; cases hy; exact hb
theorem ave_tup3 {k : Nat} {a b c a' b' c' : AV} (ha : AVE k a a') (hb : AVE k b b') (hc : AVE k c c') : AVE (k + 1) (.tuple [a,b,c]) (.tuple [a',b',c']) := by
 refine ⟨rfl,fun i x y hx hy=>?_⟩
 match i,hx,hy with
 | 0,hx,hy=>cases hx; cases hy; exact ha
 | 1,hx,hy=>cases hx; cases hy; exact hb
 | 2,hx,hy=>cases hx; cases hy; exact hc
theorem ave_agg2 {k : Nat} {a b a' b' : AV} (ha : AVE k a a') (hb : AVE k b b') : AVE (k + 1) (.agg [a,b]) (.agg [a',b']) := by
 refine ⟨rfl,fun i x y hx hy=>?_⟩
 match i,hx,hy with
 | 0,hx,hy=>cases hx; cases hy; exact ha
 | 1,hx,hy=>cases hx; cases hy; exact hb
theorem ave_agg4 {k : Nat} {a b c d a' b' c' d' : AV} (ha : AVE k a a') (hb : AVE k b b') (hc : AVE k c c') (hd : AVE k d d') : AVE (k + 1) (.agg [a,b,c,d]) (.agg [a',b',c',d']) := by
 refine ⟨rfl,fun i x y hx hy=>?_⟩
 match i,hx,hy with
 | 0,hx,hy=>cases hx; cases hy; exact ha
 | 1,hx,hy=>cases hx; cases hy; exact hb
 | 2,hx,hy=>cases hx; cases hy; exact hc
 | 3,hx,hy=>cases hx; cases hy; exact hd
structure GtOk (g : Gt) : Prop where
 l : 0 ≤ g.l ∧ g.l ≤ 10000
 h : 0 ≤ g.h ∧ g.h ≤ 10000
 a : 0 ≤ g.a ∧ g.a ≤ 10000
 r : 1 ≤ g.r ∧ g.r ≤ 10000
 lh : g.l ≤ g.h
 la : g.l ≤ g.a ∧ g.a ≤ g.h
theorem GtOk.of {g : Gt} (h : gateE g = 0) : GtOk g := by
 unfold gateE at h
 (repeat' split at h) <;> first | omega | skip
 rename_i h1 h2 h3
 exact ⟨h1.1,h1.2.1,h1.2.2.1,h1.2.2.2,h2,h3⟩
structure RuOk (r : Ru) : Prop where
 b : 0 ≤ r.b ∧ r.b ≤ 100000
 n : 0 ≤ r.n ∧ r.n ≤ 1000
 d : 1 ≤ r.d ∧ r.d ≤ 1000
 s : 0 ≤ r.s ∧ r.s ≤ 10000
theorem RuOk.of {r : Ru} (h : rulesE r = 0) : RuOk r := by
 unfold rulesE at h
 split at h
 ·rename_i h1; exact ⟨h1.1,h1.2.1,h1.2.2.1,h1.2.2.2⟩
 ·omega
end Go.Tr

/- The law GovernorGates returns true. Conditions: none. -/
/- Contracts of chapter 6: lists of numbers; each one checked; runs of a gate. Conditions: none. -/
namespace Go.Tr
open Go Go.Proofs
set_option maxRecDepth 20000
set_option maxHeartbeats 8000000

theorem getD_memI {l : List Int} {i : Nat} (h : i < l.length) : l.getD i 0 ∈ l := by
  rw [show l.getD i 0 = l[i] by simp [List.getD_eq_getElem?_getD,h]]
  exact List.getElem_mem h
theorem app_row (l : List Int) (c : Int) (n i : Nat) (hn : l.length = n) (hi : i < n + 1) : [i64 ((l ++ [c]).getD i 0)] = (if i < n then [i64 (l.getD (0 + i) 0)] else List.take 1 (List.drop ((i - n) * 1) [i64 c])) := by
 subst hn
 rw [Nat.zero_add]
 by_cases h : i < l.length
 ·rw [if_pos h]; simp [List.getD_eq_getElem?_getD,h,List.getElem?_append_left h]
 ·have : i = l.length := by omega
  subst this
  rw [if_neg h]; simp [List.getD_eq_getElem?_getD]
end Go.Tr

/- Contracts of chapter 6: valid polynomials; entries; the greatest common divisor. Conditions: none. -/
namespace Go.Tr
open Go Go.Proofs
set_option maxRecDepth 20000
set_option maxHeartbeats 8000000

theorem tmod_lt {a b : Int} (h : b ≠ 0) : (a.tmod b).natAbs < b.natAbs := by
  rw [Int.natAbs_tmod]
  exact Nat.mod_lt _ (by omega)
theorem S129 (x : Int) (h : -9223372036854775807 ≤ x ∧ x ≤ 9223372036854775807) : SP 129 [i64 x] (i64 (x.natAbs : Nat)) false := by
 refine sound (d := 2) tok2 mixed2 Tryz.func129 (by kernel_rfl) (by kernel_rfl) ?_
 (conv=>whnf); refine ⟨inK64 (by omega) (by omega),?_⟩
 (conv=>whnf); refine ⟨?_,nofun⟩
 exact endi (by split <;> omega)
end Go.Tr

/- Plain laws: whole numbers of any size as digits to the base 10^9. Conditions: none. -/
namespace Go.Tr
open Go Go.Proofs
set_option maxRecDepth 20000
set_option maxHeartbeats 8000000

def digs (n : Nat) : List Int := if h : n = 0 then [] else ((n % 1000000000 : Nat) : Int) :: digs (n / 1000000000)
termination_by n
decreasing_by omega
theorem digs0 : digs 0 = [] := by rw [digs]; rfl
theorem digs_pos {n : Nat} (h : n ≠ 0) : digs n = ((n % 1000000000 : Nat) : Int) :: digs (n / 1000000000) := by
  rw [digs,dif_neg h]
theorem digs_nil {n : Nat} (h : digs n = []) : n = 0 := by
 by_cases h0 : n = 0
 ·exact h0
 ·rw [digs_pos h0] at h; cases h
theorem digs_ind {p : Nat → Prop} (h0 : p 0) (hs : ∀ n,n ≠ 0 → p (n / 1000000000) → p n) : ∀ n,p n := by
 intro n
 induction n using Nat.strongRecOn with
 | _ n ih =>
  by_cases h : n = 0
  ·rw [h]; exact h0
  ·exact hs n h (ih _ (by omega))
def Dg (l : List Int) : Prop := ∀ d ∈ l,0 ≤ d ∧ d < 1000000000
theorem digs_dg : ∀ n,Dg (digs n) := digs_ind (by rw [digs0]; nofun) fun n h ih d hd=>by
 rw [digs_pos h] at hd
 rcases List.mem_cons.1 hd with e | hd
 ·omega
 ·exact ih d hd
def valN : List Int → Int
  | []=>0
  | d :: r=>d + 1000000000 * valN r
theorem valN_digs : ∀ n : Nat,valN (digs n) = n := digs_ind (by rw [digs0]; rfl) fun n h ih=>by
 rw [digs_pos h]
 show ((n % 1000000000 : Nat) : Int) + 1000000000 * valN (digs (n / 1000000000)) = n
 rw [ih]; omega
theorem valN_nn : ∀ {l : List Int},Dg l → 0 ≤ valN l
 | [],_=>Int.le_refl 0
 | d :: r,h=>by
  have h1 := h d (by simp)
  have h2 := valN_nn (l := r) fun x hx=>h x (by simp [hx])
  show 0 ≤ d + 1000000000 * valN r
  omega
def trimL : List Int → List Int
 | []=>[]
 | d :: r=>match trimL r with
  | []=>if d = 0 then [] else [d]
  | x :: s=>d :: x :: s
theorem trim_digs : ∀ {l : List Int},Dg l → trimL l = digs (valN l).toNat
 | [],_=>by rw [show valN [] = 0 from rfl]; exact digs0.symm
 | d :: r, h => by
  have h1 := h d (by simp)
  have hr : Dg r := fun x hx=>h x (by simp [hx])
  have ih := trim_digs hr
  have hn := valN_nn hr
  have e : valN (d :: r) = d + 1000000000 * valN r := rfl
  rw [e]
  unfold trimL
  by_cases h0 : valN r = 0
  ·rw [ih,h0,show (0 : Int).toNat = 0 from rfl,digs0]
   by_cases hd : d = 0
   ·subst hd
    rw [if_pos rfl]
    exact digs0.symm
   ·show (if d = 0 then [] else [d]) = _
    rw [if_neg hd,digs_pos (by omega)]
    rw [show (d + 1000000000 * 0).toNat / 1000000000 = 0 by omega,digs0]
    congr 1
    omega
  ·have hne : (d + 1000000000 * valN r).toNat ≠ 0 := by omega
   rw [digs_pos hne,show (d + 1000000000 * valN r).toNat / 1000000000 = (valN r).toNat by omega,← ih]
   have hd : (((d + 1000000000 * valN r).toNat % 1000000000 : Nat) : Int) = d := by omega
   rw [hd]
   cases ht : trimL r with
   | nil=>rw [ih] at ht; exact absurd (digs_nil ht) (by omega)
   | cons x s=>rfl
theorem trim_take : ∀ (l : List Int) (n : Nat),n ≤ l.length → (∀ j,n ≤ j → j < l.length → l.getD j 0 = 0) → (n = 0 ∨ l.getD (n - 1) 0 ≠ 0) → trimL l = l.take n
 | [],n,_,_,_=>by simp [trimL]
 | d :: r,0,_,h,_=>by
  have ih := trim_take r 0 (by omega) (fun j _ hj=>h (j + 1) (by omega) (by simpa using hj)) (.inl rfl)
  have hd : d = 0 := h 0 (by omega) (by simp)
  unfold trimL
  rw [ih]
  show (if d = 0 then [] else [d]) = []
  rw [if_pos hd]
 | d :: r, n + 1, hn, h, hl => by
  have hnr : n ≤ r.length := by have hn : n + 1 ≤ r.length + 1 := hn; omega
  have hr : ∀ j,n ≤ j → j < r.length → r.getD j 0 = 0 := fun j h1 h2=>h (j + 1) (by omega) (by simpa using h2)
  have hl' : n = 0 ∨ r.getD (n - 1) 0 ≠ 0 := by
   rcases n with _ | n
   ·exact .inl rfl
   ·rcases hl with hl | hl
    ·omega
    ·exact .inr hl
  have ih := trim_take r n hnr hr hl'
  unfold trimL
  rw [ih]
  rcases n with _ | n
  ·show (if d = 0 then [] else [d]) = [d]
   rcases hl with hl | hl
   ·omega
   ·have hl : d ≠ 0 := hl
    rw [if_neg hl]
  ·have hlen : n + 1 ≤ r.length := by have hn : n + 1 + 1 ≤ r.length + 1 := hn; omega
   cases hx : r.take (n + 1) with
   | nil=>have := congrArg List.length hx; rw [List.length_take,List.length_nil] at this; omega
   | cons x s=>show d :: x :: s = d :: r.take (n + 1); rw [hx]
theorem trim_exists : ∀ l : List Int,∃ n,n ≤ l.length ∧ (∀ j,n ≤ j → j < l.length → l.getD j 0 = 0) ∧ (n = 0 ∨ l.getD (n - 1) 0 ≠ 0) := fun l=>by
 have h : ∀ k,k ≤ l.length → (∀ j,k ≤ j → j < l.length → l.getD j 0 = 0) → ∃ n,n ≤ l.length ∧ (∀ j,n ≤ j → j < l.length → l.getD j 0 = 0) ∧ (n = 0 ∨ l.getD (n - 1) 0 ≠ 0) := by
  intro k
  induction k with
  | zero=>intro hk hz; exact ⟨0,hk,hz,.inl rfl⟩
  | succ k ih =>
   intro hk hz
   by_cases h0 : l.getD k 0 = 0
   ·exact ih (by omega) fun j h1 h2=>by
     by_cases hj : j = k
     ·rw [hj]; exact h0
     ·exact hz j (by omega) h2
   ·exact ⟨k + 1,hk,hz,.inr h0⟩
 exact h l.length (Nat.le_refl _) fun j h1 h2=>by omega
def pd : Nat → Nat → List Int
  | 0,_=>[]
  | k + 1,x=>((x % 1000000000 : Nat) : Int) :: pd k (x / 1000000000)
theorem trim_pd : ∀ (k x : Nat),(digs x).length ≤ k → trimL (pd k x) = digs x
 | 0,x,h=>by
  have : x = 0 := digs_nil (List.length_eq_zero_iff.1 (by omega))
  rw [this,digs0]; rfl
 | k + 1, x, h => by
  have hk : (digs (x / 1000000000)).length ≤ k := by
   by_cases h0 : x = 0
   ·rw [h0,show 0 / 1000000000 = 0 from rfl,digs0]; simp
   ·rw [digs_pos h0] at h; simpa using h
  have ih := trim_pd k (x / 1000000000) hk
  unfold pd trimL
  rw [ih]
  by_cases h0 : x = 0
  ·subst h0
   rw [show (0 : Nat) / 1000000000 = 0 from rfl,digs0]
   rfl
  ·rw [digs_pos h0]
   by_cases h1 : x / 1000000000 = 0
   ·rw [h1,digs0]
    show (if ((x % 1000000000 : Nat) : Int) = 0 then [] else [((x % 1000000000 : Nat) : Int)]) = _
    rw [if_neg (by omega)]
   ·rw [digs_pos h1]
theorem digs_mono : ∀ n m : Nat,m ≤ n → (digs m).length ≤ (digs n).length := digs_ind (fun m h=>by rw [show m = 0 by omega]; exact Nat.le_refl _) fun n h ih m hm=>by
 by_cases h0 : m = 0
 ·rw [h0,digs0]; simp
 ·rw [digs_pos h,digs_pos h0]
  have := ih (m / 1000000000) (Nat.div_le_div_right hm)
  simpa using this
theorem drop_digs {l : List Int} {i n : Nat} (h : l.drop i = digs n) (h0 : n ≠ 0) : i < l.length ∧ l.getD i 0 = ((n % 1000000000 : Nat) : Int) ∧ l.drop (i + 1) = digs (n / 1000000000) := by
 rw [digs_pos h0] at h
 have hi : i < l.length := by
  rcases Nat.lt_or_ge i l.length with h1 | h1
  ·exact h1
  ·rw [List.drop_eq_nil_of_le h1] at h; cases h
 rw [List.drop_eq_getElem_cons hi] at h
 refine ⟨hi,?_,(List.cons.inj h).2⟩
 rw [List.getD_eq_getElem?_getD,List.getElem?_eq_getElem hi]
 exact (List.cons.inj h).1
theorem drop_zero {l : List Int} {i : Nat} (h : l.drop i = digs 0) : l.length ≤ i ∧ l.getD i 0 = 0 ∧ l.drop (i + 1) = digs 0 := by
 rw [digs0] at h
 have hi : l.length ≤ i := List.drop_eq_nil_iff.1 h
 refine ⟨hi,?_,?_⟩
 ·rw [List.getD_eq_getElem?_getD,List.getElem?_eq_none hi]; rfl
 ·rw [digs0]; exact List.drop_eq_nil_of_le (by omega)
def sgI (z : Int) : Int := if z < 0 then -1 else if z = 0 then 0 else 1
abbrev wA (z : Int) : AV := .agg [i64 (sgI z),ints (digs z.natAbs)]
end Go.Tr

/- Contracts: whole numbers of any size. Conditions: none. -/
namespace Go.Tr
open Go Go.Proofs
set_option maxRecDepth 20000
set_option maxHeartbeats 8000000

theorem takeD (l : List Int) {n i : Nat} (h : i < n) : [i64 ((l.take n).getD i 0)] = [i64 (l.getD i 0)] := by
  simp [List.getD_eq_getElem?_getD,h]
theorem drop_step {l : List Int} {i n : Nat} (h : l.drop i = digs n) : (i < l.length ↔ n ≠ 0) ∧ l.getD i 0 = ((n % 1000000000 : Nat) : Int) ∧ l.drop (i + 1) = digs (n / 1000000000) := by
 by_cases h0 : n = 0
 ·subst h0
  have := drop_zero h
  exact ⟨⟨fun h=>by omega,fun h=>absurd rfl h⟩,this.2.1,this.2.2⟩
 ·have := drop_digs h h0
  exact ⟨⟨fun _=>h0,fun _=>this.1⟩,this.2⟩
theorem S216 (l : List Int) (hl : l.length ≤ 1000000) : SP 216 [ints l] (ints (trimL l)) false := by
 refine sound (d := 2) tok2 mixed2 Tryz.func216 (by kernel_rfl) (by kernel_rfl) ?_
 (conv=>whnf); refine ⟨[],[0,3],fun st mq=>∃ (n : Nat) (z : Int),(z = (n : Nat)) ∧ (n ≤ l.length) ∧ (∀ j,n ≤ j → j < l.length → l.getD j 0 = 0) ∧ st = ⟨[(0,ints l),(3,i64 z)],⟨[],[],none,0⟩,[]⟩ ∧ mq = n,
  ⟨_,_,⟨l.length,(l.length : Int),rfl,Nat.le_refl _,(fun j h1 h2=>by omega),rfl,rfl⟩,⟨⟨.inl rfl,rfl,rfl,rfl⟩,trivial,trivial⟩⟩,?_⟩
 rintro s0 m0 ⟨n,z,hz,hn,h0,rfl,hmeas⟩
 subst hz
 by_cases hn0 : n = 0
 ·subst hn0
  have e := trim_take l 0 (by omega) h0 (.inl rfl)
  rw [e]
  conv=>whnf
  (conv=>whnf); refine ⟨⟨(by omega),⟨(by omega),(by omega)⟩⟩,?_⟩
  conv=>whnf
  (conv=>whnf); refine ⟨?_,nofun⟩
  exact ⟨rfl,by simp,fun i hi=>absurd hi (by simp)⟩
 ·have ei : ((n : Int) - 1).toNat = n - 1 := by omega
  by_cases hl0 : l.getD (n - 1) 0 = 0
  ·have hl0' : l.getD ((n : Int) - 1).toNat 0 = 0 := by rw [ei]; exact hl0
   conv=>whnf
   (conv=>whnf); refine ifB_dec (fun w1=>?_) (fun w1=>?_)
   ·conv=>whnf
    (conv=>whnf); refine ⟨inK64 (by omega) (by omega),?_⟩
    conv=>whnf
    (conv=>whnf); refine ⟨⟨(by omega),(by omega)⟩,?_⟩
    conv=>whnf
    (conv=>whnf); refine ifB_beq (fun w2=>?_) (fun w2=>?_)
    ·conv=>whnf
     (conv=>whnf); refine ⟨inK64 (by omega) (by omega),?_⟩
     conv=>whnf
     (conv=>whnf); refine ⟨_,_,⟨⟨n - 1,(n : Int) - 1,by omega,by omega,(fun j h1 h2=>by by_cases hj : j = n - 1; rw [hj]; exact hl0; exact h0 j (by omega) h2),rfl,rfl⟩,by omega⟩,⟨⟨.inl rfl,rfl,rfl,rfl⟩,trivial,trivial⟩⟩
    ·(exfalso; omega)
   ·(exfalso; omega)
  ·have hl0' : ¬ l.getD ((n : Int) - 1).toNat 0 = 0 := by rw [ei]; exact hl0
   have e := trim_take l n hn h0 (.inr hl0)
   rw [e]
   conv=>whnf
   (conv=>whnf); refine ifB_dec (fun w1=>?_) (fun w1=>?_)
   ·conv=>whnf
    (conv=>whnf); refine ⟨inK64 (by omega) (by omega),?_⟩
    conv=>whnf
    (conv=>whnf); refine ⟨⟨(by omega),(by omega)⟩,?_⟩
    conv=>whnf
    (conv=>whnf); refine ifB_beq (fun w2=>?_) (fun w2=>?_)
    ·(exfalso; omega)
    ·conv=>whnf
     (conv=>whnf); refine ⟨⟨(by omega),⟨(by omega),(by omega)⟩⟩,?_⟩
     conv=>whnf
     (conv=>whnf); refine ⟨?_,nofun⟩
     exact ⟨rfl,by simp; omega,fun i hi=>(takeD l (show i < n by have hi : i < ((n : Int) - 0).toNat := hi; omega)).symm⟩
   ·(exfalso; omega)
theorem S229 (l : List Int) (hl : l.length ≤ 1000000) (i : Nat) : SP 229 [ints l,i64 i] (i64 (l.getD i 0)) false := by
 by_cases h : i < l.length
 ·refine sound (d := 2) tok2 mixed2 Tryz.func229 (by kernel_rfl) (by kernel_rfl) ?_
  (conv=>whnf); refine ifB_dec (fun w1=>?_) (fun w1=>?_)
  ·(conv=>whnf); refine ⟨⟨(by omega),(by omega)⟩,?_⟩
   (conv=>whnf); refine ⟨?_,nofun⟩
   rfl
  ·(exfalso; omega)
 ·have e : l.getD i 0 = 0 := by rw [List.getD_eq_getElem?_getD,List.getElem?_eq_none (by omega)]; rfl
  rw [e]
  refine sound (d := 2) tok2 mixed2 Tryz.func229 (by kernel_rfl) (by kernel_rfl) ?_
  (conv=>whnf); refine ifB_dec (fun w1=>?_) (fun w1=>?_)
  ·(exfalso; omega)
  ·(conv=>whnf); refine ⟨?_,nofun⟩
   rfl
theorem S174 (s : Int) (l : List Int) (hl : l.length ≤ 1000000) (hd : Dg l) (n : Nat) (hv : valN l = n) : SP 174 [i64 s,ints l] (.agg [i64 (if n = 0 then 0 else s),ints (digs n)]) false := by
 have h186 := S216 l hl
 have e := trim_digs hd
 rw [hv,Int.toNat_natCast] at e
 rw [e] at h186
 have hle : (digs n).length ≤ l.length := by
  rw [← e]
  obtain ⟨k,h1,h2,h3⟩ := trim_exists l
  rw [trim_take l k h1 h2 h3,List.length_take]
  omega
 by_cases h0 : n = 0
 ·subst h0
  rw [digs0] at h186 ⊢
  rw [if_pos rfl]
  refine sound (d := 2) tok2 mixed2 Tryz.func174 (by kernel_rfl) (by kernel_rfl) ?_
  (conv=>whnf); refine .inl ⟨_,_,byX rfl (h186),?_⟩
  (conv=>whnf); refine ⟨?_,nofun⟩
  exact ave_agg2 rfl ⟨rfl,rfl,fun _ _=>rfl⟩
 ·rw [if_neg h0]
  have hne : (digs n).length ≠ 0 := fun h=>h0 (digs_nil (List.length_eq_zero_iff.1 h))
  refine sound (d := 2) tok2 mixed2 Tryz.func174 (by kernel_rfl) (by kernel_rfl) ?_
  (conv=>whnf); refine .inl ⟨_,_,byX rfl (h186),?_⟩
  (conv=>whnf); refine ifB_beq (fun w1=>?_) (fun w1=>?_)
  ·(exfalso; omega)
  ·(conv=>whnf); refine ⟨?_,nofun⟩
   exact ave_agg2 rfl ⟨rfl,rfl,fun _ _=>rfl⟩
theorem S204 (m n : Nat) (hm : (digs m).length ≤ 1000) (hn : (digs n).length ≤ 1000) (hs : (digs (m + n)).length ≤ 1000) : SP 204 [ints (digs m),ints (digs n)] (ints (digs (m + n))) false := by
 have h188a := fun i : Nat=>S229 (digs m) (by omega) i
 have h188b := fun i : Nat=>S229 (digs n) (by omega) i
 refine sound (d := 2) tok2 mixed2 Tryz.func204 (by kernel_rfl) (by kernel_rfl) ?_
 (conv=>whnf); refine ⟨[.slot 5 1],[0,1,5,6,7],fun st mq=>∃ (i : Nat) (M : Nat) (N : Nat) (c : Nat) (O : List Int) (z : Int),((digs m).drop i = digs M) ∧ ((digs n).drop i = digs N) ∧ (c ≤ 1) ∧ (O ++ digs (M + N + c) = digs (m + n)) ∧ (O.length = i) ∧ (z = (c : Nat)) ∧ st = ⟨[(0,ints (digs m)),(1,ints (digs n)),(5,.oslice 0 0 0 i none),(6,i64 z),(7,i64 i)],⟨[⟨1,i,fun j=>[i64 (O.getD j 0)],0,false,true,false⟩],[],none,0⟩,[]⟩ ∧ mq = M + N + c,
  ⟨_,_,⟨0,m,n,0,[],0,rfl,rfl,by omega,rfl,rfl,rfl,rfl,rfl⟩,⟨⟨.inl rfl,rfl,rfl,rfl⟩,⟨⟨rfl,rfl,rfl,rfl,fun _=>rfl,fun i h=>.inl (absurd h (Nat.not_lt_zero i))⟩,trivial⟩,trivial⟩⟩,?_⟩
 rintro s0 m0 ⟨i,M,N,c,O,z,hM,hN,hc,hO,hl,hz,rfl,hmeas⟩
 subst hz
 obtain ⟨a1,a2,a3⟩ := drop_step hM
 obtain ⟨b1,b2,b3⟩ := drop_step hN
 have hi : i ≤ 1000 := by
  have := congrArg List.length hO
  rw [List.length_append,hl] at this
  omega
 by_cases hT : M + N + c = 0
 ·have hM0 : M = 0 := by omega
  have hN0 : N = 0 := by omega
  have hc0 : c = 0 := by omega
  subst hM0 hN0 hc0
  rw [digs0,List.append_nil] at hO
  have ha : ¬ i < (digs m).length := fun h=>absurd rfl (a1.1 h)
  have hb : ¬ i < (digs n).length := fun h=>absurd rfl (b1.1 h)
  rw [← hO]
  conv=>whnf
  (conv=>whnf); refine ifB_dec (fun w1=>?_) (fun w1=>?_)
  ·(exfalso; omega)
  ·conv=>whnf
   (conv=>whnf); refine ifB_dec (fun w2=>?_) (fun w2=>?_)
   ·(exfalso; omega)
   ·conv=>whnf
    (conv=>whnf); refine ⟨?_,nofun⟩
    exact ⟨rfl,hl.symm,fun _ _=>rfl⟩
 ·rw [digs_pos hT] at hO
  have h188i := h188a i
  have h188j := h188b i
  rw [a2] at h188i
  rw [b2] at h188j
  have ha : (i : Int) < (digs m).length ∨ M = 0 := by by_cases h : M = 0; exact .inr h; exact .inl (by have := a1.2 h; omega)
  have hb : (i : Int) < (digs n).length ∨ N = 0 := by by_cases h : N = 0; exact .inr h; exact .inl (by have := b1.2 h; omega)
  have e1 : (((M % 1000000000 : Nat) : Int) + ((N % 1000000000 : Nat) : Int) + (c : Int)).tmod 1000000000 = (((M + N + c) % 1000000000 : Nat) : Int) := by
   rw [Int.tmod_eq_emod_of_nonneg (by omega)]; omega
  have e2 : (((M % 1000000000 : Nat) : Int) + ((N % 1000000000 : Nat) : Int) + (c : Int)).tdiv 1000000000 = (((M + N + c) / 1000000000 - M / 1000000000 - N / 1000000000 : Nat) : Int) := by
   rw [Int.tdiv_eq_ediv_of_nonneg (by omega)]; omega
  have hsum : M / 1000000000 + N / 1000000000 + ((M + N + c) / 1000000000 - M / 1000000000 - N / 1000000000) = (M + N + c) / 1000000000 := by omega
  conv=>whnf
  (conv=>whnf); refine ifB_dec (fun w1=>?_) (fun w1=>?_)
  ·conv=>whnf
   (conv=>whnf); refine .inl ⟨_,_,byX rfl (Sound1.pl (h188i) rfl),?_⟩
   conv=>whnf
   (conv=>whnf); refine .inl ⟨_,_,byX rfl (Sound1.pl (h188j) rfl),?_⟩
   conv=>whnf
   (conv=>whnf); refine ⟨inK64 (by omega) (by omega),?_⟩
   conv=>whnf
   (conv=>whnf); refine ⟨inK64 (by omega) (by omega),?_⟩
   conv=>whnf
   (conv=>whnf); refine ⟨(by omega),?_⟩
   conv=>whnf
   (conv=>whnf); refine .inl ?_
   conv=>whnf
   (conv=>whnf); refine ⟨(by show _ * (8 + 1) ≤ _; omega),?_⟩
   conv=>whnf
   (conv=>whnf); refine ⟨⟨(by omega),inK64 (by omega) (by omega)⟩,?_⟩
   conv=>whnf
   (conv=>whnf); refine ⟨inK64 (by omega) (by omega),?_⟩
   conv=>whnf
   (conv=>whnf); refine ⟨_,_,⟨⟨i + 1,M / 1000000000,N / 1000000000,(M + N + c) / 1000000000 - M / 1000000000 - N / 1000000000,O ++ [(((M % 1000000000 : Nat) : Int) + ((N % 1000000000 : Nat) : Int) + (c : Int)).tmod 1000000000],(((M % 1000000000 : Nat) : Int) + ((N % 1000000000 : Nat) : Int) + (c : Int)).tdiv 1000000000,a3,b3,by omega,(by rw [e1,hsum,List.append_assoc]; exact hO),(by rw [List.length_append,hl]; rfl),e2,rfl,rfl⟩,by omega⟩,⟨⟨.inl rfl,rfl,rfl,rfl⟩,⟨⟨rfl,rfl,rfl,rfl,fun _=>rfl,fun j hj=>.inl (app_row O _ i j hl hj)⟩,trivial⟩,trivial⟩⟩
  ·conv=>whnf
   (conv=>whnf); refine ifB_dec (fun w2=>?_) (fun w2=>?_)
   ·conv=>whnf
    (conv=>whnf); refine .inl ⟨_,_,byX rfl (Sound1.pl (h188i) rfl),?_⟩
    conv=>whnf
    (conv=>whnf); refine .inl ⟨_,_,byX rfl (Sound1.pl (h188j) rfl),?_⟩
    conv=>whnf
    (conv=>whnf); refine ⟨inK64 (by omega) (by omega),?_⟩
    conv=>whnf
    (conv=>whnf); refine ⟨inK64 (by omega) (by omega),?_⟩
    conv=>whnf
    (conv=>whnf); refine ⟨(by omega),?_⟩
    conv=>whnf
    (conv=>whnf); refine .inl ?_
    conv=>whnf
    (conv=>whnf); refine ⟨(by show _ * (8 + 1) ≤ _; omega),?_⟩
    conv=>whnf
    (conv=>whnf); refine ⟨⟨(by omega),inK64 (by omega) (by omega)⟩,?_⟩
    conv=>whnf
    (conv=>whnf); refine ⟨inK64 (by omega) (by omega),?_⟩
    conv=>whnf
    (conv=>whnf); refine ⟨_,_,⟨⟨i + 1,M / 1000000000,N / 1000000000,(M + N + c) / 1000000000 - M / 1000000000 - N / 1000000000,O ++ [(((M % 1000000000 : Nat) : Int) + ((N % 1000000000 : Nat) : Int) + (c : Int)).tmod 1000000000],(((M % 1000000000 : Nat) : Int) + ((N % 1000000000 : Nat) : Int) + (c : Int)).tdiv 1000000000,a3,b3,by omega,(by rw [e1,hsum,List.append_assoc]; exact hO),(by rw [List.length_append,hl]; rfl),e2,rfl,rfl⟩,by omega⟩,⟨⟨.inl rfl,rfl,rfl,rfl⟩,⟨⟨rfl,rfl,rfl,rfl,fun _=>rfl,fun j hj=>.inl (app_row O _ i j hl hj)⟩,trivial⟩,trivial⟩⟩
   ·conv=>whnf
    (conv=>whnf); refine ifB_dec (fun w3=>?_) (fun w3=>?_)
    ·conv=>whnf
     (conv=>whnf); refine .inl ⟨_,_,byX rfl (Sound1.pl (h188i) rfl),?_⟩
     conv=>whnf
     (conv=>whnf); refine .inl ⟨_,_,byX rfl (Sound1.pl (h188j) rfl),?_⟩
     conv=>whnf
     (conv=>whnf); refine ⟨inK64 (by omega) (by omega),?_⟩
     conv=>whnf
     (conv=>whnf); refine ⟨inK64 (by omega) (by omega),?_⟩
     conv=>whnf
     (conv=>whnf); refine ⟨(by omega),?_⟩
     conv=>whnf
     (conv=>whnf); refine .inl ?_
     conv=>whnf
     (conv=>whnf); refine ⟨(by show _ * (8 + 1) ≤ _; omega),?_⟩
     conv=>whnf
     (conv=>whnf); refine ⟨⟨(by omega),inK64 (by omega) (by omega)⟩,?_⟩
     conv=>whnf
     (conv=>whnf); refine ⟨inK64 (by omega) (by omega),?_⟩
     conv=>whnf
     (conv=>whnf); refine ⟨_,_,⟨⟨i + 1,M / 1000000000,N / 1000000000,(M + N + c) / 1000000000 - M / 1000000000 - N / 1000000000,O ++ [(((M % 1000000000 : Nat) : Int) + ((N % 1000000000 : Nat) : Int) + (c : Int)).tmod 1000000000],(((M % 1000000000 : Nat) : Int) + ((N % 1000000000 : Nat) : Int) + (c : Int)).tdiv 1000000000,a3,b3,by omega,(by rw [e1,hsum,List.append_assoc]; exact hO),(by rw [List.length_append,hl]; rfl),e2,rfl,rfl⟩,by omega⟩,⟨⟨.inl rfl,rfl,rfl,rfl⟩,⟨⟨rfl,rfl,rfl,rfl,fun _=>rfl,fun j hj=>.inl (app_row O _ i j hl hj)⟩,trivial⟩,trivial⟩⟩
    ·(exfalso; omega)
def cmpN (m n : Nat) : Int := if m < n then -1 else if m = n then 0 else 1
theorem val_lt : ∀ (i : Nat) {a b : List Int},Dg a → Dg b → i < a.length → i < b.length → a.drop (i + 1) = b.drop (i + 1) → a.getD i 0 < b.getD i 0 → valN a < valN b
 | 0,x :: a,y :: b,_,_,_,_,hd,hlt=>by
  have hd : a = b := hd
  have hlt : x < y := hlt
  subst hd
  show x + 1000000000 * valN a < y + 1000000000 * valN a
  omega
 | i + 1,x :: a,y :: b,ha,hb,h1,h2,hd,hlt=>by
  have hx := ha x (by simp)
  have hy := hb y (by simp)
  have ih := val_lt i (a := a) (b := b) (fun d h=>ha d (by simp [h])) (fun d h=>hb d (by simp [h])) (by simpa using h1) (by simpa using h2) hd hlt
  show x + 1000000000 * valN a < y + 1000000000 * valN b
  omega
theorem digs_inj {m n : Nat} (h : digs m = digs n) : m = n := by
 have := valN_digs m
 rw [h,valN_digs] at this
 omega
theorem drop_cons {l : List Int} {i : Nat} (h : i < l.length) : l.drop i = l.getD i 0 :: l.drop (i + 1) := by
  rw [List.drop_eq_getElem_cons h]
  simp [List.getD_eq_getElem?_getD,h]
theorem S205 (m n : Nat) (hm : (digs m).length ≤ 1000) (hn : (digs n).length ≤ 1000) : SP 205 [ints (digs m), ints (digs n)] (i64 (cmpN m n)) false := by
 by_cases hl : (digs m).length = (digs n).length
 ·refine sound (d := 2) tok2 mixed2 Tryz.func205 (by kernel_rfl) (by kernel_rfl) ?_
  (conv=>whnf); refine ifB_bne (fun w1=>?_) (fun w1=>?_)
  ·(exfalso; omega)
  ·(conv=>whnf); refine ⟨inK64 (by omega) (by omega),?_⟩
   (conv=>whnf); refine ⟨[],[0,1,5],fun st mq=>∃ (k : Nat) (z : Int),(z = (k : Int) - 1) ∧ (k ≤ (digs m).length) ∧ ((digs m).drop k = (digs n).drop k) ∧ st = ⟨[(0,ints (digs m)),(1,ints (digs n)),(5,i64 z)],⟨[],[],none,0⟩,[]⟩ ∧ mq = k,
    ⟨_,_,⟨(digs m).length,_,rfl,Nat.le_refl _,(by rw [List.drop_length,hl,List.drop_length]),rfl,rfl⟩,⟨⟨.inl rfl,rfl,rfl,rfl⟩,trivial,trivial⟩⟩,?_⟩
   rintro s0 m0 ⟨k,z,hz,hk,hd,rfl,hmeas⟩
   subst hz
   by_cases hk0 : k = 0
   ·subst hk0
    have e : m = n := digs_inj hd
    subst e
    have ec : cmpN m m = 0 := by unfold cmpN; rw [if_neg (by omega),if_pos rfl]
    rw [ec]
    conv=>whnf
    (conv=>whnf); refine ⟨?_,nofun⟩
    rfl
   ·obtain ⟨i,rfl⟩ : ∃ i,k = i + 1 := ⟨k - 1,by omega⟩
    have ei : (((i + 1 : Nat) : Int) - 1).toNat = i := by omega
    have hi1 : i < (digs m).length := by omega
    have hi2 : i < (digs n).length := by omega
    rcases Int.lt_trichotomy ((digs m).getD i 0) ((digs n).getD i 0) with h | h | h
    ·have hv := val_lt i (digs_dg m) (digs_dg n) hi1 hi2 hd h
     rw [valN_digs,valN_digs] at hv
     have ec : cmpN m n = -1 := by unfold cmpN; rw [if_pos (by omega)]
     rw [ec]
     rw [← ei] at h
     conv=>whnf
     (conv=>whnf); refine ifB_dec (fun w2=>?_) (fun w2=>?_)
     ·conv=>whnf
      (conv=>whnf); refine ⟨[],by kernel_rfl,?_⟩
      conv=>whnf
      (conv=>whnf); refine ⟨⟨(by omega),(by omega)⟩,?_⟩
      conv=>whnf
      (conv=>whnf); refine ⟨⟨(by omega),(by omega)⟩,?_⟩
      conv=>whnf
      (conv=>whnf); refine ifB_dec (fun w3=>?_) (fun w3=>?_)
      ·conv=>whnf
       (conv=>whnf); refine ⟨?_,nofun⟩
       rfl
      ·(exfalso; omega)
     ·(exfalso; omega)
    ·have hd' : (digs m).drop i = (digs n).drop i := by rw [drop_cons hi1,drop_cons hi2,h,hd]
     have h' := h
     rw [← ei] at h'
     conv=>whnf
     (conv=>whnf); refine ifB_dec (fun w2=>?_) (fun w2=>?_)
     ·conv=>whnf
      (conv=>whnf); refine ⟨[],by kernel_rfl,?_⟩
      conv=>whnf
      (conv=>whnf); refine ⟨⟨(by omega),(by omega)⟩,?_⟩
      conv=>whnf
      (conv=>whnf); refine ⟨⟨(by omega),(by omega)⟩,?_⟩
      conv=>whnf
      (conv=>whnf); refine ifB_dec (fun w3=>?_) (fun w3=>?_)
      ·(exfalso; omega)
      ·conv=>whnf
       (conv=>whnf); refine ⟨[],by kernel_rfl,?_⟩
       conv=>whnf
       (conv=>whnf); refine ⟨⟨(by omega),(by omega)⟩,?_⟩
       conv=>whnf
       (conv=>whnf); refine ⟨⟨(by omega),(by omega)⟩,?_⟩
       conv=>whnf
       (conv=>whnf); refine ifB_dec (fun w4=>?_) (fun w4=>?_)
       ·(exfalso; omega)
       ·conv=>whnf
        (conv=>whnf); refine ⟨inK64 (by omega) (by omega),?_⟩
        conv=>whnf
        (conv=>whnf); refine ⟨_,_,⟨⟨i,((i + 1 : Nat) : Int) - 1 - 1,by omega,by omega,hd',rfl,rfl⟩,by omega⟩,⟨⟨.inl rfl,rfl,rfl,rfl⟩,trivial,trivial⟩⟩
     ·(exfalso; omega)
    ·have hv := val_lt i (digs_dg n) (digs_dg m) hi2 hi1 hd.symm h
     rw [valN_digs,valN_digs] at hv
     have ec : cmpN m n = 1 := by unfold cmpN; rw [if_neg (by omega),if_neg (by omega)]
     rw [ec]
     rw [← ei] at h
     conv=>whnf
     (conv=>whnf); refine ifB_dec (fun w2=>?_) (fun w2=>?_)
     ·conv=>whnf
      (conv=>whnf); refine ⟨[],by kernel_rfl,?_⟩
      conv=>whnf
      (conv=>whnf); refine ⟨⟨(by omega),(by omega)⟩,?_⟩
      conv=>whnf
      (conv=>whnf); refine ⟨⟨(by omega),(by omega)⟩,?_⟩
      conv=>whnf
      (conv=>whnf); refine ifB_dec (fun w3=>?_) (fun w3=>?_)
      ·(exfalso; omega)
      ·conv=>whnf
       (conv=>whnf); refine ⟨[],by kernel_rfl,?_⟩
       conv=>whnf
       (conv=>whnf); refine ⟨⟨(by omega),(by omega)⟩,?_⟩
       conv=>whnf
       (conv=>whnf); refine ⟨⟨(by omega),(by omega)⟩,?_⟩
       conv=>whnf
       (conv=>whnf); refine ifB_dec (fun w4=>?_) (fun w4=>?_)
       ·conv=>whnf
        (conv=>whnf); refine ⟨?_,nofun⟩
        rfl
       ·(exfalso; omega)
     ·(exfalso; omega)
 ·rcases Nat.lt_or_ge m n with h | h
  ·have h1 := digs_mono n m (by omega)
   have ec : cmpN m n = -1 := by unfold cmpN; rw [if_pos h]
   rw [ec]
   refine sound (d := 2) tok2 mixed2 Tryz.func205 (by kernel_rfl) (by kernel_rfl) ?_
   (conv=>whnf); refine ifB_bne (fun w1=>?_) (fun w1=>?_)
   ·(conv=>whnf); refine ifB_dec (fun w2=>?_) (fun w2=>?_)
    ·(conv=>whnf); refine ⟨?_,nofun⟩
     rfl
    ·(exfalso; omega)
   ·(exfalso; omega)
  ·have h1 := digs_mono m n h
   have ec : cmpN m n = 1 := by unfold cmpN; rw [if_neg (by omega),if_neg (fun e=>hl (by rw [e]))]
   rw [ec]
   refine sound (d := 2) tok2 mixed2 Tryz.func205 (by kernel_rfl) (by kernel_rfl) ?_
   (conv=>whnf); refine ifB_bne (fun w1=>?_) (fun w1=>?_)
   ·(conv=>whnf); refine ifB_dec (fun w2=>?_) (fun w2=>?_)
    ·(exfalso; omega)
    ·(conv=>whnf); refine ⟨?_,nofun⟩
     rfl
   ·(exfalso; omega)
theorem S206 (m n : Nat) (h : n ≤ m) (hm : (digs m).length ≤ 1000) : SP 206 [ints (digs m),ints (digs n)] (ints (digs (m - n))) false := by
 have hn := digs_mono m n h
 have h188b := fun i : Nat=>S229 (digs n) (by omega) i
 refine sound (d := 2) tok2 mixed2 Tryz.func206 (by kernel_rfl) (by kernel_rfl) ?_
 (conv=>whnf); refine ⟨[.slot 5 1],[0,1,5,6,7],fun st mq=>∃ (i : Nat) (M : Nat) (N : Nat) (c : Nat) (D : Nat) (O : List Int),((digs m).drop i = digs M) ∧ ((digs n).drop i = digs N) ∧ (c ≤ 1) ∧ (M = N + c + D) ∧ (O ++ pd ((digs m).length - i) D = pd (digs m).length (m - n)) ∧ (O.length = i) ∧ (i ≤ (digs m).length) ∧ st = ⟨[(0,ints (digs m)),(1,ints (digs n)),(5,.oslice 0 0 0 i none),(6,i64 c),(7,i64 i)],⟨[⟨1,i,fun j=>[i64 (O.getD j 0)],0,false,true,false⟩],[],none,0⟩,[]⟩ ∧ mq = (digs m).length - i,
  ⟨_,_,⟨0,m,n,0,m - n,[],rfl,rfl,by omega,by omega,rfl,rfl,by omega,rfl,rfl⟩,⟨⟨.inl rfl,rfl,rfl,rfl⟩,⟨⟨rfl,rfl,rfl,rfl,fun _=>rfl,fun i h=>.inl (absurd h (Nat.not_lt_zero i))⟩,trivial⟩,trivial⟩⟩,?_⟩
 rintro s0 m0 ⟨i,M,N,c,D,O,hM,hN,hc,hD,hO,hl,hi,rfl,hmeas⟩
 obtain ⟨a1,a2,a3⟩ := drop_step hM
 obtain ⟨b1,b2,b3⟩ := drop_step hN
 by_cases hlt : i < (digs m).length
 ·have h188j := h188b i
  rw [b2] at h188j
  have a2' : (digs m).getD (i : Int).toNat 0 = ((M % 1000000000 : Nat) : Int) := a2
  rw [show (digs m).length - i = ((digs m).length - (i + 1)) + 1 by omega] at hO
  have hO2 : O ++ (((D % 1000000000 : Nat) : Int) :: pd ((digs m).length - (i + 1)) (D / 1000000000)) = pd (digs m).length (m - n) := hO
  by_cases hs : ((M % 1000000000 : Nat) : Int) - ((N % 1000000000 : Nat) : Int) - (c : Int) < 0
  ·have e1 : ((M % 1000000000 : Nat) : Int) - ((N % 1000000000 : Nat) : Int) - (c : Int) + 1000000000 = ((D % 1000000000 : Nat) : Int) := by omega
   have hs' : (digs m).getD (i : Int).toNat 0 - ((N % 1000000000 : Nat) : Int) - (c : Int) < 0 := by rw [a2']; exact hs
   have e1' : (digs m).getD (i : Int).toNat 0 - ((N % 1000000000 : Nat) : Int) - (c : Int) + 1000000000 = ((D % 1000000000 : Nat) : Int) := by rw [a2']; exact e1
   conv=>whnf
   (conv=>whnf); refine ifB_dec (fun w1=>?_) (fun w1=>?_)
   ·conv=>whnf
    (conv=>whnf); refine ⟨[],by kernel_rfl,?_⟩
    conv=>whnf
    (conv=>whnf); refine ⟨⟨(by omega),(by omega)⟩,?_⟩
    conv=>whnf
    (conv=>whnf); refine .inl ⟨_,_,byX rfl (Sound1.pl (h188j) rfl),?_⟩
    conv=>whnf
    (conv=>whnf); refine ⟨inK64 (by omega) (by omega),?_⟩
    conv=>whnf
    (conv=>whnf); refine ⟨inK64 (by omega) (by omega),?_⟩
    conv=>whnf
    (conv=>whnf); refine ifB_dec (fun w2=>?_) (fun w2=>?_)
    ·conv=>whnf
     (conv=>whnf); refine ⟨inK64 (by omega) (by omega),?_⟩
     conv=>whnf
     (conv=>whnf); refine .inl ?_
     conv=>whnf
     (conv=>whnf); refine ⟨(by show _ * (8 + 1) ≤ _; omega),?_⟩
     conv=>whnf
     (conv=>whnf); refine ⟨inK64 (by omega) (by omega),?_⟩
     conv=>whnf
     (conv=>whnf); refine ⟨_,_,⟨⟨i + 1,M / 1000000000,N / 1000000000,1,D / 1000000000,O ++ [(digs m).getD (i : Int).toNat 0 - ((N % 1000000000 : Nat) : Int) - (c : Int) + 1000000000],a3,b3,by omega,by omega,(by rw [e1',List.append_assoc]; exact hO2),(by rw [List.length_append,hl]; rfl),by omega,rfl,rfl⟩,by omega⟩,⟨⟨.inl rfl,rfl,rfl,rfl⟩,⟨⟨rfl,rfl,rfl,rfl,fun _=>rfl,fun j hj=>.inl (app_row O _ i j hl hj)⟩,trivial⟩,trivial⟩⟩
    ·(exfalso; omega)
   ·(exfalso; omega)
  ·have e1 : ((M % 1000000000 : Nat) : Int) - ((N % 1000000000 : Nat) : Int) - (c : Int) = ((D % 1000000000 : Nat) : Int) := by omega
   have hs' : ¬ (digs m).getD (i : Int).toNat 0 - ((N % 1000000000 : Nat) : Int) - (c : Int) < 0 := by rw [a2']; exact hs
   have e1' : (digs m).getD (i : Int).toNat 0 - ((N % 1000000000 : Nat) : Int) - (c : Int) = ((D % 1000000000 : Nat) : Int) := by rw [a2']; exact e1
   conv=>whnf
   (conv=>whnf); refine ifB_dec (fun w1=>?_) (fun w1=>?_)
   ·conv=>whnf
    (conv=>whnf); refine ⟨[],by kernel_rfl,?_⟩
    conv=>whnf
    (conv=>whnf); refine ⟨⟨(by omega),(by omega)⟩,?_⟩
    conv=>whnf
    (conv=>whnf); refine .inl ⟨_,_,byX rfl (Sound1.pl (h188j) rfl),?_⟩
    conv=>whnf
    (conv=>whnf); refine ⟨inK64 (by omega) (by omega),?_⟩
    conv=>whnf
    (conv=>whnf); refine ⟨inK64 (by omega) (by omega),?_⟩
    conv=>whnf
    (conv=>whnf); refine ifB_dec (fun w2=>?_) (fun w2=>?_)
    ·(exfalso; omega)
    ·conv=>whnf
     (conv=>whnf); refine .inl ?_
     conv=>whnf
     (conv=>whnf); refine ⟨(by show _ * (8 + 1) ≤ _; omega),?_⟩
     conv=>whnf
     (conv=>whnf); refine ⟨inK64 (by omega) (by omega),?_⟩
     conv=>whnf
     (conv=>whnf); refine ⟨_,_,⟨⟨i + 1,M / 1000000000,N / 1000000000,0,D / 1000000000,O ++ [(digs m).getD (i : Int).toNat 0 - ((N % 1000000000 : Nat) : Int) - (c : Int)],a3,b3,by omega,by omega,(by rw [e1',List.append_assoc]; exact hO2),(by rw [List.length_append,hl]; rfl),by omega,rfl,rfl⟩,by omega⟩,⟨⟨.inl rfl,rfl,rfl,rfl⟩,⟨⟨rfl,rfl,rfl,rfl,fun _=>rfl,fun j hj=>.inl (app_row O _ i j hl hj)⟩,trivial⟩,trivial⟩⟩
   ·(exfalso; omega)
 ·have e : i = (digs m).length := by omega
  rw [e,Nat.sub_self] at hO
  have hO2 : O = pd (digs m).length (m - n) := by rw [← hO]; exact (List.append_nil O).symm
  have h186 := S216 O (by omega)
  have ht := trim_pd (digs m).length (m - n) (digs_mono m (m - n) (by omega))
  rw [← hO2] at ht
  rw [ht] at h186
  have h186' : SP 216 [.rslice 1 i fun j=>[i64 (O.getD j 0)]] (ints (digs (m - n))) false := by
   have h := h186
   rwa [show ints O = .rslice 1 O.length fun j=>[i64 (O.getD j 0)] from rfl,hl] at h
  conv=>whnf
  (conv=>whnf); refine ifB_dec (fun w1=>?_) (fun w1=>?_)
  ·(exfalso; omega)
  ·conv=>whnf
   (conv=>whnf); refine .inl ⟨_,_,byX rfl (h186'),?_⟩
   conv=>whnf
   (conv=>whnf); refine ⟨?_,nofun⟩
   exact ⟨rfl,rfl,fun _ _=>rfl⟩
theorem digs_len : ∀ (k n : Nat),n < 1000000000 ^ k → (digs n).length ≤ k
 | 0,n,h=>by
  have : n = 0 := by simpa using h
  rw [this,digs0]; simp
 | k + 1, n, h => by
  by_cases h0 : n = 0
  ·rw [h0,digs0]; simp
  ·rw [digs_pos h0]
   have := digs_len k (n / 1000000000) (by rw [Nat.pow_succ] at h; exact Nat.div_lt_of_lt_mul (by rw [Nat.mul_comm]; exact h))
   simpa using this
theorem digs_lt : ∀ n : Nat,n < 1000000000 ^ (digs n).length := digs_ind (by rw [digs0]; decide) fun n h ih=>by
  rw [digs_pos h,List.length_cons,Nat.pow_succ]
  omega
theorem S148 (z : Int) (hz : -9223372036854775807 ≤ z ∧ z ≤ 9223372036854775807) : SP 148 [i64 z] (wA z) false := by
  have hlz : (digs z.natAbs).length ≤ 3 := digs_len 3 _ (by have : (1000000000 : Nat) ^ 3 = 1000000000000000000000000000 := by decide
                                                            omega)
  by_cases hz0 : z < 0
  · refine sound (d := 2) tok2 mixed2 Tryz.func148 (by kernel_rfl) (by kernel_rfl) ?_
    (conv=>whnf); refine ifB_dec (fun w1=>?_) (fun w1=>?_)
    · (conv=>whnf); refine ⟨[.slot 4 1],[0,2,3,4],fun st mq=>∃ (i : Nat) (M : Nat) (c : Int) (O : List Int),(c = -(M : Nat)) ∧ (O ++ digs M = digs z.natAbs) ∧ (O.length = i) ∧ st = ⟨[(0,i64 c),(2,.optr 0 0 0 0),(3,i64 (-1)),(4,.oslice 1 0 0 i none)],⟨[⟨2,1,fun _=>[i64 0,.eslice],0,false,true,true⟩,⟨1,i,fun j=>[i64 (O.getD j 0)],0,false,true,false⟩],[],none,0⟩,[]⟩ ∧ mq = M,
        ⟨_,_,⟨0,z.natAbs,z,[],by omega,rfl,rfl,rfl,rfl⟩,⟨⟨.inl rfl,rfl,rfl,rfl⟩,⟨⟨rfl,rfl,rfl,rfl,fun _=>rfl,fun _ _=>.inl rfl⟩,⟨⟨rfl,rfl,rfl,rfl,fun _=>rfl,fun i h=>.inl (absurd h (Nat.not_lt_zero i))⟩,trivial⟩⟩,trivial⟩⟩,?_⟩
      rintro s0 m0 ⟨i,M,c,O,hM,hO,hl,rfl,hmeas⟩
      have hi : i ≤ 100 := by
        have := congrArg List.length hO
        rw [List.length_append,hl] at this
        omega
      have hMz : M ≤ 9223372036854775807 := by
        by_cases h0 : M ≤ z.natAbs
        · omega
        · exfalso
          have h1 := digs_mono M z.natAbs (by omega)
          have h2 := congrArg List.length hO
          rw [List.length_append] at h2
          have h3 : O = [] := List.length_eq_zero_iff.1 (by omega)
          rw [h3] at hO
          have := digs_inj (show digs M = digs z.natAbs from hO)
          omega
      by_cases h0 : M = 0
      · subst h0
        rw [digs0,List.append_nil] at hO
        have hdg : Dg O := by rw [hO]; exact digs_dg _
        have h162 := S174 (-1) O (by omega) hdg z.natAbs (by rw [hO]; exact valN_digs _)
        rw [show ints O = .rslice 1 O.length fun j=>[i64 (O.getD j 0)] from rfl,hl] at h162
        conv=>whnf
        (conv=>whnf); refine ifB_bne (fun w2=>?_) (fun w2=>?_)
        · (exfalso; omega)
        · conv=>whnf
          (conv=>whnf); refine .inl ⟨_,_,byX rfl (h162),?_⟩
          conv=>whnf
          (conv=>whnf); refine ⟨?_,nofun⟩
          exact ave_agg2 (endi (by unfold sgI; (repeat' split) <;> omega)) ⟨rfl,rfl,fun _ _=>rfl⟩
      · rw [digs_pos h0] at hO
        have e1 : c.tmod 1000000000 = -((M % 1000000000 : Nat) : Int) := by rw [hM,Int.neg_tmod,Int.tmod_eq_emod_of_nonneg (by omega)]; omega
        have e2 : c.tdiv 1000000000 = -((M / 1000000000 : Nat) : Int) := by rw [hM,Int.neg_tdiv,Int.tdiv_eq_ediv_of_nonneg (by omega)]; omega
        have h82 := S129 (c.tmod 1000000000) (by omega)
        have e3 : (((c.tmod 1000000000).natAbs : Nat) : Int) = ((M % 1000000000 : Nat) : Int) := by omega
        conv=>whnf
        (conv=>whnf); refine ifB_bne (fun w2=>?_) (fun w2=>?_)
        · conv=>whnf
          (conv=>whnf); refine ⟨(by omega),?_⟩
          conv=>whnf
          (conv=>whnf); refine .inl ⟨_,_,byX rfl (Sound1.pl (h82) rfl),?_⟩
          conv=>whnf
          (conv=>whnf); refine .inl ?_
          conv=>whnf
          (conv=>whnf); refine ⟨(by show _ * (8 + 1) ≤ _; omega),?_⟩
          conv=>whnf
          (conv=>whnf); refine ⟨⟨(by omega),inK64 (by omega) (by omega)⟩,?_⟩
          conv=>whnf
          (conv=>whnf); refine ⟨_,_,⟨⟨i + 1,M / 1000000000,c.tdiv 1000000000,O ++ [(((c.tmod 1000000000).natAbs : Nat) : Int)],e2,(by rw [e3,List.append_assoc]; exact hO),(by rw [List.length_append,hl]; rfl),rfl,rfl⟩,by omega⟩,⟨⟨.inl rfl,rfl,rfl,rfl⟩,⟨⟨rfl,rfl,rfl,rfl,fun _=>rfl,fun _ _=>.inl rfl⟩,⟨⟨rfl,rfl,rfl,rfl,fun _=>rfl,fun j hj=>.inl (app_row O _ i j hl hj)⟩,trivial⟩⟩,trivial⟩⟩
        · (exfalso; omega)
    · (exfalso; omega)
  · refine sound (d := 2) tok2 mixed2 Tryz.func148 (by kernel_rfl) (by kernel_rfl) ?_
    (conv=>whnf); refine ifB_dec (fun w1=>?_) (fun w1=>?_)
    · (exfalso; omega)
    · (conv=>whnf); refine ⟨[.slot 4 1],[0,2,3,4],fun st mq=>∃ (i : Nat) (M : Nat) (c : Int) (O : List Int),(c = (M : Nat)) ∧ (O ++ digs M = digs z.natAbs) ∧ (O.length = i) ∧ st = ⟨[(0,i64 c),(2,.optr 0 0 0 0),(3,i64 1),(4,.oslice 1 0 0 i none)],⟨[⟨2,1,fun _=>[i64 0,.eslice],0,false,true,true⟩,⟨1,i,fun j=>[i64 (O.getD j 0)],0,false,true,false⟩],[],none,0⟩,[]⟩ ∧ mq = M,
        ⟨_,_,⟨0,z.natAbs,z,[],by omega,rfl,rfl,rfl,rfl⟩,⟨⟨.inl rfl,rfl,rfl,rfl⟩,⟨⟨rfl,rfl,rfl,rfl,fun _=>rfl,fun _ _=>.inl rfl⟩,⟨⟨rfl,rfl,rfl,rfl,fun _=>rfl,fun i h=>.inl (absurd h (Nat.not_lt_zero i))⟩,trivial⟩⟩,trivial⟩⟩,?_⟩
      rintro s0 m0 ⟨i,M,c,O,hM,hO,hl,rfl,hmeas⟩
      have hi : i ≤ 100 := by
        have := congrArg List.length hO
        rw [List.length_append,hl] at this
        omega
      have hMz : M ≤ 9223372036854775807 := by
        by_cases h0 : M ≤ z.natAbs
        · omega
        · exfalso
          have h1 := digs_mono M z.natAbs (by omega)
          have h2 := congrArg List.length hO
          rw [List.length_append] at h2
          have h3 : O = [] := List.length_eq_zero_iff.1 (by omega)
          rw [h3] at hO
          have := digs_inj (show digs M = digs z.natAbs from hO)
          omega
      by_cases h0 : M = 0
      · subst h0
        rw [digs0,List.append_nil] at hO
        have hdg : Dg O := by rw [hO]; exact digs_dg _
        have h162 := S174 1 O (by omega) hdg z.natAbs (by rw [hO]; exact valN_digs _)
        rw [show ints O = .rslice 1 O.length fun j=>[i64 (O.getD j 0)] from rfl,hl] at h162
        conv=>whnf
        (conv=>whnf); refine ifB_bne (fun w2=>?_) (fun w2=>?_)
        · (exfalso; omega)
        · conv=>whnf
          (conv=>whnf); refine .inl ⟨_,_,byX rfl (h162),?_⟩
          conv=>whnf
          (conv=>whnf); refine ⟨?_,nofun⟩
          exact ave_agg2 (endi (by unfold sgI; (repeat' split) <;> omega)) ⟨rfl,rfl,fun _ _=>rfl⟩
      · rw [digs_pos h0] at hO
        have e1 : c.tmod 1000000000 = ((M % 1000000000 : Nat) : Int) := by rw [hM,Int.tmod_eq_emod_of_nonneg (by omega)]; omega
        have e2 : c.tdiv 1000000000 = ((M / 1000000000 : Nat) : Int) := by rw [hM,Int.tdiv_eq_ediv_of_nonneg (by omega)]; omega
        have h82 := S129 (c.tmod 1000000000) (by omega)
        have e3 : (((c.tmod 1000000000).natAbs : Nat) : Int) = ((M % 1000000000 : Nat) : Int) := by omega
        conv=>whnf
        (conv=>whnf); refine ifB_bne (fun w2=>?_) (fun w2=>?_)
        · conv=>whnf
          (conv=>whnf); refine ⟨(by omega),?_⟩
          conv=>whnf
          (conv=>whnf); refine .inl ⟨_,_,byX rfl (Sound1.pl (h82) rfl),?_⟩
          conv=>whnf
          (conv=>whnf); refine .inl ?_
          conv=>whnf
          (conv=>whnf); refine ⟨(by show _ * (8 + 1) ≤ _; omega),?_⟩
          conv=>whnf
          (conv=>whnf); refine ⟨⟨(by omega),inK64 (by omega) (by omega)⟩,?_⟩
          conv=>whnf
          (conv=>whnf); refine ⟨_,_,⟨⟨i + 1,M / 1000000000,c.tdiv 1000000000,O ++ [(((c.tmod 1000000000).natAbs : Nat) : Int)],e2,(by rw [e3,List.append_assoc]; exact hO),(by rw [List.length_append,hl]; rfl),rfl,rfl⟩,by omega⟩,⟨⟨.inl rfl,rfl,rfl,rfl⟩,⟨⟨rfl,rfl,rfl,rfl,fun _=>rfl,fun _ _=>.inl rfl⟩,⟨⟨rfl,rfl,rfl,rfl,fun _=>rfl,fun j hj=>.inl (app_row O _ i j hl hj)⟩,trivial⟩⟩,trivial⟩⟩
        · (exfalso; omega)
def Wd (z : Int) : Prop := (digs z.natAbs).length ≤ 100
theorem wA_eq {z s : Int} {n : Nat} (h1 : sgI z = s) (h2 : z.natAbs = n) : wA z = .agg [i64 s,ints (digs n)] := by
  subst h1 h2; rfl
theorem S120 (z : Int) : SP 120 [wA z] (i64 (sgI z)) false := by
 refine sound (d := 2) tok2 mixed2 Tryz.func120 (by kernel_rfl) (by kernel_rfl) ?_
 (conv=>whnf); refine ⟨?_,nofun⟩
 rfl
theorem S166 (z : Int) : SP 166 [wA z] (wA (-z)) false := by
 have hs : sgI (-z) = -sgI z := by unfold sgI; (repeat' split) <;> omega
 have hb : -1 ≤ sgI z ∧ sgI z ≤ 1 := by unfold sgI; (repeat' split) <;> omega
 have hd : (-z).natAbs = z.natAbs := by omega
 rw [wA_eq hs hd]
 refine sound (d := 2) tok2 mixed2 Tryz.func166 (by kernel_rfl) (by kernel_rfl) ?_
 (conv=>whnf); refine ⟨inK64 (by omega) (by omega),?_⟩
 (conv=>whnf); refine ⟨?_,nofun⟩
 exact ave_agg2 rfl ⟨rfl,rfl,fun _ _=>rfl⟩
theorem S215 (z : Int) : SP 215 [wA z] (wA (z.natAbs : Nat)) false := by
 have h164 := S166 z
 by_cases h : z < 0
 ·have e : ((z.natAbs : Nat) : Int) = -z := by omega
  have hs : sgI z = -1 := by unfold sgI; rw [if_pos h]
  rw [e]
  refine sound (d := 2) tok2 mixed2 Tryz.func215 (by kernel_rfl) (by kernel_rfl) ?_
  (conv=>whnf); refine ifB_dec (fun w1=>?_) (fun w1=>?_)
  ·(conv=>whnf); refine .inl ⟨_,_,byX rfl (h164),?_⟩
   (conv=>whnf); refine ⟨?_,nofun⟩
   exact ave_agg2 rfl ⟨rfl,rfl,fun _ _=>rfl⟩
  ·(exfalso; omega)
 ·have e : ((z.natAbs : Nat) : Int) = z := by omega
  have hs : ¬ sgI z < 0 := by unfold sgI; rw [if_neg h]; split <;> decide
  rw [e]
  refine sound (d := 2) tok2 mixed2 Tryz.func215 (by kernel_rfl) (by kernel_rfl) ?_
  (conv=>whnf); refine ifB_dec (fun w1=>?_) (fun w1=>?_)
  ·(exfalso; omega)
  ·(conv=>whnf); refine ⟨?_,nofun⟩
   exact ave_agg2 rfl ⟨rfl,rfl,fun _ _=>rfl⟩
theorem digs_add_len (m n : Nat) : (digs (m + n)).length ≤ max (digs m).length (digs n).length + 1 := by
 refine digs_len _ _ ?_
 have h1 := digs_lt m
 have h2 := digs_lt n
 have h3 : (1000000000 : Nat) ^ (digs m).length ≤ 1000000000 ^ max (digs m).length (digs n).length := Nat.pow_le_pow_right (by decide) (Nat.le_max_left _ _)
 have h4 : (1000000000 : Nat) ^ (digs n).length ≤ 1000000000 ^ max (digs m).length (digs n).length := Nat.pow_le_pow_right (by decide) (Nat.le_max_right _ _)
 rw [Nat.pow_succ]
 omega
theorem sg_cases (z : Int) : (z < 0 ∧ sgI z = -1) ∨ (z = 0 ∧ sgI z = 0) ∨ (0 < z ∧ sgI z = 1) := by
  unfold sgI
  (repeat' split) <;> omega
theorem S164 (x y : Int) (hx : Wd x) (hy : Wd y) : SP 164 [wA x, wA y] (wA (x + y)) false := by
 unfold Wd at hx hy
 have hl := digs_add_len x.natAbs y.natAbs
 have h167 := S204 x.natAbs y.natAbs (by omega) (by omega) (by omega)
 have h168 := S205 x.natAbs y.natAbs (by omega) (by omega)
 have hsx := sg_cases x
 have hsy := sg_cases y
 by_cases hx0 : x = 0
 ·have e : sgI x = 0 := by omega
  rw [show x + y = y by omega]
  refine sound (d := 2) tok2 mixed2 Tryz.func164 (by kernel_rfl) (by kernel_rfl) ?_
  (conv=>whnf); refine ifB_beq (fun w1=>?_) (fun w1=>?_)
  ·(conv=>whnf); refine ⟨?_,nofun⟩
   exact ave_agg2 rfl ⟨rfl,rfl,fun _ _=>rfl⟩
  ·(exfalso; omega)
 ·by_cases hy0 : y = 0
  ·have e : sgI y = 0 := by omega
   rw [show x + y = x by omega]
   refine sound (d := 2) tok2 mixed2 Tryz.func164 (by kernel_rfl) (by kernel_rfl) ?_
   (conv=>whnf); refine ifB_beq (fun w1=>?_) (fun w1=>?_)
   ·(exfalso; omega)
   ·(conv=>whnf); refine ifB_beq (fun w2=>?_) (fun w2=>?_)
    ·(conv=>whnf); refine ⟨?_,nofun⟩
     exact ave_agg2 rfl ⟨rfl,rfl,fun _ _=>rfl⟩
    ·(exfalso; omega)
  ·by_cases hs : sgI x = sgI y
   ·have ea : (x + y).natAbs = x.natAbs + y.natAbs := by omega
    have hss := sg_cases (x + y)
    have es : sgI (x + y) = sgI x := by omega
    have h162 := S174 (sgI x) (digs (x.natAbs + y.natAbs)) (by omega) (digs_dg _) (x.natAbs + y.natAbs) (valN_digs _)
    rw [if_neg (by omega)] at h162
    rw [wA_eq es ea]
    refine sound (d := 2) tok2 mixed2 Tryz.func164 (by kernel_rfl) (by kernel_rfl) ?_
    (conv=>whnf); refine ifB_beq (fun w1=>?_) (fun w1=>?_)
    ·(exfalso; omega)
    ·(conv=>whnf); refine ifB_beq (fun w2=>?_) (fun w2=>?_)
     ·(exfalso; omega)
     ·(conv=>whnf); refine ifB_beq (fun w3=>?_) (fun w3=>?_)
      ·(conv=>whnf); refine ⟨[],by kernel_rfl,?_⟩
       (conv=>whnf); refine .inl ⟨_,_,byX rfl (h167),?_⟩
       (conv=>whnf); refine .inl ⟨_,_,byX rfl (h162),?_⟩
       (conv=>whnf); refine ⟨?_,nofun⟩
       exact ave_agg2 rfl ⟨rfl,rfl,fun _ _=>rfl⟩
      ·(exfalso; omega)
   ·rcases Nat.lt_trichotomy x.natAbs y.natAbs with hlt | heq | hgt
    ·have h169 := S206 y.natAbs x.natAbs (by omega) (by omega)
     have hl2 := digs_mono y.natAbs (y.natAbs - x.natAbs) (by omega)
     have ea : (x + y).natAbs = y.natAbs - x.natAbs := by omega
     have hss := sg_cases (x + y)
     have es : sgI (x + y) = sgI y := by omega
     have h162 := S174 (sgI y) (digs (y.natAbs - x.natAbs)) (by omega) (digs_dg _) (y.natAbs - x.natAbs) (valN_digs _)
     rw [if_neg (by omega)] at h162
     have ec : cmpN x.natAbs y.natAbs = -1 := by unfold cmpN; rw [if_pos hlt]
     rw [ec] at h168
     rw [wA_eq es ea]
     refine sound (d := 2) tok2 mixed2 Tryz.func164 (by kernel_rfl) (by kernel_rfl) ?_
     (conv=>whnf); refine ifB_beq (fun w1=>?_) (fun w1=>?_)
     ·(exfalso; omega)
     ·(conv=>whnf); refine ifB_beq (fun w2=>?_) (fun w2=>?_)
      ·(exfalso; omega)
      ·(conv=>whnf); refine ifB_beq (fun w3=>?_) (fun w3=>?_)
       ·(exfalso; omega)
       ·(conv=>whnf); refine .inl ⟨_,_,byX rfl (Sound1.pl (h168) rfl),?_⟩
        (conv=>whnf); refine ⟨[],by kernel_rfl,?_⟩
        (conv=>whnf); refine .inl ⟨_,_,byX rfl (h169),?_⟩
        (conv=>whnf); refine .inl ⟨_,_,byX rfl (h162),?_⟩
        (conv=>whnf); refine ⟨?_,nofun⟩
        exact ave_agg2 rfl ⟨rfl,rfl,fun _ _=>rfl⟩
    ·have ec : cmpN x.natAbs y.natAbs = 0 := by unfold cmpN; rw [if_neg (by omega),if_pos heq]
     rw [ec] at h168
     rw [wA_eq (z := x + y) (s := 0) (n := 0) (by rw [show x + y = 0 by omega]; rfl) (by omega),digs0]
     refine sound (d := 2) tok2 mixed2 Tryz.func164 (by kernel_rfl) (by kernel_rfl) ?_
     (conv=>whnf); refine ifB_beq (fun w1=>?_) (fun w1=>?_)
     ·(exfalso; omega)
     ·(conv=>whnf); refine ifB_beq (fun w2=>?_) (fun w2=>?_)
      ·(exfalso; omega)
      ·(conv=>whnf); refine ifB_beq (fun w3=>?_) (fun w3=>?_)
       ·(exfalso; omega)
       ·(conv=>whnf); refine .inl ⟨_,_,byX rfl (Sound1.pl (h168) rfl),?_⟩
        (conv=>whnf); refine ⟨?_,nofun⟩
        exact ave_agg2 rfl rfl
    ·have h169 := S206 x.natAbs y.natAbs (by omega) (by omega)
     have hl2 := digs_mono x.natAbs (x.natAbs - y.natAbs) (by omega)
     have ea : (x + y).natAbs = x.natAbs - y.natAbs := by omega
     have hss := sg_cases (x + y)
     have es : sgI (x + y) = sgI x := by omega
     have h162 := S174 (sgI x) (digs (x.natAbs - y.natAbs)) (by omega) (digs_dg _) (x.natAbs - y.natAbs) (valN_digs _)
     rw [if_neg (by omega)] at h162
     have ec : cmpN x.natAbs y.natAbs = 1 := by unfold cmpN; rw [if_neg (by omega),if_neg (by omega)]
     rw [ec] at h168
     rw [wA_eq es ea]
     refine sound (d := 2) tok2 mixed2 Tryz.func164 (by kernel_rfl) (by kernel_rfl) ?_
     (conv=>whnf); refine ifB_beq (fun w1=>?_) (fun w1=>?_)
     ·(exfalso; omega)
     ·(conv=>whnf); refine ifB_beq (fun w2=>?_) (fun w2=>?_)
      ·(exfalso; omega)
      ·(conv=>whnf); refine ifB_beq (fun w3=>?_) (fun w3=>?_)
       ·(exfalso; omega)
       ·(conv=>whnf); refine .inl ⟨_,_,byX rfl (Sound1.pl (h168) rfl),?_⟩
        (conv=>whnf); refine ⟨[],by kernel_rfl,?_⟩
        (conv=>whnf); refine .inl ⟨_,_,byX rfl (h169),?_⟩
        (conv=>whnf); refine .inl ⟨_,_,byX rfl (h162),?_⟩
        (conv=>whnf); refine ⟨?_,nofun⟩
        exact ave_agg2 rfl ⟨rfl,rfl,fun _ _=>rfl⟩
theorem Wd.neg {z : Int} (h : Wd z) : Wd (-z) := by
  unfold Wd at h ⊢
  rwa [show (-z).natAbs = z.natAbs by omega]
theorem S195 (x y : Int) (hx : Wd x) (hy : Wd y) : SP 195 [wA x,wA y] (wA (x - y)) false := by
 have h164 := S166 y
 have h145 := S164 x (-y) hx hy.neg
 rw [← Int.sub_eq_add_neg] at h145
 refine sound (d := 2) tok2 mixed2 Tryz.func195 (by kernel_rfl) (by kernel_rfl) ?_
 (conv=>whnf); refine ⟨[],by kernel_rfl,?_⟩
 (conv=>whnf); refine .inl ⟨_,_,byX rfl (h164),?_⟩
 (conv=>whnf); refine .inl ⟨_,_,byX rfl (h145),?_⟩
 (conv=>whnf); refine ⟨?_,nofun⟩
 exact ave_agg2 rfl ⟨rfl,rfl,fun _ _=>rfl⟩
theorem S160 (x y : Int) (hx : Wd x) (hy : Wd y) : SP 160 [wA x,wA y] (i64 (sgI (x - y))) false := by
 have h170 := S195 x y hx hy
 refine sound (d := 2) tok2 mixed2 Tryz.func160 (by kernel_rfl) (by kernel_rfl) ?_
 (conv=>whnf); refine .inl ⟨_,_,byX rfl (h170),?_⟩
 (conv=>whnf); refine ⟨?_,nofun⟩
 rfl
end Go.Tr

/- Contracts: products of whole numbers of any size. Conditions: none. -/
namespace Go.Tr
open Go Go.Proofs
set_option maxRecDepth 20000
set_option maxHeartbeats 8000000

theorem valN_set : ∀ (l : List Int) (j : Nat) (v : Int),j < l.length → valN (l.set j v) = valN l + (v - l.getD j 0) * 1000000000 ^ j
 | [],_,_,h=>absurd h (Nat.not_lt_zero _)
 | d :: r,0,v,_=>by
  show v + 1000000000 * valN r = d + 1000000000 * valN r + (v - d) * 1
  omega
 | d :: r,j + 1,v,h=>by
  have ih := valN_set r j v (by simpa using h)
  show d + 1000000000 * valN (r.set j v) = d + 1000000000 * valN r + (v - r.getD j 0) * 1000000000 ^ (j + 1)
  rw [ih,Int.pow_succ]
  grind
theorem valN_take : ∀ (l : List Int) (i : Nat),i < l.length → valN (l.take (i + 1)) = valN (l.take i) + l.getD i 0 * 1000000000 ^ i
 | [],_,h=>absurd h (Nat.not_lt_zero _)
 | d :: r,0,_=>by
  show d + 1000000000 * valN (r.take 0) = 0 + d * 1
  rw [show r.take 0 = [] from rfl]
  show d + 1000000000 * 0 = 0 + d * 1
  omega
 | d :: r,i + 1,h=>by
  have ih := valN_take r i (by simpa using h)
  show d + 1000000000 * valN (r.take (i + 1)) = d + 1000000000 * valN (r.take i) + r.getD i 0 * 1000000000 ^ (i + 1)
  rw [ih,Int.pow_succ]
  grind
theorem valN_rep (n : Nat) : valN (List.replicate n 0) = 0 := by
 induction n with
 | zero=>rfl
 | succ n ih =>
  show 0 + 1000000000 * valN (List.replicate n 0) = 0
  rw [ih]; rfl
theorem dg_set {l : List Int} (h : Dg l) {v : Int} (hv : 0 ≤ v ∧ v < 1000000000) (j : Nat) : Dg (l.set j v) := fun d hd=>by
 rcases List.mem_or_eq_of_mem_set hd with hd | hd
 ·exact h d hd
 ·rw [hd]; exact hv
theorem dg_at {l : List Int} (h : Dg l) (j : Nat) : 0 ≤ l.getD j 0 ∧ l.getD j 0 < 1000000000 := by
 by_cases hj : j < l.length
 ·exact h _ (getD_memI hj)
 ·rw [List.getD_eq_getElem?_getD,List.getElem?_eq_none (by omega)]
  decide
theorem dg_prod {a b : Int} (ha : 0 ≤ a ∧ a < 1000000000) (hb : 0 ≤ b ∧ b < 1000000000) : 0 ≤ a * b ∧ a * b ≤ 999999998000000001 := by
 have h1 := Int.mul_le_mul (show a ≤ 999999999 by omega) (show b ≤ 999999999 by omega) hb.1 (by decide)
 have h2 := Int.mul_nonneg ha.1 hb.1
 omega
theorem getD_set0 (l : List Int) (i j : Nat) (v : Int) (h : l.getD j 0 = 0) (hj : j ≠ i) : (l.set i v).getD j 0 = 0 := by
  rw [getD_setI,if_neg (fun e=>hj e.1)]
  exact h
theorem rep_row0 (n i : Nat) : [i64 ((List.replicate n (0 : Int)).getD i 0)] = [i64 0] := by
  simp [List.getD_eq_getElem?_getD,List.getElem?_replicate]
  split <;> rfl
theorem mul_step {O A B : List Int} {i k : Nat} {c v a : Int} (hA : Dg A) (hB : Dg B) (hO : Dg O) (hk : k < B.length) (hl : i + k < O.length) (hc : 0 ≤ c ∧ c < 1000000000)
  (ha : a = A.getD i 0) (hV : valN O + c * 1000000000 ^ (i + k) = valN (A.take i) * valN B + a * 1000000000 ^ i * valN (B.take k))
  (hv : v = O.getD (i + k) 0 + a * B.getD k 0 + c) :
  0 ≤ v ∧ v ≤ 999999999999999999 ∧ Dg (O.set (i + k) (v.tmod 1000000000)) ∧ 0 ≤ v.tdiv 1000000000 ∧ v.tdiv 1000000000 < 1000000000 ∧
  valN (O.set (i + k) (v.tmod 1000000000)) + v.tdiv 1000000000 * 1000000000 ^ (i + (k + 1)) = valN (A.take i) * valN B + a * 1000000000 ^ i * valN (B.take (k + 1)) := by
 have h1 := dg_at hO (i + k)
 have h2 := dg_at hA i
 have h3 := dg_at hB k
 rw [← ha] at h2
 have h4 := dg_prod h2 h3
 have h0 : 0 ≤ v := by omega
 have e1 : v.tmod 1000000000 = v % 1000000000 := Int.tmod_eq_emod_of_nonneg h0
 have e2 : v.tdiv 1000000000 = v / 1000000000 := Int.tdiv_eq_ediv_of_nonneg h0
 have e3 := Int.emod_add_mul_ediv v 1000000000
 refine ⟨h0,by omega,?_,by omega,by omega,?_⟩
 ·exact dg_set hO (by rw [e1]; omega) _
 ·rw [valN_set O (i + k) _ hl,valN_take B k hk,e1,e2]
  have e4 : (1000000000 : Int) ^ (i + (k + 1)) = 1000000000 ^ (i + k) * 1000000000 := by rw [← Nat.add_assoc,Int.pow_succ]
  have e5 : (1000000000 : Int) ^ (i + k) = 1000000000 ^ i * 1000000000 ^ k := Int.pow_add _ _ _
  rw [e4]
  generalize hq : v / 1000000000 = q at *
  generalize hr : v % 1000000000 = r at *
  rw [e5] at hV ⊢
  generalize (1000000000 : Int) ^ i = P at *
  generalize (1000000000 : Int) ^ k = Q at *
  grind
theorem mul_nn {A B : List Int} (hA : Dg A) (hB : Dg B) : 0 ≤ valN A * valN B := Int.mul_nonneg (valN_nn hA) (valN_nn hB)
theorem S147c (s t : Int) (A B : List Int) (hA : Dg A) (hB : Dg B) (hla : A.length ≤ 100) (hlb : B.length ≤ 100) (hs : -1 ≤ s ∧ s ≤ 1) (ht : -1 ≤ t ∧ t ≤ 1) (hst : inK .i64 (s * t)) :
  SP 147 [.agg [i64 s,ints A],.agg [i64 t,ints B]] (.agg [i64 (if (valN A * valN B).toNat = 0 then 0 else s * t),ints (digs (valN A * valN B).toNat)]) false := by
 have hb8 : Tryz.prog.types[3].bytes = 8 := by kernel_rfl
 have hnn := mul_nn hA hB
 refine sound (d := 2) tok2 mixed2 Tryz.func147 (by kernel_rfl) (by kernel_rfl) ?_
 (conv=>whnf); refine ⟨inK64 (by omega) (by omega),?_⟩
 (conv=>whnf); refine ⟨inK64 (by omega) (by omega),?_⟩
 (conv=>whnf); refine ⟨⟨(by omega),⟨(by omega),⟨(by omega),(by show _ * ((8 : Nat) : Int) ≤ _; omega)⟩⟩⟩,?_⟩
 (conv=>whnf); refine ⟨[],[2,3,4,5,6],fun st mq=>∃ (i : Nat) (O : List Int),(i ≤ A.length) ∧ (O.length = ((A.length : Int) + B.length + 1).toNat) ∧ (Dg O) ∧ (valN O = valN (A.take i) * valN B) ∧ (∀ j,i + B.length ≤ j → O.getD j 0 = 0) ∧ st = ⟨[(2,.optr 0 0 0 0),(3,.optr 1 0 0 0),(4,.optr 2 0 0 0),(5,.oslice 3 0 0 ((A.length : Int) + B.length + 1).toNat (some ((A.length : Int) + B.length + 1).toNat)),(6,i64 i)],⟨[⟨2,1,fun _=>[i64 s,ints A],0,false,true,true⟩,⟨2,1,fun _=>[i64 t,ints B],0,false,true,true⟩,⟨2,1,fun _=>[i64 0,.eslice],0,false,true,true⟩,⟨1,((A.length : Int) + B.length + 1).toNat,fun j=>[i64 (O.getD j 0)],0,false,true,false⟩],[],none,0⟩,[]⟩ ∧ mq = A.length - i,
  ⟨_,_,⟨0,List.replicate ((A.length : Int) + B.length + 1).toNat 0,by omega,by simp,(fun d hd=>by rw [List.eq_of_mem_replicate hd]; decide),(by rw [valN_rep]; show (0 : Int) = 0 * valN B; omega),(fun j _=>by simp [List.getD_eq_getElem?_getD,List.getElem?_replicate]; split <;> rfl),rfl,rfl⟩,⟨⟨.inl rfl,rfl,rfl,rfl⟩,⟨⟨rfl,rfl,rfl,rfl,fun _=>rfl,fun _ _=>.inl rfl⟩,⟨⟨rfl,rfl,rfl,rfl,fun _=>rfl,fun _ _=>.inl rfl⟩,⟨⟨rfl,rfl,rfl,rfl,fun _=>rfl,fun _ _=>.inl rfl⟩,⟨⟨rfl,rfl,rfl,rfl,fun _=>rfl,fun i hi=>.inl ((rep_row0 ((A.length : Int) + B.length + 1).toNat i).trans rfl)⟩,trivial⟩⟩⟩⟩,trivial⟩⟩,?_⟩
 rintro s0 m0 ⟨i,O,hi,hl,hd,hV,hz,rfl,hmeas⟩
 by_cases hlt : i < A.length
 ·conv=>whnf
  (conv=>whnf); refine ifB_dec (fun w1=>?_) (fun w1=>?_)
  ·conv=>whnf
   (conv=>whnf); refine ⟨[],[2,3,4,5,6,7,8],fun st mq=>∃ (k : Nat) (Y : List Int) (c : Int),(k ≤ B.length) ∧ (Y.length = ((A.length : Int) + B.length + 1).toNat) ∧ (Dg Y) ∧ (valN Y + c * 1000000000 ^ (i + k) = valN (A.take i) * valN B + A.getD i 0 * 1000000000 ^ i * valN (B.take k)) ∧ (∀ j,i + B.length ≤ j → Y.getD j 0 = 0) ∧ (0 ≤ c ∧ c < 1000000000) ∧ st = ⟨[(2,.optr 0 0 0 0),(3,.optr 1 0 0 0),(4,.optr 2 0 0 0),(5,.oslice 3 0 0 ((A.length : Int) + B.length + 1).toNat (some ((A.length : Int) + B.length + 1).toNat)),(6,i64 i),(7,i64 c),(8,i64 k)],⟨[⟨2,1,fun _=>[i64 s,ints A],0,false,true,true⟩,⟨2,1,fun _=>[i64 t,ints B],0,false,true,true⟩,⟨2,1,fun _=>[i64 0,.eslice],0,false,true,true⟩,⟨1,((A.length : Int) + B.length + 1).toNat,fun j=>[i64 (Y.getD j 0)],0,false,true,false⟩],[],none,0⟩,[]⟩ ∧ mq = B.length - k,
    ⟨_,_,⟨0,O,0,by omega,hl,hd,(by rw [hV]; show valN (A.take i) * valN B + 0 * 1000000000 ^ (i + 0) = valN (A.take i) * valN B + A.getD i 0 * 1000000000 ^ i * valN (B.take 0); rw [show valN (B.take 0) = 0 from rfl]; grind),hz,by omega,rfl,rfl⟩,⟨⟨.inl rfl,rfl,rfl,rfl⟩,⟨⟨rfl,rfl,rfl,rfl,fun _=>rfl,fun _ _=>.inl rfl⟩,⟨⟨rfl,rfl,rfl,rfl,fun _=>rfl,fun _ _=>.inl rfl⟩,⟨⟨rfl,rfl,rfl,rfl,fun _=>rfl,fun _ _=>.inl rfl⟩,⟨⟨rfl,rfl,rfl,rfl,fun _=>rfl,fun _ _=>.inl rfl⟩,trivial⟩⟩⟩⟩,trivial⟩⟩,?_⟩
   rintro s0 m0 ⟨k,Y,c,hk,hYl,hYd,hYV,hYz,hc,rfl,hmeas⟩
   by_cases hkl : k < B.length
   ·have e1 : 0 + ((i : Int) + k).toNat = i + k := by omega
    have e2 : ((i : Int) + k).toNat = i + k := by omega
    obtain ⟨m1,m2,m3,m4,m5,m6⟩ := mul_step (v := Y.getD (0 + ((i : Int) + k).toNat) 0 + A.getD (i : Int).toNat 0 * B.getD (k : Int).toNat 0 + c) hA hB hYd hkl (show i + k < Y.length by omega) hc rfl hYV (by rw [e1]; rfl)
    have m7 := dg_prod (dg_at hA (i : Int).toNat) (dg_at hB (k : Int).toNat)
    have m8 := dg_at hYd (0 + ((i : Int) + k).toNat)
    conv=>whnf
    conv=>whnf
    (conv=>whnf); refine ifB_dec (fun w2=>?_) (fun w2=>?_)
    ·conv=>whnf
     conv=>whnf
     (conv=>whnf); refine ⟨[],by kernel_rfl,?_⟩
     conv=>whnf
     conv=>whnf
     (conv=>whnf); refine ⟨inK64 (by omega) (by omega),?_⟩
     conv=>whnf
     conv=>whnf
     (conv=>whnf); refine ⟨⟨(by omega),(by omega)⟩,?_⟩
     conv=>whnf
     conv=>whnf
     (conv=>whnf); refine ⟨⟨(by omega),(by omega)⟩,?_⟩
     conv=>whnf
     conv=>whnf
     (conv=>whnf); refine ⟨⟨(by omega),(by omega)⟩,?_⟩
     conv=>whnf
     conv=>whnf
     (conv=>whnf); refine ⟨inK64 (by omega) (by omega),?_⟩
     conv=>whnf
     conv=>whnf
     (conv=>whnf); refine ⟨inK64 (by omega) (by omega),?_⟩
     conv=>whnf
     conv=>whnf
     (conv=>whnf); refine ⟨inK64 (by omega) (by omega),?_⟩
     conv=>whnf
     conv=>whnf
     (conv=>whnf); refine ⟨inK64 (by omega) (by omega),?_⟩
     conv=>whnf
     conv=>whnf
     (conv=>whnf); refine ⟨(by omega),?_⟩
     conv=>whnf
     conv=>whnf
     (conv=>whnf); refine ⟨⟨(by omega),inK64 (by omega) (by omega)⟩,?_⟩
     conv=>whnf
     conv=>whnf
     (conv=>whnf); refine ⟨⟨(by omega),(by omega)⟩,?_⟩
     refine ⟨_,fun i _=>rowI _ _ i _ (by first | omega | (simp only [List.length_set]; omega) | (simp only [List.length_replicate]; omega) | (simp only [List.length_set,List.length_replicate]; omega)),?_⟩
     conv=>whnf
     conv=>whnf
     (conv=>whnf); refine ⟨inK64 (by omega) (by omega),?_⟩
     conv=>whnf
     conv=>whnf
     (conv=>whnf); refine ⟨_,_,⟨⟨k + 1,Y.set ((i : Int) + k).toNat ((Y.getD (0 + ((i : Int) + k).toNat) 0 + A.getD (i : Int).toNat 0 * B.getD (k : Int).toNat 0 + c).tmod 1000000000),(Y.getD (0 + ((i : Int) + k).toNat) 0 + A.getD (i : Int).toNat 0 * B.getD (k : Int).toNat 0 + c).tdiv 1000000000,by omega,(by rw [List.length_set]; exact hYl),(by rw [e2]; exact m3),(by rw [e2]; exact m6),(fun j hj=>getD_set0 _ _ _ _ (hYz j hj) (by omega)),⟨m4,m5⟩,rfl,rfl⟩,by omega⟩,⟨⟨.inl rfl,rfl,rfl,rfl⟩,⟨⟨rfl,rfl,rfl,rfl,fun _=>rfl,fun _ _=>.inl rfl⟩,⟨⟨rfl,rfl,rfl,rfl,fun _=>rfl,fun _ _=>.inl rfl⟩,⟨⟨rfl,rfl,rfl,rfl,fun _=>rfl,fun _ _=>.inl rfl⟩,⟨⟨rfl,rfl,rfl,rfl,fun _=>rfl,fun _ _=>.inl rfl⟩,trivial⟩⟩⟩⟩,trivial⟩⟩
    ·(exfalso; omega)
   ·have e1 : 0 + ((i : Int) + B.length).toNat = i + B.length := by omega
    have e2 : ((i : Int) + B.length).toNat = i + B.length := by omega
    have ek : k = B.length := by omega
    have hz0 := hYz (0 + ((i : Int) + B.length).toNat) (by omega)
    have hV2 : valN (Y.set (i + B.length) (Y.getD (0 + ((i : Int) + B.length).toNat) 0 + c)) = valN (A.take (i + 1)) * valN B := by
     rw [hz0,valN_set Y _ _ (by omega),hYz (i + B.length) (by omega),valN_take A i hlt]
     rw [ek,List.take_length] at hYV
     grind
    conv=>whnf
    conv=>whnf
    (conv=>whnf); refine ifB_dec (fun w2=>?_) (fun w2=>?_)
    ·(exfalso; omega)
    ·conv=>whnf
     conv=>whnf
     (conv=>whnf); refine ⟨[],by kernel_rfl,?_⟩
     conv=>whnf
     conv=>whnf
     (conv=>whnf); refine ⟨inK64 (by omega) (by omega),?_⟩
     conv=>whnf
     conv=>whnf
     (conv=>whnf); refine ⟨inK64 (by omega) (by omega),?_⟩
     conv=>whnf
     conv=>whnf
     (conv=>whnf); refine ⟨⟨(by omega),(by omega)⟩,?_⟩
     conv=>whnf
     conv=>whnf
     (conv=>whnf); refine ⟨inK64 (by omega) (by omega),?_⟩
     conv=>whnf
     conv=>whnf
     (conv=>whnf); refine ⟨⟨(by omega),(by omega)⟩,?_⟩
     refine ⟨_,fun i _=>rowI _ _ i _ (by first | omega | (simp only [List.length_set]; omega) | (simp only [List.length_replicate]; omega) | (simp only [List.length_set,List.length_replicate]; omega)),?_⟩
     conv=>whnf
     conv=>whnf
     (conv=>whnf); refine ⟨inK64 (by omega) (by omega),?_⟩
     conv=>whnf
     conv=>whnf
     (conv=>whnf); refine ⟨_,_,⟨⟨i + 1,Y.set ((i : Int) + B.length).toNat (Y.getD (0 + ((i : Int) + B.length).toNat) 0 + c),by omega,(by rw [List.length_set]; exact hYl),(dg_set hYd (by omega) _),(by rw [e2]; exact hV2),(fun j hj=>getD_set0 _ _ _ _ (hYz j (by omega)) (by omega)),rfl,rfl⟩,by omega⟩,⟨⟨.inl rfl,rfl,rfl,rfl⟩,⟨⟨rfl,rfl,rfl,rfl,fun _=>rfl,fun _ _=>.inl rfl⟩,⟨⟨rfl,rfl,rfl,rfl,fun _=>rfl,fun _ _=>.inl rfl⟩,⟨⟨rfl,rfl,rfl,rfl,fun _=>rfl,fun _ _=>.inl rfl⟩,⟨⟨rfl,rfl,rfl,rfl,fun _=>rfl,fun _ _=>.inl rfl⟩,trivial⟩⟩⟩⟩,trivial⟩⟩
  ·(exfalso; omega)
 ·have e : i = A.length := by omega
  have hv : valN O = valN A * valN B := by rw [hV,e,List.take_length]
  have h162 := S174 (s * t) O (by omega) hd (valN A * valN B).toNat (by omega)
  rw [show ints O = .rslice 1 O.length fun j=>[i64 (O.getD j 0)] from rfl,hl] at h162
  conv=>whnf
  (conv=>whnf); refine ifB_dec (fun w1=>?_) (fun w1=>?_)
  ·(exfalso; omega)
  ·conv=>whnf
   (conv=>whnf); refine ⟨by assumption,?_⟩
   conv=>whnf
   (conv=>whnf); refine .inl ⟨_,_,byX rfl (h162),?_⟩
   conv=>whnf
   (conv=>whnf); refine ⟨?_,nofun⟩
   exact ave_agg2 rfl ⟨rfl,rfl,fun _ _=>rfl⟩
theorem S147 (x y : Int) (hx : Wd x) (hy : Wd y) : SP 147 [wA x,wA y] (wA (x * y)) false := by
 unfold Wd at hx hy
 have hsx := sg_cases x
 have hsy := sg_cases y
 have hs : sgI x * sgI y = sgI (x * y) ∧ inK .i64 (sgI x * sgI y) := by
  rcases hsx with ⟨h1,h2⟩ | ⟨h1,h2⟩ | ⟨h1,h2⟩ <;> rcases hsy with ⟨h3,h4⟩ | ⟨h3,h4⟩ | ⟨h3,h4⟩ <;> rw [h2,h4] <;> refine ⟨?_,by decide⟩
  ·have := Int.mul_pos_of_neg_of_neg h1 h3
   unfold sgI; rw [if_neg (by omega),if_neg (by omega)]; rfl
  ·have : x * y = 0 := by rw [h3,Int.mul_zero]
   rw [this]; rfl
  ·have := Int.mul_neg_of_neg_of_pos h1 h3
   unfold sgI; rw [if_pos this]; rfl
  ·have : x * y = 0 := by rw [h1,Int.zero_mul]
   rw [this]; rfl
  ·have : x * y = 0 := by rw [h1,Int.zero_mul]
   rw [this]; rfl
  ·have : x * y = 0 := by rw [h1,Int.zero_mul]
   rw [this]; rfl
  ·have := Int.mul_neg_of_pos_of_neg h1 h3
   unfold sgI; rw [if_pos this]; rfl
  ·have : x * y = 0 := by rw [h3,Int.mul_zero]
   rw [this]; rfl
  ·have := Int.mul_pos h1 h3
   unfold sgI; rw [if_neg (by omega),if_neg (by omega)]; rfl
 have h := S147c (sgI x) (sgI y) (digs x.natAbs) (digs y.natAbs) (digs_dg _) (digs_dg _) hx hy (by omega) (by omega) hs.2
 rw [valN_digs,valN_digs,← Int.natCast_mul,Int.toNat_natCast,hs.1,← Int.natAbs_mul] at h
 have hz := sg_cases (x * y)
 rwa [show (if (x * y).natAbs = 0 then 0 else sgI (x * y)) = sgI (x * y) by split <;> omega] at h
end Go.Tr

/- Contracts: whole parts of quotients. Conditions: none. Printed by gen166.py. -/
namespace Go.Tr
open Go Go.Proofs
set_option maxRecDepth 20000
set_option maxHeartbeats 8000000

theorem SPn {F : Nat} {G : List Int} {r : AV} {n : Nat} (h : SP F [ints G] r false) (hn : n = G.length) (f : Nat → List AV) (hf : ∀ i,i < n → f i = [i64 (G.getD i 0)]) : SP F [.rslice 1 n f] r false := by
 refine h.argsD rfl fun i y x hy hx=>?_
 match i,hy,hx with
 | 0,hy,hx=>cases hy; cases hx; exact .inr ⟨1,AVF_rows hn hf 0⟩
theorem ints_n6 {P : List Int} {n : Nat} (h : P.length = n) : ints P = .rslice 1 n fun i=>[i64 (P.getD i 0)] := by
  subst h; rfl
theorem wA_nat (Y : Nat) (hY : 0 < Y) : wA (Y : Nat) = .agg [i64 1,ints (digs Y)] := wA_eq (by unfold sgI; rw [if_neg (by omega),if_neg (by omega)]) (by omega)
theorem Wd_nat {n : Nat} (h : (digs n).length ≤ 100) : Wd (n : Nat) := by
  unfold Wd; rwa [Int.natAbs_natCast]
theorem Wd_small {z : Int} (h : z.natAbs < 1000000000 ^ 3) : Wd z := Nat.le_trans (digs_len 3 _ h) (by decide)
theorem S174u (Y : Nat) (hY : 0 < Y) (hly : (digs Y).length ≤ 100) : SP 174 [i64 1,ints (digs Y)] (wA (Y : Nat)) false := by
 have h := S174 1 (digs Y) (by omega) (digs_dg _) Y (valN_digs _)
 rw [if_neg (by omega)] at h
 rwa [wA_nat Y hY]
theorem S147n (Y : Nat) (m : Int) (hY : (digs Y).length ≤ 100) (hm0 : 0 ≤ m) (hm : m ≤ 999999999) : SP 147 [wA (Y : Nat),wA m] (.agg [i64 (sgI (Y * m)),ints (digs (Y * m.toNat))]) false := by
  have h := S147 Y m (Wd_nat hY) (Wd_small (by have : (1000000000 : Nat) ^ 3 = 1000000000000000000000000000 := by decide
                                               omega))
  have e : ((Y : Int) * m).natAbs = Y * m.toNat := by rw [Int.natAbs_mul,Int.natAbs_natCast,show m.natAbs = m.toNat by omega]
  rwa [show wA ((Y : Int) * m) = .agg [i64 (sgI (Y * m)),ints (digs (Y * m.toNat))] from wA_eq rfl e] at h
theorem digs_mul9 (Y m : Nat) (hY : (digs Y).length ≤ 100) (hm : m ≤ 999999999) : (digs (Y * m)).length ≤ 101 := by
 refine digs_len _ _ ?_
 have h1 := digs_lt Y
 have h2 : (1000000000 : Nat) ^ (digs Y).length ≤ 1000000000 ^ 100 := Nat.pow_le_pow_right (by decide) hY
 rw [Nat.pow_succ]
 exact Nat.mul_lt_mul_of_lt_of_le (Nat.lt_of_lt_of_le h1 h2) (by omega) (by decide)
theorem drop_setI (Q : List Int) (i : Nat) (q : Int) (hi : i < Q.length) : (Q.set i q).drop i = q :: Q.drop (i + 1) := by
  rw [drop_cons (by rw [List.length_set]; exact hi),getD_setI,if_pos ⟨rfl,hi⟩,List.drop_set_of_lt (by omega)]
theorem floor_step {vA vQ a q R R' Y : Int} (hV : vA = vQ * Y + R) (hR : R' = a + 1000000000 * R) (r : Int) (hr : R' = Y * q + r) : a + 1000000000 * vA = (q + 1000000000 * vQ) * Y + r := by
 subst hV
 have : a = Y * q + r - 1000000000 * R := by omega
 subst this
 grind
theorem S173c (s t : Int) (A : List Int) (Y : Nat) (hA : Dg A) (hla : A.length ≤ 100) (hY : 0 < Y) (hly : (digs Y).length ≤ 100) (hs : s = 1 ∨ s = -1)
  (z : Int) (hz : if s = 1 then z = ((valN A).toNat / Y : Nat) else z = -(((valN A).toNat / Y : Nat) : Int) - (if (valN A).toNat % Y = 0 then 0 else 1)) :
  SP 173 [.agg [i64 s,ints A],.agg [i64 t,ints (digs Y)]] (wA z) false := by
 have hb8 : Tryz.prog.types[3].bytes = 8 := by kernel_rfl
 have hs0 : s ≠ 0 := by omega
 have h162 := S174u Y hY hly
 refine sound (d := 2) tok2 mixed2 Tryz.func173 (by kernel_rfl) (by kernel_rfl) ?_
 (conv=>whnf); refine ifB_beq (fun w1=>?_) (fun w1=>?_)
 ·(exfalso; omega)
 ·(conv => whnf); refine ⟨⟨(by omega), ⟨(by omega), ⟨(by omega), (by show _ * ((8 : Nat) : Int) ≤ _; omega)⟩⟩⟩, ?_⟩
  (conv=>whnf); refine ⟨inK64 (by omega) (by omega),?_⟩
  (conv=>whnf); refine ⟨[.freeze 6],[2,3,4,5,6,7],fun st mq=>∃ (k : Nat) (R : Nat) (Q : List Int) (c : Int),(k ≤ A.length) ∧ (c = (k : Int) - 1) ∧ (Q.length = A.length) ∧ (Dg Q) ∧ (R < Y) ∧ (valN (A.drop k) = valN (Q.drop k) * Y + R) ∧ st = ⟨[(2,.optr 0 0 0 0),(3,.optr 1 0 0 0),(4,.optr 2 0 0 0),(5,.oslice 3 0 0 (A.length : Int).toNat (some (A.length : Int).toNat)),(6,ints (digs R)),(7,i64 c)],⟨[⟨2,1,fun _=>[i64 s,ints A],0,false,true,true⟩,⟨2,1,fun _=>[i64 t,ints (digs Y)],0,false,true,true⟩,⟨2,1,fun _=>[i64 0,.eslice],0,false,true,true⟩,⟨1,(A.length : Int).toNat,fun j=>[i64 (Q.getD j 0)],0,false,true,false⟩,⟨1,0,fun _=>[],0,true,true,false⟩],[],none,0⟩,[]⟩ ∧ mq = k,
   ⟨_,_,⟨A.length,0,List.replicate (A.length : Int).toNat 0,_,Nat.le_refl _,rfl,by simp,(fun d hd=>by rw [List.eq_of_mem_replicate hd]; decide),by omega,(by rw [List.drop_length,List.drop_eq_nil_of_le (by simp)]; show (0 : Int) = 0 * (Y : Int) + (0 : Nat); omega),rfl,rfl⟩,⟨⟨.inr ⟨rfl,.inl rfl,⟨rfl,.inl rfl,⟨rfl,.inl rfl,⟨rfl,.inl rfl,⟨rfl,.inr (⟨rfl,(by rw [digs0]; rfl),fun k hk=>absurd hk (Nat.not_lt_zero k)⟩),⟨rfl,.inl rfl,trivial⟩⟩⟩⟩⟩⟩,rfl,rfl,rfl⟩,⟨⟨rfl,rfl,rfl,rfl,fun _=>rfl,fun _ _=>.inl rfl⟩,⟨⟨rfl,rfl,rfl,rfl,fun _=>rfl,fun _ _=>.inl rfl⟩,⟨⟨rfl,rfl,rfl,rfl,fun _=>rfl,fun _ _=>.inl rfl⟩,⟨⟨rfl,rfl,rfl,rfl,fun _=>rfl,fun i hi=>.inl ((rep_row0 (A.length : Int).toNat i).trans rfl)⟩,⟨⟨rfl,rfl,rfl,rfl,fun _=>rfl,fun i h=>.inl (absurd h (Nat.not_lt_zero i))⟩,trivial⟩⟩⟩⟩⟩,trivial⟩⟩,?_⟩
  rintro s0 m0 ⟨k,R,Q,c,hk,hc,hl,hd,hR,hV,rfl,hmeas⟩
  by_cases hk0 : k = 0
  ·subst hk0
   subst hc
   have hqn := valN_nn hd
   have hV : valN A = valN Q * Y + R := hV
   have hQY : 0 ≤ valN Q * Y := Int.mul_nonneg hqn (by omega)
   have hX : (valN A).toNat = (valN Q).toNat * Y + R := by
    have e : (((valN Q).toNat * Y : Nat) : Int) = valN Q * Y := by rw [Int.natCast_mul,Int.toNat_of_nonneg hqn]
    omega
   have hdiv : (valN A).toNat / Y = (valN Q).toNat := by rw [hX,Nat.mul_comm,Nat.mul_add_div hY,Nat.div_eq_of_lt hR]; rfl
   have hmod : (valN A).toNat % Y = R := by rw [hX,Nat.mul_comm,Nat.mul_add_mod,Nat.mod_eq_of_lt hR]
   rw [hdiv,hmod] at hz
   have hnl : (digs (valN Q).toNat).length ≤ 100 := by
    rw [← trim_digs hd]
    obtain ⟨n,g1,g2,g3⟩ := trim_exists Q
    rw [trim_take Q n g1 g2 g3,List.length_take]
    omega
   have hlt : Q.length = (A.length : Int).toNat := hl
   have h162e := fun s=>S174 s Q (by omega) hd (valN Q).toNat (by omega)
   rw [ints_n6 hlt] at h162e
   rcases hs with hs | hs
   ·subst hs
    rw [if_pos rfl] at hz
    have h162f := h162e 1
    rw [show AV.agg [i64 (if (valN Q).toNat = 0 then 0 else 1),ints (digs (valN Q).toNat)] = wA z from (wA_eq (by unfold sgI; (repeat' split) <;> omega) (by omega)).symm] at h162f
    conv=>whnf
    (conv=>whnf); refine .inl ⟨_,_,byX rfl (h162f),?_⟩
    conv=>whnf
    (conv=>whnf); refine ⟨?_,nofun⟩
    exact ave_agg2 rfl ⟨rfl,rfl,fun _ _=>rfl⟩
   ·subst hs
    rw [if_neg (by decide)] at hz
    have h162f := h162e (-1)
    rw [show AV.agg [i64 (if (valN Q).toNat = 0 then 0 else -1),ints (digs (valN Q).toNat)] = wA (-((valN Q).toNat : Int)) from (wA_eq (by unfold sgI; (repeat' split) <;> omega) (by omega)).symm] at h162f
    have h142o := S148 1 (by decide)
    have h170 := S195 (-((valN Q).toNat : Int)) 1 (Wd.neg (Wd_nat hnl)) (Wd_small (by decide))
    by_cases hR0 : R = 0
    ·have hdz : (digs R).length = 0 := by rw [hR0,digs0]; rfl
     rw [if_pos hR0,Int.sub_zero] at hz
     subst hz
     conv=>whnf
     (conv=>whnf); refine .inl ⟨_,_,byX rfl (h162f),?_⟩
     conv=>whnf
     (conv=>whnf); refine ifB_dec (fun w2=>?_) (fun w2=>?_)
     ·(exfalso; omega)
     ·conv=>whnf
      (conv=>whnf); refine ⟨?_,nofun⟩
      exact ave_agg2 rfl ⟨rfl,rfl,fun _ _=>rfl⟩
    ·have hdz : (digs R).length ≠ 0 := fun h=>hR0 (digs_nil (List.length_eq_zero_iff.1 h))
     rw [if_neg hR0] at hz
     subst hz
     conv=>whnf
     (conv=>whnf); refine .inl ⟨_,_,byX rfl (h162f),?_⟩
     conv=>whnf
     (conv=>whnf); refine ifB_dec (fun w2=>?_) (fun w2=>?_)
     ·conv=>whnf
      (conv=>whnf); refine ⟨[],by kernel_rfl,?_⟩
      conv=>whnf
      (conv=>whnf); refine .inl ⟨_,_,byX rfl (h142o),?_⟩
      conv=>whnf
      (conv=>whnf); refine .inl ⟨_,_,byX rfl (h170),?_⟩
      conv=>whnf
      (conv=>whnf); refine ⟨?_,nofun⟩
      exact ave_agg2 rfl ⟨rfl,rfl,fun _ _=>rfl⟩
     ·(exfalso; omega)
  ·obtain ⟨i, rfl⟩ : ∃ i, k = i + 1 := ⟨k - 1, by omega⟩
   subst hc
   have ha := dg_at hA (((i + 1 : Nat) : Int) - 1).toNat
   have ei : (((i + 1 : Nat) : Int) - 1).toNat = i := by omega
   obtain ⟨R',hR'⟩ : ∃ R' : Nat,(R' : Int) = A.getD (((i + 1 : Nat) : Int) - 1).toNat 0 + 1000000000 * R := ⟨(A.getD (((i + 1 : Nat) : Int) - 1).toNat 0 + 1000000000 * R).toNat,by omega⟩
   have hdl : (digs R).length ≤ 100 := Nat.le_trans (digs_mono Y R (by omega)) hly
   have hcd : Dg (A.getD (((i + 1 : Nat) : Int) - 1).toNat 0 :: digs R) := fun d hd=>by
    rcases List.mem_cons.1 hd with e | hd
    ·rw [e]; exact ha
    ·exact digs_dg R d hd
   have h186 := S216 (A.getD (((i + 1 : Nat) : Int) - 1).toNat 0 :: digs R) (by simp; omega)
   rw [trim_digs hcd,show valN (A.getD (((i + 1 : Nat) : Int) - 1).toNat 0 :: digs R) = R' by rw [hR']; show _ + 1000000000 * valN (digs R) = _; rw [valN_digs],Int.toNat_natCast] at h186
   obtain ⟨q,r,hq9,hqm,hml,hqle⟩ : ∃ q r : Nat,q < 1000000000 ∧ Y * q + r = R' ∧ r < Y ∧ ∀ x,x ≤ q ↔ x * Y ≤ R' := ⟨R' / Y,R' % Y,Nat.div_lt_of_lt_mul (by omega),Nat.div_add_mod R' Y,Nat.mod_lt R' hY,fun x=>Nat.le_div_iff_mul_le hY⟩
   have hrl : (digs R').length ≤ 101 := by
    by_cases h0 : R' = 0
    ·rw [h0,digs0]; exact Nat.zero_le _
    ·have h1 := congrArg List.length (digs_pos h0)
     rw [List.length_cons,show R' / 1000000000 = R by omega] at h1
     omega
   by_cases hR0 : R = 0
   ·subst hR0
    have hdz : (digs 0).length = 0 := by rw [digs0]; rfl
    have h186g := fun f (hf : ∀ j,j < 1 → f j = [i64 ((A.getD (((i + 1 : Nat) : Int) - 1).toNat 0 :: digs 0).getD j 0)])=>SPn h186 (by rw [digs0]; rfl) f hf
    refine ifB_dec (fun w2=>?_) (fun w2=>?_)
    ·refine ⟨⟨(by omega),(by omega)⟩,?_⟩
     refine .inr ?_
     refine ⟨(by omega),?_⟩
     refine .inl ⟨_,_,byX rfl (h186g _ ?_),?_⟩
     ·(first | exact hdz | exact fun j hj=>by rcases j with _ | j; rfl; omega)
     ·refine ⟨[],[2,3,4,5,6,7,8,9],fun st mq=>∃ (lo : Int) (hi : Int),(0 ≤ lo) ∧ (lo ≤ (q : Int)) ∧ ((q : Int) ≤ hi) ∧ (hi ≤ 999999999) ∧ st = ⟨[(2,.optr 0 0 0 0),(3,.optr 1 0 0 0),(4,.optr 2 0 0 0),(5,.oslice 3 0 0 (A.length : Int).toNat (some (A.length : Int).toNat)),(6,ints (digs R')),(7,i64 (((i + 1 : Nat) : Int) - 1)),(8,i64 lo),(9,i64 hi)],⟨[⟨2,1,fun _=>[i64 s,ints A],0,false,true,true⟩,⟨2,1,fun _=>[i64 t,ints (digs Y)],0,false,true,true⟩,⟨2,1,fun _=>[i64 0,.eslice],0,false,true,true⟩,⟨1,(A.length : Int).toNat,fun j=>[i64 (Q.getD j 0)],0,false,true,false⟩,⟨1,0,fun _=>[],0,true,true,false⟩,⟨1,1,fun _=>[i64 (A.getD (((i + 1 : Nat) : Int) - 1).toNat 0)],0,true,true,true⟩],[],none,0⟩,[]⟩ ∧ mq = (hi - lo).toNat,
       ⟨_,_,⟨0,999999999,by omega,by omega,by omega,by omega,rfl,rfl⟩,⟨⟨.inl rfl,rfl,rfl,rfl⟩,⟨⟨rfl,rfl,rfl,rfl,fun _=>rfl,fun _ _=>.inl rfl⟩,⟨⟨rfl,rfl,rfl,rfl,fun _=>rfl,fun _ _=>.inl rfl⟩,⟨⟨rfl,rfl,rfl,rfl,fun _=>rfl,fun _ _=>.inl rfl⟩,⟨⟨rfl,rfl,rfl,rfl,fun _=>rfl,fun _ _=>.inl rfl⟩,⟨⟨rfl,rfl,rfl,rfl,fun _=>rfl,fun _ _=>.inl rfl⟩,⟨⟨rfl,rfl,rfl,rfl,fun _=>rfl,fun j hj=>.inl ((by have h1 : j < 1 := hj; rw [show j = 0 by omega]; rfl))⟩,trivial⟩⟩⟩⟩⟩⟩,trivial⟩⟩,?_⟩
      rintro s0 m0 ⟨lo,hi,h0,h1,h2,h3,rfl,hmeas⟩
      by_cases hlt : lo < hi
      ·have em : 0 ≤ (lo + hi + 1).tdiv 2 ∧ (lo + hi + 1).tdiv 2 ≤ 999999999 ∧ lo < (lo + hi + 1).tdiv 2 ∧ (lo + hi + 1).tdiv 2 ≤ hi := by
        rw [Int.tdiv_eq_ediv_of_nonneg (by omega)]; omega
       have h142 := S148 ((lo + hi + 1).tdiv 2) (by omega)
       have h146 := S147n Y ((lo + hi + 1).tdiv 2) hly em.1 em.2.1
       have hdm := digs_mul9 Y ((lo + hi + 1).tdiv 2).toNat hly (by omega)
       have h168 := S205 (Y * ((lo + hi + 1).tdiv 2).toNat) R' (by omega) (by omega)
       have hle : (lo + hi + 1).tdiv 2 ≤ (q : Int) ↔ Y * ((lo + hi + 1).tdiv 2).toNat ≤ R' := by
        have := hqle ((lo + hi + 1).tdiv 2).toNat
        rw [Nat.mul_comm]
        omega
       by_cases hq : (lo + hi + 1).tdiv 2 ≤ (q : Int)
       ·have hc : cmpN (Y * ((lo + hi + 1).tdiv 2).toNat) R' ≤ 0 := by have := hle.1 hq; unfold cmpN; (repeat' split) <;> omega
        (conv=>whnf); refine ifB_dec (fun w3=>?_) (fun w3=>?_)
        ·(conv=>whnf); refine ⟨inK64 (by omega) (by omega),?_⟩
         (conv=>whnf); refine ⟨inK64 (by omega) (by omega),?_⟩
         (conv=>whnf); refine ⟨⟨(by omega),inK64 (by omega) (by omega)⟩,?_⟩
         (conv=>whnf); refine .inl ⟨_,_,byX rfl (h162),?_⟩
         (conv=>whnf); refine .inl ⟨_,_,byX rfl (h142),?_⟩
         (conv=>whnf); refine .inl ⟨_,_,byX rfl (h146),?_⟩
         (conv=>whnf); refine .inl ⟨_,_,byX rfl (Sound1.pl (h168) rfl),?_⟩
         (conv=>whnf); refine ifB_dec (fun w4=>?_) (fun w4=>?_)
         ·(conv=>whnf); refine ⟨_,_,⟨⟨(lo + hi + 1).tdiv 2,hi,by omega,by omega,by omega,by omega,rfl,rfl⟩,by omega⟩,⟨⟨.inl rfl,rfl,rfl,rfl⟩,⟨⟨rfl,rfl,rfl,rfl,fun _=>rfl,fun _ _=>.inl rfl⟩,⟨⟨rfl,rfl,rfl,rfl,fun _=>rfl,fun _ _=>.inl rfl⟩,⟨⟨rfl,rfl,rfl,rfl,fun _=>rfl,fun _ _=>.inl rfl⟩,⟨⟨rfl,rfl,rfl,rfl,fun _=>rfl,fun _ _=>.inl rfl⟩,⟨⟨rfl,rfl,rfl,rfl,fun _=>rfl,fun _ _=>.inl rfl⟩,⟨⟨rfl,rfl,rfl,rfl,fun _=>rfl,fun _ _=>.inl rfl⟩,trivial⟩⟩⟩⟩⟩⟩,trivial⟩⟩
         ·(exfalso; omega)
        ·(exfalso; omega)
       ·have hc : ¬ cmpN (Y * ((lo + hi + 1).tdiv 2).toNat) R' ≤ 0 := by have : ¬ _ := fun h=>hq (hle.2 h); unfold cmpN; (repeat' split) <;> omega
        (conv=>whnf); refine ifB_dec (fun w3=>?_) (fun w3=>?_)
        ·(conv=>whnf); refine ⟨inK64 (by omega) (by omega),?_⟩
         (conv=>whnf); refine ⟨inK64 (by omega) (by omega),?_⟩
         (conv=>whnf); refine ⟨⟨(by omega),inK64 (by omega) (by omega)⟩,?_⟩
         (conv=>whnf); refine .inl ⟨_,_,byX rfl (h162),?_⟩
         (conv=>whnf); refine .inl ⟨_,_,byX rfl (h142),?_⟩
         (conv=>whnf); refine .inl ⟨_,_,byX rfl (h146),?_⟩
         (conv=>whnf); refine .inl ⟨_,_,byX rfl (Sound1.pl (h168) rfl),?_⟩
         (conv=>whnf); refine ifB_dec (fun w4=>?_) (fun w4=>?_)
         ·(exfalso; omega)
         ·(conv=>whnf); refine ⟨inK64 (by omega) (by omega),?_⟩
          (conv=>whnf); refine ⟨_,_,⟨⟨lo,(lo + hi + 1).tdiv 2 - 1,by omega,by omega,by omega,by omega,rfl,rfl⟩,by omega⟩,⟨⟨.inl rfl,rfl,rfl,rfl⟩,⟨⟨rfl,rfl,rfl,rfl,fun _=>rfl,fun _ _=>.inl rfl⟩,⟨⟨rfl,rfl,rfl,rfl,fun _=>rfl,fun _ _=>.inl rfl⟩,⟨⟨rfl,rfl,rfl,rfl,fun _=>rfl,fun _ _=>.inl rfl⟩,⟨⟨rfl,rfl,rfl,rfl,fun _=>rfl,fun _ _=>.inl rfl⟩,⟨⟨rfl,rfl,rfl,rfl,fun _=>rfl,fun _ _=>.inl rfl⟩,⟨⟨rfl,rfl,rfl,rfl,fun _=>rfl,fun _ _=>.inl rfl⟩,trivial⟩⟩⟩⟩⟩⟩,trivial⟩⟩
        ·(exfalso; omega)
      ·obtain rfl : lo = (q : Int) := by omega
       have h142 := S148 (q : Int) (by omega)
       have h146 := S147n Y (q : Int) hly (by omega) (by omega)
       rw [Int.toNat_natCast] at h146
       have h169 := S206 R' (Y * q) (by omega) (by omega)
       rw [show R' - Y * q = r by omega] at h169
       have hdr : Q.drop (i + 1) = Q.drop (i + 1) := rfl
       have hset := drop_setI Q i (q : Int) (by omega)
       have hVn : valN (A.drop i) = valN ((Q.set i (q : Int)).drop i) * Y + (r : Nat) := by
        rw [hset,drop_cons (show i < A.length by omega)]
        have hR2 := hR'
        rw [ei] at hR2
        exact floor_step hV hR2 _ (by rw [← Int.natCast_mul]; omega)
       (conv=>whnf); refine ifB_dec (fun w3=>?_) (fun w3=>?_)
       ·(exfalso; omega)
       ·(conv=>whnf); refine ⟨⟨(by omega),(by omega)⟩,?_⟩
        refine ⟨_,fun i _=>rowI _ _ i _ (by first | omega | (simp only [List.length_set]; omega) | (simp only [List.length_replicate]; omega) | (simp only [List.length_set,List.length_replicate]; omega)),?_⟩
        (conv=>whnf); refine .inl ⟨_,_,byX rfl (h162),?_⟩
        (conv=>whnf); refine .inl ⟨_,_,byX rfl (h142),?_⟩
        (conv=>whnf); refine .inl ⟨_,_,byX rfl (h146),?_⟩
        (conv=>whnf); refine .inl ⟨_,_,byX rfl (h169),?_⟩
        (conv=>whnf); refine ⟨inK64 (by omega) (by omega),?_⟩
        (conv=>whnf); refine ⟨_,_,⟨⟨i,r,Q.set (((i + 1 : Nat) : Int) - 1).toNat (q : Int),((i + 1 : Nat) : Int) - 1 - 1,by omega,by omega,(by rw [List.length_set]; exact hl),(dg_set hd (by omega) _),hml,(by rw [ei]; exact hVn),rfl,rfl⟩,by omega⟩,⟨⟨.inl rfl,rfl,rfl,rfl⟩,⟨⟨rfl,rfl,rfl,rfl,fun _=>rfl,fun _ _=>.inl rfl⟩,⟨⟨rfl,rfl,rfl,rfl,fun _=>rfl,fun _ _=>.inl rfl⟩,⟨⟨rfl,rfl,rfl,rfl,fun _=>rfl,fun _ _=>.inl rfl⟩,⟨⟨rfl,rfl,rfl,rfl,fun _=>rfl,fun _ _=>.inl rfl⟩,⟨⟨rfl,rfl,rfl,rfl,fun _=>rfl,fun _ _=>.inl rfl⟩,trivial⟩⟩⟩⟩⟩,trivial⟩⟩
    ·(exfalso; omega)
   ·have hdz : (digs R).length ≠ 0 := fun h => hR0 (digs_nil (List.length_eq_zero_iff.1 h))
    have h186g := fun f (hf : ∀ j,j < 1 + (digs R).length → f j = [i64 ((A.getD (((i + 1 : Nat) : Int) - 1).toNat 0 :: digs R).getD j 0)])=>SPn h186 (by simp; omega) f hf
    conv=>whnf
    (conv=>whnf); refine ifB_dec (fun w2=>?_) (fun w2=>?_)
    ·conv => whnf
     (conv=>whnf); refine ⟨⟨(by omega),(by omega)⟩,?_⟩
     conv=>whnf
     (conv=>whnf); refine .inl ?_
     conv=>whnf
     (conv=>whnf); refine ⟨⟨(by omega),(by show _ * (8 + 1) ≤ _; omega)⟩,?_⟩
     conv=>whnf
     (conv=>whnf); refine .inl ⟨_,_,byX rfl (h186g _ ?_),?_⟩
     ·(exact fun j hj=>by rcases j with _ | j <;> rfl)
     ·conv=>whnf
      (conv=>whnf); refine ⟨[],[2,3,4,5,6,7,8,9],fun st mq=>∃ (lo : Int) (hi : Int),(0 ≤ lo) ∧ (lo ≤ (q : Int)) ∧ ((q : Int) ≤ hi) ∧ (hi ≤ 999999999) ∧ st = ⟨[(2,.optr 0 0 0 0),(3,.optr 1 0 0 0),(4,.optr 2 0 0 0),(5,.oslice 3 0 0 (A.length : Int).toNat (some (A.length : Int).toNat)),(6,ints (digs R')),(7,i64 (((i + 1 : Nat) : Int) - 1)),(8,i64 lo),(9,i64 hi)],⟨[⟨2,1,fun _=>[i64 s,ints A],0,false,true,true⟩,⟨2,1,fun _=>[i64 t,ints (digs Y)],0,false,true,true⟩,⟨2,1,fun _=>[i64 0,.eslice],0,false,true,true⟩,⟨1,(A.length : Int).toNat,fun j=>[i64 (Q.getD j 0)],0,false,true,false⟩,⟨1,0,fun _=>[],0,true,true,false⟩,⟨1,1,fun _=>[i64 (A.getD (((i + 1 : Nat) : Int) - 1).toNat 0)],0,false,true,true⟩,⟨1,1 + (digs R).length,fun j=>[i64 ((A.getD (((i + 1 : Nat) : Int) - 1).toNat 0 :: digs R).getD j 0)],0,true,true,false⟩],[],none,0⟩,[]⟩ ∧ mq = (hi - lo).toNat,
       ⟨_,_,⟨0,999999999,by omega,by omega,by omega,by omega,rfl,rfl⟩,⟨⟨.inl rfl,rfl,rfl,rfl⟩,⟨⟨rfl,rfl,rfl,rfl,fun _=>rfl,fun _ _=>.inl rfl⟩,⟨⟨rfl,rfl,rfl,rfl,fun _=>rfl,fun _ _=>.inl rfl⟩,⟨⟨rfl,rfl,rfl,rfl,fun _=>rfl,fun _ _=>.inl rfl⟩,⟨⟨rfl,rfl,rfl,rfl,fun _=>rfl,fun _ _=>.inl rfl⟩,⟨⟨rfl,rfl,rfl,rfl,fun _=>rfl,fun _ _=>.inl rfl⟩,⟨⟨rfl,rfl,rfl,rfl,fun _=>rfl,fun j hj=>.inl ((by have h1 : j < 1 := hj; rw [show j = 0 by omega]; rfl))⟩,⟨⟨rfl,rfl,rfl,rfl,fun _=>rfl,fun j hj=>.inl ((by rcases j with _ | j <;> rfl))⟩,trivial⟩⟩⟩⟩⟩⟩⟩,trivial⟩⟩,?_⟩
      rintro s0 m0 ⟨lo,hi,h0,h1,h2,h3,rfl,hmeas⟩
      by_cases hlt : lo < hi
      ·have em : 0 ≤ (lo + hi + 1).tdiv 2 ∧ (lo + hi + 1).tdiv 2 ≤ 999999999 ∧ lo < (lo + hi + 1).tdiv 2 ∧ (lo + hi + 1).tdiv 2 ≤ hi := by
        rw [Int.tdiv_eq_ediv_of_nonneg (by omega)]; omega
       have h142 := S148 ((lo + hi + 1).tdiv 2) (by omega)
       have h146 := S147n Y ((lo + hi + 1).tdiv 2) hly em.1 em.2.1
       have hdm := digs_mul9 Y ((lo + hi + 1).tdiv 2).toNat hly (by omega)
       have h168 := S205 (Y * ((lo + hi + 1).tdiv 2).toNat) R' (by omega) (by omega)
       have hle : (lo + hi + 1).tdiv 2 ≤ (q : Int) ↔ Y * ((lo + hi + 1).tdiv 2).toNat ≤ R' := by
        have := hqle ((lo + hi + 1).tdiv 2).toNat
        rw [Nat.mul_comm]
        omega
       by_cases hq : (lo + hi + 1).tdiv 2 ≤ (q : Int)
       ·have hc : cmpN (Y * ((lo + hi + 1).tdiv 2).toNat) R' ≤ 0 := by have := hle.1 hq; unfold cmpN; (repeat' split) <;> omega
        conv=>whnf
        conv=>whnf
        (conv=>whnf); refine ifB_dec (fun w3=>?_) (fun w3=>?_)
        ·conv=>whnf
         conv=>whnf
         (conv=>whnf); refine ⟨inK64 (by omega) (by omega),?_⟩
         conv=>whnf
         conv=>whnf
         (conv=>whnf); refine ⟨inK64 (by omega) (by omega),?_⟩
         conv=>whnf
         conv=>whnf
         (conv=>whnf); refine ⟨⟨(by omega),inK64 (by omega) (by omega)⟩,?_⟩
         conv=>whnf
         conv=>whnf
         (conv=>whnf); refine .inl ⟨_,_,byX rfl (h162),?_⟩
         conv=>whnf
         conv=>whnf
         (conv=>whnf); refine .inl ⟨_,_,byX rfl (h142),?_⟩
         conv=>whnf
         conv=>whnf
         (conv=>whnf); refine .inl ⟨_,_,byX rfl (h146),?_⟩
         conv=>whnf
         conv=>whnf
         (conv=>whnf); refine .inl ⟨_,_,byX rfl (Sound1.pl (h168) rfl),?_⟩
         conv=>whnf
         conv=>whnf
         (conv=>whnf); refine ifB_dec (fun w4=>?_) (fun w4=>?_)
         ·conv=>whnf
          conv=>whnf
          (conv=>whnf); refine ⟨_,_,⟨⟨(lo + hi + 1).tdiv 2,hi,by omega,by omega,by omega,by omega,rfl,rfl⟩,by omega⟩,⟨⟨.inl rfl,rfl,rfl,rfl⟩,⟨⟨rfl,rfl,rfl,rfl,fun _=>rfl,fun _ _=>.inl rfl⟩,⟨⟨rfl,rfl,rfl,rfl,fun _=>rfl,fun _ _=>.inl rfl⟩,⟨⟨rfl,rfl,rfl,rfl,fun _=>rfl,fun _ _=>.inl rfl⟩,⟨⟨rfl,rfl,rfl,rfl,fun _=>rfl,fun _ _=>.inl rfl⟩,⟨⟨rfl,rfl,rfl,rfl,fun _=>rfl,fun _ _=>.inl rfl⟩,⟨⟨rfl,rfl,rfl,rfl,fun _=>rfl,fun _ _=>.inl rfl⟩,⟨⟨rfl,rfl,rfl,rfl,fun _=>rfl,fun _ _=>.inl rfl⟩,trivial⟩⟩⟩⟩⟩⟩⟩,trivial⟩⟩
         ·(exfalso; omega)
        ·(exfalso; omega)
       ·have hc : ¬ cmpN (Y * ((lo + hi + 1).tdiv 2).toNat) R' ≤ 0 := by have : ¬ _ := fun h=>hq (hle.2 h); unfold cmpN; (repeat' split) <;> omega
        conv=>whnf
        conv=>whnf
        (conv=>whnf); refine ifB_dec (fun w3=>?_) (fun w3=>?_)
        ·conv=>whnf
         conv=>whnf
         (conv=>whnf); refine ⟨inK64 (by omega) (by omega),?_⟩
         conv=>whnf
         conv=>whnf
         (conv=>whnf); refine ⟨inK64 (by omega) (by omega),?_⟩
         conv=>whnf
         conv=>whnf
         (conv=>whnf); refine ⟨⟨(by omega),inK64 (by omega) (by omega)⟩,?_⟩
         conv=>whnf
         conv=>whnf
         (conv=>whnf); refine .inl ⟨_,_,byX rfl (h162),?_⟩
         conv=>whnf
         conv=>whnf
         (conv=>whnf); refine .inl ⟨_,_,byX rfl (h142),?_⟩
         conv=>whnf
         conv=>whnf
         (conv=>whnf); refine .inl ⟨_,_,byX rfl (h146),?_⟩
         conv=>whnf
         conv=>whnf
         (conv=>whnf); refine .inl ⟨_,_,byX rfl (Sound1.pl (h168) rfl),?_⟩
         conv=>whnf
         conv=>whnf
         (conv=>whnf); refine ifB_dec (fun w4=>?_) (fun w4=>?_)
         ·(exfalso; omega)
         ·conv=>whnf
          conv=>whnf
          (conv=>whnf); refine ⟨inK64 (by omega) (by omega),?_⟩
          conv=>whnf
          conv=>whnf
          (conv=>whnf); refine ⟨_,_,⟨⟨lo,(lo + hi + 1).tdiv 2 - 1,by omega,by omega,by omega,by omega,rfl,rfl⟩,by omega⟩,⟨⟨.inl rfl,rfl,rfl,rfl⟩,⟨⟨rfl,rfl,rfl,rfl,fun _=>rfl,fun _ _=>.inl rfl⟩,⟨⟨rfl,rfl,rfl,rfl,fun _=>rfl,fun _ _=>.inl rfl⟩,⟨⟨rfl,rfl,rfl,rfl,fun _=>rfl,fun _ _=>.inl rfl⟩,⟨⟨rfl,rfl,rfl,rfl,fun _=>rfl,fun _ _=>.inl rfl⟩,⟨⟨rfl,rfl,rfl,rfl,fun _=>rfl,fun _ _=>.inl rfl⟩,⟨⟨rfl,rfl,rfl,rfl,fun _=>rfl,fun _ _=>.inl rfl⟩,⟨⟨rfl,rfl,rfl,rfl,fun _=>rfl,fun _ _=>.inl rfl⟩,trivial⟩⟩⟩⟩⟩⟩⟩,trivial⟩⟩
        ·(exfalso; omega)
      ·obtain rfl : lo = (q : Int) := by omega
       have h142 := S148 (q : Int) (by omega)
       have h146 := S147n Y (q : Int) hly (by omega) (by omega)
       rw [Int.toNat_natCast] at h146
       have h169 := S206 R' (Y * q) (by omega) (by omega)
       rw [show R' - Y * q = r by omega] at h169
       have hdr : Q.drop (i + 1) = Q.drop (i + 1) := rfl
       have hset := drop_setI Q i (q : Int) (by omega)
       have hVn : valN (A.drop i) = valN ((Q.set i (q : Int)).drop i) * Y + (r : Nat) := by
        rw [hset,drop_cons (show i < A.length by omega)]
        have hR2 := hR'
        rw [ei] at hR2
        exact floor_step hV hR2 _ (by rw [← Int.natCast_mul]; omega)
       conv=>whnf
       conv=>whnf
       (conv=>whnf); refine ifB_dec (fun w3=>?_) (fun w3=>?_)
       ·(exfalso; omega)
       ·conv=>whnf
        conv=>whnf
        (conv=>whnf); refine ⟨⟨(by omega),(by omega)⟩,?_⟩
        refine ⟨_,fun i _=>rowI _ _ i _ (by first | omega | (simp only [List.length_set]; omega) | (simp only [List.length_replicate]; omega) | (simp only [List.length_set,List.length_replicate]; omega)),?_⟩
        conv=>whnf
        conv=>whnf
        (conv=>whnf); refine .inl ⟨_,_,byX rfl (h162),?_⟩
        conv=>whnf
        conv=>whnf
        (conv=>whnf); refine .inl ⟨_,_,byX rfl (h142),?_⟩
        conv=>whnf
        conv=>whnf
        (conv=>whnf); refine .inl ⟨_,_,byX rfl (h146),?_⟩
        conv=>whnf
        conv=>whnf
        (conv=>whnf); refine .inl ⟨_,_,byX rfl (h169),?_⟩
        conv=>whnf
        conv=>whnf
        (conv=>whnf); refine ⟨inK64 (by omega) (by omega),?_⟩
        conv=>whnf
        conv=>whnf
        (conv=>whnf); refine ⟨_,_,⟨⟨i,r,Q.set (((i + 1 : Nat) : Int) - 1).toNat (q : Int),((i + 1 : Nat) : Int) - 1 - 1,by omega,by omega,(by rw [List.length_set]; exact hl),(dg_set hd (by omega) _),hml,(by rw [ei]; exact hVn),rfl,rfl⟩,by omega⟩,⟨⟨.inl rfl,rfl,rfl,rfl⟩,⟨⟨rfl,rfl,rfl,rfl,fun _=>rfl,fun _ _=>.inl rfl⟩,⟨⟨rfl,rfl,rfl,rfl,fun _=>rfl,fun _ _=>.inl rfl⟩,⟨⟨rfl,rfl,rfl,rfl,fun _=>rfl,fun _ _=>.inl rfl⟩,⟨⟨rfl,rfl,rfl,rfl,fun _=>rfl,fun _ _=>.inl rfl⟩,⟨⟨rfl,rfl,rfl,rfl,fun _=>rfl,fun _ _=>.inl rfl⟩,trivial⟩⟩⟩⟩⟩,trivial⟩⟩
    ·(exfalso; omega)
theorem S173 (x y : Int) (hx : Wd x) (hy : Wd y) (hp : 0 < y) : SP 173 [wA x,wA y] (wA (x / y)) false := by
 unfold Wd at hx hy
 have hab : ((y.natAbs : Nat) : Int) = y := by omega
 have hvx := valN_digs x.natAbs
 have hxn : (valN (digs x.natAbs)).toNat = x.natAbs := by omega
 by_cases h0 : x = 0
 ·have ez : wA (x / y) = .agg [i64 0,ints []] := by rw [h0,Int.zero_ediv,wA_eq (z := 0) (s := 0) (n := 0) rfl rfl,digs0]
  have es : sgI x = 0 := by rw [h0]; rfl
  rw [ez]
  refine sound (d := 2) tok2 mixed2 Tryz.func173 (by kernel_rfl) (by kernel_rfl) ?_
  (conv=>whnf); refine ifB_beq (fun w1=>?_) (fun w1=>?_)
  ·(conv=>whnf); refine ⟨?_,nofun⟩
   exact ave_agg2 rfl rfl
  ·(exfalso; omega)
 ·refine S173c (sgI x) (sgI y) (digs x.natAbs) y.natAbs (digs_dg _) hx (by omega) hy (by have := sg_cases x; omega) (x / y) ?_
  rw [hxn]
  by_cases hs : 0 < x
  ·have e : sgI x = 1 := by have := sg_cases x; omega
   rw [if_pos e,Int.natCast_ediv,hab,show ((x.natAbs : Nat) : Int) = x by omega]
  ·have e : ¬ sgI x = 1 := by have := sg_cases x; omega
   rw [if_neg e]
   have hd := Nat.div_add_mod x.natAbs y.natAbs
   have hm := Nat.mod_lt x.natAbs (show 0 < y.natAbs by omega)
   generalize x.natAbs / y.natAbs = q at hd ⊢
   generalize hr : x.natAbs % y.natAbs = r at hd hm ⊢
   have hx2 : x = -(y * q + r) := by
    have h1 : ((y.natAbs * q + r : Nat) : Int) = x.natAbs := by rw [hd]
    rw [Int.natCast_add,Int.natCast_mul,hab] at h1
    omega
   by_cases hr0 : r = 0
   ·rw [if_pos hr0]
    rw [hx2,hr0,show -(y * (q : Int) + (0 : Nat)) = y * (-(q : Int)) by grind,Int.mul_ediv_cancel_left _ (by omega)]
    omega
   ·rw [if_neg hr0]
    rw [hx2,show -(y * (q : Int) + (r : Int)) = (y - r) + y * (-(q : Int) - 1) by grind,Int.add_mul_ediv_left _ _ (by omega),Int.ediv_eq_zero_of_lt (by omega) (by omega)]
    omega
end Go.Tr

/- Contracts: fractions of whole numbers of any size. Conditions: none. -/
namespace Go.Tr
open Go Go.Proofs
set_option maxRecDepth 20000
set_option maxHeartbeats 8000000

theorem Wd.le {a b : Int} (h : Wd b) (hl : a.natAbs ≤ b.natAbs) : Wd a := Nat.le_trans (digs_mono _ _ hl) h
theorem gcd_step {a b : Int} (ha : 0 ≤ a) (hb : 0 < b) : Int.gcd b (a - a / b * b) = Int.gcd a b := by
 have e : a - a / b * b = a % b := by rw [Int.emod_def,Int.mul_comm]
 rw [e]
 show Nat.gcd b.natAbs (a % b).natAbs = Nat.gcd a.natAbs b.natAbs
 rw [Int.natAbs_emod_of_nonneg ha,Nat.gcd_comm,← Nat.gcd_rec,Nat.gcd_comm]
theorem S172 (x y : Int) (hx : Wd x) (hy : Wd y) : SP 172 [wA x,wA y] (wA (Int.gcd x y : Nat)) false := by
 have h187x := S215 x
 have h187y := S215 y
 refine sound (d := 2) tok2 mixed2 Tryz.func172 (by kernel_rfl) (by kernel_rfl) ?_
 (conv=>whnf); refine ⟨[],by kernel_rfl,?_⟩
 (conv=>whnf); refine .inl ⟨_,_,byX rfl (h187x),?_⟩
 (conv=>whnf); refine .inl ⟨_,_,byX rfl (h187y),?_⟩
 (conv=>whnf); refine ⟨[],[2,3,4],fun st mq=>∃ (a : Int) (b : Int),(0 ≤ a) ∧ (0 ≤ b) ∧ (Wd a) ∧ (Wd b) ∧ (Int.gcd a b = Int.gcd x y) ∧ st = ⟨[(2,.optr 0 0 0 0),(3,.optr 1 0 0 0),(4,.optr 2 0 0 0)],⟨[⟨2,1,fun _=>[i64 (sgI a),ints (digs a.natAbs)],0,false,true,true⟩,⟨2,1,fun _=>[i64 (sgI b),ints (digs b.natAbs)],0,false,true,true⟩,⟨2,1,fun _=>[i64 0,.eslice],0,false,true,true⟩],[],none,0⟩,[]⟩ ∧ mq = b.natAbs,
  ⟨_,_,⟨(x.natAbs : Nat),(y.natAbs : Nat),by omega,by omega,(hx.le (by omega)),(hy.le (by omega)),rfl,rfl,rfl⟩,⟨⟨.inl rfl,rfl,rfl,rfl⟩,⟨⟨rfl,rfl,rfl,rfl,fun _=>rfl,fun _ _=>.inl rfl⟩,⟨⟨rfl,rfl,rfl,rfl,fun _=>rfl,fun _ _=>.inl rfl⟩,⟨⟨rfl,rfl,rfl,rfl,fun _=>rfl,fun _ _=>.inl rfl⟩,trivial⟩⟩⟩,trivial⟩⟩,?_⟩
 rintro s0 m0 ⟨a,b,ha,hb,hwa,hwb,hg,rfl,hmeas⟩
 have h163 := S120 b
 have hsb := sg_cases b
 by_cases h0 : b = 0
 ·have e : a = (Int.gcd x y : Nat) := by rw [← hg,h0,Int.gcd_zero_right]; omega
  have es : sgI b = 0 := by omega
  rw [← e]
  conv=>whnf
  (conv=>whnf); refine .inl ⟨_,_,byX rfl (Sound1.pl (h163) rfl),?_⟩
  conv=>whnf
  (conv=>whnf); refine ifB_bne (fun w1=>?_) (fun w1=>?_)
  ·(exfalso; omega)
  ·conv=>whnf
   (conv=>whnf); refine ⟨?_,nofun⟩
   exact ave_agg2 rfl ⟨rfl,rfl,fun _ _=>rfl⟩
 ·have es : sgI b ≠ 0 := by omega
  have hq0 : 0 ≤ a / b := Int.ediv_nonneg ha hb
  have hqa : a / b ≤ a := Int.ediv_le_self _ ha
  have hem := Int.emod_def a b
  have hmn := Int.emod_nonneg a (show b ≠ 0 by omega)
  have hml := Int.emod_lt_of_pos a (show 0 < b by omega)
  have hcm : b * (a / b) = a / b * b := Int.mul_comm _ _
  have h166 := S173 a b hwa hwb (by omega)
  have h146 := S147 (a / b) b (hwa.le (by omega)) hwb
  have hqb : 0 ≤ a / b * b := Int.mul_nonneg hq0 hb
  have h170 := S195 a (a / b * b) hwa (hwa.le (by omega))
  conv=>whnf
  (conv=>whnf); refine .inl ⟨_,_,byX rfl (Sound1.pl (h163) rfl),?_⟩
  conv=>whnf
  (conv=>whnf); refine ifB_bne (fun w1=>?_) (fun w1=>?_)
  ·conv=>whnf
   (conv=>whnf); refine ⟨[],by kernel_rfl,?_⟩
   conv=>whnf
   (conv=>whnf); refine .inl ⟨_,_,byX rfl (h166),?_⟩
   conv=>whnf
   (conv=>whnf); refine .inl ⟨_,_,byX rfl (h146),?_⟩
   conv=>whnf
   (conv=>whnf); refine .inl ⟨_,_,byX rfl (h170),?_⟩
   conv=>whnf
   (conv=>whnf); refine ⟨[(1,2)],by kernel_rfl,?_⟩
   conv=>whnf
   (conv=>whnf); refine ⟨_,_,⟨⟨b,a - a / b * b,by omega,by omega,hwb,(hwb.le (by omega)),(by rw [← hg]; exact gcd_step ha (by omega)),rfl,rfl⟩,by omega⟩,⟨⟨.inl rfl,rfl,rfl,rfl⟩,⟨⟨rfl,rfl,rfl,rfl,fun _=>rfl,fun _ _=>.inl rfl⟩,⟨⟨rfl,rfl,rfl,rfl,fun _=>rfl,fun _ _=>.inl rfl⟩,⟨⟨rfl,rfl,rfl,rfl,fun _=>rfl,fun _ _=>.inl rfl⟩,trivial⟩⟩⟩,trivial⟩⟩
  ·(exfalso; omega)
abbrev rA2 (a b : Int) : AV := .agg [i64 (sgI a),ints (digs a.natAbs),i64 (sgI b),ints (digs b.natAbs)]
abbrev rA (q : Rat) : AV := rA2 q.num (q.den : Nat)
theorem ave_rA {k : Nat} {a b : Int} : AVE (k + 2) (rA2 a b) (rA2 a b) := ave_agg4 rfl ⟨rfl,rfl,fun _ _=>rfl⟩ rfl ⟨rfl,rfl,fun _ _=>rfl⟩
theorem div_num {n d : Int} (hd : 0 < d) : (Rat.divInt n d).num = n / (Int.gcd n d : Nat) := by
  rw [Rat.num_divInt,Int.sign_eq_one_of_pos hd,Int.one_mul,Int.gcd_comm]
theorem div_den {n d : Int} (hd : 0 < d) : ((Rat.divInt n d).den : Int) = d / (Int.gcd n d : Nat) := by
 rw [Rat.den_divInt,if_neg (by omega),Int.gcd_comm,Int.natCast_ediv]
 congr 1
 omega
theorem S146p (n d : Int) (hn : Wd n) (hd : Wd d) (hp : 0 < d) : SP 146 [wA n,wA d] (rA (Rat.divInt n d)) false := by
 have h163 := S120 d
 have h165 := S172 n d hn hd
 have h142 := S148 1 (by decide)
 have hg0 : 0 < Int.gcd n d := Int.gcd_pos_of_ne_zero_right _ (by omega)
 have hgd : Int.gcd n d ≤ d.natAbs := Nat.le_of_dvd (by omega) (Nat.gcd_dvd_right _ _)
 have hgw : Wd (Int.gcd n d : Nat) := hd.le (by omega)
 have h148 := S160 (Int.gcd n d : Nat) 1 hgw (Wd_small (by decide))
 have hs : ¬ sgI d < 0 := by have := sg_cases d; omega
 have hsc := sg_cases ((Int.gcd n d : Nat) - 1)
 show SP 146 [wA n,wA d] (rA2 (Rat.divInt n d).num ((Rat.divInt n d).den : Nat)) false
 rw [div_num hp,div_den hp]
 by_cases hg1 : Int.gcd n d = 1
 ·have hc : sgI ((Int.gcd n d : Nat) - 1) = 0 := by omega
  rw [hg1,show ((1 : Nat) : Int) = 1 from rfl,Int.ediv_one,Int.ediv_one]
  rw [hg1] at h165 h148 hc
  refine sound (d := 2) tok2 mixed2 Tryz.func146 (by kernel_rfl) (by kernel_rfl) ?_
  (conv=>whnf); refine .inl ⟨_,_,byX rfl (Sound1.pl (h163) rfl),?_⟩
  (conv=>whnf); refine ifB_dec (fun w1=>?_) (fun w1=>?_)
  ·(exfalso; omega)
  ·(conv=>whnf); refine .inl ⟨_,_,byX rfl (h165),?_⟩
   (conv=>whnf); refine ⟨[],by kernel_rfl,?_⟩
   (conv=>whnf); refine .inl ⟨_,_,byX rfl (h142),?_⟩
   (conv=>whnf); refine .inl ⟨_,_,byX rfl (Sound1.pl (h148) rfl),?_⟩
   (conv=>whnf); refine ⟨?_,nofun⟩
   exact ave_rA
 ·have hc : ¬ sgI ((Int.gcd n d : Nat) - 1) = 0 := by omega
  have h166n := S173 n (Int.gcd n d : Nat) hn hgw (by omega)
  have h166d := S173 d (Int.gcd n d : Nat) hd hgw (by omega)
  refine sound (d := 2) tok2 mixed2 Tryz.func146 (by kernel_rfl) (by kernel_rfl) ?_
  (conv=>whnf); refine .inl ⟨_,_,byX rfl (Sound1.pl (h163) rfl),?_⟩
  (conv=>whnf); refine ifB_dec (fun w1=>?_) (fun w1=>?_)
  ·(exfalso; omega)
  ·(conv=>whnf); refine .inl ⟨_,_,byX rfl (h165),?_⟩
   (conv=>whnf); refine ⟨[],by kernel_rfl,?_⟩
   (conv=>whnf); refine .inl ⟨_,_,byX rfl (h142),?_⟩
   (conv=>whnf); refine .inl ⟨_,_,byX rfl (Sound1.pl (h148) rfl),?_⟩
   (conv=>whnf); refine ifB_beq (fun w2=>?_) (fun w2=>?_)
   ·(exfalso; omega)
   ·(conv=>whnf); refine ⟨[],by kernel_rfl,?_⟩
    (conv=>whnf); refine .inl ⟨_,_,byX rfl (h166n),?_⟩
    (conv=>whnf); refine .inl ⟨_,_,byX rfl (h166d),?_⟩
    (conv=>whnf); refine ⟨?_,nofun⟩
    exact ave_rA
theorem S146 (n d : Int) (hn : Wd n) (hd : Wd d) (h0 : d ≠ 0) : SP 146 [wA n,wA d] (rA (Rat.divInt n d)) false := by
 by_cases hp : 0 < d
 ·exact S146p n d hn hd hp
 ·have h163 := S120 d
  have h164n := S166 n
  have h164d := S166 d
  have hn' := hn.neg
  have hd' := hd.neg
  have hp' : 0 < -d := by omega
  have h165 := S172 (-n) (-d) hn' hd'
  have h142 := S148 1 (by decide)
  have hg0 : 0 < Int.gcd (-n) (-d) := Int.gcd_pos_of_ne_zero_right _ (by omega)
  have hgd : Int.gcd (-n) (-d) ≤ (-d).natAbs := Nat.le_of_dvd (by omega) (Nat.gcd_dvd_right _ _)
  have hgw : Wd (Int.gcd (-n) (-d) : Nat) := hd'.le (by omega)
  have h148 := S160 (Int.gcd (-n) (-d) : Nat) 1 hgw (Wd_small (by decide))
  have hs : sgI d < 0 := by have := sg_cases d; omega
  have hsc := sg_cases ((Int.gcd (-n) (-d) : Nat) - 1)
  rw [← Rat.neg_divInt_neg n d]
  show SP 146 [wA n,wA d] (rA2 (Rat.divInt (-n) (-d)).num ((Rat.divInt (-n) (-d)).den : Nat)) false
  rw [div_num hp',div_den hp']
  by_cases hg1 : Int.gcd (-n) (-d) = 1
  ·have hc : sgI ((Int.gcd (-n) (-d) : Nat) - 1) = 0 := by omega
   rw [hg1,show ((1 : Nat) : Int) = 1 from rfl,Int.ediv_one,Int.ediv_one]
   rw [hg1] at h165 h148 hc
   refine sound (d := 2) tok2 mixed2 Tryz.func146 (by kernel_rfl) (by kernel_rfl) ?_
   (conv=>whnf); refine .inl ⟨_,_,byX rfl (Sound1.pl (h163) rfl),?_⟩
   (conv=>whnf); refine ifB_dec (fun w1=>?_) (fun w1=>?_)
   ·(conv=>whnf); refine ⟨[],by kernel_rfl,?_⟩
    (conv=>whnf); refine .inl ⟨_,_,byX rfl (h164n),?_⟩
    (conv=>whnf); refine .inl ⟨_,_,byX rfl (h164d),?_⟩
    (conv=>whnf); refine .inl ⟨_,_,byX rfl (h165),?_⟩
    (conv=>whnf); refine ⟨[],by kernel_rfl,?_⟩
    (conv=>whnf); refine .inl ⟨_,_,byX rfl (h142),?_⟩
    (conv=>whnf); refine .inl ⟨_,_,byX rfl (Sound1.pl (h148) rfl),?_⟩
    (conv=>whnf); refine ⟨?_,nofun⟩
    exact ave_rA
   ·(exfalso; omega)
  ·have hc : ¬ sgI ((Int.gcd (-n) (-d) : Nat) - 1) = 0 := by omega
   have h166n := S173 (-n) (Int.gcd (-n) (-d) : Nat) hn' hgw (by omega)
   have h166d := S173 (-d) (Int.gcd (-n) (-d) : Nat) hd' hgw (by omega)
   refine sound (d := 2) tok2 mixed2 Tryz.func146 (by kernel_rfl) (by kernel_rfl) ?_
   (conv=>whnf); refine .inl ⟨_,_,byX rfl (Sound1.pl (h163) rfl),?_⟩
   (conv=>whnf); refine ifB_dec (fun w1=>?_) (fun w1=>?_)
   ·(conv=>whnf); refine ⟨[],by kernel_rfl,?_⟩
    (conv=>whnf); refine .inl ⟨_,_,byX rfl (h164n),?_⟩
    (conv=>whnf); refine .inl ⟨_,_,byX rfl (h164d),?_⟩
    (conv=>whnf); refine .inl ⟨_,_,byX rfl (h165),?_⟩
    (conv=>whnf); refine ⟨[],by kernel_rfl,?_⟩
    (conv=>whnf); refine .inl ⟨_,_,byX rfl (h142),?_⟩
    (conv=>whnf); refine .inl ⟨_,_,byX rfl (Sound1.pl (h148) rfl),?_⟩
    (conv=>whnf); refine ifB_beq (fun w2=>?_) (fun w2=>?_)
    ·(exfalso; omega)
    ·(conv=>whnf); refine ⟨[],by kernel_rfl,?_⟩
     (conv=>whnf); refine .inl ⟨_,_,byX rfl (h166n),?_⟩
     (conv=>whnf); refine .inl ⟨_,_,byX rfl (h166d),?_⟩
     (conv=>whnf); refine ⟨?_,nofun⟩
     exact ave_rA
   ·(exfalso; omega)
end Go.Tr

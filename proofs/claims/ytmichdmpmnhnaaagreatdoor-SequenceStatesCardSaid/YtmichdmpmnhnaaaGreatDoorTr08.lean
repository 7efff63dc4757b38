/- Plain laws of chapter 7: the order of ways, the least way. Conditions: none. -/
import Derived.Test.YtmichdmpmnhnaaaGreatDoorTr07
import Derived.Lib.ItoaNum
import Derived.Lib.AtoiTie
import Derived.Lib.Strings
import Derived.Test.YtmichdmpmnhnaaaGreatDoorTr06
import Derived.Shelf.Strconv.Itoa3
import Derived.Shelf.Strconv.AtoiAll
import Derived.Shelf.Strings.Split
import Derived.Shelf.Strings.Search3
import Derived.Shelf.Strings.Prefix
import Derived.Shelf.Strings.OnBuilder
set_option linter.unusedSectionVars false
set_option linter.unnecessarySimpa false
set_option linter.unusedVariables false
set_option linter.unusedSimpArgs false

namespace Go.Tr
open Go Go.Proofs
set_option maxRecDepth 20000
set_option maxHeartbeats 8000000

abbrev Way := List Int × Int
theorem cmpI_self (a : Int) : cmpI a a = 0 := by unfold cmpI; rw [if_neg (by omega),if_neg (by omega)]
theorem cmpI_zero {a b : Int} : cmpI a b = 0 ↔ a = b := by
 unfold cmpI
 split
 ·constructor
  ·intro h; cases h
  ·intro h; omega
 ·split
  ·constructor
   ·intro h; cases h
   ·intro h; omega
  ·constructor
   ·intro h; omega
   ·intro _; rfl
theorem cmpI_neg {a b : Int} : cmpI a b < 0 ↔ a < b := by
 unfold cmpI
 split
 ·exact ⟨fun _=>by assumption,fun _=>by decide⟩
 ·split
  ·exact ⟨fun h=>by omega,fun h=>by omega⟩
  ·exact ⟨fun h=>by omega,fun h=>by omega⟩
theorem cmpL_self : ∀ l : List Int,cmpL l l = 0
  | []=>rfl
  | a :: l=>by unfold cmpL; rw [cmpI_self,if_neg (by simp),cmpL_self l]
theorem cmpL_cons {a b : Int} {l m : List Int} : cmpL (a :: l) (b :: m) < 0 ↔ a < b ∨ a = b ∧ cmpL l m < 0 := by
  conv=>lhs; unfold cmpL
  by_cases h : cmpI a b = 0
  · rw [if_neg (not_not_intro h)]
    have := cmpI_zero.1 h
    exact ⟨fun h2 => .inr ⟨this, h2⟩, fun h2 => by rcases h2 with h2 | h2; · omega
                                                   · exact h2.2⟩
  · rw [if_pos h,cmpI_neg]
    exact ⟨.inl, fun h2 => by rcases h2 with h2 | h2; · exact h2
                              · exact absurd (cmpI_zero.2 h2.1) h⟩
theorem cmpL_trans : ∀ {l m n : List Int},cmpL l m < 0 → cmpL m n < 0 → cmpL l n < 0
 | [],[],_,h,_=>by cases h
 | [],_ :: _,[],_,h=>by cases h
 | [],_ :: _,_ :: _,_,_=>by show (-1 : Int) < 0; decide
 | _ :: _,[],_,h,_=>by cases h
 | _ :: _,_ :: _,[],_,h=>by cases h
 | a :: l, b :: m, c :: n, h1, h2 => by
  rw [cmpL_cons] at h1 h2 ⊢
  rcases h1 with h1 | ⟨h1,h3⟩
  ·rcases h2 with h2 | ⟨h2,_⟩
   ·exact .inl (by omega)
   ·exact .inl (by omega)
  ·rcases h2 with h2 | ⟨h2,h4⟩
   ·exact .inl (by omega)
   ·exact .inr ⟨by omega,cmpL_trans h3 h4⟩
theorem cmpL_total : ∀ (l m : List Int),cmpL l m < 0 ∨ l = m ∨ cmpL m l < 0
 | [],[]=>.inr (.inl rfl)
 | [],_ :: _=>.inl (by show (-1 : Int) < 0; decide)
 | _ :: _,[]=>.inr (.inr (by show (-1 : Int) < 0; decide))
 | a :: l, b :: m => by
  rw [cmpL_cons,cmpL_cons]
  rcases Int.lt_trichotomy a b with h | h | h
  ·exact .inl (.inl h)
  ·rcases cmpL_total l m with h2 | h2 | h2
   ·exact .inl (.inr ⟨h,h2⟩)
   ·exact .inr (.inl (by rw [h,h2]))
   ·exact .inr (.inr (.inr ⟨h.symm,h2⟩))
  ·exact .inr (.inr (.inl h))

def wlt (a b : Way) : Bool := decide (cmpL (a.2 :: a.1) (b.2 :: b.1) < 0)
theorem wlt_irr (a : Way) : wlt a a = false := by
  unfold wlt
  rw [cmpL_self]; rfl
theorem wlt_trans {a b c : Way} (h1 : wlt a b = true) (h2 : wlt b c = true) : wlt a c = true :=
  decide_eq_true (cmpL_trans (of_decide_eq_true h1) (of_decide_eq_true h2))
theorem wlt_total (a b : Way) : wlt a b = true ∨ a = b ∨ wlt b a = true := by
 rcases cmpL_total (a.2 :: a.1) (b.2 :: b.1) with h | h | h
 ·exact .inl (decide_eq_true h)
 ·injection h with h1 h2
  exact .inr (.inl (Prod.ext h2 h1))
 ·exact .inr (.inr (decide_eq_true h))
theorem wlt_first (a b : Way) : wlt a b = decide (firstOf [cmpI a.2 b.2,cmpL a.1 b.1] < 0) := by
  unfold wlt
  refine decide_eq_decide.2 ?_
  rw [cmpL_cons,first2]
  by_cases h : cmpI a.2 b.2 = 0
  · rw [if_neg (not_not_intro h)]
    have := cmpI_zero.1 h
    exact ⟨fun h2 => by rcases h2 with h2 | h2; · omega
                        · exact h2.2,fun h2=>.inr ⟨this,h2⟩⟩
  · rw [if_pos h,cmpI_neg]
    exact ⟨fun h2 => by rcases h2 with h2 | h2; · exact h2
                        · exact absurd (cmpI_zero.2 h2.1) h,.inl⟩

def better (o : Option Way) (w : Way) : Option Way := match o with | none=>some w | some v=>if wlt w v then some w else some v
def minL (l : List Way) : Option Way := l.foldl better none
theorem minL_snoc (l : List Way) (w : Way) : minL (l ++ [w]) = better (minL l) w := by
  unfold minL
  rw [List.foldl_append]; rfl
def IsMin (l : List Way) (w : Way) : Prop := w ∈ l ∧ ∀ v ∈ l,wlt v w = false
theorem IsMin.unique {l : List Way} {a b : Way} (h1 : IsMin l a) (h2 : IsMin l b) : a = b := by
 rcases wlt_total a b with h | h | h
 ·rw [h2.2 a h1.1] at h; cases h
 ·exact h
 ·rw [h1.2 b h2.1] at h; cases h
theorem rev_ind {P : List Way → Prop} (h0 : P []) (h1 : ∀ l w,P l → P (l ++ [w])) (l : List Way) : P l := by
 have : ∀ m : List Way,P m.reverse := fun m=>by
  induction m with
  | nil=>exact h0
  | cons x r ih=>rw [List.reverse_cons]; exact h1 _ _ ih
 have := this l.reverse
 rwa [List.reverse_reverse] at this
theorem minL_spec (l : List Way) : (l = [] ∧ minL l = none) ∨ ∃ w,minL l = some w ∧ IsMin l w := by
 refine rev_ind (P := fun l=>(l = [] ∧ minL l = none) ∨ ∃ w,minL l = some w ∧ IsMin l w) (.inl ⟨rfl,rfl⟩) (fun l w ih=>.inr ?_) l
 rw [minL_snoc]
 rcases ih with ⟨h1,h2⟩ | ⟨v,h1,h2⟩
 ·rw [h2,h1]
  exact ⟨w,rfl,by simp,fun v hv=>(show v = w by simpa using hv) ▸ wlt_irr v⟩
 ·rw [h1]
  show ∃ w_1,(if wlt w v then some w else some v) = some w_1 ∧ _
  cases hw : wlt w v with
  | true =>
   refine ⟨w,by simp,by simp,fun u hu=>?_⟩
   rcases List.mem_append.1 hu with h | h
   ·cases hu2 : wlt u w with
    | false=>rfl
    | true=>rw [← h2.2 u h,wlt_trans hu2 hw]
   ·rw [List.mem_singleton.1 h]; exact wlt_irr w
  | false =>
   refine ⟨v,by simp,List.mem_append.2 (.inl h2.1),fun u hu=>?_⟩
   rcases List.mem_append.1 hu with h | h
   ·exact h2.2 u h
   ·rw [List.mem_singleton.1 h]; exact hw
theorem minL_some {l : List Way} {w : Way} : minL l = some w ↔ IsMin l w := by
 rcases minL_spec l with ⟨rfl,h⟩ | ⟨v,h1,h2⟩
 ·rw [h]
  exact ⟨fun h=>(by cases h),fun h=>(by cases h.1)⟩
 ·rw [h1]
  exact ⟨fun h=>(by cases h; exact h2),fun h=>(by rw [h2.unique h])⟩
theorem minL_none {l : List Way} : minL l = none ↔ l = [] := by
 rcases minL_spec l with ⟨rfl,h⟩ | ⟨v,h1,h2⟩
 ·simp [h]
 ·rw [h1]
  exact ⟨fun h=>(by cases h),fun h=>by rw [h] at h2; cases h2.1⟩
theorem minL_congr {l m : List Way} (h : ∀ w,w ∈ l ↔ w ∈ m) : minL l = minL m := by
 cases hl : minL l with
 | none =>
  rw [minL_none] at hl
  cases hm : m with
  | nil=>rfl
  | cons x r=>have := (h x).2 (by rw [hm]; simp); rw [hl] at this; cases this
 | some w =>
  have h1 := minL_some.1 hl
  exact (minL_some.2 ⟨(h w).1 h1.1,fun v hv=>h1.2 v ((h v).2 hv)⟩).symm

abbrev Ent := S2 × Way
def waysTo (L : List Ent) (s : S2) : List Way := (L.filter fun e=>e.1 = s).map (·.2)
def least (L : List Ent) (s : S2) : Option Way := minL (waysTo L s)
theorem mem_waysTo {L : List Ent} {s : S2} {w : Way} : w ∈ waysTo L s ↔ (s,w) ∈ L := by
 unfold waysTo
 rw [List.mem_map]
 constructor
 ·rintro ⟨e,h1,rfl⟩
  have h2 := List.mem_filter.1 h1
  have h3 : e.1 = s := by simpa using h2.2
  rw [← h3]; exact h2.1
 ·intro h
  exact ⟨(s,w),List.mem_filter.2 ⟨h,by simp⟩,rfl⟩
theorem least_congr {L M : List Ent} (h : ∀ e,e ∈ L ↔ e ∈ M) (s : S2) : least L s = least M s :=
  minL_congr fun w=>by rw [mem_waysTo,mem_waysTo]; exact h _
theorem least_snoc (L : List Ent) (e : Ent) (s : S2) : least (L ++ [e]) s = if e.1 = s then better (least L s) e.2 else least L s := by
 unfold least waysTo
 rw [List.filter_append,List.map_append]
 by_cases h : e.1 = s
 ·rw [if_pos h]
  have : List.filter (fun e=>decide (e.1 = s)) [e] = [e] := by simp [h]
  rw [this]
  exact minL_snoc _ _
 ·rw [if_neg h]
  have : List.filter (fun e=>decide (e.1 = s)) [e] = [] := by simp [h]
  rw [this]; simp
def dedupS : List S2 → List S2
  | []=>[]
  | x :: r=>if x ∈ dedupS r then dedupS r else x :: dedupS r
theorem mem_dedupS {x : S2} : ∀ {l : List S2},x ∈ dedupS l ↔ x ∈ l
 | []=>Iff.rfl
 | y :: r => by
  unfold dedupS
  split
  ·rename_i h
   rw [mem_dedupS,List.mem_cons]
   exact ⟨.inr,fun h2=>h2.elim (fun e=>by rw [e]; exact mem_dedupS.1 h) id⟩
  ·rw [List.mem_cons,List.mem_cons,mem_dedupS]
def norm (L : List Ent) : List Ent := (dedupS (L.map (·.1))).map fun s=>(s,(least L s).getD ([],0))
theorem least_isSome {L : List Ent} {s : S2} : (least L s).isSome = true ↔ s ∈ L.map (·.1) := by
 constructor
 ·intro h
  obtain ⟨w,hw⟩ := Option.isSome_iff_exists.1 h
  exact List.mem_map.2 ⟨(s,w),mem_waysTo.1 (minL_some.1 hw).1,rfl⟩
 ·intro h
  obtain ⟨e,h1,h2⟩ := List.mem_map.1 h
  cases hl : least L s with
  | some w=>rfl
  | none =>
   have : e.2 ∈ waysTo L s := mem_waysTo.2 (by rw [← h2]; exact h1)
   rw [minL_none.1 hl] at this; cases this
theorem mem_norm {L : List Ent} {e : Ent} : e ∈ norm L ↔ least L e.1 = some e.2 := by
 unfold norm
 rw [List.mem_map]
 constructor
 ·rintro ⟨s,h1,rfl⟩
  have h2 := least_isSome.2 (mem_dedupS.1 h1)
  obtain ⟨w,hw⟩ := Option.isSome_iff_exists.1 h2
  show least L s = some ((least L s).getD ([],0))
  rw [hw]; rfl
 ·intro h
  refine ⟨e.1,mem_dedupS.2 (least_isSome.1 (by rw [h]; rfl)),?_⟩
  rw [h]; rfl
end Go.Tr

/- Contracts of chapter 7: ways, the best ways with one command more. Conditions: none. -/
namespace Go.Tr
open Go Go.Proofs
set_option maxRecDepth 20000
set_option maxHeartbeats 8000000

abbrev wayA (w : Way) : AV := .agg [ints w.1,i64 w.2]
def wayM (B : S2 → Option Way) (v : Value) : AV := match decS v with | some s=>wayA ((B s).getD ([],0)) | none=>wayA ([],0)
abbrev kkS : KK := .agg [.int .i64,.int .i64]
abbrev hasW (B : S2 → Option Way) : Value → Bool := hasM fun s=>(B s).isSome
abbrev mapA (B : S2 → Option Way) : AV := .rmap kkS 106 (hasW B) (wayM B)

theorem S55 (a b : Way) (ha : a.1.length ≤ 1000) (hb : b.1.length ≤ 1000) : SP 55 [wayA a,wayA b] (vb (wlt a b)) false := by
 have h115 := S93 a.2 b.2
 have h116 := S94 a.1 b.1 (by omega) (by omega)
 refine sound (d := 2) tok2 mixed2 Tryz.func55 (by kernel_rfl) (by kernel_rfl) ?_
 (conv=>whnf); refine ⟨[],by kernel_rfl,?_⟩
 (conv=>whnf); refine .inl ⟨_,_,byX rfl (Sound1.pl (h115) rfl),?_⟩
 (conv=>whnf); refine .inl ⟨_,_,byX rfl (Sound1.pl (h116) rfl),?_⟩
 (conv=>whnf); refine .inl ⟨_,_,byX rfl (Sound1.pl (S92_2 _ _ ⟨rfl,rfl⟩) rfl),?_⟩
 (conv=>whnf); refine ⟨?_,nofun⟩
 rw [wlt_first]
 rfl
theorem S55n (a b : Way) (ha : a.1.length ≤ 1000) (hb : b.1.length ≤ 1000) {n : Nat} {f : Nat → List AV} (hn : n = a.1.length) (hf : ∀ i,i < n → f i = [i64 (a.1.getD i 0)]) : SP 55 [.agg [.rslice 1 n f,i64 a.2],wayA b] (vb (wlt a b)) false := by
 refine (S55 a b ha hb).argsD rfl fun i y x hy hx=>?_
 match i,hy,hx with
 | 0,hy,hx =>
  cases hy; cases hx
  refine .inr ⟨3,rfl,fun j x y hx hy=>?_⟩
  match j,hx,hy with
  | 0,hx,hy=>cases hx; cases hy; exact .inr (AVF_rows hn hf 1)
  | 1,hx,hy=>cases hx; cases hy; exact .inl rfl
 | 1,hy,hx=>cases hy; cases hx; exact .inl rfl
theorem S96 (l : List Int) (hl : l.length ≤ 1000000) : SP 96 [ints l] (ints l) true := by
 refine sound (d := 2) tok2 mixed2 Tryz.func96 (by kernel_rfl) (by kernel_rfl) ?_
 rintro (_ | _) w1
 ·(conv=>whnf); refine .inl ?_
  (conv=>whnf); refine ⟨⟨(by omega),(by show _ * (8 + 1) ≤ _; omega)⟩,?_⟩
  (conv=>whnf); refine ⟨?_,fun _=>⟨rfl,?_⟩⟩
  ·exact ⟨rfl,Nat.zero_add _,fun i hi=>rfl⟩
  ·exact ⟨fun i _ x hx=>⟨_,List.mem_singleton.1 hx⟩,trivial⟩
 ·(conv=>whnf); refine ⟨?_,fun _=>⟨rfl,?_⟩⟩
  ·cases l with
   | nil=>rfl
   | cons x r=>exact absurd (w1 (Nat.zero_lt_succ _)) nofun
  ·exact ⟨fun i _ x hx=>⟨_,List.mem_singleton.1 hx⟩,trivial⟩

section
variable {stop : S2 → Bool} {step : S2 → Option (S2 × Int)} {Ok : S2 → Prop}
theorem goA_spec (hOk : ∀ s x,Ok s → step s = some x → Ok x.1 ∧ 1 ≤ x.2 ∧ x.2 ≤ 10000) (s0 : S2) : ∀ (n : Nat) (s : S2) (l : List S2) (t : Int) (r : List S2 × Int),l.getLastD s0 = s → Ok s → (∀ x ∈ l,Ok x) → goA stop step n s l t = some r →
  stop (r.1.getLastD s0) = true ∧ Ok (r.1.getLastD s0) ∧ (∀ x ∈ r.1,Ok x) ∧ t ≤ r.2 ∧ r.2 ≤ t + 10000 * n ∧ l.length ≤ r.1.length ∧ r.1.length ≤ l.length + n
 | 0,s,l,t,r,_,_,_,h=>by cases h
 | n + 1, s, l, t, r, hl, hs, ho, h => by
  cases hst : stop s with
  | true =>
   rw [goA_stop hst] at h
   cases h
   exact ⟨by rw [hl]; exact hst,by rw [hl]; exact hs,ho,Int.le_refl _,by show t ≤ t + _; omega,Nat.le_refl _,Nat.le_add_right ..⟩
  | false =>
   cases hx : step s with
   | none=>rw [goA_stuck hst hx] at h; cases h
   | some x =>
    rw [goA_step hst hx] at h
    obtain ⟨g1,g2,g3⟩ := hOk s x hs hx
    have := goA_spec hOk s0 n x.1 (l ++ [x.1]) (t + x.2) r (by simp) g1 (fun y hy=>(List.mem_append.1 hy).elim (ho y) fun h=>by rw [List.mem_singleton.1 h]; exact g1) h
    refine ⟨this.1,this.2.1,this.2.2.1,by omega,by omega,?_,?_⟩
    ·have := this.2.2.2.2.2.1; simp at this; omega
    ·have := this.2.2.2.2.2.2; simp at this; omega
end
theorem stepS_all {p : Pln} (hg : Good p) (f : Int × Bool) : ∀ s x,OkS p s → stepS p f s = some x → OkS p x.1 ∧ 1 ≤ x.2 ∧ x.2 ≤ 10000 := fun s x hs hx=>by
  cases hx
  exact turn_ok hg hs (.inl rfl)
abbrev lastOf (l : List S2) : S2 := l.getLastD (0,0)
theorem lastOf_get {l : List S2} (h : l ≠ []) : l.getD (l.length - 1) (0,0) = lastOf l := by
 cases l with
 | nil=>exact absurd rfl h
 | cons a r=>simp [List.getD_eq_getElem?_getD,lastOf,List.getLastD_eq_getLast?,List.getLast?_eq_getElem?]
structure CmdOk (p : Pln) (r : List S2 × Int) : Prop where
 ne : r.1 ≠ []
 steady : (stp p (lastOf r.1)).wait = 0
 ok : OkS p (lastOf r.1)
 all : ∀ x ∈ r.1,OkS p x
 t1 : 1 ≤ r.2
 t2 : r.2 ≤ 4000000
 len : r.1.length ≤ 1000
theorem command_ok {p : Pln} (hg : Good p) {f : Int × Bool} {s : S2} {c : Int} (hs : OkS p s) (hc : OkC p c) {r : List S2 × Int} (h : commandF p f s c = some r) : CmdOk p r := by
 have h1 := turn_ok hg hs (f := f) hc
 have hA := allN_le hg
 unfold commandF settledF at h
 have := goA_spec (stepS_all hg f) (0,0) _ _ _ _ r (by simp) h1.1 (fun x hx=>by rw [List.mem_singleton.1 hx]; exact h1.1) h
 obtain ⟨g1,g2,g3,g4,g5,g6,g7⟩ := this
 refine ⟨fun e=>by rw [e] at g6; simp at g6,of_decide_eq_true g1,g2,g3,by omega,by omega,by simp at g7; omega⟩

abbrev noF : Int × Bool := (-1,false)
def stepWay (p : Pln) (e : Ent) (c : Int) : Option Ent := match commandF p noF e.1 c with | none=>none | some r=>some (lastOf r.1,(e.2.1 ++ [c],e.2.2 + r.2))
def extE (p : Pln) (e : Ent) : List Ent := (stp p e.1).exits.filterMap (stepWay p e)
def ext (p : Pln) (L : List Ent) : List Ent := L.flatMap (extE p)
theorem ext_snoc (p : Pln) (D : List Ent) (e : Ent) : ext p (D ++ [e]) = ext p D ++ extE p e := by simp [ext]
theorem ext_congr {p : Pln} {L M : List Ent} (h : ∀ e,e ∈ L ↔ e ∈ M) (e : Ent) : e ∈ ext p L ↔ e ∈ ext p M := by
  simp only [ext,List.mem_flatMap,h]
def LOk (p : Pln) (k : Nat) (L : List Ent) : Prop := ∀ e ∈ L,OkS p e.1 ∧ (stp p e.1).wait = 0 ∧ e.2.1.length = k ∧ 0 ≤ e.2.2 ∧ e.2.2 ≤ 4000000 * (k : Int)
theorem stepWay_ok {p : Pln} (hg : Good p) {k : Nat} {e : Ent} (he : OkS p e.1 ∧ (stp p e.1).wait = 0 ∧ e.2.1.length = k ∧ 0 ≤ e.2.2 ∧ e.2.2 ≤ 4000000 * (k : Int)) {c : Int} (hc : c ∈ (stp p e.1).exits) {x : Ent} (h : stepWay p e c = some x) :
  OkS p x.1 ∧ (stp p x.1).wait = 0 ∧ x.2.1.length = k + 1 ∧ 0 ≤ x.2.2 ∧ x.2.2 ≤ 4000000 * ((k + 1 : Nat) : Int) ∧ e.2.2 < x.2.2 := by
 unfold stepWay at h
 cases hr : commandF p noF e.1 c with
 | none=>rw [hr] at h; cases h
 | some r =>
  rw [hr] at h
  cases h
  have := command_ok hg he.1 (.inr (exit_ok hg he.1 he.2.1 (hasI_mem.2 hc))) hr
  have h1 := this.t1
  have h2 := this.t2
  obtain ⟨_,_,h3,h4,h5⟩ := he
  exact ⟨this.ok,this.steady,by simp [h3],by show 0 ≤ e.2.2 + r.2; omega,by show e.2.2 + r.2 ≤ _; omega,by show e.2.2 < e.2.2 + r.2; omega⟩
theorem ext_ok {p : Pln} (hg : Good p) {k : Nat} {L : List Ent} (h : LOk p k L) : LOk p (k + 1) (ext p L) := fun x hx=>by
 obtain ⟨e,he,hx⟩ := List.mem_flatMap.1 hx
 obtain ⟨c,hc,hx⟩ := List.mem_filterMap.1 hx
 have := stepWay_ok hg (h e he) hc hx
 exact ⟨this.1,this.2.1,this.2.2.1,this.2.2.2.1,this.2.2.2.2.1⟩
theorem least_mem {L : List Ent} {s : S2} {w : Way} (h : least L s = some w) : (s,w) ∈ L := mem_waysTo.1 (minL_some.1 h).1
theorem norm_mem {L : List Ent} {e : Ent} (h : e ∈ norm L) : e ∈ L := least_mem (mem_norm.1 h)
theorem norm_ok {p : Pln} {k : Nat} {L : List Ent} (h : LOk p k L) : LOk p k (norm L) := fun e he=>h e (norm_mem he)

theorem hasW_put (M : List Ent) (s : S2) (w : Way) (v : Value) : Bool.or (hasW (least M) v) (opEv.keyEq v (keyV s)) = hasW (least (M ++ [(s,w)])) v := by
 rw [keyD,hasW,hasM_or]
 congr 1
 funext x
 rw [least_snoc]
 by_cases h : s = x
 ·subst h
  cases least M s <;> simp [better]
  split <;> rfl
 ·have : ¬ x = s := fun e=>h e.symm
  simp [h,this]
theorem wayM_put (M : List Ent) (s : S2) (w : Way) (hb : better (least M s) w = some w) {X : AV} (hX : AVE 5 X (wayA w)) (v : Value) : AVE 5 (bif opEv.keyEq v (keyV s) then X else wayM (least M) v) (wayM (least (M ++ [(s,w)])) v) := by
 rw [keyD]
 unfold hasM wayM
 cases decS v with
 | none=>exact ave_agg2 (k := 4) ⟨rfl,rfl,fun _ _=>rfl⟩ rfl
 | some x =>
  show AVE 5 (bif decide (x = s) then X else wayA ((least M x).getD ([],0))) (wayA ((least (M ++ [(s,w)]) x).getD ([],0)))
  rw [least_snoc]
  by_cases h : x = s
  ·subst h
   rw [decide_eq_true rfl,if_pos rfl,hb]
   exact hX
  ·have : ¬ s = x := fun e=>h e.symm
   rw [decide_eq_false h,if_neg this]
   exact ave_agg2 (k := 4) ⟨rfl,rfl,fun _ _=>rfl⟩ rfl
theorem hasW_same (M : List Ent) (s : S2) (w v0 : Way) (h : least M s = some v0) (hb : wlt w v0 = false) : least (M ++ [(s,w)]) = least M := by
 funext x
 rw [least_snoc]
 split
 ·rename_i e
  cases e
  rw [h]
  simp [better,hb]
 ·rfl
abbrev wAt (L : List Ent) (s : S2) : Way := (least L s).getD ([],0)
theorem app_row (l : List Int) (c : Int) (i : Nat) (hi : i < l.length + 1) : (if i < l.length then [i64 (l.getD (0 + i) 0)] else List.take 1 (List.drop ((i - l.length) * 1) [i64 c])) = [i64 ((l ++ [c]).getD i 0)] := by
 rw [Nat.zero_add]
 by_cases h : i < l.length
 ·rw [if_pos h]; simp [List.getD_eq_getElem?_getD,h,List.getElem?_append_left h]
 ·have : i = l.length := by omega
  subst this
  rw [if_neg h]; simp [List.getD_eq_getElem?_getD]
theorem way_ave {l : List Int} {n : Nat} {f : Nat → List AV} {t : Int} (hn : n = l.length) (hf : ∀ i,i < n → f i = [i64 (l.getD i 0)]) : AVE 5 (.agg [.rslice 1 n f,i64 t]) (wayA (l,t)) := ave_agg2 (k := 4) ⟨rfl,hn,hf⟩ rfl
theorem hasW_nil (v : Value) : hasW (least []) v = false := by
  unfold hasW hasM
  cases decS v <;> rfl
theorem wayM_nil (v : Value) : AVE 5 (.agg [.eslice,i64 0]) (wayM (least []) v) := by
  unfold wayM
  cases decS v <;> exact ave_agg2 (k := 4) rfl rfl
theorem seen_put {sn : Value → Bool} {D : List Ent} {e : Ent} (hs : ∀ s,sn (keyV s) = true ↔ s ∈ D.map (·.1)) (s : S2) : Bool.or (sn (keyV s)) (opEv.keyEq (keyV s) (keyV e.1)) = true ↔ s ∈ (D ++ [e]).map (·.1) := by
 rw [keyD,List.map_append,List.mem_append,Bool.or_eq_true,hs]
 show _ ∨ decide (s = e.1) = true ↔ _
 simp
theorem norm_of {L D : List Ent} {sn : Value → Bool} (hD : ∀ e ∈ D,least L e.1 = some e.2) (hs : ∀ s,sn (keyV s) = true ↔ s ∈ D.map (·.1)) (w : ∀ v,keyIs kkS v = true → hasW (least L) v = true → sn v = true) (e : Ent) : e ∈ D ↔ e ∈ norm L := by
 rw [mem_norm]
 refine ⟨hD e,fun h=>?_⟩
 have h1 : sn (keyV e.1) = true := w _ rfl (by show (least L e.1).isSome = true; rw [h]; rfl)
 obtain ⟨x,hx,hxe⟩ := List.mem_map.1 ((hs e.1).1 h1)
 have h2 := hD x hx
 rw [hxe,h] at h2
 have h3 : e.2 = x.2 := Option.some.inj h2
 rwa [show e = x from Prod.ext hxe.symm h3]
theorem S56 (p : Pln) (hg : Good p) (k : Nat) (hk20 : k ≤ 20) (L : List Ent) (hL : LOk p k L) : SP 56 [planA p, mapA (least L)] (mapA (least (ext p (norm L)))) false := by
 refine sound (d := 2) tok2 mixed2 Tryz.func56 (by kernel_rfl) (by kernel_rfl) ?_
 intro w1
 (conv=>whnf); refine ⟨[],[2,5,19],fun st mq=>∃ (nl : Nat) (sn : Value → Bool) (D : List Ent),(∀ e ∈ D,least L e.1 = some e.2) ∧ (∀ s,sn (keyV s) = true ↔ s ∈ D.map (·.1)) ∧ st = ⟨[(2,.optr 0 0 0 0),(5,.omap 0),(19,.oiter 1)],⟨[⟨3,1,fun _=>planC p,0,false,true,true⟩],[⟨kkS,106,hasW (least (ext p D)),wayM (least (ext p D)),false,none,0,.top⟩,⟨kkS,106,hasW (least L),wayM (least L),false,some sn,nl,.top⟩],none,0⟩,[]⟩ ∧ mq = nl,
  ⟨_,_,⟨w1,fun _=>false,[],(fun e he=>by cases he),(fun s=>by simp),rfl,rfl⟩,⟨⟨.inl rfl,rfl,rfl,rfl⟩,⟨bA,trivial⟩,⟨⟨rfl,rfl,rfl,trivial,.inl rfl,fun v=>And.imp id Or.inr (⟨hasW_nil v,wayM_nil v⟩)⟩,⟨⟨rfl,rfl,rfl,⟨rfl,fun _=>rfl⟩,.inr rfl,fun _=>⟨rfl,.inl rfl⟩⟩,trivial⟩⟩⟩⟩,?_⟩
 rintro s0 m0 ⟨nl,sn,D,hD,hs,rfl,hmeas⟩
 refine ⟨fun w2=>?_,?_⟩
 ·conv=>whnf
  (conv=>whnf); refine ⟨?_,nofun⟩
  have hn := least_congr (ext_congr (p := p) (norm_of hD hs w2))
  rw [show least (ext p D) = least (ext p (norm L)) from funext hn]
  rfl
 ·intro a b h1 h2 n hn
  have h1 : (least L (a,b)).isSome = true := h1
  obtain ⟨w,hw⟩ := Option.isSome_iff_exists.1 h1
  have hwa : wAt L (a,b) = w := by unfold wAt; rw [hw]; rfl
  have he := hL _ (least_mem hw)
  have hat := he.1.at
  rw [← hwa] at hw he
  clear hwa
  conv=>whnf
  conv=>whnf
  (conv=>whnf); refine ⟨by assumption,?_⟩
  conv=>whnf
  conv=>whnf
  (conv=>whnf); refine ⟨[],[2,5,6,7,19,32,33,34],fun st mq=>∃ (j : Nat) (w : Way) (M : List Ent),(j ≤ (stp p (a,b)).exits.length) ∧ (least L (a,b) = some w) ∧ (M = ext p D ++ ((stp p (a,b)).exits.take j).filterMap (stepWay p ((a,b),w))) ∧ st = ⟨[(2,.optr 0 0 0 0),(5,.omap 0),(6,.optr 1 0 0 0),(7,.optr 2 0 0 0),(19,.oiter 1),(32,ints (stp p (a,b)).exits),(33,i64 (stp p (a,b)).exits.length),(34,i64 j)],⟨[⟨3,1,fun _=>planC p,0,false,true,true⟩,⟨2,1,fun _=>[i64 a,i64 b],0,false,true,true⟩,⟨2,1,fun _=>[ints w.1,i64 w.2],0,false,true,true⟩],[⟨kkS,106,hasW (least M),wayM (least M),false,none,0,.top⟩,⟨kkS,106,hasW (least L),wayM (least L),false,some (fun v=>Bool.or (sn v) (opEv.keyEq v (keyV (a,b)))),n,.top⟩],none,0⟩,[]⟩ ∧ mq = (stp p (a,b)).exits.length - j,
   ⟨_,_,⟨0,wAt L (a,b),ext p D,by omega,hw,by simp,rfl,rfl⟩,⟨⟨.inl rfl,rfl,rfl,rfl⟩,⟨bA,⟨bA,⟨bA,trivial⟩⟩⟩,⟨⟨rfl,rfl,rfl,trivial,.inl rfl,fun _=>⟨rfl,.inl rfl⟩⟩,⟨⟨rfl,rfl,rfl,⟨rfl,fun _=>rfl⟩,.inr rfl,fun _=>⟨rfl,.inl rfl⟩⟩,trivial⟩⟩⟩⟩,?_⟩
  rintro s0 m0 ⟨j,w,M,hj,hw1,hM,rfl,hmeas⟩
  have he := hL _ (least_mem hw1)
  have he1 : OkS p (a,b) := he.1
  have he2 : (stp p (a,b)).wait = 0 := he.2.1
  have he3 : w.1.length = k := he.2.2.1
  have he4 : 0 ≤ w.2 := he.2.2.2.1
  have hxl : (stp p (a,b)).exits.length ≤ 12 := hg.few.exits _ he1.k
  have he5 : w.2 ≤ 4000000 * (k : Int) := he.2.2.2.2
  by_cases hlt : j < (stp p (a,b)).exits.length
  ·have hcm : (stp p (a, b)).exits.getD j 0 ∈ (stp p (a, b)).exits := by simp [List.getD_eq_getElem?_getD, hlt]
   have hc := exit_ok hg he1 he2 (hasI_mem.2 hcm)
   have htk : (stp p (a,b)).exits.take (j + 1) = (stp p (a,b)).exits.take j ++ [(stp p (a,b)).exits.getD j 0] := by
    rw [List.take_add_one]; simp [List.getD_eq_getElem?_getD,hlt]
   have h95 := S95 p hg noF (a,b) ((stp p (a,b)).exits.getD j 0) he1 (.inr hc)
   cases hC : commandF p noF (a,b) ((stp p (a,b)).exits.getD j 0) with
   | none =>
    rw [hC] at h95
    have hsw : stepWay p ((a,b),w) ((stp p (a,b)).exits.getD j 0) = none := by unfold stepWay; rw [hC]
    conv=>whnf
    conv=>whnf
    conv=>whnf
    (conv=>whnf); refine ifB_dec (fun w2=>?_) (fun w2=>?_)
    ·conv=>whnf
     conv=>whnf
     conv=>whnf
     (conv=>whnf); refine ⟨⟨(by omega),(by omega)⟩,?_⟩
     conv=>whnf
     conv=>whnf
     conv=>whnf
     (conv=>whnf); refine .inl ⟨_,_,byX rfl (h95),?_⟩
     conv=>whnf
     conv=>whnf
     conv=>whnf
     (conv=>whnf); refine ⟨inK64 (by omega) (by omega),?_⟩
     conv=>whnf
     conv=>whnf
     conv=>whnf
     (conv=>whnf); refine ⟨_,_,⟨⟨j + 1,w,M,by omega,hw1,(by rw [htk,List.filterMap_append,hM]; simp only [List.filterMap_cons,List.filterMap_nil,hsw,List.append_nil]),rfl,rfl⟩,by omega⟩,⟨⟨.inl rfl,rfl,rfl,rfl⟩,⟨bA,⟨bA,⟨bA,trivial⟩⟩⟩,⟨⟨rfl,rfl,rfl,trivial,.inl rfl,fun _=>⟨rfl,.inl rfl⟩⟩,⟨⟨rfl,rfl,rfl,⟨rfl,fun _=>rfl⟩,.inr rfl,fun _=>⟨rfl,.inl rfl⟩⟩,trivial⟩⟩⟩⟩
    ·(exfalso; omega)
   | some r =>
    rw [hC] at h95
    have hok := command_ok hg he1 (.inr hc) hC
    have hl0 : 0 < r.1.length := List.length_pos_iff.2 hok.ne
    have ht1 := hok.t1
    have ht2 := hok.t2
    have hlen := hok.len
    have hX : r.1.getD ((r.1.length : Int) - 1).toNat (0,0) = lastOf r.1 := by
     rw [show ((r.1.length : Int) - 1).toNat = r.1.length - 1 by omega]; exact lastOf_get hok.ne
    have hsw : stepWay p ((a,b),w) ((stp p (a,b)).exits.getD j 0) = some (r.1.getD ((r.1.length : Int) - 1).toNat (0,0),(w.1 ++ [(stp p (a,b)).exits.getD j 0],w.2 + r.2)) := by unfold stepWay; rw [hC,hX]
    have hM' : M ++ [(r.1.getD ((r.1.length : Int) - 1).toNat (0,0),(w.1 ++ [(stp p (a,b)).exits.getD j 0],w.2 + r.2))] = ext p D ++ ((stp p (a,b)).exits.take (j + 1)).filterMap (stepWay p ((a,b),w)) := by
     rw [htk,List.filterMap_append,hM,List.append_assoc]; simp only [List.filterMap_cons,List.filterMap_nil,hsw]
    have hget : ∀ s,((least M s).getD ([],0)).1.length ≤ 1000 := fun s=>by
     cases hv : least M s with
     | none=>simp
     | some v =>
      have hm := least_mem hv
      rw [hM] at hm
      have h1 : v.1.length = k + 1 := by
       rcases List.mem_append.1 hm with hm | hm
       ·exact (ext_ok hg (L := D) (fun x hx=>hL x (least_mem (hD x hx))) _ hm).2.2.1
       ·obtain ⟨c',hc',hm⟩ := List.mem_filterMap.1 hm
        exact (stepWay_ok hg he (List.mem_of_mem_take hc') hm).2.2.1
      show v.1.length ≤ 1000
      omega
    have h71 := fun s=>@S55n (w.1 ++ [(stp p (a,b)).exits.getD j 0],w.2 + r.2) ((least M s).getD ([],0)) (by simp; omega) (hget s)
    conv=>whnf
    conv=>whnf
    conv=>whnf
    (conv=>whnf); refine ifB_dec (fun w2=>?_) (fun w2=>?_)
    ·conv=>whnf
     conv=>whnf
     conv=>whnf
     (conv=>whnf); refine ⟨⟨(by omega),(by omega)⟩,?_⟩
     conv=>whnf
     conv=>whnf
     conv=>whnf
     (conv=>whnf); refine .inl ⟨_,_,byX rfl (h95),?_⟩
     conv=>whnf
     conv=>whnf
     conv=>whnf
     (conv=>whnf); refine ⟨inK64 (by omega) (by omega),?_⟩
     conv=>whnf
     conv=>whnf
     conv=>whnf
     (conv=>whnf); refine ⟨⟨(by omega),(by omega)⟩,?_⟩
     conv=>whnf
     conv=>whnf
     conv=>whnf
     (conv=>whnf); refine ⟨[(11,1000000),(0,1000000),(1,1000000),(2,1000000),(3,1000000),(4,1000000),(6,1000000),(7,1000000),(8,1000000),(9,1000000),(5,1000000),(10,1000000),(12,1000000),(0,10),(6,10),(7,10)],by kernel_rfl,?_⟩
     conv=>whnf
     conv=>whnf
     conv=>whnf
     (conv=>whnf); refine .inl ⟨_,_,byX rfl (S96 _ (by omega)),?_⟩
     conv=>whnf
     conv=>whnf
     conv=>whnf
     (conv=>whnf); refine ⟨inK64 (by omega) (by omega),?_⟩
     conv=>whnf
     conv=>whnf
     conv=>whnf
     (conv=>whnf); refine .inl ?_
     conv=>whnf
     conv=>whnf
     conv=>whnf
     (conv=>whnf); refine ⟨(by show _ * (8 + 1) ≤ _; omega),?_⟩
     conv=>whnf
     conv=>whnf
     conv=>whnf
     (conv=>whnf); refine ifB_not ?_
     conv=>whnf
     conv=>whnf
     conv=>whnf
     (conv=>whnf); refine ifB_intro (fun w3=>?_) (fun w3=>?_)
     ·conv=>whnf
      conv=>whnf
      conv=>whnf
      (conv=>whnf); refine .inl ⟨_,_,byX rfl (Sound1.pl (h71 _ ?_ ?_) rfl),?_⟩
      ·simp
      ·exact fun i hi=>app_row _ _ i hi
      ·conv=>whnf
       conv=>whnf
       conv=>whnf
       (conv=>whnf); refine ifB_dec (fun w4=>?_) (fun w4=>?_)
       ·conv=>whnf
        conv=>whnf
        conv=>whnf
        (conv=>whnf); refine ⟨inK64 (by omega) (by omega),?_⟩
        have hb : better (least M (r.1.getD ((r.1.length : Int) - 1).toNat (0,0))) (w.1 ++ [(stp p (a,b)).exits.getD j 0],w.2 + r.2) = some (w.1 ++ [(stp p (a,b)).exits.getD j 0],w.2 + r.2) := by
         obtain ⟨v,hv⟩ := Option.isSome_iff_exists.1 (show (least M (r.1.getD ((r.1.length : Int) - 1).toNat (0,0))).isSome = true from w3)
         have w4 : wlt (w.1 ++ [(stp p (a,b)).exits.getD j 0],w.2 + r.2) ((least M (r.1.getD ((r.1.length : Int) - 1).toNat (0,0))).getD ([],0)) = true := decide_eq_true w4
         rw [hv] at w4 ⊢
         exact if_pos w4
        conv=>whnf
        conv=>whnf
        conv=>whnf
        (conv=>whnf); refine ⟨_,_,⟨⟨j + 1,w,M ++ [(r.1.getD ((r.1.length : Int) - 1).toNat (0,0),(w.1 ++ [(stp p (a,b)).exits.getD j 0],w.2 + r.2))],by omega,hw1,hM',rfl,rfl⟩,by omega⟩,⟨⟨.inl rfl,rfl,rfl,rfl⟩,⟨bA,⟨bA,⟨bA,trivial⟩⟩⟩,⟨⟨rfl,rfl,rfl,trivial,.inl rfl,fun v=>And.imp id Or.inr (⟨(hasW_put M _ _ v).symm,wayM_put M _ _ hb (way_ave (by simp) fun i hi=>app_row _ _ i hi) v⟩)⟩,⟨⟨rfl,rfl,rfl,⟨rfl,fun _=>rfl⟩,.inr rfl,fun _=>⟨rfl,.inl rfl⟩⟩,trivial⟩⟩⟩⟩
       ·conv=>whnf
        conv=>whnf
        conv=>whnf
        (conv=>whnf); refine ⟨inK64 (by omega) (by omega),?_⟩
        have hsm := hasW_same M (r.1.getD ((r.1.length : Int) - 1).toNat (0,0)) (w.1 ++ [(stp p (a,b)).exits.getD j 0],w.2 + r.2) ((least M (r.1.getD ((r.1.length : Int) - 1).toNat (0,0))).getD ([],0)) (by
         obtain ⟨v,hv⟩ := Option.isSome_iff_exists.1 (show (least M (r.1.getD ((r.1.length : Int) - 1).toNat (0,0))).isSome = true from w3)
         rw [hv]; rfl) (decide_eq_false w4)
        conv=>whnf
        conv=>whnf
        conv=>whnf
        (conv=>whnf); refine ⟨_,_,⟨⟨j + 1,w,M ++ [(r.1.getD ((r.1.length : Int) - 1).toNat (0,0),(w.1 ++ [(stp p (a,b)).exits.getD j 0],w.2 + r.2))],by omega,hw1,hM',rfl,rfl⟩,by omega⟩,⟨⟨.inl rfl,rfl,rfl,rfl⟩,⟨bA,⟨bA,⟨bA,trivial⟩⟩⟩,⟨⟨rfl,rfl,rfl,trivial,.inl rfl,fun v=>And.imp id Or.inl (⟨congrArg (fun B=>hasW B v) hsm,congrArg (fun B=>wayM B v) hsm⟩)⟩,⟨⟨rfl,rfl,rfl,⟨rfl,fun _=>rfl⟩,.inr rfl,fun _=>⟨rfl,.inl rfl⟩⟩,trivial⟩⟩⟩⟩
     ·conv=>whnf
      conv=>whnf
      conv=>whnf
      (conv=>whnf); refine ⟨inK64 (by omega) (by omega),?_⟩
      have hb : better (least M (r.1.getD ((r.1.length : Int) - 1).toNat (0,0))) (w.1 ++ [(stp p (a,b)).exits.getD j 0],w.2 + r.2) = some (w.1 ++ [(stp p (a,b)).exits.getD j 0],w.2 + r.2) := by
       rw [show least M (r.1.getD ((r.1.length : Int) - 1).toNat (0,0)) = none from Option.isSome_eq_false_iff.1 w3 |> Option.isNone_iff_eq_none.1]; rfl
      conv=>whnf
      conv=>whnf
      conv=>whnf
      (conv=>whnf); refine ⟨_,_,⟨⟨j + 1,w,M ++ [(r.1.getD ((r.1.length : Int) - 1).toNat (0,0),(w.1 ++ [(stp p (a,b)).exits.getD j 0],w.2 + r.2))],by omega,hw1,hM',rfl,rfl⟩,by omega⟩,⟨⟨.inl rfl,rfl,rfl,rfl⟩,⟨bA,⟨bA,⟨bA,trivial⟩⟩⟩,⟨⟨rfl,rfl,rfl,trivial,.inl rfl,fun v=>And.imp id Or.inr (⟨(hasW_put M _ _ v).symm,wayM_put M _ _ hb (way_ave (by simp) fun i hi=>app_row _ _ i hi) v⟩)⟩,⟨⟨rfl,rfl,rfl,⟨rfl,fun _=>rfl⟩,.inr rfl,fun _=>⟨rfl,.inl rfl⟩⟩,trivial⟩⟩⟩⟩
    ·(exfalso; omega)
  ·have hn : nl = n + 1 := hn
   have hMe : M = ext p (D ++ [((a,b),w)]) := by
    rw [hM,ext_snoc,List.take_of_length_le (by omega)]; rfl
   subst hMe
   conv=>whnf
   conv=>whnf
   conv=>whnf
   (conv=>whnf); refine ifB_dec (fun w2=>?_) (fun w2=>?_)
   ·(exfalso; omega)
   ·conv=>whnf
    conv=>whnf
    conv=>whnf
    (conv=>whnf); refine ⟨_,_,⟨⟨n,fun v=>Bool.or (sn v) (opEv.keyEq v (keyV (a,b))),D ++ [((a,b),w)],(fun e he=>(List.mem_append.1 he).elim (hD e) fun h=>by rw [List.mem_singleton.1 h]; exact hw1),seen_put (e := ((a,b),w)) hs,rfl,rfl⟩,by omega⟩,⟨⟨.inl rfl,rfl,rfl,rfl⟩,⟨bA,trivial⟩,⟨⟨rfl,rfl,rfl,trivial,.inl rfl,fun _=>⟨rfl,.inl rfl⟩⟩,⟨⟨rfl,rfl,rfl,⟨rfl,fun _=>rfl⟩,.inr rfl,fun _=>⟨rfl,.inl rfl⟩⟩,trivial⟩⟩⟩⟩
end Go.Tr

/- Contracts of chapter 7: the fastest way. Conditions: none. -/
namespace Go.Tr
open Go Go.Proofs
set_option maxRecDepth 20000
set_option maxHeartbeats 8000000

def layer (p : Pln) (s : S2) : Nat → List Ent
  | 0=>[(s,([],0))]
  | k + 1=>ext p (norm (layer p s k))
def toW (to : Int) (D : List Ent) : List Way := (D.filter fun e=>e.1.1 = to).map (·.2)
def hereW (p : Pln) (s : S2) (to : Int) (k : Nat) : Option Way := minL (toW to (norm (layer p s k)))
def upB (b h : Option Way) : Option Way := match h with | none=>b | some h=>match b with | none=>some h | some b=>if h.2 < b.2 then some h else some b
def bestW (p : Pln) (s : S2) (to : Int) : Nat → Option Way
  | 0=>none
  | k + 1=>upB (bestW p s to k) (hereW p s to k)
theorem toW_snoc (to : Int) (D : List Ent) (e : Ent) : toW to (D ++ [e]) = toW to D ++ if e.1.1 = to then [e.2] else [] := by
 unfold toW
 rw [List.filter_append,List.map_append]
 by_cases h : e.1.1 = to <;> simp [h]
theorem layer_ok {p : Pln} (hg : Good p) {s : S2} (hs : OkS p s) (hw : (stp p s).wait = 0) : ∀ k,LOk p k (layer p s k)
 | 0=>fun e he=>by
  rw [show e = (s,([],0)) from List.mem_singleton.1 he]
  exact ⟨hs,hw,rfl,Int.le_refl 0,Int.le_refl 0⟩
 | k + 1=>ext_ok hg (norm_ok (layer_ok hg hs hw k))
def optA (o : Option Way) : Way := o.getD ([],0)
theorem hasW_one (s : S2) (v : Value) : hasW (least [(s,([],0))]) v = Bool.or false (opEv.keyEq v (keyV s)) := by
  rw [show ([(s,([],0))] : List Ent) = [] ++ [(s,([],0))] from rfl,← hasW_put,hasW_nil]
theorem wayM_one (s : S2) (v : Value) : AVE 5 (bif opEv.keyEq v (keyV s) then .agg [.eslice,i64 0] else .agg [.eslice,i64 0]) (wayM (least [(s,([],0))]) v) := by
 rw [show (bif opEv.keyEq v (keyV s) then (.agg [.eslice,i64 0] : AV) else .agg [.eslice,i64 0]) = .agg [.eslice,i64 0] by cases opEv.keyEq v (keyV s) <;> rfl]
 unfold wayM
 cases decS v with
 | none=>exact ave_agg2 (k := 4) rfl rfl
 | some x =>
  show AVE 5 _ (wayA ((least [(s,([],0))] x).getD ([],0)))
  rw [show ([(s,([],0))] : List Ent) = [] ++ [(s,([],0))] from rfl,least_snoc]
  split <;> exact ave_agg2 (k := 4) rfl rfl
def fastE (p : Pln) (s : S2) (to : Int) : Int :=
  if openE p s noF ≠ 0 then openE p s noF else if idxE p.steps.length to ≠ 0 then idxE p.steps.length to
  else if (stp p s).wait = 0 ∧ (p.steps.getD to.toNat stp0).wait = 0 then 0 else 20
def fastR (p : Pln) (s : S2) (to : Int) : AV :=
  if fastE p s to ≠ 0 then .tuple [ints [],i64 0,i64 (fastE p s to)]
  else match bestW p s to 11 with | none=>.tuple [ints [],i64 0,i64 12] | some w=>.tuple [ints w.1,i64 w.2,i64 0]
theorem open_ok {p : Pln} (hp : FewP p) {s : S2} {f : Int × Bool} (h : openE p s f = 0) : Good p ∧ OkS p s ∧ OkF p f := by
 unfold openE at h
 split at h
 ·rename_i h0
  rw [first2_iff] at h
  exact ⟨Good.of hp h0,state_ok.1 h.1,fault_ok h.2⟩
 ·rename_i h0; exact absurd h h0
theorem fast_bad {e : Int} {p : Pln} {s : S2} {to : Int} (h : fastE p s to = e) (h0 : e ≠ 0) : AVE 5 (.tuple [.eslice,i64 0,i64 e]) (fastR p s to) := by
 unfold fastR
 rw [h,if_pos h0]
 exact ave_tup3 rfl rfl rfl
theorem row_zero : RowLe true [.eslice,i64 0] [ints [],i64 0] := by
 refine ⟨rfl,rfl,fun j x y hx hy=>?_⟩
 match j,hx,hy with
 | 0,hx,hy=>cases hx; cases hy; exact .inr rfl
 | 1,hx,hy=>cases hx; cases hy; exact .inl rfl
theorem toW_congr {to : Int} {D E : List Ent} (h : ∀ e,e ∈ D ↔ e ∈ E) : minL (toW to D) = minL (toW to E) := minL_congr fun w=>by
  unfold toW
  simp only [List.mem_map,List.mem_filter,h]
theorem S23 (p : Pln) (hp : FewP p) (s : S2) (to : Int) : SP 23 [planA p, stA s, i64 to] (fastR p s to) false := by
 have h67 := S48 p hp s noF
 have h68 := fun h=>@S53_1 p h to
 rw [idxs1] at h68
 by_cases h1 : openE p s noF = 0
 ·obtain ⟨hg, hs, hf⟩ := open_ok hp h1
  by_cases h2 : idxE p.steps.length to = 0
  ·have hto := inX_iff.1 (idxE0 h2)
   have hat := hs.at
   rw [h1] at h67
   rw [h2] at h68
   have h70s := S54 (stp p s)
   have h70t := S54 (p.steps.getD to.toNat stp0)
   have hm := hg.m
   have h68 := fun {f : Nat → List AV}=>@h68 (by omega) f
   refine sound (d := 2) tok2 mixed2 Tryz.func23 (by kernel_rfl) (by kernel_rfl) ?_
   (conv=>whnf); refine .inl ⟨_,_,byX rfl (h67),?_⟩
   (conv=>whnf); refine .inl ⟨_,_,byX rfl (Sound1.pl (h68 rfl) rfl),?_⟩
   (conv=>whnf); refine ⟨⟨(by omega),(by omega)⟩,?_⟩
   (conv=>whnf); refine .inl ⟨_,_,byX rfl (Sound1.pl (h70s) rfl),?_⟩
   (conv=>whnf); refine ifB_dec (fun w1=>?_) (fun w1=>?_)
   ·(conv => whnf); refine ⟨⟨(by omega), (by omega)⟩, ?_⟩
    (conv=>whnf); refine .inl ⟨_,_,byX rfl (Sound1.pl (h70t) rfl),?_⟩
    (conv=>whnf); refine .inl ⟨_,_,byX rfl (Sound1.pl (S49 _ _) rfl),?_⟩
    (conv=>whnf); refine ifB_bne (fun w2=>?_) (fun w2=>?_)
    ·(conv=>whnf); refine ⟨?_,nofun⟩
     have hE : fastE p s to = 20 := by
      unfold fastE
      rw [if_neg (not_not_intro h1),if_neg (not_not_intro h2),if_neg]
      intro h
      rw [decide_eq_true h.2] at w2
      exact w2 rfl
     rw [show (if decide ((p.steps.getD to.toNat stp0).wait = 0) = true then (0 : Int) else 20) = 20 by split <;> simp_all]
     exact fast_bad hE (by decide)
    ·have hwt : (p.steps.getD to.toNat stp0).wait = 0 := by
      by_cases h : (p.steps.getD to.toNat stp0).wait = 0
      ·exact h
      ·rw [decide_eq_false h] at w2; cases w2
     have hE : fastE p s to = 0 := by
      unfold fastE
      rw [if_neg (not_not_intro h1),if_neg (not_not_intro h2),if_pos ⟨w1,hwt⟩]
     (conv=>whnf); refine ⟨[.freeze 13],[2,9,11,12,13,58],fun st mq=>∃ (k : Nat) (B : Option Way) (L : List Ent) (H0 : Value → Bool) (G0 : Value → AV) (F0 : Nat → List AV) (F1 : Nat → List AV) (F3 : Nat → List AV),(k ≤ 11) ∧ (L = layer p s k) ∧ (B = bestW p s to k) ∧ st = ⟨[(2,i64 to),(9,.optr 2 0 0 0),(11,.optr 4 0 0 0),(12,vb B.isSome),(13,mapA (least L)),(58,i64 k)],⟨[⟨3,1,F0,0,false,true,false⟩,⟨2,1,F1,0,false,true,false⟩,⟨3,1,fun _=>planC p,0,false,true,true⟩,⟨1,1,F3,0,false,true,false⟩,⟨2,1,fun _=>[ints (optA B).1,i64 (optA B).2],0,false,true,true⟩],[⟨kkS,106,H0,G0,true,none,0,.top⟩],none,0⟩,[]⟩ ∧ mq = 11 - k,
      ⟨_,_,⟨0,none,[(s,([],0))],_,_,_,_,_,by omega,rfl,rfl,rfl,rfl⟩,⟨⟨.inr ⟨rfl,.inl rfl,⟨rfl,.inl rfl,⟨rfl,.inl rfl,⟨rfl,.inl rfl,⟨rfl,.inr (⟨rfl,rfl,fun k=>⟨hasW_one s k,.inr (wayM_one s k)⟩⟩),⟨rfl,.inl rfl,trivial⟩⟩⟩⟩⟩⟩,rfl,rfl,rfl⟩,⟨bA,⟨bA,⟨bA,⟨bA,⟨⟨rfl,rfl,rfl,rfl,fun _=>rfl,fun _ _=>.inr (row_zero)⟩,trivial⟩⟩⟩⟩⟩,⟨⟨rfl,rfl,rfl,trivial,.inl rfl,fun _=>⟨rfl,.inl rfl⟩⟩,trivial⟩⟩⟩,?_⟩
     rintro s0 m0 ⟨k,B,L,H0,G0,F0,F1,F3,hk,hL,hB,rfl,hmeas⟩
     have hLo : LOk p k L := by rw [hL]; exact layer_ok hg hs w1 k
     have h72 := S56 p hg k (by omega) L hLo
     conv=>whnf
     (conv=>whnf); refine ifB_dec (fun w3=>?_) (fun w3=>?_)
     ·intro w4
      conv=>whnf
      (conv=>whnf); refine ⟨[],[2,9,11,12,13,14,15,58,61],fun st mq=>∃ (nl : Nat) (sn : Value → Bool) (D : List Ent) (hv : Option Way) (F0 : Nat → List AV) (F1 : Nat → List AV) (F3 : Nat → List AV),(∀ e ∈ D,least L e.1 = some e.2) ∧ (∀ s,sn (keyV s) = true ↔ s ∈ D.map (·.1)) ∧ (hv = minL (toW to D)) ∧ st = ⟨[(2,i64 to),(9,.optr 2 0 0 0),(11,.optr 4 0 0 0),(12,vb B.isSome),(13,mapA (least L)),(14,.optr 5 0 0 0),(15,vb hv.isSome),(58,i64 k),(61,.oiter 1)],⟨[⟨3,1,F0,0,false,true,false⟩,⟨2,1,F1,0,false,true,false⟩,⟨3,1,fun _=>planC p,0,false,true,true⟩,⟨1,1,F3,0,false,true,false⟩,⟨2,1,fun _=>[ints (optA B).1,i64 (optA B).2],0,false,true,true⟩,⟨2,1,fun _=>[ints (optA hv).1,i64 (optA hv).2],0,false,true,true⟩],[⟨kkS,106,H0,G0,true,none,0,.top⟩,⟨kkS,106,hasW (least L),wayM (least L),false,some sn,nl,.top⟩],none,0⟩,[]⟩ ∧ mq = nl,
       ⟨_,_,⟨w4,fun _=>false,[],none,_,_,_,(fun e he=>by cases he),(fun s=>by simp),rfl,rfl,rfl⟩,⟨⟨.inl rfl,rfl,rfl,rfl⟩,⟨bA,⟨bA,⟨bA,⟨bA,⟨bA,⟨⟨rfl,rfl,rfl,rfl,fun _=>rfl,fun _ _=>.inr (row_zero)⟩,trivial⟩⟩⟩⟩⟩⟩,⟨⟨rfl,rfl,rfl,trivial,.inl rfl,fun _=>⟨rfl,.inl rfl⟩⟩,⟨⟨rfl,rfl,rfl,⟨rfl,fun _=>rfl⟩,.inr rfl,fun _=>⟨rfl,.inl rfl⟩⟩,trivial⟩⟩⟩⟩,?_⟩
      rintro s0 m0 ⟨nl,sn,D,hv,F0,F1,F3,hD,hs2,hh,rfl,hmeas⟩
      have hlh : (optA hv).1.length ≤ 1000 := by
       cases hv with
       | none=>exact Nat.zero_le _
       | some v =>
        have hm := (minL_some.1 hh.symm).1
        obtain ⟨e,he,h⟩ := List.mem_map.1 hm
        have := (hLo _ (least_mem (hD e (List.mem_filter.1 he).1))).2.2.1
        rw [h] at this
        show v.1.length ≤ 1000
        omega
      have hend : (∀ v,keyIs kkS v = true → hasW (least L) v = true → sn v = true) → hv = hereW p s to k := fun h=>by
       rw [hh,hereW,← hL]
       exact toW_congr (norm_of hD hs2 h)
      have hnx : ext p (norm L) = layer p s (k + 1) := by rw [hL]; rfl
      refine ⟨fun w5=>?_,?_⟩
      ·conv => whnf
       conv=>whnf
       (conv=>whnf); refine ifB_intro (fun w6=>?_) (fun w6=>?_)
       ·conv=>whnf
        conv=>whnf
        (conv=>whnf); refine ifB_not ?_
        conv=>whnf
        conv=>whnf
        (conv=>whnf); refine ifB_intro (fun w7=>?_) (fun w7=>?_)
        ·conv=>whnf
         conv=>whnf
         (conv=>whnf); refine ifB_dec (fun w8=>?_) (fun w8=>?_)
         ·conv=>whnf
          conv=>whnf
          (conv=>whnf); refine .inl ⟨_,_,byX rfl (h72),?_⟩
          conv=>whnf
          conv=>whnf
          (conv=>whnf); refine ⟨inK64 (by omega) (by omega),?_⟩
          have hH := hend w5
          cases hv with
          | none=>exact absurd w6 nofun
          | some v =>
           cases B with
           | none=>exact absurd w7 nofun
           | some b0 =>
            conv=>whnf
            conv=>whnf
            (conv=>whnf); refine ⟨_,_,⟨⟨k + 1,some v,ext p (norm L),H0,G0,_,_,_,by omega,hnx,(by unfold bestW; rw [← hB,← hH]; exact (if_pos w8).symm),rfl,rfl⟩,by omega⟩,⟨⟨.inl rfl,rfl,rfl,rfl⟩,⟨bA,⟨bA,⟨bA,⟨bA,⟨bA,trivial⟩⟩⟩⟩⟩,⟨⟨rfl,rfl,rfl,trivial,.inl rfl,fun _=>⟨rfl,.inl rfl⟩⟩,trivial⟩⟩⟩
         ·conv=>whnf
          conv=>whnf
          (conv=>whnf); refine .inl ⟨_,_,byX rfl (h72),?_⟩
          conv=>whnf
          conv=>whnf
          (conv=>whnf); refine ⟨inK64 (by omega) (by omega),?_⟩
          have hH := hend w5
          cases hv with
          | none=>exact absurd w6 nofun
          | some v =>
           cases B with
           | none=>exact absurd w7 nofun
           | some b0 =>
            conv=>whnf
            conv=>whnf
            (conv=>whnf); refine ⟨_,_,⟨⟨k + 1,some b0,ext p (norm L),H0,G0,_,_,_,by omega,hnx,(by unfold bestW; rw [← hB,← hH]; exact (if_neg w8).symm),rfl,rfl⟩,by omega⟩,⟨⟨.inl rfl,rfl,rfl,rfl⟩,⟨bA,⟨bA,⟨bA,⟨bA,⟨bA,trivial⟩⟩⟩⟩⟩,⟨⟨rfl,rfl,rfl,trivial,.inl rfl,fun _=>⟨rfl,.inl rfl⟩⟩,trivial⟩⟩⟩
        ·conv=>whnf
         conv=>whnf
         (conv=>whnf); refine .inl ⟨_,_,byX rfl (h72),?_⟩
         conv=>whnf
         conv=>whnf
         (conv=>whnf); refine ⟨inK64 (by omega) (by omega),?_⟩
         have hH := hend w5
         cases hv with
         | none=>exact absurd w6 nofun
         | some v =>
          cases B with
          | some b0=>exact absurd w7 nofun
          | none =>
           conv=>whnf
           conv=>whnf
           (conv=>whnf); refine ⟨_,_,⟨⟨k + 1,some v,ext p (norm L),H0,G0,_,_,_,by omega,hnx,(by unfold bestW; rw [← hB,← hH]; rfl),rfl,rfl⟩,by omega⟩,⟨⟨.inl rfl,rfl,rfl,rfl⟩,⟨bA,⟨bA,⟨bA,⟨bA,⟨bA,trivial⟩⟩⟩⟩⟩,⟨⟨rfl,rfl,rfl,trivial,.inl rfl,fun _=>⟨rfl,.inl rfl⟩⟩,trivial⟩⟩⟩
       ·conv=>whnf
        conv=>whnf
        (conv=>whnf); refine .inl ⟨_,_,byX rfl (h72),?_⟩
        conv=>whnf
        conv=>whnf
        (conv=>whnf); refine ⟨inK64 (by omega) (by omega),?_⟩
        have hH := hend w5
        cases hv with
        | some v=>exact absurd w6 nofun
        | none =>
         conv=>whnf
         conv=>whnf
         (conv=>whnf); refine ⟨_,_,⟨⟨k + 1,B,ext p (norm L),H0,G0,_,_,_,by omega,hnx,(by unfold bestW; rw [← hB,← hH]; rfl),rfl,rfl⟩,by omega⟩,⟨⟨.inl rfl,rfl,rfl,rfl⟩,⟨bA,⟨bA,⟨bA,⟨bA,⟨bA,trivial⟩⟩⟩⟩⟩,⟨⟨rfl,rfl,rfl,trivial,.inl rfl,fun _=>⟨rfl,.inl rfl⟩⟩,trivial⟩⟩⟩
      ·intro a b g1 g2 n gn
       have g1 : (least L (a,b)).isSome = true := g1
       obtain ⟨w,hw⟩ := Option.isSome_iff_exists.1 g1
       have hwa : wAt L (a,b) = w := by unfold wAt; rw [hw]; rfl
       have he := (hLo _ (least_mem hw)).2.2.1
       rw [← hwa] at hw he
       clear hwa
       have h71 := S55 (wAt L (a,b)) (optA hv) (by show (wAt L (a,b)).1.length ≤ 1000; have : (wAt L (a,b)).1.length = k := he; omega) hlh
       have hD' : ∀ e ∈ D ++ [((a,b),wAt L (a,b))],least L e.1 = some e.2 := fun e he=>(List.mem_append.1 he).elim (hD e) fun h=>by rw [List.mem_singleton.1 h]; exact hw
       have gn : nl = n + 1 := gn
       conv=>whnf
       conv=>whnf
       conv=>whnf
       (conv=>whnf); refine ifB_beq (fun w5=>?_) (fun w5=>?_)
       ·conv=>whnf
        conv=>whnf
        conv=>whnf
        (conv=>whnf); refine ifB_not ?_
        conv=>whnf
        conv=>whnf
        conv=>whnf
        (conv=>whnf); refine ifB_intro (fun w6=>?_) (fun w6=>?_)
        ·conv=>whnf
         conv=>whnf
         conv=>whnf
         (conv=>whnf); refine .inl ⟨_,_,byX rfl (Sound1.pl (h71) rfl),?_⟩
         conv=>whnf
         conv=>whnf
         conv=>whnf
         (conv=>whnf); refine ifB_dec (fun w7=>?_) (fun w7=>?_)
         ·have hq : some (wAt L (a,b)) = minL (toW to (D ++ [((a,b),wAt L (a,b))])) := by
           rw [toW_snoc,if_pos w5,minL_snoc,← hh]
           cases hv with
           | none=>exact absurd w6 nofun
           | some v=>exact (if_pos (decide_eq_true w7)).symm
          conv=>whnf
          conv=>whnf
          conv=>whnf
          (conv=>whnf); refine ⟨_,_,⟨⟨n,fun v=>Bool.or (sn v) (opEv.keyEq v (keyV (a,b))),D ++ [((a,b),wAt L (a,b))],some (wAt L (a,b)),_,_,_,hD',seen_put (e := ((a,b),wAt L (a,b))) hs2,hq,rfl,rfl⟩,by omega⟩,⟨⟨.inl rfl,rfl,rfl,rfl⟩,⟨bA,⟨bA,⟨bA,⟨bA,⟨bA,⟨bA,trivial⟩⟩⟩⟩⟩⟩,⟨⟨rfl,rfl,rfl,trivial,.inl rfl,fun _=>⟨rfl,.inl rfl⟩⟩,⟨⟨rfl,rfl,rfl,⟨rfl,fun _=>rfl⟩,.inr rfl,fun _=>⟨rfl,.inl rfl⟩⟩,trivial⟩⟩⟩⟩
         ·have hq : hv = minL (toW to (D ++ [((a,b),wAt L (a,b))])) := by
           rw [toW_snoc,if_pos w5,minL_snoc,← hh]
           cases hv with
           | none=>exact absurd w6 nofun
           | some v=>exact (if_neg (by rw [show wlt (wAt L (a,b)) v = false from decide_eq_false w7]; nofun)).symm
          conv=>whnf
          conv=>whnf
          conv=>whnf
          (conv=>whnf); refine ⟨_,_,⟨⟨n,fun v=>Bool.or (sn v) (opEv.keyEq v (keyV (a,b))),D ++ [((a,b),wAt L (a,b))],hv,_,_,_,hD',seen_put (e := ((a,b),wAt L (a,b))) hs2,hq,rfl,rfl⟩,by omega⟩,⟨⟨.inl rfl,rfl,rfl,rfl⟩,⟨bA,⟨bA,⟨bA,⟨bA,⟨bA,⟨bA,trivial⟩⟩⟩⟩⟩⟩,⟨⟨rfl,rfl,rfl,trivial,.inl rfl,fun _=>⟨rfl,.inl rfl⟩⟩,⟨⟨rfl,rfl,rfl,⟨rfl,fun _=>rfl⟩,.inr rfl,fun _=>⟨rfl,.inl rfl⟩⟩,trivial⟩⟩⟩⟩
        ·have hq : some (wAt L (a,b)) = minL (toW to (D ++ [((a,b),wAt L (a,b))])) := by
          rw [toW_snoc,if_pos w5,minL_snoc,← hh]
          cases hv with
          | none=>rfl
          | some v=>exact absurd w6 nofun
         conv=>whnf
         conv=>whnf
         conv=>whnf
         (conv=>whnf); refine ⟨_,_,⟨⟨n,fun v=>Bool.or (sn v) (opEv.keyEq v (keyV (a,b))),D ++ [((a,b),wAt L (a,b))],some (wAt L (a,b)),_,_,_,hD',seen_put (e := ((a,b),wAt L (a,b))) hs2,hq,rfl,rfl⟩,by omega⟩,⟨⟨.inl rfl,rfl,rfl,rfl⟩,⟨bA,⟨bA,⟨bA,⟨bA,⟨bA,⟨bA,trivial⟩⟩⟩⟩⟩⟩,⟨⟨rfl,rfl,rfl,trivial,.inl rfl,fun _=>⟨rfl,.inl rfl⟩⟩,⟨⟨rfl,rfl,rfl,⟨rfl,fun _=>rfl⟩,.inr rfl,fun _=>⟨rfl,.inl rfl⟩⟩,trivial⟩⟩⟩⟩
       ·have hq : hv = minL (toW to (D ++ [((a,b),wAt L (a,b))])) := by
         rw [toW_snoc,if_neg w5,List.append_nil]; exact hh
        conv=>whnf
        conv=>whnf
        conv=>whnf
        (conv=>whnf); refine ⟨_,_,⟨⟨n,fun v=>Bool.or (sn v) (opEv.keyEq v (keyV (a,b))),D ++ [((a,b),wAt L (a,b))],hv,_,_,_,hD',seen_put (e := ((a,b),wAt L (a,b))) hs2,hq,rfl,rfl⟩,by omega⟩,⟨⟨.inl rfl,rfl,rfl,rfl⟩,⟨bA,⟨bA,⟨bA,⟨bA,⟨bA,⟨bA,trivial⟩⟩⟩⟩⟩⟩,⟨⟨rfl,rfl,rfl,trivial,.inl rfl,fun _=>⟨rfl,.inl rfl⟩⟩,⟨⟨rfl,rfl,rfl,⟨rfl,fun _=>rfl⟩,.inr rfl,fun _=>⟨rfl,.inl rfl⟩⟩,trivial⟩⟩⟩⟩
     ·conv=>whnf
      (conv=>whnf); refine ⟨[],by kernel_rfl,?_⟩
      conv=>whnf
      (conv=>whnf); refine .inl ⟨_,_,byX rfl (Sound1.pl (S49 _ _) rfl),?_⟩
      conv=>whnf
      (conv=>whnf); refine ⟨?_,nofun⟩
      have hk11 : k = 11 := by omega
      subst hk11
      unfold fastR
      rw [if_neg (not_not_intro hE),← hB]
      cases B with
      | none=>exact ave_tup3 ⟨rfl,rfl,fun _ _=>rfl⟩ rfl rfl
      | some v=>exact ave_tup3 ⟨rfl,rfl,fun _ _=>rfl⟩ rfl rfl
   ·(conv=>whnf); refine .inl ⟨_,_,byX rfl (Sound1.pl (S49 _ _) rfl),?_⟩
    (conv=>whnf); refine ⟨?_,nofun⟩
    have hE : fastE p s to = 20 := by
     unfold fastE
     rw [if_neg (not_not_intro h1),if_neg (not_not_intro h2),if_neg (fun h=>w1 h.1)]
    exact fast_bad hE (by decide)
  ·have hE : fastE p s to = idxE p.steps.length to := by unfold fastE; rw [if_neg (not_not_intro h1),if_pos h2]
   rw [h1] at h67
   have hm := hg.m
   have h68 := fun {f : Nat → List AV}=>@h68 (by omega) f
   refine sound (d := 2) tok2 mixed2 Tryz.func23 (by kernel_rfl) (by kernel_rfl) ?_
   (conv=>whnf); refine .inl ⟨_,_,byX rfl (h67),?_⟩
   (conv=>whnf); refine .inl ⟨_,_,byX rfl (Sound1.pl (h68 rfl) rfl),?_⟩
   (conv=>whnf); refine ifB_beq (fun w1=>?_) (fun w1=>?_)
   ·(exfalso; omega)
   ·(conv=>whnf); refine ifB_bne (fun w2=>?_) (fun w2=>?_)
    ·(conv=>whnf); refine ⟨?_,nofun⟩
     exact fast_bad hE h2
    ·(exfalso; omega)
 ·have hE : fastE p s to = openE p s noF := by unfold fastE; rw [if_pos h1]
  refine sound (d := 2) tok2 mixed2 Tryz.func23 (by kernel_rfl) (by kernel_rfl) ?_
  (conv=>whnf); refine .inl ⟨_,_,byX rfl (h67),?_⟩
  (conv=>whnf); refine ifB_beq (fun w1=>?_) (fun w1=>?_)
  ·(exfalso; omega)
  ·(conv=>whnf); refine ifB_beq (fun w2=>?_) (fun w2=>?_)
   ·(exfalso; omega)
   ·(conv=>whnf); refine ifB_bne (fun w3=>?_) (fun w3=>?_)
    ·(conv=>whnf); refine ⟨?_,nofun⟩
     exact fast_bad hE h1
    ·(exfalso; omega)
end Go.Tr

/- Contracts of chapter 7: halls and their rules. Conditions: none. -/
namespace Go.Tr
open Go Go.Proofs
set_option maxRecDepth 20000
set_option maxHeartbeats 8000000

abbrev Rul := Int × Int × Int
structure Hal where
  mach : Int
  rules : List Rul
def rulC (r : Rul) : List AV := [i64 r.1,i64 r.2.1,i64 r.2.2]
def rul0 : Rul := (0,0,0)
def rulesA (l : List Rul) : AV := .rslice 3 l.length fun i=>rulC (l.getD i rul0)
def hallC (h : Hal) : List AV := [i64 h.mach,rulesA h.rules]
def hallA (h : Hal) : AV := .agg (hallC h)

def isStepB (n : Int) : Bool := decide (0 ≤ n) && decide (n ≤ 9)
theorem isStep_dec (n : Int) : decide (0 ≤ n ∧ n ≤ 9) = isStepB n := by simp [isStepB]
theorem S99 (n : Int) : SP 99 [i64 n] (vb (isStepB n)) false := by
 have h := S91 n 0 9
 refine sound (d := 2) tok2 mixed2 Tryz.func99 (by kernel_rfl) (by kernel_rfl) ?_
 (conv=>whnf); refine .inl ⟨_,_,byX rfl (Sound1.pl (h) rfl),?_⟩
 (conv=>whnf); refine ⟨?_,nofun⟩
 exact endb (isStep_dec n)
theorem S98 (n : Int) : SP 98 [i64 n] (vb (!isStepB n)) false := by
 have h := S99 n
 refine sound (d := 2) tok2 mixed2 Tryz.func98 (by kernel_rfl) (by kernel_rfl) ?_
 (conv=>whnf); refine .inl ⟨_,_,byX rfl (Sound1.pl (h) rfl),?_⟩
 (conv=>whnf); refine ⟨?_,nofun⟩
 rfl
def ruleE (r : Rul) : Int := firstOf [if isStepB r.1 && isStepB r.2.1 then 0 else 6,if decide (0 ≤ r.2.2 ∧ r.2.2 ≤ 1) then 0 else 15]
def ruleAt (h : Hal) (i : Nat) : Int := ruleE (h.rules.getD i rul0)
def headH (h : Hal) : Int := firstOf [if decide (1 ≤ h.mach ∧ h.mach ≤ 6) then 0 else 2,if decide ((h.rules.length : Int) ≤ 12) then 0 else 8]
def checkH (h : Hal) : Int × Int := if headH h ≠ 0 then (0,headH h) else scan (ruleAt h) h.rules.length 0
theorem checkH_1 {h : Hal} (h0 : ¬ headH h = 0) : checkH h = (0,headH h) := if_pos h0
theorem checkH_2 {h : Hal} (h0 : headH h = 0) {k : Nat} {e : Int} (hk : k < h.rules.length) (hf : ∀ j,j < k → ruleAt h j = 0) (he : ruleAt h k = e) (hne : ¬ e = 0) : checkH h = (↑k,e) := by
  unfold checkH
  rw [if_neg (not_not_intro h0),scan_at hk hf (by rw [he]; exact hne),he]
theorem checkH_3 {h : Hal} (h0 : headH h = 0) (hf : ∀ j,j < h.rules.length → ruleAt h j = 0) : checkH h = (0,0) := by
  unfold checkH
  rw [if_neg (not_not_intro h0),scan_all hf]
theorem S97 (h : Hal) (hl : h.rules.length ≤ 1000) : SP 97 [hallA h] (t2 (checkH h).1 (checkH h).2) false := by
 have h78 := S91 h.mach 1 6
 refine sound (d := 2) tok2 mixed2 Tryz.func97 (by kernel_rfl) (by kernel_rfl) ?_
 (conv=>whnf); refine ⟨[],by kernel_rfl,?_⟩
 (conv=>whnf); refine .inl ⟨_,_,byX rfl (Sound1.pl (h78) rfl),?_⟩
 (conv=>whnf); refine .inl ⟨_,_,byX rfl (Sound1.pl (S49 _ _) rfl),?_⟩
 (conv=>whnf); refine .inl ⟨_,_,byX rfl (Sound1.pl (S49 _ _) rfl),?_⟩
 (conv=>whnf); refine .inl ⟨_,_,byX rfl (Sound1.pl (S69_2 _ _ ⟨rfl,rfl⟩) rfl),?_⟩
 (conv=>whnf); refine ifB_bne (fun w1=>?_) (fun w1=>?_)
 ·(conv=>whnf); refine ⟨?_,nofun⟩
  exact endp (checkH_1 (h := h) w1)
 ·(conv=>whnf); refine ⟨[],[23,24,25],fun st mq=>∃ (k : Nat) (F1 : Nat → List AV),(k ≤ h.rules.length) ∧ (∀ j,j < k → ruleAt h j = 0) ∧ st = ⟨[(23,rulesA h.rules),(24,i64 h.rules.length),(25,i64 k)],⟨[⟨2,1,fun _=>hallC h,0,false,true,true⟩,⟨1,2,F1,0,false,true,false⟩],[],none,0⟩,[]⟩ ∧ mq = h.rules.length - k,
   ⟨_,_,⟨0,_,by omega,inv_none,rfl,rfl⟩,⟨⟨.inl rfl,rfl,rfl,rfl⟩,⟨bA,⟨bA,trivial⟩⟩,trivial⟩⟩,?_⟩
  rintro s0 m0 ⟨k,F1,hk,hf,rfl,hmeas⟩
  by_cases hlt : k < h.rules.length
  ·have h84a := S99 (h.rules.getD k rul0).1
   have h84b := S99 (h.rules.getD k rul0).2.1
   have h78k := S91 (h.rules.getD k rul0).2.2 0 1
   conv=>whnf
   (conv=>whnf); refine ifB_dec (fun w2=>?_) (fun w2=>?_)
   ·conv=>whnf
    (conv=>whnf); refine ⟨⟨(by omega),(by omega)⟩,?_⟩
    conv=>whnf
    (conv=>whnf); refine ⟨[],by kernel_rfl,?_⟩
    conv=>whnf
    (conv=>whnf); refine .inl ⟨_,_,byX rfl (Sound1.pl (h84a) rfl),?_⟩
    conv=>whnf
    (conv=>whnf); refine ifB_intro (fun w3=>?_) (fun w3=>?_)
    ·conv=>whnf
     (conv=>whnf); refine .inl ⟨_,_,byX rfl (Sound1.pl (h84b) rfl),?_⟩
     conv=>whnf
     (conv=>whnf); refine .inl ⟨_,_,byX rfl (Sound1.pl (S49 _ _) rfl),?_⟩
     conv=>whnf
     (conv=>whnf); refine .inl ⟨_,_,byX rfl (Sound1.pl (h78k) rfl),?_⟩
     conv=>whnf
     (conv=>whnf); refine .inl ⟨_,_,byX rfl (Sound1.pl (S49 _ _) rfl),?_⟩
     conv=>whnf
     (conv=>whnf); refine .inl ⟨_,_,byX rfl (Sound1.pl (S69_2 _ _ ⟨rfl,rfl⟩) rfl),?_⟩
     conv=>whnf
     (conv=>whnf); refine ifB_bne (fun w4=>?_) (fun w4=>?_)
     ·conv=>whnf
      (conv=>whnf); refine ⟨?_,nofun⟩
      exact endp (checkH_2 w1 hlt hf (by show ruleE (h.rules.getD k rul0) = _; unfold ruleE; rw [show isStepB (h.rules.getD k rul0).1 = true from w3,Bool.true_and]) w4)
     ·conv=>whnf
      (conv=>whnf); refine ⟨inK64 (by omega) (by omega),?_⟩
      conv=>whnf
      (conv=>whnf); refine ⟨_,_,⟨⟨k + 1,_,by omega,inv_next hf (by show ruleE (h.rules.getD k rul0) = _; unfold ruleE; rw [show isStepB (h.rules.getD k rul0).1 = true from w3,Bool.true_and]; exact w4),rfl,rfl⟩,by omega⟩,⟨⟨.inl rfl,rfl,rfl,rfl⟩,⟨bA,⟨bA,trivial⟩⟩,trivial⟩⟩
    ·conv=>whnf
     (conv=>whnf); refine .inl ⟨_,_,byX rfl (Sound1.pl (S49 _ _) rfl),?_⟩
     conv=>whnf
     (conv=>whnf); refine .inl ⟨_,_,byX rfl (Sound1.pl (h78k) rfl),?_⟩
     conv=>whnf
     (conv=>whnf); refine .inl ⟨_,_,byX rfl (Sound1.pl (S49 _ _) rfl),?_⟩
     conv=>whnf
     (conv=>whnf); refine .inl ⟨_,_,byX rfl (Sound1.pl (S69_2 _ _ ⟨rfl,rfl⟩) rfl),?_⟩
     conv=>whnf
     (conv=>whnf); refine ⟨?_,nofun⟩
     exact endp (checkH_2 w1 hlt hf (by show ruleE (h.rules.getD k rul0) = _; unfold ruleE; rw [show isStepB (h.rules.getD k rul0).1 = false from w3]; rfl) (by show ¬ (6 : Int) = 0; decide))
   ·(exfalso; omega)
  ·have e : k = h.rules.length := by omega
   subst e
   conv=>whnf
   (conv=>whnf); refine ifB_dec (fun w2=>?_) (fun w2=>?_)
   ·(exfalso; omega)
   ·conv=>whnf
    (conv=>whnf); refine ⟨?_,nofun⟩
    exact endp (checkH_3 w1 hf)

def stepsH (h : Hal) (l : List Int) : Int := if ¬ (l.length : Int) = h.mach then 10 else if l.all isStepB then 0 else 6
def openH (h : Hal) (l : List Int) : Int := if (checkH h).2 = 0 then stepsH h l else (checkH h).2
theorem first3 (a b c : Int) : firstOf [a,b,c] = if a ≠ 0 then a else if b ≠ 0 then b else c := by
 unfold firstOf
 rw [first2]
 by_cases h : a = 0
 ·rw [if_pos h,if_neg (not_not_intro h)]
 ·rw [if_neg h,if_pos h]
theorem openH_form (h : Hal) (l : List Int) : firstOf [(checkH h).2,if decide ((l.length : Int) = h.mach) then 0 else 10,if l.all isStepB then 0 else 6] = openH h l := by
 rw [first3]
 unfold openH stepsH
 by_cases h0 : (checkH h).2 = 0
 ·rw [if_neg (not_not_intro h0),if_pos h0]
  by_cases h1 : (l.length : Int) = h.mach
  ·rw [decide_eq_true h1,if_neg (not_not_intro h1)]; rfl
  ·rw [decide_eq_false h1,if_pos h1]; rfl
 ·rw [if_pos h0,if_neg h0]
theorem S57 (h : Hal) (hl : h.rules.length ≤ 1000) (l : List Int) (hll : l.length ≤ 9223372036854775807) : SP 57 [hallA h,ints l] (i64 (openH h l)) false := by
 have h33 := S97 h hl
 have h76 := S89n l hll 98 _ S98
 refine sound (d := 2) tok2 mixed2 Tryz.func57 (by kernel_rfl) (by kernel_rfl) ?_
 (conv=>whnf); refine .inl ⟨_,_,byX rfl (Sound1.pl (h33) rfl),?_⟩
 (conv=>whnf); refine .inl ⟨_,_,byX rfl (Sound1.pl (h76) rfl),?_⟩
 (conv=>whnf); refine .inl ⟨_,_,byX rfl (Sound1.pl (S49 _ _) rfl),?_⟩
 (conv=>whnf); refine .inl ⟨_,_,byX rfl (Sound1.pl (S49 _ _) rfl),?_⟩
 (conv=>whnf); refine .inl ⟨_,_,byX rfl (Sound1.pl (S69_3 _ _ _ ⟨rfl,rfl,rfl⟩) rfl),?_⟩
 (conv=>whnf); refine ⟨?_,nofun⟩
 refine endi (Eq.trans ?_ (openH_form h l))
 rw [any_not]; rfl
end Go.Tr

/- Contracts of chapter 7: which rules are broken. Conditions: none. -/
namespace Go.Tr
open Go Go.Proofs
set_option maxRecDepth 20000
set_option maxHeartbeats 8000000

def firstN (P : Nat → Bool) : Nat → Nat → Option Nat
  | 0,_=>none
  | n + 1,i=>if P i then some i else firstN P n (i + 1)
theorem firstN_at {P : Nat → Bool} {n k : Nat} (hk : k < n) (h : ∀ j,j < k → P j = false) (hp : P k = true) : firstN P n 0 = some k := by
 have key : ∀ (n i : Nat),i ≤ k → k < i + n → firstN P n i = some k := by
  intro n
  induction n with
  | zero=>intro i h1 h2; omega
  | succ n ih =>
   intro i h1 h2
   unfold firstN
   by_cases hi : i = k
   ·subst hi; rw [if_pos hp]
   ·rw [if_neg (by rw [h i (by omega)]; nofun),ih (i + 1) (by omega) (by omega)]
 exact key n 0 (by omega) (by omega)
theorem firstN_none {P : Nat → Bool} {n : Nat} (h : ∀ j,j < n → P j = false) : firstN P n 0 = none := by
 have key : ∀ (m i : Nat),i + m = n → firstN P m i = none := by
  intro m
  induction m with
  | zero=>intro i _; rfl
  | succ m ih=>intro i hi; unfold firstN; rw [if_neg (by rw [h i (by omega)]; nofun),ih (i + 1) (by omega)]
 exact key n 0 (by omega)
theorem inv_nextB {f : Nat → Bool} {k : Nat} (h : ∀ j,j < k → f j = false) (hk : f k = false) : ∀ j,j < k + 1 → f j = false := fun j hj=>by
 rcases Nat.lt_succ_iff_lt_or_eq.1 hj with h1 | rfl
 ·exact h j h1
 ·exact hk
theorem inv_noneB {f : Nat → Bool} : ∀ j,j < 0 → f j = false := fun j hj=>absurd hj (Nat.not_lt_zero j)

def otherB (l : List Int) (m : Nat) (x : Int) : Bool := hasI (l.eraseIdx m) x
def condB (h : Hal) (l : List Int) (m k : Nat) : Bool :=
  decide ((h.rules.getD k rul0).1 = l.getD m 0) && (otherB l m (h.rules.getD k rul0).2.1 != decide ((h.rules.getD k rul0).2.2 = 1))
def rowB (h : Hal) (l : List Int) (m : Nat) : Option Nat := firstN (condB h l m) h.rules.length 0
def brokenF (h : Hal) (l : List Int) : Option (Nat × Nat) := match firstN (fun m=>(rowB h l m).isSome) l.length 0 with | none=>none | some m=>(rowB h l m).map fun k=>(m,k)
def brA : Option (Nat × Nat) → AV
  | none=>.tuple [stA (0,0),vb false]
  | some x=>.tuple [stA (x.1,x.2),vb true]
theorem broken_at {h : Hal} {l : List Int} {m k : Nat} (hm : m < l.length) (hk : k < h.rules.length) (h1 : ∀ j,j < m → (rowB h l j).isSome = false) (h2 : ∀ j,j < k → condB h l m j = false) (h3 : condB h l m k = true) : brokenF h l = some (m,k) := by
 have hr : rowB h l m = some k := firstN_at hk h2 h3
 unfold brokenF
 rw [firstN_at hm h1 (by rw [hr]; rfl)]
 show (rowB h l m).map _ = _
 rw [hr]; rfl
theorem broken_none {h : Hal} {l : List Int} (h1 : ∀ j,j < l.length → (rowB h l j).isSome = false) : brokenF h l = none := by
  unfold brokenF
  rw [firstN_none h1]
theorem S83n (l : List Int) (hl : l.length ≤ 1000000) (x : Int) {n : Nat} {f : Nat → List AV} (hn : n = l.length) (hf : ∀ i,i < n → f i = [i64 (l.getD i 0)]) : SP 83 [.rslice 1 n f,i64 x] (vb (hasI l x)) false := by
 refine (S83 l (by omega) x).argsD rfl fun i y z hy hz=>?_
 match i,hy,hz with
 | 0,hy,hz=>cases hy; cases hz; exact .inr ⟨1,AVF_rows hn hf 0⟩
 | 1,hy,hz=>cases hy; cases hz; exact .inl rfl
theorem ave_br (o : Option (Nat × Nat)) {m k : Nat} (h : o = some (m,k)) : AVE 5 (.tuple [.agg [i64 m,i64 k],vb true]) (brA o) := by
  rw [h]
  exact ave_tup2 (ave_agg2 (k := 3) rfl rfl) rfl
theorem ave_br0 (o : Option (Nat × Nat)) (h : o = none) : AVE 5 (.tuple [.agg [i64 0,i64 0],vb false]) (brA o) := by
  rw [h]
  exact ave_tup2 (ave_agg2 (k := 3) rfl rfl) rfl
theorem getD_erase (l : List Int) (m i : Nat) : (l.eraseIdx m).getD i 0 = if i < m then l.getD i 0 else l.getD (i + 1) 0 := by
  rw [List.getD_eq_getElem?_getD,List.getElem?_eraseIdx]
  split <;> rw [List.getD_eq_getElem?_getD]
theorem del_row (l : List Int) (m : Nat) (_ : m < l.length) (i : Nat) (hi : i < ((m : Int) - 0).toNat + ((l.length : Int) - ((m : Int) + 1)).toNat) {Z W : List AV} :
  (if 0 + Int.toNat 0 + (((((m : Int) - 0).toNat + ((l.length : Int) - ((m : Int) + 1)).toNat : Nat) : Int)).toNat ≤ i ∧ i < 0 + Int.toNat 0 + (((((m : Int) - 0).toNat + ((l.length : Int) - ((m : Int) + 1)).toNat : Nat) : Int)).toNat + ((l.length : Int) - ((((m : Int) - 0).toNat + ((l.length : Int) - ((m : Int) + 1)).toNat : Nat) : Int)).toNat then Z
   else if i < 0 + Int.toNat 0 + ((m : Int) - 0).toNat then [i64 (l.getD i 0)] else if i < 0 + Int.toNat 0 + ((m : Int) - 0).toNat + ((l.length : Int) - ((m : Int) + 1)).toNat then shiftF (0 + ((m : Int) + 1).toNat) (fun i=>[i64 (l.getD i 0)]) (i - (0 + Int.toNat 0 + ((m : Int) - 0).toNat)) else W) = [i64 ((l.eraseIdx m).getD i 0)] := by
 have e0 : Int.toNat 0 = 0 := rfl
 rw [if_neg (by omega),getD_erase,shiftF_eq]
 by_cases h : i < m
 ·rw [if_pos (by omega),if_pos h]
 ·rw [if_neg (by omega),if_pos (by omega),if_neg h]
  show [i64 (l.getD (0 + ((m : Int) + 1).toNat + (i - (0 + Int.toNat 0 + ((m : Int) - 0).toNat))) 0)] = _
  rw [show 0 + ((m : Int) + 1).toNat + (i - (0 + Int.toNat 0 + ((m : Int) - 0).toNat)) = i + 1 by omega]
theorem cond_ne {h : Hal} {l : List Int} {m k : Nat} (w : ¬ (h.rules.getD k rul0).1 = l.getD m 0) : condB h l m k = false := by
  unfold condB
  rw [decide_eq_false w]; rfl
theorem cond_no {h : Hal} {l : List Int} {m k : Nat} (w : (h.rules.getD k rul0).1 = l.getD m 0) (w2 : otherB l m (h.rules.getD k rul0).2.1 = ((h.rules.getD k rul0).2.2 == 1)) : condB h l m k = false := by
 unfold condB
 rw [decide_eq_true w,w2]
 show (true && (((h.rules.getD k rul0).2.2 == 1) != ((h.rules.getD k rul0).2.2 == 1))) = false
 simp
theorem cond_yes {h : Hal} {l : List Int} {m k : Nat} (w : (h.rules.getD k rul0).1 = l.getD m 0) (w2 : ¬ otherB l m (h.rules.getD k rul0).2.1 = ((h.rules.getD k rul0).2.2 == 1)) : condB h l m k = true := by
 unfold condB
 rw [decide_eq_true w,Bool.true_and]
 exact bne_iff_ne.2 w2
theorem S58 (h : Hal) (hr : h.rules.length ≤ 1000) (l : List Int) (hl : l.length ≤ 1000) : SP 58 [hallA h, ints l] (brA (brokenF h l)) false := by
  refine sound (d := 2) tok2 mixed2 Tryz.func58 (by kernel_rfl) (by kernel_rfl) ?_
  (conv=>whnf); refine ⟨[],[1,2,4,11,12,13],fun st mq=>∃ (m : Nat),(m ≤ l.length) ∧ (∀ j,j < m → (rowB h l j).isSome = false) ∧ st = ⟨[(1,ints l),(2,.optr 0 0 0 0),(4,.optr 1 0 0 0),(11,ints l),(12,i64 l.length),(13,i64 m)],⟨[⟨2,1,fun _=>hallC h,0,false,true,true⟩,⟨2,1,fun _=>[i64 0,i64 0],0,false,true,true⟩],[],none,0⟩,[]⟩ ∧ mq = l.length - m,
    ⟨_,_,⟨0,by omega,inv_noneB,rfl,rfl⟩,⟨⟨.inl rfl,rfl,rfl,rfl⟩,⟨bA,⟨bA,trivial⟩⟩,trivial⟩⟩,?_⟩
  rintro s0 m0 ⟨m,hm,h1,rfl,hmeas⟩
  by_cases hlt : m < l.length
  · conv => whnf
    (conv=>whnf); refine ifB_dec (fun w1=>?_) (fun w1=>?_)
    · conv => whnf
      (conv=>whnf); refine ⟨⟨(by omega),(by omega)⟩,?_⟩
      conv=>whnf
      (conv=>whnf); refine ⟨[],[1,2,4,6,7,11,12,13,19,20,21],fun st mq=>∃ (k : Nat),(k ≤ h.rules.length) ∧ (∀ j,j < k → condB h l m j = false) ∧ st = ⟨[(1,ints l),(2,.optr 0 0 0 0),(4,.optr 1 0 0 0),(6,i64 m),(7,i64 (l.getD m 0)),(11,ints l),(12,i64 l.length),(13,i64 m),(19,rulesA h.rules),(20,i64 h.rules.length),(21,i64 k)],⟨[⟨2,1,fun _=>hallC h,0,false,true,true⟩,⟨2,1,fun _=>[i64 0,i64 0],0,false,true,true⟩],[],none,0⟩,[]⟩ ∧ mq = h.rules.length - k,
        ⟨_,_,⟨0,by omega,inv_noneB,rfl,rfl⟩,⟨⟨.inl rfl,rfl,rfl,rfl⟩,⟨bA,⟨bA,trivial⟩⟩,trivial⟩⟩,?_⟩
      rintro s0 m0 ⟨k,hk,h2,rfl,hmeas⟩
      by_cases hltk : k < h.rules.length
      · have h94 := fun x => @S83n (l.eraseIdx m) (by rw [List.length_eraseIdx]; split <;> omega) x
        refine ifB_dec (fun w2=>?_) (fun w2=>?_)
        · refine ⟨⟨(by omega),(by omega)⟩,?_⟩
          refine .inl ⟨_,_,byX rfl (S96 _ (by omega)),?_⟩
          refine ⟨inK64 (by omega) (by omega),?_⟩
          refine .inr (.inl ⟨[],?_⟩)
          refine ⟨⟨(by first | rfl | assumption),⟨(by omega),⟨(by omega),⟨(by omega),(by omega)⟩⟩⟩⟩,?_⟩
          refine ifB_beq (fun w3=>?_) (fun w3=>?_)
          · (exfalso; omega)
          · refine ⟨[], by kernel_rfl, ?_⟩
            refine ⟨?_,?_⟩
            · exact ⟨Int.le_refl 0,by omega,by simp; omega⟩
            · refine ⟨?_, ?_⟩
              · exact ⟨by omega,by omega,by simp⟩
              · refine .inr ?_
                refine ⟨?_,?_⟩
                · simp; omega
                · refine ⟨?_,?_⟩
                  · exact ⟨by omega,by simp; omega,by simp⟩
                  · refine ⟨[],by kernel_rfl,?_⟩
                    refine ifB_beq (fun w4=>?_) (fun w4=>?_)
                    · refine .inl ⟨_,_,byX rfl (Sound1.pl (h94 _ ?_ ?_) rfl),?_⟩
                      · rw [List.length_eraseIdx,if_pos hlt]; omega
                      · exact fun i hi=>del_row l m hlt i hi
                      · refine ifB_not ?_
                        refine ifB_beqB (fun w5=>?_) (fun w5=>?_)
                        · refine ⟨inK64 (by omega) (by omega),?_⟩
                          refine ⟨_,_,⟨⟨k + 1,by omega,inv_nextB h2 (cond_no w4 w5),rfl,rfl⟩,by omega⟩,⟨⟨.inl rfl,rfl,rfl,rfl⟩,⟨bA,⟨bA,trivial⟩⟩,trivial⟩⟩
                        · refine ⟨?_,nofun⟩
                          exact ave_br _ (broken_at hlt hltk h1 h2 (cond_yes w4 w5))
                    · refine ⟨inK64 (by omega) (by omega),?_⟩
                      refine ⟨_,_,⟨⟨k + 1,by omega,inv_nextB h2 (cond_ne w4),rfl,rfl⟩,by omega⟩,⟨⟨.inl rfl,rfl,rfl,rfl⟩,⟨bA,⟨bA,trivial⟩⟩,trivial⟩⟩
        · (exfalso; omega)
      · have hrow : (rowB h l m).isSome = false := by
          have e : k = h.rules.length := by omega
          subst e
          unfold rowB
          rw [firstN_none h2]; rfl
        conv=>whnf
        conv=>whnf
        (conv=>whnf); refine ifB_dec (fun w2=>?_) (fun w2=>?_)
        · (exfalso; omega)
        · conv=>whnf
          conv=>whnf
          (conv=>whnf); refine ⟨inK64 (by omega) (by omega),?_⟩
          conv=>whnf
          conv=>whnf
          (conv=>whnf); refine ⟨_,_,⟨⟨m + 1,by omega,inv_nextB h1 hrow,rfl,rfl⟩,by omega⟩,⟨⟨.inl rfl,rfl,rfl,rfl⟩,⟨bA,⟨bA,trivial⟩⟩,trivial⟩⟩
    · (exfalso; omega)
  · conv=>whnf
    (conv=>whnf); refine ifB_dec (fun w1=>?_) (fun w1=>?_)
    · (exfalso; omega)
    · conv=>whnf
      (conv=>whnf); refine ⟨?_,nofun⟩
      exact ave_br0 _ (broken_none (by have e : m = l.length := by omega
                                       subst e; exact h1))

def brokenR (h : Hal) (l : List Int) : AV :=
  if openH h l ≠ 0 then .tuple [stA (0,0),i64 (openH h l)] else match brokenF h l with | none=>.tuple [stA (0,0),i64 12] | some x=>.tuple [stA (x.1,x.2),i64 0]
theorem S24 (h : Hal) (hr : h.rules.length ≤ 1000) (l : List Int) (hl : l.length ≤ 1000) : SP 24 [hallA h,ints l] (brokenR h l) false := by
 have h85 := S57 h hr l (by omega)
 have h86 := S58 h hr l hl
 unfold brokenR
 by_cases h0 : openH h l = 0
 ·rw [if_neg (not_not_intro h0)]
  rw [h0] at h85
  cases hb : brokenF h l with
  | none =>
   rw [hb] at h86
   refine sound (d := 2) tok2 mixed2 Tryz.func24 (by kernel_rfl) (by kernel_rfl) ?_
   (conv=>whnf); refine .inl ⟨_,_,byX rfl (Sound1.pl (h85) rfl),?_⟩
   (conv=>whnf); refine .inl ⟨_,_,byX rfl (Sound1.pl (h86) rfl),?_⟩
   (conv=>whnf); refine ⟨[],by kernel_rfl,?_⟩
   (conv=>whnf); refine .inl ⟨_,_,byX rfl (Sound1.pl (S49 _ _) rfl),?_⟩
   (conv=>whnf); refine ⟨?_,nofun⟩
   exact ave_tup2 (ave_agg2 (k := 3) rfl rfl) rfl
  | some x =>
   rw [hb] at h86
   refine sound (d := 2) tok2 mixed2 Tryz.func24 (by kernel_rfl) (by kernel_rfl) ?_
   (conv=>whnf); refine .inl ⟨_,_,byX rfl (Sound1.pl (h85) rfl),?_⟩
   (conv=>whnf); refine .inl ⟨_,_,byX rfl (Sound1.pl (h86) rfl),?_⟩
   (conv=>whnf); refine ⟨[],by kernel_rfl,?_⟩
   (conv=>whnf); refine .inl ⟨_,_,byX rfl (Sound1.pl (S49 _ _) rfl),?_⟩
   (conv=>whnf); refine ⟨?_,nofun⟩
   exact ave_tup2 (ave_agg2 (k := 3) rfl rfl) rfl
 ·rw [if_pos h0]
  refine sound (d := 2) tok2 mixed2 Tryz.func24 (by kernel_rfl) (by kernel_rfl) ?_
  (conv=>whnf); refine .inl ⟨_,_,byX rfl (Sound1.pl (h85) rfl),?_⟩
  (conv=>whnf); refine ifB_bne (fun w1=>?_) (fun w1=>?_)
  ·(conv=>whnf); refine ⟨?_,nofun⟩
   exact ave_tup2 (ave_agg2 (k := 3) rfl rfl) rfl
  ·(exfalso; omega)
end Go.Tr

/- Contracts of chapter 7: what the package's functions answer. Conditions: none. -/
namespace Go.Tr
open Go Go.Proofs
set_option maxRecDepth 20000
set_option maxHeartbeats 8000000

abbrev tnA (f : Int × Bool) (c : Int) : AV := .agg [i64 f.1,vb f.2,i64 c]
def mayB (p : Pln) (s : S2) (c : Int) : Bool := decide (c = -1) || (decide ((stp p s).wait = 0) && hasI (stp p s).exits c)
def turnE (p : Pln) (s : S2) (f : Int × Bool) (c : Int) : Int := if openE p s f = 0 then (if mayB p s c then 0 else 24) else openE p s f
def turnR (p : Pln) (s : S2) (f : Int × Bool) (c : Int) : AV :=
  if turnE p s f c ≠ 0 then .tuple [stA (0,0),i64 0,i64 (turnE p s f c)] else .tuple [stA (turnF p f s c).1,i64 (turnF p f s c).2,i64 0]
def homeR (p : Pln) (s : S2) (f : Int × Bool) : AV :=
  if openE p s f ≠ 0 then .tuple [sts [],i64 0,i64 (openE p s f)] else match homeF p f s with | none=>.tuple [sts [],i64 0,i64 12] | some x=>.tuple [sts x.1,i64 x.2,i64 0]
theorem S22 (p : Pln) (hp : FewP p) (s : S2) (f : Int × Bool) : SP 22 [planA p,stA s,ftA f] (homeR p s f) false := by
 have h67 := S48 p hp s f
 unfold homeR
 by_cases h0 : openE p s f = 0
 ·rw [if_neg (not_not_intro h0)]
  rw [h0] at h67
  obtain ⟨hg,hs,hf⟩ := open_ok hp h0
  have h79 := S52 p hg f s hs
  cases hx : homeF p f s with
  | none =>
   rw [hx] at h79
   refine sound (d := 2) tok2 mixed2 Tryz.func22 (by kernel_rfl) (by kernel_rfl) ?_
   (conv=>whnf); refine .inl ⟨_,_,byX rfl (h67),?_⟩
   (conv=>whnf); refine .inl ⟨_,_,byX rfl (h79),?_⟩
   (conv=>whnf); refine .inl ⟨_,_,byX rfl (Sound1.pl (S49 _ _) rfl),?_⟩
   (conv=>whnf); refine ⟨?_,nofun⟩
   exact ave_tup3 ⟨rfl,rfl,fun _ _=>rfl⟩ rfl rfl
  | some x =>
   rw [hx] at h79
   refine sound (d := 2) tok2 mixed2 Tryz.func22 (by kernel_rfl) (by kernel_rfl) ?_
   (conv=>whnf); refine .inl ⟨_,_,byX rfl (h67),?_⟩
   (conv=>whnf); refine .inl ⟨_,_,byX rfl (h79),?_⟩
   (conv=>whnf); refine .inl ⟨_,_,byX rfl (Sound1.pl (S49 _ _) rfl),?_⟩
   (conv=>whnf); refine ⟨?_,nofun⟩
   exact ave_tup3 ⟨rfl,rfl,fun _ _=>rfl⟩ rfl rfl
 ·rw [if_pos h0]
  refine sound (d := 2) tok2 mixed2 Tryz.func22 (by kernel_rfl) (by kernel_rfl) ?_
  (conv=>whnf); refine .inl ⟨_,_,byX rfl (h67),?_⟩
  (conv=>whnf); refine ifB_bne (fun w1=>?_) (fun w1=>?_)
  ·(conv=>whnf); refine ⟨?_,nofun⟩
   exact ave_tup3 rfl rfl rfl
  ·(exfalso; omega)
theorem S19 (p : Pln) (hp : FewP p) (s : S2) (f : Int × Bool) (c : Int) : SP 19 [planA p,stA s,tnA f c] (turnR p s f c) false := by
 have h67 := S48 p hp s f
 unfold turnR
 by_cases h0 : openE p s f = 0
 ·rw [h0] at h67
  obtain ⟨hg,hs,hf⟩ := open_ok hp h0
  have h91 := S50 (stp p s) c (by have := hp.exits _ hs.k; show (p.steps.getD s.1.toNat stp0).exits.length ≤ _; omega)
  have h92 := S51 p s f c hs.at
  have hat := hs.at
  have hE : turnE p s f c = if mayB p s c then 0 else 24 := by unfold turnE; rw [if_pos h0]
  rw [hE]
  cases hm : mayB p s c with
  | true =>
   rw [show (decide (c = -1) || (decide ((stp p s).wait = 0) && hasI (stp p s).exits c)) = true from hm] at h91
   refine sound (d := 2) tok2 mixed2 Tryz.func19 (by kernel_rfl) (by kernel_rfl) ?_
   (conv=>whnf); refine .inl ⟨_,_,byX rfl (h67),?_⟩
   (conv=>whnf); refine ⟨[],by kernel_rfl,?_⟩
   (conv=>whnf); refine ⟨⟨(by omega),(by omega)⟩,?_⟩
   (conv=>whnf); refine .inl ⟨_,_,byX rfl (Sound1.pl (h91) rfl),?_⟩
   (conv=>whnf); refine .inl ⟨_,_,byX rfl (Sound1.pl (S49 _ _) rfl),?_⟩
   (conv=>whnf); refine .inl ⟨_,_,byX rfl (Sound1.pl (h92) rfl),?_⟩
   (conv=>whnf); refine ⟨?_,nofun⟩
   exact ave_tup3 (ave_agg2 (k := 3) rfl rfl) rfl rfl
  | false =>
   rw [show (decide (c = -1) || (decide ((stp p s).wait = 0) && hasI (stp p s).exits c)) = false from hm] at h91
   refine sound (d := 2) tok2 mixed2 Tryz.func19 (by kernel_rfl) (by kernel_rfl) ?_
   (conv=>whnf); refine .inl ⟨_,_,byX rfl (h67),?_⟩
   (conv=>whnf); refine ⟨[],by kernel_rfl,?_⟩
   (conv=>whnf); refine ⟨⟨(by omega),(by omega)⟩,?_⟩
   (conv=>whnf); refine .inl ⟨_,_,byX rfl (Sound1.pl (h91) rfl),?_⟩
   (conv=>whnf); refine .inl ⟨_,_,byX rfl (Sound1.pl (S49 _ _) rfl),?_⟩
   (conv=>whnf); refine ⟨?_,nofun⟩
   exact ave_tup3 (ave_agg2 (k := 3) rfl rfl) rfl rfl
 ·have hE : turnE p s f c = openE p s f := by unfold turnE; rw [if_neg h0]
  rw [hE,if_pos h0]
  refine sound (d := 2) tok2 mixed2 Tryz.func19 (by kernel_rfl) (by kernel_rfl) ?_
  (conv=>whnf); refine .inl ⟨_,_,byX rfl (h67),?_⟩
  (conv=>whnf); refine ifB_beq (fun w1=>?_) (fun w1=>?_)
  ·(exfalso; omega)
  ·(conv=>whnf); refine ifB_bne (fun w2=>?_) (fun w2=>?_)
   ·(conv=>whnf); refine ⟨?_,nofun⟩
    exact ave_tup3 (ave_agg2 (k := 3) rfl rfl) rfl rfl
   ·(exfalso; omega)
theorem S26 (a b : List Int) (ha : a.length ≤ 1000000000) (hb : b.length ≤ 1000000000) : SP 26 [ints a,ints b] (vb (decide (a = b))) false := by
 refine sound (d := 2) tok2 mixed2 Tryz.func26 (by kernel_rfl) (by kernel_rfl) ?_
 (conv=>whnf); refine ifB_bne (fun w1=>?_) (fun w1=>?_)
 ·(conv=>whnf); refine ⟨?_,nofun⟩
  show vb false = vb _
  rw [decide_eq_false]
  intro e; subst e; exact w1 rfl
 ·have hab : a.length = b.length := by omega
  (conv=>whnf); refine ⟨[],[0,1,5],fun st mq=>∃ (k : Nat),(k ≤ a.length) ∧ (∀ i,i < k → a.getD i 0 = b.getD i 0) ∧ st = ⟨[(0,ints a),(1,ints b),(5,i64 k)],⟨[],[],none,0⟩,[]⟩ ∧ mq = a.length - k,
   ⟨_,_,⟨0,by omega,fun i h=>absurd h (Nat.not_lt_zero i),rfl,rfl⟩,⟨⟨.inl rfl,rfl,rfl,rfl⟩,trivial,trivial⟩⟩,?_⟩
  rintro s0 m0 ⟨k,hk,h1,rfl,hmeas⟩
  conv=>whnf
  (conv=>whnf); refine ifB_dec (fun w2=>?_) (fun w2=>?_)
  ·conv=>whnf
   (conv=>whnf); refine ⟨[],by kernel_rfl,?_⟩
   conv=>whnf
   (conv=>whnf); refine ⟨⟨(by omega),(by omega)⟩,?_⟩
   conv=>whnf
   (conv=>whnf); refine ⟨⟨(by omega),(by omega)⟩,?_⟩
   conv=>whnf
   (conv=>whnf); refine ifB_bne (fun w3=>?_) (fun w3=>?_)
   ·conv=>whnf
    (conv=>whnf); refine ⟨?_,nofun⟩
    have e : ¬ a.getD k 0 = b.getD k 0 := w3
    show vb false = vb _
    rw [decide_eq_false]
    intro h; subst h; exact e rfl
   ·conv=>whnf
    (conv=>whnf); refine ⟨inK64 (by omega) (by omega),?_⟩
    have e : a.getD k 0 = b.getD k 0 := w3
    conv=>whnf
    (conv=>whnf); refine ⟨_,_,⟨⟨k + 1,by omega,fun i hi=>(by rcases Nat.lt_or_ge i k with h | h; exact h1 i h; rw [show i = k by omega]; exact e),rfl,rfl⟩,by omega⟩,⟨⟨.inl rfl,rfl,rfl,rfl⟩,trivial,trivial⟩⟩
  ·conv=>whnf
   (conv=>whnf); refine ⟨?_,nofun⟩
   have e : k = a.length := by omega
   subst e
   show vb true = vb _
   rw [decide_eq_true]
   apply List.ext_getElem hab
   intro i h2 h3
   have := h1 i h2
   simpa [List.getD_eq_getElem?_getD,h2,h3] using this
end Go.Tr

/- Contracts of chapter 7: the examples of the chapter. Conditions: none. -/
namespace Go.Tr
open Go Go.Proofs
set_option maxRecDepth 20000
set_option maxHeartbeats 8000000

def bS (l : List UInt8) : ByteArray := ⟨l.toArray⟩
def nOpen : ByteArray := bS [111,112,101,110]
def nSpeed : ByteArray := bS [115,112,101,101,100]
def nRest : ByteArray := bS [114,101,115,116]
def nStart : ByteArray := bS [115,116,97,114,116]
def nTurb : ByteArray := bS [116,117,114,98,105,110,101]
def nStop : ByteArray := bS [115,116,111,112]
def nBrake : ByteArray := bS [98,114,97,107,101]
def plE : Pln := ⟨[nOpen,nSpeed],0,
  [⟨nRest,true,0,0,0,1,[1],0,0,0,0,0,0,0⟩,
   ⟨nStart,false,0,3,60,0,[],3,0,3,0,30,2,3⟩,
   ⟨nTurb,false,2,3,0,3,[3],0,0,0,0,0,0,0⟩,
   ⟨nStop,false,0,3,40,0,[],0,2,0,3,20,0,4⟩,
   ⟨nBrake,false,0,4,90,0,[],0,1,0,3,50,0,0⟩]⟩
def haE : Hal := ⟨2,[(2,1,0),(3,0,1)]⟩
theorem S25 : SP 25 [] (hallA haE) false := by
 refine sound (d := 2) tok2 mixed2 Tryz.func25 (by kernel_rfl) (by kernel_rfl) ?_
 (conv=>whnf); refine ⟨?_,nofun⟩
 refine ave_agg2 (k := 4) rfl ⟨rfl,rfl,fun i hi=>?_⟩
 match i,hi with
 | 0,_=>rfl
 | 1,_=>rfl
def AVL (n : Nat) (l l' : List AV) : Prop := l.length = l'.length ∧ ∀ j x y,nth? l j = some x → nth? l' j = some y → x = y ∨ AVF n x y
theorem AVL_nil (n : Nat) : AVL n [] [] := ⟨rfl,fun _ _ _ h=>by cases h⟩
theorem AVL_cons {n : Nat} {x y : AV} {l l' : List AV} (h : x = y ∨ AVF n x y) (hl : AVL n l l') : AVL n (x :: l) (y :: l') := by
 refine ⟨congrArg (· + 1) hl.1,fun j a b ha hb=>?_⟩
 match j,ha,hb with
 | 0,ha,hb=>cases ha; cases hb; exact h
 | j + 1,ha,hb=>exact hl.2 j a b ha hb
theorem AVL_step {n : Nat} {a b c d e f x h i j k l m o : AV} {s : Stp} (hs : stpC s = [a,b,c,d,e,f,ints s.exits,h,i,j,k,l,m,o]) (hx : AVF n x (ints s.exits)) : AVL n [a,b,c,d,e,f,x,h,i,j,k,l,m,o] (stpC s) := by
  rw [hs]
  exact AVL_cons (.inl rfl) (AVL_cons (.inl rfl) (AVL_cons (.inl rfl) (AVL_cons (.inl rfl) (AVL_cons (.inl rfl) (AVL_cons (.inl rfl) (AVL_cons (.inr hx) (AVL_cons (.inl rfl) (AVL_cons (.inl rfl) (AVL_cons (.inl rfl) (AVL_cons (.inl rfl) (AVL_cons (.inl rfl) (AVL_cons (.inl rfl) (AVL_cons (.inl rfl) (AVL_nil n))))))))))))))
theorem ave_pl {a b c d : Nat} {f g : Nat → List AV} {v : Value} : AVE 5 (.agg [.rslice a b f,.val v,.rslice c d g]) (.agg [.rslice a b f,.val v,.rslice c d g]) := ave_agg3 ⟨rfl,rfl,fun _ _=>rfl⟩ rfl ⟨rfl,rfl,fun _ _=>rfl⟩
theorem S20 : SP 20 [] (planA plE) false := by
 have h : ∃ R,SP 20 [] R false ∧ AVF 5 R (planA plE) := by
  refine ⟨?R,?h1,?h2⟩
  case h1 =>
   refine sound (d := 2) tok2 mixed2 Tryz.func20 (by kernel_rfl) (by kernel_rfl) ?_
   (conv=>whnf); refine ⟨?_,nofun⟩
   exact ave_pl
  case h2 =>
   refine AVL_cons (.inr ⟨rfl,rfl,fun i hi=>?_⟩) (AVL_cons (.inl rfl) (AVL_cons (.inr ⟨rfl,rfl,fun i hi=>?_⟩) (AVL_nil _)))
   ·match i,hi with
    | 0,_=>exact AVL_cons (.inl rfl) (AVL_nil _)
    | 1,_=>exact AVL_cons (.inl rfl) (AVL_nil _)
   ·match i,hi with
    | 0,_=>exact AVL_step rfl ⟨rfl,rfl,fun i hi=>(by match i,hi with | 0,_=>exact AVL_cons (.inl rfl) (AVL_nil _))⟩
    | 1,_=>exact AVL_step rfl rfl
    | 2,_=>exact AVL_step rfl ⟨rfl,rfl,fun i hi=>(by match i,hi with | 0,_=>exact AVL_cons (.inl rfl) (AVL_nil _))⟩
    | 3,_=>exact AVL_step rfl rfl
    | 4,_=>exact AVL_step rfl rfl
 obtain ⟨R,h1,h2⟩ := h
 exact h1.resD h2
theorem fewE : FewP plE := by
 refine ⟨by decide,by decide,fun i hi=>?_,fun i hi=>?_,fun i hi=>?_⟩
 ·match i,hi with
  | 0,_=>decide
  | 1,_=>decide
 ·match i,hi with
  | 0,_=>decide
  | 1,_=>decide
  | 2,_=>decide
  | 3,_=>decide
  | 4,_=>decide
 ·match i,hi with
  | 0,_=>decide
  | 1,_=>decide
  | 2,_=>decide
  | 3,_=>decide
  | 4,_=>decide
theorem ex_turn : turnE plE (1,0) noF (-1) = 0 ∧ turnF plE noF (1,0) (-1) = ((2,3),30) := by decide +kernel
theorem ex_home : openE plE (2,3) (1,true) = 0 ∧ (homeF plE (1,true) (2,3)).map (fun x=>(x.1.length,x.2)) = some (3,91) := by decide +kernel
theorem ex_fast : fastE plE (0,0) 2 = 0 ∧ bestW plE (0,0) 2 11 = some ([1],31) := by decide +kernel
theorem ex_hall : openH haE [2,1] = 0 ∧ brokenF haE [2,1] = some (0,0) ∧ openH haE [0,0] = 0 ∧ brokenF haE [0,0] = none := by decide +kernel
theorem S24_2 (h : Hal) (hr : h.rules.length ≤ 1000) (a b : Int) {f : Nat → List AV} (hf : f 0 = [i64 a] ∧ f 1 = [i64 b]) : SP 24 [hallA h,.rslice 1 2 f] (brokenR h [a,b]) false := by
 have key : ∀ i,i < 2 → f i = [i64 (([a,b] : List Int).getD i 0)] := fun i hi=>by
  match i,hi with
  | 0,_=>exact hf.1
  | 1,_=>exact hf.2
 refine (S24 h hr [a,b] (by simp)).argsD rfl fun i y x hy hx=>?_
 match i,hy,hx with
 | 0,hy,hx=>cases hy; cases hx; exact .inl rfl
 | 1,hy,hx=>cases hy; cases hx; exact .inr ⟨1,AVF_rows rfl key 0⟩
theorem S26_1 (l : List Int) (hl : l.length ≤ 1000000) (a : Int) {f : Nat → List AV} (hf : f 0 = [i64 a]) : SP 26 [ints l,.rslice 1 1 f] (vb (decide (l = [a]))) false := by
 have key : ∀ i,i < 1 → f i = [i64 (([a] : List Int).getD i 0)] := fun i hi=>by
  match i,hi with
  | 0,_=>exact hf
 refine (S26 l [a] (by omega) (by simp)).argsD rfl fun i y x hy hx=>?_
 match i,hy,hx with
 | 0,hy,hx=>cases hy; cases hx; exact .inl rfl
 | 1,hy,hx=>cases hy; cases hx; exact .inr ⟨1,AVF_rows rfl key 0⟩
theorem S5 : SP 5 [] (vb true) false := by
 have h45 := S19 plE fewE (1,0) noF (-1)
 have h27 := S22 plE fewE (2,3) (1,true)
 have h17 := S23 plE fewE (0,0) 2
 have h35a := @S24_2 haE (by decide) 2 1
 have h35b := @S24_2 haE (by decide) 0 0
 have h23 := @S26_1 [1] (by decide) 1
 have e1 : turnR plE (1,0) noF (-1) = .tuple [stA (2,3),i64 30,i64 0] := by unfold turnR; rw [ex_turn.1,ex_turn.2]; rfl
 have e2 : fastR plE (0,0) 2 = .tuple [ints [1],i64 31,i64 0] := by unfold fastR; rw [ex_fast.1,ex_fast.2]; rfl
 have e3 : brokenR haE [2,1] = .tuple [stA (0,0),i64 0] := by unfold brokenR; rw [ex_hall.1,ex_hall.2.1]; rfl
 have e4 : brokenR haE [0,0] = .tuple [stA (0,0),i64 12] := by unfold brokenR; rw [ex_hall.2.2.1,ex_hall.2.2.2]; rfl
 obtain ⟨l,hl,e5⟩ : ∃ l : List S2,l.length = 3 ∧ homeR plE (2,3) (1,true) = .tuple [sts l,i64 91,i64 0] := by
  obtain ⟨x,h1,h2⟩ := Option.map_eq_some_iff.1 ex_home.2
  refine ⟨x.1,congrArg Prod.fst h2,?_⟩
  unfold homeR
  rw [ex_home.1,h1,if_neg (not_not_intro rfl)]
  show AV.tuple [sts x.1,i64 x.2,i64 0] = _
  rw [show x.2 = 91 from congrArg Prod.snd h2]
 rw [e1] at h45
 rw [e2] at h17
 rw [e5] at h27
 rw [e3] at h35a
 rw [e4] at h35b
 refine sound (d := 2) tok2 mixed2 Tryz.func5 (by kernel_rfl) (by kernel_rfl) ?_
 (conv=>whnf); refine .inl ⟨_,_,byX rfl (S20),?_⟩
 (conv=>whnf); refine .inl ⟨_,_,byX rfl (Sound1.pl (S21) rfl),?_⟩
 (conv=>whnf); refine .inl ⟨_,_,byX rfl (Sound1.pl (h45) rfl),?_⟩
 (conv=>whnf); refine .inl ⟨_,_,byX rfl (S20),?_⟩
 (conv=>whnf); refine .inl ⟨_,_,byX rfl (h27),?_⟩
 (conv=>whnf); refine .inl ⟨_,_,byX rfl (S20),?_⟩
 (conv=>whnf); refine .inl ⟨_,_,byX rfl (h17),?_⟩
 (conv=>whnf); refine .inl ⟨_,_,byX rfl (S25),?_⟩
 (conv=>whnf); refine .inl ⟨_,_,byX rfl (Sound1.pl (h35a ⟨rfl,rfl⟩) rfl),?_⟩
 (conv=>whnf); refine .inl ⟨_,_,byX rfl (S25),?_⟩
 (conv=>whnf); refine .inl ⟨_,_,byX rfl (Sound1.pl (h35b ⟨rfl,rfl⟩) rfl),?_⟩
 (conv=>whnf); refine ifB_beq (fun w1=>?_) (fun w1=>?_)
 ·(conv=>whnf); refine .inl ⟨_,_,byX rfl (Sound1.pl (h23 rfl) rfl),?_⟩
  (conv=>whnf); refine ⟨?_,nofun⟩
  rfl
 ·(exfalso; omega)
end Go.Tr

/- Data of chapter 7 that the ends share. Conditions: none. -/
/- Plain laws: decimal numerals. Conditions: none. -/
namespace Go.Tr
open Go.Lib

def isDig (c : UInt8) : Bool := Nat.ble 48 c.toNat && Nat.ble c.toNat 57
theorem isDig_iff {c : UInt8} : isDig c = true ↔ 48 ≤ c.toNat ∧ c.toNat ≤ 57 := by simp [isDig]
def decV (l : List UInt8) : Nat := l.foldl (fun a c=>10 * a + (c.toNat - 48)) 0
theorem decV_snoc (l : List UInt8) (c : UInt8) : decV (l ++ [c]) = 10 * decV l + (c.toNat - 48) := by simp [decV]
theorem head_app {α : Type} {l r : List α} (h : l ≠ []) : (l ++ r).head? = l.head? := by
 cases l with
 | nil=>exact absurd rfl h
 | cons=>rfl
theorem digOf (d : Nat) (h : d < 10) : (UInt8.ofNat (48 + d)).toNat = 48 + d := by
  rw [UInt8.toNat_ofNat']; omega
theorem dec_dig : ∀ u : Nat,(∀ c ∈ decDigits u,isDig c = true) ∧ decV (decDigits u) = u ∧ decDigits u ≠ [] ∧ (u ≠ 0 → (decDigits u).head? ≠ some 48)
 | u => by
  by_cases h : u < 10
  ·have e : decDigits u = [UInt8.ofNat (48 + u)] := by rw [decDigits,dif_pos h]
   have hd := digOf u h
   rw [e]
   refine ⟨fun c hc=>?_,?_,by simp,fun h0 h1=>?_⟩
   ·rw [List.mem_singleton.1 hc,isDig_iff,hd]; omega
   ·simp only [decV,List.foldl_cons,List.foldl_nil,hd]; omega
   ·simp only [List.head?_cons,Option.some.injEq] at h1
    rw [h1] at hd
    have : (48 : UInt8).toNat = 48 := rfl
    omega
  ·have e : decDigits u = decDigits (u / 10) ++ [UInt8.ofNat (48 + u % 10)] := by rw [decDigits,dif_neg h]
   have hd := digOf (u % 10) (by omega)
   obtain ⟨h1,h2,h3,h4⟩ := dec_dig (u / 10)
   rw [e]
   refine ⟨fun c hc=>?_,?_,by simp,fun h0 h5=>h4 (by omega) ?_⟩
   ·rcases List.mem_append.1 hc with hc | hc
    ·exact h1 c hc
    ·rw [List.mem_singleton.1 hc,isDig_iff,hd]; omega
   ·rw [decV_snoc,h2,hd]; omega
   ·rwa [head_app h3] at h5
theorem dec_of : ∀ (n : Nat) (l : List UInt8),l.length = n → l ≠ [] → (∀ c ∈ l,isDig c = true) → (l.head? ≠ some 48 ∨ l.length = 1) → decDigits (decV l) = l
 | 0,l,hn,h0,_,_=>absurd (List.length_eq_zero_iff.1 hn) h0
 | n + 1, l, hn, h0, hd, hh => by
  obtain ⟨r,c,rfl⟩ : ∃ r c,l = r ++ [c] := ⟨l.dropLast,l.getLast h0,(List.dropLast_concat_getLast h0).symm⟩
  have hc := isDig_iff.1 (hd c (by simp))
  have hof : UInt8.ofNat (48 + (c.toNat - 48)) = c := by
   rw [show 48 + (c.toNat - 48) = c.toNat by omega]; simp
  rw [decV_snoc]
  by_cases hr : r = []
  ·subst hr
   rw [show decV [] = 0 from rfl,decDigits,dif_pos (by omega),show 10 * 0 + (c.toNat - 48) = c.toNat - 48 by omega,hof]; rfl
  ·have hh' : r.head? ≠ some 48 := by
    rcases hh with hh | hh
    ·rwa [head_app hr] at hh
    ·rw [List.length_append,List.length_singleton] at hh
     have := List.length_pos_iff.2 hr
     omega
   have ih := dec_of n r (by simpa using hn) hr (fun c h=>hd c (by simp [h])) (.inl hh')
   have hpos : decV r ≠ 0 := fun e=>by
    rw [e] at ih
    rw [← ih] at hh'
    exact hh' (by rw [decDigits,dif_pos (by omega)]; rfl)
   rw [decDigits,dif_neg (by omega),show (10 * decV r + (c.toNat - 48)) / 10 = decV r by omega,show (10 * decV r + (c.toNat - 48)) % 10 = c.toNat - 48 by omega,ih,hof]
theorem decFrom_dig : ∀ (l : List UInt8) (a : Nat),(∀ c ∈ l,isDig c = true) → decFrom a l = some (l.foldl (fun a c=>10 * a + (c.toNat - 48)) a)
 | [],_,_=>rfl
 | c :: l,a,h=>by
  have hc := isDig_iff.1 (h c (.head _))
  rw [decFrom,digitVal,if_pos hc]
  show decFrom _ l = _
  rw [decFrom_dig l _ fun c h'=>h c (.tail _ h'),List.foldl_cons,Nat.mul_comm]
theorem parse_dig {l : List UInt8} (h0 : l ≠ []) (hd : ∀ c ∈ l,isDig c = true) (hl : l.length ≤ 18) : parseMag l = .ok (decV l) := by
  rw [parseMag_short l hl,decNat,if_neg (by simpa using h0),decFrom_dig l 0 hd]; rfl
theorem decV_lt : ∀ (n : Nat) (l : List UInt8),l.length = n → (∀ c ∈ l,isDig c = true) → decV l < 10 ^ n
 | 0,l,hn,_=>by rw [List.length_eq_zero_iff.1 hn]; decide
 | n + 1,l,hn,hd=>by
  have h0 : l ≠ [] := fun e=>by rw [e] at hn; cases hn
  obtain ⟨r,c,rfl⟩ : ∃ r c,l = r ++ [c] := ⟨l.dropLast,l.getLast h0,(List.dropLast_concat_getLast h0).symm⟩
  have := decV_lt n r (by simpa using hn) fun c h=>hd c (by simp [h])
  have hc := isDig_iff.1 (hd c (by simp))
  rw [decV_snoc,Nat.pow_succ]; omega

def magL (l : List UInt8) : List UInt8 := if l.head? = some 45 then l.tail else l
def refOk (l : List UInt8) (k : Nat) : Bool := !(magL l).isEmpty && Nat.ble (magL l).length k && !((magL l).head? == some 48 && Nat.ble 2 l.length) && (magL l).all isDig
def refV (l : List UInt8) : Int := if l.head? = some 45 then -(decV (magL l) : Int) else decV (magL l)
theorem itoa_neg' {n : Int} (h : n < 0) : itoa n = 45 :: decDigits n.natAbs := by rw [itoa,if_pos h]
theorem itoa_pos' {n : Int} (h : ¬ n < 0) : itoa n = decDigits n.toNat := by rw [itoa,if_neg h]
theorem head_dec (u : Nat) : (decDigits u).head? ≠ some 45 := fun e=>by
  have := (dec_dig u).1 45 (List.mem_of_mem_head? e)
  revert this; decide
theorem magL_itoa (n : Int) : magL (itoa n) = decDigits n.natAbs ∧ ((itoa n).head? = some 45 ↔ n < 0) := by
 by_cases h : n < 0
 ·rw [itoa_neg' h]
  exact ⟨by simp [magL],by simp [h]⟩
 ·rw [itoa_pos' h]
  refine ⟨?_,?_⟩
  ·rw [magL,if_neg (head_dec _),show n.toNat = n.natAbs by omega]
  ·constructor
   ·intro e; exact absurd e (head_dec _)
   ·intro e; exact absurd e h
theorem trim_itoa (n : Int) : trimPrefix (itoa n) [45] = magL (itoa n) := by
 unfold trimPrefix hasPrefix magL
 cases h : itoa n with
 | nil=>rfl
 | cons c r =>
  by_cases hc : c = 45
  ·subst hc; simp
  ·simp [hc,Ne.symm hc]
theorem refOk_itoa (n : Int) (k : Nat) : refOk (itoa n) k = Nat.ble (decDigits n.natAbs).length k ∧ refV (itoa n) = n := by
 obtain ⟨h1,h2⟩ := magL_itoa n
 obtain ⟨d1,d2,d3,d4⟩ := dec_dig n.natAbs
 unfold refOk refV
 rw [h1,d2]
 constructor
 ·have e1 : (decDigits n.natAbs).isEmpty = false := by cases h : decDigits n.natAbs with | nil=>exact absurd h d3 | cons=>rfl
  have e2 : (decDigits n.natAbs).all isDig = true := List.all_eq_true.2 d1
  rw [e1,e2]
  have e3 : ((decDigits n.natAbs).head? == some 48 && Nat.ble 2 (itoa n).length) = false := by
   by_cases h0 : n = 0
   ·subst h0
    rw [show itoa 0 = decDigits 0 by rw [itoa_pos' (by omega)]; rfl,show decDigits (0 : Int).natAbs = decDigits 0 from rfl,decDigits,dif_pos (by omega)]; rfl
   ·have := d4 (by omega)
    rw [Bool.and_eq_false_iff]; left
    simpa using this
  rw [e3]; simp
 ·split
  ·rename_i h; have h5 := h2.1 h; omega
  ·rename_i h; have h5 : ¬ n < 0 := fun e=>h (h2.2 e)
   omega
theorem itoa_of_ref {l : List UInt8} {k : Nat} (h : refOk l k = true) : itoa (refV l) = l := by
 unfold refOk at h
 simp only [Bool.and_eq_true,Bool.not_eq_true',List.all_eq_true] at h
 obtain ⟨⟨⟨h1,h2⟩,h3⟩,h4⟩ := h
 have h0 : magL l ≠ [] := fun e=>by rw [e] at h1; cases h1
 have h3' : ¬ ((magL l).head? = some 48 ∧ 2 ≤ l.length) := fun ⟨a,b⟩=>by
  rw [a,show Nat.ble 2 l.length = true from Nat.ble_eq ▸ b] at h3; revert h3; decide
 unfold refV
 unfold magL at h0 h1 h2 h3 h4 h3' ⊢
 by_cases hs : l.head? = some 45
 ·rw [if_pos hs] at h0 h1 h2 h3 h4 h3' ⊢
  rw [if_pos hs]
  obtain ⟨r,rfl⟩ : ∃ r,l = 45 :: r := by
   cases l with
   | nil=>cases hs
   | cons c r=>simp at hs; exact ⟨r,by rw [hs]⟩
  simp only [List.tail_cons] at *
  have hr := List.length_pos_iff.2 h0
  have hh : r.head? ≠ some 48 := fun e=>h3' ⟨e,by simp; omega⟩
  have := dec_of _ r rfl h0 h4 (.inl hh)
  have hp : decV r ≠ 0 := fun e=>by
   rw [e] at this
   exact hh (by rw [← this,decDigits,dif_pos (by omega)]; rfl)
  rw [itoa_neg' (by omega),show (-(decV r : Int)).natAbs = decV r by omega,this]
 ·rw [if_neg hs] at h0 h1 h2 h3 h4 h3' ⊢
  rw [if_neg hs]
  have hr := List.length_pos_iff.2 h0
  rw [itoa_pos' (by omega),Int.toNat_natCast]
  refine dec_of _ l rfl h0 h4 ?_
  by_cases h : l.length = 1
  ·exact .inr h
  ·exact .inl fun e=>h3' ⟨e,by omega⟩
theorem atoi_itoa {n : Int} (h : (decDigits n.natAbs).length ≤ 17) : atoiAll (itoa n) = .ok n := by
 obtain ⟨d1,d2,d3,d4⟩ := dec_dig n.natAbs
 have hm := parse_dig d3 d1 (by omega)
 rw [d2] at hm
 have hlt : n.natAbs < 10 ^ 17 := by
  have := decV_lt _ _ rfl d1
  rw [d2] at this
  exact Nat.lt_of_lt_of_le this (Nat.pow_le_pow_right (by omega) h)
 have hp : (10 : Nat) ^ 17 = 100000000000000000 := by decide
 by_cases hn : n < 0
 ·rw [itoa_neg' hn,atoiAll_minus,hm]
  unfold signed
  simp only
  rw [if_neg (by omega)]
  congr 1
  omega
 ·rw [itoa_pos' hn,show n.toNat = n.natAbs by omega]
  cases h2 : decDigits n.natAbs with
  | nil=>exact absurd h2 d3
  | cons c r =>
   have hc := isDig_iff.1 (d1 c (by rw [h2]; exact .head _))
   rw [atoiAll_plain c r (by omega) (by omega),← h2,hm]
   unfold signless
   simp only
   rw [if_neg (by omega)]
   congr 1
   omega
end Go.Tr

/- Contracts of the library's functions over strings, out of the kit's laws, over any program. Conditions: none. -/
namespace Go.Tr
open Go Go.RowKit Go.Proofs Go.Shelf
set_option maxRecDepth 20000
set_option maxHeartbeats 8000000
variable [GTab]

theorem below_of_kit (hk : ¬ GTab.kept) {B : Nat} {w w' : World} (h : RowKit.Below B w w') : Below B w w' := ⟨h.os,h.tape,h.output,h.size,h.block,fun e=>absurd e hk⟩
theorem below_grown (w : World) (k : Nat) (os : Array Obj) : Below w.heap.size w (Go.Sort.grow (w.drewN k) os) := by
 refine ⟨rfl,rfl,rfl,?_,fun b hb=>?_,fun _=>Nat.le_add_right _ _⟩
 ·simp [Go.Sort.grow]
 ·show (w.heap ++ os)[b]? = _
  rw [Array.getElem?_append_left hb]
theorem g_cell {P : Program} {w : World} {q : Nat → Prop} (hg : GOk P w q) {g : Nat} {l : List AV} (h : GTab.gt g = some l) {v : Value} {j : Nat} (hj : l[j]? = some (.val v)) : w.cell? ⟨g,j,none⟩ = some v := by
 obtain ⟨h1,_⟩ := hg.g g l h
 cases h1 with
 | rptr _ b off x _ hc hr =>
  have hlt : j < l.length := (List.getElem?_eq_some_iff.1 hj).1
  have := hr j _ hj
  have hc' := (hc j hlt).1
  rw [Nat.zero_add] at hc'
  rw [hc']
  generalize x j = z at this
  cases this
  rfl
theorem g_err {P : Program} {w : World} {q : Nat → Prop} (hg : GOk P w q) {g : Nat} {l : List AV} (h : GTab.gt g = some l) {j : Nat} (hj : l[j]? = some .err) : ∃ t v,w.cell? ⟨g,j,none⟩ = some (.iface t v) := by
 obtain ⟨h1,_⟩ := hg.g g l h
 cases h1 with
 | rptr _ b off x _ hc hr =>
  have hlt : j < l.length := (List.getElem?_eq_some_iff.1 hj).1
  have := hr j _ hj
  have hc' := (hc j hlt).1
  rw [Nat.zero_add] at hc'
  rw [hc']
  generalize x j = z at this
  cases this with
  | err t v=>exact ⟨t,v,rfl⟩
theorem g_var {P : Program} {w : World} {q : Nat → Prop} (hg : GOk P w q) {g : Nat} {vs : List Value} (h : GTab.gt g = some (vs.map .val)) {name : String} (hn : P.globalNamed name = some g) : w.var? P name = some vs.toArray := by
 obtain ⟨h1,cs,t,a,hc,hz⟩ := hg.g g _ h
 simp only [World.var?,hn,Option.bind_some,hc]
 have e : cs = vs.toArray := by
  apply Array.ext_getElem?
  intro j
  by_cases hj : j < vs.length
  ·have := g_cell hg h (v := vs[j]) (j := j) (by simp [hj])
   simp only [World.cell?,hc] at this
   rw [show vs.toArray[j]? = some vs[j] by simp [hj]]
   simpa using this
  ·rw [List.length_map] at hz
   rw [Array.getElem?_eq_none (by omega),show vs.toArray[j]? = none by simp; omega]
 rw [e]
theorem g_int {P : Program} {w : World} {q : Nat → Prop} (hg : GOk P w q) {g : Nat} (h : GTab.gi g = true) : ∃ m : Int,w.cell? ⟨g,0,none⟩ = some (.int .i64 m) := by
  obtain ⟨_,m,t,a,hc⟩ := hg.i g h
  exact ⟨m,by simp [World.cell?,hc]⟩
section
variable {P : Program} {ρ : Ren}
theorem args_one {w : World} {q : Nat → Prop} {vs : Array Value} {v : Value} (hs : vs.size = 1) (hv : ∀ (i : Nat) x,[AV.val v][i]? = some x → VT P w q x (vs.getD i undef)) : vs = #[v] := by
 have h0 := hv 0 _ rfl
 apply Array.ext_getElem?
 intro i
 match i with
 | 0 =>
  rw [Array.getElem?_eq_getElem (by omega)]
  have : vs.getD 0 undef = vs[0] := by simp [Array.getD,hs]
  rw [this] at h0
  generalize vs[0] = z at h0
  cases h0; rfl
 | i + 1=>rw [Array.getElem?_eq_none (by omega)]; simp
theorem args_two {w : World} {q : Nat → Prop} {vs : Array Value} {x : AV} {v : Value} (hs : vs.size = 2) (hv : ∀ (i : Nat) y,[x,AV.val v][i]? = some y → VT P w q y (vs.getD i undef)) : ∃ u,vs = #[u,v] ∧ VT P w q x u := by
 have h0 := hv 0 _ rfl
 have h1 := hv 1 _ rfl
 refine ⟨vs.getD 0 undef,?_,h0⟩
 apply Array.ext_getElem?
 intro i
 match i with
 | 0 =>
  rw [Array.getElem?_eq_getElem (by omega)]
  simp [Array.getD,hs]
 | 1 =>
  rw [Array.getElem?_eq_getElem (by omega)]
  have : vs.getD 1 undef = vs[1] := by simp [Array.getD,hs]
  rw [this] at h1
  generalize vs[1] = z at h1
  cases h1; rfl
 | i + 2=>rw [Array.getElem?_eq_none (by omega)]; simp

theorem itoa_s (L : LaysM.n171 P ρ) {g : Nat} (hgt : GTab.gt g = some ((Lib.pow10Tab.map fun z => Value.int .u64 z).map .val)) (hn : P.globalNamed "internal/strconv.uint64pow10" = some g) (ef : ∀ z w, (callFunc (ρ.f 171) z).run P w = .ok (.enter (ρ.f 171) z) w)
  (n : Int) (h0 : -9223372036854775808 ≤ n) (h1 : n ≤ 9223372036854775807) : Sound1 P (ρ.f 171) [.val (.int .i64 n)] (.val (.string ⟨(Lib.itoa n).toArray⟩)) true := by
 refine Sound1.pl ⟨ef,fun w q vs hq hg hs hv=>?_⟩ rfl
 rw [args_one hs hv]
 refine (Any.strconv_Itoa L n h0 h1 w (g_var hg hgt hn)).mono ?_
 rintro e w' ⟨rfl,k,os,rfl⟩
 exact ⟨_,rfl,below_grown _ _ _,.val _⟩

def atoiV (s : ByteArray) : Int := match Lib.atoiAll s.data.toList with | .ok v=>v | .syntax=>0 | .range=>Lib.atoiSat s.data.toList
def atoiOk (s : ByteArray) : Bool := match Lib.atoiAll s.data.toList with | .ok _=>true | .syntax=>false | .range=>false
theorem atoi_s (hk : ¬ GTab.kept) (L : LaysC.n172 P ρ) (h15 : GTab.gt (ρ.g 15) = some [.err]) (h16 : GTab.gt (ρ.g 16) = some [.err]) (ef : ∀ z w,(callFunc (ρ.f 172) z).run P w = .ok (.enter (ρ.f 172) z) w)
  (s : ByteArray) (hs : s.size ≤ 281474976710656) : Sound1 P (ρ.f 172) [.val (.string s)] (.tuple [.val (.int .i64 (atoiV s)),if atoiOk s then .val .nilIface else .err]) false := by
 refine ⟨ef,fun w q vs hq hg hz hv=>?_⟩
 rw [args_one hz hv]
 have tup : ∀ {w' : World} {p : Nat → Prop} {a : Int} {y : AV} {u : Value},VT P w' p y u → VT P w' p (.tuple [.val (.int .i64 a),y]) (.tuple #[.int .i64 a,u]) := fun h=>.tuple _ _ rfl fun i x hi=>by
  match i,hi with
  | 0,hi=>cases hi; exact .val _
  | 1,hi=>cases hi; exact h
 unfold atoiV atoiOk
 cases hc : Lib.atoiAll s.data.toList with
 | ok v =>
  refine (Any.strconv_Atoi_ok L s (by omega) v hc w).mono ?_
  rintro e w' ⟨rfl,h⟩
  refine ⟨_,rfl,?_,tup (.val _)⟩
  rcases h with rfl | ⟨t,rfl⟩
  ·exact Below.refl _ _
  ·exact below_of_kit hk (Lib.bytesWorld_below _ _ _)
 | «syntax» =>
  obtain ⟨te,pe,h⟩ := g_err hg h15 (j := 0) rfl
  refine (Any.strconv_Atoi_syntax L s hs hc _ w h (.inr ⟨te,pe,rfl⟩)).mono ?_
  rintro e w' ⟨N,rfl,h1,h2,h3⟩
  exact ⟨_,rfl,below_of_kit hk h3,tup (.err _ _)⟩
 | range =>
  obtain ⟨te,pe,h⟩ := g_err hg h16 (j := 0) rfl
  refine (Any.strconv_Atoi_range L s hs hc _ w h (.inr ⟨te,pe,rfl⟩)).mono ?_
  rintro e w' ⟨N,rfl,h1,h2,h3⟩
  exact ⟨_,rfl,below_of_kit hk h3,tup (.err _ _)⟩

def sepL (s sep : ByteArray) : List ByteArray := Lib.splitB sep 0 (Lib.countB s sep) s
theorem split_s (L : Lays.n146 P ρ) (hi9 : (P.info? (ρ.t 9)).map (fun i=>(i.zero,i.size,i.bytes)) = some (some (.string ByteArray.empty),1,16)) (hm : GTab.gi (ρ.g 1) = true) (ef : ∀ z w,(callFunc (ρ.f 146) z).run P w = .ok (.enter (ρ.f 146) z) w)
  (s sep : ByteArray) (hs : s.size < 4294967281) (h1 : 1 ≤ sep.size) : Sound1 P (ρ.f 146) [.val (.string s),.val (.string sep)] (.rslice 1 (sepL s sep).length (fun i=>[.val (.string ((sepL s sep).getD i ByteArray.empty))])) false := by
 refine ⟨ef,fun w q vs hq hg hz hv=>?_⟩
 obtain ⟨u,rfl,hu⟩ := args_two hz hv
 cases hu
 obtain ⟨m,hmc⟩ := g_int hg hm
 refine (Any.strings_Split L hi9 s sep m w hs hmc h1).mono ?_
 have hlen : (sepL s sep).length = Lib.countB s sep + 1 := Lib.splitB_all sep h1 0 _ s rfl
 rintro e w' ⟨rfl,rfl⟩
 rw [← hlen]
 show ∃ u,Ending.returned (Value.slice (some ⟨w.heap.size,0,none⟩) (sepL s sep).length (sepL s sep).length) = .returned u ∧ _
 refine ⟨_,rfl,(Below.refl _ _).alloc (Nat.le_refl _) _,?_⟩
 refine .rslice 1 _ _ w.heap.size 0 _ (fun i j=>.string ((sepL s sep).getD i ByteArray.empty)) (Nat.le_refl _) (.inr ⟨Nat.le_refl _,by simp⟩) (fun _ _=>rfl) (fun i j hi hj=>⟨?_,rfl⟩) (fun i j x hi hx=>?_)
 ·have hj0 : j = 0 := by omega
  subst hj0
  rw [World.cell?_alloc_new]
  simp [List.getElem?_map,sepL,hi,show i < (Lib.splitB sep 0 (Lib.countB s sep) s).length from hi]
 ·match j,hx with
  | 0,hx=>cases hx; exact .val _

def joinB (l : List ByteArray) (sep : ByteArray) : ByteArray := ⟨(Lib.join (l.map (·.data.toList)) sep.data.toList).toArray⟩
theorem join_s (hk : ¬ GTab.kept) (L : Lays.n156 P ρ) (X : Builder.Extra P ρ) (ef : ∀ z w,(callFunc (ρ.f 156) z).run P w = .ok (.enter (ρ.f 156) z) w) (l : List ByteArray) (sep : ByteArray) (f : Nat → List AV)
  (hf : ∀ i,i < l.length → f i = [.val (.string (l.getD i ByteArray.empty))]) (hN : l.length ≤ 140737488355328) (hlen : (joinB l sep).size ≤ 140737488355328) : Sound1 P (ρ.f 156) [.rslice 1 l.length f,.val (.string sep)] (.val (.string (joinB l sep))) true := by
 refine Sound1.pl ⟨ef,fun w q vs hq hg hz hv=>?_⟩ rfl
 obtain ⟨u,rfl,hu⟩ := args_two hz hv
 generalize hm : l.length = n at hu
 cases hu with
 | rslice0 _ _ a k =>
  have : l = [] := List.length_eq_zero_iff.1 hm
  subst this
  refine (Any.strings_Join_none L X a k sep w).mono ?_
  rintro e w' ⟨rfl,rfl⟩
  exact ⟨_,rfl,Below.refl _ _,.val _⟩
 | rslice _ _ _ b off k x hle hb hl hc hr =>
  subst hm
  refine (Any.strings_Join L X b off k l sep w (fun j y hy=>?_) (hq b hb) hN hle ?_).mono ?_
  ·have hj : j < l.length := (List.getElem?_eq_some_iff.1 hy).1
   have h1 := hr j 0 (.val (.string (l.getD j ByteArray.empty))) hj (by rw [hf j hj]; rfl)
   have h2 := (hc j 0 hj (by omega)).1
   rw [Nat.mul_one,Nat.add_zero] at h2
   rw [h2]
   generalize x j 0 = z at h1
   cases h1
   rw [List.getD_eq_getElem?_getD,hy]; rfl
  ·have : (joinB l sep).size = (Lib.join (l.map (·.data.toList)) sep.data.toList).length := by simp [joinB,ByteArray.size]
   omega
  ·rintro e w' ⟨rfl,h⟩
   exact ⟨_,rfl,below_of_kit hk h,.val _⟩
end
end Go.Tr

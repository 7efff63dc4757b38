/- The end of a law's proof in chapter 6: what every law shares; the opening of its arguments. Conditions: none. -/
import Derived.Test.YtpojlhnhokbhkaaGreatRows
import Derived.Test.YtpojlhnhokbhkaaGreatTr12
import Derived.Test.YtpojlhnhokbhkaaGreatTr08
import Derived.ProofKit
import Derived.Test.YtpojlhnhokbhkaaGreatTr11
set_option linter.unusedSectionVars false
set_option linter.unnecessarySimpa false
set_option linter.unusedVariables false
set_option linter.unusedSimpArgs false

namespace Go.Tr
open Go Go.Proofs Go.RowKit Go.WideShapes Go.ChangeShapes
section
variable {H : Type} {enc : TypeId × Value → H} {P : Program}
theorem post_of_below {f : Func} {s : ChangeSpec} {apart fresh handsOn again : Bool} {W W' : World} {args : Array Value} {v : Value} {ds gs : List (DataW H)} {before pa pv : List MemPlace}
  (hW : DataW.Whole enc P f.params.toList s.vars apart W args.toList ds gs before)
  (hres : ∀ (b : Nat) (sp : Nat → Bool) (hd : Bool),DataW.TrodAll enc P W' b sp hd f.resultTypes.toList (v.resultList f.resultTypes.size) (s.fn H (ds ++ gs)).results [])
  (hargs : ∀ sp : Nat → Bool,(∀ p ∈ before,sp p.block = true) → DataW.TrodAll enc P W' 0 sp true f.params.toList args.toList (s.fn H (ds ++ gs)).args pa)
  (hvars : ∀ sp : Nat → Bool,(∀ p ∈ before,sp p.block = true) → DataW.TrodVars enc P W' sp s.vars (s.fn H (ds ++ gs)).vars pv)
  (hps : before = pa ++ pv) (hb : Below W.heap.size W W')
  (hok : ∀ (j : Nat) (t : TypeId) (r : Value),f.resultTypes[j]? = some t → (v.resultList f.resultTypes.size)[j]? = some r → Value.okWide P W' .any 0 t r) :
  s.post enc P f apart fresh handsOn again W args v W' := by
 have hlt : ∀ p ∈ before,p.block < W.heap.size := fun p hp=>hW.lt p hp
 have hold : ∀ p ∈ before,(fun b=>decide (b < W.heap.size)) p.block = true := fun p hp=>by simpa using hlt p hp
 refine ⟨ds,gs,before,[],pa,pv,hW,hres _ _ _,hargs _ hold,hvars _ hold,World.keptBut_mono (fun p hp=>⟨hp,?_⟩) (hb.frame (· ∈ before)),fun _=>?_⟩
 ·rw [hps,List.mem_append] at hp
  exact Or.inr hp
 ·obtain ⟨_,_,_,_,_,hz,hn⟩ := hW
  refine ⟨hok,_,_,([] ++ pa) ++ pv,⟨[] ++ pa,pv,trodAll_append (hargs _ (fun _ _=>rfl)) (hres _ _ _),hvars _ (fun _ _=>rfl),rfl,?_,?_⟩,?_⟩
  ·intro b off hp
   have hin : MemPlace.cell b off ∈ before := by rw [hps]; simpa using hp
   rw [hb.frozen (hlt _ hin)]
   exact hz b off hin
  ·intro ha
   have := hn ha
   rw [hps] at this
   simpa using this
  ·intro p hp _
   rw [hps]
   simpa using hp
end

set_option maxRecDepth 20000
set_option maxHeartbeats 8000000

def AVL (n : Nat) (l l' : List AV) : Prop := l.length = l'.length ∧ ∀ i x y,nth? l i = some x → nth? l' i = some y → x = y ∨ AVF n x y

theorem list_openF {α : Type} {es len : Nat} {f : Nat → List AV} {g : α → List AV} {p : α → Prop} (d : α) {k : Nat} (h : ∀ i,i < len → ∃ a,AVL k (f i) (g a) ∧ p a) :
  ∃ l : List α,l.length = len ∧ (∀ a ∈ l,p a) ∧ AVF (k + 1) (.rslice es len f) (.rslice es l.length fun i=>g (l.getD i d)) := by
 have hx : ∀ i,∃ a,i < len → AVL k (f i) (g a) ∧ p a := fun i=>by
  by_cases hi : i < len
  ·obtain ⟨a,ha⟩ := h i hi
   exact ⟨a,fun _=>ha⟩
  ·exact ⟨d,fun h=>absurd h hi⟩
 refine ⟨(List.range len).map fun i=>Classical.choose (hx i),by simp,fun a ha=>?_,⟨rfl,by simp,fun i hi=>?_⟩⟩
 ·obtain ⟨i,hi,rfl⟩ := List.mem_map.1 ha
  exact (Classical.choose_spec (hx i) (List.mem_range.1 hi)).2
 ·have := (Classical.choose_spec (hx i) hi).1
  simpa [List.getD_eq_getElem?_getD,hi,AVL] using this
theorem int_open {m : Nat} {t : TypeId} {xs : List AV} {P : Program} (hu : P.underlying t = some (.int .i64)) (h : TyC P (m + 1) t xs) : ∃ n,xs = [i64 n] ∧ inK .i64 n := by
  unfold TyC at h
  simpa only [hu] using h
theorem all2_cons {α β : Type} {p : α → β → Prop} {a : α} {l : List α} {m : List β} (h : All2 p (a :: l) m) : ∃ x r,m = x :: r ∧ p a x ∧ All2 p l r := by
  match m,h with
  | x :: r,h=>exact ⟨x,r,rfl,h.1,h.2⟩
theorem all2_nil {α β : Type} {p : α → β → Prop} {m : List β} (h : All2 p [] m) : m = [] := by
  match m,h with
  | [],_=>rfl
theorem AVL_refl {n : Nat} (l : List AV) : AVL n l l := ⟨rfl,fun _ _ _ hx hy=>.inl (Option.some.inj (hx.symm.trans hy))⟩
theorem AVF_orL {k : Nat} {l : List AV} : AVF (k + 1) (.agg l) (.agg l) := ⟨rfl,fun _ _ _ hx hy=>.inl (Option.some.inj (hx.symm.trans hy))⟩
theorem gok_none {w : World} {q : Nat → Prop} : GOk Tryz.prog w q := fun g l h=>by cases h
end Go.Tr

namespace Go.Proofs.YtpojlhnhokbhkaaGreat
open Go.ChangeShapes Go.WideShapes Go.ChangeAt Go.RowKit Go.Tr
theorem Tryz.own : ownKnob Tryz.prog.godebug = none := by kernel_rfl
theorem Tryz.laidOut : laidOutB Tryz.prog = true := by kernel_rfl
end Go.Proofs.YtpojlhnhokbhkaaGreat

/- The opening of spots in chapter 5. Conditions: none. -/
-- seat YtpojlhnhokbhkaaGreat
namespace Go.Tr
open Go Go.Proofs
set_option maxRecDepth 20000
set_option maxHeartbeats 8000000

theorem inK_i64 {n : Int} (h : inK .i64 n) : -9223372036854775808 ≤ n ∧ n ≤ 9223372036854775807 := by
 have hmx : IntKind.max .i64 = 9223372036854775807 := by decide
 have hmn : IntKind.min .i64 = -9223372036854775808 := by decide
 have h1 := h.1
 have h2 := h.2
 omega
theorem fr_open {m : Nat} {xs : List AV} (h : TyC Tryz.prog (m + 2) 26 xs) : ∃ f : Int × Int,xs = [i64 f.1,i64 f.2] ∧ FrI f := by
 unfold TyC at h
 simp only [Tryz.underlying26] at h
 obtain ⟨ps,rfl,h⟩ := h
 obtain ⟨p1,ps,rfl,h1,h⟩ := all2_cons h
 obtain ⟨p2,ps,rfl,h2,h⟩ := all2_cons h
 cases all2_nil h
 obtain ⟨a,rfl,ia⟩ := int_open Tryz.underlying3 h1
 obtain ⟨b,rfl,ib⟩ := int_open Tryz.underlying3 h2
 exact ⟨(a,b),rfl,inK_i64 ia,inK_i64 ib⟩
end Go.Tr

/- Openings of chapter 5: tables, fractions, lines, waterways. Conditions: none. -/
-- seat YtpojlhnhokbhkaaGreat
namespace Go.Tr
open Go Go.Proofs
set_option maxRecDepth 20000
set_option maxHeartbeats 8000000

theorem cells152 : Tryz.prog.cellsOf 87 = 3 := by kernel_rfl
theorem cells133 : Tryz.prog.cellsOf 44 = 2 := by kernel_rfl
theorem pts_deep {m : Nat} {xs : List AV} (h : TyC Tryz.prog (m + 3) 42 xs) : ∃ l : List P3,∃ x,xs = [x] ∧ (∀ k,AVF (k + 2) x (ptsA l)) := by
 unfold TyC at h
 simp only [Tryz.underlying42] at h
 obtain ⟨len,f,rfl,hl,hf⟩ := h
 obtain ⟨l,n1,n2,n3⟩ := list_openF (es := Tryz.prog.cellsOf 87) (f := f) (k := 0) (g := fun n : P3=>[i64 n.1,i64 n.2.1,i64 n.2.2]) (p := fun _=>True) p0 (fun i hi=>by
  have h1 := hf i hi
  unfold TyC at h1
  simp only [Tryz.underlying87] at h1
  obtain ⟨ps,e,h⟩ := h1
  obtain ⟨q1,ps,rfl,h1,h⟩ := all2_cons h
  obtain ⟨q2,ps,rfl,h2,h⟩ := all2_cons h
  obtain ⟨q3,ps,rfl,h3,h⟩ := all2_cons h
  cases all2_nil h
  obtain ⟨a,rfl,_⟩ := int_open Tryz.underlying3 h1
  obtain ⟨b,rfl,_⟩ := int_open Tryz.underlying3 h2
  obtain ⟨c,rfl,_⟩ := int_open Tryz.underlying3 h3
  exact ⟨(a,b,c),by rw [e]; exact AVL_refl _,trivial⟩)
 refine ⟨l,_,rfl,fun k=>?_⟩
 rw [cells152]
 refine ⟨rfl,n1.symm,fun i hi=>?_⟩
 have := n3.2.2 i hi
 refine ⟨this.1,fun j x y hx hy=>?_⟩
 rcases this.2 j x y hx hy with e | e
 ·exact .inl e
 ·exact e.elim
theorem rows_deep {m : Nat} {xs : List AV} (h : TyC Tryz.prog (m + 5) 22 xs) : ∃ t : List MRow,∃ x,xs = [x] ∧ AVF 5 x (rowsA t) ∧ t.length ≤ 9223372036854775807 := by
 unfold TyC at h
 simp only [Tryz.underlying22] at h
 obtain ⟨len,f,rfl,hl,hf⟩ := h
 obtain ⟨l,n1,n2,n3⟩ := list_openF (es := Tryz.prog.cellsOf 44) (f := f) (k := 4) (g := fun r : MRow=>[i64 r.o,ptsA r.ps]) (p := fun _=>True) r0 (fun i hi=>by
  have h1 := hf i hi
  unfold TyC at h1
  simp only [Tryz.underlying44] at h1
  obtain ⟨ps,e,h⟩ := h1
  obtain ⟨q1,ps,rfl,h1,h⟩ := all2_cons h
  obtain ⟨q2,ps,rfl,h2,h⟩ := all2_cons h
  cases all2_nil h
  obtain ⟨a,rfl,_⟩ := int_open Tryz.underlying3 h1
  obtain ⟨l,y,rfl,hy⟩ := pts_deep h2
  refine ⟨⟨a,l⟩,?_,trivial⟩
  rw [e]
  refine ⟨rfl,fun j x y hx hy'=>?_⟩
  match j,hx,hy' with
  | 0,hx,hy'=>cases hx; cases hy'; exact .inl rfl
  | 1,hx,hy'=>cases hx; cases hy'; exact .inr (hy 2))
 refine ⟨l,_,rfl,?_,by rw [n1]; exact hl⟩
 rw [cells133] at n3
 rw [cells133]
 exact n3
theorem tbl_open {x : AV} (h : TyA Tryz.prog 6 24 x) : ∃ t : List MRow,AVF 6 x (tblA t) ∧ t.length ≤ 9223372036854775807 := by
 simp only [TyA,Tryz.underlying24] at h
 obtain ⟨xs,rfl,h⟩ := h
 unfold TyC at h
 simp only [Tryz.underlying24] at h
 obtain ⟨ps,rfl,h⟩ := h
 obtain ⟨p1,ps,rfl,h1,h⟩ := all2_cons h
 cases all2_nil h
 obtain ⟨t,y,rfl,ht,hl⟩ := rows_deep h1
 refine ⟨t,⟨rfl,fun i x y hx hy=>?_⟩,hl⟩
 match i,hx,hy with
 | 0,hx,hy=>cases hx; cases hy; exact .inr ht
theorem frac_open {x : AV} (h : TyA Tryz.prog 6 26 x) : ∃ f : Int × Int,AVF 6 x (gaF f) ∧ FrI f := by
 simp only [TyA,Tryz.underlying26] at h
 obtain ⟨xs,rfl,h⟩ := h
 obtain ⟨f,rfl,i⟩ := fr_open h
 exact ⟨f,AVF_orL,i⟩
def WtI (l : Int × Int × Int) : Prop := (-9223372036854775808 ≤ l.1 ∧ l.1 ≤ 9223372036854775807) ∧ (-9223372036854775808 ≤ l.2.1 ∧ l.2.1 ≤ 9223372036854775807) ∧ -9223372036854775808 ≤ l.2.2 ∧ l.2.2 ≤ 9223372036854775807
end Go.Tr

/- Contracts for the law of parts: remainders, comparing fractions; its opening. Conditions: none. -/
-- seat YtpojlhnhokbhkaaGreat
namespace Go.Tr
open Go Go.Proofs
set_option maxRecDepth 20000
set_option maxHeartbeats 8000000

theorem S9 (n b : Int) (hb : 0 < b ∧ b ≤ 1000000) : SP 9 [i64 n,i64 b] (i64 (n % b)) false := by
 have h1 := Int.tmod_lt_of_pos n hb.1
 have h2 := Int.lt_tmod_of_pos n hb.1
 have h3 := Int.emod_nonneg n (show b ≠ 0 by omega)
 have h4 := Int.emod_lt_of_pos n hb.1
 have h5 := Int.emod_add_mul_ediv n b
 have h6 := Int.tmod_add_mul_tdiv n b
 have h7 : n % b = if n.tmod b < 0 then n.tmod b + b else n.tmod b := by
  rcases Int.lt_or_le n 0 with h | h
  ·have e := Int.tmod_eq_emod (a := n) (b := b)
   rw [e]
   split <;> split <;> omega
  ·rw [Int.tmod_eq_emod_of_nonneg h,if_neg (by omega)]
 rw [h7]
 refine sound (d := 2) tok2 mixed2 Tryz.func9 (by kernel_rfl) (by kernel_rfl) ?_
 (conv=>whnf); refine ⟨(by omega),?_⟩
 (conv=>whnf); refine ifB_dec (fun w1=>?_) (fun w1=>?_)
 ·(conv=>whnf); refine ⟨inK64 (by omega) (by omega),?_⟩
  (conv=>whnf); refine ⟨?_,nofun⟩
  rw [if_pos w1]
  rfl
 ·(conv=>whnf); refine ⟨?_,nofun⟩
  rw [if_neg w1]
  rfl
theorem sg_cut (a b : Int) : (a < b → sgI (a - b) = -1) ∧ (a > b → sgI (a - b) = 1) ∧ (¬ a < b → ¬ a > b → sgI (a - b) = 0) := by
  have := sg_cases (a - b)
  omega
theorem S19 (p q : Rat) (hp : smR p) (hq : smR q) : SP 19 [gaF (frI p),gaF (frI q)] (i64 (cmpR p q)) false := by
 have h1 := p.den_pos
 have h2 := q.den_pos
 unfold smR at hp hq
 have m1 := absM (a := (frI p).1) (b := (frI q).2) (A := 1000000000) (B := 1000000000) (by show p.num.natAbs ≤ _; omega) (by show ((q.den : Nat) : Int).natAbs ≤ _; omega)
 have m2 := absM (a := (frI q).1) (b := (frI p).2) (A := 1000000000) (B := 1000000000) (by show q.num.natAbs ≤ _; omega) (by show ((p.den : Nat) : Int).natAbs ≤ _; omega)
 have i1 : inK .i64 ((frI p).1 * (frI q).2) := inK_of (by omega)
 have i2 : inK .i64 ((frI q).1 * (frI p).2) := inK_of (by omega)
 have ec : cmpR p q = sgI ((frI p).1 * (frI q).2 - (frI q).1 * (frI p).2) := rfl
 obtain ⟨s1,s2,s3⟩ := sg_cut ((frI p).1 * (frI q).2) ((frI q).1 * (frI p).2)
 rw [← ec] at s1 s2 s3
 refine sound (d := 2) tok2 mixed2 Tryz.func19 (by kernel_rfl) (by kernel_rfl) ?_
 (conv=>whnf); refine ⟨[],by kernel_rfl,?_⟩
 (conv=>whnf); refine ⟨inK64 (by omega) (by omega),?_⟩
 (conv=>whnf); refine ⟨inK64 (by omega) (by omega),?_⟩
 (conv=>whnf); refine ifB_dec (fun w1=>?_) (fun w1=>?_)
 ·(conv=>whnf); refine ⟨?_,nofun⟩
  (first | contradiction | exact i1 | exact i2 | exact congrArg i64 (s1 (by assumption)).symm | exact congrArg i64 (s2 (by assumption)).symm | exact congrArg i64 (s3 (by assumption) (by assumption)).symm | omega)
 ·(conv=>whnf); refine ifB_dec (fun w2=>?_) (fun w2=>?_)
  ·(conv=>whnf); refine ⟨?_,nofun⟩
   (first | contradiction | exact i1 | exact i2 | exact congrArg i64 (s1 (by assumption)).symm | exact congrArg i64 (s2 (by assumption)).symm | exact congrArg i64 (s3 (by assumption) (by assumption)).symm | omega)
  ·(conv=>whnf); refine ⟨?_,nofun⟩
   (first | contradiction | exact i1 | exact i2 | exact congrArg i64 (s1 (by assumption)).symm | exact congrArg i64 (s2 (by assumption)).symm | exact congrArg i64 (s3 (by assumption) (by assumption)).symm | omega)
def CutI (l : Int × Int × Int × Int) : Prop := (-9223372036854775808 ≤ l.1 ∧ l.1 ≤ 9223372036854775807) ∧ WtI l.2
abbrev cutA (l : Int × Int × Int × Int) : AV := .agg [i64 l.1,i64 l.2.1,i64 l.2.2.1,i64 l.2.2.2]
theorem cut_open {x : AV} (h : TyA Tryz.prog 6 30 x) : ∃ f : Int × Int × Int × Int,AVF 6 x (.agg [i64 f.1,i64 f.2.1,i64 f.2.2.1,i64 f.2.2.2]) ∧ CutI f := by
 simp only [TyA,Tryz.underlying30] at h
 obtain ⟨xs,rfl,h⟩ := h
 unfold TyC at h
 simp only [Tryz.underlying30] at h
 obtain ⟨ps,rfl,h⟩ := h
 obtain ⟨p1,ps,rfl,h1,h⟩ := all2_cons h
 obtain ⟨p2,ps,rfl,h2,h⟩ := all2_cons h
 cases all2_nil h
 unfold TyC at h2
 simp only [Tryz.underlying28] at h2
 obtain ⟨qs,rfl,h2⟩ := h2
 obtain ⟨q1,qs,rfl,g1,h2⟩ := all2_cons h2
 obtain ⟨q2,qs,rfl,g2,h2⟩ := all2_cons h2
 obtain ⟨q3,qs,rfl,g3,h2⟩ := all2_cons h2
 cases all2_nil h2
 obtain ⟨a,rfl,ia⟩ := int_open Tryz.underlying3 h1
 obtain ⟨b,rfl,ib⟩ := int_open Tryz.underlying3 g1
 obtain ⟨c,rfl,ic⟩ := int_open Tryz.underlying3 g2
 obtain ⟨d,rfl,id⟩ := int_open Tryz.underlying3 g3
 exact ⟨(a,b,c,d),AVF_orL,inK_i64 ia,inK_i64 ib,inK_i64 ic,inK_i64 id⟩
theorem triT_P2 {t : List MRow} (hR : RwOk t) : ∀ i,i ≤ t.length - 1 → ∀ x ∈ triT t i,TriP x
 | 0,_,_,hx=>by cases hx
 | i + 1, hi, x, hx => by
  unfold triT at hx
  rcases List.mem_append.1 hx with hx | hx
  ·exact triT_P2 hR i (by omega) x hx
  ·obtain ⟨j,hj,e⟩ := List.getElem_of_mem hx
   have hl := triK_len t i (npT t - 1)
   have h := triK_ok hR (i := i) (by omega) (j := j) (by omega)
   have e2 : (triK t i (npT t - 1)).getD j tri0 = x := by
    rw [List.getD_eq_getElem?_getD,List.getElem?_eq_getElem hj,e]; rfl
   rw [e2] at h
   exact h
theorem mpO_sm {t : List MRow} (hR : RwOk t) {h : Int} (hs : szE h = 0) : ∀ q,mpO t h = some q → smR q := by
 have hr : -1000 ≤ h ∧ h ≤ 1000 := by
  unfold szE at hs
  split at hs
  ·assumption
  ·cases hs
 unfold mpO
 rw [mxT_flat]
 refine mx_sm nofun fun p hp=>?_
 obtain ⟨x,hx,hpx⟩ := List.mem_flatMap.1 hp
 exact pws_sm hr (triT_P2 hR _ (Nat.le_refl _) x hx) p hpx
theorem opE_of {t : List MRow} {f : Int × Int} (h1 : lowF f) (h2 : OpOk t f) : opE t f = 0 := by
  unfold opE
  rw [if_pos h1,if_pos h2.den.2,if_pos ⟨h2.lo,h2.hi⟩]
theorem ocE_of {t : List MRow} {f : Int × Int} (hT : TblOk t) (h1 : lowF f) (h2 : OpOk t f) : ocE t f = 0 := by
 unfold ocE
 rw [chk_ok hT,if_neg (not_not_intro rfl)]
 exact opE_of h1 h2
def prt (t : List MRow) (f : Int × Int) (r : Nat) : List MRow := if f.1 < (t.getD r r0).o * f.2 then sub t 0 (r + 1) else sub t r (t.length - r)
theorem prt_ok {t : List MRow} (hT : TblOk t) {f : Int × Int} (hO : OpOk t f) {r : Nat} (h1 : 1 ≤ r) (h2 : r + 2 ≤ t.length) : TblOk (prt t f r) ∧ OpOk (prt t f r) f ∧ crvQ (prt t f r) f = crvQ t f ∧ Fit (prt t f r) := by
 unfold prt
 by_cases g : f.1 < (t.getD r r0).o * f.2
 ·rw [if_pos g]
  have := sub_crv hT hO (a := 0) (n := r + 1) (by omega) (by omega) hO.lo (.inl (by rw [show 0 + (r + 1) - 1 = r by omega]; exact g))
  exact ⟨sub_ok hT (by omega) (by omega),this.1,this.2,sub_fit hT (by omega) (by omega)⟩
 ·rw [if_neg g]
  have := sub_crv hT hO (a := r) (n := t.length - r) (by omega) (by omega) (by omega) (.inr ⟨by omega,by rw [show r + (t.length - r) - 1 = t.length - 1 by omega]; exact hO.hi⟩)
  exact ⟨sub_ok hT (by omega) (by omega),this.1,this.2,sub_fit hT (by omega) (by omega)⟩
end Go.Tr

/- The law of chapter 5: part by part. Conditions: none. -/
-- seat YtpojlhnhokbhkaaGreat
namespace Go.Tr
open Go Go.Proofs
set_option maxRecDepth 20000
set_option maxHeartbeats 8000000

theorem vEq2 (a b : Int) : vEqL [.int .i64 a,.int .i64 b] [.int .i64 a,.int .i64 b] = true := by simp [vEqL]
theorem mpR_1 {t : List MRow} {h : Int} (hT : TblOk t) (hs : szE h = 0) : mpE t h = 0 ∧ mpR1 t h = if (mpO t h).isSome = true then 0 else 12 := by
 have e : mpE t h = 0 := by unfold mpE; rw [chk_ok hT,if_neg (not_not_intro rfl)]; exact hs
 refine ⟨e,?_⟩
 unfold mpR1
 rw [if_pos e]
theorem cmpO {t : List MRow} (hT : TblOk t) (ht : Fit t) {h : Int} (hs : szE h = 0) : SP 17 [tblA t,i64 h] (.tuple [gaF (frO (mpO t h)),i64 (if (mpO t h).isSome = true then 0 else 12)]) false := by
 have h1 := S17 t ht h
 obtain ⟨e1,e2⟩ := mpR_1 hT hs
 rw [if_pos e1,e2] at h1
 exact h1
theorem sml {q : Rat} (h : smR q) : SP 18 [gaF (frI q)] (vb true) false := by
 have h1 := S18 (frI q)
 have hp := q.den_pos
 unfold smR at h
 rw [decide_eq_true (by unfold frI; dsimp only; omega)] at h1
 exact h1
theorem smL_le {t : List MRow} {f : Int × Int} {l : Ln} (hT : TblOk t) (hO : OpOk t f) : (slL (crvQ t f) l).length ≤ 1000000 := by
 have h1 := spL_len (l := l) (crvQ_len hT hO)
 have h2 := smL_len (spL (crvQ t f) l)
 unfold slL
 omega
set_option maxHeartbeats 32000000 in
theorem S3m (t : List MRow) (hw : fewT t = true) (hT : TblOk t) (hn3 : 3 ≤ t.length) (f : Int × Int) (hf : FrI f) (hlo : lowF f) (hO : OpOk t f) (x : Int × Int × Int × Int) (ix : CutI x) (hz : waE x.2 = 0)
  (h4 : SP 4 [] (vb true) false) (h5 : SP 5 [tblA t] (vb true) false) (h6 : SP 6 [tblA t] (i64 0) false) (h7 : SP 7 [tblA t,gaF f] (i64 0) false) (h8 : SP 8 [wtA x.2] (i64 0) false) :
  SP 3 [tblA t,gaF f,cutA x] (vb true) false := by
 have ht := few_fit hw
 have htn := hT.n
 have hm1 := Int.emod_nonneg x.1 (show ((t.length : Int) - 2) ≠ 0 by omega)
 have hm2 := Int.emod_lt_of_pos x.1 (show 0 < (t.length : Int) - 2 by omega)
 have h9 := S9 x.1 ((t.length : Int) - 2) (by omega)
 generalize x.1 % ((t.length : Int) - 2) = m at *
 obtain ⟨r,hr⟩ : ∃ r : Nat,1 + m = (r : Int) := ⟨(1 + m).toNat,by omega⟩
 have hr1 : 1 ≤ r := by omega
 have hr2 : r + 2 ≤ t.length := by omega
 have hA := sub_ok hT (a := 0) (n := r + 1) (by omega) (by omega)
 have hB := sub_ok hT (a := r) (n := t.length - r) (by omega) (by omega)
 have fA := sub_fit hT (a := 0) (n := r + 1) (by omega) (by omega)
 have fB := sub_fit hT (a := r) (n := t.length - r) (by omega) (by omega)
 have h10a := S10 t ht hT 0 (r + 1) (by omega) (by omega) 0 (1 + m) rfl (by omega)
 have h10b := S10 t ht hT r (t.length - r) (by omega) (by omega) (1 + m) ((t.length : Int) - 1) hr (by omega)
 have h11 := S11 t ht
 have h11a := S11 _ fA
 have h11b := S11 _ fB
 have h6a := S6 _ fA
 have h6b := S6 _ fB
 rw [chk_ok hA] at h6a
 rw [chk_ok hB] at h6b
 obtain ⟨pT,pO,pC,pF⟩ := prt_ok hT hO hr1 hr2
 have ho := hT.op r (by omega)
 have hden := hO.den
 have er : (1 + m).toNat = r := by omega
 have h12 := S12 f.1 f.2 (t.getD (1 + m).toNat r0).o 1 hf.1 (by omega) (by rw [er]; omega) (by decide)
 have hcut : (sgI (f.1 * 1 - (t.getD (1 + m).toNat r0).o * f.2) < 0 ↔ f.1 < (t.getD r r0).o * f.2) := by rw [sg_lt,er]; omega
 have e0 := ocE_of hT hlo hO
 have e1 := ocE_of pT hlo pO
 have w0 : wlE t f x.2 = 0 := by unfold wlE; rw [if_neg (not_not_intro e0)]; exact hz
 have w1 : wlE (prt t f r) f x.2 = 0 := by unfold wlE; rw [if_neg (not_not_intro e1)]; exact hz
 have h13 := S13 t ht f hf
 have h13p := S13 _ pF f hf
 have h14 := S14 t ht f hf x.2
 have h14p := S14 _ pF f hf x.2
 have h15 := S15 t ht f hf
 have h15p := S15 _ pF f hf
 unfold cvS cvE at h13 h13p
 rw [if_pos e0,if_pos e0] at h13 h15
 rw [if_pos e1,if_pos e1,pC] at h13p h15p
 rw [if_pos w0,if_pos w0] at h14
 rw [if_pos w1,if_pos w1,pC] at h14p
 have hQl := crvQ_len hT hO
 have hl1 := smL_len (crvQ t f)
 have h16a := S16 (smL (crvQ t f)) (by omega)
 have h16b := S16 (slL (crvQ t f) (wtL x.2)) (smL_le hT hO)
 have h16c := S16 (slL (crvQ t f) zrL) (smL_le hT hO)
 have hs : szE x.2.1 = 0 := if_pos (waE_ok hz).1
 have h17 := cmpO hT ht hs
 have h17a := cmpO hA fA hs
 have h17b := cmpO hB fB hs
 have hmp := mpO_parts hT hr1 hr2 x.2.1
 have smA := mpO_sm (RwOk.ofT hA) hs
 have smB := mpO_sm (RwOk.ofT hB) hs
 have h11p := S11 _ pF
 have hpe : prt t f r = if f.1 < (t.getD r r0).o * f.2 then sub t 0 (r + 1) else sub t r (t.length - r) := rfl
 rw [hmp] at h17
 generalize mpO (sub t 0 (r + 1)) x.2.1 = o1 at *
 generalize mpO (sub t r (t.length - r)) x.2.1 = o2 at *
 generalize smL (crvQ t f) = L1 at *
 generalize slL (crvQ t f) (wtL x.2) = L2 at *
 generalize slL (crvQ t f) zrL = L3 at *
 generalize smE (crvQ t f) = E1 at *
 generalize slE (crvQ t f) (wtL x.2) = E2 at *
 generalize slE (crvQ t f) zrL = E3 at *
 by_cases hg : f.1 < (t.getD r r0).o * f.2
 ·have hc := hcut.2 hg
  rw [hpe,if_pos hg] at h13p h14p h15p h11p
  clear hpe pT pO pC pF
  cases o1 with
  | none =>
   change SP 17 [tblA (sub t 0 (r + 1)),i64 x.2.1] (.tuple [gaF (0,0),i64 12]) false at h17a
   cases o2 with
   | none =>
    change SP 17 [tblA (sub t r (t.length - r)),i64 x.2.1] (.tuple [gaF (0,0),i64 12]) false at h17b
    change SP 17 [tblA t,i64 x.2.1] (.tuple [gaF (0,0),i64 12]) false at h17
    refine sound (d := 2) tok2 mixed2 Tryz.func3 (by kernel_rfl) (by kernel_rfl) ?_
    (conv=>whnf); refine .inl ⟨_,_,byX rfl (Sound1.pl (h4) rfl),?_⟩
    (conv=>whnf); refine .inl ⟨_,_,byX rfl (Sound1.pl (h5) rfl),?_⟩
    (conv=>whnf); refine .inl ⟨_,_,byX rfl (Sound1.pl (h6) rfl),?_⟩
    (conv=>whnf); refine ifB_dec (fun w2=>?_) (fun w2=>?_)
    ·(exfalso; omega)
    ·(conv=>whnf); refine .inl ⟨_,_,byX rfl (Sound1.pl (h7) rfl),?_⟩
     (conv=>whnf); refine .inl ⟨_,_,byX rfl (Sound1.pl (h8) rfl),?_⟩
     (conv=>whnf); refine ⟨inK64 (by omega) (by omega),?_⟩
     (conv=>whnf); refine .inl ⟨_,_,byX rfl (Sound1.pl (h9) rfl),?_⟩
     (conv=>whnf); refine ⟨inK64 (by omega) (by omega),?_⟩
     (conv=>whnf); refine .inl ⟨_,_,byX rfl (h11),?_⟩
     (conv=>whnf); refine .inl ⟨_,_,byX rfl (h10a),?_⟩
     (conv=>whnf); refine ⟨[],by kernel_rfl,?_⟩
     (conv=>whnf); refine .inl ⟨_,_,byX rfl (h11),?_⟩
     (conv=>whnf); refine ⟨inK64 (by omega) (by omega),?_⟩
     (conv=>whnf); refine .inl ⟨_,_,byX rfl (h10b),?_⟩
     (conv=>whnf); refine .inl ⟨_,_,byX rfl (Sound1.pl (h6a) rfl),?_⟩
     (conv=>whnf); refine .inl ⟨_,_,byX rfl (Sound1.pl (h6b) rfl),?_⟩
     (conv=>whnf); refine ⟨[],by kernel_rfl,?_⟩
     (conv=>whnf); refine ⟨⟨(by omega),(by omega)⟩,?_⟩
     (conv=>whnf); refine .inl ⟨_,_,byX rfl (Sound1.pl (h12) rfl),?_⟩
     (conv=>whnf); refine ifB_dec (fun w3=>?_) (fun w3=>?_)
     ·(conv=>whnf); refine ⟨[],by kernel_rfl,?_⟩
      (conv=>whnf); refine .inl ⟨_,_,byX rfl (h11),?_⟩
      (conv=>whnf); refine .inl ⟨_,_,byX rfl (h13),?_⟩
      (conv=>whnf); refine ⟨[],by kernel_rfl,?_⟩
      (conv=>whnf); refine .inl ⟨_,_,byX rfl (h11a),?_⟩
      (conv=>whnf); refine .inl ⟨_,_,byX rfl (h13p),?_⟩
      (conv=>whnf); refine ⟨[],by kernel_rfl,?_⟩
      (conv=>whnf); refine .inl ⟨_,_,byX rfl (h11),?_⟩
      (conv=>whnf); refine .inl ⟨_,_,byX rfl (h14),?_⟩
      (conv=>whnf); refine ⟨[],by kernel_rfl,?_⟩
      (conv=>whnf); refine .inl ⟨_,_,byX rfl (h11a),?_⟩
      (conv=>whnf); refine .inl ⟨_,_,byX rfl (h14p),?_⟩
      (conv=>whnf); refine ⟨[],by kernel_rfl,?_⟩
      (conv=>whnf); refine .inl ⟨_,_,byX rfl (h11),?_⟩
      (conv=>whnf); refine .inl ⟨_,_,byX rfl (h15),?_⟩
      (conv=>whnf); refine ⟨[],by kernel_rfl,?_⟩
      (conv=>whnf); refine .inl ⟨_,_,byX rfl (h11a),?_⟩
      (conv=>whnf); refine .inl ⟨_,_,byX rfl (h15p),?_⟩
      (conv=>whnf); refine ifB_bne (fun w4=>?_) (fun w4=>?_)
      ·(exfalso; omega)
      ·(conv=>whnf); refine .inl ⟨_,_,byX rfl (Sound1.pl (h16a) rfl),?_⟩
       (conv=>whnf); refine ifB_bne (fun w5=>?_) (fun w5=>?_)
       ·(exfalso; omega)
       ·(conv=>whnf); refine .inl ⟨_,_,byX rfl (Sound1.pl (h16b) rfl),?_⟩
        (conv=>whnf); refine ifB_bne (fun w6=>?_) (fun w6=>?_)
        ·(exfalso; omega)
        ·(conv=>whnf); refine .inl ⟨_,_,byX rfl (Sound1.pl (h16c) rfl),?_⟩
         (conv=>whnf); refine ⟨[],by kernel_rfl,?_⟩
         (conv=>whnf); refine .inl ⟨_,_,byX rfl (h11),?_⟩
         (conv=>whnf); refine .inl ⟨_,_,byX rfl (Sound1.pl (h17) rfl),?_⟩
         (conv=>whnf); refine .inl ⟨_,_,byX rfl (Sound1.pl (h17a) rfl),?_⟩
         (conv=>whnf); refine .inl ⟨_,_,byX rfl (Sound1.pl (h17b) rfl),?_⟩
         (conv=>whnf); refine ⟨?_,nofun⟩
         (first | contradiction | rfl | omega)
     ·(exfalso; omega)
   | some b =>
    change SP 17 [tblA (sub t r (t.length - r)),i64 x.2.1] (.tuple [gaF (frI b),i64 0]) false at h17b
    change SP 17 [tblA t,i64 x.2.1] (.tuple [gaF (frI b),i64 0]) false at h17
    have hv := vEq2 (frI b).1 (frI b).2
    refine sound (d := 2) tok2 mixed2 Tryz.func3 (by kernel_rfl) (by kernel_rfl) ?_
    (conv=>whnf); refine .inl ⟨_,_,byX rfl (Sound1.pl (h4) rfl),?_⟩
    (conv=>whnf); refine .inl ⟨_,_,byX rfl (Sound1.pl (h5) rfl),?_⟩
    (conv=>whnf); refine .inl ⟨_,_,byX rfl (Sound1.pl (h6) rfl),?_⟩
    (conv=>whnf); refine ifB_dec (fun w2=>?_) (fun w2=>?_)
    ·(exfalso; omega)
    ·(conv=>whnf); refine .inl ⟨_,_,byX rfl (Sound1.pl (h7) rfl),?_⟩
     (conv=>whnf); refine .inl ⟨_,_,byX rfl (Sound1.pl (h8) rfl),?_⟩
     (conv=>whnf); refine ⟨inK64 (by omega) (by omega),?_⟩
     (conv=>whnf); refine .inl ⟨_,_,byX rfl (Sound1.pl (h9) rfl),?_⟩
     (conv=>whnf); refine ⟨inK64 (by omega) (by omega),?_⟩
     (conv=>whnf); refine .inl ⟨_,_,byX rfl (h11),?_⟩
     (conv=>whnf); refine .inl ⟨_,_,byX rfl (h10a),?_⟩
     (conv=>whnf); refine ⟨[],by kernel_rfl,?_⟩
     (conv=>whnf); refine .inl ⟨_,_,byX rfl (h11),?_⟩
     (conv=>whnf); refine ⟨inK64 (by omega) (by omega),?_⟩
     (conv=>whnf); refine .inl ⟨_,_,byX rfl (h10b),?_⟩
     (conv=>whnf); refine .inl ⟨_,_,byX rfl (Sound1.pl (h6a) rfl),?_⟩
     (conv=>whnf); refine .inl ⟨_,_,byX rfl (Sound1.pl (h6b) rfl),?_⟩
     (conv=>whnf); refine ⟨[],by kernel_rfl,?_⟩
     (conv=>whnf); refine ⟨⟨(by omega),(by omega)⟩,?_⟩
     (conv=>whnf); refine .inl ⟨_,_,byX rfl (Sound1.pl (h12) rfl),?_⟩
     (conv=>whnf); refine ifB_dec (fun w3=>?_) (fun w3=>?_)
     ·(conv=>whnf); refine ⟨[],by kernel_rfl,?_⟩
      (conv=>whnf); refine .inl ⟨_,_,byX rfl (h11),?_⟩
      (conv=>whnf); refine .inl ⟨_,_,byX rfl (h13),?_⟩
      (conv=>whnf); refine ⟨[],by kernel_rfl,?_⟩
      (conv=>whnf); refine .inl ⟨_,_,byX rfl (h11a),?_⟩
      (conv=>whnf); refine .inl ⟨_,_,byX rfl (h13p),?_⟩
      (conv=>whnf); refine ⟨[],by kernel_rfl,?_⟩
      (conv=>whnf); refine .inl ⟨_,_,byX rfl (h11),?_⟩
      (conv=>whnf); refine .inl ⟨_,_,byX rfl (h14),?_⟩
      (conv=>whnf); refine ⟨[],by kernel_rfl,?_⟩
      (conv=>whnf); refine .inl ⟨_,_,byX rfl (h11a),?_⟩
      (conv=>whnf); refine .inl ⟨_,_,byX rfl (h14p),?_⟩
      (conv=>whnf); refine ⟨[],by kernel_rfl,?_⟩
      (conv=>whnf); refine .inl ⟨_,_,byX rfl (h11),?_⟩
      (conv=>whnf); refine .inl ⟨_,_,byX rfl (h15),?_⟩
      (conv=>whnf); refine ⟨[],by kernel_rfl,?_⟩
      (conv=>whnf); refine .inl ⟨_,_,byX rfl (h11a),?_⟩
      (conv=>whnf); refine .inl ⟨_,_,byX rfl (h15p),?_⟩
      (conv=>whnf); refine ifB_bne (fun w4=>?_) (fun w4=>?_)
      ·(exfalso; omega)
      ·(conv=>whnf); refine .inl ⟨_,_,byX rfl (Sound1.pl (h16a) rfl),?_⟩
       (conv=>whnf); refine ifB_bne (fun w5=>?_) (fun w5=>?_)
       ·(exfalso; omega)
       ·(conv=>whnf); refine .inl ⟨_,_,byX rfl (Sound1.pl (h16b) rfl),?_⟩
        (conv=>whnf); refine ifB_bne (fun w6=>?_) (fun w6=>?_)
        ·(exfalso; omega)
        ·(conv=>whnf); refine .inl ⟨_,_,byX rfl (Sound1.pl (h16c) rfl),?_⟩
         (conv=>whnf); refine ⟨[],by kernel_rfl,?_⟩
         (conv=>whnf); refine .inl ⟨_,_,byX rfl (h11),?_⟩
         (conv=>whnf); refine .inl ⟨_,_,byX rfl (Sound1.pl (h17) rfl),?_⟩
         (conv=>whnf); refine .inl ⟨_,_,byX rfl (Sound1.pl (h17a) rfl),?_⟩
         (conv=>whnf); refine .inl ⟨_,_,byX rfl (Sound1.pl (h17b) rfl),?_⟩
         (conv=>whnf); refine ⟨?_,nofun⟩
         (first | contradiction | rfl | exact congrArg vb hv | omega)
     ·(exfalso; omega)
  | some a =>
   change SP 17 [tblA (sub t 0 (r + 1)),i64 x.2.1] (.tuple [gaF (frI a),i64 0]) false at h17a
   have hva := vEq2 (frI a).1 (frI a).2
   cases o2 with
   | none =>
    change SP 17 [tblA (sub t r (t.length - r)),i64 x.2.1] (.tuple [gaF (0,0),i64 12]) false at h17b
    change SP 17 [tblA t,i64 x.2.1] (.tuple [gaF (frI a),i64 0]) false at h17
    refine sound (d := 2) tok2 mixed2 Tryz.func3 (by kernel_rfl) (by kernel_rfl) ?_
    (conv=>whnf); refine .inl ⟨_,_,byX rfl (Sound1.pl (h4) rfl),?_⟩
    (conv=>whnf); refine .inl ⟨_,_,byX rfl (Sound1.pl (h5) rfl),?_⟩
    (conv=>whnf); refine .inl ⟨_,_,byX rfl (Sound1.pl (h6) rfl),?_⟩
    (conv=>whnf); refine ifB_dec (fun w2=>?_) (fun w2=>?_)
    ·(exfalso; omega)
    ·(conv=>whnf); refine .inl ⟨_,_,byX rfl (Sound1.pl (h7) rfl),?_⟩
     (conv=>whnf); refine .inl ⟨_,_,byX rfl (Sound1.pl (h8) rfl),?_⟩
     (conv=>whnf); refine ⟨inK64 (by omega) (by omega),?_⟩
     (conv=>whnf); refine .inl ⟨_,_,byX rfl (Sound1.pl (h9) rfl),?_⟩
     (conv=>whnf); refine ⟨inK64 (by omega) (by omega),?_⟩
     (conv=>whnf); refine .inl ⟨_,_,byX rfl (h11),?_⟩
     (conv=>whnf); refine .inl ⟨_,_,byX rfl (h10a),?_⟩
     (conv=>whnf); refine ⟨[],by kernel_rfl,?_⟩
     (conv=>whnf); refine .inl ⟨_,_,byX rfl (h11),?_⟩
     (conv=>whnf); refine ⟨inK64 (by omega) (by omega),?_⟩
     (conv=>whnf); refine .inl ⟨_,_,byX rfl (h10b),?_⟩
     (conv=>whnf); refine .inl ⟨_,_,byX rfl (Sound1.pl (h6a) rfl),?_⟩
     (conv=>whnf); refine .inl ⟨_,_,byX rfl (Sound1.pl (h6b) rfl),?_⟩
     (conv=>whnf); refine ⟨[],by kernel_rfl,?_⟩
     (conv=>whnf); refine ⟨⟨(by omega),(by omega)⟩,?_⟩
     (conv=>whnf); refine .inl ⟨_,_,byX rfl (Sound1.pl (h12) rfl),?_⟩
     (conv=>whnf); refine ifB_dec (fun w3=>?_) (fun w3=>?_)
     ·(conv=>whnf); refine ⟨[],by kernel_rfl,?_⟩
      (conv=>whnf); refine .inl ⟨_,_,byX rfl (h11),?_⟩
      (conv=>whnf); refine .inl ⟨_,_,byX rfl (h13),?_⟩
      (conv=>whnf); refine ⟨[],by kernel_rfl,?_⟩
      (conv=>whnf); refine .inl ⟨_,_,byX rfl (h11a),?_⟩
      (conv=>whnf); refine .inl ⟨_,_,byX rfl (h13p),?_⟩
      (conv=>whnf); refine ⟨[],by kernel_rfl,?_⟩
      (conv=>whnf); refine .inl ⟨_,_,byX rfl (h11),?_⟩
      (conv=>whnf); refine .inl ⟨_,_,byX rfl (h14),?_⟩
      (conv=>whnf); refine ⟨[],by kernel_rfl,?_⟩
      (conv=>whnf); refine .inl ⟨_,_,byX rfl (h11a),?_⟩
      (conv=>whnf); refine .inl ⟨_,_,byX rfl (h14p),?_⟩
      (conv=>whnf); refine ⟨[],by kernel_rfl,?_⟩
      (conv=>whnf); refine .inl ⟨_,_,byX rfl (h11),?_⟩
      (conv=>whnf); refine .inl ⟨_,_,byX rfl (h15),?_⟩
      (conv=>whnf); refine ⟨[],by kernel_rfl,?_⟩
      (conv=>whnf); refine .inl ⟨_,_,byX rfl (h11a),?_⟩
      (conv=>whnf); refine .inl ⟨_,_,byX rfl (h15p),?_⟩
      (conv=>whnf); refine ifB_bne (fun w4=>?_) (fun w4=>?_)
      ·(exfalso; omega)
      ·(conv=>whnf); refine .inl ⟨_,_,byX rfl (Sound1.pl (h16a) rfl),?_⟩
       (conv=>whnf); refine ifB_bne (fun w5=>?_) (fun w5=>?_)
       ·(exfalso; omega)
       ·(conv=>whnf); refine .inl ⟨_,_,byX rfl (Sound1.pl (h16b) rfl),?_⟩
        (conv=>whnf); refine ifB_bne (fun w6=>?_) (fun w6=>?_)
        ·(exfalso; omega)
        ·(conv=>whnf); refine .inl ⟨_,_,byX rfl (Sound1.pl (h16c) rfl),?_⟩
         (conv=>whnf); refine ⟨[],by kernel_rfl,?_⟩
         (conv=>whnf); refine .inl ⟨_,_,byX rfl (h11),?_⟩
         (conv=>whnf); refine .inl ⟨_,_,byX rfl (Sound1.pl (h17) rfl),?_⟩
         (conv=>whnf); refine .inl ⟨_,_,byX rfl (Sound1.pl (h17a) rfl),?_⟩
         (conv=>whnf); refine .inl ⟨_,_,byX rfl (Sound1.pl (h17b) rfl),?_⟩
         (conv=>whnf); refine ⟨?_,nofun⟩
         (first | contradiction | rfl | exact congrArg vb hva | omega)
     ·(exfalso; omega)
   | some b =>
    change SP 17 [tblA (sub t r (t.length - r)),i64 x.2.1] (.tuple [gaF (frI b),i64 0]) false at h17b
    have hvb := vEq2 (frI b).1 (frI b).2
    have h18a := sml (smA a rfl)
    have h18b := sml (smB b rfl)
    have h19 := S19 a b (smA a rfl) (smB b rfl)
    have hcc := cmpR_neg a b
    by_cases hab : a < b
    ·have h17 : SP 17 [tblA t, i64 x.2.1] (.tuple [gaF (frI b), i64 0]) false := by
      have e : orM (some a) (some b) = some b := if_pos hab
      rw [e] at h17; exact h17
     have hlt := hcc.2 hab
     refine sound (d := 2) tok2 mixed2 Tryz.func3 (by kernel_rfl) (by kernel_rfl) ?_
     (conv=>whnf); refine .inl ⟨_,_,byX rfl (Sound1.pl (h4) rfl),?_⟩
     (conv=>whnf); refine .inl ⟨_,_,byX rfl (Sound1.pl (h5) rfl),?_⟩
     (conv=>whnf); refine .inl ⟨_,_,byX rfl (Sound1.pl (h6) rfl),?_⟩
     (conv=>whnf); refine ifB_dec (fun w2=>?_) (fun w2=>?_)
     ·(exfalso; omega)
     ·(conv=>whnf); refine .inl ⟨_,_,byX rfl (Sound1.pl (h7) rfl),?_⟩
      (conv=>whnf); refine .inl ⟨_,_,byX rfl (Sound1.pl (h8) rfl),?_⟩
      (conv=>whnf); refine ⟨inK64 (by omega) (by omega),?_⟩
      (conv=>whnf); refine .inl ⟨_,_,byX rfl (Sound1.pl (h9) rfl),?_⟩
      (conv=>whnf); refine ⟨inK64 (by omega) (by omega),?_⟩
      (conv=>whnf); refine .inl ⟨_,_,byX rfl (h11),?_⟩
      (conv=>whnf); refine .inl ⟨_,_,byX rfl (h10a),?_⟩
      (conv=>whnf); refine ⟨[],by kernel_rfl,?_⟩
      (conv=>whnf); refine .inl ⟨_,_,byX rfl (h11),?_⟩
      (conv=>whnf); refine ⟨inK64 (by omega) (by omega),?_⟩
      (conv=>whnf); refine .inl ⟨_,_,byX rfl (h10b),?_⟩
      (conv=>whnf); refine .inl ⟨_,_,byX rfl (Sound1.pl (h6a) rfl),?_⟩
      (conv=>whnf); refine .inl ⟨_,_,byX rfl (Sound1.pl (h6b) rfl),?_⟩
      (conv=>whnf); refine ⟨[],by kernel_rfl,?_⟩
      (conv=>whnf); refine ⟨⟨(by omega),(by omega)⟩,?_⟩
      (conv=>whnf); refine .inl ⟨_,_,byX rfl (Sound1.pl (h12) rfl),?_⟩
      (conv=>whnf); refine ifB_dec (fun w3=>?_) (fun w3=>?_)
      ·(conv=>whnf); refine ⟨[],by kernel_rfl,?_⟩
       (conv=>whnf); refine .inl ⟨_,_,byX rfl (h11),?_⟩
       (conv=>whnf); refine .inl ⟨_,_,byX rfl (h13),?_⟩
       (conv=>whnf); refine ⟨[],by kernel_rfl,?_⟩
       (conv=>whnf); refine .inl ⟨_,_,byX rfl (h11a),?_⟩
       (conv=>whnf); refine .inl ⟨_,_,byX rfl (h13p),?_⟩
       (conv=>whnf); refine ⟨[],by kernel_rfl,?_⟩
       (conv=>whnf); refine .inl ⟨_,_,byX rfl (h11),?_⟩
       (conv=>whnf); refine .inl ⟨_,_,byX rfl (h14),?_⟩
       (conv=>whnf); refine ⟨[],by kernel_rfl,?_⟩
       (conv=>whnf); refine .inl ⟨_,_,byX rfl (h11a),?_⟩
       (conv=>whnf); refine .inl ⟨_,_,byX rfl (h14p),?_⟩
       (conv=>whnf); refine ⟨[],by kernel_rfl,?_⟩
       (conv=>whnf); refine .inl ⟨_,_,byX rfl (h11),?_⟩
       (conv=>whnf); refine .inl ⟨_,_,byX rfl (h15),?_⟩
       (conv=>whnf); refine ⟨[],by kernel_rfl,?_⟩
       (conv=>whnf); refine .inl ⟨_,_,byX rfl (h11a),?_⟩
       (conv=>whnf); refine .inl ⟨_,_,byX rfl (h15p),?_⟩
       (conv=>whnf); refine ifB_bne (fun w4=>?_) (fun w4=>?_)
       ·(exfalso; omega)
       ·(conv=>whnf); refine .inl ⟨_,_,byX rfl (Sound1.pl (h16a) rfl),?_⟩
        (conv=>whnf); refine ifB_bne (fun w5=>?_) (fun w5=>?_)
        ·(exfalso; omega)
        ·(conv=>whnf); refine .inl ⟨_,_,byX rfl (Sound1.pl (h16b) rfl),?_⟩
         (conv=>whnf); refine ifB_bne (fun w6=>?_) (fun w6=>?_)
         ·(exfalso; omega)
         ·(conv=>whnf); refine .inl ⟨_,_,byX rfl (Sound1.pl (h16c) rfl),?_⟩
          (conv=>whnf); refine ⟨[],by kernel_rfl,?_⟩
          (conv=>whnf); refine .inl ⟨_,_,byX rfl (h11),?_⟩
          (conv=>whnf); refine .inl ⟨_,_,byX rfl (Sound1.pl (h17) rfl),?_⟩
          (conv=>whnf); refine .inl ⟨_,_,byX rfl (Sound1.pl (h17a) rfl),?_⟩
          (conv=>whnf); refine .inl ⟨_,_,byX rfl (Sound1.pl (h17b) rfl),?_⟩
          (conv=>whnf); refine .inl ⟨_,_,byX rfl (Sound1.pl (h18a) rfl),?_⟩
          (conv=>whnf); refine .inl ⟨_,_,byX rfl (Sound1.pl (h18b) rfl),?_⟩
          (conv=>whnf); refine .inl ⟨_,_,byX rfl (Sound1.pl (h19) rfl),?_⟩
          (conv=>whnf); refine ifB_dec (fun w7=>?_) (fun w7=>?_)
          ·(conv=>whnf); refine ⟨?_,nofun⟩
           (first | contradiction | rfl | exact congrArg vb hvb | omega)
          ·(exfalso; omega)
      ·(exfalso; omega)
    ·have h17 : SP 17 [tblA t, i64 x.2.1] (.tuple [gaF (frI a), i64 0]) false := by
      have e : orM (some a) (some b) = some a := if_neg hab
      rw [e] at h17; exact h17
     have hlt : ¬ cmpR a b < 0 := fun e=>hab (hcc.1 e)
     refine sound (d := 2) tok2 mixed2 Tryz.func3 (by kernel_rfl) (by kernel_rfl) ?_
     (conv=>whnf); refine .inl ⟨_,_,byX rfl (Sound1.pl (h4) rfl),?_⟩
     (conv=>whnf); refine .inl ⟨_,_,byX rfl (Sound1.pl (h5) rfl),?_⟩
     (conv=>whnf); refine .inl ⟨_,_,byX rfl (Sound1.pl (h6) rfl),?_⟩
     (conv=>whnf); refine ifB_dec (fun w2=>?_) (fun w2=>?_)
     ·(exfalso; omega)
     ·(conv=>whnf); refine .inl ⟨_,_,byX rfl (Sound1.pl (h7) rfl),?_⟩
      (conv=>whnf); refine .inl ⟨_,_,byX rfl (Sound1.pl (h8) rfl),?_⟩
      (conv=>whnf); refine ⟨inK64 (by omega) (by omega),?_⟩
      (conv=>whnf); refine .inl ⟨_,_,byX rfl (Sound1.pl (h9) rfl),?_⟩
      (conv=>whnf); refine ⟨inK64 (by omega) (by omega),?_⟩
      (conv=>whnf); refine .inl ⟨_,_,byX rfl (h11),?_⟩
      (conv=>whnf); refine .inl ⟨_,_,byX rfl (h10a),?_⟩
      (conv=>whnf); refine ⟨[],by kernel_rfl,?_⟩
      (conv=>whnf); refine .inl ⟨_,_,byX rfl (h11),?_⟩
      (conv=>whnf); refine ⟨inK64 (by omega) (by omega),?_⟩
      (conv=>whnf); refine .inl ⟨_,_,byX rfl (h10b),?_⟩
      (conv=>whnf); refine .inl ⟨_,_,byX rfl (Sound1.pl (h6a) rfl),?_⟩
      (conv=>whnf); refine .inl ⟨_,_,byX rfl (Sound1.pl (h6b) rfl),?_⟩
      (conv=>whnf); refine ⟨[],by kernel_rfl,?_⟩
      (conv=>whnf); refine ⟨⟨(by omega),(by omega)⟩,?_⟩
      (conv=>whnf); refine .inl ⟨_,_,byX rfl (Sound1.pl (h12) rfl),?_⟩
      (conv=>whnf); refine ifB_dec (fun w3=>?_) (fun w3=>?_)
      ·(conv=>whnf); refine ⟨[],by kernel_rfl,?_⟩
       (conv=>whnf); refine .inl ⟨_,_,byX rfl (h11),?_⟩
       (conv=>whnf); refine .inl ⟨_,_,byX rfl (h13),?_⟩
       (conv=>whnf); refine ⟨[],by kernel_rfl,?_⟩
       (conv=>whnf); refine .inl ⟨_,_,byX rfl (h11a),?_⟩
       (conv=>whnf); refine .inl ⟨_,_,byX rfl (h13p),?_⟩
       (conv=>whnf); refine ⟨[],by kernel_rfl,?_⟩
       (conv=>whnf); refine .inl ⟨_,_,byX rfl (h11),?_⟩
       (conv=>whnf); refine .inl ⟨_,_,byX rfl (h14),?_⟩
       (conv=>whnf); refine ⟨[],by kernel_rfl,?_⟩
       (conv=>whnf); refine .inl ⟨_,_,byX rfl (h11a),?_⟩
       (conv=>whnf); refine .inl ⟨_,_,byX rfl (h14p),?_⟩
       (conv=>whnf); refine ⟨[],by kernel_rfl,?_⟩
       (conv=>whnf); refine .inl ⟨_,_,byX rfl (h11),?_⟩
       (conv=>whnf); refine .inl ⟨_,_,byX rfl (h15),?_⟩
       (conv=>whnf); refine ⟨[],by kernel_rfl,?_⟩
       (conv=>whnf); refine .inl ⟨_,_,byX rfl (h11a),?_⟩
       (conv=>whnf); refine .inl ⟨_,_,byX rfl (h15p),?_⟩
       (conv=>whnf); refine ifB_bne (fun w4=>?_) (fun w4=>?_)
       ·(exfalso; omega)
       ·(conv=>whnf); refine .inl ⟨_,_,byX rfl (Sound1.pl (h16a) rfl),?_⟩
        (conv=>whnf); refine ifB_bne (fun w5=>?_) (fun w5=>?_)
        ·(exfalso; omega)
        ·(conv=>whnf); refine .inl ⟨_,_,byX rfl (Sound1.pl (h16b) rfl),?_⟩
         (conv=>whnf); refine ifB_bne (fun w6=>?_) (fun w6=>?_)
         ·(exfalso; omega)
         ·(conv=>whnf); refine .inl ⟨_,_,byX rfl (Sound1.pl (h16c) rfl),?_⟩
          (conv=>whnf); refine ⟨[],by kernel_rfl,?_⟩
          (conv=>whnf); refine .inl ⟨_,_,byX rfl (h11),?_⟩
          (conv=>whnf); refine .inl ⟨_,_,byX rfl (Sound1.pl (h17) rfl),?_⟩
          (conv=>whnf); refine .inl ⟨_,_,byX rfl (Sound1.pl (h17a) rfl),?_⟩
          (conv=>whnf); refine .inl ⟨_,_,byX rfl (Sound1.pl (h17b) rfl),?_⟩
          (conv=>whnf); refine .inl ⟨_,_,byX rfl (Sound1.pl (h18a) rfl),?_⟩
          (conv=>whnf); refine .inl ⟨_,_,byX rfl (Sound1.pl (h18b) rfl),?_⟩
          (conv=>whnf); refine .inl ⟨_,_,byX rfl (Sound1.pl (h19) rfl),?_⟩
          (conv=>whnf); refine ifB_dec (fun w7=>?_) (fun w7=>?_)
          ·(exfalso; omega)
          ·(conv=>whnf); refine ⟨?_,nofun⟩
           (first | contradiction | rfl | exact congrArg vb hva | omega)
      ·(exfalso; omega)
 ·have hc : ¬ sgI (f.1 * 1 - (t.getD (1 + m).toNat r0).o * f.2) < 0 := fun e => hg (hcut.1 e)
  rw [hpe,if_neg hg] at h13p h14p h15p h11p
  clear hpe pT pO pC pF
  cases o1 with
  | none =>
   change SP 17 [tblA (sub t 0 (r + 1)),i64 x.2.1] (.tuple [gaF (0,0),i64 12]) false at h17a
   cases o2 with
   | none =>
    change SP 17 [tblA (sub t r (t.length - r)),i64 x.2.1] (.tuple [gaF (0,0),i64 12]) false at h17b
    change SP 17 [tblA t,i64 x.2.1] (.tuple [gaF (0,0),i64 12]) false at h17
    refine sound (d := 2) tok2 mixed2 Tryz.func3 (by kernel_rfl) (by kernel_rfl) ?_
    (conv=>whnf); refine .inl ⟨_,_,byX rfl (Sound1.pl (h4) rfl),?_⟩
    (conv=>whnf); refine .inl ⟨_,_,byX rfl (Sound1.pl (h5) rfl),?_⟩
    (conv=>whnf); refine .inl ⟨_,_,byX rfl (Sound1.pl (h6) rfl),?_⟩
    (conv=>whnf); refine ifB_dec (fun w2=>?_) (fun w2=>?_)
    ·(exfalso; omega)
    ·(conv=>whnf); refine .inl ⟨_,_,byX rfl (Sound1.pl (h7) rfl),?_⟩
     (conv=>whnf); refine .inl ⟨_,_,byX rfl (Sound1.pl (h8) rfl),?_⟩
     (conv=>whnf); refine ⟨inK64 (by omega) (by omega),?_⟩
     (conv=>whnf); refine .inl ⟨_,_,byX rfl (Sound1.pl (h9) rfl),?_⟩
     (conv=>whnf); refine ⟨inK64 (by omega) (by omega),?_⟩
     (conv=>whnf); refine .inl ⟨_,_,byX rfl (h11),?_⟩
     (conv=>whnf); refine .inl ⟨_,_,byX rfl (h10a),?_⟩
     (conv=>whnf); refine ⟨[],by kernel_rfl,?_⟩
     (conv=>whnf); refine .inl ⟨_,_,byX rfl (h11),?_⟩
     (conv=>whnf); refine ⟨inK64 (by omega) (by omega),?_⟩
     (conv=>whnf); refine .inl ⟨_,_,byX rfl (h10b),?_⟩
     (conv=>whnf); refine .inl ⟨_,_,byX rfl (Sound1.pl (h6a) rfl),?_⟩
     (conv=>whnf); refine .inl ⟨_,_,byX rfl (Sound1.pl (h6b) rfl),?_⟩
     (conv=>whnf); refine ⟨[],by kernel_rfl,?_⟩
     (conv=>whnf); refine ⟨⟨(by omega),(by omega)⟩,?_⟩
     (conv=>whnf); refine .inl ⟨_,_,byX rfl (Sound1.pl (h12) rfl),?_⟩
     (conv=>whnf); refine ifB_dec (fun w3=>?_) (fun w3=>?_)
     ·(exfalso; omega)
     ·(conv=>whnf); refine ⟨[],by kernel_rfl,?_⟩
      (conv=>whnf); refine .inl ⟨_,_,byX rfl (h11),?_⟩
      (conv=>whnf); refine .inl ⟨_,_,byX rfl (h13),?_⟩
      (conv=>whnf); refine ⟨[],by kernel_rfl,?_⟩
      (conv=>whnf); refine .inl ⟨_,_,byX rfl (h11b),?_⟩
      (conv=>whnf); refine .inl ⟨_,_,byX rfl (h13p),?_⟩
      (conv=>whnf); refine ⟨[],by kernel_rfl,?_⟩
      (conv=>whnf); refine .inl ⟨_,_,byX rfl (h11),?_⟩
      (conv=>whnf); refine .inl ⟨_,_,byX rfl (h14),?_⟩
      (conv=>whnf); refine ⟨[],by kernel_rfl,?_⟩
      (conv=>whnf); refine .inl ⟨_,_,byX rfl (h11b),?_⟩
      (conv=>whnf); refine .inl ⟨_,_,byX rfl (h14p),?_⟩
      (conv=>whnf); refine ⟨[],by kernel_rfl,?_⟩
      (conv=>whnf); refine .inl ⟨_,_,byX rfl (h11),?_⟩
      (conv=>whnf); refine .inl ⟨_,_,byX rfl (h15),?_⟩
      (conv=>whnf); refine ⟨[],by kernel_rfl,?_⟩
      (conv=>whnf); refine .inl ⟨_,_,byX rfl (h11b),?_⟩
      (conv=>whnf); refine .inl ⟨_,_,byX rfl (h15p),?_⟩
      (conv=>whnf); refine ifB_bne (fun w4=>?_) (fun w4=>?_)
      ·(exfalso; omega)
      ·(conv=>whnf); refine .inl ⟨_,_,byX rfl (Sound1.pl (h16a) rfl),?_⟩
       (conv=>whnf); refine ifB_bne (fun w5=>?_) (fun w5=>?_)
       ·(exfalso; omega)
       ·(conv=>whnf); refine .inl ⟨_,_,byX rfl (Sound1.pl (h16b) rfl),?_⟩
        (conv=>whnf); refine ifB_bne (fun w6=>?_) (fun w6=>?_)
        ·(exfalso; omega)
        ·(conv=>whnf); refine .inl ⟨_,_,byX rfl (Sound1.pl (h16c) rfl),?_⟩
         (conv=>whnf); refine ⟨[],by kernel_rfl,?_⟩
         (conv=>whnf); refine .inl ⟨_,_,byX rfl (h11),?_⟩
         (conv=>whnf); refine .inl ⟨_,_,byX rfl (Sound1.pl (h17) rfl),?_⟩
         (conv=>whnf); refine .inl ⟨_,_,byX rfl (Sound1.pl (h17a) rfl),?_⟩
         (conv=>whnf); refine .inl ⟨_,_,byX rfl (Sound1.pl (h17b) rfl),?_⟩
         (conv=>whnf); refine ⟨?_,nofun⟩
         (first | contradiction | rfl | omega)
   | some b =>
    change SP 17 [tblA (sub t r (t.length - r)),i64 x.2.1] (.tuple [gaF (frI b),i64 0]) false at h17b
    change SP 17 [tblA t,i64 x.2.1] (.tuple [gaF (frI b),i64 0]) false at h17
    have hv := vEq2 (frI b).1 (frI b).2
    refine sound (d := 2) tok2 mixed2 Tryz.func3 (by kernel_rfl) (by kernel_rfl) ?_
    (conv=>whnf); refine .inl ⟨_,_,byX rfl (Sound1.pl (h4) rfl),?_⟩
    (conv=>whnf); refine .inl ⟨_,_,byX rfl (Sound1.pl (h5) rfl),?_⟩
    (conv=>whnf); refine .inl ⟨_,_,byX rfl (Sound1.pl (h6) rfl),?_⟩
    (conv=>whnf); refine ifB_dec (fun w2=>?_) (fun w2=>?_)
    ·(exfalso; omega)
    ·(conv=>whnf); refine .inl ⟨_,_,byX rfl (Sound1.pl (h7) rfl),?_⟩
     (conv=>whnf); refine .inl ⟨_,_,byX rfl (Sound1.pl (h8) rfl),?_⟩
     (conv=>whnf); refine ⟨inK64 (by omega) (by omega),?_⟩
     (conv=>whnf); refine .inl ⟨_,_,byX rfl (Sound1.pl (h9) rfl),?_⟩
     (conv=>whnf); refine ⟨inK64 (by omega) (by omega),?_⟩
     (conv=>whnf); refine .inl ⟨_,_,byX rfl (h11),?_⟩
     (conv=>whnf); refine .inl ⟨_,_,byX rfl (h10a),?_⟩
     (conv=>whnf); refine ⟨[],by kernel_rfl,?_⟩
     (conv=>whnf); refine .inl ⟨_,_,byX rfl (h11),?_⟩
     (conv=>whnf); refine ⟨inK64 (by omega) (by omega),?_⟩
     (conv=>whnf); refine .inl ⟨_,_,byX rfl (h10b),?_⟩
     (conv=>whnf); refine .inl ⟨_,_,byX rfl (Sound1.pl (h6a) rfl),?_⟩
     (conv=>whnf); refine .inl ⟨_,_,byX rfl (Sound1.pl (h6b) rfl),?_⟩
     (conv=>whnf); refine ⟨[],by kernel_rfl,?_⟩
     (conv=>whnf); refine ⟨⟨(by omega),(by omega)⟩,?_⟩
     (conv=>whnf); refine .inl ⟨_,_,byX rfl (Sound1.pl (h12) rfl),?_⟩
     (conv=>whnf); refine ifB_dec (fun w3=>?_) (fun w3=>?_)
     ·(exfalso; omega)
     ·(conv=>whnf); refine ⟨[],by kernel_rfl,?_⟩
      (conv=>whnf); refine .inl ⟨_,_,byX rfl (h11),?_⟩
      (conv=>whnf); refine .inl ⟨_,_,byX rfl (h13),?_⟩
      (conv=>whnf); refine ⟨[],by kernel_rfl,?_⟩
      (conv=>whnf); refine .inl ⟨_,_,byX rfl (h11b),?_⟩
      (conv=>whnf); refine .inl ⟨_,_,byX rfl (h13p),?_⟩
      (conv=>whnf); refine ⟨[],by kernel_rfl,?_⟩
      (conv=>whnf); refine .inl ⟨_,_,byX rfl (h11),?_⟩
      (conv=>whnf); refine .inl ⟨_,_,byX rfl (h14),?_⟩
      (conv=>whnf); refine ⟨[],by kernel_rfl,?_⟩
      (conv=>whnf); refine .inl ⟨_,_,byX rfl (h11b),?_⟩
      (conv=>whnf); refine .inl ⟨_,_,byX rfl (h14p),?_⟩
      (conv=>whnf); refine ⟨[],by kernel_rfl,?_⟩
      (conv=>whnf); refine .inl ⟨_,_,byX rfl (h11),?_⟩
      (conv=>whnf); refine .inl ⟨_,_,byX rfl (h15),?_⟩
      (conv=>whnf); refine ⟨[],by kernel_rfl,?_⟩
      (conv=>whnf); refine .inl ⟨_,_,byX rfl (h11b),?_⟩
      (conv=>whnf); refine .inl ⟨_,_,byX rfl (h15p),?_⟩
      (conv=>whnf); refine ifB_bne (fun w4=>?_) (fun w4=>?_)
      ·(exfalso; omega)
      ·(conv=>whnf); refine .inl ⟨_,_,byX rfl (Sound1.pl (h16a) rfl),?_⟩
       (conv=>whnf); refine ifB_bne (fun w5=>?_) (fun w5=>?_)
       ·(exfalso; omega)
       ·(conv=>whnf); refine .inl ⟨_,_,byX rfl (Sound1.pl (h16b) rfl),?_⟩
        (conv=>whnf); refine ifB_bne (fun w6=>?_) (fun w6=>?_)
        ·(exfalso; omega)
        ·(conv=>whnf); refine .inl ⟨_,_,byX rfl (Sound1.pl (h16c) rfl),?_⟩
         (conv=>whnf); refine ⟨[],by kernel_rfl,?_⟩
         (conv=>whnf); refine .inl ⟨_,_,byX rfl (h11),?_⟩
         (conv=>whnf); refine .inl ⟨_,_,byX rfl (Sound1.pl (h17) rfl),?_⟩
         (conv=>whnf); refine .inl ⟨_,_,byX rfl (Sound1.pl (h17a) rfl),?_⟩
         (conv=>whnf); refine .inl ⟨_,_,byX rfl (Sound1.pl (h17b) rfl),?_⟩
         (conv=>whnf); refine ⟨?_,nofun⟩
         (first | contradiction | rfl | exact congrArg vb hv | omega)
  | some a =>
   change SP 17 [tblA (sub t 0 (r + 1)),i64 x.2.1] (.tuple [gaF (frI a),i64 0]) false at h17a
   have hva := vEq2 (frI a).1 (frI a).2
   cases o2 with
   | none =>
    change SP 17 [tblA (sub t r (t.length - r)),i64 x.2.1] (.tuple [gaF (0,0),i64 12]) false at h17b
    change SP 17 [tblA t,i64 x.2.1] (.tuple [gaF (frI a),i64 0]) false at h17
    refine sound (d := 2) tok2 mixed2 Tryz.func3 (by kernel_rfl) (by kernel_rfl) ?_
    (conv=>whnf); refine .inl ⟨_,_,byX rfl (Sound1.pl (h4) rfl),?_⟩
    (conv=>whnf); refine .inl ⟨_,_,byX rfl (Sound1.pl (h5) rfl),?_⟩
    (conv=>whnf); refine .inl ⟨_,_,byX rfl (Sound1.pl (h6) rfl),?_⟩
    (conv=>whnf); refine ifB_dec (fun w2=>?_) (fun w2=>?_)
    ·(exfalso; omega)
    ·(conv=>whnf); refine .inl ⟨_,_,byX rfl (Sound1.pl (h7) rfl),?_⟩
     (conv=>whnf); refine .inl ⟨_,_,byX rfl (Sound1.pl (h8) rfl),?_⟩
     (conv=>whnf); refine ⟨inK64 (by omega) (by omega),?_⟩
     (conv=>whnf); refine .inl ⟨_,_,byX rfl (Sound1.pl (h9) rfl),?_⟩
     (conv=>whnf); refine ⟨inK64 (by omega) (by omega),?_⟩
     (conv=>whnf); refine .inl ⟨_,_,byX rfl (h11),?_⟩
     (conv=>whnf); refine .inl ⟨_,_,byX rfl (h10a),?_⟩
     (conv=>whnf); refine ⟨[],by kernel_rfl,?_⟩
     (conv=>whnf); refine .inl ⟨_,_,byX rfl (h11),?_⟩
     (conv=>whnf); refine ⟨inK64 (by omega) (by omega),?_⟩
     (conv=>whnf); refine .inl ⟨_,_,byX rfl (h10b),?_⟩
     (conv=>whnf); refine .inl ⟨_,_,byX rfl (Sound1.pl (h6a) rfl),?_⟩
     (conv=>whnf); refine .inl ⟨_,_,byX rfl (Sound1.pl (h6b) rfl),?_⟩
     (conv=>whnf); refine ⟨[],by kernel_rfl,?_⟩
     (conv=>whnf); refine ⟨⟨(by omega),(by omega)⟩,?_⟩
     (conv=>whnf); refine .inl ⟨_,_,byX rfl (Sound1.pl (h12) rfl),?_⟩
     (conv=>whnf); refine ifB_dec (fun w3=>?_) (fun w3=>?_)
     ·(exfalso; omega)
     ·(conv=>whnf); refine ⟨[],by kernel_rfl,?_⟩
      (conv=>whnf); refine .inl ⟨_,_,byX rfl (h11),?_⟩
      (conv=>whnf); refine .inl ⟨_,_,byX rfl (h13),?_⟩
      (conv=>whnf); refine ⟨[],by kernel_rfl,?_⟩
      (conv=>whnf); refine .inl ⟨_,_,byX rfl (h11b),?_⟩
      (conv=>whnf); refine .inl ⟨_,_,byX rfl (h13p),?_⟩
      (conv=>whnf); refine ⟨[],by kernel_rfl,?_⟩
      (conv=>whnf); refine .inl ⟨_,_,byX rfl (h11),?_⟩
      (conv=>whnf); refine .inl ⟨_,_,byX rfl (h14),?_⟩
      (conv=>whnf); refine ⟨[],by kernel_rfl,?_⟩
      (conv=>whnf); refine .inl ⟨_,_,byX rfl (h11b),?_⟩
      (conv=>whnf); refine .inl ⟨_,_,byX rfl (h14p),?_⟩
      (conv=>whnf); refine ⟨[],by kernel_rfl,?_⟩
      (conv=>whnf); refine .inl ⟨_,_,byX rfl (h11),?_⟩
      (conv=>whnf); refine .inl ⟨_,_,byX rfl (h15),?_⟩
      (conv=>whnf); refine ⟨[],by kernel_rfl,?_⟩
      (conv=>whnf); refine .inl ⟨_,_,byX rfl (h11b),?_⟩
      (conv=>whnf); refine .inl ⟨_,_,byX rfl (h15p),?_⟩
      (conv=>whnf); refine ifB_bne (fun w4=>?_) (fun w4=>?_)
      ·(exfalso; omega)
      ·(conv=>whnf); refine .inl ⟨_,_,byX rfl (Sound1.pl (h16a) rfl),?_⟩
       (conv=>whnf); refine ifB_bne (fun w5=>?_) (fun w5=>?_)
       ·(exfalso; omega)
       ·(conv=>whnf); refine .inl ⟨_,_,byX rfl (Sound1.pl (h16b) rfl),?_⟩
        (conv=>whnf); refine ifB_bne (fun w6=>?_) (fun w6=>?_)
        ·(exfalso; omega)
        ·(conv=>whnf); refine .inl ⟨_,_,byX rfl (Sound1.pl (h16c) rfl),?_⟩
         (conv=>whnf); refine ⟨[],by kernel_rfl,?_⟩
         (conv=>whnf); refine .inl ⟨_,_,byX rfl (h11),?_⟩
         (conv=>whnf); refine .inl ⟨_,_,byX rfl (Sound1.pl (h17) rfl),?_⟩
         (conv=>whnf); refine .inl ⟨_,_,byX rfl (Sound1.pl (h17a) rfl),?_⟩
         (conv=>whnf); refine .inl ⟨_,_,byX rfl (Sound1.pl (h17b) rfl),?_⟩
         (conv=>whnf); refine ⟨?_,nofun⟩
         (first | contradiction | rfl | exact congrArg vb hva | omega)
   | some b =>
    change SP 17 [tblA (sub t r (t.length - r)),i64 x.2.1] (.tuple [gaF (frI b),i64 0]) false at h17b
    have hvb := vEq2 (frI b).1 (frI b).2
    have h18a := sml (smA a rfl)
    have h18b := sml (smB b rfl)
    have h19 := S19 a b (smA a rfl) (smB b rfl)
    have hcc := cmpR_neg a b
    by_cases hab : a < b
    ·have h17 : SP 17 [tblA t, i64 x.2.1] (.tuple [gaF (frI b), i64 0]) false := by
      have e : orM (some a) (some b) = some b := if_pos hab
      rw [e] at h17; exact h17
     have hlt := hcc.2 hab
     refine sound (d := 2) tok2 mixed2 Tryz.func3 (by kernel_rfl) (by kernel_rfl) ?_
     (conv=>whnf); refine .inl ⟨_,_,byX rfl (Sound1.pl (h4) rfl),?_⟩
     (conv=>whnf); refine .inl ⟨_,_,byX rfl (Sound1.pl (h5) rfl),?_⟩
     (conv=>whnf); refine .inl ⟨_,_,byX rfl (Sound1.pl (h6) rfl),?_⟩
     (conv=>whnf); refine ifB_dec (fun w2=>?_) (fun w2=>?_)
     ·(exfalso; omega)
     ·(conv=>whnf); refine .inl ⟨_,_,byX rfl (Sound1.pl (h7) rfl),?_⟩
      (conv=>whnf); refine .inl ⟨_,_,byX rfl (Sound1.pl (h8) rfl),?_⟩
      (conv=>whnf); refine ⟨inK64 (by omega) (by omega),?_⟩
      (conv=>whnf); refine .inl ⟨_,_,byX rfl (Sound1.pl (h9) rfl),?_⟩
      (conv=>whnf); refine ⟨inK64 (by omega) (by omega),?_⟩
      (conv=>whnf); refine .inl ⟨_,_,byX rfl (h11),?_⟩
      (conv=>whnf); refine .inl ⟨_,_,byX rfl (h10a),?_⟩
      (conv=>whnf); refine ⟨[],by kernel_rfl,?_⟩
      (conv=>whnf); refine .inl ⟨_,_,byX rfl (h11),?_⟩
      (conv=>whnf); refine ⟨inK64 (by omega) (by omega),?_⟩
      (conv=>whnf); refine .inl ⟨_,_,byX rfl (h10b),?_⟩
      (conv=>whnf); refine .inl ⟨_,_,byX rfl (Sound1.pl (h6a) rfl),?_⟩
      (conv=>whnf); refine .inl ⟨_,_,byX rfl (Sound1.pl (h6b) rfl),?_⟩
      (conv=>whnf); refine ⟨[],by kernel_rfl,?_⟩
      (conv=>whnf); refine ⟨⟨(by omega),(by omega)⟩,?_⟩
      (conv=>whnf); refine .inl ⟨_,_,byX rfl (Sound1.pl (h12) rfl),?_⟩
      (conv=>whnf); refine ifB_dec (fun w3=>?_) (fun w3=>?_)
      ·(exfalso; omega)
      ·(conv=>whnf); refine ⟨[],by kernel_rfl,?_⟩
       (conv=>whnf); refine .inl ⟨_,_,byX rfl (h11),?_⟩
       (conv=>whnf); refine .inl ⟨_,_,byX rfl (h13),?_⟩
       (conv=>whnf); refine ⟨[],by kernel_rfl,?_⟩
       (conv=>whnf); refine .inl ⟨_,_,byX rfl (h11b),?_⟩
       (conv=>whnf); refine .inl ⟨_,_,byX rfl (h13p),?_⟩
       (conv=>whnf); refine ⟨[],by kernel_rfl,?_⟩
       (conv=>whnf); refine .inl ⟨_,_,byX rfl (h11),?_⟩
       (conv=>whnf); refine .inl ⟨_,_,byX rfl (h14),?_⟩
       (conv=>whnf); refine ⟨[],by kernel_rfl,?_⟩
       (conv=>whnf); refine .inl ⟨_,_,byX rfl (h11b),?_⟩
       (conv=>whnf); refine .inl ⟨_,_,byX rfl (h14p),?_⟩
       (conv=>whnf); refine ⟨[],by kernel_rfl,?_⟩
       (conv=>whnf); refine .inl ⟨_,_,byX rfl (h11),?_⟩
       (conv=>whnf); refine .inl ⟨_,_,byX rfl (h15),?_⟩
       (conv=>whnf); refine ⟨[],by kernel_rfl,?_⟩
       (conv=>whnf); refine .inl ⟨_,_,byX rfl (h11b),?_⟩
       (conv=>whnf); refine .inl ⟨_,_,byX rfl (h15p),?_⟩
       (conv=>whnf); refine ifB_bne (fun w4=>?_) (fun w4=>?_)
       ·(exfalso; omega)
       ·(conv=>whnf); refine .inl ⟨_,_,byX rfl (Sound1.pl (h16a) rfl),?_⟩
        (conv=>whnf); refine ifB_bne (fun w5=>?_) (fun w5=>?_)
        ·(exfalso; omega)
        ·(conv=>whnf); refine .inl ⟨_,_,byX rfl (Sound1.pl (h16b) rfl),?_⟩
         (conv=>whnf); refine ifB_bne (fun w6=>?_) (fun w6=>?_)
         ·(exfalso; omega)
         ·(conv=>whnf); refine .inl ⟨_,_,byX rfl (Sound1.pl (h16c) rfl),?_⟩
          (conv=>whnf); refine ⟨[],by kernel_rfl,?_⟩
          (conv=>whnf); refine .inl ⟨_,_,byX rfl (h11),?_⟩
          (conv=>whnf); refine .inl ⟨_,_,byX rfl (Sound1.pl (h17) rfl),?_⟩
          (conv=>whnf); refine .inl ⟨_,_,byX rfl (Sound1.pl (h17a) rfl),?_⟩
          (conv=>whnf); refine .inl ⟨_,_,byX rfl (Sound1.pl (h17b) rfl),?_⟩
          (conv=>whnf); refine .inl ⟨_,_,byX rfl (Sound1.pl (h18a) rfl),?_⟩
          (conv=>whnf); refine .inl ⟨_,_,byX rfl (Sound1.pl (h18b) rfl),?_⟩
          (conv=>whnf); refine .inl ⟨_,_,byX rfl (Sound1.pl (h19) rfl),?_⟩
          (conv=>whnf); refine ifB_dec (fun w7=>?_) (fun w7=>?_)
          ·(conv=>whnf); refine ⟨?_,nofun⟩
           (first | contradiction | rfl | exact congrArg vb hvb | omega)
          ·(exfalso; omega)
    ·have h17 : SP 17 [tblA t, i64 x.2.1] (.tuple [gaF (frI a), i64 0]) false := by
      have e : orM (some a) (some b) = some a := if_neg hab
      rw [e] at h17; exact h17
     have hlt : ¬ cmpR a b < 0 := fun e=>hab (hcc.1 e)
     refine sound (d := 2) tok2 mixed2 Tryz.func3 (by kernel_rfl) (by kernel_rfl) ?_
     (conv=>whnf); refine .inl ⟨_,_,byX rfl (Sound1.pl (h4) rfl),?_⟩
     (conv=>whnf); refine .inl ⟨_,_,byX rfl (Sound1.pl (h5) rfl),?_⟩
     (conv=>whnf); refine .inl ⟨_,_,byX rfl (Sound1.pl (h6) rfl),?_⟩
     (conv=>whnf); refine ifB_dec (fun w2=>?_) (fun w2=>?_)
     ·(exfalso; omega)
     ·(conv=>whnf); refine .inl ⟨_,_,byX rfl (Sound1.pl (h7) rfl),?_⟩
      (conv=>whnf); refine .inl ⟨_,_,byX rfl (Sound1.pl (h8) rfl),?_⟩
      (conv=>whnf); refine ⟨inK64 (by omega) (by omega),?_⟩
      (conv=>whnf); refine .inl ⟨_,_,byX rfl (Sound1.pl (h9) rfl),?_⟩
      (conv=>whnf); refine ⟨inK64 (by omega) (by omega),?_⟩
      (conv=>whnf); refine .inl ⟨_,_,byX rfl (h11),?_⟩
      (conv=>whnf); refine .inl ⟨_,_,byX rfl (h10a),?_⟩
      (conv=>whnf); refine ⟨[],by kernel_rfl,?_⟩
      (conv=>whnf); refine .inl ⟨_,_,byX rfl (h11),?_⟩
      (conv=>whnf); refine ⟨inK64 (by omega) (by omega),?_⟩
      (conv=>whnf); refine .inl ⟨_,_,byX rfl (h10b),?_⟩
      (conv=>whnf); refine .inl ⟨_,_,byX rfl (Sound1.pl (h6a) rfl),?_⟩
      (conv=>whnf); refine .inl ⟨_,_,byX rfl (Sound1.pl (h6b) rfl),?_⟩
      (conv=>whnf); refine ⟨[],by kernel_rfl,?_⟩
      (conv=>whnf); refine ⟨⟨(by omega),(by omega)⟩,?_⟩
      (conv=>whnf); refine .inl ⟨_,_,byX rfl (Sound1.pl (h12) rfl),?_⟩
      (conv=>whnf); refine ifB_dec (fun w3=>?_) (fun w3=>?_)
      ·(exfalso; omega)
      ·(conv=>whnf); refine ⟨[],by kernel_rfl,?_⟩
       (conv=>whnf); refine .inl ⟨_,_,byX rfl (h11),?_⟩
       (conv=>whnf); refine .inl ⟨_,_,byX rfl (h13),?_⟩
       (conv=>whnf); refine ⟨[],by kernel_rfl,?_⟩
       (conv=>whnf); refine .inl ⟨_,_,byX rfl (h11b),?_⟩
       (conv=>whnf); refine .inl ⟨_,_,byX rfl (h13p),?_⟩
       (conv=>whnf); refine ⟨[],by kernel_rfl,?_⟩
       (conv=>whnf); refine .inl ⟨_,_,byX rfl (h11),?_⟩
       (conv=>whnf); refine .inl ⟨_,_,byX rfl (h14),?_⟩
       (conv=>whnf); refine ⟨[],by kernel_rfl,?_⟩
       (conv=>whnf); refine .inl ⟨_,_,byX rfl (h11b),?_⟩
       (conv=>whnf); refine .inl ⟨_,_,byX rfl (h14p),?_⟩
       (conv=>whnf); refine ⟨[],by kernel_rfl,?_⟩
       (conv=>whnf); refine .inl ⟨_,_,byX rfl (h11),?_⟩
       (conv=>whnf); refine .inl ⟨_,_,byX rfl (h15),?_⟩
       (conv=>whnf); refine ⟨[],by kernel_rfl,?_⟩
       (conv=>whnf); refine .inl ⟨_,_,byX rfl (h11b),?_⟩
       (conv=>whnf); refine .inl ⟨_,_,byX rfl (h15p),?_⟩
       (conv=>whnf); refine ifB_bne (fun w4=>?_) (fun w4=>?_)
       ·(exfalso; omega)
       ·(conv=>whnf); refine .inl ⟨_,_,byX rfl (Sound1.pl (h16a) rfl),?_⟩
        (conv=>whnf); refine ifB_bne (fun w5=>?_) (fun w5=>?_)
        ·(exfalso; omega)
        ·(conv=>whnf); refine .inl ⟨_,_,byX rfl (Sound1.pl (h16b) rfl),?_⟩
         (conv=>whnf); refine ifB_bne (fun w6=>?_) (fun w6=>?_)
         ·(exfalso; omega)
         ·(conv=>whnf); refine .inl ⟨_,_,byX rfl (Sound1.pl (h16c) rfl),?_⟩
          (conv=>whnf); refine ⟨[],by kernel_rfl,?_⟩
          (conv=>whnf); refine .inl ⟨_,_,byX rfl (h11),?_⟩
          (conv=>whnf); refine .inl ⟨_,_,byX rfl (Sound1.pl (h17) rfl),?_⟩
          (conv=>whnf); refine .inl ⟨_,_,byX rfl (Sound1.pl (h17a) rfl),?_⟩
          (conv=>whnf); refine .inl ⟨_,_,byX rfl (Sound1.pl (h17b) rfl),?_⟩
          (conv=>whnf); refine .inl ⟨_,_,byX rfl (Sound1.pl (h18a) rfl),?_⟩
          (conv=>whnf); refine .inl ⟨_,_,byX rfl (Sound1.pl (h18b) rfl),?_⟩
          (conv=>whnf); refine .inl ⟨_,_,byX rfl (Sound1.pl (h19) rfl),?_⟩
          (conv=>whnf); refine ifB_dec (fun w7=>?_) (fun w7=>?_)
          ·(exfalso; omega)
          ·(conv=>whnf); refine ⟨?_,nofun⟩
           (first | contradiction | rfl | exact congrArg vb hva | omega)
set_option maxHeartbeats 16000000 in
theorem S3 (t : List MRow) (h1 : t.length ≤ 9223372036854775807) (f : Int × Int) (hf : FrI f) (x : Int × Int × Int × Int) (ix : CutI x) : SP 3 [tblA t, gaF f, cutA x] (vb true) false := by
 have h4 := S4
 have h5 := S5 t h1
 by_cases hw : fewT t = true
 ·rw [hw] at h5
  have ht := few_fit hw
  have h6 := S6 t ht
  by_cases ec : (chkM t).2 = 0
  ·have hT := TblOk.of ec
   rw [ec] at h6
   by_cases hn : t.length < 3
   ·refine sound (d := 2) tok2 mixed2 Tryz.func3 (by kernel_rfl) (by kernel_rfl) ?_
    (conv=>whnf); refine .inl ⟨_,_,byX rfl (Sound1.pl (h4) rfl),?_⟩
    (conv=>whnf); refine .inl ⟨_,_,byX rfl (Sound1.pl (h5) rfl),?_⟩
    (conv=>whnf); refine .inl ⟨_,_,byX rfl (Sound1.pl (h6) rfl),?_⟩
    (conv=>whnf); refine ifB_dec (fun w1=>?_) (fun w1=>?_)
    ·(conv=>whnf); refine ⟨?_,nofun⟩
     (first | contradiction | rfl | omega)
    ·(exfalso; omega)
   ·have h7 := S7 t hT f hf
    by_cases eo : opE t f = 0
    ·rw [eo] at h7
     have h8 := S8 x.2
     by_cases ew : waE x.2 = 0
     ·rw [ew] at h8
      obtain ⟨hlo,hO⟩ := opE_ok eo
      exact S3m t hw hT (by omega) f hf hlo hO x ix ew h4 h5 h6 h7 h8
     ·refine sound (d := 2) tok2 mixed2 Tryz.func3 (by kernel_rfl) (by kernel_rfl) ?_
      (conv=>whnf); refine .inl ⟨_,_,byX rfl (Sound1.pl (h4) rfl),?_⟩
      (conv=>whnf); refine .inl ⟨_,_,byX rfl (Sound1.pl (h5) rfl),?_⟩
      (conv=>whnf); refine .inl ⟨_,_,byX rfl (Sound1.pl (h6) rfl),?_⟩
      (conv=>whnf); refine ifB_dec (fun w1=>?_) (fun w1=>?_)
      ·(exfalso; omega)
      ·(conv=>whnf); refine .inl ⟨_,_,byX rfl (Sound1.pl (h7) rfl),?_⟩
       (conv=>whnf); refine .inl ⟨_,_,byX rfl (Sound1.pl (h8) rfl),?_⟩
       (conv=>whnf); refine ifB_bne (fun w2=>?_) (fun w2=>?_)
       ·(conv=>whnf); refine ⟨?_,nofun⟩
        (first | contradiction | rfl | omega)
       ·(exfalso; omega)
    ·refine sound (d := 2) tok2 mixed2 Tryz.func3 (by kernel_rfl) (by kernel_rfl) ?_
     (conv=>whnf); refine .inl ⟨_,_,byX rfl (Sound1.pl (h4) rfl),?_⟩
     (conv=>whnf); refine .inl ⟨_,_,byX rfl (Sound1.pl (h5) rfl),?_⟩
     (conv=>whnf); refine .inl ⟨_,_,byX rfl (Sound1.pl (h6) rfl),?_⟩
     (conv=>whnf); refine ifB_dec (fun w1=>?_) (fun w1=>?_)
     ·(exfalso; omega)
     ·(conv=>whnf); refine .inl ⟨_,_,byX rfl (Sound1.pl (h7) rfl),?_⟩
      (conv=>whnf); refine ifB_bne (fun w2=>?_) (fun w2=>?_)
      ·(conv=>whnf); refine ⟨?_,nofun⟩
       (first | contradiction | rfl | omega)
      ·(exfalso; omega)
  ·refine sound (d := 2) tok2 mixed2 Tryz.func3 (by kernel_rfl) (by kernel_rfl) ?_
   (conv=>whnf); refine .inl ⟨_,_,byX rfl (Sound1.pl (h4) rfl),?_⟩
   (conv=>whnf); refine .inl ⟨_,_,byX rfl (Sound1.pl (h5) rfl),?_⟩
   (conv=>whnf); refine .inl ⟨_,_,byX rfl (Sound1.pl (h6) rfl),?_⟩
   (conv=>whnf); refine ifB_bne (fun w1=>?_) (fun w1=>?_)
   ·(conv=>whnf); refine ⟨?_,nofun⟩
    (first | contradiction | rfl | omega)
   ·(exfalso; omega)
 ·rw [Bool.eq_false_iff.2 hw] at h5
  refine sound (d := 2) tok2 mixed2 Tryz.func3 (by kernel_rfl) (by kernel_rfl) ?_
  (conv=>whnf); refine .inl ⟨_,_,byX rfl (Sound1.pl (h4) rfl),?_⟩
  (conv=>whnf); refine .inl ⟨_,_,byX rfl (Sound1.pl (h5) rfl),?_⟩
  (conv=>whnf); refine ⟨?_,nofun⟩
  (first | contradiction | rfl | omega)
end Go.Tr

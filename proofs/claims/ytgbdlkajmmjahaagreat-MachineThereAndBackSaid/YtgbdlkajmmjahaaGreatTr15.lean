/- The end of a law's proof in chapter 6: what every law shares; the opening of its arguments. Conditions: none. -/
import Derived.Test.YtgbdlkajmmjahaaGreatRows
import Derived.Test.YtgbdlkajmmjahaaGreatTr14
import Derived.Test.YtgbdlkajmmjahaaGreatTr08
import Derived.ProofKit
set_option linter.unusedSectionVars false
set_option linter.unnecessarySimpa false
set_option linter.unusedVariables false
set_option linter.unusedSimpArgs false

namespace Go.Tr
open Go Go.Proofs Go.RowKit Go.WideShapes Go.ChangeShapes
section
variable {H : Type} {enc : TypeId × Value → H} {P : Program}
theorem post_of_below {f : Func} {s : ChangeSpec} {apart fresh handsOn again : Bool} {W W' : World} {args : Array Value} {v : Value} {ds gs : List (DataW H)} {before pa pv : List MemPlace}
  (hW : DataW.Whole enc P f.params.toList s.vars apart W args.toList ds gs before)
  (hres : ∀ (b : Nat) (sp : Nat → Bool) (hd : Bool),DataW.TrodAll enc P W' b sp hd f.resultTypes.toList (v.resultList f.resultTypes.size) (s.fn H (ds ++ gs)).results [])
  (hargs : ∀ sp : Nat → Bool,(∀ p ∈ before,sp p.block = true) → DataW.TrodAll enc P W' 0 sp true f.params.toList args.toList (s.fn H (ds ++ gs)).args pa)
  (hvars : ∀ sp : Nat → Bool,(∀ p ∈ before,sp p.block = true) → DataW.TrodVars enc P W' sp s.vars (s.fn H (ds ++ gs)).vars pv)
  (hps : before = pa ++ pv) (hb : Below W.heap.size W W')
  (hok : ∀ (j : Nat) (t : TypeId) (r : Value),f.resultTypes[j]? = some t → (v.resultList f.resultTypes.size)[j]? = some r → Value.okWide P W' .any 0 t r) :
  s.post enc P f apart fresh handsOn again W args v W' := by
 have hlt : ∀ p ∈ before,p.block < W.heap.size := fun p hp=>hW.lt p hp
 have hold : ∀ p ∈ before,(fun b=>decide (b < W.heap.size)) p.block = true := fun p hp=>by simpa using hlt p hp
 refine ⟨ds,gs,before,[],pa,pv,hW,hres _ _ _,hargs _ hold,hvars _ hold,World.keptBut_mono (fun p hp=>⟨hp,?_⟩) (hb.frame (· ∈ before)),fun _=>?_⟩
 ·rw [hps,List.mem_append] at hp
  exact Or.inr hp
 ·obtain ⟨_,_,_,_,_,hz,hn⟩ := hW
  refine ⟨hok,_,_,([] ++ pa) ++ pv,⟨[] ++ pa,pv,trodAll_append (hargs _ (fun _ _=>rfl)) (hres _ _ _),hvars _ (fun _ _=>rfl),rfl,?_,?_⟩,?_⟩
  ·intro b off hp
   have hin : MemPlace.cell b off ∈ before := by rw [hps]; simpa using hp
   rw [hb.frozen (hlt _ hin)]
   exact hz b off hin
  ·intro ha
   have := hn ha
   rw [hps] at this
   simpa using this
  ·intro p hp _
   rw [hps]
   simpa using hp
end

set_option maxRecDepth 20000
set_option maxHeartbeats 8000000

def AVL (n : Nat) (l l' : List AV) : Prop := l.length = l'.length ∧ ∀ i x y,nth? l i = some x → nth? l' i = some y → x = y ∨ AVF n x y

theorem list_openF {α : Type} {es len : Nat} {f : Nat → List AV} {g : α → List AV} {p : α → Prop} (d : α) {k : Nat} (h : ∀ i,i < len → ∃ a,AVL k (f i) (g a) ∧ p a) :
  ∃ l : List α,l.length = len ∧ (∀ a ∈ l,p a) ∧ AVF (k + 1) (.rslice es len f) (.rslice es l.length fun i=>g (l.getD i d)) := by
 have hx : ∀ i,∃ a,i < len → AVL k (f i) (g a) ∧ p a := fun i=>by
  by_cases hi : i < len
  ·obtain ⟨a,ha⟩ := h i hi
   exact ⟨a,fun _=>ha⟩
  ·exact ⟨d,fun h=>absurd h hi⟩
 refine ⟨(List.range len).map fun i=>Classical.choose (hx i),by simp,fun a ha=>?_,⟨rfl,by simp,fun i hi=>?_⟩⟩
 ·obtain ⟨i,hi,rfl⟩ := List.mem_map.1 ha
  exact (Classical.choose_spec (hx i) (List.mem_range.1 hi)).2
 ·have := (Classical.choose_spec (hx i) hi).1
  simpa [List.getD_eq_getElem?_getD,hi,AVL] using this
theorem int_open {m : Nat} {t : TypeId} {xs : List AV} {P : Program} (hu : P.underlying t = some (.int .i64)) (h : TyC P (m + 1) t xs) : ∃ n,xs = [i64 n] ∧ inK .i64 n := by
  unfold TyC at h
  simpa only [hu] using h
theorem all2_cons {α β : Type} {p : α → β → Prop} {a : α} {l : List α} {m : List β} (h : All2 p (a :: l) m) : ∃ x r,m = x :: r ∧ p a x ∧ All2 p l r := by
  match m,h with
  | x :: r,h=>exact ⟨x,r,rfl,h.1,h.2⟩
theorem all2_nil {α β : Type} {p : α → β → Prop} {m : List β} (h : All2 p [] m) : m = [] := by
  match m,h with
  | [],_=>rfl
theorem AVL_refl {n : Nat} (l : List AV) : AVL n l l := ⟨rfl,fun _ _ _ hx hy=>.inl (Option.some.inj (hx.symm.trans hy))⟩
theorem AVF_orL {k : Nat} {l : List AV} : AVF (k + 1) (.agg l) (.agg l) := ⟨rfl,fun _ _ _ hx hy=>.inl (Option.some.inj (hx.symm.trans hy))⟩
theorem gok_none {w : World} {q : Nat → Prop} : GOk Tryz.prog w q := fun g l h=>by cases h
end Go.Tr

namespace Go.Proofs.YtgbdlkajmmjahaaGreat
open Go.ChangeShapes Go.WideShapes Go.ChangeAt Go.RowKit Go.Tr
theorem Tryz.own : ownKnob Tryz.prog.godebug = none := by kernel_rfl
theorem Tryz.laidOut : laidOutB Tryz.prog = true := by kernel_rfl
end Go.Proofs.YtgbdlkajmmjahaaGreat

/- The opening of spots in chapter 5. Conditions: none. -/
-- seat YtgbdlkajmmjahaaGreat
namespace Go.Tr
open Go Go.Proofs
set_option maxRecDepth 20000
set_option maxHeartbeats 8000000

theorem inK_i64 {n : Int} (h : inK .i64 n) : -9223372036854775808 ≤ n ∧ n ≤ 9223372036854775807 := by
 have hmx : IntKind.max .i64 = 9223372036854775807 := by decide
 have hmn : IntKind.min .i64 = -9223372036854775808 := by decide
 have h1 := h.1
 have h2 := h.2
 omega
theorem fr_open {m : Nat} {xs : List AV} (h : TyC Tryz.prog (m + 2) 26 xs) : ∃ f : Int × Int,xs = [i64 f.1,i64 f.2] ∧ FrI f := by
 unfold TyC at h
 simp only [Tryz.underlying26] at h
 obtain ⟨ps,rfl,h⟩ := h
 obtain ⟨p1,ps,rfl,h1,h⟩ := all2_cons h
 obtain ⟨p2,ps,rfl,h2,h⟩ := all2_cons h
 cases all2_nil h
 obtain ⟨a,rfl,ia⟩ := int_open Tryz.underlying3 h1
 obtain ⟨b,rfl,ib⟩ := int_open Tryz.underlying3 h2
 exact ⟨(a,b),rfl,inK_i64 ia,inK_i64 ib⟩
end Go.Tr

/- Openings of chapter 5: tables, fractions, lines, waterways. Conditions: none. -/
-- seat YtgbdlkajmmjahaaGreat
namespace Go.Tr
open Go Go.Proofs
set_option maxRecDepth 20000
set_option maxHeartbeats 8000000

theorem cells152 : Tryz.prog.cellsOf 152 = 3 := by kernel_rfl
theorem cells133 : Tryz.prog.cellsOf 133 = 2 := by kernel_rfl
theorem pts_deep {m : Nat} {xs : List AV} (h : TyC Tryz.prog (m + 3) 131 xs) : ∃ l : List P3,∃ x,xs = [x] ∧ (∀ k,AVF (k + 2) x (ptsA l)) := by
 unfold TyC at h
 simp only [Tryz.underlying131] at h
 obtain ⟨len,f,rfl,hl,hf⟩ := h
 obtain ⟨l,n1,n2,n3⟩ := list_openF (es := Tryz.prog.cellsOf 152) (f := f) (k := 0) (g := fun n : P3=>[i64 n.1,i64 n.2.1,i64 n.2.2]) (p := fun _=>True) p0 (fun i hi=>by
  have h1 := hf i hi
  unfold TyC at h1
  simp only [Tryz.underlying152] at h1
  obtain ⟨ps,e,h⟩ := h1
  obtain ⟨q1,ps,rfl,h1,h⟩ := all2_cons h
  obtain ⟨q2,ps,rfl,h2,h⟩ := all2_cons h
  obtain ⟨q3,ps,rfl,h3,h⟩ := all2_cons h
  cases all2_nil h
  obtain ⟨a,rfl,_⟩ := int_open Tryz.underlying3 h1
  obtain ⟨b,rfl,_⟩ := int_open Tryz.underlying3 h2
  obtain ⟨c,rfl,_⟩ := int_open Tryz.underlying3 h3
  exact ⟨(a,b,c),by rw [e]; exact AVL_refl _,trivial⟩)
 refine ⟨l,_,rfl,fun k=>?_⟩
 rw [cells152]
 refine ⟨rfl,n1.symm,fun i hi=>?_⟩
 have := n3.2.2 i hi
 refine ⟨this.1,fun j x y hx hy=>?_⟩
 rcases this.2 j x y hx hy with e | e
 ·exact .inl e
 ·exact e.elim
theorem rows_deep {m : Nat} {xs : List AV} (h : TyC Tryz.prog (m + 5) 22 xs) : ∃ t : List MRow,∃ x,xs = [x] ∧ AVF 5 x (rowsA t) ∧ t.length ≤ 9223372036854775807 := by
 unfold TyC at h
 simp only [Tryz.underlying22] at h
 obtain ⟨len,f,rfl,hl,hf⟩ := h
 obtain ⟨l,n1,n2,n3⟩ := list_openF (es := Tryz.prog.cellsOf 133) (f := f) (k := 4) (g := fun r : MRow=>[i64 r.o,ptsA r.ps]) (p := fun _=>True) r0 (fun i hi=>by
  have h1 := hf i hi
  unfold TyC at h1
  simp only [Tryz.underlying133] at h1
  obtain ⟨ps,e,h⟩ := h1
  obtain ⟨q1,ps,rfl,h1,h⟩ := all2_cons h
  obtain ⟨q2,ps,rfl,h2,h⟩ := all2_cons h
  cases all2_nil h
  obtain ⟨a,rfl,_⟩ := int_open Tryz.underlying3 h1
  obtain ⟨l,y,rfl,hy⟩ := pts_deep h2
  refine ⟨⟨a,l⟩,?_,trivial⟩
  rw [e]
  refine ⟨rfl,fun j x y hx hy'=>?_⟩
  match j,hx,hy' with
  | 0,hx,hy'=>cases hx; cases hy'; exact .inl rfl
  | 1,hx,hy'=>cases hx; cases hy'; exact .inr (hy 2))
 refine ⟨l,_,rfl,?_,by rw [n1]; exact hl⟩
 rw [cells133] at n3
 rw [cells133]
 exact n3
theorem tbl_open {x : AV} (h : TyA Tryz.prog 6 24 x) : ∃ t : List MRow,AVF 6 x (tblA t) ∧ t.length ≤ 9223372036854775807 := by
 simp only [TyA,Tryz.underlying24] at h
 obtain ⟨xs,rfl,h⟩ := h
 unfold TyC at h
 simp only [Tryz.underlying24] at h
 obtain ⟨ps,rfl,h⟩ := h
 obtain ⟨p1,ps,rfl,h1,h⟩ := all2_cons h
 cases all2_nil h
 obtain ⟨t,y,rfl,ht,hl⟩ := rows_deep h1
 refine ⟨t,⟨rfl,fun i x y hx hy=>?_⟩,hl⟩
 match i,hx,hy with
 | 0,hx,hy=>cases hx; cases hy; exact .inr ht
theorem frac_open {x : AV} (h : TyA Tryz.prog 6 26 x) : ∃ f : Int × Int,AVF 6 x (gaF f) ∧ FrI f := by
 simp only [TyA,Tryz.underlying26] at h
 obtain ⟨xs,rfl,h⟩ := h
 obtain ⟨f,rfl,i⟩ := fr_open h
 exact ⟨f,AVF_orL,i⟩
end Go.Tr

/- The end of a law's proof in chapter 6: what every law shares; the opening of its arguments. Conditions: none. -/
import Derived.Test.YtadidnljgmlaoaaGreatDoorRows
import Derived.Test.YtadidnljgmlaoaaGreatDoorTr09
import Derived.Test.YtadidnljgmlaoaaGreatDoorTr08
import Derived.ProofKit
import Derived.Stop.LaidErr
import Derived.Lib.LaidTab
import Derived.LaidSub
import Derived.LaidMore
import Derived.Lay
import Derived.Handed
import Derived.Shelf.Vars
import Derived.ChangeMaps5
set_option linter.unusedSectionVars false
set_option linter.unnecessarySimpa false
set_option linter.unusedVariables false
set_option linter.unusedSimpArgs false

namespace Go.Tr
open Go Go.Proofs Go.RowKit Go.WideShapes Go.ChangeShapes
section
variable {H : Type} {enc : TypeId × Value → H} {P : Program}
theorem post_of_below {f : Func} {s : ChangeSpec} {apart fresh handsOn again : Bool} {W W' : World} {args : Array Value} {v : Value} {ds gs : List (DataW H)} {before pa pv : List MemPlace}
  (hW : DataW.Whole enc P f.params.toList s.vars apart W args.toList ds gs before)
  (hres : ∀ (b : Nat) (sp : Nat → Bool) (hd : Bool),DataW.TrodAll enc P W' b sp hd f.resultTypes.toList (v.resultList f.resultTypes.size) (s.fn H (ds ++ gs)).results [])
  (hargs : ∀ sp : Nat → Bool,(∀ p ∈ before,sp p.block = true) → DataW.TrodAll enc P W' 0 sp true f.params.toList args.toList (s.fn H (ds ++ gs)).args pa)
  (hvars : ∀ sp : Nat → Bool,(∀ p ∈ before,sp p.block = true) → DataW.TrodVars enc P W' sp s.vars (s.fn H (ds ++ gs)).vars pv)
  (hps : before = pa ++ pv) (hb : Below W.heap.size W W')
  (hok : ∀ (j : Nat) (t : TypeId) (r : Value),f.resultTypes[j]? = some t → (v.resultList f.resultTypes.size)[j]? = some r → Value.okWide P W' .any 0 t r) :
  s.post enc P f apart fresh handsOn again W args v W' := by
 have hlt : ∀ p ∈ before,p.block < W.heap.size := fun p hp=>hW.lt p hp
 have hold : ∀ p ∈ before,(fun b=>decide (b < W.heap.size)) p.block = true := fun p hp=>by simpa using hlt p hp
 refine ⟨ds,gs,before,[],pa,pv,hW,hres _ _ _,hargs _ hold,hvars _ hold,World.keptBut_mono (fun p hp=>⟨hp,?_⟩) (hb.frame (· ∈ before)),fun _=>?_⟩
 ·rw [hps,List.mem_append] at hp
  exact Or.inr hp
 ·obtain ⟨_,_,_,_,_,hz,hn⟩ := hW
  refine ⟨hok,_,_,([] ++ pa) ++ pv,⟨[] ++ pa,pv,trodAll_append (hargs _ (fun _ _=>rfl)) (hres _ _ _),hvars _ (fun _ _=>rfl),rfl,?_,?_⟩,?_⟩
  ·intro b off hp
   have hin : MemPlace.cell b off ∈ before := by rw [hps]; simpa using hp
   rw [hb.frozen (hlt _ hin)]
   exact hz b off hin
  ·intro ha
   have := hn ha
   rw [hps] at this
   simpa using this
  ·intro p hp _
   rw [hps]
   simpa using hp
end

set_option maxRecDepth 20000
set_option maxHeartbeats 8000000

def AVL (n : Nat) (l l' : List AV) : Prop := l.length = l'.length ∧ ∀ i x y,nth? l i = some x → nth? l' i = some y → x = y ∨ AVF n x y

theorem list_openF {α : Type} {es len : Nat} {f : Nat → List AV} {g : α → List AV} {p : α → Prop} (d : α) {k : Nat} (h : ∀ i,i < len → ∃ a,AVL k (f i) (g a) ∧ p a) :
  ∃ l : List α,l.length = len ∧ (∀ a ∈ l,p a) ∧ AVF (k + 1) (.rslice es len f) (.rslice es l.length fun i=>g (l.getD i d)) := by
 have hx : ∀ i,∃ a,i < len → AVL k (f i) (g a) ∧ p a := fun i=>by
  by_cases hi : i < len
  ·obtain ⟨a,ha⟩ := h i hi
   exact ⟨a,fun _=>ha⟩
  ·exact ⟨d,fun h=>absurd h hi⟩
 refine ⟨(List.range len).map fun i=>Classical.choose (hx i),by simp,fun a ha=>?_,⟨rfl,by simp,fun i hi=>?_⟩⟩
 ·obtain ⟨i,hi,rfl⟩ := List.mem_map.1 ha
  exact (Classical.choose_spec (hx i) (List.mem_range.1 hi)).2
 ·have := (Classical.choose_spec (hx i) hi).1
  simpa [List.getD_eq_getElem?_getD,hi,AVL] using this
theorem int_open {m : Nat} {t : TypeId} {xs : List AV} {P : Program} (hu : P.underlying t = some (.int .i64)) (h : TyC P (m + 1) t xs) : ∃ n,xs = [i64 n] ∧ inK .i64 n := by
  unfold TyC at h
  simpa only [hu] using h
theorem AVL_refl {n : Nat} (l : List AV) : AVL n l l := ⟨rfl,fun _ _ _ hx hy=>.inl (Option.some.inj (hx.symm.trans hy))⟩
end Go.Tr

namespace Go.Proofs.YtadidnljgmlaoaaGreatDoor
open Go.ChangeShapes Go.WideShapes Go.ChangeAt Go.RowKit Go.Tr
theorem Tryz.own : ownKnob Tryz.prog.godebug = none := by kernel_rfl
theorem Tryz.laidOut : laidOutB Tryz.prog = true := by kernel_rfl
end Go.Proofs.YtadidnljgmlaoaaGreatDoor

/- Openings of GovernorStrings; what its package variables hold. Conditions: none. -/
-- seat YtadidnljgmlaoaaGreatDoor
namespace Go.Tr
open Go Go.Proofs
set_option maxRecDepth 20000
set_option maxHeartbeats 8000000

theorem i64_of {n : Int} (h : inK .i64 n) : I64 n := by
 obtain ⟨h1,h2⟩ := h
 have e1 : IntKind.min .i64 = -9223372036854775808 := by decide
 have e2 : IntKind.max .i64 = 9223372036854775807 := by decide
 rw [e1] at h1
 rw [e2] at h2
 exact ⟨h1,h2⟩
theorem cellsI : Tryz.prog.cellsOf 3 = 1 := by kernel_rfl
theorem ints_deep {m : Nat} {xs : List AV} (h : TyC Tryz.prog (m + 2) 22 xs) : ∃ l : List Int,∃ x,xs = [x] ∧ (∀ k,AVF (k + 2) x (ints l)) ∧ l.length ≤ 9223372036854775807 ∧ ∀ a ∈ l,I64 a := by
 unfold TyC at h
 simp only [Tryz.underlying22] at h
 obtain ⟨len,f,rfl,hl,hf⟩ := h
 obtain ⟨l,n1,n2,n3⟩ := list_openF (es := Tryz.prog.cellsOf 3) (f := f) (k := 0) (g := fun n : Int=>[i64 n]) (p := fun n=>I64 n) 0 (fun i hi=>by
  obtain ⟨n,e,hn⟩ := int_open Tryz.underlying3 (hf i hi)
  exact ⟨n,by rw [e]; exact AVL_refl _,i64_of hn⟩)
 refine ⟨l,_,rfl,fun k=>?_,by rw [n1]; exact hl,n2⟩
 rw [cellsI]
 refine ⟨rfl,n1.symm,fun i hi=>?_⟩
 have := n3.2.2 i hi
 refine ⟨this.1,fun j x y hx hy=>?_⟩
 rcases this.2 j x y hx hy with e | e
 ·exact .inl e
 ·exact e.elim
theorem ints_open {x : AV} (h : TyA Tryz.prog 6 22 x) : ∃ l : List Int,AVF 6 x (ints l) ∧ l.length ≤ 9223372036854775807 ∧ ∀ a ∈ l,I64 a := by
 simp only [TyA,Tryz.underlying22] at h
 obtain ⟨l,y,e,h1,h2⟩ := ints_deep (m := 4) h
 cases e
 exact ⟨l,h1 4,h2⟩
end Go.Tr
namespace Go.Proofs.YtadidnljgmlaoaaGreatDoor
open Go.ChangeShapes Go.WideShapes Go.ChangeAt Go.RowKit Go.Tr
set_option maxRecDepth 100000
abbrev laidL : List (String × DataW Unit) := Rows.governorStringsRow.laid
theorem laid_plain {W : World} (h : laidMetH Tryz.prog laidL W) : laidMet Tryz.prog laidL W := by
  rw [MakeChecks.laidMetH_plain _ _ _ (by kernel_rfl)] at h
  exact h
theorem pow_is {W : World} (h : laidMetH Tryz.prog laidL W) : Lib.TabIs Tryz.prog W "internal/strconv.uint64pow10" .u64 Lib.pow10Tab := by
 have h1 := (laid_plain h).filter fun x => x.1 == "internal/strconv.uint64pow10"
 have e : (laidL.filter fun x => x.1 == "internal/strconv.uint64pow10") = [("internal/strconv.uint64pow10", Lib.tabData .u64 Lib.pow10Tab)] := by rfl
 rw [e] at h1
 exact Lib.tabIs_of_head (g := 2) (by kernel_rfl) (by kernel_rfl) Tryz.underlying182 Tryz.underlying146 (by kernel_rfl) (by kernel_rfl) h1
def nmE : String := match (Rows.laid_strconv_ErrSyntax : DataW Unit) with | .iface n _=>n | _=>default
theorem rowE : ∀ u,Tryz.prog.typeName? 3 u = some nmE → u = 190 := fun u h =>
  typeName_ptr_named (nm := "errors.errorString") (by kernel_rfl) (by kernel_rfl) (by decide) u (h.trans (by kernel_rfl))
theorem err_is {W : World} {n : String} {g : Nat} {text : List UInt8} (h : laidMet Tryz.prog [(n,.iface nmE (.ptr (.agg [.lit (.string text)])))] W) (hg : Tryz.prog.globalNamed n = some g) (ht : (Tryz.prog.globals[g]?).map (·.type) = some 66) :
  ∃ t v,W.var? Tryz.prog n = some #[.iface t v] := by
 obtain ⟨a,s,h1,_⟩ := laid_sentinel h hg ht Tryz.underlying66 rowE Tryz.underlying190 Tryz.underlying192 rfl rfl Tryz.underlying9 (by kernel_rfl) (by kernel_rfl)
 exact ⟨_,_,h1⟩
theorem err4 {W : World} (h : laidMetH Tryz.prog laidL W) : ∃ t v, W.var? Tryz.prog "strconv.ErrSyntax" = some #[.iface t v] := by
 have h1 := (laid_plain h).filter fun x => x.1 == "strconv.ErrSyntax"
 have e : (laidL.filter fun x => x.1 == "strconv.ErrSyntax") = [("strconv.ErrSyntax", Rows.laid_strconv_ErrSyntax)] := by rfl
 rw [e] at h1
 exact err_is h1 (g := 0) (by kernel_rfl) (by kernel_rfl)
theorem err5 {W : World} (h : laidMetH Tryz.prog laidL W) : ∃ t v, W.var? Tryz.prog "strconv.ErrRange" = some #[.iface t v] := by
 have h1 := (laid_plain h).filter fun x => x.1 == "strconv.ErrRange"
 have e : (laidL.filter fun x => x.1 == "strconv.ErrRange") = [("strconv.ErrRange", Rows.laid_strconv_ErrRange)] := by rfl
 rw [e] at h1
 exact err_is h1 (g := 1) (by kernel_rfl) (by kernel_rfl)
theorem var_heap {W : World} {n : String} {g : Nat} {cs : Array Value} (hg : Tryz.prog.globalNamed n = some g) (h : W.var? Tryz.prog n = some cs) : ∃ t a,W.heap[g]? = some (.cells cs t a) := by
 simp only [World.var?,hg,Option.bind_some] at h
 split at h
 ·rename_i cs' t a he
  cases h
  exact ⟨t,a,he⟩
 ·cases h
theorem rptr_of {W : World} {g : Nat} {l : List AV} {cs : Array Value} {t : TypeId} {a : Nat × Nat} (hh : W.heap[g]? = some (.cells cs t a)) (hn : cs.size = l.length) (ho : ∀ v ∈ cs.toList,v.oneCell' = true) (hv : ∀ (j : Nat) x,l[j]? = some x → VT Tryz.prog W (fun b=>b < W.heap.size) x (cs.getD j undef)) :
  VT Tryz.prog W (fun b=>b < W.heap.size) (.rptr l) (.pointer (some ⟨g,0,none⟩)) ∧ ∃ cs t a,W.heap[g]? = some (.cells cs t a) ∧ cs.size = l.length := by
 refine ⟨.rptr l g 0 (fun j=>cs.getD j undef) (Array.getElem?_eq_some_iff.1 hh).1 (fun j hj=>?_) hv,cs,t,a,hh,hn⟩
 have hj' : j < cs.size := by omega
 have e : cs.getD j undef = cs[j] := by simp [Array.getD,hj']
 rw [e,Nat.zero_add]
 exact ⟨by simp [World.cell?,hh,hj'],ho _ (by simp)⟩
theorem gok_of {W : World} (h : laidMetH Tryz.prog laidL W) (hs : W.ShapedOpen Tryz.prog) : GOk Tryz.prog W (fun b=>b < W.heap.size) := by
 refine ⟨fun g l hl=>?_,fun g hg=>?_⟩
 ·match g,hl with
  | 2, hl =>
   cases hl
   obtain ⟨t,a,hh⟩ := var_heap (g := 2) (by kernel_rfl) (pow_is h)
   have e : Lib.pow10Tab.map (fun z=>Value.int .u64 z) = pow10V := by simp [pow10V,Lib.pow10Tab,List.map_map,Function.comp_def]
   rw [e] at hh
   refine rptr_of hh (by simp) (fun v hv=>?_) (fun j x hx=>?_)
   ·have hv : v ∈ pow10V := by simpa using hv
    obtain ⟨i,_,rfl⟩ := List.mem_map.1 hv
    rfl
   ·rw [List.getElem?_map] at hx
    cases hj : pow10V[j]? with
    | none=>rw [hj] at hx; cases hx
    | some v =>
     rw [hj] at hx
     cases hx
     have : pow10V.toArray.getD j undef = v := by
      obtain ⟨hi,e⟩ := List.getElem?_eq_some_iff.1 hj
      simp [Array.getD,hi,e]
     rw [this]; exact .val v
  | 0, hl =>
   cases hl
   obtain ⟨t,v,h4⟩ := err4 h
   obtain ⟨t',a,hh⟩ := var_heap (g := 0) (by kernel_rfl) h4
   exact rptr_of hh rfl (fun u hu=>by rw [List.mem_singleton.1 hu]; rfl) fun j x hx=>match j,hx with
    | 0,hx=>by cases hx; exact .err t v
  | 1, hl =>
   cases hl
   obtain ⟨t,v,h4⟩ := err5 h
   obtain ⟨t',a,hh⟩ := var_heap (g := 1) (by kernel_rfl) h4
   exact rptr_of hh rfl (fun u hu=>by rw [List.mem_singleton.1 hu]; rfl) fun j x hx=>match j,hx with
    | 0,hx=>by cases hx; exact .err t v
 ·match g,hg with
  | 3, _ =>
   obtain ⟨m,hm⟩ := cell_of_shapedOpen_int (P := Tryz.prog) (w := W) (g := 3) (t := 3) (zero := #[.int .i64 0]) (k := .i64) hs (of_decide_eq_true (by kernel_rfl)) (by kernel_rfl) rfl (by kernel_rfl) (by kernel_rfl) Tryz.underlying3
   obtain ⟨cs,hh,hsz,_⟩ := hs.1 3 #[.int .i64 0] 3 (of_decide_eq_true (by kernel_rfl)) (by kernel_rfl)
   have hlt : 3 < W.heap.size := (Array.getElem?_eq_some_iff.1 hh).1
   have hc : cs = #[.int .i64 m] := by
    have h1 : cs.size = 1 := hsz
    apply Array.ext_getElem?
    intro i
    match i with
    | 0 =>
     simp [World.cell?,hh] at hm
     simpa using hm
    | i + 1=>rw [Array.getElem?_eq_none (by omega)]; simp
   subst hc
   exact ⟨hlt,m,_,_,hh⟩
end Go.Proofs.YtadidnljgmlaoaaGreatDoor

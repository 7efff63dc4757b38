/- Openings of SequenceStates; what its package variables hold. Conditions: none. -/
import Derived.Test.YtmichdmpmnhnaaaGreatDoorTr09
import Derived.Test.YtmichdmpmnhnaaaGreatDoorTr10
import Derived.Test.YtmichdmpmnhnaaaGreatDoorRows
import Derived.Stop.LaidErr
import Derived.Lib.LaidTab
import Derived.LaidSub
import Derived.LaidMore
import Derived.Lay
import Derived.Handed
import Derived.Shelf.Vars
import Derived.ChangeMaps5
import Derived.ProofKit
import Derived.MakeChecks
import Derived.Stop.Joined
set_option linter.unusedSectionVars false
set_option linter.unnecessarySimpa false
set_option linter.unusedVariables false
set_option linter.unusedSimpArgs false

-- seat YtmichdmpmnhnaaaGreatDoor
namespace Go.Tr
open Go Go.Proofs Go.RowKit Go.WideShapes Go.ChangeShapes
section
variable {H : Type} {enc : TypeId × Value → H} {P : Program}
theorem post_of_below {f : Func} {s : ChangeSpec} {apart fresh handsOn again : Bool} {W W' : World} {args : Array Value} {v : Value} {ds gs : List (DataW H)} {before pa pv : List MemPlace}
  (hW : DataW.Whole enc P f.params.toList s.vars apart W args.toList ds gs before)
  (hres : ∀ (b : Nat) (sp : Nat → Bool) (hd : Bool),DataW.TrodAll enc P W' b sp hd f.resultTypes.toList (v.resultList f.resultTypes.size) (s.fn H (ds ++ gs)).results [])
  (hargs : ∀ sp : Nat → Bool,(∀ p ∈ before,sp p.block = true) → DataW.TrodAll enc P W' 0 sp true f.params.toList args.toList (s.fn H (ds ++ gs)).args pa)
  (hvars : ∀ sp : Nat → Bool,(∀ p ∈ before,sp p.block = true) → DataW.TrodVars enc P W' sp s.vars (s.fn H (ds ++ gs)).vars pv)
  (hps : before = pa ++ pv) (hb : Below W.heap.size W W')
  (hok : ∀ (j : Nat) (t : TypeId) (r : Value),f.resultTypes[j]? = some t → (v.resultList f.resultTypes.size)[j]? = some r → Value.okWide P W' .any 0 t r) :
  s.post enc P f apart fresh handsOn again W args v W' := by
 have hlt : ∀ p ∈ before,p.block < W.heap.size := fun p hp=>hW.lt p hp
 have hold : ∀ p ∈ before,(fun b=>decide (b < W.heap.size)) p.block = true := fun p hp=>by simpa using hlt p hp
 refine ⟨ds,gs,before,[],pa,pv,hW,hres _ _ _,hargs _ hold,hvars _ hold,World.keptBut_mono (fun p hp=>⟨hp,?_⟩) (hb.frame (· ∈ before)),fun _=>?_⟩
 ·rw [hps,List.mem_append] at hp
  exact Or.inr hp
 ·obtain ⟨_,_,_,_,_,hz,hn⟩ := hW
  refine ⟨hok,_,_,([] ++ pa) ++ pv,⟨[] ++ pa,pv,trodAll_append (hargs _ (fun _ _=>rfl)) (hres _ _ _),hvars _ (fun _ _=>rfl),rfl,?_,?_⟩,?_⟩
  ·intro b off hp
   have hin : MemPlace.cell b off ∈ before := by rw [hps]; simpa using hp
   rw [hb.frozen (hlt _ hin)]
   exact hz b off hin
  ·intro ha
   have := hn ha
   rw [hps] at this
   simpa using this
  ·intro p hp _
   rw [hps]
   simpa using hp
end

set_option maxRecDepth 20000
set_option maxHeartbeats 8000000

theorem int_open {m : Nat} {t : TypeId} {xs : List AV} {P : Program} (hu : P.underlying t = some (.int .i64)) (h : TyC P (m + 1) t xs) : ∃ n,xs = [i64 n] ∧ inK .i64 n := by
  unfold TyC at h
  simpa only [hu] using h
theorem all2_cons {α β : Type} {p : α → β → Prop} {a : α} {l : List α} {m : List β} (h : All2 p (a :: l) m) : ∃ x r,m = x :: r ∧ p a x ∧ All2 p l r := by
  match m,h with
  | x :: r,h=>exact ⟨x,r,rfl,h.1,h.2⟩
theorem all2_nil {α β : Type} {p : α → β → Prop} {m : List β} (h : All2 p [] m) : m = [] := by
  match m,h with
  | [],_=>rfl
theorem AVF_orL {k : Nat} {l : List AV} : AVF (k + 1) (.agg l) (.agg l) := ⟨rfl,fun _ _ _ hx hy=>.inl (Option.some.inj (hx.symm.trans hy))⟩
theorem i64_of {n : Int} (h : inK .i64 n) : I64 n := by
 obtain ⟨h1,h2⟩ := h
 have e1 : IntKind.min .i64 = -9223372036854775808 := by decide
 have e2 : IntKind.max .i64 = 9223372036854775807 := by decide
 rw [e1] at h1
 rw [e2] at h2
 exact ⟨h1,h2⟩
theorem state_open {x : AV} (h : TyA Tryz.prog 6 23 x) : ∃ s : Int × Int,AVF 6 x (stA s) ∧ I64 s.1 ∧ I64 s.2 := by
 simp only [TyA,Tryz.underlying23] at h
 obtain ⟨xs,rfl,h⟩ := h
 unfold TyC at h
 simp only [Tryz.underlying23] at h
 obtain ⟨ps,rfl,h⟩ := h
 obtain ⟨p,ps,rfl,h1,h⟩ := all2_cons h
 obtain ⟨q,ps,rfl,h2,h⟩ := all2_cons h
 cases all2_nil h
 obtain ⟨a,rfl,ha⟩ := int_open Tryz.underlying3 h1
 obtain ⟨b,rfl,hb⟩ := int_open Tryz.underlying3 h2
 exact ⟨(a,b),AVF_orL,i64_of ha,i64_of hb⟩
end Go.Tr
namespace Go.Proofs.YtmichdmpmnhnaaaGreatDoor
open Go.ChangeShapes Go.WideShapes Go.ChangeAt Go.RowKit Go.Tr
set_option maxRecDepth 100000
theorem Tryz.own : ownKnob Tryz.prog.godebug = none := by kernel_rfl
theorem Tryz.laidOut : laidOutB Tryz.prog = true := by kernel_rfl
abbrev laidL : List (String × DataW Unit) := Rows.sequenceStatesRow.laid
theorem laid_plain {W : World} (h : laidMetH Tryz.prog laidL W) : laidMet Tryz.prog laidL W := by
  rw [MakeChecks.laidMetH_plain _ _ _ (by kernel_rfl)] at h
  exact h
theorem pow_is {W : World} (h : laidMetH Tryz.prog laidL W) : Lib.TabIs Tryz.prog W "internal/strconv.uint64pow10" .u64 Lib.pow10Tab := by
 have h1 := (laid_plain h).filter fun x => x.1 == "internal/strconv.uint64pow10"
 have e : (laidL.filter fun x => x.1 == "internal/strconv.uint64pow10") = [("internal/strconv.uint64pow10", Lib.tabData .u64 Lib.pow10Tab)] := by rfl
 rw [e] at h1
 exact Lib.tabIs_of_head (g := 2) (by kernel_rfl) (by kernel_rfl) Tryz.underlying195 Tryz.underlying181 (by kernel_rfl) (by kernel_rfl) h1
def nmE : String := match (Rows.laid_strconv_ErrSyntax : DataW Unit) with | .iface n _=>n | _=>default
theorem rowE : ∀ u,Tryz.prog.typeName? 3 u = some nmE → u = 213 := fun u h =>
  typeName_ptr_named (nm := "errors.errorString") (by kernel_rfl) (by kernel_rfl) (by decide) u (h.trans (by kernel_rfl))
theorem err_is {W : World} {n : String} {g : Nat} {text : List UInt8} (h : laidMet Tryz.prog [(n,.iface nmE (.ptr (.agg [.lit (.string text)])))] W) (hg : Tryz.prog.globalNamed n = some g) (ht : (Tryz.prog.globals[g]?).map (·.type) = some 127) :
  ∃ t v,W.var? Tryz.prog n = some #[.iface t v] := by
 obtain ⟨a,s,h1,_⟩ := laid_sentinel h hg ht Tryz.underlying127 rowE Tryz.underlying213 Tryz.underlying215 rfl rfl Tryz.underlying9 (by kernel_rfl) (by kernel_rfl)
 exact ⟨_,_,h1⟩
theorem err4 {W : World} (h : laidMetH Tryz.prog laidL W) : ∃ t v, W.var? Tryz.prog "strconv.ErrSyntax" = some #[.iface t v] := by
 have h1 := (laid_plain h).filter fun x => x.1 == "strconv.ErrSyntax"
 have e : (laidL.filter fun x => x.1 == "strconv.ErrSyntax") = [("strconv.ErrSyntax", Rows.laid_strconv_ErrSyntax)] := by rfl
 rw [e] at h1
 exact err_is h1 (g := 3) (by kernel_rfl) (by kernel_rfl)
theorem err5 {W : World} (h : laidMetH Tryz.prog laidL W) : ∃ t v, W.var? Tryz.prog "strconv.ErrRange" = some #[.iface t v] := by
 have h1 := (laid_plain h).filter fun x => x.1 == "strconv.ErrRange"
 have e : (laidL.filter fun x => x.1 == "strconv.ErrRange") = [("strconv.ErrRange", Rows.laid_strconv_ErrRange)] := by rfl
 rw [e] at h1
 exact err_is h1 (g := 4) (by kernel_rfl) (by kernel_rfl)
theorem var_heap {W : World} {n : String} {g : Nat} {cs : Array Value} (hg : Tryz.prog.globalNamed n = some g) (h : W.var? Tryz.prog n = some cs) : ∃ t a,W.heap[g]? = some (.cells cs t a) := by
 simp only [World.var?,hg,Option.bind_some] at h
 split at h
 ·rename_i cs' t a he
  cases h
  exact ⟨t,a,he⟩
 ·cases h
theorem rptr_of {W : World} {g : Nat} {l : List AV} {cs : Array Value} {t : TypeId} {a : Nat × Nat} (hh : W.heap[g]? = some (.cells cs t a)) (hn : cs.size = l.length) (ho : ∀ v ∈ cs.toList,v.oneCell' = true) (hv : ∀ (j : Nat) x,l[j]? = some x → VT Tryz.prog W (fun b=>b < W.heap.size) x (cs.getD j undef)) :
  VT Tryz.prog W (fun b=>b < W.heap.size) (.rptr l) (.pointer (some ⟨g,0,none⟩)) ∧ ∃ cs t a,W.heap[g]? = some (.cells cs t a) ∧ cs.size = l.length := by
 refine ⟨.rptr l g 0 (fun j=>cs.getD j undef) (Array.getElem?_eq_some_iff.1 hh).1 (fun j hj=>?_) hv,cs,t,a,hh,hn⟩
 have hj' : j < cs.size := by omega
 have e : cs.getD j undef = cs[j] := by simp [Array.getD,hj']
 rw [e,Nat.zero_add]
 exact ⟨by simp [World.cell?,hh,hj'],ho _ (by simp)⟩
theorem two_of {α : Type} : ∀ {l : List α},l.length = 2 → ∃ u v,l = [u,v]
  | [u,v],_=>⟨u,v,rfl⟩
theorem cells3' : Tryz.prog.cellsOf 3 = 1 := by kernel_rfl
theorem cells4' : Tryz.prog.cellsOf 4 = 1 := by kernel_rfl
theorem gNo : Tryz.prog.globalNamed "guidevane/sequence.noFault" = some 0 := by kernel_rfl
theorem tNo : (Tryz.prog.globals[0]?).map (·.type) = some 51 := by kernel_rfl
theorem no_is {W : World} (h : laidMetH Tryz.prog laidL W) : W.var? Tryz.prog "guidevane/sequence.noFault" = some #[.int .i64 (-1), .bool false] := by
 have h1 := (laid_plain h).filter fun x => x.1 == "guidevane/sequence.noFault"
 have e : (laidL.filter fun x => x.1 == "guidevane/sequence.noFault") = [("guidevane/sequence.noFault", Rows.laid_guidevane_sequence_noFault)] := by rfl
 rw [e] at h1
 obtain ⟨ps,⟨g0,t0,cs0,f0,p0,q0,hg0,ht0,hv0,hd0,_,_⟩,_,_⟩ := h1
 obtain rfl := Option.some.inj (gNo.symm.trans hg0)
 obtain rfl := Option.some.inj (tNo.symm.trans ht0)
 obtain ⟨xs,n,rfl,hx,hl,hxl,hf⟩ := DataW.trod_struct Tryz.underlying51 hd0
 have h0 := hf 0 _ rfl
 have h1 := hf 1 _ rfl
 simp only [Prod.mk.injEq] at hx
 have hx1 : [DataW.lit (.int .i64 (-1)),.lit (.bool false)] = xs.map (·.1) := DataW.agg.inj hx.1
 match xs,hx1,h0,h1 with
 | [x0,x1],hx1,h0,h1 =>
  simp only [List.map_cons,List.map_nil,List.cons.injEq,and_true] at hx1
  obtain ⟨k,e1,e2,_⟩ := DataW.trod_int Tryz.underlying3 h0
  obtain ⟨b,e3,e4⟩ := DataW.trod_bool Tryz.underlying4 h1
  rw [e2] at hx1
  rw [e4] at hx1
  have hk : k = -1 := by have := hx1.1; simpa using this.symm
  have hb : b = false := by have := hx1.2; simpa using this.symm
  subst hk
  subst hb
  obtain ⟨l⟩ := cs0
  have c38 : Tryz.prog.cellsOf 51 = 2 := by kernel_rfl
  rw [c38] at hl
  have e1 : List.take (Tryz.prog.cellsOf 3) (List.drop 0 l) = [.int .i64 (-1)] := e1
  have e3 : List.take (Tryz.prog.cellsOf 4) (List.drop 1 l) = [.bool false] := e3
  rw [cells3'] at e1
  rw [cells4'] at e3
  have hl2 : l.length = 2 := hl
  clear hl hd0 hf h0 h1
  obtain ⟨u,v,rfl⟩ := two_of hl2
  have q1 : u = .int .i64 (-1) := by simpa using e1
  have q3 : v = .bool false := by simpa using e3
  rw [q1,q3] at hv0
  exact hv0
theorem gok_of {W : World} (h : laidMetH Tryz.prog laidL W) (hs : W.ShapedOpen Tryz.prog) : GOk Tryz.prog W (fun b=>b < W.heap.size) := by
 refine ⟨fun g l hl=>?_,fun g hg=>?_⟩
 ·match g,hl with
  | 0, hl =>
   cases hl
   obtain ⟨t,a,hh⟩ := var_heap (g := 0) (by kernel_rfl) (no_is h)
   exact rptr_of hh rfl (fun u hu=>by
    rcases List.mem_cons.1 hu with e | hu
    ·rw [e]; rfl
    ·rw [List.mem_singleton.1 hu]; rfl) fun j x hx=>match j,hx with
    | 0,hx=>by cases hx; exact .val _
    | 1,hx=>by cases hx; exact .val _
  | 2, hl =>
   cases hl
   obtain ⟨t,a,hh⟩ := var_heap (g := 2) (by kernel_rfl) (pow_is h)
   have e : Lib.pow10Tab.map (fun z=>Value.int .u64 z) = pow10V := by simp [pow10V,Lib.pow10Tab,List.map_map,Function.comp_def]
   rw [e] at hh
   refine rptr_of hh (by simp) (fun v hv=>?_) (fun j x hx=>?_)
   ·have hv : v ∈ pow10V := by simpa using hv
    obtain ⟨i,_,rfl⟩ := List.mem_map.1 hv
    rfl
   ·rw [List.getElem?_map] at hx
    cases hj : pow10V[j]? with
    | none=>rw [hj] at hx; cases hx
    | some v =>
     rw [hj] at hx
     cases hx
     have : pow10V.toArray.getD j undef = v := by
      obtain ⟨hi,e⟩ := List.getElem?_eq_some_iff.1 hj
      simp [Array.getD,hi,e]
     rw [this]; exact .val v
  | 3, hl =>
   cases hl
   obtain ⟨t,v,h4⟩ := err4 h
   obtain ⟨t',a,hh⟩ := var_heap (g := 3) (by kernel_rfl) h4
   exact rptr_of hh rfl (fun u hu=>by rw [List.mem_singleton.1 hu]; rfl) fun j x hx=>match j,hx with
    | 0,hx=>by cases hx; exact .err t v
  | 4, hl =>
   cases hl
   obtain ⟨t,v,h4⟩ := err5 h
   obtain ⟨t',a,hh⟩ := var_heap (g := 4) (by kernel_rfl) h4
   exact rptr_of hh rfl (fun u hu=>by rw [List.mem_singleton.1 hu]; rfl) fun j x hx=>match j,hx with
    | 0,hx=>by cases hx; exact .err t v
 ·match g,hg with
  | 1, _ =>
   obtain ⟨m,hm⟩ := cell_of_shapedOpen_int (P := Tryz.prog) (w := W) (g := 1) (t := 3) (zero := #[.int .i64 0]) (k := .i64) hs (of_decide_eq_true (by kernel_rfl)) (by kernel_rfl) rfl (by kernel_rfl) (by kernel_rfl) Tryz.underlying3
   obtain ⟨cs,hh,hsz,_⟩ := hs.1 1 #[.int .i64 0] 3 (of_decide_eq_true (by kernel_rfl)) (by kernel_rfl)
   have hlt : 1 < W.heap.size := (Array.getElem?_eq_some_iff.1 hh).1
   have hc : cs = #[.int .i64 m] := by
    have h1 : cs.size = 1 := hsz
    apply Array.ext_getElem?
    intro i
    match i with
    | 0 =>
     simp [World.cell?,hh] at hm
     simpa using hm
    | i + 1=>rw [Array.getElem?_eq_none (by omega)]; simp
   subst hc
   exact ⟨hlt,m,_,_,hh⟩
end Go.Proofs.YtmichdmpmnhnaaaGreatDoor

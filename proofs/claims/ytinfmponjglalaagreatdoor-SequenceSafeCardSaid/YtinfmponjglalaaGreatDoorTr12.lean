/- The end of the laws of round r14: what they share; the opening of their arguments. Conditions: none. -/
import Derived.Test.YtinfmponjglalaaGreatDoorRows
import Derived.Test.YtinfmponjglalaaGreatDoorTr11
import Derived.Test.YtinfmponjglalaaGreatDoorTr09
import Derived.ProofKit
import Derived.LaidMore
import Derived.MakeChecks
import Derived.Stop.Joined
set_option linter.unusedSectionVars false
set_option linter.unnecessarySimpa false
set_option linter.unusedVariables false
set_option linter.unusedSimpArgs false

-- seat YtinfmponjglalaaGreatDoor
namespace Go.Tr
open Go Go.Proofs Go.RowKit Go.WideShapes Go.ChangeShapes
section
variable {H : Type} {enc : TypeId × Value → H} {P : Program}
theorem post_of_below {f : Func} {s : ChangeSpec} {apart fresh handsOn again : Bool} {W W' : World} {args : Array Value} {v : Value} {ds gs : List (DataW H)} {before pa pv : List MemPlace}
  (hW : DataW.Whole enc P f.params.toList s.vars apart W args.toList ds gs before)
  (hres : ∀ (b : Nat) (sp : Nat → Bool) (hd : Bool),DataW.TrodAll enc P W' b sp hd f.resultTypes.toList (v.resultList f.resultTypes.size) (s.fn H (ds ++ gs)).results [])
  (hargs : ∀ sp : Nat → Bool,(∀ p ∈ before,sp p.block = true) → DataW.TrodAll enc P W' 0 sp true f.params.toList args.toList (s.fn H (ds ++ gs)).args pa)
  (hvars : ∀ sp : Nat → Bool,(∀ p ∈ before,sp p.block = true) → DataW.TrodVars enc P W' sp s.vars (s.fn H (ds ++ gs)).vars pv)
  (hps : before = pa ++ pv) (hb : Below W.heap.size W W')
  (hok : ∀ (j : Nat) (t : TypeId) (r : Value),f.resultTypes[j]? = some t → (v.resultList f.resultTypes.size)[j]? = some r → Value.okWide P W' .any 0 t r) :
  s.post enc P f apart fresh handsOn again W args v W' := by
 have hlt : ∀ p ∈ before,p.block < W.heap.size := fun p hp=>hW.lt p hp
 have hold : ∀ p ∈ before,(fun b=>decide (b < W.heap.size)) p.block = true := fun p hp=>by simpa using hlt p hp
 refine ⟨ds,gs,before,[],pa,pv,hW,hres _ _ _,hargs _ hold,hvars _ hold,World.keptBut_mono (fun p hp=>⟨hp,?_⟩) (hb.frame (· ∈ before)),fun _=>?_⟩
 ·rw [hps,List.mem_append] at hp
  exact Or.inr hp
 ·obtain ⟨_,_,_,_,_,hz,hn⟩ := hW
  refine ⟨hok,_,_,([] ++ pa) ++ pv,⟨[] ++ pa,pv,trodAll_append (hargs _ (fun _ _=>rfl)) (hres _ _ _),hvars _ (fun _ _=>rfl),rfl,?_,?_⟩,?_⟩
  ·intro b off hp
   have hin : MemPlace.cell b off ∈ before := by rw [hps]; simpa using hp
   rw [hb.frozen (hlt _ hin)]
   exact hz b off hin
  ·intro ha
   have := hn ha
   rw [hps] at this
   simpa using this
  ·intro p hp _
   rw [hps]
   simpa using hp
end

set_option maxRecDepth 20000

theorem list_openF {α : Type} {es len : Nat} {f : Nat → List AV} {g : α → List AV} {p : α → Prop} (d : α) {k : Nat} (h : ∀ i,i < len → ∃ a,AVL k (f i) (g a) ∧ p a) :
  ∃ l : List α,l.length = len ∧ (∀ a ∈ l,p a) ∧ AVF (k + 1) (.rslice es len f) (.rslice es l.length fun i=>g (l.getD i d)) := by
 have hx : ∀ i,∃ a,i < len → AVL k (f i) (g a) ∧ p a := fun i=>by
  by_cases hi : i < len
  ·obtain ⟨a,ha⟩ := h i hi
   exact ⟨a,fun _=>ha⟩
  ·exact ⟨d,fun h=>absurd h hi⟩
 refine ⟨(List.range len).map fun i=>Classical.choose (hx i),by simp,fun a ha=>?_,⟨rfl,by simp,fun i hi=>?_⟩⟩
 ·obtain ⟨i,hi,rfl⟩ := List.mem_map.1 ha
  exact (Classical.choose_spec (hx i) (List.mem_range.1 hi)).2
 ·have := (Classical.choose_spec (hx i) hi).1
  simpa [List.getD_eq_getElem?_getD,hi,AVL] using this
theorem int_open {m : Nat} {t : TypeId} {xs : List AV} {P : Program} (hu : P.underlying t = some (.int .i64)) (h : TyC P (m + 1) t xs) : ∃ n,xs = [i64 n] ∧ inK .i64 n := by
  unfold TyC at h
  simpa only [hu] using h
theorem bool_open {m : Nat} {t : TypeId} {xs : List AV} {P : Program} (hu : P.underlying t = some .bool) (h : TyC P (m + 1) t xs) : ∃ b,xs = [vb b] := by
  unfold TyC at h
  simpa only [hu] using h
theorem str_open {m : Nat} {t : TypeId} {xs : List AV} {P : Program} (hu : P.underlying t = some .string) (h : TyC P (m + 1) t xs) : ∃ s : ByteArray,xs = [sv s] ∧ s.size ≤ 9223372036854775807 := by
  unfold TyC at h
  simpa only [hu] using h
theorem all2_cons {α β : Type} {p : α → β → Prop} {a : α} {l : List α} {m : List β} (h : All2 p (a :: l) m) : ∃ x r,m = x :: r ∧ p a x ∧ All2 p l r := by
  match m,h with
  | x :: r,h=>exact ⟨x,r,rfl,h.1,h.2⟩
theorem all2_nil {α β : Type} {p : α → β → Prop} {m : List β} (h : All2 p [] m) : m = [] := by
  match m,h with
  | [],_=>rfl
theorem AVL_refl {n : Nat} (l : List AV) : AVL n l l := ⟨rfl,fun _ _ _ hx hy=>.inl (Option.some.inj (hx.symm.trans hy))⟩
theorem cellsI : Tryz.prog.cellsOf 3 = 1 := by kernel_rfl
theorem cellsSt : Tryz.prog.cellsOf 82 = 14 := by kernel_rfl
theorem cellsStr : Tryz.prog.cellsOf 9 = 1 := by kernel_rfl
theorem ints_deep {m : Nat} {xs : List AV} (h : TyC Tryz.prog (m + 2) 69 xs) : ∃ l : List Int,∃ x,xs = [x] ∧ (∀ k,AVF (k + 2) x (ints l)) ∧ l.length ≤ 9223372036854775807 ∧ ∀ a ∈ l,inK .i64 a := by
 unfold TyC at h
 simp only [Tryz.underlying69] at h
 obtain ⟨len,f,rfl,hl,hf⟩ := h
 obtain ⟨l,n1,n2,n3⟩ := list_openF (es := Tryz.prog.cellsOf 3) (f := f) (k := 0) (g := fun n : Int=>[i64 n]) (p := fun n=>inK .i64 n) 0 (fun i hi=>by
  obtain ⟨n,e,hn⟩ := int_open Tryz.underlying3 (hf i hi)
  exact ⟨n,by rw [e]; exact AVL_refl _,hn⟩)
 refine ⟨l,_,rfl,fun k=>?_,by rw [n1]; exact hl,n2⟩
 rw [cellsI]
 refine ⟨rfl,n1.symm,fun i hi=>?_⟩
 have := n3.2.2 i hi
 refine ⟨this.1,fun j x y hx hy=>?_⟩
 rcases this.2 j x y hx hy with e | e
 ·exact .inl e
 ·exact e.elim
structure Pln.In (p : Pln) : Prop where
 sig : p.sig.length ≤ 9223372036854775807
 steps : p.steps.length ≤ 9223372036854775807
 name : ∀ s ∈ p.sig,s.size ≤ 9223372036854775807
 stn : ∀ s ∈ p.steps,s.name.size ≤ 9223372036854775807 ∧ s.exits.length ≤ 9223372036854775807
theorem step_open {xs : List AV} (h : TyC Tryz.prog 4 82 xs) : ∃ s : Stp,AVL 4 xs (stpC s) ∧ (s.name.size ≤ 9223372036854775807 ∧ s.exits.length ≤ 9223372036854775807) := by
 unfold TyC at h
 simp only [Tryz.underlying82] at h
 obtain ⟨ps,rfl,h⟩ := h
 obtain ⟨p1,ps,rfl,h1,h⟩ := all2_cons h
 obtain ⟨p2,ps,rfl,h2,h⟩ := all2_cons h
 obtain ⟨p3,ps,rfl,h3,h⟩ := all2_cons h
 obtain ⟨p4,ps,rfl,h4,h⟩ := all2_cons h
 obtain ⟨p5,ps,rfl,h5,h⟩ := all2_cons h
 obtain ⟨p6,ps,rfl,h6,h⟩ := all2_cons h
 obtain ⟨p7,ps,rfl,h7,h⟩ := all2_cons h
 obtain ⟨p8,ps,rfl,h8,h⟩ := all2_cons h
 obtain ⟨p9,ps,rfl,h9,h⟩ := all2_cons h
 obtain ⟨p10,ps,rfl,h10,h⟩ := all2_cons h
 obtain ⟨p11,ps,rfl,h11,h⟩ := all2_cons h
 obtain ⟨p12,ps,rfl,h12,h⟩ := all2_cons h
 obtain ⟨p13,ps,rfl,h13,h⟩ := all2_cons h
 obtain ⟨p14,ps,rfl,h14,h⟩ := all2_cons h
 cases all2_nil h
 obtain ⟨x1,rfl,q1⟩ := str_open Tryz.underlying9 h1
 obtain ⟨x2,rfl⟩ := bool_open Tryz.underlying4 h2
 obtain ⟨x3,rfl,_⟩ := int_open Tryz.underlying3 h3
 obtain ⟨x4,rfl,_⟩ := int_open Tryz.underlying3 h4
 obtain ⟨x5,rfl,_⟩ := int_open Tryz.underlying3 h5
 obtain ⟨x6,rfl,_⟩ := int_open Tryz.underlying3 h6
 obtain ⟨x7,y7,rfl,q7,q7l,_⟩ := ints_deep (m := 1) h7
 obtain ⟨x8,rfl,_⟩ := int_open Tryz.underlying3 h8
 obtain ⟨x9,rfl,_⟩ := int_open Tryz.underlying3 h9
 obtain ⟨x10,rfl,_⟩ := int_open Tryz.underlying3 h10
 obtain ⟨x11,rfl,_⟩ := int_open Tryz.underlying3 h11
 obtain ⟨x12,rfl,_⟩ := int_open Tryz.underlying3 h12
 obtain ⟨x13,rfl,_⟩ := int_open Tryz.underlying3 h13
 obtain ⟨x14,rfl,_⟩ := int_open Tryz.underlying3 h14
 exact ⟨⟨x1,x2,x3,x4,x5,x6,x7,x8,x9,x10,x11,x12,x13,x14⟩,AVL_step rfl (q7 2),q1,q7l⟩
theorem plan_open {x : AV} (h : TyA Tryz.prog 6 25 x) : ∃ p : Pln,AVF 6 x (planA p) ∧ p.In := by
 simp only [TyA,Tryz.underlying25] at h
 obtain ⟨xs,rfl,h⟩ := h
 unfold TyC at h
 simp only [Tryz.underlying25] at h
 obtain ⟨ps,rfl,h⟩ := h
 obtain ⟨p1,ps,rfl,h1,h⟩ := all2_cons h
 obtain ⟨p2,ps,rfl,h2,h⟩ := all2_cons h
 obtain ⟨p3,ps,rfl,h3,h⟩ := all2_cons h
 cases all2_nil h
 obtain ⟨n,rfl,_⟩ := int_open Tryz.underlying3 h2
 unfold TyC at h1
 simp only [Tryz.underlying22] at h1
 obtain ⟨l1,f1,rfl,hl1,hf1⟩ := h1
 unfold TyC at h3
 simp only [Tryz.underlying23] at h3
 obtain ⟨l2,f2,rfl,hl2,hf2⟩ := h3
 obtain ⟨sg,n1,n2,n3⟩ := list_openF (es := Tryz.prog.cellsOf 9) (f := f1) (k := 4) (g := fun s : ByteArray=>[sv s]) (p := fun s=>s.size ≤ 9223372036854775807) ByteArray.empty (fun i hi=>by
  obtain ⟨s,e,hs⟩ := str_open Tryz.underlying9 (hf1 i hi)
  exact ⟨s,by rw [e]; exact AVL_refl _,hs⟩)
 obtain ⟨st,m1,m2,m3⟩ := list_openF (es := Tryz.prog.cellsOf 82) (f := f2) (k := 4) (g := stpC) (p := fun s=>s.name.size ≤ 9223372036854775807 ∧ s.exits.length ≤ 9223372036854775807) stp0 (fun i hi=>step_open (hf2 i hi))
 refine ⟨⟨sg,n,st⟩,?_,by rw [n1]; exact hl1,by rw [m1]; exact hl2,n2,m2⟩
 rw [cellsStr,cellsSt]
 exact AVL_cons (.inr n3) (AVL_cons (.inl rfl) (AVL_cons (.inr m3) (AVL_nil _)))
end Go.Tr
namespace Go.Proofs.YtinfmponjglalaaGreatDoor
open Go.ChangeShapes Go.WideShapes Go.ChangeAt Go.RowKit Go.Tr
theorem Tryz.own : ownKnob Tryz.prog.godebug = none := by kernel_rfl
theorem Tryz.laidOut : laidOutB Tryz.prog = true := by kernel_rfl
theorem gNo : Tryz.prog.globalNamed "guidevane/sequence.noFault" = some 0 := by kernel_rfl
theorem tNo : (Tryz.prog.globals[0]?).map (·.type) = some 27 := by kernel_rfl
def laidL : List (String × DataW Unit) := [("guidevane/sequence.noFault", Rows.laid_guidevane_sequence_noFault)]
theorem door_met (os : Os) (args : Array Value) : laidMetH Tryz.prog laidL ((World.doorLaid Tryz.prog 400 os).forCall (fun _ _=>0) ⟨#[],args,[]⟩).memory :=
  laidMetH_of_parts3 (fuel := 8) (laidMet_of_run' 8 (by kernel_rfl) (by kernel_rfl)) (by kernel_rfl) (by kernel_rfl)
theorem cells3' : Tryz.prog.cellsOf 3 = 1 := by kernel_rfl
theorem cells4' : Tryz.prog.cellsOf 4 = 1 := by kernel_rfl
theorem two_of {α : Type} : ∀ {l : List α},l.length = 2 → ∃ u v,l = [u,v]
  | [u,v],_=>⟨u,v,rfl⟩
theorem no_is {W : World} (h : laidMetH Tryz.prog laidL W) : W.var? Tryz.prog "guidevane/sequence.noFault" = some #[.int .i64 (-1), .bool false] := by
 rw [MakeChecks.laidMetH_plain _ _ _ (by kernel_rfl)] at h
 obtain ⟨ps,⟨g0,t0,cs0,f0,p0,q0,hg0,ht0,hv0,hd0,_,_⟩,_,_⟩ := h
 obtain rfl := Option.some.inj (gNo.symm.trans hg0)
 obtain rfl := Option.some.inj (tNo.symm.trans ht0)
 obtain ⟨xs,n,rfl,hx,hl,hxl,hf⟩ := DataW.trod_struct Tryz.underlying27 hd0
 have h0 := hf 0 _ rfl
 have h1 := hf 1 _ rfl
 simp only [Prod.mk.injEq] at hx
 have hx1 : [DataW.lit (.int .i64 (-1)),.lit (.bool false)] = xs.map (·.1) := DataW.agg.inj hx.1
 match xs,hx1,h0,h1 with
 | [x0,x1],hx1,h0,h1 =>
  simp only [List.map_cons,List.map_nil,List.cons.injEq,and_true] at hx1
  obtain ⟨k,e1,e2,_⟩ := DataW.trod_int Tryz.underlying3 h0
  obtain ⟨b,e3,e4⟩ := DataW.trod_bool Tryz.underlying4 h1
  rw [e2] at hx1
  rw [e4] at hx1
  have hk : k = -1 := by have := hx1.1; simpa using this.symm
  have hb : b = false := by have := hx1.2; simpa using this.symm
  subst hk
  subst hb
  obtain ⟨l⟩ := cs0
  have c38 : Tryz.prog.cellsOf 27 = 2 := by kernel_rfl
  rw [c38] at hl
  have e1 : List.take (Tryz.prog.cellsOf 3) (List.drop 0 l) = [.int .i64 (-1)] := e1
  have e3 : List.take (Tryz.prog.cellsOf 4) (List.drop 1 l) = [.bool false] := e3
  rw [cells3'] at e1
  rw [cells4'] at e3
  have hl2 : l.length = 2 := hl
  clear hl hd0 hf h0 h1
  obtain ⟨u,v,rfl⟩ := two_of hl2
  have q1 : u = .int .i64 (-1) := by simpa using e1
  have q3 : v = .bool false := by simpa using e3
  rw [q1,q3] at hv0
  exact hv0
theorem var_heap {W : World} {n : String} {g : Nat} {cs : Array Value} (hg : Tryz.prog.globalNamed n = some g) (h : W.var? Tryz.prog n = some cs) : ∃ t a,W.heap[g]? = some (.cells cs t a) := by
 simp only [World.var?,hg,Option.bind_some] at h
 split at h
 ·rename_i cs' t a he
  cases h
  exact ⟨t,a,he⟩
 ·cases h
theorem rptr_of {W : World} {g : Nat} {l : List AV} {cs : Array Value} {t : TypeId} {a : Nat × Nat} (hh : W.heap[g]? = some (.cells cs t a)) (hn : cs.size = l.length) (ho : ∀ v ∈ cs.toList,v.oneCell' = true) (hv : ∀ (j : Nat) x,l[j]? = some x → VT Tryz.prog W (fun b=>b < W.heap.size) x (cs.getD j undef)) :
  VT Tryz.prog W (fun b=>b < W.heap.size) (.rptr l) (.pointer (some ⟨g,0,none⟩)) ∧ ∃ cs t a,W.heap[g]? = some (.cells cs t a) ∧ cs.size = l.length := by
 refine ⟨.rptr l g 0 (fun j=>cs.getD j undef) (Array.getElem?_eq_some_iff.1 hh).1 (fun j hj=>?_) hv,cs,t,a,hh,hn⟩
 have hj' : j < cs.size := by omega
 have e : cs.getD j undef = cs[j] := by simp [Array.getD,hj']
 rw [e,Nat.zero_add]
 exact ⟨by simp [World.cell?,hh,hj'],ho _ (by simp)⟩
theorem gok_of {W : World} (h : laidMetH Tryz.prog laidL W) : GOk Tryz.prog W (fun b=>b < W.heap.size) := by
 refine ⟨fun g l hl=>?_,fun g hg=>by cases hg⟩
 match g,hl with
 | 0, hl =>
  cases hl
  obtain ⟨t,a,hh⟩ := var_heap (g := 0) (by kernel_rfl) (no_is h)
  exact rptr_of hh rfl (fun u hu=>by
   rcases List.mem_cons.1 hu with e | hu
   ·rw [e]; rfl
   ·rw [List.mem_singleton.1 hu]; rfl) fun j x hx=>match j,hx with
   | 0,hx=>by cases hx; exact .val _
   | 1,hx=>by cases hx; exact .val _
end Go.Proofs.YtinfmponjglalaaGreatDoor

/- slices.SortFunc over the locations of a point, laid by the kit (printed by its tool in plain text). Conditions: none. -/
import Derived.Shelf.SlSortCmp.WholeK
import Derived.Test.YtgbdlkajmmjahaaGreatProg
import Derived.Test.YtgbdlkajmmjahaaGreatTr06
import Derived.Test.YtgbdlkajmmjahaaGreatTr11
import Derived.Test.YtgbdlkajmmjahaaGreatTr09
import Derived.Test.YtgbdlkajmmjahaaGreatTr10
set_option linter.unusedSectionVars false
set_option linter.unnecessarySimpa false
set_option linter.unusedVariables false
set_option linter.unusedSimpArgs false

-- seat YtgbdlkajmmjahaaGreat
namespace Go.Proofs
open Go.Shelf
def Tryz.sortLoc_ren : Go.Shelf.Ren := ⟨fun | 6=>113 | 15=>153 | 14=>162 | 28=>183 | 29=>184 | 20=>196 | 21=>197 | 22=>198 | 23=>199 | 24=>200 | 25=>201 | 26=>202 | 27=>203 | 46=>226 | 47=>218 | 48=>219 | 49=>227 | 50=>228 | 57=>235 | n=>n,fun | 22=>91 | 24=>99 | 25=>194 | 3=>3 | 39=>226 | 0=>0 | 53=>249 | 55=>251 | 4=>4 | 46=>243 | 45=>242 | 50=>188 | 5=>5 | 9=>9 | 66=>271 | 70=>275 | 76=>285 | 77=>180 | n=>n,fun | n=>n⟩
theorem Tryz.sortLoc : Go.Proofs.SlLaysF0.n6 Tryz.prog Tryz.sortLoc_ren := {
 mixed := by kernel_rfl
 f6 := ⟨Tryz.f113.name,by decide,Tryz.func113.trans (congrArg some (by kernel_rfl))⟩
 f14 := ⟨Tryz.f162.name,by decide,Tryz.func162.trans (congrArg some (by kernel_rfl))⟩
 f15 := Tryz.func153.trans (congrArg some (by kernel_rfl))
 f20 := ⟨Tryz.f196.name,by decide,Tryz.func196.trans (congrArg some (by kernel_rfl))⟩
 f21 := ⟨Tryz.f197.name,by decide,Tryz.func197.trans (congrArg some (by kernel_rfl))⟩
 f22 := ⟨Tryz.f198.name,by decide,Tryz.func198.trans (congrArg some (by kernel_rfl))⟩
 f23 := ⟨Tryz.f199.name,by decide,Tryz.func199.trans (congrArg some (by kernel_rfl))⟩
 f24 := ⟨Tryz.f200.name,by decide,Tryz.func200.trans (congrArg some (by kernel_rfl))⟩
 f25 := ⟨Tryz.f201.name,by decide,Tryz.func201.trans (congrArg some (by kernel_rfl))⟩
 f26 := ⟨Tryz.f202.name,by decide,Tryz.func202.trans (congrArg some (by kernel_rfl))⟩
 f27 := ⟨Tryz.f203.name,by decide,Tryz.func203.trans (congrArg some (by kernel_rfl))⟩
 f28 := Tryz.func183.trans (congrArg some (by kernel_rfl))
 f29 := Tryz.func184.trans (congrArg some (by kernel_rfl))
 f46 := ⟨Tryz.f226.name,by decide,Tryz.func226.trans (congrArg some (by kernel_rfl))⟩
 f47 := Tryz.func218.trans (congrArg some (by kernel_rfl))
 f48 := Tryz.func219.trans (congrArg some (by kernel_rfl))
 f49 := ⟨Tryz.f227.name,by decide,Tryz.func227.trans (congrArg some (by kernel_rfl))⟩
 f50 := ⟨Tryz.f228.name,by decide,Tryz.func228.trans (congrArg some (by kernel_rfl))⟩
 f57 := ⟨Tryz.f235.name,by decide,Tryz.func235.trans (congrArg some (by kernel_rfl))⟩
 t0 := Tryz.underlying0
 a0 := Tryz.isAgg0
 z0 := Tryz.sizeOf0
 v0 := Tryz.zeroValue0
 t3 := Tryz.underlying3
 a3 := Tryz.isAgg3
 z3 := Tryz.sizeOf3
 v3 := Tryz.zeroValue3
 t4 := Tryz.underlying4
 a4 := Tryz.isAgg4
 z4 := Tryz.sizeOf4
 v4 := Tryz.zeroValue4
 t5 := Tryz.underlying5
 a5 := Tryz.isAgg5
 z5 := Tryz.sizeOf5
 v5 := Tryz.zeroValue5
 t9 := Tryz.underlying9
 a9 := Tryz.isAgg9
 z9 := Tryz.sizeOf9
 v9 := Tryz.zeroValue9
 t22 := Tryz.underlying91
 a22 := Tryz.isAgg91
 z22 := Tryz.sizeOf91
 v22 := Tryz.zeroValue91
 t25 := Tryz.underlying194
 a25 := Tryz.isAgg194
 z25 := Tryz.sizeOf194
 v25 := Tryz.zeroValue194
 t39 := Tryz.underlying226
 a39 := Tryz.isAgg226
 z39 := Tryz.sizeOf226
 v39 := Tryz.zeroValue226
 t45 := Tryz.underlying242
 a45 := Tryz.isAgg242
 z45 := Tryz.sizeOf242
 v45 := Tryz.zeroValue242
 t46 := Tryz.underlying243
 a46 := Tryz.isAgg243
 z46 := Tryz.sizeOf243
 v46 := Tryz.zeroValue243
 t50 := Tryz.underlying188
 a50 := Tryz.isAgg188
 z50 := Tryz.sizeOf188
 v50 := Tryz.zeroValue188
 t53 := Tryz.underlying249
 a53 := Tryz.isAgg249
 z53 := Tryz.sizeOf249
 v53 := Tryz.zeroValue249
 t55 := Tryz.underlying251
 a55 := Tryz.isAgg251
 z55 := Tryz.sizeOf251
 v55 := Tryz.zeroValue251
 t66 := Tryz.underlying271
 a66 := Tryz.isAgg271
 z66 := Tryz.sizeOf271
 v66 := Tryz.zeroValue271
 t70 := Tryz.underlying275
 a70 := Tryz.isAgg275
 z70 := Tryz.sizeOf275
 v70 := Tryz.zeroValue275
 t76 := Tryz.underlying285
 a76 := Tryz.isAgg285
 z76 := Tryz.sizeOf285
 v76 := Tryz.zeroValue285
 t77 := Tryz.underlying180
 a77 := Tryz.isAgg180
 z77 := Tryz.sizeOf180
 v77 := Tryz.zeroValue180 }
end Go.Proofs

/- The kit's law of slices.SortFunc as a contract of the layer. Conditions: none. -/
namespace Go.Tr
open Go Go.RowKit Go.Proofs Go.Sort Go.Shelf
set_option maxRecDepth 20000
set_option maxHeartbeats 8000000

theorem below_grow {w w' : World} (h : Below w.heap.size w w') : ∃ n os,w' = Go.Sort.grow (w.drewN n) os := by
 obtain ⟨h1,h2,h3,h4,h5,h6⟩ := h
 refine ⟨w'.drawn - w.drawn,w'.heap.extract w.heap.size w'.heap.size,?_⟩
 have hh : w'.heap = w.heap ++ w'.heap.extract w.heap.size w'.heap.size := by
  apply Array.ext_getElem?
  intro i
  by_cases hi : i < w.heap.size
  ·rw [Array.getElem?_append_left hi,h5 i hi]
  ·rw [Array.getElem?_append_right (by omega),Array.getElem?_extract]
   by_cases hi2 : i < w'.heap.size
   ·rw [if_pos (by omega),show w.heap.size + (i - w.heap.size) = i by omega]
   ·rw [if_neg (by omega),Array.getElem?_eq_none (by omega)]
 have hd : w'.drawn = w.drawn + (w'.drawn - w.drawn) := by omega
 obtain ⟨a,b,c,d,e⟩ := w'
 obtain ⟨a',b',c',d',e'⟩ := w
 simp only at h1 h2 h3 hh hd
 subst h1 h2 h3
 show World.mk a b c d e = World.mk (a' ++ _) b (c' + _) d e
 rw [← hh]
 congr 1
theorem cmp_lays [GTab] {P : Program} {g : FuncId} {args : List AV} {v : Value} (hs : Sound1 P g args (.val v) false) {W : World} {q : Nat → Prop} {vs : Array Value} (hq : ∀ b,q b → b < W.heap.size) (hg : GOk P W q) (hsz : vs.size = args.length)
  (hv : ∀ (i : Nat) x,args[i]? = some x → VT P W q x (vs.getD i undef)) : Calls P g vs W fun e w'=>e = .returned v ∧ ∃ n os,w' = Go.Sort.grow (W.drewN n) os := by
 refine (hs.2 W q vs hq hg hsz hv).mono ?_
 rintro e w' ⟨u,he,hb,hu⟩
 cases hu
 exact ⟨he,below_grow hb⟩
theorem vt_agg {P : Program} {w : World} {q : Nat → Prop} (l : List Value) (h : ∀ v ∈ l,v.oneCell' = true) : VT P w q (.agg (l.map .val)) (.agg l.toArray) := by
 refine .agg _ _ (by simp) (by simpa using h) fun i x hx=>?_
 rw [List.getElem?_map] at hx
 cases hl : l[i]? with
 | none=>rw [hl] at hx; cases hx
 | some v =>
  rw [hl] at hx
  cases hx
  have : l.toArray.getD i undef = v := by
   obtain ⟨hi,e⟩ := List.getElem?_eq_some_iff.1 hl
   simp [Array.getD,hi,e]
  rw [this]; exact .val v
section
variable {α : Type} [Inhabited α] (enc : α → List Value) (k : Nat) (w : World) (blk off : Nat)
theorem sw_heap (m : Nat) (d : Array α) (os : Array Obj) : (sortWorldK enc k w blk off m d os).heap = w.heap.modify blk (Go.Sort.onCells (Go.Sort.putCells id off (flatK enc k d))) ++ os := rfl
theorem sw_other (m : Nat) (d : Array α) (os : Array Obj) {b : Nat} (hb : b < w.heap.size) (hne : b ≠ blk) : (sortWorldK enc k w blk off m d os).heap[b]? = w.heap[b]? := by
  rw [sw_heap,Array.getElem?_append_left (by simpa using hb),Array.getElem?_modify,if_neg (fun e=>hne e.symm)]
theorem sw_size (m : Nat) (d : Array α) (os : Array Obj) : w.heap.size ≤ (sortWorldK enc k w blk off m d os).heap.size := by
  rw [sw_heap]; simp
theorem sw_row (m : Nat) (d : Array α) (os : Array Obj) {cs : Array Value} {t : TypeId} (h : w.heap[blk]? = some (.cells cs t (0,0))) : (sortWorldK enc k w blk off m d os).heap[blk]? = some (.cells (Go.Sort.putCells id off (flatK enc k d) cs) t (0,0)) := by
  have hlt : blk < w.heap.size := (Array.getElem?_eq_some_iff.1 h).1
  rw [sw_heap,Array.getElem?_append_left (by simpa using hlt),Array.getElem?_modify,if_pos rfl,h]; rfl
end
theorem putCells_eq (off : Nat) (F cs : Array Value) (h : off + F.size ≤ cs.size) : Go.Sort.putCells id off F cs = (cs.toList.take off ++ F.toList ++ cs.toList.drop (off + F.toList.length)).toArray := by
 apply Array.ext_getElem?
 intro i
 unfold Go.Sort.putCells
 have e0 : (cs.toList.take off ++ F.toList ++ cs.toList.drop (off + F.toList.length)).toArray[i]? = (cs.toList.take off ++ F.toList ++ cs.toList.drop (off + F.toList.length))[i]? := by simp
 rw [Array.getElem?_mapIdx,e0]
 have hF : F.toList.length = F.size := rfl
 have hc : cs.toList.length = cs.size := rfl
 by_cases h1 : i < off
 ·rw [List.append_assoc,List.getElem?_append_left (by rw [List.length_take]; omega),List.getElem?_take_of_lt h1,Array.getElem?_toList,Array.getElem?_eq_getElem (by omega)]
  simp only [Option.map_some,Option.some.injEq]
  rw [if_neg (by omega)]
 ·by_cases h2 : i < off + F.size
  ·rw [List.getElem?_append_left (by rw [List.length_append,List.length_take]; omega),List.getElem?_append_right (by rw [List.length_take]; omega),List.length_take,hc,Nat.min_eq_left (by omega),Array.getElem?_toList,Array.getElem?_eq_getElem (by omega),Array.getElem?_eq_getElem (by omega)]
   simp only [Option.map_some,Option.some.injEq]
   rw [if_pos ⟨by omega,h2⟩,getElem!_pos F (i - off) (by omega)]; rfl
  ·rw [List.getElem?_append_right (by rw [List.length_append,List.length_take]; omega),List.length_append,List.length_take,hc,hF,Nat.min_eq_left (by omega),List.getElem?_drop,show off + F.size + (i - (off + F.size)) = i by omega,Array.getElem?_toList]
   cases hi : cs[i]? with
   | none=>rfl
   | some x =>
    simp only [Option.map_some,Option.some.injEq]
    rw [if_neg (by omega)]
theorem sort_sound2 [GTab] {P : Program} {ρ : Go.Shelf.Ren} {α : Type} [Inhabited α] (L : SlLaysF0.n6 P ρ) (k : Nat) (aE : ∀ w,(isAgg (ρ.t 24)).run P w = .ok true w) (zE : ∀ w,(Go.sizeOf (ρ.t 24)).run P w = .ok k w) (enc : α → List Value)
  (hk : ∀ x,(enc x).length = k) (h1 : ∀ x,∀ v ∈ enc x,v.oneCell' = true) (cf : α → α → Int) (hO : Go.Sort.SWO (ltOf cf)) (g : FuncId) (hg : ∀ x y : α,Sound1 P g [.agg ((enc x).map .val),.agg ((enc y).map .val)] (.val (.int .i64 (cf x y))) false)
  (ef : ∀ z w,(callFunc (ρ.f 6) z).run P w = .ok (.enter (ρ.f 6) z) w) (d : Array α) (hsz : d.size < 4611686018427387904) :
  Sound2 P (ρ.f 6) k d.size (fun i=>(enc d[i]!).map .val) [.func (.func g) 0 []] (fun i=>(enc (Go.Sort.pdq (ltOf cf) d 0 d.size (Lib.bitLen d.size) true true)[i]!).map .val) := by
 refine ⟨ef,fun w q vs blk off cap cs t hq hgok hnb hrow hoff hone hcap hR hrel hvs hvr=>?_⟩
 have hlt : blk < w.heap.size := (Array.getElem?_eq_some_iff.1 hrow).1
 have hv0 := hvr 0 _ rfl
 obtain ⟨u,hu⟩ : ∃ u,u = vs.getD 0 undef := ⟨_,rfl⟩
 rw [← hu] at hv0
 have hvs1 : vs = #[u] := by
  apply Array.ext_getElem?
  intro i
  have hvs : vs.size = 1 := hvs
  match i with
  | 0=>rw [Array.getElem?_eq_getElem (by omega)]; simp [hu,Array.getD,hvs]
  | i + 1=>rw [Array.getElem?_eq_none (by omega)]; simp
 cases hv0 with
 | func _ _ _ f0 c hf hs _ =>
  have hf0 : f0 = #[] := Array.size_eq_zero_iff.1 hf
  have hc0 : c = #[] := by
   rw [hf0] at hs
   exact Array.size_eq_zero_iff.1 (by simpa using hs)
  subst hf0 hc0
  rw [hvs1]
  have hH : HoldsK enc k w blk off d := fun j hj=>by
   rw [size_flatK] at hj
   have hk0 : 0 < k := Nat.pos_of_ne_zero fun e=>by rw [e] at hj; omega
   have hi : j / k < d.size := Nat.div_lt_of_lt_mul (by rw [Nat.mul_comm]; exact hj)
   have hm : j % k < k := Nat.mod_lt _ hk0
   have ej : j / k * k + j % k = j := by rw [Nat.mul_comm]; exact Nat.div_add_mod j k
   have hx := hrel (j / k) (j % k) (.val (enc d[j / k]!)[j % k]!) hi (by
    rw [List.getElem?_map,List.getElem?_eq_getElem (by rw [hk]; exact hm),getElem!_pos (enc d[j / k]!) (j % k) (by rw [hk]; exact hm)]; rfl)
   rw [ej] at hx
   have hv : cs.getD (off + j) undef = (enc d[j / k]!)[j % k]! := by
    generalize cs.getD (off + j) undef = z at hx
    cases hx; rfl
   have hin : off + j < cs.size := by omega
   constructor
   ·rw [get_flatK enc k d j hj,← hv]
    simp [World.cell?,hrow,Array.getD,hin]
   ·simp [World.frozen?,hrow]
  have hcmp : CmpLays P g #[] enc k cf blk off d.size w := fun m os dk hdk x y=>by
   have hW : ∀ b,q b → (sortWorldK enc k w blk off m dk os).heap[b]? = w.heap[b]? := fun b hb=>sw_other enc k w blk off m dk os (hq b hb) fun e=>hnb (e ▸ hb)
   refine cmp_lays (hg x y) (q := q) (fun b hb=>Nat.lt_of_lt_of_le (hq b hb) (sw_size enc k w blk off m dk os)) (hgok.mono (fun _ h=>h) hW) rfl fun i z hz=>?_
   match i,hz with
   | 0,hz=>cases hz; exact vt_agg _ (h1 x)
   | 1,hz=>cases hz; exact vt_agg _ (h1 y)
  refine (AnyQ.slices_SortFunc_eq L k aE zE enc hk h1 cf hO g #[] blk off cap d w (hg default default).1 hcmp hH hlt hsz).mono ?_
  rintro e w' ⟨he,n,os,hw'⟩
  have hps := pdq_sorts (ltOf cf) hO d 0 d.size (Lib.bitLen d.size) true true (Nat.zero_le _) (Nat.le_refl _) (Or.inl rfl)
  have hds := hps.1.1
  refine ⟨he,flatK enc k (Go.Sort.pdq (ltOf cf) d 0 d.size (Lib.bitLen d.size) true true),?_⟩
  generalize Go.Sort.pdq (ltOf cf) d 0 d.size (Lib.bitLen d.size) true true = d' at *
  have hFs : (flatK enc k d').size = d.size * k := by rw [size_flatK,hds]
  have hel : ∀ i j,i < d.size → j < k → (flatK enc k d').getD (i * k + j) undef = (enc d'[i]!)[j]! := fun i j hi hj=>by
   have hb : i * k + j < d.size * k := by
    have : (i + 1) * k ≤ d.size * k := Nat.mul_le_mul_right k hi
    rw [Nat.add_mul,Nat.one_mul] at this
    omega
   have := get_flatK enc k d' (i * k + j) (by rw [hds]; exact hb)
   rw [show (i * k + j) / k = i by rw [Nat.mul_comm,Nat.mul_add_div (by omega),Nat.div_eq_of_lt hj,Nat.add_zero],show (i * k + j) % k = j by rw [Nat.mul_comm,Nat.mul_add_mod,Nat.mod_eq_of_lt hj]] at this
   rw [← this,getElem!_pos (flatK enc k d') (i * k + j) (by omega)]
   simp [Array.getD,hFs,hb]
  refine ⟨hFs,fun v hv=>?_,fun i _=>by rw [List.length_map,hk],fun i j y hi hy=>?_,?_⟩
  ·obtain ⟨j,hj,e⟩ := List.getElem_of_mem hv
   have hj : j < (flatK enc k d').size := hj
   have hk0 : 0 < k := Nat.pos_of_ne_zero fun e=>by rw [hFs,e] at hj; omega
   have hm : j % k < k := Nat.mod_lt _ hk0
   have := get_flatK enc k d' j (by rw [← size_flatK enc k d']; exact hj)
   rw [getElem!_pos (flatK enc k d') j hj,getElem!_pos (enc d'[j / k]!) (j % k) (by rw [hk]; exact hm)] at this
   have e : (flatK enc k d')[j] = v := e
   rw [← e,this]
   exact h1 _ _ (List.getElem_mem _)
  ·rw [List.getElem?_map] at hy
   cases hl : (enc d'[i]!)[j]? with
   | none=>rw [hl] at hy; cases hy
   | some v =>
    rw [hl] at hy
    cases hy
    obtain ⟨hj,e⟩ := List.getElem?_eq_some_iff.1 hl
    rw [hel i j hi (by rw [hk] at hj; exact hj),getElem!_pos (enc d'[i]!) j hj,e]
    exact .val v
  ·subst hw'
   refine ⟨rfl,rfl,rfl,?_,fun b hb=>?_,Nat.le_add_right _ _⟩
   ·have := sw_size enc k w blk off n d' os
    simpa [World.setRow] using this
   ·by_cases hbb : b = blk
    ·rw [hbb,sw_row enc k w blk off n d' os hrow,setRow_heap w blk cs _ t (0,0) hrow,putCells_eq off _ _ (by rw [hFs]; exact hoff)]
    ·rw [sw_other enc k w blk off n d' os (by simpa using hb) hbb]
     simp only [World.setRow,Array.getElem?_modify]
     rw [if_neg (fun e=>hbb e.symm)]
end Go.Tr

/- Contracts of chapter 5: the locations of a point sorted. Conditions: none. -/
-- seat YtgbdlkajmmjahaaGreat
namespace Go.Tr
open Go Go.Proofs Go.Shelf
set_option maxRecDepth 20000
set_option maxHeartbeats 8000000

theorem lt2_b (x y : Q2) : ltOf (α := Q2) cmp2 x y = decide (lt2 x y) := by
 unfold ltOf
 rw [Bool.eq_iff_iff,decide_eq_true_iff,decide_eq_true_iff]
 exact cmp2_neg x y
theorem lt2_swo {α : Type} [Inhabited α] (f : α → Q2) : Go.Sort.SWO (ltOf (α := α) fun x y=>cmp2 (f x) (f y)) := by
 have e : ∀ x y : α,ltOf (α := α) (fun x y=>cmp2 (f x) (f y)) x y = decide (lt2 (f x) (f y)) := fun x y=>lt2_b (f x) (f y)
 refine ⟨fun x=>?_,fun x y z h1 h2=>?_,fun x y z h1 h2=>?_⟩
 ·rw [e]; exact decide_eq_false (lt2_irr _)
 ·rw [e] at *
  exact decide_eq_true (lt2_tr _ _ _ (of_decide_eq_true h1) (of_decide_eq_true h2))
 ·rw [e] at *
  have g1 := of_decide_eq_false h1
  have g2 := of_decide_eq_false h2
  refine decide_eq_false fun h=>?_
  rcases lt2_tri (f x) (f y) with g | g | g
  ·exact g1 g
  ·rw [g] at h; exact g2 h
  ·exact g2 (lt2_tr _ _ _ g h)
theorem sort_list [GTab] {P : Program} {ρ : Go.Shelf.Ren} {α : Type} [Inhabited α] (L : SlLaysF0.n6 P ρ) (k : Nat) (aE : ∀ w,(isAgg (ρ.t 24)).run P w = .ok true w) (zE : ∀ w,(Go.sizeOf (ρ.t 24)).run P w = .ok k w) (enc : α → List Value)
  (hk : ∀ x,(enc x).length = k) (h1 : ∀ x,∀ v ∈ enc x,v.oneCell' = true) (cf : α → α → Int) (hO : Go.Sort.SWO (ltOf cf)) (g : FuncId) (hg : ∀ x y : α,Sound1 P g [.agg ((enc x).map .val),.agg ((enc y).map .val)] (.val (.int .i64 (cf x y))) false)
  (ef : ∀ z w,(callFunc (ρ.f 6) z).run P w = .ok (.enter (ρ.f 6) z) w) (d : List α) (hsz : d.length < 4611686018427387904) :
  ∃ d' : List α,d'.Perm d ∧ (d'.Pairwise fun a b=>¬ cf b a < 0) ∧ Sound2 P (ρ.f 6) k d.length (fun i=>(enc (d.getD i default)).map .val) [.func (.func g) 0 []] (fun i=>(enc (d'.getD i default)).map .val) := by
 have hs := sort_sound2 L k aE zE enc hk h1 cf hO g hg ef d.toArray (by simpa using hsz)
 have hp := Go.Sort.pdq_sorts (ltOf cf) hO d.toArray 0 d.toArray.size (Lib.bitLen d.toArray.size) true true (Nat.zero_le _) (Nat.le_refl _) (Or.inl rfl)
 generalize Go.Sort.pdq (ltOf cf) d.toArray 0 d.toArray.size (Lib.bitLen d.toArray.size) true true = D at *
 obtain ⟨⟨p1,p2,p3⟩,p4⟩ := hp
 have eg : ∀ (A : Array α) (i : Nat),A[i]! = A.toList.getD i default := fun A i=>by
  rw [List.getD_eq_getElem?_getD,Array.getElem?_toList,getElem!_def]
  cases A[i]? <;> rfl
 have ex : ∀ (A : Array α),A.size = d.toArray.size → (A.extract 0 d.toArray.size).toList = A.toList := fun A h=>by
  rw [← h,Array.extract_size]
 refine ⟨D.toList,?_,?_,?_⟩
 ·rw [ex D p1,ex d.toArray rfl] at p3
  exact p3
 ·rw [List.pairwise_iff_getElem]
  intro i j hi hj hij
  have hj' : j < D.size := hj
  have hi' : i < D.size := hi
  have h := p4 i j (Nat.zero_le _) hij (by omega)
  have e1 : D[i]! = D.toList[i] := getElem!_pos D i hi'
  have e2 : D[j]! = D.toList[j] := getElem!_pos D j hj'
  rw [e1,e2] at h
  exact of_decide_eq_false h
 ·simp only [eg] at hs
  exact hs
abbrev q2z : Q2 := (0,0)
theorem sm2_0 : sm2 q2z := by unfold sm2 smR q2z; decide
theorem S113 (Q : List Q2) (hQ : ∀ q ∈ Q,sm2 q) (hl : Q.length ≤ 1000000) :
  ∃ Q' : List Q2,Q'.Perm Q ∧ (Q'.Pairwise fun a b=>¬ lt2 b a) ∧ Sound2 Tryz.prog 113 4 Q.length (fun i=>lcC (fr2 (Q.getD i q2z))) [.func (.func 114) 0 []] (fun i=>lcC (fr2 (Q'.getD i q2z))) := by
 letI : Inhabited {q : Q2 // sm2 q} := ⟨⟨q2z,sm2_0⟩⟩
 obtain ⟨D,d1,d2,d3⟩ := sort_list (α := {q : Q2 // sm2 q}) Tryz.sortLoc 4 (fun _=>by kernel_rfl) (fun _=>by kernel_rfl) (fun x=>[.int .i64 (fr2 x.1).1.1,.int .i64 (fr2 x.1).1.2,.int .i64 (fr2 x.1).2.1,.int .i64 (fr2 x.1).2.2]) (fun _=>rfl)
  (fun x v hv=>by
   simp only [List.mem_cons,List.not_mem_nil,or_false] at hv
   rcases hv with rfl | rfl | rfl | rfl <;> rfl)
  (fun x y=>cmp2 x.1 y.1) (lt2_swo fun x : {q : Q2 // sm2 q}=>x.1) 114 (fun x y=>S114 x.1 y.1 x.2 y.2) (fun _ _=>by kernel_rfl) (Q.attachWith sm2 hQ) (by rw [List.length_attachWith]; omega)
 have em : (Q.attachWith sm2 hQ).map Subtype.val = Q := List.attachWith_map_subtype_val ..
 have eg : ∀ (A : List {q : Q2 // sm2 q}) (i : Nat),(A.getD i default).1 = (A.map Subtype.val).getD i q2z := fun A i=>by
  rw [List.getD_eq_getElem?_getD,List.getD_eq_getElem?_getD,List.getElem?_map]
  cases A[i]? <;> rfl
 refine ⟨D.map Subtype.val,?_,?_,?_⟩
 ·rw [← em]; exact d1.map _
 ·rw [List.pairwise_map]
  exact d2.imp fun h g=>h ((cmp2_neg _ _).2 g)
 ·rw [List.length_attachWith] at d3
  simp only [eg,em] at d3
  exact d3
end Go.Tr

/- Contracts of chapter 5: the locations of a point. Conditions: none. -/
-- seat YtgbdlkajmmjahaaGreat
namespace Go.Tr
open Go Go.Proofs
set_option maxRecDepth 20000
set_option maxHeartbeats 8000000

def locE (t : List MRow) (h f : Int) : Int := if (chkM t).2 ≠ 0 then (chkM t).2 else if szE h ≠ 0 then szE h else szE f
theorem locE_ok {t : List MRow} {h f : Int} (g : locE t h f = 0) : TblOk t ∧ (-1000 ≤ h ∧ h ≤ 1000) ∧ (-1000 ≤ f ∧ f ≤ 1000) := by
 have sz : ∀ x,szE x = 0 → -1000 ≤ x ∧ x ≤ 1000 := fun x hx=>by
  unfold szE at hx
  split at hx
  ·assumption
  ·exact absurd hx (by decide)
 unfold locE at g
 by_cases h1 : (chkM t).2 = 0
 ·rw [if_neg (not_not_intro h1)] at g
  by_cases h2 : szE h = 0
  ·rw [if_neg (not_not_intro h2)] at g
   exact ⟨TblOk.of h1,sz _ h2,sz _ g⟩
  ·rw [if_pos h2] at g; exact absurd g h2
 ·rw [if_pos h1] at g; exact absurd g h1
def locL (t : List MRow) (h f : Int) : List Q2 := lcs (h,f,0) (triT t (t.length - 1))
def locA (t : List MRow) (h f : Int) : List Q2 := if locE t h f = 0 then (if allS2 (locL t h f) then lcS t (h,f,0) else []) else []
def locR (t : List MRow) (h f : Int) : Int := if locE t h f = 0 then (if allS2 (locL t h f) then (if 0 < (locL t h f).length then 0 else 12) else 8) else locE t h f
abbrev lcsA (l : List Q2) : AV := .rslice 4 l.length fun i=>lcC (fr2 (l.getD i q2z))
theorem triK_mono {t : List MRow} {i : Nat} : ∀ {k m : Nat}, k ≤ m → ∀ x ∈ triK t i k, x ∈ triK t i m
  | k, m, h, x, hx => by
    induction m with
    | zero => obtain rfl : k = 0 := by omega
              exact hx
    | succ m ih =>
      by_cases e : k = m + 1
      · rw [← e]; exact hx
      · show x ∈ triK t i m ++ [triU t i m] ++ [triD t i m]
        exact List.mem_append_left _ (List.mem_append_left _ (ih (by omega)))
theorem triT_mono {t : List MRow} : ∀ {k m : Nat}, k ≤ m → ∀ x ∈ triT t k, x ∈ triT t m
  | k, m, h, x, hx => by
    induction m with
    | zero => obtain rfl : k = 0 := by omega
              exact hx
    | succ m ih =>
      by_cases e : k = m + 1
      · rw [← e]; exact hx
      · show x ∈ triT t m ++ triK t m (npT t - 1)
        exact List.mem_append_left _ (ih (by omega))
theorem triU_mem {t : List MRow} {i k : Nat} (hi : i < t.length - 1) (hk : k < npT t - 1) : triU t i k ∈ triT t (t.length - 1) :=
  triT_mono (k := i + 1) (by omega) _ (List.mem_append_right _ (triK_mono (k := k + 1) (by omega) _ (List.mem_append_left _ (List.mem_append_right _ (List.mem_singleton.2 rfl)))))
theorem triD_mem {t : List MRow} {i k : Nat} (hi : i < t.length - 1) (hk : k < npT t - 1) : triD t i k ∈ triT t (t.length - 1) :=
  triT_mono (k := i + 1) (by omega) _ (List.mem_append_right _ (triK_mono (k := k + 1) (by omega) _ (List.mem_append_right _ (List.mem_singleton.2 rfl))))
theorem loc_bad {t : List MRow} {h f : Int} {x : Tri} (hx : x ∈ triT t (t.length - 1)) (hin : lin x (h,f,0)) (hs : ¬ sm2 (lcQ x (h,f,0))) : ¬ allS2 (locL t h f) = true := fun g=>by
 unfold allS2 at g
 rw [List.all_eq_true] at g
 exact hs (of_decide_eq_true (g _ (List.mem_map.2 ⟨x,List.mem_filter.2 ⟨hx,decide_eq_true hin⟩,rfl⟩)))
theorem lcR_err {x : Tri} {p : P3} (h : ¬ (lcR x p).2.2 = 0) : lin x p ∧ ¬ sm2 (lcQ x p) ∧ (lcR x p).2.2 = 8 := by
 by_cases g : lin x p
 ·rw [lcR_yes g] at h ⊢
  by_cases g1 : smR (lcQ x p).1
  ·by_cases g2 : smR (lcQ x p).2
   ·exact absurd ((if_pos g1).trans (if_pos g2)) h
   ·exact ⟨g,fun e=>g2 e.2,(if_pos g1).trans (if_neg g2)⟩
  ·exact ⟨g,fun e=>g1 e.1,if_neg g1⟩
 ·rw [lcR_no g] at h; exact absurd rfl h
theorem lcR_add {x : Tri} {p : P3} (h : (lcR x p).2.2 = 0) (hb : (lcR x p).2.1 = true) : lin x p ∧ sm2 (lcQ x p) ∧ (lcR x p).1 = fr2 (lcQ x p) := by
 by_cases g : lin x p
 ·rw [lcR_yes g] at h ⊢
  by_cases g1 : smR (lcQ x p).1
  ·by_cases g2 : smR (lcQ x p).2
   ·refine ⟨g,⟨g1,g2⟩,?_⟩
    show (okR _,okR _) = _
    unfold okR
    rw [if_pos g1,if_pos g2]; rfl
   ·exact absurd (show (8 : Int) = 0 from ((if_pos g1).trans (if_neg g2)).symm.trans h) (by decide)
  ·exact absurd (show (8 : Int) = 0 from (if_neg g1).symm.trans h) (by decide)
 ·rw [lcR_no g] at hb; cases hb
theorem lcR_skip {x : Tri} {p : P3} (h : (lcR x p).2.1 = false) : ¬ lin x p := fun g=>by rw [lcR_yes g] at h; cases h
theorem loc_err {t : List MRow} {h f : Int} {x : Tri} (hx : x ∈ triT t (t.length - 1)) (hw : ¬ (lcR x (h,f,0)).2.2 = 0) :
  AVE 5 (.tuple [.eslice,i64 (lcR x (h,f,0)).2.2]) (.tuple [lcsA (if allS2 (locL t h f) = true then lcS t (h,f,0) else []),i64 (if allS2 (locL t h f) = true then (if 0 < (locL t h f).length then 0 else 12) else 8)]) := by
 obtain ⟨g1,g2,g3⟩ := lcR_err hw
 have hb := loc_bad hx g1 g2
 rw [if_neg hb,if_neg hb,g3]
 exact ave_tup2 rfl rfl
theorem pre_at {α : Type} {A F : List α} {x d : α} (h : A ++ [x] <+: F) : F.getD A.length d = x := by
  obtain ⟨B,rfl⟩ := h
  rw [List.getD_eq_getElem?_getD,List.append_assoc,List.getElem?_append_right (Nat.le_refl _),Nat.sub_self]; rfl
theorem lcs_pre {p : P3} {A B : List Tri} (h : A <+: B) : lcs p A <+: lcs p B := by
  obtain ⟨C,rfl⟩ := h
  exact ⟨lcs p C,(lcs_app p A C).symm⟩
theorem triK_pre {t : List MRow} {i : Nat} : ∀ {k m : Nat}, k ≤ m → triK t i k <+: triK t i m
  | k, m, h => by
    induction m with
    | zero => obtain rfl : k = 0 := by omega
              exact List.prefix_refl _
    | succ m ih =>
      by_cases e : k = m + 1
      · rw [e]; exact List.prefix_refl _
      · refine (ih (by omega)).trans ?_
        show triK t i m <+: triK t i m ++ [triU t i m] ++ [triD t i m]
        rw [List.append_assoc]
        exact List.prefix_append ..
theorem triT_pre {t : List MRow} : ∀ {k m : Nat}, k ≤ m → triT t k <+: triT t m
  | k, m, h => by
    induction m with
    | zero => obtain rfl : k = 0 := by omega
              exact List.prefix_refl _
    | succ m ih =>
      by_cases e : k = m + 1
      · rw [e]; exact List.prefix_refl _
      · refine (ih (by omega)).trans ?_
        show triT t m <+: triT t m ++ triK t m (npT t - 1)
        exact List.prefix_append ..
theorem preD {t : List MRow} {i k : Nat} (hi : i < t.length - 1) (hk : k < npT t - 1) : triT t i ++ triK t i k ++ [triU t i k] ++ [triD t i k] <+: triT t (t.length - 1) := by
 have h1 : triT t i ++ triK t i (npT t - 1) <+: triT t (t.length - 1) := triT_pre (k := i + 1) (by omega)
 have h2 := triK_pre (t := t) (i := i) (k := k + 1) (m := npT t - 1) (by omega)
 have h3 : triT t i ++ triK t i (k + 1) <+: triT t i ++ triK t i (npT t - 1) := (List.prefix_append_right_inj _).2 h2
 have e : triT t i ++ triK t i k ++ [triU t i k] ++ [triD t i k] = triT t i ++ triK t i (k + 1) := by
  show _ = triT t i ++ (triK t i k ++ [triU t i k] ++ [triD t i k])
  simp only [List.append_assoc]
 rw [e]
 exact h3.trans h1
theorem lc_at {p : P3} {A B : List Tri} {x : Tri} (h : A ++ [x] <+: B) (hin : lin x p) : (lcs p B).getD (lcs p A).length q2z = lcQ x p := by
 have := lcs_pre (p := p) h
 rw [lcs_app,lcs_yes hin] at this
 exact pre_at this
theorem st_yes {p : P3} {A : List Tri} {x : Tri} {m : Nat} (hin : lin x p) (hs : sm2 (lcQ x p)) (hm : m = (lcs p A).length) (hS : allS2 (lcs p A) = true) : m + 1 = (lcs p (A ++ [x])).length ∧ allS2 (lcs p (A ++ [x])) = true := by
  rw [lcs_app,lcs_yes hin,allS2_app,hS]
  exact ⟨by rw [List.length_append,hm]; rfl,by simpa [allS2] using hs⟩
theorem st_no {p : P3} {A : List Tri} {x : Tri} {m : Nat} (hin : ¬ lin x p) (hm : m = (lcs p A).length) (hS : allS2 (lcs p A) = true) : m = (lcs p (A ++ [x])).length ∧ allS2 (lcs p (A ++ [x])) = true := by
  rw [lcs_app,lcs_no hin,List.append_nil]
  exact ⟨hm,hS⟩
theorem ap1 {F : List Q2} {m : Nat} {s : (Int × Int) × Int × Int} {q : Q2} (a : F.getD m q2z = q) (g : s = fr2 q) (i : Nat) (hi : i < m + 1) : lcC (fr2 (F.getD i q2z)) = if i < m then lcC (fr2 (F.getD (0 + i) q2z)) else List.take 4 (List.drop ((i - m) * 4) (lcC s)) :=
  extE (fun q=>lcC (fr2 q)) (m := 4) (fun _=>rfl) (fun i=>F.getD i q2z) m i hi _ (by rw [g,← a])
theorem ap2 {F : List Q2} {m : Nat} {s u : (Int × Int) × Int × Int} {q r : Q2} (a : F.getD m q2z = q) (g : s = fr2 q) (b : F.getD (m + 1) q2z = r) (e : u = fr2 r) (i : Nat) (hi : i < m + 1 + 1) :
  lcC (fr2 (F.getD i q2z)) = if i < m + 1 then (if 0 + i < m then lcC (fr2 (F.getD (0 + (0 + i)) q2z)) else List.take 4 (List.drop ((0 + i - m) * 4) (lcC s))) else List.take 4 (List.drop ((i - (m + 1)) * 4) (lcC u)) := by
 rw [ap1 b e i hi]
 by_cases h : i < m + 1
 ·rw [if_pos h,if_pos h,ap1 a g (0 + i) (by omega)]
 ·rw [if_neg h,if_neg h]
end Go.Tr

/- Plain laws of chapter 5: the curve of an opening runs through triangles. Conditions: none. -/
-- seat YtgbdlkajmmjahaaGreat
namespace Go.Tr
open Go Go.Proofs
set_option maxRecDepth 20000
set_option maxHeartbeats 8000000

def AdjP (P : Q3 → Q3 → Prop) (l : List Q3) : Prop := ∀ k,k + 1 < l.length → l.getD k q0 = l.getD (k + 1) q0 ∨ P (l.getD k q0) (l.getD (k + 1) q0)
theorem AdjP.app {P : Q3 → Q3 → Prop} {l : List Q3} {x : Q3} (h : AdjP P l) (hx : ∀ y,l.getLast? = some y → y = x ∨ P y x) : AdjP P (l ++ [x]) := fun k hk=>by
 rw [List.length_append,List.length_singleton] at hk
 by_cases e : k + 1 < l.length
 ·rw [getD_app1 (by omega),getD_app1 e]; exact h k e
 ·have e : k + 1 = l.length := by omega
  rw [getD_app1 (by omega),e,getD_app2]
  exact hx _ (last_at e)
theorem AdjP.init {P : Q3 → Q3 → Prop} {l : List Q3} {x : Q3} (h : AdjP P (l ++ [x])) : AdjP P l ∧ ∀ y,l.getLast? = some y → y = x ∨ P y x := by
 constructor
 ·intro k hk
  have := h k (by rw [List.length_append]; omega)
  rwa [getD_app1 (by omega),getD_app1 hk] at this
 ·intro y hy
  by_cases e : l.length = 0
  ·rw [List.length_eq_zero_iff.1 e] at hy; cases hy
  ·have e1 : l.length - 1 + 1 = l.length := by omega
   have := h (l.length - 1) (by rw [List.length_append,List.length_singleton]; omega)
   rw [getD_app1 (by omega),e1,getD_app2] at this
   rw [last_at e1] at hy
   rw [← Option.some.inj hy]; exact this
theorem compL_adj {P : Q3 → Q3 → Prop} (l : List Q3) (h : AdjP P l) : ∀ k,k + 1 < (compL l).length → P ((compL l).getD k q0) ((compL l).getD (k + 1) q0) := by
 induction l using snoc_ind with
 | h0=>intro k hk; exact absurd hk (Nat.not_lt_zero _)
 | hs l x ih =>
  obtain ⟨h1,h2⟩ := h.init
  have ih := ih h1
  rw [compL_snoc]
  unfold compS
  split
  ·exact ih
  ·rename_i hne
   rw [compL_last] at hne
   intro k hk
   rw [List.length_append,List.length_singleton] at hk
   by_cases e : k + 1 < (compL l).length
   ·rw [getD_app1 (by omega),getD_app1 e]; exact ih k e
   ·have e : k + 1 = (compL l).length := by omega
    rw [getD_app1 (by omega),e,getD_app2]
    have hl := last_at e
    rw [compL_last] at hl
    rcases h2 _ hl with g | g
    ·exact absurd (hl.trans (by rw [g])) hne
    ·exact g
section
variable {t : List MRow} {i : Nat} {o u : Rat} (h0 : 0 ≤ u) (h1 : u ≤ 1) (ho : o = ((t.getD i r0).o : Rat) + u * (((t.getD (i + 1) r0).o : Rat) - ((t.getD i r0).o : Rat))) (k : Nat)
include h0 h1 ho
theorem inU0 : InT (triU t i k) o (mixQ (ptQ (ptT t i k)) (ptQ (ptT t (i + 1) k)) u) := by
 refine ⟨1 - u,0,u,⟨by grind,by grind,h0⟩,by grind,?_,?_,?_,?_⟩
 ·show o = (1 - u) * ((t.getD i r0).o : Rat) + 0 * ((t.getD i r0).o : Rat) + u * ((t.getD (i + 1) r0).o : Rat)
  grind
 all_goals (unfold mixQ mix1 ptQ triU; dsimp only; grind)
theorem inU1 : InT (triU t i k) o (mixQ (ptQ (ptT t i (k + 1))) (ptQ (ptT t (i + 1) k)) u) := by
 refine ⟨0,1 - u,u,⟨by grind,by grind,h0⟩,by grind,?_,?_,?_,?_⟩
 ·show o = 0 * ((t.getD i r0).o : Rat) + (1 - u) * ((t.getD i r0).o : Rat) + u * ((t.getD (i + 1) r0).o : Rat)
  grind
 all_goals (unfold mixQ mix1 ptQ triU; dsimp only; grind)
theorem inD0 : InT (triD t i k) o (mixQ (ptQ (ptT t i (k + 1))) (ptQ (ptT t (i + 1) k)) u) := by
 refine ⟨1 - u,0,u,⟨by grind,by grind,h0⟩,by grind,?_,?_,?_,?_⟩
 ·show o = (1 - u) * ((t.getD i r0).o : Rat) + 0 * ((t.getD (i + 1) r0).o : Rat) + u * ((t.getD (i + 1) r0).o : Rat)
  grind
 all_goals (unfold mixQ mix1 ptQ triD; dsimp only; grind)
theorem inD1 : InT (triD t i k) o (mixQ (ptQ (ptT t i (k + 1))) (ptQ (ptT t (i + 1) (k + 1))) u) := by
 refine ⟨1 - u,u,0,⟨by grind,h0,by grind⟩,by grind,?_,?_,?_,?_⟩
 ·show o = (1 - u) * ((t.getD i r0).o : Rat) + u * ((t.getD (i + 1) r0).o : Rat) + 0 * ((t.getD (i + 1) r0).o : Rat)
  grind
 all_goals (unfold mixQ mix1 ptQ triD; dsimp only; grind)
end
def OneT (t : List MRow) (o : Rat) (a b : Q3) : Prop := ∃ x ∈ triT t (t.length - 1),InT x o a ∧ InT x o b
section
variable {t : List MRow} {i : Nat} {o u : Rat} (hi : i < t.length - 1) (hn : (t.getD i r0).ps.length = npT t) (h2 : 2 ≤ npT t) (h0 : 0 ≤ u) (h1 : u ≤ 1) (ho : o = ((t.getD i r0).o : Rat) + u * (((t.getD (i + 1) r0).o : Rat) - ((t.getD i r0).o : Rat)))
include hi hn h0 h1 ho
theorem rawQ_adj : ∀ k,k ≤ npT t → AdjP (OneT t o) (rawQ (t.getD i r0).ps (t.getD (i + 1) r0).ps u k) ∧ (k < npT t → ∀ y,(rawQ (t.getD i r0).ps (t.getD (i + 1) r0).ps u k).getLast? = some y → 0 < k ∧ y = mixQ (ptQ (ptT t i k)) (ptQ (ptT t (i + 1) (k - 1))) u)
 | 0,_=>⟨fun k hk=>absurd hk (Nat.not_lt_zero _),fun _ y hy=>by cases hy⟩
 | k + 1, hk => by
  obtain ⟨g1,g2⟩ := rawQ_adj k (by omega)
  have c1 : AdjP (OneT t o) (rawQ (t.getD i r0).ps (t.getD (i + 1) r0).ps u k ++ [mixQ (ptQ (ptT t i k)) (ptQ (ptT t (i + 1) k)) u]) := g1.app fun y hy=>by
   obtain ⟨g3,g4⟩ := g2 (by omega) y hy
   obtain ⟨j,rfl⟩ : ∃ j,k = j + 1 := ⟨k - 1,by omega⟩
   rw [g4]
   exact .inr ⟨triD t i j,triD_mem hi (by omega),inD0 h0 h1 ho j,inD1 h0 h1 ho j⟩
  by_cases hk2 : k + 1 < (t.getD i r0).ps.length
  ·rw [rawQ_2 hk2]
   refine ⟨c1.app fun y hy=>?_,fun _ y hy=>⟨by omega,(last_snoc _ _ _ hy).symm⟩⟩
   rw [← last_snoc _ _ _ hy]
   exact .inr ⟨triU t i k,triU_mem hi (by omega),inU0 h0 h1 ho k,inU1 h0 h1 ho k⟩
  ·rw [rawQ_1 hk2]
   exact ⟨c1,fun h=>absurd h (by omega)⟩
include h2
theorem rawQ_in : ∀ k,k ≤ npT t → ∀ q ∈ rawQ (t.getD i r0).ps (t.getD (i + 1) r0).ps u k,∃ x ∈ triT t (t.length - 1),InT x o q
 | 0,_,q,hq=>by cases hq
 | k + 1, hk, q, hq => by
  by_cases hk2 : k + 1 < (t.getD i r0).ps.length
  ·rw [rawQ_2 hk2] at hq
   rcases List.mem_append.1 hq with hq | hq
   ·rcases List.mem_append.1 hq with hq | hq
    ·exact rawQ_in k (by omega) q hq
    ·rw [List.mem_singleton.1 hq]
     exact ⟨triU t i k,triU_mem hi (by omega),inU0 h0 h1 ho k⟩
   ·rw [List.mem_singleton.1 hq]
    exact ⟨triU t i k,triU_mem hi (by omega),inU1 h0 h1 ho k⟩
  ·rw [rawQ_1 hk2] at hq
   rcases List.mem_append.1 hq with hq | hq
   ·exact rawQ_in k (by omega) q hq
   ·rw [List.mem_singleton.1 hq]
    obtain ⟨j,rfl⟩ : ∃ j,k = j + 1 := ⟨k - 1,by omega⟩
    exact ⟨triD t i j,triD_mem hi (by omega),inD1 h0 h1 ho j⟩
end
end Go.Tr

/- Plain laws of chapter 5: each spot of an opening lies in a triangle; a triangle's greatest power at a head. Conditions: none. -/
-- seat YtgbdlkajmmjahaaGreat
namespace Go.Tr
open Go Go.Proofs
set_option maxRecDepth 20000
set_option maxHeartbeats 8000000

theorem opq {t : List MRow} {f : Int × Int} (hT : TblOk t) (hO : OpOk t f) : Rat.divInt f.1 f.2 = ((t.getD (rwK t f) r0).o : Rat) + Rat.divInt (crvP t f) (crvD t f) * (((t.getD (rwK t f + 1) r0).o : Rat) - ((t.getD (rwK t f) r0).o : Rat)) := by
 have hd := crv_den hT hO
 have h1 : ((crvD t f : Int) : Rat) ≠ 0 := cast_ne (by omega)
 have h2 : f.2 ≠ 0 := fun e=>by unfold crvD at hd; rw [e,Int.mul_zero] at hd; omega
 have h3 := cast_ne h2
 rw [Rat.divInt_eq_div,Rat.divInt_eq_div]
 unfold crvP crvD at *
 push_cast at *
 generalize ((t.getD (rwK t f) r0).o : Rat) = a at *
 generalize ((t.getD (rwK t f + 1) r0).o : Rat) = b at *
 generalize (f.1 : Rat) = n at *
 generalize (f.2 : Rat) = d at *
 have h4 : b - a ≠ 0 := fun e=>h1 (by rw [e]; grind)
 have e1 : (n - a * d) / ((b - a) * d) * ((b - a) * d) = n - a * d := by
  rw [Rat.div_mul_cancel h1]
 generalize (n - a * d) / ((b - a) * d) = w at *
 have e2 : n / d * d = n := Rat.div_mul_cancel h3
 generalize n / d = z at *
 have e3 : (z - (a + w * (b - a))) * d = 0 := by grind
 rcases Rat.mul_eq_zero.1 e3 with g | g
 ·grind
 ·exact absurd g h3
theorem spot_in {t : List MRow} {f : Int × Int} (hT : TblOk t) (hO : OpOk t f) {l : Ln} : ∀ q ∈ spL (crvQ t f) l,∃ x ∈ triT t (t.length - 1),InT x (Rat.divInt f.1 f.2) q := fun q hq=>by
 have hK := rwK_ok hT hO
 have hR := RwOk.ofT hT
 have hn := hR.np
 have hi : rwK t f < t.length - 1 := by omega
 have hl : (t.getD (rwK t f) r0).ps.length = npT t := hR.len _ (by omega)
 have hu := part_01 hT hO
 have ho := opq hT hO
 obtain ⟨j,hj,h⟩ := onQ_mem _ (Nat.le_refl _) q ((putAll_mem _ _).1 hq)
 rcases h with e | ⟨hj2,u,h2,h3,e⟩
 ·have hm0 : q ∈ crvQ t f := by rw [e]; exact getD_memG hj
  have hm := (compL_mem _ _).1 hm0
  refine rawQ_in hi hl hn.1 hu.1 hu.2 ho _ (Nat.le_refl _) q ?_
  have el : (crvA t f).length = npT t := hl
  rw [el] at hm
  exact hm
 ·have ha := (rawQ_adj hi hl hu.1 hu.2 ho (npT t) (Nat.le_refl _)).1
  have el : (crvA t f).length = npT t := hl
  have hp := compL_adj _ ha j (by
   have e2 : crvQ t f = compL (rawQ (t.getD (rwK t f) r0).ps (t.getD (rwK t f + 1) r0).ps (Rat.divInt (crvP t f) (crvD t f)) (npT t)) := by rw [← el]; rfl
   rw [← e2]; exact hj2)
  have e2 : crvQ t f = compL (rawQ (t.getD (rwK t f) r0).ps (t.getD (rwK t f + 1) r0).ps (Rat.divInt (crvP t f) (crvD t f)) (npT t)) := by rw [← el]; rfl
  rw [← e2] at hp
  obtain ⟨x,hx,g1,g2⟩ := hp
  rw [e]
  exact ⟨x,hx,g1.mix g2 (Rat.le_of_lt h2) (Rat.le_of_lt h3)⟩
theorem mul_z {a s : Rat} (hs : 0 < s) (h : a * s ≤ 0) (ha : 0 ≤ a) : a = 0 := by
 have h1 := Rat.mul_nonneg ha (Rat.le_of_lt hs)
 have h2 : a * s = 0 := by grind
 rcases Rat.mul_eq_zero.1 h2 with g | g
 ·exact g
 ·grind
theorem mul_np {a d : Rat} (ha : 0 ≤ a) (hd : a = 0 ∨ d < 0) : a * d ≤ 0 := by
 rcases hd with g | g
 ·rw [g]; grind
 ·have := Rat.mul_nonneg ha (show 0 ≤ -d by grind)
  grind
theorem neg_z {a d : Rat} (ha : 0 ≤ a) (hd : a = 0 ∨ d < 0) (h : 0 ≤ a * d) : a = 0 := by
 rcases hd with g | g
 ·exact g
 ·exact mul_z (s := -d) (by grind) (by grind) ha
theorem lp_0 {a b c r s u d e g : Rat} (h : 0 ≤ a ∧ 0 ≤ b ∧ 0 ≤ c) (h1 : a + b + c = 1) (hs : a * r + b * s + c * u = 0) (hd : 0 ≤ a * d + b * e + c * g) (hr : 0 ≤ r ∧ 0 ≤ s ∧ 0 ≤ u) (z0 : r = 0 → d < 0) (z1 : s = 0 → e < 0) (z2 : u = 0 → g < 0) : False := by
 have m0 := Rat.mul_nonneg h.1 hr.1
 have m1 := Rat.mul_nonneg h.2.1 hr.2.1
 have m2 := Rat.mul_nonneg h.2.2 hr.2.2
 have k : ∀ x y z : Rat,0 ≤ x → x * y ≤ 0 → 0 ≤ y → (y = 0 → z < 0) → x = 0 ∨ z < 0 := fun x y z hx hm hy hz=>by
  by_cases e : y = 0
  ·exact .inr (hz e)
  ·exact .inl (mul_z (s := y) (by grind) hm hx)
 have k0 := k a r d h.1 (by grind) hr.1 z0
 have k1 := k b s e h.2.1 (by grind) hr.2.1 z1
 have k2 := k c u g h.2.2 (by grind) hr.2.2 z2
 have n0 := mul_np h.1 k0
 have n1 := mul_np h.2.1 k1
 have n2 := mul_np h.2.2 k2
 have a0 := neg_z h.1 k0 (by grind)
 have b0 := neg_z h.2.1 k1 (by grind)
 have c0 := neg_z h.2.2 k2 (by grind)
 grind
theorem lp_1 {a b c r s u d e g : Rat} (h : 0 ≤ a ∧ 0 ≤ b ∧ 0 ≤ c) (h1 : a + b + c = 1) (hs : a * r + b * s + c * u = 0) (hd : 0 ≤ a * d + b * e + c * g) (hr : 0 < r) (hn : s < 0) (hu : 0 ≤ u) (z2 : u = 0 → g < 0) (c1 : e * r - d * s < 0) (c2 : 0 < u → e * u - g * s < 0) : False := by
 have m0 := Rat.mul_nonneg h.1 (Rat.le_of_lt hr)
 have m2 := Rat.mul_nonneg h.2.2 hu
 have p1 := Rat.mul_nonneg h.1 (show 0 ≤ d * s - e * r by grind)
 by_cases hz : u = 0
 ·have hg := z2 hz
  have n2 := mul_np h.2.2 (.inr hg)
  have q : 0 ≤ (-s) * (a * d + b * e + c * g) := Rat.mul_nonneg (by grind) hd
  have q2 : 0 ≤ (-s) * (c * (-g)) := Rat.mul_nonneg (by grind) (by grind)
  have e1 : a * (d * s - e * r) = -((-s) * (a * d + b * e + c * g)) - (-s) * (c * (-g)) := by grind
  have a0 : a = 0 := mul_z (s := d * s - e * r) (by grind) (by grind) h.1
  have b0 : b = 0 := mul_z (s := -s) (by grind) (by rw [a0,hz] at hs; grind) h.2.1
  have c0 := neg_z h.2.2 (.inr hg) (by rw [a0,b0] at hd; grind)
  grind
 ·have hu' : 0 < u := by grind
  have c2 := c2 hu'
  have p2 := Rat.mul_nonneg h.2.2 (show 0 ≤ g * s - e * u by grind)
  have q : 0 ≤ (-s) * (a * d + b * e + c * g) := Rat.mul_nonneg (by grind) hd
  have e1 : a * (d * s - e * r) + c * (g * s - e * u) = -((-s) * (a * d + b * e + c * g)) := by grind
  have a0 : a = 0 := mul_z (s := d * s - e * r) (by grind) (by grind) h.1
  have c0 : c = 0 := mul_z (s := g * s - e * u) (by grind) (by grind) h.2.2
  have b0 : b = 0 := mul_z (s := -s) (by grind) (by rw [a0,c0] at hs; grind) h.2.1
  grind
end Go.Tr

/- Plain laws of chapter 5: no point of a triangle has more power than the greatest on its edges at the head. Conditions: none. -/
-- seat YtgbdlkajmmjahaaGreat
namespace Go.Tr
open Go Go.Proofs
set_option maxRecDepth 20000
set_option maxHeartbeats 8000000

theorem lp_2 {a b c r s u d e g : Rat} (h : 0 ≤ a ∧ 0 ≤ b ∧ 0 ≤ c) (h1 : a + b + c = 1) (hs : a * r + b * s + c * u = 0) (hd : 0 ≤ a * d + b * e + c * g) (hr : 0 < r) (hn : s < 0) (z2 : u = 0 → g < 0) (c1 : e * r - d * s < 0) (c2 : u < 0 → g * r - d * u < 0) (c3 : 0 < u → e * u - g * s < 0) : False := by
 by_cases hu : 0 ≤ u
 ·exact lp_1 h h1 hs hd hr hn hu z2 c1 c3
 ·have hu' : u < 0 := by grind
  have c2 := c2 hu'
  exact lp_1 (a := b) (b := a) (c := c) (r := -s) (s := -r) (u := -u) (d := e) (e := d) (g := g) ⟨h.2.1,h.1,h.2.2⟩ (by grind) (by grind) (by grind) (by grind) (by grind) (by grind) (fun q=>z2 (by grind)) (by grind) (fun _=>by grind)
theorem lp3 {a b c r s u d e g : Rat} (h : 0 ≤ a ∧ 0 ≤ b ∧ 0 ≤ c) (h1 : a + b + c = 1) (hs : a * r + b * s + c * u = 0) (hd : 0 ≤ a * d + b * e + c * g) (z0 : r = 0 → d < 0) (z1 : s = 0 → e < 0) (z2 : u = 0 → g < 0)
  (c01 : 0 < r → s < 0 → e * r - d * s < 0) (c10 : 0 < s → r < 0 → d * s - e * r < 0) (c02 : 0 < r → u < 0 → g * r - d * u < 0) (c20 : 0 < u → r < 0 → d * u - g * r < 0) (c12 : 0 < s → u < 0 → g * s - e * u < 0) (c21 : 0 < u → s < 0 → e * u - g * s < 0) : False := by
 have zp : ∀ y z : Rat,(y = 0 → z < 0) → (-y = 0 → z < 0) := fun y z k q=>k (by grind)
 rcases rlt_tri r 0 with h0 | h0 | h0
 ·rcases rlt_tri s 0 with g1 | g1 | g1
  ·rcases rlt_tri u 0 with g2 | g2 | g2
   ·exact lp_0 (r := -r) (s := -s) (u := -u) h h1 (by grind) hd ⟨by grind,by grind,by grind⟩ (zp _ _ z0) (zp _ _ z1) (zp _ _ z2)
   ·exact lp_0 (r := -r) (s := -s) (u := -u) h h1 (by grind) hd ⟨by grind,by grind,by grind⟩ (zp _ _ z0) (zp _ _ z1) (zp _ _ z2)
   ·exact lp_2 (a := c) (b := a) (c := b) ⟨h.2.2,h.1,h.2.1⟩ (by grind) (by grind) (by grind) g2 h0 z1 (c20 g2 h0) (fun q=>c21 g2 q) (fun q=>c10 q h0)
  ·rcases rlt_tri u 0 with g2 | g2 | g2
   ·exact lp_0 (r := -r) (s := -s) (u := -u) h h1 (by grind) hd ⟨by grind,by grind,by grind⟩ (zp _ _ z0) (zp _ _ z1) (zp _ _ z2)
   ·exact lp_0 (r := -r) (s := -s) (u := -u) h h1 (by grind) hd ⟨by grind,by grind,by grind⟩ (zp _ _ z0) (zp _ _ z1) (zp _ _ z2)
   ·exact lp_2 (a := c) (b := a) (c := b) ⟨h.2.2,h.1,h.2.1⟩ (by grind) (by grind) (by grind) g2 h0 z1 (c20 g2 h0) (fun q=>c21 g2 q) (fun q=>c10 q h0)
  ·exact lp_2 (a := b) (b := a) (c := c) ⟨h.2.1,h.1,h.2.2⟩ (by grind) (by grind) (by grind) g1 h0 z2 (c10 g1 h0) (fun q=>c12 g1 q) (fun q=>c20 q h0)
 ·rcases rlt_tri s 0 with g1 | g1 | g1
  ·rcases rlt_tri u 0 with g2 | g2 | g2
   ·exact lp_0 (r := -r) (s := -s) (u := -u) h h1 (by grind) hd ⟨by grind,by grind,by grind⟩ (zp _ _ z0) (zp _ _ z1) (zp _ _ z2)
   ·exact lp_0 (r := -r) (s := -s) (u := -u) h h1 (by grind) hd ⟨by grind,by grind,by grind⟩ (zp _ _ z0) (zp _ _ z1) (zp _ _ z2)
   ·exact lp_2 (a := c) (b := b) (c := a) ⟨h.2.2,h.2.1,h.1⟩ (by grind) (by grind) (by grind) g2 g1 z0 (c21 g2 g1) (fun q=>c20 g2 q) (fun q=>c01 q g1)
  ·rcases rlt_tri u 0 with g2 | g2 | g2
   ·exact lp_0 (r := -r) (s := -s) (u := -u) h h1 (by grind) hd ⟨by grind,by grind,by grind⟩ (zp _ _ z0) (zp _ _ z1) (zp _ _ z2)
   ·exact lp_0 h h1 hs hd ⟨by grind,by grind,by grind⟩ z0 z1 z2
   ·exact lp_0 h h1 hs hd ⟨by grind,by grind,by grind⟩ z0 z1 z2
  ·rcases rlt_tri u 0 with g2 | g2 | g2
   ·exact lp_2 (a := b) (b := c) (c := a) ⟨h.2.1,h.2.2,h.1⟩ (by grind) (by grind) (by grind) g1 g2 z0 (c12 g1 g2) (fun q=>c10 g1 q) (fun q=>c02 q g2)
   ·exact lp_0 h h1 hs hd ⟨by grind,by grind,by grind⟩ z0 z1 z2
   ·exact lp_0 h h1 hs hd ⟨by grind,by grind,by grind⟩ z0 z1 z2
 ·rcases rlt_tri s 0 with g1 | g1 | g1
  ·exact lp_2 h h1 hs hd h0 g1 z2 (c01 h0 g1) (fun q=>c02 h0 q) (fun q=>c21 q g1)
  ·rcases rlt_tri u 0 with g2 | g2 | g2
   ·exact lp_2 (a := a) (b := c) (c := b) ⟨h.1,h.2.2,h.2.1⟩ (by grind) (by grind) (by grind) h0 g2 z1 (c02 h0 g2) (fun q=>c01 h0 q) (fun q=>c12 q g2)
   ·exact lp_0 h h1 hs hd ⟨by grind,by grind,by grind⟩ z0 z1 z2
   ·exact lp_0 h h1 hs hd ⟨by grind,by grind,by grind⟩ z0 z1 z2
  ·rcases rlt_tri u 0 with g2 | g2 | g2
   ·exact lp_2 (a := a) (b := c) (c := b) ⟨h.1,h.2.2,h.2.1⟩ (by grind) (by grind) (by grind) h0 g2 z1 (c02 h0 g2) (fun q=>c01 h0 q) (fun q=>c12 q g2)
   ·exact lp_0 h h1 hs hd ⟨by grind,by grind,by grind⟩ z0 z1 z2
   ·exact lp_0 h h1 hs hd ⟨by grind,by grind,by grind⟩ z0 z1 z2
theorem edge_lt {si sj di dj : Rat} (hw : si * sj < 0 → di + si / (si - sj) * (dj - di) < 0) : (0 < si → sj < 0 → dj * si - di * sj < 0) ∧ (0 < sj → si < 0 → di * sj - dj * si < 0) := by
 constructor
 ·intro h1 h2
  have hm := Rat.mul_pos h1 (show 0 < -sj by grind)
  have hw := hw (by grind)
  have h0 : si - sj ≠ 0 := by grind
  have e := Rat.div_mul_cancel (a := si) h0
  generalize si / (si - sj) = w at *
  have := Rat.mul_pos (show 0 < -(di + w * (dj - di)) by grind) (show 0 < si - sj by grind)
  have e2 : -(di + w * (dj - di)) * (si - sj) = -(di * (si - sj) + (w * (si - sj)) * (dj - di)) := by grind
  rw [e2,e] at this
  grind
 ·intro h1 h2
  have hm := Rat.mul_pos h1 (show 0 < -si by grind)
  have hw := hw (by grind)
  have h0 : si - sj ≠ 0 := by grind
  have e := Rat.div_mul_cancel (a := si) h0
  generalize si / (si - sj) = w at *
  have := Rat.mul_pos (show 0 < -(di + w * (dj - di)) by grind) (show 0 < sj - si by grind)
  have e2 : -(di + w * (dj - di)) * (sj - si) = (di * (si - sj) + (w * (si - sj)) * (dj - di)) := by grind
  rw [e2,e] at this
  grind
end Go.Tr

/- Plain laws of chapter 5: a spot has no more power than the greatest at its head. Conditions: none. -/
-- seat YtgbdlkajmmjahaaGreat
namespace Go.Tr
open Go Go.Proofs
set_option maxRecDepth 20000
set_option maxHeartbeats 8000000

theorem onQ_v {L : List Q3} {l : Ln} {k : Nat} (hz : sideQ l (L.getD k q0) = 0) : ∀ n,k < n → L.getD k q0 ∈ onQ L l n
 | 0,h=>absurd h (Nat.not_lt_zero k)
 | n + 1, h => by
  unfold onQ
  by_cases e : k = n
  ·subst e
   rw [if_pos hz]
   exact List.mem_append_right _ (List.mem_append_left _ (List.mem_singleton.2 rfl))
  ·exact List.mem_append_left _ (onQ_v hz n (by omega))
theorem onQ_e {L : List Q3} {l : Ln} {k : Nat} (hk : k + 1 < L.length) (hz : sgR (sideQ l (L.getD k q0)) * sgR (sideQ l (L.getD (k + 1) q0)) < 0) : ∀ n,k < n →
  mixQ (L.getD k q0) (L.getD (k + 1) q0) (sideQ l (L.getD k q0) / (sideQ l (L.getD k q0) - sideQ l (L.getD (k + 1) q0))) ∈ onQ L l n
 | 0,h=>absurd h (Nat.not_lt_zero k)
 | n + 1, h => by
  unfold onQ
  by_cases e : k = n
  ·subst e
   refine List.mem_append_right _ (List.mem_append_right _ ?_)
   rw [if_pos ⟨hk,hz⟩]
   exact List.mem_singleton.2 rfl
  ·exact List.mem_append_left _ (onQ_e hk hz n (by omega))
theorem sg_prod {x y : Rat} (h : x * y < 0) : sgR x * sgR y < 0 := by
 rcases sgR_cases x with ⟨a,e⟩ | ⟨a,e⟩ | ⟨a,e⟩ <;> rcases sgR_cases y with ⟨b,g⟩ | ⟨b,g⟩ | ⟨b,g⟩ <;> rw [e,g]
 ·have := Rat.mul_pos (show 0 < -x by grind) (show 0 < -y by grind); grind
 ·rw [b] at h; grind
 ·decide
 ·rw [a] at h; grind
 ·rw [a] at h; grind
 ·rw [a] at h; grind
 ·decide
 ·rw [b] at h; grind
 ·have := Rat.mul_pos a b; grind
theorem side_pt (h : Int) (p : P3) : sideQ (hdL h) (ptQ p) = (p.1 : Rat) - (h : Rat) := by
 unfold sideQ hdL ptQ
 dsimp only
 simp only [Rat.intCast_zero,Rat.mul_zero,Rat.add_zero]
 grind
theorem nm1_pt (p : P3) : nmQ (p,1) = ptQ p := nm1_q p
theorem pw_top {x : Tri} (hx : TriP x) {o : Rat} {q : Q3} {h : Int} (hq : InT x o q) (e1 : q.1 = (h : Rat)) : ∃ p ∈ pws h x,q.2.2 ≤ p := by
 refine Classical.byContradiction fun hno=>?_
 have hlt : ∀ s ∈ onS (arQ x) (hdL h),s.2.2 < q.2.2 := fun s hs=>by
  refine Rat.not_le.1 fun g=>hno ⟨s.2.2,(rws_mem hx _).1 (List.mem_map.2 ⟨s,(putAll_mem _ _).2 hs,rfl⟩),g⟩
 have hL : arQ x = [ptQ x.1.1,ptQ x.2.1.1,ptQ x.2.2.1,ptQ x.1.1] := by
  unfold arQ arnd
  simp only [List.map_cons,List.map_nil,nm1_pt]
 obtain ⟨a,b,c,ha,a4,a5,a6,a7,a8⟩ := hq
 have hv : ∀ k,k < 4 → sideQ (hdL h) ((arQ x).getD k q0) = 0 → ((arQ x).getD k q0).2.2 < q.2.2 := fun k hk hz=>hlt _ (onQ_v hz _ (by rw [hL]; exact hk))
 have he : ∀ k,k + 1 < 4 → sideQ (hdL h) ((arQ x).getD k q0) * sideQ (hdL h) ((arQ x).getD (k + 1) q0) < 0 →
   (mixQ ((arQ x).getD k q0) ((arQ x).getD (k + 1) q0) (sideQ (hdL h) ((arQ x).getD k q0) / (sideQ (hdL h) ((arQ x).getD k q0) - sideQ (hdL h) ((arQ x).getD (k + 1) q0)))).2.2 < q.2.2 := fun k hk hz =>
  hlt _ (onQ_e (by rw [hL]; exact hk) (sg_prod hz) _ (by rw [hL]; show k < 4; omega))
 rw [hL] at hv he
 have s0 := side_pt h x.1.1
 have s1 := side_pt h x.2.1.1
 have s2 := side_pt h x.2.2.1
 have v0 : sideQ (hdL h) (ptQ x.1.1) = 0 → (x.1.1.2.2 : Rat) < q.2.2 := hv 0 (by decide)
 have v1 : sideQ (hdL h) (ptQ x.2.1.1) = 0 → (x.2.1.1.2.2 : Rat) < q.2.2 := hv 1 (by decide)
 have v2 : sideQ (hdL h) (ptQ x.2.2.1) = 0 → (x.2.2.1.2.2 : Rat) < q.2.2 := hv 2 (by decide)
 have g0 := he 0 (by decide)
 have g1 := he 1 (by decide)
 have g2 := he 2 (by decide)
 change sideQ (hdL h) (ptQ x.1.1) * sideQ (hdL h) (ptQ x.2.1.1) < 0 → mix1 (x.1.1.2.2 : Rat) (x.2.1.1.2.2 : Rat) (sideQ (hdL h) (ptQ x.1.1) / (sideQ (hdL h) (ptQ x.1.1) - sideQ (hdL h) (ptQ x.2.1.1))) < q.2.2 at g0
 change sideQ (hdL h) (ptQ x.2.1.1) * sideQ (hdL h) (ptQ x.2.2.1) < 0 → mix1 (x.2.1.1.2.2 : Rat) (x.2.2.1.2.2 : Rat) (sideQ (hdL h) (ptQ x.2.1.1) / (sideQ (hdL h) (ptQ x.2.1.1) - sideQ (hdL h) (ptQ x.2.2.1))) < q.2.2 at g1
 change sideQ (hdL h) (ptQ x.2.2.1) * sideQ (hdL h) (ptQ x.1.1) < 0 → mix1 (x.2.2.1.2.2 : Rat) (x.1.1.2.2 : Rat) (sideQ (hdL h) (ptQ x.2.2.1) / (sideQ (hdL h) (ptQ x.2.2.1) - sideQ (hdL h) (ptQ x.1.1))) < q.2.2 at g2
 rw [s0] at v0 g0 g2
 rw [s1] at v1 g0 g1
 rw [s2] at v2 g1 g2
 rw [e1] at a6
 unfold mix1 at g0 g1 g2
 generalize q.2.2 = M at *
 generalize (x.1.1.2.2 : Rat) = p0 at *
 generalize (x.2.1.1.2.2 : Rat) = p1 at *
 generalize (x.2.2.1.2.2 : Rat) = p2 at *
 generalize (x.1.1.1 : Rat) = y0 at *
 generalize (x.2.1.1.1 : Rat) = y1 at *
 generalize (x.2.2.1.1 : Rat) = y2 at *
 generalize (h : Rat) = H at *
 have k0 := edge_lt (si := y0 - H) (sj := y1 - H) (di := p0 - M) (dj := p1 - M) fun w=>by have := g0 w; rw [show p1 - M - (p0 - M) = p1 - p0 by grind]; grind
 have k1 := edge_lt (si := y1 - H) (sj := y2 - H) (di := p1 - M) (dj := p2 - M) fun w=>by have := g1 w; rw [show p2 - M - (p1 - M) = p2 - p1 by grind]; grind
 have k2 := edge_lt (si := y2 - H) (sj := y0 - H) (di := p2 - M) (dj := p0 - M) fun w=>by have := g2 w; rw [show p0 - M - (p2 - M) = p0 - p2 by grind]; grind
 clear hno hlt hv he hL g0 g1 g2 s0 s1 s2 hx e1 a5 a7
 have t1 : a * (y0 - H) + b * (y1 - H) + c * (y2 - H) = 0 := by
  have e : a * (y0 - H) + b * (y1 - H) + c * (y2 - H) = (a * y0 + b * y1 + c * y2) - (a + b + c) * H := by grind
  rw [e,a4,← a6]; grind
 have t2 : 0 ≤ a * (p0 - M) + b * (p1 - M) + c * (p2 - M) := by
  have e : a * (p0 - M) + b * (p1 - M) + c * (p2 - M) = (a * p0 + b * p1 + c * p2) - (a + b + c) * M := by grind
  rw [e,a4,← a8]; grind
 exact lp3 (r := y0 - H) (s := y1 - H) (u := y2 - H) (d := p0 - M) (e := p1 - M) (g := p2 - M) ha a4 t1 t2 (fun w=>by have := v0 w; grind) (fun w=>by have := v1 w; grind) (fun w=>by have := v2 w; grind) k0.1 k0.2 k2.2 k2.1 k1.1 k1.2
end Go.Tr

/- Contracts of chapter 5: small spots, bounds, order, pieces. Conditions: none. -/
-- seat YtgbdlkajmmjahaaGreat
namespace Go.Tr
open Go Go.Proofs
set_option maxRecDepth 20000
set_option maxHeartbeats 8000000

theorem frI_low (q : Rat) : lowF (frI q) := by
 refine ⟨by show (0 : Int) < (q.den : Nat); have := q.den_pos; omega,?_⟩
 show ((Nat.gcd q.num.natAbs ((q.den : Nat) : Int).natAbs : Nat) : Int) = 1
 rw [Int.natAbs_natCast,q.reduced]; rfl
theorem frI_I {q : Rat} (h : smR q) : FrI (frI q) := by
 unfold smR at h
 unfold FrI frI
 dsimp only
 omega
theorem S62 (q : Rat) (h : smR q) : SP 62 [gaF (frI q)] (vb true) false := by
 have h1 := S130g (frI q) (frI_I h)
 rw [decide_eq_true (frI_low q)] at h1
 have h2 := S111 (frI q)
 have hp := q.den_pos
 unfold smR at h
 rw [decide_eq_true (by unfold frI; dsimp only; omega)] at h2
 refine sound (d := 2) tok2 mixed2 Tryz.func62 (by kernel_rfl) (by kernel_rfl) ?_
 (conv=>whnf); refine .inl ⟨_,_,byX rfl (Sound1.pl (h1) rfl),?_⟩
 (conv=>whnf); refine .inl ⟨_,_,byX rfl (Sound1.pl (h2) rfl),?_⟩
 (conv=>whnf); refine ⟨?_,nofun⟩
 (first | contradiction | rfl)
theorem S47 (q : Q3) (h : sm3 q) : SP 47 [spA (fr3 q)] (vb true) false := by
 have h1 := S62 q.1 h.1
 have h2 := S62 q.2.1 h.2.1
 have h3 := S62 q.2.2 h.2.2
 refine sound (d := 2) tok2 mixed2 Tryz.func47 (by kernel_rfl) (by kernel_rfl) ?_
 (conv=>whnf); refine .inl ⟨_,_,byX rfl (Sound1.pl (h1) rfl),?_⟩
 (conv=>whnf); refine .inl ⟨_,_,byX rfl (Sound1.pl (h2) rfl),?_⟩
 (conv=>whnf); refine .inl ⟨_,_,byX rfl (Sound1.pl (h3) rfl),?_⟩
 (conv=>whnf); refine ⟨?_,nofun⟩
 (first | contradiction | rfl)
theorem sm_cmp {p q : Rat} (hp : smR p) (hq : smR q) : SP 63 [i64 (frI p).1,i64 (frI p).2,i64 (frI q).1,i64 (frI q).2] (i64 (cmpR p q)) false := by
 have h1 := p.den_pos
 have h2 := q.den_pos
 unfold smR at hp hq
 exact S63 p.num (p.den : Nat) q.num (q.den : Nat) (by omega) (by omega) (by omega) (by omega)
def subQ (a b : Q3) : Q3 := (a.1 - b.1,a.2.1 - b.2.1,a.2.2 - b.2.2)
theorem R3k.sub {k l : Nat} {a b : Q3} (ha : R3k k a) (hb : R3k l b) : R3k (k + l + 1) (subQ a b) := ⟨ha.1.sub hb.1,ha.2.1.sub hb.2.1,ha.2.2.sub hb.2.2⟩
end Go.Tr

/- Contracts of chapter 5: within bounds; on a curve. Conditions: none. -/
/- Contracts of chapter 5: the reference's curve. Conditions: none. -/
/- Contracts of chapter 5: the reference's flows; the law of flows. Conditions: none. -/
/- The law of chapter 5: all points of a curve on a line. Conditions: none. -/
-- seat YtgbdlkajmmjahaaGreat
namespace Go.Tr
open Go Go.Proofs
set_option maxRecDepth 20000
set_option maxHeartbeats 8000000

def SmB (b : B3) : Prop := ((-10000 ≤ b.1.1 ∧ b.1.1 ≤ 10000) ∧ (-10000 ≤ b.1.2 ∧ b.1.2 ≤ 10000)) ∧ ((-10000 ≤ b.2.1.1 ∧ b.2.1.1 ≤ 10000) ∧ (-10000 ≤ b.2.1.2 ∧ b.2.1.2 ≤ 10000)) ∧ (-10000 ≤ b.2.2.1 ∧ b.2.2.1 ≤ 10000) ∧ -10000 ≤ b.2.2.2 ∧ b.2.2.2 ≤ 10000
theorem SmB.pt {b : B3} {p : P3} (h : SmB b) (hp : PtOk p) : SmB (bndP b p) := by
 unfold PtOk at hp
 unfold SmB bndP bnd1 at *
 dsimp only
 omega
theorem SmB.row : ∀ (l : List P3) {b : B3},SmB b → (∀ p ∈ l,PtOk p) → SmB (bndL b l)
  | [],_,h,_=>h
  | x :: r,_,h,hp=>SmB.row r (h.pt (hp x (by simp))) fun p hp'=>hp p (by simp [hp'])
theorem smE_0 {L : List Q3} (h : smE L = 0) : allS L = true := by
 unfold smE at h
 split at h
 ·assumption
 ·cases h
theorem smE_8 {L : List Q3} (h : ¬ smE L = 0) : smE L = 8 := by
 unfold smE at *
 split
 ·rename_i g; exact absurd (if_pos g) h
 ·rfl
end Go.Tr

/- Plain laws of chapter 5: what the law there and back asks of a spot. Conditions: none. -/
-- seat YtgbdlkajmmjahaaGreat
namespace Go.Tr
open Go Go.Proofs
set_option maxRecDepth 20000
set_option maxHeartbeats 8000000

theorem low_fr {f : Int × Int} (h : lowF f) : frI (Rat.divInt f.1 f.2) = f := by
 unfold lowF at h
 have hd : 0 < f.2 := h.1
 unfold frI
 rw [div_num hd,div_den hd]
 have hg : ((Int.gcd f.1 f.2 : Nat) : Int) = 1 := h.2
 rw [hg]
 simp
theorem lnE_hd {h : Int} (hh : -1000 ≤ h ∧ h ≤ 1000) : lnE (hdL h) = 0 := by
 unfold lnE hdL
 dsimp only
 rw [if_pos (by omega),if_neg (by omega)]
structure SpotL (t : List MRow) (f : Int × Int) (h : Int) (q : Q3) : Prop where
  top : ∃ m,mpO t h = some m ∧ q.2.2 ≤ m
  loc : ∀ z : Int,q.2.1 = (z : Rat) → (-1000 ≤ z ∧ z ≤ 1000) ∧ (Rat.divInt f.1 f.2,q.2.2) ∈ lcS t (h,z,0)
theorem int_le {a b : Int} (h : (a : Rat) ≤ (b : Rat)) : a ≤ b := Rat.intCast_le_intCast.1 h
theorem flow_b {x : Tri} (hx : TriP x) {o : Rat} {q : Q3} (hq : InT x o q) {z : Int} (e : q.2.1 = (z : Rat)) : -1000 ≤ z ∧ z ≤ 1000 := by
 obtain ⟨a,b,c,⟨a1,a2,a3⟩,a4,a5,a6,a7,a8⟩ := hq
 unfold TriP PtOk at hx
 have k : ∀ (w : Rat) (y : Int),0 ≤ w → -1000 ≤ y → y ≤ 1000 → w * (-1000) ≤ w * (y : Rat) ∧ w * (y : Rat) ≤ w * 1000 := fun w y hw h1 h2=>by
  have g1 : ((-1000 : Int) : Rat) ≤ (y : Rat) := Rat.intCast_le_intCast.2 h1
  have g2 : (y : Rat) ≤ ((1000 : Int) : Rat) := Rat.intCast_le_intCast.2 h2
  push_cast at g1 g2
  have m1 := Rat.mul_nonneg hw (show 0 ≤ (y : Rat) - -1000 by grind)
  have m2 := Rat.mul_nonneg hw (show 0 ≤ 1000 - (y : Rat) by grind)
  constructor <;> grind
 have k0 := k a x.1.1.2.1 a1 (by omega) (by omega)
 have k1 := k b x.2.1.1.2.1 a2 (by omega) (by omega)
 have k2 := k c x.2.2.1.2.1 a3 (by omega) (by omega)
 rw [e] at a7
 constructor
 ·refine int_le ?_
  push_cast
  rw [a7]
  grind
 ·refine int_le ?_
  push_cast
  rw [a7]
  grind
theorem spot_law {t : List MRow} {f : Int × Int} (hT : TblOk t) (hO : OpOk t f) {h : Int} (hh : -1000 ≤ h ∧ h ≤ 1000) : ∀ q ∈ spL (crvQ t f) (hdL h),SpotL t f h q := fun q hq=>by
 obtain ⟨x,hx,hin⟩ := spot_in hT hO q hq
 have hL := triT_L hT _ (Nat.le_refl _) x hx
 have hd : q.1 = (h : Rat) := by
  refine hdL_side ?_
  exact on_side _ q ((putAll_mem _ _).1 hq)
 refine ⟨?_,fun z e=>?_⟩
 ·obtain ⟨p,hp,hle⟩ := pw_top hL.p hin hd
  have hm := mx_is ((triT t (t.length - 1)).flatMap (pws h))
  have e : mpO t h = mxO none ((triT t (t.length - 1)).flatMap (pws h)) := mxT_flat h _ _
  have hpm : p ∈ (triT t (t.length - 1)).flatMap (pws h) := List.mem_flatMap.2 ⟨x,hx,hp⟩
  rw [← e] at hm
  cases hmo : mpO t h with
  | none=>rw [hm.none.1 hmo] at hpm; cases hpm
  | some m=>exact ⟨m,rfl,Rat.le_trans hle (Rat.not_lt.1 (hm.top m hmo p hpm))⟩
 ·obtain ⟨g1,g2⟩ := loc_of hL hin hd e
  refine ⟨flow_b hL.p hin e,(putAll_mem _ _).2 ?_⟩
  rw [← g2]
  exact List.mem_map.2 ⟨x,List.mem_filter.2 ⟨hx,decide_eq_true g1⟩,rfl⟩
end Go.Tr

/- Contracts of chapter 5: no location sorted, none compacted. Conditions: none. -/
-- seat YtgbdlkajmmjahaaGreat
namespace Go.Tr
open Go Go.Proofs
set_option maxRecDepth 20000
set_option maxHeartbeats 8000000

theorem inM {X : (Nat → List AV) → Prop} (G : Nat → List AV) {p1 p2 p3 p4 K : Prop} (e : X G = (p1 ∧ p2 ∧ p3 ∧ p4 ∧ K)) (h1 : p1) (h2 : p2) (h3 : p3) (h4 : p4) (h : K) : ∃ G,X G := ⟨G,e ▸ ⟨h1,h2,h3,h4,h⟩⟩
theorem fr2_inj {p q : Q2} (h : fr2 p = fr2 q) : p = q := Prod.ext (frI_inj (congrArg Prod.fst h)) (frI_inj (congrArg Prod.snd h))
theorem lc_veq (a b : Q2) : vEqL [.int .i64 (fr2 a).1.1,.int .i64 (fr2 a).1.2,.int .i64 (fr2 a).2.1,.int .i64 (fr2 a).2.2] [.int .i64 (fr2 b).1.1,.int .i64 (fr2 b).1.2,.int .i64 (fr2 b).2.1,.int .i64 (fr2 b).2.2] = decide (a = b) := by
 rw [Bool.eq_iff_iff,decide_eq_true_iff]
 constructor
 ·intro h
  refine fr2_inj ?_
  simp only [vEqL,Bool.and_eq_true,beq_iff_eq,and_true,true_and] at h
  exact Prod.ext (Prod.ext h.1 h.2.1) (Prod.ext h.2.2.1 h.2.2.2)
 ·intro h
  subst h
  simp [vEqL]
theorem srt_row {R : List Q2} {m i : Nat} {A B : List AV} (hi : i < m) : lcC (fr2 (R.getD i q2z)) = if i < 0 then A else if i < 0 + m then lcC (fr2 (R.getD (i - 0) q2z)) else B := by
  rw [if_neg (by omega),if_pos (by omega),Nat.sub_zero]
theorem S113z (F : Nat → List AV) : SP 113 [.rslice 4 0 F,.func (.func 114) 0 []] (.tuple []) false := by
 obtain ⟨rl,h153⟩ := S153 0 (by omega)
 have hu : inK .u64 ((0 : Nat) : Int) := u64_in (by omega)
 refine sound (d := 2) tok2 mixed2 Tryz.func113 (by kernel_rfl) (by kernel_rfl) ?_
 (conv=>whnf); refine ⟨by assumption,?_⟩
 (conv=>whnf); refine .inl ⟨_,_,byX rfl (Sound1.pl (h153) rfl),?_⟩
 (conv=>whnf); refine .inr (.inl ⟨[],?_⟩)
 (conv=>whnf); refine ⟨[.forget [0,1,2,3,4,5,6,7,8,9,10,11,12,13,14,15]],[0,1,2,3,4],fun st mq=>st = ⟨[(0,.rslice 4 0 F),(1,i64 0),(2,i64 0),(3,i64 rl),(4,.func (.func 114) 0 [])],⟨[],[],none,0⟩,[]⟩ ∧ mq = 0,
  ⟨_,_,⟨rfl,rfl⟩,⟨⟨.inl rfl,rfl,rfl,rfl⟩,trivial,trivial⟩⟩,?_⟩
 rintro s0 m0 ⟨rfl,hmeas⟩
 conv=>whnf
 (conv=>whnf); refine ⟨inK64 (by omega) (by omega),?_⟩
 conv=>whnf
 (conv=>whnf); refine .inr (.inl ⟨[],?_⟩)
 conv=>whnf
 (conv=>whnf); refine ⟨inK64 (by omega) (by omega),?_⟩
 conv=>whnf
 (conv=>whnf); refine ⟨[.forget [0,1,2,3,4,5,6,7,8,9,10,11,12,13,14,15,16,17,18,19,20,21,22,23,24,25,26,27,28,29,30,31,32,33,34,35,36,37,38,39]],[0,1,2,3,8],fun st mq=>st = ⟨[(0,.rslice 4 0 F),(1,i64 0),(2,i64 0),(3,.func (.func 114) 0 []),(8,i64 1)],⟨[],[],none,0⟩,[]⟩ ∧ mq = 0,
  ⟨_,_,⟨rfl,rfl⟩,⟨⟨.inl rfl,rfl,rfl,rfl⟩,trivial,trivial⟩⟩,?_⟩
 rintro s0 m0 ⟨rfl,hmeas⟩
 conv=>whnf
 conv=>whnf
 (conv=>whnf); refine ⟨?_,nofun⟩
 exact ⟨rfl,nofun⟩
theorem S116z (n : Nat) (hn : n < 2) (F : Nat → List AV) : SP 116 [.rslice 4 n F] (.rslice 4 n F) false := by
 refine sound (d := 2) tok2 mixed2 Tryz.func116 (by kernel_rfl) (by kernel_rfl) ?_
 (conv=>whnf); refine ifB_dec (fun w1=>?_) (fun w1=>?_)
 ·(conv=>whnf); refine ⟨?_,nofun⟩
  exact ⟨rfl,rfl,fun _ _=>rfl⟩
 ·(exfalso; omega)
end Go.Tr

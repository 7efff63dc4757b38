/- slices.SortFunc over the locations of a point, laid by the kit (printed by its tool in plain text). Conditions: none. -/
import Derived.Shelf.SlSortCmp.WholeK
import Derived.Test.YtgbdlkajmmjahaaGreatProg
import Derived.Test.YtgbdlkajmmjahaaGreatTr06
import Derived.Test.YtgbdlkajmmjahaaGreatTr10
set_option linter.unusedSectionVars false
set_option linter.unnecessarySimpa false
set_option linter.unusedVariables false
set_option linter.unusedSimpArgs false

-- seat YtgbdlkajmmjahaaGreat
namespace Go.Proofs
open Go.Shelf
def Tryz.sortLoc_ren : Go.Shelf.Ren := ⟨fun | 6=>113 | 15=>153 | 14=>162 | 28=>183 | 29=>184 | 20=>196 | 21=>197 | 22=>198 | 23=>199 | 24=>200 | 25=>201 | 26=>202 | 27=>203 | 46=>226 | 47=>218 | 48=>219 | 49=>227 | 50=>228 | 57=>235 | n=>n,fun | 22=>91 | 24=>99 | 25=>194 | 3=>3 | 39=>226 | 0=>0 | 53=>249 | 55=>251 | 4=>4 | 46=>243 | 45=>242 | 50=>188 | 5=>5 | 9=>9 | 66=>271 | 70=>275 | 76=>285 | 77=>180 | n=>n,fun | n=>n⟩
theorem Tryz.sortLoc : Go.Proofs.SlLaysF0.n6 Tryz.prog Tryz.sortLoc_ren := {
 mixed := by kernel_rfl
 f6 := ⟨Tryz.f113.name,by decide,Tryz.func113.trans (congrArg some (by kernel_rfl))⟩
 f14 := ⟨Tryz.f162.name,by decide,Tryz.func162.trans (congrArg some (by kernel_rfl))⟩
 f15 := Tryz.func153.trans (congrArg some (by kernel_rfl))
 f20 := ⟨Tryz.f196.name,by decide,Tryz.func196.trans (congrArg some (by kernel_rfl))⟩
 f21 := ⟨Tryz.f197.name,by decide,Tryz.func197.trans (congrArg some (by kernel_rfl))⟩
 f22 := ⟨Tryz.f198.name,by decide,Tryz.func198.trans (congrArg some (by kernel_rfl))⟩
 f23 := ⟨Tryz.f199.name,by decide,Tryz.func199.trans (congrArg some (by kernel_rfl))⟩
 f24 := ⟨Tryz.f200.name,by decide,Tryz.func200.trans (congrArg some (by kernel_rfl))⟩
 f25 := ⟨Tryz.f201.name,by decide,Tryz.func201.trans (congrArg some (by kernel_rfl))⟩
 f26 := ⟨Tryz.f202.name,by decide,Tryz.func202.trans (congrArg some (by kernel_rfl))⟩
 f27 := ⟨Tryz.f203.name,by decide,Tryz.func203.trans (congrArg some (by kernel_rfl))⟩
 f28 := Tryz.func183.trans (congrArg some (by kernel_rfl))
 f29 := Tryz.func184.trans (congrArg some (by kernel_rfl))
 f46 := ⟨Tryz.f226.name,by decide,Tryz.func226.trans (congrArg some (by kernel_rfl))⟩
 f47 := Tryz.func218.trans (congrArg some (by kernel_rfl))
 f48 := Tryz.func219.trans (congrArg some (by kernel_rfl))
 f49 := ⟨Tryz.f227.name,by decide,Tryz.func227.trans (congrArg some (by kernel_rfl))⟩
 f50 := ⟨Tryz.f228.name,by decide,Tryz.func228.trans (congrArg some (by kernel_rfl))⟩
 f57 := ⟨Tryz.f235.name,by decide,Tryz.func235.trans (congrArg some (by kernel_rfl))⟩
 t0 := Tryz.underlying0
 a0 := Tryz.isAgg0
 z0 := Tryz.sizeOf0
 v0 := Tryz.zeroValue0
 t3 := Tryz.underlying3
 a3 := Tryz.isAgg3
 z3 := Tryz.sizeOf3
 v3 := Tryz.zeroValue3
 t4 := Tryz.underlying4
 a4 := Tryz.isAgg4
 z4 := Tryz.sizeOf4
 v4 := Tryz.zeroValue4
 t5 := Tryz.underlying5
 a5 := Tryz.isAgg5
 z5 := Tryz.sizeOf5
 v5 := Tryz.zeroValue5
 t9 := Tryz.underlying9
 a9 := Tryz.isAgg9
 z9 := Tryz.sizeOf9
 v9 := Tryz.zeroValue9
 t22 := Tryz.underlying91
 a22 := Tryz.isAgg91
 z22 := Tryz.sizeOf91
 v22 := Tryz.zeroValue91
 t25 := Tryz.underlying194
 a25 := Tryz.isAgg194
 z25 := Tryz.sizeOf194
 v25 := Tryz.zeroValue194
 t39 := Tryz.underlying226
 a39 := Tryz.isAgg226
 z39 := Tryz.sizeOf226
 v39 := Tryz.zeroValue226
 t45 := Tryz.underlying242
 a45 := Tryz.isAgg242
 z45 := Tryz.sizeOf242
 v45 := Tryz.zeroValue242
 t46 := Tryz.underlying243
 a46 := Tryz.isAgg243
 z46 := Tryz.sizeOf243
 v46 := Tryz.zeroValue243
 t50 := Tryz.underlying188
 a50 := Tryz.isAgg188
 z50 := Tryz.sizeOf188
 v50 := Tryz.zeroValue188
 t53 := Tryz.underlying249
 a53 := Tryz.isAgg249
 z53 := Tryz.sizeOf249
 v53 := Tryz.zeroValue249
 t55 := Tryz.underlying251
 a55 := Tryz.isAgg251
 z55 := Tryz.sizeOf251
 v55 := Tryz.zeroValue251
 t66 := Tryz.underlying271
 a66 := Tryz.isAgg271
 z66 := Tryz.sizeOf271
 v66 := Tryz.zeroValue271
 t70 := Tryz.underlying275
 a70 := Tryz.isAgg275
 z70 := Tryz.sizeOf275
 v70 := Tryz.zeroValue275
 t76 := Tryz.underlying285
 a76 := Tryz.isAgg285
 z76 := Tryz.sizeOf285
 v76 := Tryz.zeroValue285
 t77 := Tryz.underlying180
 a77 := Tryz.isAgg180
 z77 := Tryz.sizeOf180
 v77 := Tryz.zeroValue180 }
end Go.Proofs

/- The kit's law of slices.SortFunc as a contract of the layer. Conditions: none. -/
namespace Go.Tr
open Go Go.RowKit Go.Proofs Go.Sort Go.Shelf
set_option maxRecDepth 20000
set_option maxHeartbeats 8000000

theorem below_grow {w w' : World} (h : Below w.heap.size w w') : ∃ n os,w' = Go.Sort.grow (w.drewN n) os := by
 obtain ⟨h1,h2,h3,h4,h5,h6⟩ := h
 refine ⟨w'.drawn - w.drawn,w'.heap.extract w.heap.size w'.heap.size,?_⟩
 have hh : w'.heap = w.heap ++ w'.heap.extract w.heap.size w'.heap.size := by
  apply Array.ext_getElem?
  intro i
  by_cases hi : i < w.heap.size
  ·rw [Array.getElem?_append_left hi,h5 i hi]
  ·rw [Array.getElem?_append_right (by omega),Array.getElem?_extract]
   by_cases hi2 : i < w'.heap.size
   ·rw [if_pos (by omega),show w.heap.size + (i - w.heap.size) = i by omega]
   ·rw [if_neg (by omega),Array.getElem?_eq_none (by omega)]
 have hd : w'.drawn = w.drawn + (w'.drawn - w.drawn) := by omega
 obtain ⟨a,b,c,d,e⟩ := w'
 obtain ⟨a',b',c',d',e'⟩ := w
 simp only at h1 h2 h3 hh hd
 subst h1 h2 h3
 show World.mk a b c d e = World.mk (a' ++ _) b (c' + _) d e
 rw [← hh]
 congr 1
theorem cmp_lays [GTab] {P : Program} {g : FuncId} {args : List AV} {v : Value} (hs : Sound1 P g args (.val v) false) {W : World} {q : Nat → Prop} {vs : Array Value} (hq : ∀ b,q b → b < W.heap.size) (hg : GOk P W q) (hsz : vs.size = args.length)
  (hv : ∀ (i : Nat) x,args[i]? = some x → VT P W q x (vs.getD i undef)) : Calls P g vs W fun e w'=>e = .returned v ∧ ∃ n os,w' = Go.Sort.grow (W.drewN n) os := by
 refine (hs.2 W q vs hq hg hsz hv).mono ?_
 rintro e w' ⟨u,he,hb,hu⟩
 cases hu
 exact ⟨he,below_grow hb⟩
theorem vt_agg {P : Program} {w : World} {q : Nat → Prop} (l : List Value) (h : ∀ v ∈ l,v.oneCell' = true) : VT P w q (.agg (l.map .val)) (.agg l.toArray) := by
 refine .agg _ _ (by simp) (by simpa using h) fun i x hx=>?_
 rw [List.getElem?_map] at hx
 cases hl : l[i]? with
 | none=>rw [hl] at hx; cases hx
 | some v =>
  rw [hl] at hx
  cases hx
  have : l.toArray.getD i undef = v := by
   obtain ⟨hi,e⟩ := List.getElem?_eq_some_iff.1 hl
   simp [Array.getD,hi,e]
  rw [this]; exact .val v
section
variable {α : Type} [Inhabited α] (enc : α → List Value) (k : Nat) (w : World) (blk off : Nat)
theorem sw_heap (m : Nat) (d : Array α) (os : Array Obj) : (sortWorldK enc k w blk off m d os).heap = w.heap.modify blk (Go.Sort.onCells (Go.Sort.putCells id off (flatK enc k d))) ++ os := rfl
theorem sw_other (m : Nat) (d : Array α) (os : Array Obj) {b : Nat} (hb : b < w.heap.size) (hne : b ≠ blk) : (sortWorldK enc k w blk off m d os).heap[b]? = w.heap[b]? := by
  rw [sw_heap,Array.getElem?_append_left (by simpa using hb),Array.getElem?_modify,if_neg (fun e=>hne e.symm)]
theorem sw_size (m : Nat) (d : Array α) (os : Array Obj) : w.heap.size ≤ (sortWorldK enc k w blk off m d os).heap.size := by
  rw [sw_heap]; simp
theorem sw_row (m : Nat) (d : Array α) (os : Array Obj) {cs : Array Value} {t : TypeId} (h : w.heap[blk]? = some (.cells cs t (0,0))) : (sortWorldK enc k w blk off m d os).heap[blk]? = some (.cells (Go.Sort.putCells id off (flatK enc k d) cs) t (0,0)) := by
  have hlt : blk < w.heap.size := (Array.getElem?_eq_some_iff.1 h).1
  rw [sw_heap,Array.getElem?_append_left (by simpa using hlt),Array.getElem?_modify,if_pos rfl,h]; rfl
end
theorem putCells_eq (off : Nat) (F cs : Array Value) (h : off + F.size ≤ cs.size) : Go.Sort.putCells id off F cs = (cs.toList.take off ++ F.toList ++ cs.toList.drop (off + F.toList.length)).toArray := by
 apply Array.ext_getElem?
 intro i
 unfold Go.Sort.putCells
 have e0 : (cs.toList.take off ++ F.toList ++ cs.toList.drop (off + F.toList.length)).toArray[i]? = (cs.toList.take off ++ F.toList ++ cs.toList.drop (off + F.toList.length))[i]? := by simp
 rw [Array.getElem?_mapIdx,e0]
 have hF : F.toList.length = F.size := rfl
 have hc : cs.toList.length = cs.size := rfl
 by_cases h1 : i < off
 ·rw [List.append_assoc,List.getElem?_append_left (by rw [List.length_take]; omega),List.getElem?_take_of_lt h1,Array.getElem?_toList,Array.getElem?_eq_getElem (by omega)]
  simp only [Option.map_some,Option.some.injEq]
  rw [if_neg (by omega)]
 ·by_cases h2 : i < off + F.size
  ·rw [List.getElem?_append_left (by rw [List.length_append,List.length_take]; omega),List.getElem?_append_right (by rw [List.length_take]; omega),List.length_take,hc,Nat.min_eq_left (by omega),Array.getElem?_toList,Array.getElem?_eq_getElem (by omega),Array.getElem?_eq_getElem (by omega)]
   simp only [Option.map_some,Option.some.injEq]
   rw [if_pos ⟨by omega,h2⟩,getElem!_pos F (i - off) (by omega)]; rfl
  ·rw [List.getElem?_append_right (by rw [List.length_append,List.length_take]; omega),List.length_append,List.length_take,hc,hF,Nat.min_eq_left (by omega),List.getElem?_drop,show off + F.size + (i - (off + F.size)) = i by omega,Array.getElem?_toList]
   cases hi : cs[i]? with
   | none=>rfl
   | some x =>
    simp only [Option.map_some,Option.some.injEq]
    rw [if_neg (by omega)]
theorem sort_sound2 [GTab] {P : Program} {ρ : Go.Shelf.Ren} {α : Type} [Inhabited α] (L : SlLaysF0.n6 P ρ) (k : Nat) (aE : ∀ w,(isAgg (ρ.t 24)).run P w = .ok true w) (zE : ∀ w,(Go.sizeOf (ρ.t 24)).run P w = .ok k w) (enc : α → List Value)
  (hk : ∀ x,(enc x).length = k) (h1 : ∀ x,∀ v ∈ enc x,v.oneCell' = true) (cf : α → α → Int) (hO : Go.Sort.SWO (ltOf cf)) (g : FuncId) (hg : ∀ x y : α,Sound1 P g [.agg ((enc x).map .val),.agg ((enc y).map .val)] (.val (.int .i64 (cf x y))) false)
  (ef : ∀ z w,(callFunc (ρ.f 6) z).run P w = .ok (.enter (ρ.f 6) z) w) (d : Array α) (hsz : d.size < 4611686018427387904) :
  Sound2 P (ρ.f 6) k d.size (fun i=>(enc d[i]!).map .val) [.func (.func g) 0 []] (fun i=>(enc (Go.Sort.pdq (ltOf cf) d 0 d.size (Lib.bitLen d.size) true true)[i]!).map .val) := by
 refine ⟨ef,fun w q vs blk off cap cs t hq hgok hnb hrow hoff hone hcap hR hrel hvs hvr=>?_⟩
 have hlt : blk < w.heap.size := (Array.getElem?_eq_some_iff.1 hrow).1
 have hv0 := hvr 0 _ rfl
 obtain ⟨u,hu⟩ : ∃ u,u = vs.getD 0 undef := ⟨_,rfl⟩
 rw [← hu] at hv0
 have hvs1 : vs = #[u] := by
  apply Array.ext_getElem?
  intro i
  have hvs : vs.size = 1 := hvs
  match i with
  | 0=>rw [Array.getElem?_eq_getElem (by omega)]; simp [hu,Array.getD,hvs]
  | i + 1=>rw [Array.getElem?_eq_none (by omega)]; simp
 cases hv0 with
 | func _ _ _ f0 c hf hs _ =>
  have hf0 : f0 = #[] := Array.size_eq_zero_iff.1 hf
  have hc0 : c = #[] := by
   rw [hf0] at hs
   exact Array.size_eq_zero_iff.1 (by simpa using hs)
  subst hf0 hc0
  rw [hvs1]
  have hH : HoldsK enc k w blk off d := fun j hj=>by
   rw [size_flatK] at hj
   have hk0 : 0 < k := Nat.pos_of_ne_zero fun e=>by rw [e] at hj; omega
   have hi : j / k < d.size := Nat.div_lt_of_lt_mul (by rw [Nat.mul_comm]; exact hj)
   have hm : j % k < k := Nat.mod_lt _ hk0
   have ej : j / k * k + j % k = j := by rw [Nat.mul_comm]; exact Nat.div_add_mod j k
   have hx := hrel (j / k) (j % k) (.val (enc d[j / k]!)[j % k]!) hi (by
    rw [List.getElem?_map,List.getElem?_eq_getElem (by rw [hk]; exact hm),getElem!_pos (enc d[j / k]!) (j % k) (by rw [hk]; exact hm)]; rfl)
   rw [ej] at hx
   have hv : cs.getD (off + j) undef = (enc d[j / k]!)[j % k]! := by
    generalize cs.getD (off + j) undef = z at hx
    cases hx; rfl
   have hin : off + j < cs.size := by omega
   constructor
   ·rw [get_flatK enc k d j hj,← hv]
    simp [World.cell?,hrow,Array.getD,hin]
   ·simp [World.frozen?,hrow]
  have hcmp : CmpLays P g #[] enc k cf blk off d.size w := fun m os dk hdk x y=>by
   have hW : ∀ b,q b → (sortWorldK enc k w blk off m dk os).heap[b]? = w.heap[b]? := fun b hb=>sw_other enc k w blk off m dk os (hq b hb) fun e=>hnb (e ▸ hb)
   refine cmp_lays (hg x y) (q := q) (fun b hb=>Nat.lt_of_lt_of_le (hq b hb) (sw_size enc k w blk off m dk os)) (hgok.mono (fun _ h=>h) hW) rfl fun i z hz=>?_
   match i,hz with
   | 0,hz=>cases hz; exact vt_agg _ (h1 x)
   | 1,hz=>cases hz; exact vt_agg _ (h1 y)
  refine (AnyQ.slices_SortFunc_eq L k aE zE enc hk h1 cf hO g #[] blk off cap d w (hg default default).1 hcmp hH hlt hsz).mono ?_
  rintro e w' ⟨he,n,os,hw'⟩
  have hps := pdq_sorts (ltOf cf) hO d 0 d.size (Lib.bitLen d.size) true true (Nat.zero_le _) (Nat.le_refl _) (Or.inl rfl)
  have hds := hps.1.1
  refine ⟨he,flatK enc k (Go.Sort.pdq (ltOf cf) d 0 d.size (Lib.bitLen d.size) true true),?_⟩
  generalize Go.Sort.pdq (ltOf cf) d 0 d.size (Lib.bitLen d.size) true true = d' at *
  have hFs : (flatK enc k d').size = d.size * k := by rw [size_flatK,hds]
  have hel : ∀ i j,i < d.size → j < k → (flatK enc k d').getD (i * k + j) undef = (enc d'[i]!)[j]! := fun i j hi hj=>by
   have hb : i * k + j < d.size * k := by
    have : (i + 1) * k ≤ d.size * k := Nat.mul_le_mul_right k hi
    rw [Nat.add_mul,Nat.one_mul] at this
    omega
   have := get_flatK enc k d' (i * k + j) (by rw [hds]; exact hb)
   rw [show (i * k + j) / k = i by rw [Nat.mul_comm,Nat.mul_add_div (by omega),Nat.div_eq_of_lt hj,Nat.add_zero],show (i * k + j) % k = j by rw [Nat.mul_comm,Nat.mul_add_mod,Nat.mod_eq_of_lt hj]] at this
   rw [← this,getElem!_pos (flatK enc k d') (i * k + j) (by omega)]
   simp [Array.getD,hFs,hb]
  refine ⟨hFs,fun v hv=>?_,fun i _=>by rw [List.length_map,hk],fun i j y hi hy=>?_,?_⟩
  ·obtain ⟨j,hj,e⟩ := List.getElem_of_mem hv
   have hj : j < (flatK enc k d').size := hj
   have hk0 : 0 < k := Nat.pos_of_ne_zero fun e=>by rw [hFs,e] at hj; omega
   have hm : j % k < k := Nat.mod_lt _ hk0
   have := get_flatK enc k d' j (by rw [← size_flatK enc k d']; exact hj)
   rw [getElem!_pos (flatK enc k d') j hj,getElem!_pos (enc d'[j / k]!) (j % k) (by rw [hk]; exact hm)] at this
   have e : (flatK enc k d')[j] = v := e
   rw [← e,this]
   exact h1 _ _ (List.getElem_mem _)
  ·rw [List.getElem?_map] at hy
   cases hl : (enc d'[i]!)[j]? with
   | none=>rw [hl] at hy; cases hy
   | some v =>
    rw [hl] at hy
    cases hy
    obtain ⟨hj,e⟩ := List.getElem?_eq_some_iff.1 hl
    rw [hel i j hi (by rw [hk] at hj; exact hj),getElem!_pos (enc d'[i]!) j hj,e]
    exact .val v
  ·subst hw'
   refine ⟨rfl,rfl,rfl,?_,fun b hb=>?_,Nat.le_add_right _ _⟩
   ·have := sw_size enc k w blk off n d' os
    simpa [World.setRow] using this
   ·by_cases hbb : b = blk
    ·rw [hbb,sw_row enc k w blk off n d' os hrow,setRow_heap w blk cs _ t (0,0) hrow,putCells_eq off _ _ (by rw [hFs]; exact hoff)]
    ·rw [sw_other enc k w blk off n d' os (by simpa using hb) hbb]
     simp only [World.setRow,Array.getElem?_modify]
     rw [if_neg (fun e=>hbb e.symm)]
end Go.Tr

/- Contracts of chapter 5: the locations of a point sorted. Conditions: none. -/
-- seat YtgbdlkajmmjahaaGreat
namespace Go.Tr
open Go Go.Proofs Go.Shelf
set_option maxRecDepth 20000
set_option maxHeartbeats 8000000

theorem lt2_b (x y : Q2) : ltOf (α := Q2) cmp2 x y = decide (lt2 x y) := by
 unfold ltOf
 rw [Bool.eq_iff_iff,decide_eq_true_iff,decide_eq_true_iff]
 exact cmp2_neg x y
theorem lt2_swo {α : Type} [Inhabited α] (f : α → Q2) : Go.Sort.SWO (ltOf (α := α) fun x y=>cmp2 (f x) (f y)) := by
 have e : ∀ x y : α,ltOf (α := α) (fun x y=>cmp2 (f x) (f y)) x y = decide (lt2 (f x) (f y)) := fun x y=>lt2_b (f x) (f y)
 refine ⟨fun x=>?_,fun x y z h1 h2=>?_,fun x y z h1 h2=>?_⟩
 ·rw [e]; exact decide_eq_false (lt2_irr _)
 ·rw [e] at *
  exact decide_eq_true (lt2_tr _ _ _ (of_decide_eq_true h1) (of_decide_eq_true h2))
 ·rw [e] at *
  have g1 := of_decide_eq_false h1
  have g2 := of_decide_eq_false h2
  refine decide_eq_false fun h=>?_
  rcases lt2_tri (f x) (f y) with g | g | g
  ·exact g1 g
  ·rw [g] at h; exact g2 h
  ·exact g2 (lt2_tr _ _ _ g h)
theorem sort_list [GTab] {P : Program} {ρ : Go.Shelf.Ren} {α : Type} [Inhabited α] (L : SlLaysF0.n6 P ρ) (k : Nat) (aE : ∀ w,(isAgg (ρ.t 24)).run P w = .ok true w) (zE : ∀ w,(Go.sizeOf (ρ.t 24)).run P w = .ok k w) (enc : α → List Value)
  (hk : ∀ x,(enc x).length = k) (h1 : ∀ x,∀ v ∈ enc x,v.oneCell' = true) (cf : α → α → Int) (hO : Go.Sort.SWO (ltOf cf)) (g : FuncId) (hg : ∀ x y : α,Sound1 P g [.agg ((enc x).map .val),.agg ((enc y).map .val)] (.val (.int .i64 (cf x y))) false)
  (ef : ∀ z w,(callFunc (ρ.f 6) z).run P w = .ok (.enter (ρ.f 6) z) w) (d : List α) (hsz : d.length < 4611686018427387904) :
  ∃ d' : List α,d'.Perm d ∧ (d'.Pairwise fun a b=>¬ cf b a < 0) ∧ Sound2 P (ρ.f 6) k d.length (fun i=>(enc (d.getD i default)).map .val) [.func (.func g) 0 []] (fun i=>(enc (d'.getD i default)).map .val) := by
 have hs := sort_sound2 L k aE zE enc hk h1 cf hO g hg ef d.toArray (by simpa using hsz)
 have hp := Go.Sort.pdq_sorts (ltOf cf) hO d.toArray 0 d.toArray.size (Lib.bitLen d.toArray.size) true true (Nat.zero_le _) (Nat.le_refl _) (Or.inl rfl)
 generalize Go.Sort.pdq (ltOf cf) d.toArray 0 d.toArray.size (Lib.bitLen d.toArray.size) true true = D at *
 obtain ⟨⟨p1,p2,p3⟩,p4⟩ := hp
 have eg : ∀ (A : Array α) (i : Nat),A[i]! = A.toList.getD i default := fun A i=>by
  rw [List.getD_eq_getElem?_getD,Array.getElem?_toList,getElem!_def]
  cases A[i]? <;> rfl
 have ex : ∀ (A : Array α),A.size = d.toArray.size → (A.extract 0 d.toArray.size).toList = A.toList := fun A h=>by
  rw [← h,Array.extract_size]
 refine ⟨D.toList,?_,?_,?_⟩
 ·rw [ex D p1,ex d.toArray rfl] at p3
  exact p3
 ·rw [List.pairwise_iff_getElem]
  intro i j hi hj hij
  have hj' : j < D.size := hj
  have hi' : i < D.size := hi
  have h := p4 i j (Nat.zero_le _) hij (by omega)
  have e1 : D[i]! = D.toList[i] := getElem!_pos D i hi'
  have e2 : D[j]! = D.toList[j] := getElem!_pos D j hj'
  rw [e1,e2] at h
  exact of_decide_eq_false h
 ·simp only [eg] at hs
  exact hs
abbrev q2z : Q2 := (0,0)
theorem sm2_0 : sm2 q2z := by unfold sm2 smR q2z; decide
theorem S113 (Q : List Q2) (hQ : ∀ q ∈ Q,sm2 q) (hl : Q.length ≤ 1000000) :
  ∃ Q' : List Q2,Q'.Perm Q ∧ (Q'.Pairwise fun a b=>¬ lt2 b a) ∧ Sound2 Tryz.prog 113 4 Q.length (fun i=>lcC (fr2 (Q.getD i q2z))) [.func (.func 114) 0 []] (fun i=>lcC (fr2 (Q'.getD i q2z))) := by
 letI : Inhabited {q : Q2 // sm2 q} := ⟨⟨q2z,sm2_0⟩⟩
 obtain ⟨D,d1,d2,d3⟩ := sort_list (α := {q : Q2 // sm2 q}) Tryz.sortLoc 4 (fun _=>by kernel_rfl) (fun _=>by kernel_rfl) (fun x=>[.int .i64 (fr2 x.1).1.1,.int .i64 (fr2 x.1).1.2,.int .i64 (fr2 x.1).2.1,.int .i64 (fr2 x.1).2.2]) (fun _=>rfl)
  (fun x v hv=>by
   simp only [List.mem_cons,List.not_mem_nil,or_false] at hv
   rcases hv with rfl | rfl | rfl | rfl <;> rfl)
  (fun x y=>cmp2 x.1 y.1) (lt2_swo fun x : {q : Q2 // sm2 q}=>x.1) 114 (fun x y=>S114 x.1 y.1 x.2 y.2) (fun _ _=>by kernel_rfl) (Q.attachWith sm2 hQ) (by rw [List.length_attachWith]; omega)
 have em : (Q.attachWith sm2 hQ).map Subtype.val = Q := List.attachWith_map_subtype_val ..
 have eg : ∀ (A : List {q : Q2 // sm2 q}) (i : Nat),(A.getD i default).1 = (A.map Subtype.val).getD i q2z := fun A i=>by
  rw [List.getD_eq_getElem?_getD,List.getD_eq_getElem?_getD,List.getElem?_map]
  cases A[i]? <;> rfl
 refine ⟨D.map Subtype.val,?_,?_,?_⟩
 ·rw [← em]; exact d1.map _
 ·rw [List.pairwise_map]
  exact d2.imp fun h g=>h ((cmp2_neg _ _).2 g)
 ·rw [List.length_attachWith] at d3
  simp only [eg,em] at d3
  exact d3
end Go.Tr

/- Contracts of chapter 5: the locations of a point. Conditions: none. -/
-- seat YtgbdlkajmmjahaaGreat
namespace Go.Tr
open Go Go.Proofs
set_option maxRecDepth 20000
set_option maxHeartbeats 8000000

def locE (t : List MRow) (h f : Int) : Int := if (chkM t).2 ≠ 0 then (chkM t).2 else if szE h ≠ 0 then szE h else szE f
theorem locE_ok {t : List MRow} {h f : Int} (g : locE t h f = 0) : TblOk t ∧ (-1000 ≤ h ∧ h ≤ 1000) ∧ (-1000 ≤ f ∧ f ≤ 1000) := by
 have sz : ∀ x,szE x = 0 → -1000 ≤ x ∧ x ≤ 1000 := fun x hx=>by
  unfold szE at hx
  split at hx
  ·assumption
  ·exact absurd hx (by decide)
 unfold locE at g
 by_cases h1 : (chkM t).2 = 0
 ·rw [if_neg (not_not_intro h1)] at g
  by_cases h2 : szE h = 0
  ·rw [if_neg (not_not_intro h2)] at g
   exact ⟨TblOk.of h1,sz _ h2,sz _ g⟩
  ·rw [if_pos h2] at g; exact absurd g h2
 ·rw [if_pos h1] at g; exact absurd g h1
def locL (t : List MRow) (h f : Int) : List Q2 := lcs (h,f,0) (triT t (t.length - 1))
def locA (t : List MRow) (h f : Int) : List Q2 := if locE t h f = 0 then (if allS2 (locL t h f) then lcS t (h,f,0) else []) else []
def locR (t : List MRow) (h f : Int) : Int := if locE t h f = 0 then (if allS2 (locL t h f) then (if 0 < (locL t h f).length then 0 else 12) else 8) else locE t h f
abbrev lcsA (l : List Q2) : AV := .rslice 4 l.length fun i=>lcC (fr2 (l.getD i q2z))
theorem triK_mono {t : List MRow} {i : Nat} : ∀ {k m : Nat}, k ≤ m → ∀ x ∈ triK t i k, x ∈ triK t i m
  | k, m, h, x, hx => by
    induction m with
    | zero => obtain rfl : k = 0 := by omega
              exact hx
    | succ m ih =>
      by_cases e : k = m + 1
      · rw [← e]; exact hx
      · show x ∈ triK t i m ++ [triU t i m] ++ [triD t i m]
        exact List.mem_append_left _ (List.mem_append_left _ (ih (by omega)))
theorem triT_mono {t : List MRow} : ∀ {k m : Nat}, k ≤ m → ∀ x ∈ triT t k, x ∈ triT t m
  | k, m, h, x, hx => by
    induction m with
    | zero => obtain rfl : k = 0 := by omega
              exact hx
    | succ m ih =>
      by_cases e : k = m + 1
      · rw [← e]; exact hx
      · show x ∈ triT t m ++ triK t m (npT t - 1)
        exact List.mem_append_left _ (ih (by omega))
theorem triU_mem {t : List MRow} {i k : Nat} (hi : i < t.length - 1) (hk : k < npT t - 1) : triU t i k ∈ triT t (t.length - 1) :=
  triT_mono (k := i + 1) (by omega) _ (List.mem_append_right _ (triK_mono (k := k + 1) (by omega) _ (List.mem_append_left _ (List.mem_append_right _ (List.mem_singleton.2 rfl)))))
theorem triD_mem {t : List MRow} {i k : Nat} (hi : i < t.length - 1) (hk : k < npT t - 1) : triD t i k ∈ triT t (t.length - 1) :=
  triT_mono (k := i + 1) (by omega) _ (List.mem_append_right _ (triK_mono (k := k + 1) (by omega) _ (List.mem_append_right _ (List.mem_singleton.2 rfl))))
theorem loc_bad {t : List MRow} {h f : Int} {x : Tri} (hx : x ∈ triT t (t.length - 1)) (hin : lin x (h,f,0)) (hs : ¬ sm2 (lcQ x (h,f,0))) : ¬ allS2 (locL t h f) = true := fun g=>by
 unfold allS2 at g
 rw [List.all_eq_true] at g
 exact hs (of_decide_eq_true (g _ (List.mem_map.2 ⟨x,List.mem_filter.2 ⟨hx,decide_eq_true hin⟩,rfl⟩)))
theorem lcR_err {x : Tri} {p : P3} (h : ¬ (lcR x p).2.2 = 0) : lin x p ∧ ¬ sm2 (lcQ x p) ∧ (lcR x p).2.2 = 8 := by
 by_cases g : lin x p
 ·rw [lcR_yes g] at h ⊢
  by_cases g1 : smR (lcQ x p).1
  ·by_cases g2 : smR (lcQ x p).2
   ·exact absurd ((if_pos g1).trans (if_pos g2)) h
   ·exact ⟨g,fun e=>g2 e.2,(if_pos g1).trans (if_neg g2)⟩
  ·exact ⟨g,fun e=>g1 e.1,if_neg g1⟩
 ·rw [lcR_no g] at h; exact absurd rfl h
theorem lcR_add {x : Tri} {p : P3} (h : (lcR x p).2.2 = 0) (hb : (lcR x p).2.1 = true) : lin x p ∧ sm2 (lcQ x p) ∧ (lcR x p).1 = fr2 (lcQ x p) := by
 by_cases g : lin x p
 ·rw [lcR_yes g] at h ⊢
  by_cases g1 : smR (lcQ x p).1
  ·by_cases g2 : smR (lcQ x p).2
   ·refine ⟨g,⟨g1,g2⟩,?_⟩
    show (okR _,okR _) = _
    unfold okR
    rw [if_pos g1,if_pos g2]; rfl
   ·exact absurd (show (8 : Int) = 0 from ((if_pos g1).trans (if_neg g2)).symm.trans h) (by decide)
  ·exact absurd (show (8 : Int) = 0 from (if_neg g1).symm.trans h) (by decide)
 ·rw [lcR_no g] at hb; cases hb
theorem lcR_skip {x : Tri} {p : P3} (h : (lcR x p).2.1 = false) : ¬ lin x p := fun g=>by rw [lcR_yes g] at h; cases h
theorem loc_err {t : List MRow} {h f : Int} {x : Tri} (hx : x ∈ triT t (t.length - 1)) (hw : ¬ (lcR x (h,f,0)).2.2 = 0) :
  AVE 5 (.tuple [.eslice,i64 (lcR x (h,f,0)).2.2]) (.tuple [lcsA (if allS2 (locL t h f) = true then lcS t (h,f,0) else []),i64 (if allS2 (locL t h f) = true then (if 0 < (locL t h f).length then 0 else 12) else 8)]) := by
 obtain ⟨g1,g2,g3⟩ := lcR_err hw
 have hb := loc_bad hx g1 g2
 rw [if_neg hb,if_neg hb,g3]
 exact ave_tup2 rfl rfl
theorem pre_at {α : Type} {A F : List α} {x d : α} (h : A ++ [x] <+: F) : F.getD A.length d = x := by
  obtain ⟨B,rfl⟩ := h
  rw [List.getD_eq_getElem?_getD,List.append_assoc,List.getElem?_append_right (Nat.le_refl _),Nat.sub_self]; rfl
theorem lcs_pre {p : P3} {A B : List Tri} (h : A <+: B) : lcs p A <+: lcs p B := by
  obtain ⟨C,rfl⟩ := h
  exact ⟨lcs p C,(lcs_app p A C).symm⟩
theorem triK_pre {t : List MRow} {i : Nat} : ∀ {k m : Nat}, k ≤ m → triK t i k <+: triK t i m
  | k, m, h => by
    induction m with
    | zero => obtain rfl : k = 0 := by omega
              exact List.prefix_refl _
    | succ m ih =>
      by_cases e : k = m + 1
      · rw [e]; exact List.prefix_refl _
      · refine (ih (by omega)).trans ?_
        show triK t i m <+: triK t i m ++ [triU t i m] ++ [triD t i m]
        rw [List.append_assoc]
        exact List.prefix_append ..
theorem triT_pre {t : List MRow} : ∀ {k m : Nat}, k ≤ m → triT t k <+: triT t m
  | k, m, h => by
    induction m with
    | zero => obtain rfl : k = 0 := by omega
              exact List.prefix_refl _
    | succ m ih =>
      by_cases e : k = m + 1
      · rw [e]; exact List.prefix_refl _
      · refine (ih (by omega)).trans ?_
        show triT t m <+: triT t m ++ triK t m (npT t - 1)
        exact List.prefix_append ..
theorem preD {t : List MRow} {i k : Nat} (hi : i < t.length - 1) (hk : k < npT t - 1) : triT t i ++ triK t i k ++ [triU t i k] ++ [triD t i k] <+: triT t (t.length - 1) := by
 have h1 : triT t i ++ triK t i (npT t - 1) <+: triT t (t.length - 1) := triT_pre (k := i + 1) (by omega)
 have h2 := triK_pre (t := t) (i := i) (k := k + 1) (m := npT t - 1) (by omega)
 have h3 : triT t i ++ triK t i (k + 1) <+: triT t i ++ triK t i (npT t - 1) := (List.prefix_append_right_inj _).2 h2
 have e : triT t i ++ triK t i k ++ [triU t i k] ++ [triD t i k] = triT t i ++ triK t i (k + 1) := by
  show _ = triT t i ++ (triK t i k ++ [triU t i k] ++ [triD t i k])
  simp only [List.append_assoc]
 rw [e]
 exact h3.trans h1
theorem lc_at {p : P3} {A B : List Tri} {x : Tri} (h : A ++ [x] <+: B) (hin : lin x p) : (lcs p B).getD (lcs p A).length q2z = lcQ x p := by
 have := lcs_pre (p := p) h
 rw [lcs_app,lcs_yes hin] at this
 exact pre_at this
theorem st_yes {p : P3} {A : List Tri} {x : Tri} {m : Nat} (hin : lin x p) (hs : sm2 (lcQ x p)) (hm : m = (lcs p A).length) (hS : allS2 (lcs p A) = true) : m + 1 = (lcs p (A ++ [x])).length ∧ allS2 (lcs p (A ++ [x])) = true := by
  rw [lcs_app,lcs_yes hin,allS2_app,hS]
  exact ⟨by rw [List.length_append,hm]; rfl,by simpa [allS2] using hs⟩
theorem st_no {p : P3} {A : List Tri} {x : Tri} {m : Nat} (hin : ¬ lin x p) (hm : m = (lcs p A).length) (hS : allS2 (lcs p A) = true) : m = (lcs p (A ++ [x])).length ∧ allS2 (lcs p (A ++ [x])) = true := by
  rw [lcs_app,lcs_no hin,List.append_nil]
  exact ⟨hm,hS⟩
theorem ap1 {F : List Q2} {m : Nat} {s : (Int × Int) × Int × Int} {q : Q2} (a : F.getD m q2z = q) (g : s = fr2 q) (i : Nat) (hi : i < m + 1) : lcC (fr2 (F.getD i q2z)) = if i < m then lcC (fr2 (F.getD (0 + i) q2z)) else List.take 4 (List.drop ((i - m) * 4) (lcC s)) :=
  extE (fun q=>lcC (fr2 q)) (m := 4) (fun _=>rfl) (fun i=>F.getD i q2z) m i hi _ (by rw [g,← a])
theorem ap2 {F : List Q2} {m : Nat} {s u : (Int × Int) × Int × Int} {q r : Q2} (a : F.getD m q2z = q) (g : s = fr2 q) (b : F.getD (m + 1) q2z = r) (e : u = fr2 r) (i : Nat) (hi : i < m + 1 + 1) :
  lcC (fr2 (F.getD i q2z)) = if i < m + 1 then (if 0 + i < m then lcC (fr2 (F.getD (0 + (0 + i)) q2z)) else List.take 4 (List.drop ((0 + i - m) * 4) (lcC s))) else List.take 4 (List.drop ((i - (m + 1)) * 4) (lcC u)) := by
 rw [ap1 b e i hi]
 by_cases h : i < m + 1
 ·rw [if_pos h,if_pos h,ap1 a g (0 + i) (by omega)]
 ·rw [if_neg h,if_neg h]
end Go.Tr

/- Contracts of chapter 5: no location sorted, none compacted. Conditions: none. -/
-- seat YtgbdlkajmmjahaaGreat
namespace Go.Tr
open Go Go.Proofs
set_option maxRecDepth 20000
set_option maxHeartbeats 8000000

theorem inM {X : (Nat → List AV) → Prop} (G : Nat → List AV) {p1 p2 p3 p4 K : Prop} (e : X G = (p1 ∧ p2 ∧ p3 ∧ p4 ∧ K)) (h1 : p1) (h2 : p2) (h3 : p3) (h4 : p4) (h : K) : ∃ G,X G := ⟨G,e ▸ ⟨h1,h2,h3,h4,h⟩⟩
theorem fr2_inj {p q : Q2} (h : fr2 p = fr2 q) : p = q := Prod.ext (frI_inj (congrArg Prod.fst h)) (frI_inj (congrArg Prod.snd h))
theorem lc_veq (a b : Q2) : vEqL [.int .i64 (fr2 a).1.1,.int .i64 (fr2 a).1.2,.int .i64 (fr2 a).2.1,.int .i64 (fr2 a).2.2] [.int .i64 (fr2 b).1.1,.int .i64 (fr2 b).1.2,.int .i64 (fr2 b).2.1,.int .i64 (fr2 b).2.2] = decide (a = b) := by
 rw [Bool.eq_iff_iff,decide_eq_true_iff]
 constructor
 ·intro h
  refine fr2_inj ?_
  simp only [vEqL,Bool.and_eq_true,beq_iff_eq,and_true,true_and] at h
  exact Prod.ext (Prod.ext h.1 h.2.1) (Prod.ext h.2.2.1 h.2.2.2)
 ·intro h
  subst h
  simp [vEqL]
theorem srt_row {R : List Q2} {m i : Nat} {A B : List AV} (hi : i < m) : lcC (fr2 (R.getD i q2z)) = if i < 0 then A else if i < 0 + m then lcC (fr2 (R.getD (i - 0) q2z)) else B := by
  rw [if_neg (by omega),if_pos (by omega),Nat.sub_zero]
theorem S113z (F : Nat → List AV) : SP 113 [.rslice 4 0 F,.func (.func 114) 0 []] (.tuple []) false := by
 obtain ⟨rl,h153⟩ := S153 0 (by omega)
 have hu : inK .u64 ((0 : Nat) : Int) := u64_in (by omega)
 refine sound (d := 2) tok2 mixed2 Tryz.func113 (by kernel_rfl) (by kernel_rfl) ?_
 (conv=>whnf); refine ⟨by assumption,?_⟩
 (conv=>whnf); refine .inl ⟨_,_,byX rfl (Sound1.pl (h153) rfl),?_⟩
 (conv=>whnf); refine .inr (.inl ⟨[],?_⟩)
 (conv=>whnf); refine ⟨[.forget [0,1,2,3,4,5,6,7,8,9,10,11,12,13,14,15]],[0,1,2,3,4],fun st mq=>st = ⟨[(0,.rslice 4 0 F),(1,i64 0),(2,i64 0),(3,i64 rl),(4,.func (.func 114) 0 [])],⟨[],[],none,0⟩,[]⟩ ∧ mq = 0,
  ⟨_,_,⟨rfl,rfl⟩,⟨⟨.inl rfl,rfl,rfl,rfl⟩,trivial,trivial⟩⟩,?_⟩
 rintro s0 m0 ⟨rfl,hmeas⟩
 conv=>whnf
 (conv=>whnf); refine ⟨inK64 (by omega) (by omega),?_⟩
 conv=>whnf
 (conv=>whnf); refine .inr (.inl ⟨[],?_⟩)
 conv=>whnf
 (conv=>whnf); refine ⟨inK64 (by omega) (by omega),?_⟩
 conv=>whnf
 (conv=>whnf); refine ⟨[.forget [0,1,2,3,4,5,6,7,8,9,10,11,12,13,14,15,16,17,18,19,20,21,22,23,24,25,26,27,28,29,30,31,32,33,34,35,36,37,38,39]],[0,1,2,3,8],fun st mq=>st = ⟨[(0,.rslice 4 0 F),(1,i64 0),(2,i64 0),(3,.func (.func 114) 0 []),(8,i64 1)],⟨[],[],none,0⟩,[]⟩ ∧ mq = 0,
  ⟨_,_,⟨rfl,rfl⟩,⟨⟨.inl rfl,rfl,rfl,rfl⟩,trivial,trivial⟩⟩,?_⟩
 rintro s0 m0 ⟨rfl,hmeas⟩
 conv=>whnf
 conv=>whnf
 (conv=>whnf); refine ⟨?_,nofun⟩
 exact ⟨rfl,nofun⟩
theorem S116z (n : Nat) (hn : n < 2) (F : Nat → List AV) : SP 116 [.rslice 4 n F] (.rslice 4 n F) false := by
 refine sound (d := 2) tok2 mixed2 Tryz.func116 (by kernel_rfl) (by kernel_rfl) ?_
 (conv=>whnf); refine ifB_dec (fun w1=>?_) (fun w1=>?_)
 ·(conv=>whnf); refine ⟨?_,nofun⟩
  exact ⟨rfl,rfl,fun _ _=>rfl⟩
 ·(exfalso; omega)
end Go.Tr

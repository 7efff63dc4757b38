/- slices.SortFunc over states, laid by the kit (printed by its tool in plain text). Conditions: none. -/
import Derived.Shelf.SlSortCmp.WholeK
import Derived.Test.YtinfmponjglalaaGreatDoorProg
import Derived.Test.YtinfmponjglalaaGreatDoorTr09
import Derived.Test.YtinfmponjglalaaGreatDoorTr08
set_option linter.unusedSectionVars false
set_option linter.unnecessarySimpa false
set_option linter.unusedVariables false
set_option linter.unusedSimpArgs false

-- seat YtinfmponjglalaaGreatDoor
namespace Go.Proofs
open Go.Shelf
def Tryz.sortS_ren : Go.Shelf.Ren := ⟨fun | 6=>107 | 15=>120 | 14=>119 | 28=>129 | 29=>130 | 20=>121 | 21=>122 | 22=>123 | 23=>124 | 24=>125 | 25=>126 | 26=>127 | 27=>128 | 46=>131 | 47=>132 | 48=>133 | 49=>134 | 50=>135 | 57=>136 | n=>n,fun | 22=>31 | 24=>41 | 25=>162 | 3=>3 | 39=>173 | 0=>0 | 53=>183 | 55=>185 | 4=>4 | 46=>177 | 45=>176 | 50=>114 | 5=>5 | 9=>9 | 66=>186 | 70=>190 | 76=>192 | 77=>83 | n=>n,fun | n=>n⟩
theorem Tryz.sortS : Go.Proofs.SlLaysF0.n6 Tryz.prog Tryz.sortS_ren := {
 mixed := by kernel_rfl
 f6 := ⟨Tryz.f107.name,by decide,Tryz.func107.trans (congrArg some (by kernel_rfl))⟩
 f14 := ⟨Tryz.f119.name,by decide,Tryz.func119.trans (congrArg some (by kernel_rfl))⟩
 f15 := Tryz.func120.trans (congrArg some (by kernel_rfl))
 f20 := ⟨Tryz.f121.name,by decide,Tryz.func121.trans (congrArg some (by kernel_rfl))⟩
 f21 := ⟨Tryz.f122.name,by decide,Tryz.func122.trans (congrArg some (by kernel_rfl))⟩
 f22 := ⟨Tryz.f123.name,by decide,Tryz.func123.trans (congrArg some (by kernel_rfl))⟩
 f23 := ⟨Tryz.f124.name,by decide,Tryz.func124.trans (congrArg some (by kernel_rfl))⟩
 f24 := ⟨Tryz.f125.name,by decide,Tryz.func125.trans (congrArg some (by kernel_rfl))⟩
 f25 := ⟨Tryz.f126.name,by decide,Tryz.func126.trans (congrArg some (by kernel_rfl))⟩
 f26 := ⟨Tryz.f127.name,by decide,Tryz.func127.trans (congrArg some (by kernel_rfl))⟩
 f27 := ⟨Tryz.f128.name,by decide,Tryz.func128.trans (congrArg some (by kernel_rfl))⟩
 f28 := Tryz.func129.trans (congrArg some (by kernel_rfl))
 f29 := Tryz.func130.trans (congrArg some (by kernel_rfl))
 f46 := ⟨Tryz.f131.name,by decide,Tryz.func131.trans (congrArg some (by kernel_rfl))⟩
 f47 := Tryz.func132.trans (congrArg some (by kernel_rfl))
 f48 := Tryz.func133.trans (congrArg some (by kernel_rfl))
 f49 := ⟨Tryz.f134.name,by decide,Tryz.func134.trans (congrArg some (by kernel_rfl))⟩
 f50 := ⟨Tryz.f135.name,by decide,Tryz.func135.trans (congrArg some (by kernel_rfl))⟩
 f57 := ⟨Tryz.f136.name,by decide,Tryz.func136.trans (congrArg some (by kernel_rfl))⟩
 t0 := Tryz.underlying0
 a0 := Tryz.isAgg0
 z0 := Tryz.sizeOf0
 v0 := Tryz.zeroValue0
 t3 := Tryz.underlying3
 a3 := Tryz.isAgg3
 z3 := Tryz.sizeOf3
 v3 := Tryz.zeroValue3
 t4 := Tryz.underlying4
 a4 := Tryz.isAgg4
 z4 := Tryz.sizeOf4
 v4 := Tryz.zeroValue4
 t5 := Tryz.underlying5
 a5 := Tryz.isAgg5
 z5 := Tryz.sizeOf5
 v5 := Tryz.zeroValue5
 t9 := Tryz.underlying9
 a9 := Tryz.isAgg9
 z9 := Tryz.sizeOf9
 v9 := Tryz.zeroValue9
 t22 := Tryz.underlying31
 a22 := Tryz.isAgg31
 z22 := Tryz.sizeOf31
 v22 := Tryz.zeroValue31
 t25 := Tryz.underlying162
 a25 := Tryz.isAgg162
 z25 := Tryz.sizeOf162
 v25 := Tryz.zeroValue162
 t39 := Tryz.underlying173
 a39 := Tryz.isAgg173
 z39 := Tryz.sizeOf173
 v39 := Tryz.zeroValue173
 t45 := Tryz.underlying176
 a45 := Tryz.isAgg176
 z45 := Tryz.sizeOf176
 v45 := Tryz.zeroValue176
 t46 := Tryz.underlying177
 a46 := Tryz.isAgg177
 z46 := Tryz.sizeOf177
 v46 := Tryz.zeroValue177
 t50 := Tryz.underlying114
 a50 := Tryz.isAgg114
 z50 := Tryz.sizeOf114
 v50 := Tryz.zeroValue114
 t53 := Tryz.underlying183
 a53 := Tryz.isAgg183
 z53 := Tryz.sizeOf183
 v53 := Tryz.zeroValue183
 t55 := Tryz.underlying185
 a55 := Tryz.isAgg185
 z55 := Tryz.sizeOf185
 v55 := Tryz.zeroValue185
 t66 := Tryz.underlying186
 a66 := Tryz.isAgg186
 z66 := Tryz.sizeOf186
 v66 := Tryz.zeroValue186
 t70 := Tryz.underlying190
 a70 := Tryz.isAgg190
 z70 := Tryz.sizeOf190
 v70 := Tryz.zeroValue190
 t76 := Tryz.underlying192
 a76 := Tryz.isAgg192
 z76 := Tryz.sizeOf192
 v76 := Tryz.zeroValue192
 t77 := Tryz.underlying83
 a77 := Tryz.isAgg83
 z77 := Tryz.sizeOf83
 v77 := Tryz.zeroValue83 }
end Go.Proofs

/- Contracts of chapter 7: states sorted; after a state. Conditions: none. -/
-- seat YtinfmponjglalaaGreatDoor
namespace Go.Tr
open Go Go.Proofs Go.Shelf
set_option maxRecDepth 20000
set_option maxHeartbeats 8000000

def cmpS (a b : S2) : Int := if cmpI a.1 b.1 = 0 then cmpI a.2 b.2 else cmpI a.1 b.1
theorem cmpS_neg (a b : S2) : cmpS a b < 0 ↔ ltS a b := by
  unfold cmpS cmpI ltS
  split <;> split <;> (try split) <;> omega
instance ltS_dec (a b : S2) : Decidable (ltS a b) := by unfold ltS; infer_instance
theorem ltS_b (x y : S2) : ltOf (α := S2) cmpS x y = decide (ltS x y) := by
 unfold ltOf
 rw [Bool.eq_iff_iff,decide_eq_true_iff,decide_eq_true_iff]
 exact cmpS_neg x y
theorem ltS_swo : Go.Sort.SWO (ltOf (α := S2) cmpS) := by
 refine ⟨fun x=>?_,fun x y z h1 h2=>?_,fun x y z h1 h2=>?_⟩
 ·rw [ltS_b]; exact decide_eq_false (ltS_ir _)
 ·rw [ltS_b] at *
  exact decide_eq_true (ltS_tr (of_decide_eq_true h1) (of_decide_eq_true h2))
 ·rw [ltS_b] at *
  have g1 := of_decide_eq_false h1
  have g2 := of_decide_eq_false h2
  refine decide_eq_false fun h=>?_
  unfold ltS at *
  omega
theorem sort_list [GTab] (hkp : GTab.kept) {P : Program} {ρ : Go.Shelf.Ren} {α : Type} [Inhabited α] (L : SlLaysF0.n6 P ρ) (k : Nat) (aE : ∀ w,(isAgg (ρ.t 24)).run P w = .ok true w) (zE : ∀ w,(Go.sizeOf (ρ.t 24)).run P w = .ok k w) (enc : α → List Value)
  (hk : ∀ x,(enc x).length = k) (h1 : ∀ x,∀ v ∈ enc x,v.oneCell' = true) (cf : α → α → Int) (hO : Go.Sort.SWO (ltOf cf)) (g : FuncId) (hg : ∀ x y : α,Sound1 P g [.agg ((enc x).map .val),.agg ((enc y).map .val)] (.val (.int .i64 (cf x y))) false)
  (ef : ∀ z w,(callFunc (ρ.f 6) z).run P w = .ok (.enter (ρ.f 6) z) w) (d : List α) (hsz : d.length < 4611686018427387904) :
  ∃ d' : List α,d'.Perm d ∧ (d'.Pairwise fun a b=>¬ cf b a < 0) ∧ Sound2 P (ρ.f 6) k d.length (fun i=>(enc (d.getD i default)).map .val) [.func (.func g) 0 []] (fun i=>(enc (d'.getD i default)).map .val) := by
 have hs := sort_sound2 hkp L k aE zE enc hk h1 cf hO g hg ef d.toArray (by simpa using hsz)
 have hp := Go.Sort.pdq_sorts (ltOf cf) hO d.toArray 0 d.toArray.size (Lib.bitLen d.toArray.size) true true (Nat.zero_le _) (Nat.le_refl _) (Or.inl rfl)
 generalize Go.Sort.pdq (ltOf cf) d.toArray 0 d.toArray.size (Lib.bitLen d.toArray.size) true true = D at *
 obtain ⟨⟨p1,p2,p3⟩,p4⟩ := hp
 have eg : ∀ (A : Array α) (i : Nat),A[i]! = A.toList.getD i default := fun A i=>by
  rw [List.getD_eq_getElem?_getD,Array.getElem?_toList,getElem!_def]
  cases A[i]? <;> rfl
 have ex : ∀ (A : Array α),A.size = d.toArray.size → (A.extract 0 d.toArray.size).toList = A.toList := fun A h=>by
  rw [← h,Array.extract_size]
 refine ⟨D.toList,?_,?_,?_⟩
 ·rw [ex D p1,ex d.toArray rfl] at p3
  exact p3
 ·rw [List.pairwise_iff_getElem]
  intro i j hi hj hij
  have hj' : j < D.size := hj
  have hi' : i < D.size := hi
  have h := p4 i j (Nat.zero_le _) hij (by omega)
  have e1 : D[i]! = D.toList[i] := getElem!_pos D i hi'
  have e2 : D[j]! = D.toList[j] := getElem!_pos D j hj'
  rw [e1,e2] at h
  exact of_decide_eq_false h
 ·simp only [eg] at hs
  exact hs

theorem S108 (a b : S2) : SP 108 [stA a,stA b] (i64 (cmpS a b)) false := by
 have h1 := S92 a.1 b.1
 have h2 := S92 a.2 b.2
 have h4 := @S91_2 (cmpI a.1 b.1) (cmpI a.2 b.2)
 have e : firstOf [cmpI a.1 b.1,cmpI a.2 b.2] = cmpS a b := by
  rw [first2]
  unfold cmpS
  by_cases h : cmpI a.1 b.1 = 0
  ·rw [if_neg (not_not_intro h),if_pos h]
  ·rw [if_pos h,if_neg h]
 rw [e] at h4
 refine sound (d := 2) tok2 mixed2 Tryz.func108 (by kernel_rfl) (by kernel_rfl) ?_
 (conv=>whnf); refine ⟨[],by kernel_rfl,?_⟩
 (conv=>whnf); refine .inl ⟨_,_,byX rfl (Sound1.pl (h1) rfl),?_⟩
 (conv=>whnf); refine .inl ⟨_,_,byX rfl (Sound1.pl (h2) rfl),?_⟩
 (conv=>whnf); refine .inl ⟨_,_,byX rfl (Sound1.pl (h4 ⟨rfl,rfl⟩) rfl),?_⟩
 (conv=>whnf); refine ⟨?_,nofun⟩
 (first | contradiction | rfl)
theorem S106 (A : List S2) (hl : A.length ≤ 1000000) (h0 : 0 < A.length) : SP 106 [sts A] (sts A) true := by
 refine sound (d := 2) tok2 mixed2 Tryz.func106 (by kernel_rfl) (by kernel_rfl) ?_
 rintro (_ | _) w1
 ·(conv=>whnf); refine .inl ?_
  (conv=>whnf); refine ⟨⟨(by omega),(by show _ * (16 + 1) ≤ _; omega)⟩,?_⟩
  (conv=>whnf); refine ⟨?_,fun _=>⟨rfl,?_⟩⟩
  ·exact ⟨rfl,Nat.zero_add _,fun i hi=>rfl⟩
  ·exact ⟨fun i _ x hx=>by
    rcases List.mem_cons.1 hx with e | hx
    ·exact ⟨_,e⟩
    ·exact ⟨_,List.mem_singleton.1 hx⟩,trivial⟩
 ·(exact absurd (w1 (by omega)) nofun)
theorem S107 (Q : List S2) (hl : Q.length ≤ 1000000) :
  ∃ Q' : List S2,Q'.Perm Q ∧ (Q'.Pairwise fun a b=>¬ ltS b a) ∧ Sound2 Tryz.prog 107 2 Q.length (fun i=>stC (Q.getD i (0,0))) [.func (.func 108) 0 []] (fun i=>stC (Q'.getD i (0,0))) := by
 letI : Inhabited S2 := ⟨(0,0)⟩
 obtain ⟨D,d1,d2,d3⟩ := sort_list trivial (α := S2) Tryz.sortS 2 (fun _=>by kernel_rfl) (fun _=>by kernel_rfl) (fun x=>[.int .i64 x.1,.int .i64 x.2]) (fun _=>rfl)
  (fun x v hv=>by
   simp only [List.mem_cons,List.not_mem_nil,or_false] at hv
   rcases hv with rfl | rfl <;> rfl)
  cmpS ltS_swo 108 (fun x y=>S108 x y) (fun _ _=>by kernel_rfl) Q (by omega)
 exact ⟨D,d1,d2.imp fun h g=>h ((cmpS_neg _ _).2 g),d3⟩
end Go.Tr

/- Contracts of chapter 7: which ranks are a proof, the reference. Conditions: none. -/
/- Contracts of chapter 7: which ranks are a proof, the package; the law SequenceProofs. Conditions: none. -/
namespace Go.Tr
open Go Go.Proofs
set_option maxRecDepth 20000
set_option maxHeartbeats 8000000

theorem S87 (p : Pln) (s : S2) (f : Int × Bool) : SP 87 [planA p,stA s,ftA f] (.func (.func 112) 0 [.rptr (planC p),.rptr (stC s),.rptr (fltC f)]) false := by
 refine sound (d := 2) tok2 mixed2 Tryz.func87 (by kernel_rfl) (by kernel_rfl) ?_
 (conv=>whnf); refine ⟨?_,nofun⟩
 rfl
def cAt (p : Pln) (s : S2) (i : Nat) : Int := ((-1 : Int) :: (stp p s).exits).getD i 0
theorem succs_at {p : Pln} {f : Int × Bool} {s : S2} {i : Nat} (h : i < (stp p s).exits.length + 1) : (succs p f s).getD i (0,0) = (turnF p f s (cAt p s i)).1 := by
 unfold succs cAt
 cases i with
 | zero=>rfl
 | succ i =>
  have : i < (stp p s).exits.length := by omega
  simp [List.getD_eq_getElem?_getD,this]
theorem succs_len {p : Pln} {f : Int × Bool} {s : S2} : (succs p f s).length = (stp p s).exits.length + 1 := by
  simp [succs]
theorem cAt_row0 {p : Pln} {s : S2} {i : Nat} (h : i < 1) : [i64 (cAt p s i)] = List.take 1 (List.drop (i * 1) [i64 (-1)]) := by
  obtain rfl : i = 0 := by omega
  rfl
theorem cAt_row {p : Pln} {s : S2} {i : Nat} (h : i < 1 + (stp p s).exits.length) : [i64 (cAt p s i)] = if i < 1 then List.take 1 (List.drop ((0 + i) * 1) [i64 (-1)]) else [i64 ((stp p s).exits.getD (i - 1) 0)] := by
 cases i with
 | zero=>rfl
 | succ i =>
  rw [if_neg (by omega)]
  rfl
end Go.Tr

/- Contracts of chapter 7: a spread, the package. Conditions: none. -/
-- seat YtinfmponjglalaaGreatDoor
namespace Go.Tr
open Go Go.Proofs
set_option maxRecDepth 20000
set_option maxHeartbeats 8000000

theorem take_st {l : List S2} {i : Nat} (h : i < l.length) : l.take (i + 1) = l.take i ++ [l.getD i (0,0)] := by
  rw [List.take_add_one,List.getElem?_eq_getElem h,List.getD_eq_getElem?_getD,List.getElem?_eq_getElem h]; rfl
theorem getD_mem {l : List S2} {i : Nat} (h : i < l.length) : l.getD i (0,0) ∈ l := by
  rw [List.getD_eq_getElem?_getD,List.getElem?_eq_getElem h]; exact List.getElem_mem _
theorem mem_getD {l : List S2} {t : S2} (h : t ∈ l) : ∃ c,c < l.length ∧ l.getD c (0,0) = t := by
  obtain ⟨c,hc⟩ := List.mem_iff_getElem?.1 h
  exact ⟨c,(List.getElem?_eq_some_iff.1 hc).1,by rw [List.getD_eq_getElem?_getD,hc]; rfl⟩
theorem seen_snoc {sn : Value → Bool} {D : List S2} {e : S2} (hs : ∀ s,sn (keyV s) = true ↔ s ∈ D) (s : S2) : Bool.or (sn (keyV s)) (opEv.keyEq (keyV s) (keyV e)) = true ↔ s ∈ D ++ [e] := by
 rw [keyD,List.mem_append,Bool.or_eq_true,hs]
 show _ ∨ decide (s = e) = true ↔ _
 simp
theorem inM {X : (Nat → List AV) → Prop} (G : Nat → List AV) {p1 p2 p3 p4 K : Prop} (e : X G = (p1 ∧ p2 ∧ p3 ∧ p4 ∧ K)) (h1 : p1) (h2 : p2) (h3 : p3) (h4 : p4) (h : K) : ∃ G,X G := ⟨G,e ▸ ⟨h1,h2,h3,h4,h⟩⟩
theorem srt_row {R : List S2} {m i : Nat} {A B : List AV} (hi : i < m) : stC (R.getD i (0,0)) = if i < 0 then A else if i < 0 + m then stC (R.getD (i - 0) (0,0)) else B := by
  rw [if_neg (by omega),if_pos (by omega),Nat.sub_zero]
theorem getD_snoc {l : List S2} {i : Nat} (x : S2) (h : i < l.length) : (l ++ [x]).getD i (0,0) = l.getD i (0,0) := by
  rw [List.getD_eq_getElem?_getD,List.getD_eq_getElem?_getD,List.getElem?_append_left h]
theorem q_row {L : List S2} {d o l : Nat} (h : d + o + l = L.length) (x : S2) (i : Nat) (hi : i < l + 1) : stC ((L ++ [x]).getD (d + o + i) (0,0)) = if i < l then stC (L.getD (d + (o + i)) (0,0)) else List.take 2 (List.drop ((i - l) * 2) (stC x)) := by
 by_cases hl : i < l
 ·rw [if_pos hl,getD_snoc x (by omega),Nat.add_assoc]
 ·obtain rfl : i = l := by omega
  rw [if_neg hl,h,Nat.sub_self,List.getD_eq_getElem?_getD,List.getElem?_append_right (Nat.le_refl _),Nat.sub_self]; rfl
set_option maxHeartbeats 8000000 in
theorem S75 (p : Pln) (hg : Good p) (f : Int × Bool) (A : List S2) (hA : ∀ x ∈ A, OkS p x) (hnd : A.Nodup) (h0 : 0 < A.length) : SP 75 [planA p, sts A, ftA f] (sts (spL p f A)) false := by
 have hAl := states_le hg A hnd hA
 have hN : allN p ≤ 320 := by
  have h1 := hg.m
  have h2 : 2 ^ p.sig.length ≤ 2 ^ 5 := Nat.pow_le_pow_right (by decide) hg.n
  have := Nat.mul_le_mul h2 h1
  unfold allN
  omega
 have h106 := S106 A (by omega) h0
 refine sound (d := 2) tok2 mixed2 Tryz.func75 (by kernel_rfl) (by kernel_rfl) ?_
 (conv=>whnf); refine .inl ⟨_,_,byX rfl (h106),?_⟩
 (conv=>whnf); refine ⟨[],[3,5,7,8,18,19,20],fun st mq=>∃ (i : Nat) (M : List S2),(i ≤ A.length) ∧ (M = A.take i) ∧ st = ⟨[(3,.optr 0 0 0 0),(5,.optr 1 0 0 0),(7,.optr 2 0 0 0),(8,.optr 4 0 0 0),(18,sts A),(19,i64 A.length),(20,i64 i)],⟨[⟨3,1,fun _=>planC p,0,false,true,true⟩,⟨2,1,fun _=>fltC f,0,false,true,true⟩,⟨1,1,fun _=>[.omap 0],0,false,false,true⟩,⟨2,A.length,fun i=>stC (A.getD i (0,0)),0,false,true,false⟩,⟨1,1,fun _=>[.oslice 3 0 0 A.length none],0,false,false,true⟩],[⟨.agg [.int .i64,.int .i64],4,hasM fun x=>decide (x ∈ M),fun v=>vb (hasM (fun x=>decide (x ∈ M)) v),false,none,0,.top⟩],none,0⟩,[]⟩ ∧ mq = A.length - i,
  ⟨_,_,⟨0,[],by omega,rfl,rfl,rfl⟩,⟨⟨.inl rfl,rfl,rfl,rfl⟩,⟨bA,⟨bA,⟨⟨rfl,rfl,rfl,rfl,nofun,fun _ _=>.inl rfl⟩,⟨bA,⟨⟨rfl,rfl,rfl,rfl,nofun,fun _ _=>.inl rfl⟩,trivial⟩⟩⟩⟩⟩,⟨⟨rfl,rfl,rfl,trivial,.inl rfl,fun v=>And.imp id Or.inl (⟨hasM_nil v,congrArg (fun b=>vb b) (hasM_nil v)⟩)⟩,trivial⟩⟩⟩,?_⟩
 rintro s0 m0 ⟨i,M,hi,hM,rfl,hmeas⟩
 by_cases hlt : i < A.length
 ·conv=>whnf
  (conv=>whnf); refine ifB_dec (fun w1=>?_) (fun w1=>?_)
  ·conv=>whnf
   (conv=>whnf); refine ⟨⟨(by omega),(by omega)⟩,?_⟩
   conv=>whnf
   (conv=>whnf); refine ⟨inK64 (by omega) (by omega),?_⟩
   conv=>whnf
   (conv=>whnf); refine ⟨_,_,⟨⟨i + 1,M ++ [A.getD i (0,0)],by omega,(by rw [hM]; exact (take_st hlt).symm),rfl,rfl⟩,by omega⟩,⟨⟨.inl rfl,rfl,rfl,rfl⟩,⟨bA,⟨bA,⟨⟨rfl,rfl,rfl,rfl,nofun,fun _ _=>.inl rfl⟩,⟨bA,⟨⟨rfl,rfl,rfl,rfl,nofun,fun _ _=>.inl rfl⟩,trivial⟩⟩⟩⟩⟩,⟨⟨rfl,rfl,rfl,trivial,.inl rfl,fun v=>And.imp id Or.inl (⟨(hasM_put M _ v).symm,(hasM_vb M _ v).symm⟩)⟩,trivial⟩⟩⟩
  ·(exfalso; omega)
 ·have hMA : M = A := by rw [hM, List.take_of_length_le (by omega)]
  subst hMA
  clear hM
  conv=>whnf
  (conv=>whnf); refine ifB_dec (fun w1=>?_) (fun w1=>?_)
  ·(exfalso; omega)
  ·conv => whnf
   (conv=>whnf); refine ⟨[],[3,5,7,8],fun st mq=>∃ (K : List S2) (d : Nat) (off : Nat) (len : Nat) (n : Nat),(∀ x ∈ M,x ∈ K) ∧ (∀ x ∈ K,Rc p f M x) ∧ (K.Nodup) ∧ (d + off + len = K.length) ∧ (n = off + len) ∧ (∀ a,a < d + off → ∀ t ∈ succs p f (K.getD a (0,0)),t ∈ K) ∧ st = ⟨[(3,.optr 0 0 0 0),(5,.optr 1 0 0 0),(7,.optr 2 0 0 0),(8,.optr 4 0 0 0)],⟨[⟨3,1,fun _=>planC p,0,false,true,true⟩,⟨2,1,fun _=>fltC f,0,false,true,true⟩,⟨1,1,fun _=>[.omap 0],0,false,false,true⟩,⟨2,n,fun i=>stC (K.getD (d + i) (0,0)),0,false,true,false⟩,⟨1,1,fun _=>[.oslice 3 0 off len none],0,false,false,true⟩],[⟨.agg [.int .i64,.int .i64],4,hasM fun x=>decide (x ∈ K),fun v=>vb (hasM (fun x=>decide (x ∈ K)) v),false,none,0,.top⟩],none,0⟩,[]⟩ ∧ mq = allN p - (d + off),
    ⟨_,_,⟨M,0,0,M.length,M.length,(fun x hx=>hx),(fun x hx=>.base hx),hnd,by omega,by omega,(fun a ha=>absurd ha (Nat.not_lt_zero a)),rfl,rfl⟩,⟨⟨.inl rfl,rfl,rfl,rfl⟩,⟨bA,⟨bA,⟨⟨rfl,rfl,rfl,rfl,nofun,fun _ _=>.inl rfl⟩,⟨⟨rfl,rfl,rfl,rfl,fun _=>rfl,fun i h=>.inl (congrArg (fun k=>stC (M.getD k (0,0))) (Nat.zero_add i))⟩,⟨⟨rfl,rfl,rfl,rfl,nofun,fun _ _=>.inl rfl⟩,trivial⟩⟩⟩⟩⟩,⟨⟨rfl,rfl,rfl,trivial,.inl rfl,fun _=>⟨rfl,.inl rfl⟩⟩,trivial⟩⟩⟩,?_⟩
   rintro s0 m0 ⟨K,d,off,len,n,hK1,hK2,hKn,hj,hn,hc,rfl,hmeas⟩
   have hKo : ∀ x ∈ K,OkS p x := fun x hx=>(hK2 x hx).ok hg hA
   have hKl := states_le hg K hKn hKo
   by_cases hl : 0 < len
   ·have hmem : K.getD (d + (off + 0)) (0, 0) ∈ K := by
     rw [List.getD_eq_getElem?_getD,List.getElem?_eq_getElem (show d + (off + 0) < K.length by omega)]
     exact List.getElem_mem _
    have hs := hKo _ hmem
    have h87 := fun s=>S87 p s f
    have hneed1 : (0 : Int) ≤ 1 ∧ (1 : Int) ≤ len ∧ (off : Int) + len ≤ n := by omega
    have hat := hs.at
    have hxl12 : (stp p (K.getD (d + (off + Int.toNat 0)) (0,0))).exits.length ≤ 12 := hg.few.exits _ hs.k
    have hb3 : Tryz.prog.types[3].bytes = 8 := by kernel_rfl
    have hb41 : Tryz.prog.types[41].bytes = 16 := by kernel_rfl
    by_cases hxl : (stp p (K.getD (d + (off + Int.toNat 0)) (0,0))).exits.length = 0
    ·refine ifB_dec (fun w2=>?_) (fun w2=>?_)
     ·refine ⟨⟨(by omega),(by omega)⟩,?_⟩
      refine ⟨by assumption,?_⟩
      refine .inl ⟨_,_,byX rfl (h87 _),?_⟩
      refine ⟨(by first | rfl | assumption),?_⟩
      refine ⟨_,keep_ok [3,5,7,8,38] _,?_⟩
      refine ⟨by assumption,?_⟩
      refine .inr ?_
      refine ⟨by assumption,?_⟩
      refine ⟨[],[0,1,2,3,18,19,20],fun st mq=>∃ (i : Nat) (L : List S2) (d2 : Nat) (o2 : Nat) (l2 : Nat) (n2 : Nat),(i ≤ (stp p (K.getD (d + (off + Int.toNat 0)) (0,0))).exits.length + 1) ∧ (K.length ≤ L.length) ∧ (∀ x ∈ M,x ∈ L) ∧ (∀ x ∈ L,Rc p f M x) ∧ (L.Nodup) ∧ (d2 + o2 + l2 = L.length) ∧ (n2 = o2 + l2) ∧ (d2 + o2 = d + off + 1) ∧ (∀ a,a < K.length → L.getD a (0,0) = K.getD a (0,0)) ∧ (∀ c,c < i → (succs p f (K.getD (d + (off + Int.toNat 0)) (0,0))).getD c (0,0) ∈ L) ∧ (∀ x ∈ K,x ∈ L) ∧ st = ⟨[(0,.yld 0),(1,.rptr (planC p)),(2,.rptr (stC (K.getD (d + (off + Int.toNat 0)) (0,0)))),(3,.rptr (fltC f)),(18,.oslice 6 0 0 1 (some 1)),(19,i64 (1 : Nat)),(20,i64 i)],⟨[⟨3,1,fun _=>planC p,0,false,true,true⟩,⟨2,1,fun _=>fltC f,0,false,true,true⟩,⟨1,1,fun _=>[.omap 0],0,false,false,true⟩,⟨2,n2,fun i=>stC (L.getD (d2 + i) (0,0)),0,false,true,false⟩,⟨1,1,fun _=>[.oslice 3 0 o2 l2 none],0,false,false,true⟩,⟨2,1,fun _=>stC (K.getD (d + (off + Int.toNat 0)) (0,0)),0,false,true,true⟩,⟨1,1,fun i=>[i64 (cAt p (K.getD (d + (off + Int.toNat 0)) (0,0)) i)],0,false,true,true⟩],[⟨.agg [.int .i64,.int .i64],4,hasM fun x=>decide (x ∈ L),fun v=>vb (hasM (fun x=>decide (x ∈ L)) v),false,none,0,.top⟩],none,1⟩,[(3,.optr 0 0 0 0),(5,.optr 1 0 0 0),(7,.optr 2 0 0 0),(8,.optr 4 0 0 0),(38,.func (.func 112) 0 [.rptr (planC p),.rptr (stC (K.getD (d + (off + Int.toNat 0)) (0,0))),.rptr (fltC f)])]⟩ ∧ mq = (stp p (K.getD (d + (off + Int.toNat 0)) (0,0))).exits.length + 1 - i,
       ⟨_,_,⟨0,K,d,off + Int.toNat 1,((len : Int) - 1).toNat,n,by omega,Nat.le_refl _,hK1,hK2,hKn,by omega,by omega,by omega,(fun a _=>rfl),(fun c hc=>absurd hc (Nat.not_lt_zero c)),(fun x hx=>hx),rfl,rfl⟩,⟨⟨.inl rfl,rfl,rfl,rfl⟩,⟨bA,⟨bA,⟨⟨rfl,rfl,rfl,rfl,nofun,fun _ _=>.inl rfl⟩,⟨bA,⟨⟨rfl,rfl,rfl,rfl,nofun,fun _ _=>.inl rfl⟩,⟨bA,⟨⟨rfl,rfl,rfl,rfl,fun _=>rfl,fun i h=>.inl (cAt_row0 h)⟩,trivial⟩⟩⟩⟩⟩⟩⟩,⟨⟨rfl,rfl,rfl,trivial,.inl rfl,fun _=>⟨rfl,.inl rfl⟩⟩,trivial⟩⟩⟩,?_⟩
      rintro s0 m0 ⟨i,L,d2,o2,l2,n2,hi,g0,g1,g2,g3,g4,g5,g6,g7,g8,g9,rfl,hmeas⟩
      have hLo : ∀ x ∈ L,OkS p x := fun x hx=>(g2 x hx).ok hg hA
      have hLl := states_le hg L g3 hLo
      by_cases hlt2 : i < (stp p (K.getD (d + (off + Int.toNat 0)) (0,0))).exits.length + 1
      ·have h47 := fun c=>S47 p (K.getD (d + (off + Int.toNat 0)) (0,0)) f c hat
       have hsu := succs_at (f := f) hlt2
       have hlt3 : i < (succs p f (K.getD (d + (off + Int.toNat 0)) (0,0))).length := by rw [succs_len]; exact hlt2
       have htm : (turnF p f (K.getD (d + (off + Int.toNat 0)) (0,0)) (cAt p (K.getD (d + (off + Int.toNat 0)) (0,0)) i)).1 ∈ succs p f (K.getD (d + (off + Int.toNat 0)) (0,0)) := by
        rw [← hsu]; exact getD_mem hlt3
       have hT : (turnF p f (K.getD (d + (off + Int.toNat 0)) (0,0)) (cAt p (K.getD (d + (off + Int.toNat 0)) (0,0)) (0 + (i : Int).toNat))).1 = (turnF p f (K.getD (d + (off + Int.toNat 0)) (0,0)) (cAt p (K.getD (d + (off + Int.toNat 0)) (0,0)) i)).1 := by rw [Nat.zero_add]; rfl
       have hneed2 : (l2 + 1) * (Tryz.prog.types[41].bytes + 1) ≤ 1000000000000 := by rw [hb41]; omega
       (conv=>whnf); refine ifB_dec (fun w3=>?_) (fun w3=>?_)
       ·(conv=>whnf); refine ⟨⟨(by omega),(by omega)⟩,?_⟩
        (conv=>whnf); refine .inl ⟨_,_,byX rfl (Sound1.pl (h47 _) rfl),?_⟩
        (conv=>whnf); refine ⟨(by first | rfl | assumption),?_⟩
        (conv=>whnf); refine ifB_not ?_
        (conv=>whnf); refine ifB_intro (fun w4=>?_) (fun w4=>?_)
        ·(conv=>whnf); refine ⟨inK64 (by omega) (by omega),?_⟩
         have hin : (turnF p f (K.getD (d + (off + Int.toNat 0)) (0,0)) (cAt p (K.getD (d + (off + Int.toNat 0)) (0,0)) i)).1 ∈ L := by rw [← hT]; exact of_decide_eq_true w4
         have q8 : ∀ c,c < i + 1 → (succs p f (K.getD (d + (off + Int.toNat 0)) (0,0))).getD c (0,0) ∈ L := fun c hc=>by
          rcases Nat.lt_succ_iff_lt_or_eq.1 hc with h | h
          ·exact g8 c h
          ·rw [h,hsu]; exact hin
         (conv=>whnf); refine ⟨_,_,⟨⟨i + 1,L,d2,o2,l2,n2,by omega,g0,g1,g2,g3,g4,g5,g6,g7,q8,g9,rfl,rfl⟩,by omega⟩,⟨⟨.inl rfl,rfl,rfl,rfl⟩,⟨bA,⟨bA,⟨⟨rfl,rfl,rfl,rfl,nofun,fun _ _=>.inl rfl⟩,⟨bA,⟨⟨rfl,rfl,rfl,rfl,nofun,fun _ _=>.inl rfl⟩,⟨bA,⟨bA,trivial⟩⟩⟩⟩⟩⟩⟩,⟨⟨rfl,rfl,rfl,trivial,.inl rfl,fun _=>⟨rfl,.inl rfl⟩⟩,trivial⟩⟩⟩
        ·(conv=>whnf); refine .inl ?_
         (conv=>whnf); refine ⟨(by show _ * (16 + 1) ≤ _; omega),?_⟩
         (conv=>whnf); refine ⟨inK64 (by omega) (by omega),?_⟩
         have hno : ¬ (turnF p f (K.getD (d + (off + Int.toNat 0)) (0,0)) (cAt p (K.getD (d + (off + Int.toNat 0)) (0,0)) (0 + (i : Int).toNat))).1 ∈ L := of_decide_eq_false w4
         have q0 : K.length ≤ (L ++ [(turnF p f (K.getD (d + (off + Int.toNat 0)) (0,0)) (cAt p (K.getD (d + (off + Int.toNat 0)) (0,0)) (0 + (i : Int).toNat))).1]).length := by rw [List.length_append]; omega
         have q2 : ∀ x ∈ L ++ [(turnF p f (K.getD (d + (off + Int.toNat 0)) (0,0)) (cAt p (K.getD (d + (off + Int.toNat 0)) (0,0)) (0 + (i : Int).toNat))).1],Rc p f M x := fun x hx=>by
          rcases List.mem_append.1 hx with h | h
          ·exact g2 x h
          ·rw [List.mem_singleton.1 h,hT]; exact .step (hK2 _ hmem) htm
         have q3 : (L ++ [(turnF p f (K.getD (d + (off + Int.toNat 0)) (0,0)) (cAt p (K.getD (d + (off + Int.toNat 0)) (0,0)) (0 + (i : Int).toNat))).1]).Nodup := List.nodup_append.2 ⟨g3,by simp,fun a ha b hb e=>hno (by rw [← List.mem_singleton.1 hb,← e]; exact ha)⟩
         have q4 : d2 + o2 + 0 + (l2 + 1) = (L ++ [(turnF p f (K.getD (d + (off + Int.toNat 0)) (0,0)) (cAt p (K.getD (d + (off + Int.toNat 0)) (0,0)) (0 + (i : Int).toNat))).1]).length := by rw [List.length_append,List.length_singleton]; omega
         have q7 : ∀ a,a < K.length → (L ++ [(turnF p f (K.getD (d + (off + Int.toNat 0)) (0,0)) (cAt p (K.getD (d + (off + Int.toNat 0)) (0,0)) (0 + (i : Int).toNat))).1]).getD a (0,0) = K.getD a (0,0) := fun a ha=>by rw [getD_snoc _ (by omega)]; exact g7 a ha
         have q8 : ∀ c,c < i + 1 → (succs p f (K.getD (d + (off + Int.toNat 0)) (0,0))).getD c (0,0) ∈ L ++ [(turnF p f (K.getD (d + (off + Int.toNat 0)) (0,0)) (cAt p (K.getD (d + (off + Int.toNat 0)) (0,0)) (0 + (i : Int).toNat))).1] := fun c hc=>by
          rcases Nat.lt_succ_iff_lt_or_eq.1 hc with h | h
          ·exact List.mem_append_left _ (g8 c h)
          ·rw [h,hsu,← hT]; exact List.mem_append_right _ (.head _)
         (conv=>whnf); refine ⟨_,_,⟨⟨i + 1,L ++ [(turnF p f (K.getD (d + (off + Int.toNat 0)) (0,0)) (cAt p (K.getD (d + (off + Int.toNat 0)) (0,0)) (0 + (i : Int).toNat))).1],d2 + o2,0,l2 + 1,l2 + 1,by omega,q0,(fun x hx=>List.mem_append_left _ (g1 x hx)),q2,q3,q4,by omega,by omega,q7,q8,(fun x hx=>List.mem_append_left _ (g9 x hx)),rfl,rfl⟩,by omega⟩,⟨⟨.inl rfl,rfl,rfl,rfl⟩,⟨bA,⟨bA,⟨⟨rfl,rfl,rfl,rfl,nofun,fun _ _=>.inl rfl⟩,⟨⟨rfl,rfl,rfl,rfl,fun _=>rfl,fun i h=>.inl (q_row g4 _ i h)⟩,⟨⟨rfl,rfl,rfl,rfl,nofun,fun _ _=>.inl rfl⟩,⟨bA,⟨bA,trivial⟩⟩⟩⟩⟩⟩⟩,⟨⟨rfl,rfl,rfl,trivial,.inl rfl,fun v=>And.imp id Or.inl (⟨(hasM_put L _ v).symm,(hasM_vb L _ v).symm⟩)⟩,trivial⟩⟩⟩
       ·(exfalso; omega)
      ·have q8 : ∀ a,a < d2 + o2 → ∀ t ∈ succs p f (L.getD a (0,0)),t ∈ L := fun a ha t ht=>by
        rw [g7 a (by omega)] at ht
        by_cases e : a = d + off
        ·rw [e] at ht
         have ht : t ∈ succs p f (K.getD (d + (off + Int.toNat 0)) (0,0)) := ht
         obtain ⟨c,hlt,hc2⟩ := mem_getD ht
         rw [succs_len] at hlt
         rw [← hc2]; exact g8 c (by omega)
        ·exact g9 _ (hc a (by omega) t ht)
       (conv=>whnf); refine ifB_dec (fun w3=>?_) (fun w3=>?_)
       ·(exfalso; omega)
       ·(conv=>whnf); refine ⟨_,_,⟨⟨L,d2,o2,l2,n2,g1,g2,g3,g4,g5,q8,rfl,rfl⟩,by omega⟩,⟨⟨.inl rfl,rfl,rfl,rfl⟩,⟨bA,⟨bA,⟨⟨rfl,rfl,rfl,rfl,nofun,fun _ _=>.inl rfl⟩,⟨bA,⟨⟨rfl,rfl,rfl,rfl,nofun,fun _ _=>.inl rfl⟩,trivial⟩⟩⟩⟩⟩,⟨⟨rfl,rfl,rfl,trivial,.inl rfl,fun _=>⟨rfl,.inl rfl⟩⟩,trivial⟩⟩⟩
     ·(exfalso; omega)
    ·have hneed3 : (1 < 1 + (p.steps.getD (K.getD (d + (off + Int.toNat 0)) (0, 0)).1.toNat stp0).exits.length ∨ (p.steps.getD (K.getD (d + (off + Int.toNat 0)) (0, 0)).1.toNat stp0).exits.length = 0 ∧ 1 = 0) ∧ (1 + (p.steps.getD (K.getD (d + (off + Int.toNat 0)) (0, 0)).1.toNat stp0).exits.length) * (Tryz.prog.types[3].bytes + 1) ≤ 1000000000000 := by
      have h : ¬ (p.steps.getD (K.getD (d + (off + Int.toNat 0)) (0,0)).1.toNat stp0).exits.length = 0 := hxl
      have h2 : (p.steps.getD (K.getD (d + (off + Int.toNat 0)) (0,0)).1.toNat stp0).exits.length ≤ 12 := hxl12
      rw [hb3]
      omega
     conv=>whnf
     conv=>whnf
     (conv=>whnf); refine ifB_dec (fun w2=>?_) (fun w2=>?_)
     ·conv=>whnf
      conv=>whnf
      (conv=>whnf); refine ⟨⟨(by omega),(by omega)⟩,?_⟩
      conv=>whnf
      conv=>whnf
      (conv=>whnf); refine ⟨by assumption,?_⟩
      conv=>whnf
      conv=>whnf
      (conv=>whnf); refine .inl ⟨_,_,byX rfl (h87 _),?_⟩
      conv=>whnf
      conv=>whnf
      (conv=>whnf); refine ⟨(by first | rfl | assumption),?_⟩
      refine ⟨_,keep_ok [3,5,7,8,38] _,?_⟩
      conv=>whnf
      conv=>whnf
      (conv=>whnf); refine ⟨by assumption,?_⟩
      conv=>whnf
      conv=>whnf
      (conv=>whnf); refine .inl ?_
      conv=>whnf
      conv=>whnf
      (conv=>whnf); refine ⟨by assumption,?_⟩
      conv=>whnf
      conv=>whnf
      (conv=>whnf); refine ⟨[],[0,1,2,3,18,19,20],fun st mq=>∃ (i : Nat) (L : List S2) (d2 : Nat) (o2 : Nat) (l2 : Nat) (n2 : Nat) (F6 : Nat → List AV),(i ≤ (stp p (K.getD (d + (off + Int.toNat 0)) (0,0))).exits.length + 1) ∧ (K.length ≤ L.length) ∧ (∀ x ∈ M,x ∈ L) ∧ (∀ x ∈ L,Rc p f M x) ∧ (L.Nodup) ∧ (d2 + o2 + l2 = L.length) ∧ (n2 = o2 + l2) ∧ (d2 + o2 = d + off + 1) ∧ (∀ a,a < K.length → L.getD a (0,0) = K.getD a (0,0)) ∧ (∀ c,c < i → (succs p f (K.getD (d + (off + Int.toNat 0)) (0,0))).getD c (0,0) ∈ L) ∧ (∀ x ∈ K,x ∈ L) ∧ st = ⟨[(0,.yld 0),(1,.rptr (planC p)),(2,.rptr (stC (K.getD (d + (off + Int.toNat 0)) (0,0)))),(3,.rptr (fltC f)),(18,.oslice 7 0 0 (1 + (stp p (K.getD (d + (off + Int.toNat 0)) (0,0))).exits.length) none),(19,i64 ((1 + (stp p (K.getD (d + (off + Int.toNat 0)) (0,0))).exits.length : Nat) : Int)),(20,i64 i)],⟨[⟨3,1,fun _=>planC p,0,false,true,true⟩,⟨2,1,fun _=>fltC f,0,false,true,true⟩,⟨1,1,fun _=>[.omap 0],0,false,false,true⟩,⟨2,n2,fun i=>stC (L.getD (d2 + i) (0,0)),0,false,true,false⟩,⟨1,1,fun _=>[.oslice 3 0 o2 l2 none],0,false,false,true⟩,⟨2,1,fun _=>stC (K.getD (d + (off + Int.toNat 0)) (0,0)),0,false,true,true⟩,⟨1,1,F6,0,false,true,false⟩,⟨1,1 + (stp p (K.getD (d + (off + Int.toNat 0)) (0,0))).exits.length,fun i=>[i64 (cAt p (K.getD (d + (off + Int.toNat 0)) (0,0)) i)],0,false,true,false⟩],[⟨.agg [.int .i64,.int .i64],4,hasM fun x=>decide (x ∈ L),fun v=>vb (hasM (fun x=>decide (x ∈ L)) v),false,none,0,.top⟩],none,1⟩,[(3,.optr 0 0 0 0),(5,.optr 1 0 0 0),(7,.optr 2 0 0 0),(8,.optr 4 0 0 0),(38,.func (.func 112) 0 [.rptr (planC p),.rptr (stC (K.getD (d + (off + Int.toNat 0)) (0,0))),.rptr (fltC f)])]⟩ ∧ mq = (stp p (K.getD (d + (off + Int.toNat 0)) (0,0))).exits.length + 1 - i,
       ⟨_,_,⟨0,K,d,off + Int.toNat 1,((len : Int) - 1).toNat,n,_,by omega,Nat.le_refl _,hK1,hK2,hKn,by omega,by omega,by omega,(fun a _=>rfl),(fun c hc=>absurd hc (Nat.not_lt_zero c)),(fun x hx=>hx),rfl,rfl⟩,⟨⟨.inl rfl,rfl,rfl,rfl⟩,⟨bA,⟨bA,⟨⟨rfl,rfl,rfl,rfl,nofun,fun _ _=>.inl rfl⟩,⟨bA,⟨⟨rfl,rfl,rfl,rfl,nofun,fun _ _=>.inl rfl⟩,⟨bA,⟨bA,⟨⟨rfl,rfl,rfl,rfl,fun _=>rfl,fun i h=>.inl (cAt_row h)⟩,trivial⟩⟩⟩⟩⟩⟩⟩⟩,⟨⟨rfl,rfl,rfl,trivial,.inl rfl,fun _=>⟨rfl,.inl rfl⟩⟩,trivial⟩⟩⟩,?_⟩
      rintro s0 m0 ⟨i,L,d2,o2,l2,n2,F6,hi,g0,g1,g2,g3,g4,g5,g6,g7,g8,g9,rfl,hmeas⟩
      have hLo : ∀ x ∈ L,OkS p x := fun x hx=>(g2 x hx).ok hg hA
      have hLl := states_le hg L g3 hLo
      by_cases hlt2 : i < (stp p (K.getD (d + (off + Int.toNat 0)) (0,0))).exits.length + 1
      ·have h47 := fun c=>S47 p (K.getD (d + (off + Int.toNat 0)) (0,0)) f c hat
       have hsu := succs_at (f := f) hlt2
       have hlt3 : i < (succs p f (K.getD (d + (off + Int.toNat 0)) (0,0))).length := by rw [succs_len]; exact hlt2
       have htm : (turnF p f (K.getD (d + (off + Int.toNat 0)) (0,0)) (cAt p (K.getD (d + (off + Int.toNat 0)) (0,0)) i)).1 ∈ succs p f (K.getD (d + (off + Int.toNat 0)) (0,0)) := by
        rw [← hsu]; exact getD_mem hlt3
       have hT : (turnF p f (K.getD (d + (off + Int.toNat 0)) (0,0)) (cAt p (K.getD (d + (off + Int.toNat 0)) (0,0)) (0 + (i : Int).toNat))).1 = (turnF p f (K.getD (d + (off + Int.toNat 0)) (0,0)) (cAt p (K.getD (d + (off + Int.toNat 0)) (0,0)) i)).1 := by rw [Nat.zero_add]; rfl
       have hneed2 : (l2 + 1) * (Tryz.prog.types[41].bytes + 1) ≤ 1000000000000 := by rw [hb41]; omega
       conv=>whnf
       conv=>whnf
       conv=>whnf
       (conv=>whnf); refine ifB_dec (fun w3=>?_) (fun w3=>?_)
       ·conv=>whnf
        conv=>whnf
        conv=>whnf
        (conv=>whnf); refine ⟨⟨(by omega),(by omega)⟩,?_⟩
        conv=>whnf
        conv=>whnf
        conv=>whnf
        (conv=>whnf); refine .inl ⟨_,_,byX rfl (Sound1.pl (h47 _) rfl),?_⟩
        conv=>whnf
        conv=>whnf
        conv=>whnf
        (conv=>whnf); refine ⟨(by first | rfl | assumption),?_⟩
        conv=>whnf
        conv=>whnf
        conv=>whnf
        (conv=>whnf); refine ifB_not ?_
        conv=>whnf
        conv=>whnf
        conv=>whnf
        (conv=>whnf); refine ifB_intro (fun w4=>?_) (fun w4=>?_)
        ·conv=>whnf
         conv=>whnf
         conv=>whnf
         (conv=>whnf); refine ⟨inK64 (by omega) (by omega),?_⟩
         have hin : (turnF p f (K.getD (d + (off + Int.toNat 0)) (0,0)) (cAt p (K.getD (d + (off + Int.toNat 0)) (0,0)) i)).1 ∈ L := by rw [← hT]; exact of_decide_eq_true w4
         have q8 : ∀ c,c < i + 1 → (succs p f (K.getD (d + (off + Int.toNat 0)) (0,0))).getD c (0,0) ∈ L := fun c hc=>by
          rcases Nat.lt_succ_iff_lt_or_eq.1 hc with h | h
          ·exact g8 c h
          ·rw [h,hsu]; exact hin
         conv=>whnf
         conv=>whnf
         conv=>whnf
         (conv=>whnf); refine ⟨_,_,⟨⟨i + 1,L,d2,o2,l2,n2,_,by omega,g0,g1,g2,g3,g4,g5,g6,g7,q8,g9,rfl,rfl⟩,by omega⟩,⟨⟨.inl rfl,rfl,rfl,rfl⟩,⟨bA,⟨bA,⟨⟨rfl,rfl,rfl,rfl,nofun,fun _ _=>.inl rfl⟩,⟨bA,⟨⟨rfl,rfl,rfl,rfl,nofun,fun _ _=>.inl rfl⟩,⟨bA,⟨bA,⟨bA,trivial⟩⟩⟩⟩⟩⟩⟩⟩,⟨⟨rfl,rfl,rfl,trivial,.inl rfl,fun _=>⟨rfl,.inl rfl⟩⟩,trivial⟩⟩⟩
        ·conv=>whnf
         conv=>whnf
         conv=>whnf
         (conv=>whnf); refine .inl ?_
         conv=>whnf
         conv=>whnf
         conv=>whnf
         (conv=>whnf); refine ⟨(by show _ * (16 + 1) ≤ _; omega),?_⟩
         conv=>whnf
         conv=>whnf
         conv=>whnf
         (conv=>whnf); refine ⟨inK64 (by omega) (by omega),?_⟩
         have hno : ¬ (turnF p f (K.getD (d + (off + Int.toNat 0)) (0,0)) (cAt p (K.getD (d + (off + Int.toNat 0)) (0,0)) (0 + (i : Int).toNat))).1 ∈ L := of_decide_eq_false w4
         have q0 : K.length ≤ (L ++ [(turnF p f (K.getD (d + (off + Int.toNat 0)) (0,0)) (cAt p (K.getD (d + (off + Int.toNat 0)) (0,0)) (0 + (i : Int).toNat))).1]).length := by rw [List.length_append]; omega
         have q2 : ∀ x ∈ L ++ [(turnF p f (K.getD (d + (off + Int.toNat 0)) (0,0)) (cAt p (K.getD (d + (off + Int.toNat 0)) (0,0)) (0 + (i : Int).toNat))).1],Rc p f M x := fun x hx=>by
          rcases List.mem_append.1 hx with h | h
          ·exact g2 x h
          ·rw [List.mem_singleton.1 h,hT]; exact .step (hK2 _ hmem) htm
         have q3 : (L ++ [(turnF p f (K.getD (d + (off + Int.toNat 0)) (0,0)) (cAt p (K.getD (d + (off + Int.toNat 0)) (0,0)) (0 + (i : Int).toNat))).1]).Nodup := List.nodup_append.2 ⟨g3,by simp,fun a ha b hb e=>hno (by rw [← List.mem_singleton.1 hb,← e]; exact ha)⟩
         have q4 : d2 + o2 + 0 + (l2 + 1) = (L ++ [(turnF p f (K.getD (d + (off + Int.toNat 0)) (0,0)) (cAt p (K.getD (d + (off + Int.toNat 0)) (0,0)) (0 + (i : Int).toNat))).1]).length := by rw [List.length_append,List.length_singleton]; omega
         have q7 : ∀ a,a < K.length → (L ++ [(turnF p f (K.getD (d + (off + Int.toNat 0)) (0,0)) (cAt p (K.getD (d + (off + Int.toNat 0)) (0,0)) (0 + (i : Int).toNat))).1]).getD a (0,0) = K.getD a (0,0) := fun a ha=>by rw [getD_snoc _ (by omega)]; exact g7 a ha
         have q8 : ∀ c,c < i + 1 → (succs p f (K.getD (d + (off + Int.toNat 0)) (0,0))).getD c (0,0) ∈ L ++ [(turnF p f (K.getD (d + (off + Int.toNat 0)) (0,0)) (cAt p (K.getD (d + (off + Int.toNat 0)) (0,0)) (0 + (i : Int).toNat))).1] := fun c hc=>by
          rcases Nat.lt_succ_iff_lt_or_eq.1 hc with h | h
          ·exact List.mem_append_left _ (g8 c h)
          ·rw [h,hsu,← hT]; exact List.mem_append_right _ (.head _)
         conv=>whnf
         conv=>whnf
         conv=>whnf
         (conv=>whnf); refine ⟨_,_,⟨⟨i + 1,L ++ [(turnF p f (K.getD (d + (off + Int.toNat 0)) (0,0)) (cAt p (K.getD (d + (off + Int.toNat 0)) (0,0)) (0 + (i : Int).toNat))).1],d2 + o2,0,l2 + 1,l2 + 1,_,by omega,q0,(fun x hx=>List.mem_append_left _ (g1 x hx)),q2,q3,q4,by omega,by omega,q7,q8,(fun x hx=>List.mem_append_left _ (g9 x hx)),rfl,rfl⟩,by omega⟩,⟨⟨.inl rfl,rfl,rfl,rfl⟩,⟨bA,⟨bA,⟨⟨rfl,rfl,rfl,rfl,nofun,fun _ _=>.inl rfl⟩,⟨⟨rfl,rfl,rfl,rfl,fun _=>rfl,fun i h=>.inl (q_row g4 _ i h)⟩,⟨⟨rfl,rfl,rfl,rfl,nofun,fun _ _=>.inl rfl⟩,⟨bA,⟨bA,⟨bA,trivial⟩⟩⟩⟩⟩⟩⟩⟩,⟨⟨rfl,rfl,rfl,trivial,.inl rfl,fun v=>And.imp id Or.inl (⟨(hasM_put L _ v).symm,(hasM_vb L _ v).symm⟩)⟩,trivial⟩⟩⟩
       ·(exfalso; omega)
      ·have q8 : ∀ a,a < d2 + o2 → ∀ t ∈ succs p f (L.getD a (0,0)),t ∈ L := fun a ha t ht=>by
        rw [g7 a (by omega)] at ht
        by_cases e : a = d + off
        ·rw [e] at ht
         have ht : t ∈ succs p f (K.getD (d + (off + Int.toNat 0)) (0,0)) := ht
         obtain ⟨c,hlt,hc2⟩ := mem_getD ht
         rw [succs_len] at hlt
         rw [← hc2]; exact g8 c (by omega)
        ·exact g9 _ (hc a (by omega) t ht)
       conv=>whnf
       conv=>whnf
       conv=>whnf
       (conv=>whnf); refine ifB_dec (fun w3=>?_) (fun w3=>?_)
       ·(exfalso; omega)
       ·conv=>whnf
        conv=>whnf
        conv=>whnf
        (conv=>whnf); refine ⟨_,_,⟨⟨L,d2,o2,l2,n2,g1,g2,g3,g4,g5,q8,rfl,rfl⟩,by omega⟩,⟨⟨.inl rfl,rfl,rfl,rfl⟩,⟨bA,⟨bA,⟨⟨rfl,rfl,rfl,rfl,nofun,fun _ _=>.inl rfl⟩,⟨bA,⟨⟨rfl,rfl,rfl,rfl,nofun,fun _ _=>.inl rfl⟩,trivial⟩⟩⟩⟩⟩,⟨⟨rfl,rfl,rfl,trivial,.inl rfl,fun _=>⟨rfl,.inl rfl⟩⟩,trivial⟩⟩⟩
     ·(exfalso; omega)
   ·have hcl : ∀ s ∈ K,∀ t ∈ succs p f s,t ∈ K := fun s hs t ht=>by
     obtain ⟨a,hlt,ha⟩ := mem_getD hs
     exact hc a (by omega) t (by rw [ha]; exact ht)
    have hKp : 0 < K.length := by
     obtain ⟨x,hx⟩ := List.exists_mem_of_length_pos h0
     exact List.length_pos_of_mem (hK1 x hx)
    have hb41 : Tryz.prog.types[41].bytes = 16 := by kernel_rfl
    conv=>whnf
    conv=>whnf
    (conv=>whnf); refine ifB_dec (fun w2=>?_) (fun w2=>?_)
    ·(exfalso; omega)
    ·intro w3
     conv=>whnf
     conv=>whnf
     (conv=>whnf); refine ⟨[.slot 13 2],[13,51],fun st mq=>∃ (nl : Nat) (sn : Value → Bool) (D : List S2) (m : Nat) (F0 : Nat → List AV) (F1 : Nat → List AV) (F2 : Nat → List AV) (F3 : Nat → List AV) (F4 : Nat → List AV),(D.length = m) ∧ (∀ e ∈ D,e ∈ K) ∧ (D.Nodup) ∧ (∀ s,sn (keyV s) = true ↔ s ∈ D) ∧ st = ⟨[(13,.oslice 5 0 0 m none),(51,.oiter 1)],⟨[⟨3,1,F0,0,false,true,false⟩,⟨2,1,F1,0,false,true,false⟩,⟨1,1,F2,0,false,false,false⟩,⟨2,n,F3,0,false,true,false⟩,⟨1,1,F4,0,false,false,false⟩,⟨2,m,fun i=>stC (D.getD i (0,0)),0,false,true,false⟩],[⟨.agg [.int .i64,.int .i64],4,hasM fun x=>decide (x ∈ K),fun v=>vb (hasM (fun x=>decide (x ∈ K)) v),true,none,0,.top⟩,⟨.agg [.int .i64,.int .i64],4,hasM fun x=>decide (x ∈ K),fun v=>vb (hasM (fun x=>decide (x ∈ K)) v),false,some sn,nl,.top⟩],none,0⟩,[]⟩ ∧ mq = nl,
      ⟨_,_,⟨w3,fun _=>false,[],0,_,_,_,_,_,rfl,(fun e he=>by cases he),(by simp),(fun s=>by simp),rfl,rfl⟩,⟨⟨.inl rfl,rfl,rfl,rfl⟩,⟨bA,⟨bA,⟨⟨rfl,rfl,rfl,rfl,nofun,fun _ _=>.inl rfl⟩,⟨bA,⟨⟨rfl,rfl,rfl,rfl,nofun,fun _ _=>.inl rfl⟩,⟨⟨rfl,rfl,rfl,rfl,fun _=>rfl,fun i h=>.inl (absurd h (Nat.not_lt_zero i))⟩,trivial⟩⟩⟩⟩⟩⟩,⟨⟨rfl,rfl,rfl,trivial,.inl rfl,fun _=>⟨rfl,.inl rfl⟩⟩,⟨⟨rfl,rfl,rfl,⟨rfl,fun _=>rfl⟩,.inr rfl,fun _=>⟨rfl,.inl rfl⟩⟩,trivial⟩⟩⟩⟩,?_⟩
     rintro s0 m0 ⟨nl,sn,D,m,F0,F1,F2,F3,F4,hm,hDK,hDn,hs2,rfl,hmeas⟩
     have hDl := states_le hg D hDn (fun x hx=>hKo x (hDK x hx))
     have hneed2 : (m + 1) * (Tryz.prog.types[41].bytes + 1) ≤ 1000000000000 := by rw [hb41]; omega
     refine ⟨fun w4=>?_,?_⟩
     ·have hDK2 : ∀ x,x ∈ D ↔ x ∈ K := fun x=>⟨hDK x,fun hx=>(hs2 x).1 (w4 (keyV x) rfl (decide_eq_true hx))⟩
      have hmp : 0 < m := by
       rw [← hm]
       obtain ⟨x,hx⟩ := List.exists_mem_of_length_pos hKp
       exact List.length_pos_of_mem ((hDK2 x).2 hx)
      obtain ⟨R,r1,r2,h107⟩ := S107 D (by omega)
      have hE : R = spL p f M := spL_of hg hA hK1 hK2 hcl hDn hDK2 r1 r2
      have hRl := r1.length_eq
      rw [hm] at h107 hRl
      conv=>whnf
      conv=>whnf
      conv=>whnf
      (conv=>whnf); refine .inr (.inr (.inl (inM _ rfl rfl (by omega) (show 0 + m ≤ m by omega) (byM rfl h107) ?_)))
      conv=>whnf
      conv=>whnf
      conv=>whnf
      conv=>whnf
      (conv=>whnf); refine ⟨?_,nofun⟩
      rw [← hE]
      exact ⟨rfl,hRl.symm,fun i hi=>(srt_row (A := stC (D.getD i (0,0))) (B := stC (D.getD i (0,0))) hi).symm⟩
     ·intro a b h1 h2 n hn
      have h1 : (a,b) ∈ K := of_decide_eq_true h1
      have h2 : ¬ (a,b) ∈ D := fun h=>by
       have := (hs2 (a,b)).2 h
       rw [show sn (keyV (a,b)) = false from h2] at this
       cases this
      have hn : nl = n + 1 := hn
      conv=>whnf
      conv=>whnf
      conv=>whnf
      conv=>whnf
      (conv=>whnf); refine .inl ?_
      conv=>whnf
      conv=>whnf
      conv=>whnf
      conv=>whnf
      (conv=>whnf); refine ⟨(by show _ * (16 + 1) ≤ _; omega),?_⟩
      conv=>whnf
      conv=>whnf
      conv=>whnf
      conv=>whnf
      (conv=>whnf); refine ⟨_,_,⟨⟨n,fun v=>Bool.or (sn v) (opEv.keyEq v (keyV (a,b))),D ++ [(a,b)],m + 1,_,_,_,_,_,(by rw [List.length_append,hm]; rfl),(fun e he=>(List.mem_append.1 he).elim (hDK e) fun h=>by rw [List.mem_singleton.1 h]; exact h1),(List.nodup_append.2 ⟨hDn,by simp,fun x hx y hy e=>h2 (by rw [← List.mem_singleton.1 hy,← e]; exact hx)⟩),(seen_snoc hs2),rfl,rfl⟩,by omega⟩,⟨⟨.inl rfl,rfl,rfl,rfl⟩,⟨bA,⟨bA,⟨⟨rfl,rfl,rfl,rfl,nofun,fun _ _=>.inl rfl⟩,⟨bA,⟨⟨rfl,rfl,rfl,rfl,nofun,fun _ _=>.inl rfl⟩,⟨⟨rfl,rfl,rfl,rfl,fun _=>rfl,fun i h=>.inl (sts_row hm _ i h)⟩,trivial⟩⟩⟩⟩⟩⟩,⟨⟨rfl,rfl,rfl,trivial,.inl rfl,fun _=>⟨rfl,.inl rfl⟩⟩,⟨⟨rfl,rfl,rfl,⟨rfl,fun _=>rfl⟩,.inr rfl,fun _=>⟨rfl,.inl rfl⟩⟩,trivial⟩⟩⟩⟩
end Go.Tr

/- Contracts of chapter 7: what is reached, the reference. Conditions: none. -/
-- seat YtinfmponjglalaaGreatDoor
namespace Go.Tr
open Go Go.Proofs
set_option maxRecDepth 20000
set_option maxHeartbeats 8000000

theorem rowM (B : Nat → Bool) (k i : Nat) : [vb (setB B k i)] = bif Nat.beq i (0 + k) then splice [vb (B i)] 0 [vb true] else [vb (B i)] := by
 unfold setB
 rw [Nat.zero_add]
 cases e : Nat.beq i k with
 | true=>rw [if_pos (Nat.eq_of_beq_eq_true e)]; rfl
 | false=>rw [if_neg (Nat.ne_of_beq_eq_false e)]; rfl
theorem S41w (p : Pln) (hg : Good p) : SP 41 [planA p] (i64 (wN p : Int)) false := by
 have h := S41 p (by have := hg.n; omega)
 rw [show shlI .i64 1 (p.sig.length : Int) = (wN p : Int) from pwI (by have := hg.n; omega)] at h
 exact h
theorem ix_toNat {p : Pln} (hg : Good p) {t : S2} (h : OkS p t) : (t.1 * (wN p : Int) + t.2).toNat = ixN p t ∧ 0 ≤ t.1 * (wN p : Int) + t.2 ∧ t.1 * (wN p : Int) + t.2 < ((nN p : Nat) : Int) := by
 have hc := h.co hg
 have hl := ix_lt hg h
 have e : t.1 * (wN p : Int) + t.2 = ((ixN p t : Nat) : Int) := by
  unfold ixN
  rw [Int.natCast_add,Int.natCast_mul,Int.toNat_of_nonneg hc.1,Int.toNat_of_nonneg hc.2.2.1]
 rw [e]
 exact ⟨rfl,Int.natCast_nonneg _,Int.ofNat_lt.2 hl⟩
theorem ix_in {p : Pln} (hg : Good p) {t : S2} (h : OkS p t) : inK .i64 (t.1 * (wN p : Int)) ∧ inK .i64 (t.1 * (wN p : Int) + t.2) := by
 obtain ⟨_,h2,h3⟩ := ix_toNat hg h
 have hc := h.co hg
 have hN := nN_le hg
 have h4 : 0 ≤ t.1 * (wN p : Int) := Int.mul_nonneg hc.1 (Int.natCast_nonneg _)
 generalize t.1 * (wN p : Int) = q at *
 exact ⟨inK64 (by omega) (by omega),inK64 (by omega) (by omega)⟩
theorem stN_div (p : Pln) (i : Nat) : stN p i = ((i : Int).tdiv (wN p : Int),(i : Int).tmod (wN p : Int)) := rfl
theorem div_ok (p : Pln) {i : Nat} (h : i ≤ 1000000) : (wN p : Int) ≠ 0 ∧ inK .i64 ((i : Int).tdiv (wN p : Int)) := by
 have h1 := wN_pos p
 have h2 : i / wN p ≤ i := Nat.div_le_self _ _
 refine ⟨by omega,?_⟩
 show inK .i64 ((i / wN p : Nat) : Int)
 generalize i / wN p = q at h2
 exact inK64 (by omega) (by omega)
theorem mk_close {p : Pln} {g : Int × Bool} {D : Nat → Bool} {i n : Nat} (hn : n = (succs p g (stN p i)).length) (h : ∀ c,c < n → D (ixN p ((succs p g (stN p i)).getD c (0,0))) = true) : ∀ t ∈ succs p g (stN p i),D (ixN p t) = true := fun t ht=>by
  obtain ⟨c,h1,h2⟩ := mem_getD ht
  rw [← h2]; exact h c (by omega)
set_option maxHeartbeats 8000000 in
theorem S13 (p : Pln) (hg : Good p) (f : Int × Bool) (hf : OkF p f) (hf2 : f.1 < 0 → f = noF) : SP 13 [planA p, ftA f] (sts (reachL p f)) false := by
 have h41 := S41w p hg
 have h17 := S17
 have hN := nN_le hg
 have hNi : (p.steps.length : Int) * (wN p : Int) = ((nN p : Nat) : Int) := (Int.natCast_mul _ _).symm
 have hNe : ((p.steps.length : Int) * (wN p : Int)).toNat = nN p := by rw [hNi]; rfl
 have hb4 : Tryz.prog.types[4].bytes = 1 := by kernel_rfl
 have hs0 := start_ok hg _ (.head _)
 have hsc := hs0.co hg
 have hsx : ixN p ((0 : Int),p.start) = p.start.toNat := by unfold ixN; simp
 have hsl := ix_lt hg hs0
 have hidx0 : (0 : Int) ≤ p.start ∧ p.start < ((((p.steps.length : Int) * (wN p : Int)).toNat : Nat) : Int) := ⟨hsc.2.2.1,by rw [hNe]; omega⟩
 have hno : OkF p noF := ⟨Int.le_refl _,by show (-1 : Int) < _; omega⟩
 refine sound (d := 2) tok2 mixed2 Tryz.func13 (by kernel_rfl) (by kernel_rfl) ?_
 (conv=>whnf); refine ⟨[],by kernel_rfl,?_⟩
 (conv=>whnf); refine .inl ⟨_,_,byX rfl (Sound1.pl (h41) rfl),?_⟩
 (conv=>whnf); refine ⟨inK64 (by omega) (by omega),?_⟩
 (conv=>whnf); refine ⟨⟨(by omega),⟨(by omega),⟨(by omega),(by show _ * ((1 : Nat) : Int) ≤ _; omega)⟩⟩⟩,?_⟩
 (conv=>whnf); refine ⟨⟨(by omega),(by omega)⟩,?_⟩
 refine ⟨_,fun _ _=>rfl,?_⟩
 (conv=>whnf); refine ⟨[(3,1000001)],by kernel_rfl,?_⟩
 (conv=>whnf); refine .inl ⟨_,_,byX rfl (Sound1.pl (h17) rfl),?_⟩
 (conv=>whnf); refine .inr (.inl ⟨[],?_⟩)
 (conv=>whnf); refine ⟨[.forget [0,1,4,8,9,10,11,12,13,14,15,16,17,18,19,20,21]],[1,3,5,6],fun st mq=>∃ (B : Nat → Bool) (ag : Bool),(∀ x ∈ [((0 : Int),p.start)],B (ixN p x) = true) ∧ (∀ i,i < nN p → B i = true → Rc p noF [((0 : Int),p.start)] (stN p i)) ∧ (ag = false → ∀ i,i < nN p → B i = true → ∀ t ∈ succs p noF (stN p i),B (ixN p t) = true) ∧ st = ⟨[(1,.oslice 2 0 0 ((p.steps.length : Int) * (wN p : Int)).toNat (some ((p.steps.length : Int) * (wN p : Int)).toNat)),(3,.optr 3 0 0 0),(5,.optr 4 0 0 0),(6,vb ag)],⟨[⟨3,1,fun _=>planC p,0,false,true,true⟩,⟨2,1,fun _=>fltC f,0,false,true,true⟩,⟨1,((p.steps.length : Int) * (wN p : Int)).toNat,fun i=>[vb (B i)],0,false,true,false⟩,⟨3,1,fun _=>planC p,0,false,true,true⟩,⟨2,1,fun _=>fltC noF,0,false,true,true⟩],[],none,0⟩,[(5,.oslice 2 0 0 ((p.steps.length : Int) * (wN p : Int)).toNat (some ((p.steps.length : Int) * (wN p : Int)).toNat)),(3,.optr 1 0 0 0),(2,.optr 0 0 0 0)]⟩ ∧ mq = offN B (nN p) + (if ag then 1 else 0),
  ⟨_,_,⟨setB (fun _=>false) p.start.toNat,true,(fun x hx=>by rw [List.mem_singleton.1 hx,hsx]; unfold setB; rw [if_pos rfl]),(fun i hi h=>by unfold setB at h; split at h; (rename_i e; rw [e,← hsx,st_ix hg hs0]; exact .base (.head _)); cases h),(fun h=>by cases h),rfl,rfl⟩,⟨⟨.inl rfl,rfl,rfl,rfl⟩,⟨bA,⟨bA,⟨⟨rfl,rfl,rfl,rfl,fun _=>rfl,fun i h=>.inl (rowM (fun _=>false) _ i)⟩,⟨bA,⟨bA,trivial⟩⟩⟩⟩⟩,trivial⟩⟩,?_⟩
 rintro s0 m0 ⟨B,ag,b1,b2,b3,rfl,hmeas⟩
 cases ag with
 | true =>
  have hm1 : _ = offN B (nN p) + 1 := hmeas
  conv=>whnf
  (conv=>whnf); refine ⟨[],[1,3,5,6,7],fun st mq=>∃ (i : Nat) (C : Nat → Bool) (a2 : Bool),(i ≤ nN p) ∧ (∀ j,j < nN p → B j = true → C j = true) ∧ (∀ j,j < nN p → C j = true → Rc p noF [((0 : Int),p.start)] (stN p j)) ∧ (a2 = false → C = B ∧ ∀ j,j < i → C j = true → ∀ t ∈ succs p noF (stN p j),C (ixN p t) = true) ∧ (a2 = true → ∃ j,j < nN p ∧ B j = false ∧ C j = true) ∧ st = ⟨[(1,.oslice 2 0 0 ((p.steps.length : Int) * (wN p : Int)).toNat (some ((p.steps.length : Int) * (wN p : Int)).toNat)),(3,.optr 3 0 0 0),(5,.optr 4 0 0 0),(6,vb a2),(7,i64 i)],⟨[⟨3,1,fun _=>planC p,0,false,true,true⟩,⟨2,1,fun _=>fltC f,0,false,true,true⟩,⟨1,((p.steps.length : Int) * (wN p : Int)).toNat,fun i=>[vb (C i)],0,false,true,false⟩,⟨3,1,fun _=>planC p,0,false,true,true⟩,⟨2,1,fun _=>fltC noF,0,false,true,true⟩],[],none,0⟩,[(5,.oslice 2 0 0 ((p.steps.length : Int) * (wN p : Int)).toNat (some ((p.steps.length : Int) * (wN p : Int)).toNat)),(3,.optr 1 0 0 0),(2,.optr 0 0 0 0)]⟩ ∧ mq = nN p - i,
   ⟨_,_,⟨0,B,false,by omega,(fun j _ h=>h),b2,(fun _=>⟨rfl,fun j h=>absurd h (Nat.not_lt_zero j)⟩),(fun h=>by cases h),rfl,rfl⟩,⟨⟨.inl rfl,rfl,rfl,rfl⟩,⟨bA,⟨bA,⟨bA,⟨bA,⟨bA,trivial⟩⟩⟩⟩⟩,trivial⟩⟩,?_⟩
  rintro s0 m0 ⟨i,C,a2,c0,c1,c2,c3,c4,rfl,hmeas⟩
  by_cases hlt : i < nN p
  ·have hltZ : (i : Int) < ((((p.steps.length : Int) * (wN p : Int)).toNat : Nat) : Int) := by rw [hNe]; omega
   have hidx : (0 : Int) ≤ (i : Int) ∧ (i : Int) < ((((p.steps.length : Int) * (wN p : Int)).toNat : Nat) : Int) := ⟨by omega,hltZ⟩
   cases hC : C i with
   | false =>
    have hC2 : C (0 + (i : Int).toNat) = false := by rw [Nat.zero_add]; exact hC
    conv=>whnf
    conv=>whnf
    (conv=>whnf); refine ifB_dec (fun w1=>?_) (fun w1=>?_)
    ·conv=>whnf
     conv=>whnf
     (conv=>whnf); refine ⟨⟨(by omega),(by omega)⟩,?_⟩
     conv=>whnf
     conv=>whnf
     (conv=>whnf); refine ifB_not ?_
     conv=>whnf
     conv=>whnf
     (conv=>whnf); refine ifB_intro (fun w2=>?_) (fun w2=>?_)
     ·exact absurd (hC2.symm.trans w2) nofun
     ·conv=>whnf
      conv=>whnf
      (conv=>whnf); refine ⟨inK64 (by omega) (by omega),?_⟩
      have q3 : a2 = false → C = B ∧ ∀ j,j < i + 1 → C j = true → ∀ t ∈ succs p noF (stN p j),C (ixN p t) = true := fun h=>by
       refine ⟨(c3 h).1,fun j hj hD=>?_⟩
       rcases Nat.lt_succ_iff_lt_or_eq.1 hj with h2 | h2
       ·exact (c3 h).2 j h2 hD
       ·rw [h2,hC] at hD; cases hD
      conv=>whnf
      conv=>whnf
      (conv=>whnf); refine ⟨_,_,⟨⟨i + 1,C,a2,by omega,c1,c2,q3,c4,rfl,rfl⟩,by omega⟩,⟨⟨.inl rfl,rfl,rfl,rfl⟩,⟨bA,⟨bA,⟨bA,⟨bA,⟨bA,trivial⟩⟩⟩⟩⟩,trivial⟩⟩
    ·(exfalso; omega)
   | true =>
    have hC2 : C (0 + (i : Int).toNat) = true := by rw [Nat.zero_add]; exact hC
    have hsi : OkS p (stN p i) := stN_ok hg hlt
    have h76 := S76 p hg (stN p i) noF hsi hno
    rw [stN_div] at h76
    have hx12 : (stp p (stN p i)).exits.length ≤ 12 := hg.few.exits _ hsi.k
    have hsln := succs_len (p := p) (f := noF) (s := stN p i)
    have hw0 : (wN p : Int) ≠ 0 ∧ inK .i64 ((i : Int).tdiv (wN p : Int)) := div_ok p (by omega)
    conv=>whnf
    conv=>whnf
    (conv=>whnf); refine ifB_dec (fun w1=>?_) (fun w1=>?_)
    ·conv => whnf
     conv=>whnf
     (conv=>whnf); refine ⟨⟨(by omega),(by omega)⟩,?_⟩
     conv=>whnf
     conv=>whnf
     (conv=>whnf); refine ifB_not ?_
     conv=>whnf
     conv=>whnf
     (conv=>whnf); refine ifB_intro (fun w2=>?_) (fun w2=>?_)
     ·conv=>whnf
      conv=>whnf
      (conv=>whnf); refine ⟨[],by kernel_rfl,?_⟩
      conv=>whnf
      conv=>whnf
      (conv=>whnf); refine .inl ⟨_,_,byX rfl (Sound1.pl (h41) rfl),?_⟩
      conv=>whnf
      conv=>whnf
      (conv=>whnf); refine ⟨by assumption,?_⟩
      conv=>whnf
      conv=>whnf
      (conv=>whnf); refine .inl ⟨_,_,byX rfl (Sound1.pl (h41) rfl),?_⟩
      conv=>whnf
      conv=>whnf
      (conv=>whnf); refine ⟨(by omega),?_⟩
      conv=>whnf
      conv=>whnf
      (conv=>whnf); refine .inl ⟨_,_,byX rfl (h76),?_⟩
      conv=>whnf
      conv=>whnf
      (conv=>whnf); refine ⟨[],[1,3,5,6,7,8,9],fun st mq=>∃ (k : Nat) (D : Nat → Bool) (a3 : Bool),(k ≤ (succs p noF (stN p i)).length) ∧ (∀ j,j < nN p → C j = true → D j = true) ∧ (∀ j,j < nN p → D j = true → Rc p noF [((0 : Int),p.start)] (stN p j)) ∧ (a3 = false → a2 = false ∧ D = C ∧ ∀ c,c < k → D (ixN p ((succs p noF (stN p i)).getD c (0,0))) = true) ∧ (a3 = true → ∃ j,j < nN p ∧ B j = false ∧ D j = true) ∧ st = ⟨[(1,.oslice 2 0 0 ((p.steps.length : Int) * (wN p : Int)).toNat (some ((p.steps.length : Int) * (wN p : Int)).toNat)),(3,.optr 3 0 0 0),(5,.optr 4 0 0 0),(6,vb a3),(7,i64 i),(8,sts (succs p noF (stN p i))),(9,i64 k)],⟨[⟨3,1,fun _=>planC p,0,false,true,true⟩,⟨2,1,fun _=>fltC f,0,false,true,true⟩,⟨1,((p.steps.length : Int) * (wN p : Int)).toNat,fun i=>[vb (D i)],0,false,true,false⟩,⟨3,1,fun _=>planC p,0,false,true,true⟩,⟨2,1,fun _=>fltC noF,0,false,true,true⟩],[],none,0⟩,[(5,.oslice 2 0 0 ((p.steps.length : Int) * (wN p : Int)).toNat (some ((p.steps.length : Int) * (wN p : Int)).toNat)),(3,.optr 1 0 0 0),(2,.optr 0 0 0 0)]⟩ ∧ mq = (succs p noF (stN p i)).length - k,
       ⟨_,_,⟨0,C,a2,by omega,(fun j _ h=>h),c2,(fun h=>⟨h,rfl,fun c hc=>absurd hc (Nat.not_lt_zero c)⟩),c4,rfl,rfl⟩,⟨⟨.inl rfl,rfl,rfl,rfl⟩,⟨bA,⟨bA,⟨bA,⟨bA,⟨bA,trivial⟩⟩⟩⟩⟩,trivial⟩⟩,?_⟩
      rintro s0 m0 ⟨k,D,a3,d0,d1,d2,d3,d4,rfl,hmeas⟩
      by_cases hlk : k < (succs p noF (stN p i)).length
      ·have htm := getD_mem hlk
       have hto := succs_ok hg hsi htm
       obtain ⟨x1,x2,x3⟩ := ix_toNat hg hto
       have hxl := ix_lt hg hto
       obtain ⟨k1,k2⟩ := ix_in hg hto
       have hixk : (0 : Int) ≤ ((succs p noF (stN p i)).getD k (0,0)).1 * (wN p : Int) + ((succs p noF (stN p i)).getD k (0,0)).2 ∧ ((succs p noF (stN p i)).getD k (0,0)).1 * (wN p : Int) + ((succs p noF (stN p i)).getD k (0,0)).2 < ((((p.steps.length : Int) * (wN p : Int)).toNat : Nat) : Int) := ⟨x2,by rw [hNe]; exact x3⟩
       have hrt : Rc p noF [((0 : Int),p.start)] ((succs p noF (stN p i)).getD k (0,0)) := .step (c2 i hlt hC) htm
       have q1 : ∀ j,j < nN p → C j = true → setB D (((succs p noF (stN p i)).getD k (0,0)).1 * (wN p : Int) + ((succs p noF (stN p i)).getD k (0,0)).2).toNat j = true := fun j hj h=>setB_le _ _ _ (d1 j hj h)
       have q2 : ∀ j,j < nN p → setB D (((succs p noF (stN p i)).getD k (0,0)).1 * (wN p : Int) + ((succs p noF (stN p i)).getD k (0,0)).2).toNat j = true → Rc p noF [((0 : Int),p.start)] (stN p j) := fun j hj h=>by
        unfold setB at h
        split at h
        ·rename_i e; rw [e,x1,st_ix hg hto]; exact hrt
        ·exact d2 j hj h
       have q4 : ∀ b : Bool,(b = true → a3 = true ∨ D (((succs p noF (stN p i)).getD k (0,0)).1 * (wN p : Int) + ((succs p noF (stN p i)).getD k (0,0)).2).toNat = false) → b = true → ∃ j,j < nN p ∧ B j = false ∧ setB D (((succs p noF (stN p i)).getD k (0,0)).1 * (wN p : Int) + ((succs p noF (stN p i)).getD k (0,0)).2).toNat j = true := fun b hb h=>by
        rcases hb h with h | h
        ·obtain ⟨j,j1,j2,j3⟩ := d4 h
         exact ⟨j,j1,j2,setB_le _ _ _ j3⟩
        ·refine ⟨ixN p ((succs p noF (stN p i)).getD k (0,0)),hxl,?_,?_⟩
         ·rw [x1] at h
          cases hb2 : B (ixN p ((succs p noF (stN p i)).getD k (0,0))) with
          | false=>rfl
          | true=>rw [d1 _ hxl (c1 _ hxl hb2)] at h; cases h
         ·rw [x1]; unfold setB; rw [if_pos rfl]
       have q3 : ∀ b : Bool,(b = false → a3 = false ∧ D (((succs p noF (stN p i)).getD k (0,0)).1 * (wN p : Int) + ((succs p noF (stN p i)).getD k (0,0)).2).toNat = true) → b = false → a2 = false ∧ setB D (((succs p noF (stN p i)).getD k (0,0)).1 * (wN p : Int) + ((succs p noF (stN p i)).getD k (0,0)).2).toNat = C ∧ ∀ c,c < k + 1 → setB D (((succs p noF (stN p i)).getD k (0,0)).1 * (wN p : Int) + ((succs p noF (stN p i)).getD k (0,0)).2).toNat (ixN p ((succs p noF (stN p i)).getD c (0,0))) = true := fun b hb h=>by
        obtain ⟨h1,h2⟩ := hb h
        obtain ⟨e1,e2,e3⟩ := d3 h1
        rw [setB_self h2]
        refine ⟨e1,e2,fun c hc=>?_⟩
        rcases Nat.lt_succ_iff_lt_or_eq.1 hc with h | h
        ·exact e3 c h
        ·rw [h,← x1]; exact h2
       cases ha : a3 with
       | true =>
        conv=>whnf
        conv=>whnf
        conv=>whnf
        (conv=>whnf); refine ifB_dec (fun w3=>?_) (fun w3=>?_)
        ·conv=>whnf
         conv=>whnf
         conv=>whnf
         (conv=>whnf); refine ⟨[],by kernel_rfl,?_⟩
         conv=>whnf
         conv=>whnf
         conv=>whnf
         (conv=>whnf); refine ⟨⟨(by omega),(by omega)⟩,?_⟩
         conv=>whnf
         conv=>whnf
         conv=>whnf
         (conv=>whnf); refine .inl ⟨_,_,byX rfl (Sound1.pl (h41) rfl),?_⟩
         conv=>whnf
         conv=>whnf
         conv=>whnf
         (conv=>whnf); refine ⟨by assumption,?_⟩
         conv=>whnf
         conv=>whnf
         conv=>whnf
         (conv=>whnf); refine ⟨⟨(by omega),(by omega)⟩,?_⟩
         conv=>whnf
         conv=>whnf
         conv=>whnf
         (conv=>whnf); refine ⟨by assumption,?_⟩
         conv=>whnf
         conv=>whnf
         conv=>whnf
         (conv=>whnf); refine ⟨by assumption,?_⟩
         refine ⟨_,fun _ _=>rfl,?_⟩
         conv=>whnf
         conv=>whnf
         conv=>whnf
         (conv=>whnf); refine ⟨inK64 (by omega) (by omega),?_⟩
         conv=>whnf
         conv=>whnf
         conv=>whnf
         (conv=>whnf); refine ⟨_,_,⟨⟨k + 1,setB D (((succs p noF (stN p i)).getD k (0,0)).1 * (wN p : Int) + ((succs p noF (stN p i)).getD k (0,0)).2).toNat,true,by omega,q1,q2,(q3 true (fun h=>by cases h)),(q4 true (fun _=>.inl ha)),rfl,rfl⟩,by omega⟩,⟨⟨.inl rfl,rfl,rfl,rfl⟩,⟨bA,⟨bA,⟨⟨rfl,rfl,rfl,rfl,fun _=>rfl,fun j h=>.inl (rowM D _ j)⟩,⟨bA,⟨bA,trivial⟩⟩⟩⟩⟩,trivial⟩⟩
        ·(exfalso; omega)
       | false =>
        conv=>whnf
        conv=>whnf
        conv=>whnf
        (conv=>whnf); refine ifB_dec (fun w3=>?_) (fun w3=>?_)
        ·conv=>whnf
         conv=>whnf
         conv=>whnf
         (conv=>whnf); refine ⟨[],by kernel_rfl,?_⟩
         conv=>whnf
         conv=>whnf
         conv=>whnf
         (conv=>whnf); refine ⟨⟨(by omega),(by omega)⟩,?_⟩
         conv=>whnf
         conv=>whnf
         conv=>whnf
         (conv=>whnf); refine .inl ⟨_,_,byX rfl (Sound1.pl (h41) rfl),?_⟩
         conv=>whnf
         conv=>whnf
         conv=>whnf
         (conv=>whnf); refine ⟨by assumption,?_⟩
         conv=>whnf
         conv=>whnf
         conv=>whnf
         (conv=>whnf); refine ⟨⟨(by omega),(by omega)⟩,?_⟩
         conv=>whnf
         conv=>whnf
         conv=>whnf
         (conv=>whnf); refine ⟨by assumption,?_⟩
         conv=>whnf
         conv=>whnf
         conv=>whnf
         (conv=>whnf); refine ⟨by assumption,?_⟩
         conv=>whnf
         conv=>whnf
         conv=>whnf
         (conv=>whnf); refine ⟨by assumption,?_⟩
         refine ⟨_,fun _ _=>rfl,?_⟩
         conv=>whnf
         conv=>whnf
         conv=>whnf
         (conv=>whnf); refine ⟨inK64 (by omega) (by omega),?_⟩
         conv=>whnf
         conv=>whnf
         conv=>whnf
         (conv=>whnf); refine ⟨_,_,⟨⟨k + 1,setB D (((succs p noF (stN p i)).getD k (0,0)).1 * (wN p : Int) + ((succs p noF (stN p i)).getD k (0,0)).2).toNat,!(D (0 + (((succs p noF (stN p i)).getD k (0,0)).1 * (wN p : Int) + ((succs p noF (stN p i)).getD k (0,0)).2).toNat)),by omega,q1,q2,(q3 _ (fun h=>⟨ha,by rw [Nat.zero_add] at h; simpa using h⟩)),(q4 _ (fun h=>.inr (by rw [Nat.zero_add] at h; simpa using h))),rfl,rfl⟩,by omega⟩,⟨⟨.inl rfl,rfl,rfl,rfl⟩,⟨bA,⟨bA,⟨⟨rfl,rfl,rfl,rfl,fun _=>rfl,fun j h=>.inl (rowM D _ j)⟩,⟨bA,⟨bA,trivial⟩⟩⟩⟩⟩,trivial⟩⟩
        ·(exfalso; omega)
      ·conv=>whnf
       conv=>whnf
       conv=>whnf
       (conv=>whnf); refine ifB_dec (fun w3=>?_) (fun w3=>?_)
       ·(exfalso; omega)
       ·conv=>whnf
        conv=>whnf
        conv=>whnf
        (conv=>whnf); refine ⟨inK64 (by omega) (by omega),?_⟩
        have q1 : ∀ j,j < nN p → B j = true → D j = true := fun j hj h=>d1 j hj (c1 j hj h)
        have q3 : a3 = false → D = B ∧ ∀ j,j < i + 1 → D j = true → ∀ t ∈ succs p noF (stN p j),D (ixN p t) = true := fun h=>by
         obtain ⟨e1,e2,e3⟩ := d3 h
         obtain ⟨f1,f2⟩ := c3 e1
         refine ⟨by rw [e2,f1],fun j hj hD=>?_⟩
         rcases Nat.lt_succ_iff_lt_or_eq.1 hj with h | h
         ·rw [e2] at hD ⊢; exact f2 j h hD
         ·rw [h]; exact mk_close (n := k) (by omega) e3
        conv=>whnf
        conv=>whnf
        conv=>whnf
        (conv=>whnf); refine ⟨_,_,⟨⟨i + 1,D,a3,by omega,q1,d2,q3,d4,rfl,rfl⟩,by omega⟩,⟨⟨.inl rfl,rfl,rfl,rfl⟩,⟨bA,⟨bA,⟨bA,⟨bA,⟨bA,trivial⟩⟩⟩⟩⟩,trivial⟩⟩
     ·exact absurd (hC2.symm.trans w2) nofun
    ·(exfalso; omega)
  ·conv=>whnf
   conv=>whnf
   (conv=>whnf); refine ifB_dec (fun w1=>?_) (fun w1=>?_)
   ·(exfalso; omega)
   ·have hin : i = nN p := by omega
    have q1 : ∀ x ∈ [((0 : Int),p.start)],C (ixN p x) = true := fun x hx=>c1 _ (ix_lt hg (start_ok hg x hx)) (b1 x hx)
    have q3 : a2 = false → ∀ i,i < nN p → C i = true → ∀ t ∈ succs p noF (stN p i),C (ixN p t) = true := fun h j hj=>(c3 h).2 j (by omega)
    have hms : offN C (nN p) + (if a2 then 1 else 0) < offN B (nN p) + 1 := by
     cases ha : a2 with
     | true=>have := offN_lt (nN p) c1 (c4 ha); simp; omega
     | false=>have := offN_le (nN p) c1; simp; omega
    conv=>whnf
    conv=>whnf
    (conv=>whnf); refine ⟨_,_,⟨⟨C,a2,q1,c2,q3,rfl,rfl⟩,(by rw [hm1]; exact hms)⟩,⟨⟨.inl rfl,rfl,rfl,rfl⟩,⟨bA,⟨bA,⟨bA,⟨bA,⟨bA,trivial⟩⟩⟩⟩⟩,trivial⟩⟩
 | false =>
  have hB : ∀ i,i < nN p → B i = rcB p noF [((0 : Int),p.start)] i := fun i hi=>marks_eq hg (fun x hx=>⟨start_ok hg x hx,b1 x hx⟩) b2 (b3 rfl) hi
  have hb41 : Tryz.prog.types[41].bytes = 16 := by kernel_rfl
  by_cases hneg : f.1 < 0
  ·have hE : reachL p f = spL p noF [((0 : Int), p.start)] := if_pos (hf2 hneg)
   conv=>whnf
   (conv=>whnf); refine ifB_dec (fun w1=>?_) (fun w1=>?_)
   ·(exfalso; omega)
   ·conv=>whnf
    (conv=>whnf); refine ⟨[.slot 6 2],[2,5,6,7],fun st mq=>∃ (i : Nat) (L : List S2) (m : Nat) (F1 : Nat → List AV) (F3 : Nat → List AV) (F4 : Nat → List AV),(i ≤ nN p) ∧ (L = ((List.range i).filter B).map (stN p)) ∧ (L.length = m) ∧ st = ⟨[(2,.optr 0 0 0 0),(5,.oslice 2 0 0 ((p.steps.length : Int) * (wN p : Int)).toNat (some ((p.steps.length : Int) * (wN p : Int)).toNat)),(6,.oslice 5 0 0 m none),(7,i64 i)],⟨[⟨3,1,fun _=>planC p,0,false,true,true⟩,⟨2,1,F1,0,false,true,false⟩,⟨1,((p.steps.length : Int) * (wN p : Int)).toNat,fun i=>[vb (B i)],0,false,true,false⟩,⟨3,1,F3,0,false,true,false⟩,⟨2,1,F4,0,false,true,false⟩,⟨2,m,fun i=>stC (L.getD i (0,0)),0,false,true,false⟩],[],none,0⟩,[]⟩ ∧ mq = nN p - i,
     ⟨_,_,⟨0,[],0,_,_,_,by omega,rfl,rfl,rfl,rfl⟩,⟨⟨.inl rfl,rfl,rfl,rfl⟩,⟨bA,⟨bA,⟨bA,⟨bA,⟨bA,⟨⟨rfl,rfl,rfl,rfl,fun _=>rfl,fun i h=>.inl (absurd h (Nat.not_lt_zero i))⟩,trivial⟩⟩⟩⟩⟩⟩,trivial⟩⟩,?_⟩
    rintro s0 m0 ⟨i,L,m,F1,F3,F4,hi,hL,hm,rfl,hmeas⟩
    by_cases hlt : i < nN p
    ·have hidx : (0 : Int) ≤ (i : Int) ∧ (i : Int) < ((((p.steps.length : Int) * (wN p : Int)).toNat : Nat) : Int) := ⟨by omega,by rw [hNe]; omega⟩
     have hw0 : (wN p : Int) ≠ 0 ∧ inK .i64 ((i : Int).tdiv (wN p : Int)) := div_ok p (by omega)
     have hLl : m ≤ i := by
      rw [← hm,hL,List.length_map]
      have := List.length_filter_le B (List.range i)
      rw [List.length_range] at this
      exact this
     have hneed2 : (m + 1) * (Tryz.prog.types[41].bytes + 1) ≤ 1000000000000 := by rw [hb41]; omega
     cases hC : B i with
     | false =>
      have hC2 : B (0 + (i : Int).toNat) = false := by rw [Nat.zero_add]; exact hC
      have hL2 : L = ((List.range (i + 1)).filter B).map (stN p) := by rw [List.range_succ,List.filter_append,hL]; simp [hC]
      conv=>whnf
      conv=>whnf
      (conv=>whnf); refine ifB_dec (fun w2=>?_) (fun w2=>?_)
      ·conv=>whnf
       conv=>whnf
       (conv=>whnf); refine ⟨⟨(by omega),(by omega)⟩,?_⟩
       conv=>whnf
       conv=>whnf
       (conv=>whnf); refine ifB_intro (fun w3=>?_) (fun w3=>?_)
       ·exact absurd (hC2.symm.trans w3) nofun
       ·conv=>whnf
        conv=>whnf
        (conv=>whnf); refine ⟨inK64 (by omega) (by omega),?_⟩
        conv=>whnf
        conv=>whnf
        (conv=>whnf); refine ⟨_,_,⟨⟨i + 1,L,m,_,_,_,by omega,hL2,hm,rfl,rfl⟩,by omega⟩,⟨⟨.inl rfl,rfl,rfl,rfl⟩,⟨bA,⟨bA,⟨bA,⟨bA,⟨bA,⟨bA,trivial⟩⟩⟩⟩⟩⟩,trivial⟩⟩
      ·(exfalso; omega)
     | true =>
      have hC2 : B (0 + (i : Int).toNat) = true := by rw [Nat.zero_add]; exact hC
      have hL2 : L ++ [stN p i] = ((List.range (i + 1)).filter B).map (stN p) := by rw [List.range_succ,List.filter_append,List.map_append,hL]; simp [hC]
      conv=>whnf
      conv=>whnf
      (conv=>whnf); refine ifB_dec (fun w2=>?_) (fun w2=>?_)
      ·conv=>whnf
       conv=>whnf
       (conv=>whnf); refine ⟨⟨(by omega),(by omega)⟩,?_⟩
       conv=>whnf
       conv=>whnf
       (conv=>whnf); refine ifB_intro (fun w3=>?_) (fun w3=>?_)
       ·conv=>whnf
        conv=>whnf
        (conv=>whnf); refine ⟨[],by kernel_rfl,?_⟩
        conv=>whnf
        conv=>whnf
        (conv=>whnf); refine .inl ⟨_,_,byX rfl (Sound1.pl (h41) rfl),?_⟩
        conv=>whnf
        conv=>whnf
        (conv=>whnf); refine ⟨by assumption,?_⟩
        conv=>whnf
        conv=>whnf
        (conv=>whnf); refine .inl ⟨_,_,byX rfl (Sound1.pl (h41) rfl),?_⟩
        conv=>whnf
        conv=>whnf
        (conv=>whnf); refine ⟨(by omega),?_⟩
        conv=>whnf
        conv=>whnf
        (conv=>whnf); refine .inl ?_
        conv=>whnf
        conv=>whnf
        (conv=>whnf); refine ⟨(by show _ * (16 + 1) ≤ _; omega),?_⟩
        conv=>whnf
        conv=>whnf
        (conv=>whnf); refine ⟨inK64 (by omega) (by omega),?_⟩
        conv=>whnf
        conv=>whnf
        (conv=>whnf); refine ⟨_,_,⟨⟨i + 1,L ++ [stN p i],m + 1,_,_,_,by omega,hL2,(by rw [List.length_append,hm]; rfl),rfl,rfl⟩,by omega⟩,⟨⟨.inl rfl,rfl,rfl,rfl⟩,⟨bA,⟨bA,⟨bA,⟨bA,⟨bA,⟨⟨rfl,rfl,rfl,rfl,fun _=>rfl,fun i h=>.inl (sts_row hm _ i h)⟩,trivial⟩⟩⟩⟩⟩⟩,trivial⟩⟩
       ·exact absurd (hC2.symm.trans w3) nofun
      ·(exfalso; omega)
    ·obtain rfl : i = nN p := by omega
     conv=>whnf
     conv=>whnf
     (conv=>whnf); refine ifB_dec (fun w2=>?_) (fun w2=>?_)
     ·(exfalso; omega)
     ·conv=>whnf
      conv=>whnf
      (conv=>whnf); refine ⟨?_,nofun⟩
      rw [hE]
      rw [spL_marks hB] at hL
      rw [← hL]
      exact ⟨rfl,hm.symm,fun _ _=>rfl⟩
  ·have hfn : f ≠ noF := fun e => hneg (by rw [e]; decide)
   have hE : reachL p f = spL p f (spL p noF [((0 : Int),p.start)]) := if_neg hfn
   have hA2 : ∀ x ∈ spL p noF [((0 : Int),p.start)],OkS p x := spL_ok hg
   have p1 : ∀ x ∈ spL p noF [((0 : Int),p.start)],B (ixN p x) = true := fun x hx=>by
    rw [hB _ (ix_lt hg (hA2 x hx)),rcB_iff,st_ix hg (hA2 x hx)]
    exact (spL_mem hg (start_ok hg)).1 hx
   have p2 : ∀ i,i < nN p → B i = true → Rc p f (spL p noF [((0 : Int),p.start)]) (stN p i) := fun i hi h=>.base ((spL_mem hg (start_ok hg)).2 (rcB_iff.1 ((hB i hi).symm.trans h)))
   generalize spL p noF [((0 : Int),p.start)] = A2 at hE hA2 p1 p2
   clear hB b1 b2 b3
   conv=>whnf
   (conv=>whnf); refine ifB_dec (fun w1=>?_) (fun w1=>?_)
   ·conv => whnf
    (conv=>whnf); refine .inr (.inl ⟨[],?_⟩)
    conv=>whnf
    (conv=>whnf); refine ⟨[.forget [0,1,4,8,9,10,11,12,13,14,15,16,17,18,19,20,21,22,23,24,25,26,27,28,29]],[1,3,5,6],fun st mq=>∃ (B : Nat → Bool) (ag : Bool) (F3 : Nat → List AV) (F4 : Nat → List AV),(∀ x ∈ A2,B (ixN p x) = true) ∧ (∀ i,i < nN p → B i = true → Rc p f A2 (stN p i)) ∧ (ag = false → ∀ i,i < nN p → B i = true → ∀ t ∈ succs p f (stN p i),B (ixN p t) = true) ∧ st = ⟨[(1,.oslice 2 0 0 ((p.steps.length : Int) * (wN p : Int)).toNat (some ((p.steps.length : Int) * (wN p : Int)).toNat)),(3,.optr 5 0 0 0),(5,.optr 6 0 0 0),(6,vb ag)],⟨[⟨3,1,fun _=>planC p,0,false,true,true⟩,⟨2,1,fun _=>fltC f,0,false,true,true⟩,⟨1,((p.steps.length : Int) * (wN p : Int)).toNat,fun i=>[vb (B i)],0,false,true,false⟩,⟨3,1,F3,0,false,true,false⟩,⟨2,1,F4,0,false,true,false⟩,⟨3,1,fun _=>planC p,0,false,true,true⟩,⟨2,1,fun _=>fltC f,0,false,true,true⟩],[],none,0⟩,[(5,.oslice 2 0 0 ((p.steps.length : Int) * (wN p : Int)).toNat (some ((p.steps.length : Int) * (wN p : Int)).toNat)),(3,.optr 1 0 0 0),(2,.optr 0 0 0 0)]⟩ ∧ mq = offN B (nN p) + (if ag then 1 else 0),
     ⟨_,_,⟨B,true,_,_,p1,p2,(fun h=>by cases h),rfl,rfl⟩,⟨⟨.inl rfl,rfl,rfl,rfl⟩,⟨bA,⟨bA,⟨bA,⟨bA,⟨bA,⟨bA,⟨bA,trivial⟩⟩⟩⟩⟩⟩⟩,trivial⟩⟩,?_⟩
    rintro s0 m0 ⟨B,ag,F3,F4,b1,b2,b3,rfl,hmeas⟩
    cases ag with
    | true =>
     have hm1 : _ = offN B (nN p) + 1 := hmeas
     conv=>whnf
     conv=>whnf
     (conv=>whnf); refine ⟨[],[1,3,5,6,7],fun st mq=>∃ (i : Nat) (C : Nat → Bool) (a2 : Bool) (F3 : Nat → List AV) (F4 : Nat → List AV),(i ≤ nN p) ∧ (∀ j,j < nN p → B j = true → C j = true) ∧ (∀ j,j < nN p → C j = true → Rc p f A2 (stN p j)) ∧ (a2 = false → C = B ∧ ∀ j,j < i → C j = true → ∀ t ∈ succs p f (stN p j),C (ixN p t) = true) ∧ (a2 = true → ∃ j,j < nN p ∧ B j = false ∧ C j = true) ∧ st = ⟨[(1,.oslice 2 0 0 ((p.steps.length : Int) * (wN p : Int)).toNat (some ((p.steps.length : Int) * (wN p : Int)).toNat)),(3,.optr 5 0 0 0),(5,.optr 6 0 0 0),(6,vb a2),(7,i64 i)],⟨[⟨3,1,fun _=>planC p,0,false,true,true⟩,⟨2,1,fun _=>fltC f,0,false,true,true⟩,⟨1,((p.steps.length : Int) * (wN p : Int)).toNat,fun i=>[vb (C i)],0,false,true,false⟩,⟨3,1,F3,0,false,true,false⟩,⟨2,1,F4,0,false,true,false⟩,⟨3,1,fun _=>planC p,0,false,true,true⟩,⟨2,1,fun _=>fltC f,0,false,true,true⟩],[],none,0⟩,[(5,.oslice 2 0 0 ((p.steps.length : Int) * (wN p : Int)).toNat (some ((p.steps.length : Int) * (wN p : Int)).toNat)),(3,.optr 1 0 0 0),(2,.optr 0 0 0 0)]⟩ ∧ mq = nN p - i,
      ⟨_,_,⟨0,B,false,_,_,by omega,(fun j _ h=>h),b2,(fun _=>⟨rfl,fun j h=>absurd h (Nat.not_lt_zero j)⟩),(fun h=>by cases h),rfl,rfl⟩,⟨⟨.inl rfl,rfl,rfl,rfl⟩,⟨bA,⟨bA,⟨bA,⟨bA,⟨bA,⟨bA,⟨bA,trivial⟩⟩⟩⟩⟩⟩⟩,trivial⟩⟩,?_⟩
     rintro s0 m0 ⟨i,C,a2,F3,F4,c0,c1,c2,c3,c4,rfl,hmeas⟩
     by_cases hlt : i < nN p
     ·have hltZ : (i : Int) < ((((p.steps.length : Int) * (wN p : Int)).toNat : Nat) : Int) := by rw [hNe]; omega
      have hidx : (0 : Int) ≤ (i : Int) ∧ (i : Int) < ((((p.steps.length : Int) * (wN p : Int)).toNat : Nat) : Int) := ⟨by omega,hltZ⟩
      cases hC : C i with
      | false =>
       have hC2 : C (0 + (i : Int).toNat) = false := by rw [Nat.zero_add]; exact hC
       conv=>whnf
       conv=>whnf
       conv=>whnf
       (conv=>whnf); refine ifB_dec (fun w2=>?_) (fun w2=>?_)
       ·conv=>whnf
        conv=>whnf
        conv=>whnf
        (conv=>whnf); refine ⟨⟨(by omega),(by omega)⟩,?_⟩
        conv=>whnf
        conv=>whnf
        conv=>whnf
        (conv=>whnf); refine ifB_not ?_
        conv=>whnf
        conv=>whnf
        conv=>whnf
        (conv=>whnf); refine ifB_intro (fun w3=>?_) (fun w3=>?_)
        ·exact absurd (hC2.symm.trans w3) nofun
        ·conv=>whnf
         conv=>whnf
         conv=>whnf
         (conv=>whnf); refine ⟨inK64 (by omega) (by omega),?_⟩
         have q3 : a2 = false → C = B ∧ ∀ j,j < i + 1 → C j = true → ∀ t ∈ succs p f (stN p j),C (ixN p t) = true := fun h=>by
          refine ⟨(c3 h).1,fun j hj hD=>?_⟩
          rcases Nat.lt_succ_iff_lt_or_eq.1 hj with h2 | h2
          ·exact (c3 h).2 j h2 hD
          ·rw [h2,hC] at hD; cases hD
         conv=>whnf
         conv=>whnf
         conv=>whnf
         (conv=>whnf); refine ⟨_,_,⟨⟨i + 1,C,a2,_,_,by omega,c1,c2,q3,c4,rfl,rfl⟩,by omega⟩,⟨⟨.inl rfl,rfl,rfl,rfl⟩,⟨bA,⟨bA,⟨bA,⟨bA,⟨bA,⟨bA,⟨bA,trivial⟩⟩⟩⟩⟩⟩⟩,trivial⟩⟩
       ·(exfalso; omega)
      | true =>
       have hC2 : C (0 + (i : Int).toNat) = true := by rw [Nat.zero_add]; exact hC
       have hsi : OkS p (stN p i) := stN_ok hg hlt
       have h76 := S76 p hg (stN p i) f hsi hf
       rw [stN_div] at h76
       have hx12 : (stp p (stN p i)).exits.length ≤ 12 := hg.few.exits _ hsi.k
       have hsln := succs_len (p := p) (f := f) (s := stN p i)
       have hw0 : (wN p : Int) ≠ 0 ∧ inK .i64 ((i : Int).tdiv (wN p : Int)) := div_ok p (by omega)
       conv=>whnf
       conv=>whnf
       conv=>whnf
       (conv=>whnf); refine ifB_dec (fun w2=>?_) (fun w2=>?_)
       ·conv => whnf
        conv=>whnf
        conv=>whnf
        (conv=>whnf); refine ⟨⟨(by omega),(by omega)⟩,?_⟩
        conv=>whnf
        conv=>whnf
        conv=>whnf
        (conv=>whnf); refine ifB_not ?_
        conv=>whnf
        conv=>whnf
        conv=>whnf
        (conv=>whnf); refine ifB_intro (fun w3=>?_) (fun w3=>?_)
        ·conv=>whnf
         conv=>whnf
         conv=>whnf
         (conv=>whnf); refine ⟨[],by kernel_rfl,?_⟩
         conv=>whnf
         conv=>whnf
         conv=>whnf
         (conv=>whnf); refine .inl ⟨_,_,byX rfl (Sound1.pl (h41) rfl),?_⟩
         conv=>whnf
         conv=>whnf
         conv=>whnf
         (conv=>whnf); refine ⟨by assumption,?_⟩
         conv=>whnf
         conv=>whnf
         conv=>whnf
         (conv=>whnf); refine .inl ⟨_,_,byX rfl (Sound1.pl (h41) rfl),?_⟩
         conv=>whnf
         conv=>whnf
         conv=>whnf
         (conv=>whnf); refine ⟨(by omega),?_⟩
         conv=>whnf
         conv=>whnf
         conv=>whnf
         (conv=>whnf); refine .inl ⟨_,_,byX rfl (h76),?_⟩
         conv=>whnf
         conv=>whnf
         conv=>whnf
         (conv=>whnf); refine ⟨[],[1,3,5,6,7,8,9],fun st mq=>∃ (k : Nat) (D : Nat → Bool) (a3 : Bool) (F3 : Nat → List AV) (F4 : Nat → List AV),(k ≤ (succs p f (stN p i)).length) ∧ (∀ j,j < nN p → C j = true → D j = true) ∧ (∀ j,j < nN p → D j = true → Rc p f A2 (stN p j)) ∧ (a3 = false → a2 = false ∧ D = C ∧ ∀ c,c < k → D (ixN p ((succs p f (stN p i)).getD c (0,0))) = true) ∧ (a3 = true → ∃ j,j < nN p ∧ B j = false ∧ D j = true) ∧ st = ⟨[(1,.oslice 2 0 0 ((p.steps.length : Int) * (wN p : Int)).toNat (some ((p.steps.length : Int) * (wN p : Int)).toNat)),(3,.optr 5 0 0 0),(5,.optr 6 0 0 0),(6,vb a3),(7,i64 i),(8,sts (succs p f (stN p i))),(9,i64 k)],⟨[⟨3,1,fun _=>planC p,0,false,true,true⟩,⟨2,1,fun _=>fltC f,0,false,true,true⟩,⟨1,((p.steps.length : Int) * (wN p : Int)).toNat,fun i=>[vb (D i)],0,false,true,false⟩,⟨3,1,F3,0,false,true,false⟩,⟨2,1,F4,0,false,true,false⟩,⟨3,1,fun _=>planC p,0,false,true,true⟩,⟨2,1,fun _=>fltC f,0,false,true,true⟩],[],none,0⟩,[(5,.oslice 2 0 0 ((p.steps.length : Int) * (wN p : Int)).toNat (some ((p.steps.length : Int) * (wN p : Int)).toNat)),(3,.optr 1 0 0 0),(2,.optr 0 0 0 0)]⟩ ∧ mq = (succs p f (stN p i)).length - k,
          ⟨_,_,⟨0,C,a2,_,_,by omega,(fun j _ h=>h),c2,(fun h=>⟨h,rfl,fun c hc=>absurd hc (Nat.not_lt_zero c)⟩),c4,rfl,rfl⟩,⟨⟨.inl rfl,rfl,rfl,rfl⟩,⟨bA,⟨bA,⟨bA,⟨bA,⟨bA,⟨bA,⟨bA,trivial⟩⟩⟩⟩⟩⟩⟩,trivial⟩⟩,?_⟩
         rintro s0 m0 ⟨k,D,a3,F3,F4,d0,d1,d2,d3,d4,rfl,hmeas⟩
         by_cases hlk : k < (succs p f (stN p i)).length
         ·have htm := getD_mem hlk
          have hto := succs_ok hg hsi htm
          obtain ⟨x1,x2,x3⟩ := ix_toNat hg hto
          have hxl := ix_lt hg hto
          obtain ⟨k1,k2⟩ := ix_in hg hto
          have hixk : (0 : Int) ≤ ((succs p f (stN p i)).getD k (0,0)).1 * (wN p : Int) + ((succs p f (stN p i)).getD k (0,0)).2 ∧ ((succs p f (stN p i)).getD k (0,0)).1 * (wN p : Int) + ((succs p f (stN p i)).getD k (0,0)).2 < ((((p.steps.length : Int) * (wN p : Int)).toNat : Nat) : Int) := ⟨x2,by rw [hNe]; exact x3⟩
          have hrt : Rc p f A2 ((succs p f (stN p i)).getD k (0,0)) := .step (c2 i hlt hC) htm
          have q1 : ∀ j,j < nN p → C j = true → setB D (((succs p f (stN p i)).getD k (0,0)).1 * (wN p : Int) + ((succs p f (stN p i)).getD k (0,0)).2).toNat j = true := fun j hj h=>setB_le _ _ _ (d1 j hj h)
          have q2 : ∀ j,j < nN p → setB D (((succs p f (stN p i)).getD k (0,0)).1 * (wN p : Int) + ((succs p f (stN p i)).getD k (0,0)).2).toNat j = true → Rc p f A2 (stN p j) := fun j hj h=>by
           unfold setB at h
           split at h
           ·rename_i e; rw [e,x1,st_ix hg hto]; exact hrt
           ·exact d2 j hj h
          have q4 : ∀ b : Bool,(b = true → a3 = true ∨ D (((succs p f (stN p i)).getD k (0,0)).1 * (wN p : Int) + ((succs p f (stN p i)).getD k (0,0)).2).toNat = false) → b = true → ∃ j,j < nN p ∧ B j = false ∧ setB D (((succs p f (stN p i)).getD k (0,0)).1 * (wN p : Int) + ((succs p f (stN p i)).getD k (0,0)).2).toNat j = true := fun b hb h=>by
           rcases hb h with h | h
           ·obtain ⟨j,j1,j2,j3⟩ := d4 h
            exact ⟨j,j1,j2,setB_le _ _ _ j3⟩
           ·refine ⟨ixN p ((succs p f (stN p i)).getD k (0,0)),hxl,?_,?_⟩
            ·rw [x1] at h
             cases hb2 : B (ixN p ((succs p f (stN p i)).getD k (0,0))) with
             | false=>rfl
             | true=>rw [d1 _ hxl (c1 _ hxl hb2)] at h; cases h
            ·rw [x1]; unfold setB; rw [if_pos rfl]
          have q3 : ∀ b : Bool,(b = false → a3 = false ∧ D (((succs p f (stN p i)).getD k (0,0)).1 * (wN p : Int) + ((succs p f (stN p i)).getD k (0,0)).2).toNat = true) → b = false → a2 = false ∧ setB D (((succs p f (stN p i)).getD k (0,0)).1 * (wN p : Int) + ((succs p f (stN p i)).getD k (0,0)).2).toNat = C ∧ ∀ c,c < k + 1 → setB D (((succs p f (stN p i)).getD k (0,0)).1 * (wN p : Int) + ((succs p f (stN p i)).getD k (0,0)).2).toNat (ixN p ((succs p f (stN p i)).getD c (0,0))) = true := fun b hb h=>by
           obtain ⟨h1,h2⟩ := hb h
           obtain ⟨e1,e2,e3⟩ := d3 h1
           rw [setB_self h2]
           refine ⟨e1,e2,fun c hc=>?_⟩
           rcases Nat.lt_succ_iff_lt_or_eq.1 hc with h | h
           ·exact e3 c h
           ·rw [h,← x1]; exact h2
          cases ha : a3 with
          | true =>
           conv=>whnf
           conv=>whnf
           conv=>whnf
           conv=>whnf
           (conv=>whnf); refine ifB_dec (fun w4=>?_) (fun w4=>?_)
           ·conv=>whnf
            conv=>whnf
            conv=>whnf
            conv=>whnf
            (conv=>whnf); refine ⟨[],by kernel_rfl,?_⟩
            conv=>whnf
            conv=>whnf
            conv=>whnf
            conv=>whnf
            (conv=>whnf); refine ⟨⟨(by omega),(by omega)⟩,?_⟩
            conv=>whnf
            conv=>whnf
            conv=>whnf
            conv=>whnf
            (conv=>whnf); refine .inl ⟨_,_,byX rfl (Sound1.pl (h41) rfl),?_⟩
            conv=>whnf
            conv=>whnf
            conv=>whnf
            conv=>whnf
            (conv=>whnf); refine ⟨by assumption,?_⟩
            conv=>whnf
            conv=>whnf
            conv=>whnf
            conv=>whnf
            (conv=>whnf); refine ⟨⟨(by omega),(by omega)⟩,?_⟩
            conv=>whnf
            conv=>whnf
            conv=>whnf
            conv=>whnf
            (conv=>whnf); refine ⟨by assumption,?_⟩
            conv=>whnf
            conv=>whnf
            conv=>whnf
            conv=>whnf
            (conv=>whnf); refine ⟨by assumption,?_⟩
            refine ⟨_,fun _ _=>rfl,?_⟩
            conv=>whnf
            conv=>whnf
            conv=>whnf
            conv=>whnf
            (conv=>whnf); refine ⟨inK64 (by omega) (by omega),?_⟩
            conv=>whnf
            conv=>whnf
            conv=>whnf
            conv=>whnf
            (conv=>whnf); refine ⟨_,_,⟨⟨k + 1,setB D (((succs p f (stN p i)).getD k (0,0)).1 * (wN p : Int) + ((succs p f (stN p i)).getD k (0,0)).2).toNat,true,_,_,by omega,q1,q2,(q3 true (fun h=>by cases h)),(q4 true (fun _=>.inl ha)),rfl,rfl⟩,by omega⟩,⟨⟨.inl rfl,rfl,rfl,rfl⟩,⟨bA,⟨bA,⟨⟨rfl,rfl,rfl,rfl,fun _=>rfl,fun j h=>.inl (rowM D _ j)⟩,⟨bA,⟨bA,⟨bA,⟨bA,trivial⟩⟩⟩⟩⟩⟩⟩,trivial⟩⟩
           ·(exfalso; omega)
          | false =>
           conv=>whnf
           conv=>whnf
           conv=>whnf
           conv=>whnf
           (conv=>whnf); refine ifB_dec (fun w4=>?_) (fun w4=>?_)
           ·conv=>whnf
            conv=>whnf
            conv=>whnf
            conv=>whnf
            (conv=>whnf); refine ⟨[],by kernel_rfl,?_⟩
            conv=>whnf
            conv=>whnf
            conv=>whnf
            conv=>whnf
            (conv=>whnf); refine ⟨⟨(by omega),(by omega)⟩,?_⟩
            conv=>whnf
            conv=>whnf
            conv=>whnf
            conv=>whnf
            (conv=>whnf); refine .inl ⟨_,_,byX rfl (Sound1.pl (h41) rfl),?_⟩
            conv=>whnf
            conv=>whnf
            conv=>whnf
            conv=>whnf
            (conv=>whnf); refine ⟨by assumption,?_⟩
            conv=>whnf
            conv=>whnf
            conv=>whnf
            conv=>whnf
            (conv=>whnf); refine ⟨⟨(by omega),(by omega)⟩,?_⟩
            conv=>whnf
            conv=>whnf
            conv=>whnf
            conv=>whnf
            (conv=>whnf); refine ⟨by assumption,?_⟩
            conv=>whnf
            conv=>whnf
            conv=>whnf
            conv=>whnf
            (conv=>whnf); refine ⟨by assumption,?_⟩
            conv=>whnf
            conv=>whnf
            conv=>whnf
            conv=>whnf
            (conv=>whnf); refine ⟨by assumption,?_⟩
            refine ⟨_,fun _ _=>rfl,?_⟩
            conv=>whnf
            conv=>whnf
            conv=>whnf
            conv=>whnf
            (conv=>whnf); refine ⟨inK64 (by omega) (by omega),?_⟩
            conv=>whnf
            conv=>whnf
            conv=>whnf
            conv=>whnf
            (conv=>whnf); refine ⟨_,_,⟨⟨k + 1,setB D (((succs p f (stN p i)).getD k (0,0)).1 * (wN p : Int) + ((succs p f (stN p i)).getD k (0,0)).2).toNat,!(D (0 + (((succs p f (stN p i)).getD k (0,0)).1 * (wN p : Int) + ((succs p f (stN p i)).getD k (0,0)).2).toNat)),_,_,by omega,q1,q2,(q3 _ (fun h=>⟨ha,by rw [Nat.zero_add] at h; simpa using h⟩)),(q4 _ (fun h=>.inr (by rw [Nat.zero_add] at h; simpa using h))),rfl,rfl⟩,by omega⟩,⟨⟨.inl rfl,rfl,rfl,rfl⟩,⟨bA,⟨bA,⟨⟨rfl,rfl,rfl,rfl,fun _=>rfl,fun j h=>.inl (rowM D _ j)⟩,⟨bA,⟨bA,⟨bA,⟨bA,trivial⟩⟩⟩⟩⟩⟩⟩,trivial⟩⟩
           ·(exfalso; omega)
         ·conv=>whnf
          conv=>whnf
          conv=>whnf
          conv=>whnf
          (conv=>whnf); refine ifB_dec (fun w4=>?_) (fun w4=>?_)
          ·(exfalso; omega)
          ·conv=>whnf
           conv=>whnf
           conv=>whnf
           conv=>whnf
           (conv=>whnf); refine ⟨inK64 (by omega) (by omega),?_⟩
           have q1 : ∀ j,j < nN p → B j = true → D j = true := fun j hj h=>d1 j hj (c1 j hj h)
           have q3 : a3 = false → D = B ∧ ∀ j,j < i + 1 → D j = true → ∀ t ∈ succs p f (stN p j),D (ixN p t) = true := fun h=>by
            obtain ⟨e1,e2,e3⟩ := d3 h
            obtain ⟨f1,f2⟩ := c3 e1
            refine ⟨by rw [e2,f1],fun j hj hD=>?_⟩
            rcases Nat.lt_succ_iff_lt_or_eq.1 hj with h | h
            ·rw [e2] at hD ⊢; exact f2 j h hD
            ·rw [h]; exact mk_close (n := k) (by omega) e3
           conv=>whnf
           conv=>whnf
           conv=>whnf
           conv=>whnf
           (conv=>whnf); refine ⟨_,_,⟨⟨i + 1,D,a3,_,_,by omega,q1,d2,q3,d4,rfl,rfl⟩,by omega⟩,⟨⟨.inl rfl,rfl,rfl,rfl⟩,⟨bA,⟨bA,⟨bA,⟨bA,⟨bA,⟨bA,⟨bA,trivial⟩⟩⟩⟩⟩⟩⟩,trivial⟩⟩
        ·exact absurd (hC2.symm.trans w3) nofun
       ·(exfalso; omega)
     ·conv=>whnf
      conv=>whnf
      conv=>whnf
      (conv=>whnf); refine ifB_dec (fun w2=>?_) (fun w2=>?_)
      ·(exfalso; omega)
      ·have hin : i = nN p := by omega
       have q1 : ∀ x ∈ A2,C (ixN p x) = true := fun x hx=>c1 _ (ix_lt hg (hA2 x hx)) (b1 x hx)
       have q3 : a2 = false → ∀ i,i < nN p → C i = true → ∀ t ∈ succs p f (stN p i),C (ixN p t) = true := fun h j hj=>(c3 h).2 j (by omega)
       have hms : offN C (nN p) + (if a2 then 1 else 0) < offN B (nN p) + 1 := by
        cases ha : a2 with
        | true=>have := offN_lt (nN p) c1 (c4 ha); simp; omega
        | false=>have := offN_le (nN p) c1; simp; omega
       conv=>whnf
       conv=>whnf
       conv=>whnf
       (conv=>whnf); refine ⟨_,_,⟨⟨C,a2,_,_,q1,c2,q3,rfl,rfl⟩,(by rw [hm1]; exact hms)⟩,⟨⟨.inl rfl,rfl,rfl,rfl⟩,⟨bA,⟨bA,⟨bA,⟨bA,⟨bA,⟨bA,⟨bA,trivial⟩⟩⟩⟩⟩⟩⟩,trivial⟩⟩
    | false =>
     have hB : ∀ i,i < nN p → B i = rcB p f A2 i := fun i hi=>marks_eq hg (fun x hx=>⟨hA2 x hx,b1 x hx⟩) b2 (b3 rfl) hi
     conv=>whnf
     conv=>whnf
     (conv=>whnf); refine ⟨[.slot 6 2],[2,5,6,7],fun st mq=>∃ (i : Nat) (L : List S2) (m : Nat) (F1 : Nat → List AV) (F3 : Nat → List AV) (F4 : Nat → List AV) (F5 : Nat → List AV) (F6 : Nat → List AV),(i ≤ nN p) ∧ (L = ((List.range i).filter B).map (stN p)) ∧ (L.length = m) ∧ st = ⟨[(2,.optr 0 0 0 0),(5,.oslice 2 0 0 ((p.steps.length : Int) * (wN p : Int)).toNat (some ((p.steps.length : Int) * (wN p : Int)).toNat)),(6,.oslice 7 0 0 m none),(7,i64 i)],⟨[⟨3,1,fun _=>planC p,0,false,true,true⟩,⟨2,1,F1,0,false,true,false⟩,⟨1,((p.steps.length : Int) * (wN p : Int)).toNat,fun i=>[vb (B i)],0,false,true,false⟩,⟨3,1,F3,0,false,true,false⟩,⟨2,1,F4,0,false,true,false⟩,⟨3,1,F5,0,false,true,false⟩,⟨2,1,F6,0,false,true,false⟩,⟨2,m,fun i=>stC (L.getD i (0,0)),0,false,true,false⟩],[],none,0⟩,[]⟩ ∧ mq = nN p - i,
      ⟨_,_,⟨0,[],0,_,_,_,_,_,by omega,rfl,rfl,rfl,rfl⟩,⟨⟨.inl rfl,rfl,rfl,rfl⟩,⟨bA,⟨bA,⟨bA,⟨bA,⟨bA,⟨bA,⟨bA,⟨⟨rfl,rfl,rfl,rfl,fun _=>rfl,fun i h=>.inl (absurd h (Nat.not_lt_zero i))⟩,trivial⟩⟩⟩⟩⟩⟩⟩⟩,trivial⟩⟩,?_⟩
     rintro s0 m0 ⟨i,L,m,F1,F3,F4,F5,F6,hi,hL,hm,rfl,hmeas⟩
     by_cases hlt : i < nN p
     ·have hidx : (0 : Int) ≤ (i : Int) ∧ (i : Int) < ((((p.steps.length : Int) * (wN p : Int)).toNat : Nat) : Int) := ⟨by omega,by rw [hNe]; omega⟩
      have hw0 : (wN p : Int) ≠ 0 ∧ inK .i64 ((i : Int).tdiv (wN p : Int)) := div_ok p (by omega)
      have hLl : m ≤ i := by
       rw [← hm,hL,List.length_map]
       have := List.length_filter_le B (List.range i)
       rw [List.length_range] at this
       exact this
      have hneed2 : (m + 1) * (Tryz.prog.types[41].bytes + 1) ≤ 1000000000000 := by rw [hb41]; omega
      cases hC : B i with
      | false =>
       have hC2 : B (0 + (i : Int).toNat) = false := by rw [Nat.zero_add]; exact hC
       have hL2 : L = ((List.range (i + 1)).filter B).map (stN p) := by rw [List.range_succ,List.filter_append,hL]; simp [hC]
       conv=>whnf
       conv=>whnf
       conv=>whnf
       (conv=>whnf); refine ifB_dec (fun w2=>?_) (fun w2=>?_)
       ·conv=>whnf
        conv=>whnf
        conv=>whnf
        (conv=>whnf); refine ⟨⟨(by omega),(by omega)⟩,?_⟩
        conv=>whnf
        conv=>whnf
        conv=>whnf
        (conv=>whnf); refine ifB_intro (fun w3=>?_) (fun w3=>?_)
        ·exact absurd (hC2.symm.trans w3) nofun
        ·conv=>whnf
         conv=>whnf
         conv=>whnf
         (conv=>whnf); refine ⟨inK64 (by omega) (by omega),?_⟩
         conv=>whnf
         conv=>whnf
         conv=>whnf
         (conv=>whnf); refine ⟨_,_,⟨⟨i + 1,L,m,_,_,_,_,_,by omega,hL2,hm,rfl,rfl⟩,by omega⟩,⟨⟨.inl rfl,rfl,rfl,rfl⟩,⟨bA,⟨bA,⟨bA,⟨bA,⟨bA,⟨bA,⟨bA,⟨bA,trivial⟩⟩⟩⟩⟩⟩⟩⟩,trivial⟩⟩
       ·(exfalso; omega)
      | true =>
       have hC2 : B (0 + (i : Int).toNat) = true := by rw [Nat.zero_add]; exact hC
       have hL2 : L ++ [stN p i] = ((List.range (i + 1)).filter B).map (stN p) := by rw [List.range_succ,List.filter_append,List.map_append,hL]; simp [hC]
       conv=>whnf
       conv=>whnf
       conv=>whnf
       (conv=>whnf); refine ifB_dec (fun w2=>?_) (fun w2=>?_)
       ·conv=>whnf
        conv=>whnf
        conv=>whnf
        (conv=>whnf); refine ⟨⟨(by omega),(by omega)⟩,?_⟩
        conv=>whnf
        conv=>whnf
        conv=>whnf
        (conv=>whnf); refine ifB_intro (fun w3=>?_) (fun w3=>?_)
        ·conv=>whnf
         conv=>whnf
         conv=>whnf
         (conv=>whnf); refine ⟨[],by kernel_rfl,?_⟩
         conv=>whnf
         conv=>whnf
         conv=>whnf
         (conv=>whnf); refine .inl ⟨_,_,byX rfl (Sound1.pl (h41) rfl),?_⟩
         conv=>whnf
         conv=>whnf
         conv=>whnf
         (conv=>whnf); refine ⟨by assumption,?_⟩
         conv=>whnf
         conv=>whnf
         conv=>whnf
         (conv=>whnf); refine .inl ⟨_,_,byX rfl (Sound1.pl (h41) rfl),?_⟩
         conv=>whnf
         conv=>whnf
         conv=>whnf
         (conv=>whnf); refine ⟨(by omega),?_⟩
         conv=>whnf
         conv=>whnf
         conv=>whnf
         (conv=>whnf); refine .inl ?_
         conv=>whnf
         conv=>whnf
         conv=>whnf
         (conv=>whnf); refine ⟨(by show _ * (16 + 1) ≤ _; omega),?_⟩
         conv=>whnf
         conv=>whnf
         conv=>whnf
         (conv=>whnf); refine ⟨inK64 (by omega) (by omega),?_⟩
         conv=>whnf
         conv=>whnf
         conv=>whnf
         (conv=>whnf); refine ⟨_,_,⟨⟨i + 1,L ++ [stN p i],m + 1,_,_,_,_,_,by omega,hL2,(by rw [List.length_append,hm]; rfl),rfl,rfl⟩,by omega⟩,⟨⟨.inl rfl,rfl,rfl,rfl⟩,⟨bA,⟨bA,⟨bA,⟨bA,⟨bA,⟨bA,⟨bA,⟨⟨rfl,rfl,rfl,rfl,fun _=>rfl,fun i h=>.inl (sts_row hm _ i h)⟩,trivial⟩⟩⟩⟩⟩⟩⟩⟩,trivial⟩⟩
        ·exact absurd (hC2.symm.trans w3) nofun
       ·(exfalso; omega)
     ·obtain rfl : i = nN p := by omega
      conv=>whnf
      conv=>whnf
      conv=>whnf
      (conv=>whnf); refine ifB_dec (fun w2=>?_) (fun w2=>?_)
      ·(exfalso; omega)
      ·conv=>whnf
       conv=>whnf
       conv=>whnf
       (conv=>whnf); refine ⟨?_,nofun⟩
       rw [hE]
       rw [spL_marks hB] at hL
       rw [← hL]
       exact ⟨rfl,hm.symm,fun _ _=>rfl⟩
   ·(exfalso; omega)
end Go.Tr

/- The law SequenceHomes returns true. Conditions: none. -/
/- The law SequenceRuns returns true. Conditions: none. -/
/- Contracts of chapter 7: reached states, the package; the law SequenceReached. Conditions: none. -/
-- seat YtinfmponjglalaaGreatDoor
namespace Go.Tr
open Go Go.Proofs
set_option maxRecDepth 20000
set_option maxHeartbeats 8000000

theorem S75n (p : Pln) (hg : Good p) (f : Int × Bool) (A : List S2) (hA : ∀ x ∈ A,OkS p x) (hnd : A.Nodup) (h0 : 0 < A.length) {n : Nat} {F : Nat → List AV} (hn : n = A.length) (hF : ∀ i,i < n → F i = stC (A.getD i (0,0))) :
  SP 75 [planA p,.rslice 2 n F,ftA f] (sts (spL p f A)) false :=
 (S75 p hg f A hA hnd h0).argsD rfl fun i y z hy hz=>match i,hy,hz with
  | 0,hy,hz=>by cases hy; cases hz; exact .inl rfl
  | 1,hy,hz=>by cases hy; cases hz; exact .inr ⟨1,AVF_rows hn hF 0⟩
  | 2,hy,hz=>by cases hy; cases hz; exact .inl rfl
theorem S38 (p : Pln) (hg : Good p) (f : Int × Bool) : SP 38 [planA p,ftA f] (sts (reachL p f)) false := by
 have hs1 := start_ok hg
 have h75 : ∀ {n : Nat} {F : Nat → List AV},n = 1 → F 0 = [i64 0,i64 p.start] → SP 75 [planA p,.rslice 2 n F,ftA noF] (sts (spL p noF [((0 : Int),p.start)])) false := fun {n F} hn hF =>
  S75n p hg noF _ hs1 (by simp) (by simp) hn fun i hi=>by
   obtain rfl : i = 0 := by omega
   exact hF
 have hne : 0 < (spL p noF [((0 : Int),p.start)]).length := List.length_pos_of_mem ((spL_mem hg hs1).2 (.base (.head _)))
 have h75b := S75 p hg f (spL p noF [((0 : Int),p.start)]) (spL_ok hg) (spL_nd _ _ _) hne
 by_cases hf : f = noF
 ·have hE : reachL p f = spL p noF [((0 : Int),p.start)] := if_pos hf
  have hv : vEqL [.int .i64 f.1,.bool f.2] [.int .i64 (-1),.bool false] = true := by rw [hf]; exact vEq_flt _ _
  rw [hE]
  refine sound (d := 2) tok2 mixed2 Tryz.func38 (by kernel_rfl) (by kernel_rfl) ?_
  (conv=>whnf); refine .inl ⟨_,_,byX rfl (h75 (by omega) rfl),?_⟩
  (conv=>whnf); refine ifB_intro (fun w1=>?_) (fun w1=>?_)
  ·(conv=>whnf); refine ⟨?_,nofun⟩
   (first | contradiction | exact ⟨rfl,rfl,fun _ _=>rfl⟩)
  ·exact absurd (hv.symm.trans w1) nofun
 ·have hE : reachL p f = spL p f (spL p noF [((0 : Int),p.start)]) := if_neg hf
  have hv : vEqL [.int .i64 f.1,.bool f.2] [.int .i64 (-1),.bool false] = false := by
   cases h : vEqL [.int .i64 f.1,.bool f.2] [.int .i64 (-1),.bool false] with
   | false=>rfl
   | true=>exact absurd (Prod.ext (veq_if h).1 (veq_if h).2) hf
  rw [hE]
  refine sound (d := 2) tok2 mixed2 Tryz.func38 (by kernel_rfl) (by kernel_rfl) ?_
  (conv=>whnf); refine .inl ⟨_,_,byX rfl (h75 (by omega) rfl),?_⟩
  (conv=>whnf); refine ifB_intro (fun w1=>?_) (fun w1=>?_)
  ·exact absurd (hv.symm.trans w1) nofun
  ·(conv=>whnf); refine .inl ⟨_,_,byX rfl (h75b),?_⟩
   (conv=>whnf); refine ⟨?_,nofun⟩
   (first | contradiction | exact ⟨rfl,rfl,fun _ _=>rfl⟩)
end Go.Tr

/- Plain law: all that is reached with all faults, in order; traps, ranks, the longest way home. Conditions: none. -/
-- seat YtinfmponjglalaaGreatDoor
namespace Go.Tr
open Go Go.Proofs
set_option maxRecDepth 20000
set_option maxHeartbeats 8000000

abbrev nF (p : Pln) : Nat := 2 * p.sig.length + 1
noncomputable def rch (p : Pln) (i : Nat) : List S2 := reachL p (fltAt i)
noncomputable def plR (p : Pln) (i : Nat) : List Plc := (rch p i).map fun s=>(s,fltAt i)
noncomputable def pre (p : Pln) (i j : Nat) : List Plc := ((List.range i).flatMap (plR p)) ++ (plR p i).take j
noncomputable def plL (p : Pln) : List Plc := (List.range (nF p)).flatMap (plR p)
theorem plR_len (p : Pln) (i : Nat) : (plR p i).length = (rch p i).length := List.length_map ..
theorem pre_s {p : Pln} {i j : Nat} (h : j < (rch p i).length) : pre p i (j + 1) = pre p i j ++ [((rch p i).getD j (0,0),fltAt i)] := by
 unfold pre
 rw [List.append_assoc,List.take_add_one,List.getElem?_eq_getElem (by rw [plR_len]; exact h)]
 congr 2
 unfold plR
 rw [List.getElem_map,List.getD_eq_getElem?_getD,List.getElem?_eq_getElem h]; rfl
theorem pre_n (p : Pln) (i : Nat) : pre p i (rch p i).length = pre p (i + 1) 0 := by
  unfold pre
  rw [List.take_of_length_le (by rw [plR_len]; exact Nat.le_refl _),List.range_succ,List.flatMap_append,List.take_zero,List.append_nil,List.flatMap_cons,List.flatMap_nil,List.append_nil]
theorem pre_e (p : Pln) : pre p (nF p) 0 = plL p := by
  unfold pre plL
  rw [List.take_zero,List.append_nil]
theorem pre_le {p : Pln} {i j : Nat} (hi : i < nF p) : ∃ r,plL p = pre p i j ++ r := by
 have key : ∀ k,i + 1 + k = nF p → ∃ r,plL p = pre p (i + 1) 0 ++ r := fun k hk=>by
  refine ⟨((List.range k).map (i + 1 + ·)).flatMap (plR p),?_⟩
  unfold plL pre
  rw [← hk,List.range_add,List.flatMap_append,List.take_zero,List.append_nil]
 obtain ⟨r,hr⟩ := key (nF p - (i + 1)) (by omega)
 refine ⟨(plR p i).drop j ++ r,?_⟩
 rw [hr,← pre_n]
 unfold pre
 rw [List.take_of_length_le (i := (rch p i).length) (by rw [plR_len]; exact Nat.le_refl _)]
 rw [List.append_assoc,List.append_assoc,← List.append_assoc (List.take j (plR p i)),List.take_append_drop]
def hom (p : Pln) (q : Plc) : Option (List S2 × Int) := homeF p q.2 q.1
noncomputable def trapO (p : Pln) : Option Plc := (plL p).find? fun q=>(hom p q).isNone
def AllH (p : Pln) (L : List Plc) : Prop := ∀ q ∈ L,(hom p q).isNone = false
theorem trap_some {p : Pln} {i j : Nat} (hi : i < nF p) (hj : j < (rch p i).length) (ha : AllH p (pre p i j)) (hn : hom p ((rch p i).getD j (0,0),fltAt i) = none) : trapO p = some ((rch p i).getD j (0,0),fltAt i) := by
 obtain ⟨r,hr⟩ := pre_le (p := p) (i := i) (j := j + 1) hi
 unfold trapO
 rw [hr,pre_s hj,List.append_assoc,List.find?_append,List.find?_eq_none.2 (fun q hq=>by rw [ha q hq]; nofun)]
 rw [Option.none_or,List.singleton_append,List.find?_cons_of_pos (by rw [hn]; rfl)]
theorem trap_none {p : Pln} (ha : AllH p (plL p)) : trapO p = none := List.find?_eq_none.2 fun q hq=>by rw [ha q hq]; nofun
theorem AllH.snoc {p : Pln} {L : List Plc} (h : AllH p L) {q : Plc} {r : List S2 × Int} (hq : hom p q = some r) : AllH p (L ++ [q]) := fun x hx=>by
 rcases List.mem_append.1 hx with h1 | h1
 ·exact h x h1
 ·rw [List.mem_singleton.1 h1,hq]; rfl
def rnk (p : Pln) (q : Plc) : Rnk := (q,match hom p q with | some r=>(r.1.length : Int) | none=>0)
def tik (p : Pln) (q : Plc) : Int := match hom p q with | some r=>r.2 | none=>0
theorem rnk_some {p : Pln} {q : Plc} {r : List S2 × Int} (h : hom p q = some r) : rnk p q = (q,(r.1.length : Int)) := by unfold rnk; rw [h]
theorem tik_some {p : Pln} {q : Plc} {r : List S2 × Int} (h : hom p q = some r) : tik p q = r.2 := by unfold tik; rw [h]
def lngL (p : Pln) (L : List Plc) : Int := L.foldl (fun m q=>max m (tik p q)) 0
theorem lng_snoc (p : Pln) (L : List Plc) (q : Plc) : lngL p (L ++ [q]) = max (lngL p L) (tik p q) := by simp [lngL]
theorem rch_len {p : Pln} (hg : Good p) (i : Nat) : (rch p i).length ≤ 320 := reach_len hg
theorem pre_len {p : Pln} (hg : Good p) (i j : Nat) (hj : j ≤ 320) : (pre p i j).length ≤ 320 * (i + 1) := by
 have key : ∀ i,((List.range i).flatMap (plR p)).length ≤ 320 * i := fun i=>by
  induction i with
  | zero=>simp
  | succ i ih =>
   have := rch_len hg i
   rw [List.range_succ,List.flatMap_append,List.length_append,List.flatMap_cons,List.flatMap_nil,List.append_nil,plR_len]
   omega
 unfold pre
 have := key i
 rw [List.length_append,List.length_take]
 omega
theorem rch_ok {p : Pln} (hg : Good p) {i j : Nat} (h : j < (rch p i).length) : OkS p ((rch p i).getD j (0,0)) := reach_ok hg _ (getD_mem h)
end Go.Tr

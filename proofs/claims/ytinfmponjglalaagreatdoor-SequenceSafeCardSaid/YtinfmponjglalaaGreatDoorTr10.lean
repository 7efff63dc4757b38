/- slices.SortFunc over states, laid by the kit (printed by its tool in plain text). Conditions: none. -/
import Derived.Shelf.SlSortCmp.WholeK
import Derived.Test.YtinfmponjglalaaGreatDoorProg
import Derived.Test.YtinfmponjglalaaGreatDoorTr09
import Derived.Test.YtinfmponjglalaaGreatDoorTr08
set_option linter.unusedSectionVars false
set_option linter.unnecessarySimpa false
set_option linter.unusedVariables false
set_option linter.unusedSimpArgs false

-- seat YtinfmponjglalaaGreatDoor
namespace Go.Proofs
open Go.Shelf
def Tryz.sortS_ren : Go.Shelf.Ren := ⟨fun | 6=>107 | 15=>120 | 14=>119 | 28=>129 | 29=>130 | 20=>121 | 21=>122 | 22=>123 | 23=>124 | 24=>125 | 25=>126 | 26=>127 | 27=>128 | 46=>131 | 47=>132 | 48=>133 | 49=>134 | 50=>135 | 57=>136 | n=>n,fun | 22=>31 | 24=>41 | 25=>162 | 3=>3 | 39=>173 | 0=>0 | 53=>183 | 55=>185 | 4=>4 | 46=>177 | 45=>176 | 50=>114 | 5=>5 | 9=>9 | 66=>186 | 70=>190 | 76=>192 | 77=>83 | n=>n,fun | n=>n⟩
theorem Tryz.sortS : Go.Proofs.SlLaysF0.n6 Tryz.prog Tryz.sortS_ren := {
 mixed := by kernel_rfl
 f6 := ⟨Tryz.f107.name,by decide,Tryz.func107.trans (congrArg some (by kernel_rfl))⟩
 f14 := ⟨Tryz.f119.name,by decide,Tryz.func119.trans (congrArg some (by kernel_rfl))⟩
 f15 := Tryz.func120.trans (congrArg some (by kernel_rfl))
 f20 := ⟨Tryz.f121.name,by decide,Tryz.func121.trans (congrArg some (by kernel_rfl))⟩
 f21 := ⟨Tryz.f122.name,by decide,Tryz.func122.trans (congrArg some (by kernel_rfl))⟩
 f22 := ⟨Tryz.f123.name,by decide,Tryz.func123.trans (congrArg some (by kernel_rfl))⟩
 f23 := ⟨Tryz.f124.name,by decide,Tryz.func124.trans (congrArg some (by kernel_rfl))⟩
 f24 := ⟨Tryz.f125.name,by decide,Tryz.func125.trans (congrArg some (by kernel_rfl))⟩
 f25 := ⟨Tryz.f126.name,by decide,Tryz.func126.trans (congrArg some (by kernel_rfl))⟩
 f26 := ⟨Tryz.f127.name,by decide,Tryz.func127.trans (congrArg some (by kernel_rfl))⟩
 f27 := ⟨Tryz.f128.name,by decide,Tryz.func128.trans (congrArg some (by kernel_rfl))⟩
 f28 := Tryz.func129.trans (congrArg some (by kernel_rfl))
 f29 := Tryz.func130.trans (congrArg some (by kernel_rfl))
 f46 := ⟨Tryz.f131.name,by decide,Tryz.func131.trans (congrArg some (by kernel_rfl))⟩
 f47 := Tryz.func132.trans (congrArg some (by kernel_rfl))
 f48 := Tryz.func133.trans (congrArg some (by kernel_rfl))
 f49 := ⟨Tryz.f134.name,by decide,Tryz.func134.trans (congrArg some (by kernel_rfl))⟩
 f50 := ⟨Tryz.f135.name,by decide,Tryz.func135.trans (congrArg some (by kernel_rfl))⟩
 f57 := ⟨Tryz.f136.name,by decide,Tryz.func136.trans (congrArg some (by kernel_rfl))⟩
 t0 := Tryz.underlying0
 a0 := Tryz.isAgg0
 z0 := Tryz.sizeOf0
 v0 := Tryz.zeroValue0
 t3 := Tryz.underlying3
 a3 := Tryz.isAgg3
 z3 := Tryz.sizeOf3
 v3 := Tryz.zeroValue3
 t4 := Tryz.underlying4
 a4 := Tryz.isAgg4
 z4 := Tryz.sizeOf4
 v4 := Tryz.zeroValue4
 t5 := Tryz.underlying5
 a5 := Tryz.isAgg5
 z5 := Tryz.sizeOf5
 v5 := Tryz.zeroValue5
 t9 := Tryz.underlying9
 a9 := Tryz.isAgg9
 z9 := Tryz.sizeOf9
 v9 := Tryz.zeroValue9
 t22 := Tryz.underlying31
 a22 := Tryz.isAgg31
 z22 := Tryz.sizeOf31
 v22 := Tryz.zeroValue31
 t25 := Tryz.underlying162
 a25 := Tryz.isAgg162
 z25 := Tryz.sizeOf162
 v25 := Tryz.zeroValue162
 t39 := Tryz.underlying173
 a39 := Tryz.isAgg173
 z39 := Tryz.sizeOf173
 v39 := Tryz.zeroValue173
 t45 := Tryz.underlying176
 a45 := Tryz.isAgg176
 z45 := Tryz.sizeOf176
 v45 := Tryz.zeroValue176
 t46 := Tryz.underlying177
 a46 := Tryz.isAgg177
 z46 := Tryz.sizeOf177
 v46 := Tryz.zeroValue177
 t50 := Tryz.underlying114
 a50 := Tryz.isAgg114
 z50 := Tryz.sizeOf114
 v50 := Tryz.zeroValue114
 t53 := Tryz.underlying183
 a53 := Tryz.isAgg183
 z53 := Tryz.sizeOf183
 v53 := Tryz.zeroValue183
 t55 := Tryz.underlying185
 a55 := Tryz.isAgg185
 z55 := Tryz.sizeOf185
 v55 := Tryz.zeroValue185
 t66 := Tryz.underlying186
 a66 := Tryz.isAgg186
 z66 := Tryz.sizeOf186
 v66 := Tryz.zeroValue186
 t70 := Tryz.underlying190
 a70 := Tryz.isAgg190
 z70 := Tryz.sizeOf190
 v70 := Tryz.zeroValue190
 t76 := Tryz.underlying192
 a76 := Tryz.isAgg192
 z76 := Tryz.sizeOf192
 v76 := Tryz.zeroValue192
 t77 := Tryz.underlying83
 a77 := Tryz.isAgg83
 z77 := Tryz.sizeOf83
 v77 := Tryz.zeroValue83 }
end Go.Proofs

/- Contracts of chapter 7: states sorted; after a state. Conditions: none. -/
-- seat YtinfmponjglalaaGreatDoor
namespace Go.Tr
open Go Go.Proofs Go.Shelf
set_option maxRecDepth 20000
set_option maxHeartbeats 8000000

def cmpS (a b : S2) : Int := if cmpI a.1 b.1 = 0 then cmpI a.2 b.2 else cmpI a.1 b.1
theorem cmpS_neg (a b : S2) : cmpS a b < 0 ↔ ltS a b := by
  unfold cmpS cmpI ltS
  split <;> split <;> (try split) <;> omega
instance ltS_dec (a b : S2) : Decidable (ltS a b) := by unfold ltS; infer_instance
theorem ltS_b (x y : S2) : ltOf (α := S2) cmpS x y = decide (ltS x y) := by
 unfold ltOf
 rw [Bool.eq_iff_iff,decide_eq_true_iff,decide_eq_true_iff]
 exact cmpS_neg x y
theorem ltS_swo : Go.Sort.SWO (ltOf (α := S2) cmpS) := by
 refine ⟨fun x=>?_,fun x y z h1 h2=>?_,fun x y z h1 h2=>?_⟩
 ·rw [ltS_b]; exact decide_eq_false (ltS_ir _)
 ·rw [ltS_b] at *
  exact decide_eq_true (ltS_tr (of_decide_eq_true h1) (of_decide_eq_true h2))
 ·rw [ltS_b] at *
  have g1 := of_decide_eq_false h1
  have g2 := of_decide_eq_false h2
  refine decide_eq_false fun h=>?_
  unfold ltS at *
  omega
theorem sort_list [GTab] (hkp : GTab.kept) {P : Program} {ρ : Go.Shelf.Ren} {α : Type} [Inhabited α] (L : SlLaysF0.n6 P ρ) (k : Nat) (aE : ∀ w,(isAgg (ρ.t 24)).run P w = .ok true w) (zE : ∀ w,(Go.sizeOf (ρ.t 24)).run P w = .ok k w) (enc : α → List Value)
  (hk : ∀ x,(enc x).length = k) (h1 : ∀ x,∀ v ∈ enc x,v.oneCell' = true) (cf : α → α → Int) (hO : Go.Sort.SWO (ltOf cf)) (g : FuncId) (hg : ∀ x y : α,Sound1 P g [.agg ((enc x).map .val),.agg ((enc y).map .val)] (.val (.int .i64 (cf x y))) false)
  (ef : ∀ z w,(callFunc (ρ.f 6) z).run P w = .ok (.enter (ρ.f 6) z) w) (d : List α) (hsz : d.length < 4611686018427387904) :
  ∃ d' : List α,d'.Perm d ∧ (d'.Pairwise fun a b=>¬ cf b a < 0) ∧ Sound2 P (ρ.f 6) k d.length (fun i=>(enc (d.getD i default)).map .val) [.func (.func g) 0 []] (fun i=>(enc (d'.getD i default)).map .val) := by
 have hs := sort_sound2 hkp L k aE zE enc hk h1 cf hO g hg ef d.toArray (by simpa using hsz)
 have hp := Go.Sort.pdq_sorts (ltOf cf) hO d.toArray 0 d.toArray.size (Lib.bitLen d.toArray.size) true true (Nat.zero_le _) (Nat.le_refl _) (Or.inl rfl)
 generalize Go.Sort.pdq (ltOf cf) d.toArray 0 d.toArray.size (Lib.bitLen d.toArray.size) true true = D at *
 obtain ⟨⟨p1,p2,p3⟩,p4⟩ := hp
 have eg : ∀ (A : Array α) (i : Nat),A[i]! = A.toList.getD i default := fun A i=>by
  rw [List.getD_eq_getElem?_getD,Array.getElem?_toList,getElem!_def]
  cases A[i]? <;> rfl
 have ex : ∀ (A : Array α),A.size = d.toArray.size → (A.extract 0 d.toArray.size).toList = A.toList := fun A h=>by
  rw [← h,Array.extract_size]
 refine ⟨D.toList,?_,?_,?_⟩
 ·rw [ex D p1,ex d.toArray rfl] at p3
  exact p3
 ·rw [List.pairwise_iff_getElem]
  intro i j hi hj hij
  have hj' : j < D.size := hj
  have hi' : i < D.size := hi
  have h := p4 i j (Nat.zero_le _) hij (by omega)
  have e1 : D[i]! = D.toList[i] := getElem!_pos D i hi'
  have e2 : D[j]! = D.toList[j] := getElem!_pos D j hj'
  rw [e1,e2] at h
  exact of_decide_eq_false h
 ·simp only [eg] at hs
  exact hs

theorem S108 (a b : S2) : SP 108 [stA a,stA b] (i64 (cmpS a b)) false := by
 have h1 := S92 a.1 b.1
 have h2 := S92 a.2 b.2
 have h4 := @S91_2 (cmpI a.1 b.1) (cmpI a.2 b.2)
 have e : firstOf [cmpI a.1 b.1,cmpI a.2 b.2] = cmpS a b := by
  rw [first2]
  unfold cmpS
  by_cases h : cmpI a.1 b.1 = 0
  ·rw [if_neg (not_not_intro h),if_pos h]
  ·rw [if_pos h,if_neg h]
 rw [e] at h4
 refine sound (d := 2) tok2 mixed2 Tryz.func108 (by kernel_rfl) (by kernel_rfl) ?_
 (conv=>whnf); refine ⟨[],by kernel_rfl,?_⟩
 (conv=>whnf); refine .inl ⟨_,_,byX rfl (Sound1.pl (h1) rfl),?_⟩
 (conv=>whnf); refine .inl ⟨_,_,byX rfl (Sound1.pl (h2) rfl),?_⟩
 (conv=>whnf); refine .inl ⟨_,_,byX rfl (Sound1.pl (h4 ⟨rfl,rfl⟩) rfl),?_⟩
 (conv=>whnf); refine ⟨?_,nofun⟩
 (first | contradiction | rfl)
theorem S106 (A : List S2) (hl : A.length ≤ 1000000) (h0 : 0 < A.length) : SP 106 [sts A] (sts A) true := by
 refine sound (d := 2) tok2 mixed2 Tryz.func106 (by kernel_rfl) (by kernel_rfl) ?_
 rintro (_ | _) w1
 ·(conv=>whnf); refine .inl ?_
  (conv=>whnf); refine ⟨⟨(by omega),(by show _ * (16 + 1) ≤ _; omega)⟩,?_⟩
  (conv=>whnf); refine ⟨?_,fun _=>⟨rfl,?_⟩⟩
  ·exact ⟨rfl,Nat.zero_add _,fun i hi=>rfl⟩
  ·exact ⟨fun i _ x hx=>by
    rcases List.mem_cons.1 hx with e | hx
    ·exact ⟨_,e⟩
    ·exact ⟨_,List.mem_singleton.1 hx⟩,trivial⟩
 ·(exact absurd (w1 (by omega)) nofun)
theorem S107 (Q : List S2) (hl : Q.length ≤ 1000000) :
  ∃ Q' : List S2,Q'.Perm Q ∧ (Q'.Pairwise fun a b=>¬ ltS b a) ∧ Sound2 Tryz.prog 107 2 Q.length (fun i=>stC (Q.getD i (0,0))) [.func (.func 108) 0 []] (fun i=>stC (Q'.getD i (0,0))) := by
 letI : Inhabited S2 := ⟨(0,0)⟩
 obtain ⟨D,d1,d2,d3⟩ := sort_list trivial (α := S2) Tryz.sortS 2 (fun _=>by kernel_rfl) (fun _=>by kernel_rfl) (fun x=>[.int .i64 x.1,.int .i64 x.2]) (fun _=>rfl)
  (fun x v hv=>by
   simp only [List.mem_cons,List.not_mem_nil,or_false] at hv
   rcases hv with rfl | rfl <;> rfl)
  cmpS ltS_swo 108 (fun x y=>S108 x y) (fun _ _=>by kernel_rfl) Q (by omega)
 exact ⟨D,d1,d2.imp fun h g=>h ((cmpS_neg _ _).2 g),d3⟩
end Go.Tr

/- Contracts of chapter 7: which ranks are a proof, the reference. Conditions: none. -/
namespace Go.Tr
open Go Go.Proofs
set_option maxRecDepth 20000
set_option maxHeartbeats 8000000

def rank1E (p : Pln) (l : List Rnk) (i : Nat) : Int :=
  firstOf [stateE p (l.getD i rk0).1.1,faultE p (l.getD i rk0).1.2,if decide (0 ≤ (l.getD i rk0).2 ∧ (l.getD i rk0).2 ≤ 4000) then 0 else 2,if (findN l (l.getD i rk0).1 i).isSome then 23 else 0]
def rankS (p : Pln) : Plc := ((0,p.start),noF)
def ranksF (p : Pln) (l : List Rnk) : Int × Int :=
 match firstN (fun i=>rank1E p l i != 0) l.length 0 with
 | some i=>(i,rank1E p l i)
 | none=>if findI l (rankS p) l.length < 0 then (0,14) else match firstN (fun i=>rank2E p l (l.getD i rk0) != 0) l.length 0 with
  | some i=>(i,rank2E p l (l.getD i rk0))
  | none=>(0,0)
theorem ranks_1 {p : Pln} {l : List Rnk} {k : Nat} (hk : k < l.length) (h : ∀ i,i < k → (rank1E p l i != 0) = false) (hp : ¬ rank1E p l k = 0) : ranksF p l = ((k : Int),rank1E p l k) := by
  unfold ranksF
  rw [firstN_at hk h (bne_iff_ne.2 hp)]
theorem ranks_14 {p : Pln} {l : List Rnk} (h : ∀ i,i < l.length → (rank1E p l i != 0) = false) (hs : findI l (rankS p) l.length < 0) : ranksF p l = (0,14) := by
 unfold ranksF
 rw [firstN_none h]
 exact if_pos hs
theorem ranks_2 {p : Pln} {l : List Rnk} {k : Nat} (h : ∀ i,i < l.length → (rank1E p l i != 0) = false) (hs : ¬ findI l (rankS p) l.length < 0) (hk : k < l.length) (h2 : ∀ i,i < k → (rank2E p l (l.getD i rk0) != 0) = false) (hp : ¬ rank2E p l (l.getD k rk0) = 0) : ranksF p l = ((k : Int),rank2E p l (l.getD k rk0)) := by
 unfold ranksF
 rw [firstN_none h]
 show (if _ then _ else _) = _
 rw [if_neg hs,firstN_at hk h2 (bne_iff_ne.2 hp)]
theorem ranks_0 {p : Pln} {l : List Rnk} (h : ∀ i,i < l.length → (rank1E p l i != 0) = false) (hs : ¬ findI l (rankS p) l.length < 0) (h2 : ∀ i,i < l.length → (rank2E p l (l.getD i rk0) != 0) = false) : ranksF p l = (0,0) := by
 unfold ranksF
 rw [firstN_none h]
 show (if _ then _ else _) = _
 rw [if_neg hs,firstN_none h2]
theorem rank_ok {p : Pln} {l : List Rnk} {i : Nat} (h : (rank1E p l i != 0) = false) : OkS p (l.getD i rk0).1.1 ∧ OkF p (l.getD i rk0).1.2 := by
 have h := bne_eq_false_iff_eq.1 h
 unfold rank1E at h
 rw [first4_iff] at h
 exact ⟨state_ok.1 h.1,fault_ok h.2.1⟩
end Go.Tr

/- Contracts of chapter 7: which ranks are a proof, the package; the law SequenceProofs. Conditions: none. -/
namespace Go.Tr
open Go Go.Proofs
set_option maxRecDepth 20000
set_option maxHeartbeats 8000000

abbrev kkP : KK := .agg [.int .i64,.int .i64,.int .i64,.bool]
def dInt : List Value → Option (Int × List Value)
  | .int _ a :: r=>some (a,r)
  | _=>none
def dBool : List Value → Option (Bool × List Value)
  | .bool a :: r=>some (a,r)
  | _=>none
theorem vI (L M : List Value) (a : Int) : vEqL L (.int .i64 a :: M) = match dInt L with | some x=>x.1 == a && vEqL x.2 M | none=>false := by
 cases L with
 | nil=>rfl
 | cons x r=>cases x <;> rfl
theorem vB (L M : List Value) (a : Bool) : vEqL L (.bool a :: M) = match dBool L with | some x=>x.1 == a && vEqL x.2 M | none=>false := by
 cases L with
 | nil=>rfl
 | cons x r=>cases x <;> rfl
theorem vN (L : List Value) : vEqL L [] = L.isEmpty := by
 cases L with
 | nil=>rfl
 | cons x r=>cases x <;> rfl
def decQ (L : List Value) : Option Plc :=
 match dInt L with
 | none=>none
 | some a => match dInt a.2 with
  | none=>none
  | some b => match dInt b.2 with
   | none=>none
   | some c=>match dBool c.2 with
    | none=>none
    | some d=>if d.2.isEmpty then some ((a.1,b.1),(c.1,d.1)) else none
def decP : Value → Option Plc
  | .agg l=>decQ l.toList
  | _=>none
def hasP (B : Plc → Bool) (v : Value) : Bool := match decP v with | some x=>B x | none=>false
def getP (G : Plc → Int) (v : Value) : AV := i64 (match decP v with | some x=>G x | none=>0)
def keyP (q : Plc) : Value := .agg #[.int .i64 q.1.1,.int .i64 q.1.2,.int .i64 q.2.1,.bool q.2.2]
theorem keyQ (L : List Value) (q : Plc) : vEqL L [.int .i64 q.1.1,.int .i64 q.1.2,.int .i64 q.2.1,.bool q.2.2] = match decQ L with | some x=>decide (x = q) | none=>false := by
 unfold decQ
 rw [vI]
 cases dInt L with
 | none=>rfl
 | some a =>
  show (a.1 == q.1.1 && vEqL a.2 _) = _
  rw [vI]
  cases h2 : dInt a.2 with
  | none=>simp [h2]
  | some b =>
   show (a.1 == q.1.1 && (b.1 == q.1.2 && vEqL b.2 _)) = _
   rw [vI]
   cases h3 : dInt b.2 with
   | none=>simp [h2,h3]
   | some c =>
    show (a.1 == q.1.1 && (b.1 == q.1.2 && (c.1 == q.2.1 && vEqL c.2 _))) = _
    rw [vB]
    cases h4 : dBool c.2 with
    | none=>simp [h2,h3,h4]
    | some d =>
     show (a.1 == q.1.1 && (b.1 == q.1.2 && (c.1 == q.2.1 && (d.1 == q.2.2 && vEqL d.2 [])))) = _
     rw [vN]
     simp only [h2,h3,h4]
     cases d.2.isEmpty with
     | true =>
      rw [Bool.eq_iff_iff]
      simp [Prod.ext_iff,and_assoc]
     | false=>simp
theorem keyPD (v : Value) (q : Plc) : opEv.keyEq v (keyP q) = hasP (fun x=>decide (x = q)) v := by
 cases v with
 | agg l=>exact keyQ l.toList q
 | _=>rfl
def hasK (l : List Rnk) (k : Nat) (q : Plc) : Bool := (findN l q k).isSome
def lookK (l : List Rnk) (k : Nat) (q : Plc) : Int := match findN l q k with | some i=>(l.getD i rk0).2 | none=>0
abbrev pmA (l : List Rnk) (k : Nat) : AV := .rmap kkP 3 (hasP (hasK l k)) (getP (lookK l k))
theorem firstN_succ {P : Nat → Bool} : ∀ (n i : Nat),firstN P (n + 1) i = match firstN P n i with | some j=>some j | none=>if P (i + n) then some (i + n) else none
 | 0,i=>by unfold firstN; rfl
 | n + 1,i=>by
  conv=>lhs; unfold firstN
  conv=>rhs; unfold firstN
  by_cases h : P i = true
  ·rw [if_pos h,if_pos h]
  ·rw [if_neg h,if_neg h,firstN_succ n (i + 1),show i + 1 + n = i + (n + 1) by omega]
theorem findN_succ (l : List Rnk) (q : Plc) (k : Nat) : findN l q (k + 1) = match findN l q k with | some j=>some j | none=>if atP l q k then some k else none := by
  unfold findN
  rw [firstN_succ,Nat.zero_add]
theorem hasP_put (l : List Rnk) (k : Nat) (v : Value) : Bool.or (hasP (hasK l k) v) (opEv.keyEq v (keyP (l.getD k rk0).1)) = hasP (hasK l (k + 1)) v := by
 rw [keyPD]
 unfold hasP
 cases decP v with
 | none=>rfl
 | some x =>
  show (hasK l k x || decide (x = (l.getD k rk0).1)) = hasK l (k + 1) x
  unfold hasK
  rw [findN_succ]
  cases findN l x k with
  | some j=>rfl
  | none =>
   show decide _ = _
   unfold atP
   by_cases h : (l.getD k rk0).1 = x
   ·rw [if_pos (decide_eq_true h),decide_eq_true h.symm]; rfl
   ·rw [if_neg (by rw [decide_eq_false h]; nofun),decide_eq_false (fun e=>h e.symm)]; rfl
theorem getP_put (l : List Rnk) (k : Nat) (hn : hasK l k (l.getD k rk0).1 = false) (v : Value) : (bif opEv.keyEq v (keyP (l.getD k rk0).1) then i64 (l.getD k rk0).2 else getP (lookK l k) v) = getP (lookK l (k + 1)) v := by
 rw [keyPD]
 unfold hasP getP
 cases decP v with
 | none=>rfl
 | some x =>
  show (bif decide (x = (l.getD k rk0).1) then i64 (l.getD k rk0).2 else i64 (lookK l k x)) = i64 (lookK l (k + 1) x)
  unfold lookK
  rw [findN_succ]
  by_cases h : (l.getD k rk0).1 = x
  ·subst h
   rw [decide_eq_true rfl]
   cases hf : findN l (l.getD k rk0).1 k with
   | some j=>unfold hasK at hn; rw [hf] at hn; cases hn
   | none =>
    show _ = i64 (match (if atP l (l.getD k rk0).1 k = true then some k else none) with | some i=>(l.getD i rk0).2 | none=>0)
    rw [if_pos (show atP l (l.getD k rk0).1 k = true from decide_eq_true rfl)]; rfl
  ·rw [decide_eq_false (fun e=>h e.symm)]
   cases findN l x k with
   | some j=>rfl
   | none =>
    show _ = i64 (match (if atP l x k = true then some k else none) with | some i=>(l.getD i rk0).2 | none=>0)
    rw [if_neg (show ¬ atP l x k = true by unfold atP; rw [decide_eq_false h]; nofun)]; rfl
theorem hasP_nil (l : List Rnk) (v : Value) : hasP (hasK l 0) v = false := by
  unfold hasP
  cases decP v <;> rfl
theorem getP_nil (l : List Rnk) (v : Value) : getP (lookK l 0) v = i64 0 := by
  unfold getP
  cases decP v <;> rfl
theorem S87 (p : Pln) (s : S2) (f : Int × Bool) : SP 87 [planA p,stA s,ftA f] (.func (.func 112) 0 [.rptr (planC p),.rptr (stC s),.rptr (fltC f)]) false := by
 refine sound (d := 2) tok2 mixed2 Tryz.func87 (by kernel_rfl) (by kernel_rfl) ?_
 (conv=>whnf); refine ⟨?_,nofun⟩
 rfl
def cAt (p : Pln) (s : S2) (i : Nat) : Int := ((-1 : Int) :: (stp p s).exits).getD i 0
theorem succs_at {p : Pln} {f : Int × Bool} {s : S2} {i : Nat} (h : i < (stp p s).exits.length + 1) : (succs p f s).getD i (0,0) = (turnF p f s (cAt p s i)).1 := by
 unfold succs cAt
 cases i with
 | zero=>rfl
 | succ i =>
  have : i < (stp p s).exits.length := by omega
  simp [List.getD_eq_getElem?_getD,this]
theorem succs_len {p : Pln} {f : Int × Bool} {s : S2} : (succs p f s).length = (stp p s).exits.length + 1 := by
  simp [succs]
theorem cAt_row0 {p : Pln} {s : S2} {i : Nat} (h : i < 1) : [i64 (cAt p s i)] = List.take 1 (List.drop (i * 1) [i64 (-1)]) := by
  obtain rfl : i = 0 := by omega
  rfl
theorem cAt_row {p : Pln} {s : S2} {i : Nat} (h : i < 1 + (stp p s).exits.length) : [i64 (cAt p s i)] = if i < 1 then List.take 1 (List.drop ((0 + i) * 1) [i64 (-1)]) else [i64 ((stp p s).exits.getD (i - 1) 0)] := by
 cases i with
 | zero=>rfl
 | succ i =>
  rw [if_neg (by omega)]
  rfl
theorem has_key {l : List Rnk} {p : Pln} {f : Int × Bool} {s : S2} {j : Nat} {b : Bool} (h : hasP (hasK l l.length) (.agg #[.int .i64 (turnF p f s (cAt p s (0 + j))).1.1,.int .i64 (turnF p f s (cAt p s (0 + j))).1.2,.int .i64 f.1,.bool f.2]) = b) : hasQ l ((turnF p f s (cAt p s j)).1,f) = b := by
  rw [Nat.zero_add] at h
  exact h
theorem rank_if {A a b : Int} (h : A = if a < b then 0 else 19) : (if decide (a < b) = true then (0 : Int) else 19) = A := by
 rw [h]
 by_cases h1 : a < b
 ·rw [if_pos h1,if_pos (decide_eq_true h1)]
 ·rw [if_neg h1,if_neg (by rw [decide_eq_false h1]; nofun)]
theorem S60 (p : Pln) (hg : Good p) (l : List Rnk) (hl : l.length ≤ 1000000) (r : Rnk) (hs : OkS p r.1.1) : SP 60 [planA p, pmA l l.length, .agg (rkC r)] (i64 (rank2E p l r)) false := by
 have hat := hs.at
 have hn5 := hg.n
 have hxl12 : (stp p r.1.1).exits.length ≤ 12 := hg.few.exits _ hs.k
 have hb3 : Tryz.prog.types[3].bytes = 8 := by kernel_rfl
 have hneed : ¬ (stp p r.1.1).exits.length = 0 → (1 < 1 + (p.steps.getD r.1.1.1.toNat stp0).exits.length ∨ (p.steps.getD r.1.1.1.toNat stp0).exits.length = 0 ∧ 1 = 0) ∧ (1 + (p.steps.getD r.1.1.1.toNat stp0).exits.length) * (Tryz.prog.types[3].bytes + 1) ≤ 1000000000000 := fun h=>by
  rw [hb3]
  have h : ¬ (p.steps.getD r.1.1.1.toNat stp0).exits.length = 0 := h
  have h2 : (p.steps.getD r.1.1.1.toNat stp0).exits.length ≤ 12 := hxl12
  omega
 have h102 := S81 p (by omega)
 have h131 := S87 p r.1.1 r.1.2
 have h118 : SP 88 [planA p,stA r.1.1,ftA r.1.2] (vb (homeB p r.1.2 r.1.1)) false := S88 p r.1.1 r.1.2 hat
 have h81 := S85 p r.1.1 r.1.2 hat
 by_cases hf : r.1.2 = noF
 ·have hfe : vEqL [.int .i64 r.1.2.1, .bool r.1.2.2] [.int .i64 (-1), .bool false] = true := by rw [hf]; exact vEq_flt _ _
  refine sound (d := 2) tok2 mixed2 Tryz.func60 (by kernel_rfl) (by kernel_rfl) ?_
  (conv=>whnf); refine ifB_intro (fun w1=>?_) (fun w1=>?_)
  ·(conv => whnf); refine .inl ⟨_, _, byX rfl (h102), ?_⟩
   (conv=>whnf); refine ⟨[],[3,4,5,6,23,24,25],fun st mq=>∃ (j : Nat),(j ≤ 2 * p.sig.length + 1) ∧ (∀ i,i < j → (!hasQ l (r.1.1,fltAt i)) = false) ∧ st = ⟨[(3,.optr 0 0 0 0),(4,.optr 1 0 0 0),(5,.optr 2 0 0 0),(6,.optr 3 0 0 0),(23,fts p.sig.length),(24,i64 (2 * p.sig.length + 1 : Nat)),(25,i64 j)],⟨[⟨3,1,fun _=>planC p,0,false,true,true⟩,⟨1,1,fun _=>[pmA l l.length],0,false,true,true⟩,⟨5,1,fun _=>rkC r,0,false,true,true⟩,⟨1,1,fun _=>[i64 0],0,false,true,true⟩],[],none,0⟩,[]⟩ ∧ mq = 2 * p.sig.length + 1 - j,
    ⟨_,_,⟨0,by omega,fun i h=>absurd h (Nat.not_lt_zero i),rfl,rfl⟩,⟨⟨.inl rfl,rfl,rfl,rfl⟩,⟨bA,⟨bA,⟨bA,⟨bA,trivial⟩⟩⟩⟩,trivial⟩⟩,?_⟩
   rintro s0 m0 ⟨j,hj,hn1,rfl,hmeas⟩
   by_cases hlt : j < 2 * p.sig.length + 1
   ·conv=>whnf
    (conv=>whnf); refine ifB_dec (fun w2=>?_) (fun w2=>?_)
    ·conv=>whnf
     (conv=>whnf); refine ⟨⟨(by omega),(by omega)⟩,?_⟩
     conv=>whnf
     (conv=>whnf); refine ifB_not ?_
     conv=>whnf
     (conv=>whnf); refine ifB_intro (fun w3=>?_) (fun w3=>?_)
     ·conv=>whnf
      (conv=>whnf); refine ⟨inK64 (by omega) (by omega),?_⟩
      have e : hasQ l (r.1.1,fltAt j) = true := w3
      conv=>whnf
      (conv=>whnf); refine ⟨_,_,⟨⟨j + 1,by omega,inv_nextB hn1 (by rw [e]; rfl),rfl,rfl⟩,by omega⟩,⟨⟨.inl rfl,rfl,rfl,rfl⟩,⟨bA,⟨bA,⟨bA,⟨bA,trivial⟩⟩⟩⟩,trivial⟩⟩
     ·conv=>whnf
      (conv=>whnf); refine ⟨?_,nofun⟩
      have e : hasQ l (r.1.1,fltAt j) = false := w3
      have hm : missF p l r.1.1 = true := by
       unfold missF
       rw [firstN_at hlt hn1 (by rw [e]; rfl)]; rfl
      refine endi ?_
      unfold rank2E
      rw [hm,decide_eq_true hf]; rfl
    ·(exfalso; omega)
   ·have hm : missF p l r.1.1 = false := by
     obtain rfl : j = 2 * p.sig.length + 1 := by omega
     unfold missF
     rw [firstN_none hn1]; rfl
    have hF : rank2E p l r = _ := if_neg (by rw [hm,Bool.and_false]; nofun)
    by_cases hxl : (stp p r.1.1).exits.length = 0
    ·refine ifB_dec (fun w2=>?_) (fun w2=>?_)
     ·(exfalso; omega)
     ·refine .inl ⟨_,_,byX rfl (h131),?_⟩
      refine ⟨(by first | rfl | assumption),?_⟩
      refine ⟨_,keep_ok [3,4,5,6,46] _,?_⟩
      refine ⟨⟨(by omega),(by omega)⟩,?_⟩
      refine .inr ?_
      refine ⟨by assumption,?_⟩
      refine ⟨[],[0,1,2,3,18,19,20],fun st mq=>∃ (j : Nat),(j ≤ (stp p r.1.1).exits.length + 1) ∧ (∀ i,i < j → (!hasQ l ((succs p r.1.2 r.1.1).getD i (0,0),r.1.2)) = false) ∧ st = ⟨[(0,.yld 0),(1,.rptr (planC p)),(2,.rptr (stC r.1.1)),(3,.rptr (fltC r.1.2)),(18,.oslice 4 0 0 1 (some 1)),(19,i64 (1 : Nat)),(20,i64 j)],⟨[⟨3,1,fun _=>planC p,0,false,true,true⟩,⟨1,1,fun _=>[pmA l l.length],0,false,true,true⟩,⟨5,1,fun _=>rkC r,0,false,true,true⟩,⟨1,1,fun _=>[i64 0],0,false,true,true⟩,⟨1,1,fun i=>[i64 (cAt p r.1.1 i)],0,false,true,true⟩],[],none,1⟩,[(3,.optr 0 0 0 0),(4,.optr 1 0 0 0),(5,.optr 2 0 0 0),(6,.optr 3 0 0 0),(46,.func (.func 112) 0 [.rptr (planC p),.rptr (stC r.1.1),.rptr (fltC r.1.2)])]⟩ ∧ mq = (stp p r.1.1).exits.length + 1 - j,
       ⟨_,_,⟨0,by omega,fun i h=>absurd h (Nat.not_lt_zero i),rfl,rfl⟩,⟨⟨.inl rfl,rfl,rfl,rfl⟩,⟨bA,⟨bA,⟨bA,⟨bA,⟨⟨rfl,rfl,rfl,rfl,fun _=>rfl,fun i h=>.inl (cAt_row0 h)⟩,trivial⟩⟩⟩⟩⟩,trivial⟩⟩,?_⟩
      rintro s0 m0 ⟨j,hj,hn2,rfl,hmeas⟩
      by_cases hlt : j < (stp p r.1.1).exits.length + 1
      ·have h92 := fun c=>S47 p r.1.1 r.1.2 c hat
       (conv=>whnf); refine ifB_dec (fun w3=>?_) (fun w3=>?_)
       ·(conv=>whnf); refine ⟨⟨(by omega),(by omega)⟩,?_⟩
        (conv=>whnf); refine .inl ⟨_,_,byX rfl (Sound1.pl (h92 _) rfl),?_⟩
        (conv=>whnf); refine ⟨(by first | rfl | assumption),?_⟩
        (conv=>whnf); refine ifB_not ?_
        (conv=>whnf); refine ifB_intro (fun w4=>?_) (fun w4=>?_)
        ·(conv=>whnf); refine ⟨inK64 (by omega) (by omega),?_⟩
         have e : hasQ l ((turnF p r.1.2 r.1.1 (cAt p r.1.1 j)).1,r.1.2) = true := has_key w4
         (conv=>whnf); refine ⟨_,_,⟨⟨j + 1,by omega,inv_nextB hn2 (by rw [succs_at hlt,e]; rfl),rfl,rfl⟩,by omega⟩,⟨⟨.inl rfl,rfl,rfl,rfl⟩,⟨bA,⟨bA,⟨bA,⟨bA,⟨bA,trivial⟩⟩⟩⟩⟩,trivial⟩⟩
        ·(conv=>whnf); refine ⟨?_,nofun⟩
         have e : hasQ l ((turnF p r.1.2 r.1.1 (cAt p r.1.1 j)).1,r.1.2) = false := has_key w4
         refine endi (hF.trans (if_pos ?_)).symm
         unfold missS
         rw [firstN_at (k := j) (by rw [succs_len]; exact hlt) hn2 (by rw [succs_at hlt,e]; rfl)]; rfl
       ·(exfalso; omega)
      ·obtain rfl : j = (stp p r.1.1).exits.length + 1 := by omega
       have hS : missS p l r.1 = false := by
        unfold missS
        rw [firstN_none (by rw [succs_len]; exact hn2)]; rfl
       rw [hS] at hF
       have hF := hF.trans (if_neg nofun)
       cases hx : homeTurnF p r.1.2 r.1.1 with
       | none =>
        rw [hx] at h81 hF
        (conv=>whnf); refine .inl ⟨_,_,byX rfl (Sound1.pl (h118) rfl),?_⟩
        (conv=>whnf); refine ifB_not ?_
        (conv=>whnf); refine ifB_beqB (fun w3=>?_) (fun w3=>?_)
        ·(conv=>whnf); refine .inl ⟨_,_,byX rfl (Sound1.pl (h81) rfl),?_⟩
         (conv=>whnf); refine ⟨[],by kernel_rfl,?_⟩
         (conv=>whnf); refine ifB_intro (fun w4=>?_) (fun w4=>?_)
         ·(conv=>whnf); refine .inl ⟨_,_,byX rfl (Sound1.pl (S45 _ _) rfl),?_⟩
          (conv=>whnf); refine ⟨?_,nofun⟩
          exact endi ((rank_a hF).2.1 w3 w4).symm
         ·(conv=>whnf); refine .inl ⟨_,_,byX rfl (Sound1.pl (S45 _ _) rfl),?_⟩
          (conv=>whnf); refine ⟨?_,nofun⟩
          exact endi ((rank_a hF).2.2 w3 w4).symm
        ·(conv=>whnf); refine ⟨?_,nofun⟩
         exact endi ((rank_a hF).1 w3).symm
       | some x =>
        rw [hx] at h81 hF
        (conv=>whnf); refine .inl ⟨_,_,byX rfl (Sound1.pl (h118) rfl),?_⟩
        (conv=>whnf); refine ifB_not ?_
        (conv=>whnf); refine ifB_beqB (fun w3=>?_) (fun w3=>?_)
        ·(conv=>whnf); refine .inl ⟨_,_,byX rfl (Sound1.pl (h81) rfl),?_⟩
         (conv=>whnf); refine ⟨[],by kernel_rfl,?_⟩
         (conv=>whnf); refine ifB_intro (fun w4=>?_) (fun w4=>?_)
         ·(conv=>whnf); refine .inl ⟨_,_,byX rfl (Sound1.pl (S45 _ _) rfl),?_⟩
          (conv=>whnf); refine ⟨?_,nofun⟩
          exact endi ((rank_a hF).2.1 w3 w4).symm
         ·(conv=>whnf); refine .inl ⟨_,_,byX rfl (Sound1.pl (S45 _ _) rfl),?_⟩
          (conv=>whnf); refine ⟨?_,nofun⟩
          exact endi (rank_if ((rank_a hF).2.2 w3 w4))
        ·(conv=>whnf); refine ⟨?_,nofun⟩
         exact endi ((rank_a hF).1 w3).symm
    ·have hneed := hneed hxl
     conv=>whnf
     (conv=>whnf); refine ifB_dec (fun w2=>?_) (fun w2=>?_)
     ·(exfalso; omega)
     ·conv => whnf
      (conv=>whnf); refine .inl ⟨_,_,byX rfl (h131),?_⟩
      conv=>whnf
      (conv=>whnf); refine ⟨(by first | rfl | assumption),?_⟩
      refine ⟨_,keep_ok [3,4,5,6,46] _,?_⟩
      conv=>whnf
      (conv=>whnf); refine ⟨⟨(by omega),(by omega)⟩,?_⟩
      conv=>whnf
      (conv=>whnf); refine .inl ?_
      conv=>whnf
      (conv=>whnf); refine ⟨by assumption,?_⟩
      conv=>whnf
      (conv=>whnf); refine ⟨[],[0,1,2,3,18,19,20],fun st mq=>∃ (j : Nat) (F4 : Nat → List AV),(j ≤ (stp p r.1.1).exits.length + 1) ∧ (∀ i,i < j → (!hasQ l ((succs p r.1.2 r.1.1).getD i (0,0),r.1.2)) = false) ∧ st = ⟨[(0,.yld 0),(1,.rptr (planC p)),(2,.rptr (stC r.1.1)),(3,.rptr (fltC r.1.2)),(18,.oslice 5 0 0 (1 + (stp p r.1.1).exits.length) none),(19,i64 ((1 + (stp p r.1.1).exits.length : Nat) : Int)),(20,i64 j)],⟨[⟨3,1,fun _=>planC p,0,false,true,true⟩,⟨1,1,fun _=>[pmA l l.length],0,false,true,true⟩,⟨5,1,fun _=>rkC r,0,false,true,true⟩,⟨1,1,fun _=>[i64 0],0,false,true,true⟩,⟨1,1,F4,0,false,true,false⟩,⟨1,1 + (stp p r.1.1).exits.length,fun i=>[i64 (cAt p r.1.1 i)],0,false,true,false⟩],[],none,1⟩,[(3,.optr 0 0 0 0),(4,.optr 1 0 0 0),(5,.optr 2 0 0 0),(6,.optr 3 0 0 0),(46,.func (.func 112) 0 [.rptr (planC p),.rptr (stC r.1.1),.rptr (fltC r.1.2)])]⟩ ∧ mq = (stp p r.1.1).exits.length + 1 - j,
       ⟨_,_,⟨0,_,by omega,fun i h=>absurd h (Nat.not_lt_zero i),rfl,rfl⟩,⟨⟨.inl rfl,rfl,rfl,rfl⟩,⟨bA,⟨bA,⟨bA,⟨bA,⟨bA,⟨⟨rfl,rfl,rfl,rfl,fun _=>rfl,fun i h=>.inl (cAt_row h)⟩,trivial⟩⟩⟩⟩⟩⟩,trivial⟩⟩,?_⟩
      rintro s0 m0 ⟨j,F4,hj,hn2,rfl,hmeas⟩
      by_cases hlt : j < (stp p r.1.1).exits.length + 1
      ·have h92 := fun c=>S47 p r.1.1 r.1.2 c hat
       conv=>whnf
       conv=>whnf
       (conv=>whnf); refine ifB_dec (fun w3=>?_) (fun w3=>?_)
       ·conv=>whnf
        conv=>whnf
        (conv=>whnf); refine ⟨⟨(by omega),(by omega)⟩,?_⟩
        conv=>whnf
        conv=>whnf
        (conv=>whnf); refine .inl ⟨_,_,byX rfl (Sound1.pl (h92 _) rfl),?_⟩
        conv=>whnf
        conv=>whnf
        (conv=>whnf); refine ⟨(by first | rfl | assumption),?_⟩
        conv=>whnf
        conv=>whnf
        (conv=>whnf); refine ifB_not ?_
        conv=>whnf
        conv=>whnf
        (conv=>whnf); refine ifB_intro (fun w4=>?_) (fun w4=>?_)
        ·conv=>whnf
         conv=>whnf
         (conv=>whnf); refine ⟨inK64 (by omega) (by omega),?_⟩
         have e : hasQ l ((turnF p r.1.2 r.1.1 (cAt p r.1.1 j)).1,r.1.2) = true := has_key w4
         conv=>whnf
         conv=>whnf
         (conv=>whnf); refine ⟨_,_,⟨⟨j + 1,_,by omega,inv_nextB hn2 (by rw [succs_at hlt,e]; rfl),rfl,rfl⟩,by omega⟩,⟨⟨.inl rfl,rfl,rfl,rfl⟩,⟨bA,⟨bA,⟨bA,⟨bA,⟨bA,⟨bA,trivial⟩⟩⟩⟩⟩⟩,trivial⟩⟩
        ·conv=>whnf
         conv=>whnf
         (conv=>whnf); refine ⟨?_,nofun⟩
         have e : hasQ l ((turnF p r.1.2 r.1.1 (cAt p r.1.1 j)).1,r.1.2) = false := has_key w4
         refine endi (hF.trans (if_pos ?_)).symm
         unfold missS
         rw [firstN_at (k := j) (by rw [succs_len]; exact hlt) hn2 (by rw [succs_at hlt,e]; rfl)]; rfl
       ·(exfalso; omega)
      ·obtain rfl : j = (stp p r.1.1).exits.length + 1 := by omega
       have hS : missS p l r.1 = false := by
        unfold missS
        rw [firstN_none (by rw [succs_len]; exact hn2)]; rfl
       rw [hS] at hF
       have hF := hF.trans (if_neg nofun)
       cases hx : homeTurnF p r.1.2 r.1.1 with
       | none =>
        rw [hx] at h81 hF
        conv=>whnf
        conv=>whnf
        (conv=>whnf); refine ifB_dec (fun w3=>?_) (fun w3=>?_)
        ·(exfalso; omega)
        ·conv=>whnf
         conv=>whnf
         (conv=>whnf); refine .inl ⟨_,_,byX rfl (Sound1.pl (h118) rfl),?_⟩
         conv=>whnf
         conv=>whnf
         (conv=>whnf); refine ifB_not ?_
         conv=>whnf
         conv=>whnf
         (conv=>whnf); refine ifB_beqB (fun w4=>?_) (fun w4=>?_)
         ·conv=>whnf
          conv=>whnf
          (conv=>whnf); refine .inl ⟨_,_,byX rfl (Sound1.pl (h81) rfl),?_⟩
          conv=>whnf
          conv=>whnf
          (conv=>whnf); refine ⟨[],by kernel_rfl,?_⟩
          conv=>whnf
          conv=>whnf
          (conv=>whnf); refine ifB_intro (fun w5=>?_) (fun w5=>?_)
          ·conv=>whnf
           conv=>whnf
           (conv=>whnf); refine .inl ⟨_,_,byX rfl (Sound1.pl (S45 _ _) rfl),?_⟩
           conv=>whnf
           conv=>whnf
           (conv=>whnf); refine ⟨?_,nofun⟩
           exact endi ((rank_a hF).2.1 w4 w5).symm
          ·conv=>whnf
           conv=>whnf
           (conv=>whnf); refine .inl ⟨_,_,byX rfl (Sound1.pl (S45 _ _) rfl),?_⟩
           conv=>whnf
           conv=>whnf
           (conv=>whnf); refine ⟨?_,nofun⟩
           exact endi ((rank_a hF).2.2 w4 w5).symm
         ·conv=>whnf
          conv=>whnf
          (conv=>whnf); refine ⟨?_,nofun⟩
          exact endi ((rank_a hF).1 w4).symm
       | some x =>
        rw [hx] at h81 hF
        conv=>whnf
        conv=>whnf
        (conv=>whnf); refine ifB_dec (fun w3=>?_) (fun w3=>?_)
        ·(exfalso; omega)
        ·conv=>whnf
         conv=>whnf
         (conv=>whnf); refine .inl ⟨_,_,byX rfl (Sound1.pl (h118) rfl),?_⟩
         conv=>whnf
         conv=>whnf
         (conv=>whnf); refine ifB_not ?_
         conv=>whnf
         conv=>whnf
         (conv=>whnf); refine ifB_beqB (fun w4=>?_) (fun w4=>?_)
         ·conv=>whnf
          conv=>whnf
          (conv=>whnf); refine .inl ⟨_,_,byX rfl (Sound1.pl (h81) rfl),?_⟩
          conv=>whnf
          conv=>whnf
          (conv=>whnf); refine ⟨[],by kernel_rfl,?_⟩
          conv=>whnf
          conv=>whnf
          (conv=>whnf); refine ifB_intro (fun w5=>?_) (fun w5=>?_)
          ·conv=>whnf
           conv=>whnf
           (conv=>whnf); refine .inl ⟨_,_,byX rfl (Sound1.pl (S45 _ _) rfl),?_⟩
           conv=>whnf
           conv=>whnf
           (conv=>whnf); refine ⟨?_,nofun⟩
           exact endi ((rank_a hF).2.1 w4 w5).symm
          ·conv=>whnf
           conv=>whnf
           (conv=>whnf); refine .inl ⟨_,_,byX rfl (Sound1.pl (S45 _ _) rfl),?_⟩
           conv=>whnf
           conv=>whnf
           (conv=>whnf); refine ⟨?_,nofun⟩
           exact endi (rank_if ((rank_a hF).2.2 w4 w5))
         ·conv=>whnf
          conv=>whnf
          (conv=>whnf); refine ⟨?_,nofun⟩
          exact endi ((rank_a hF).1 w4).symm
  ·exact absurd (hfe.symm.trans w1) nofun
 ·have hfe : vEqL [.int .i64 r.1.2.1, .bool r.1.2.2] [.int .i64 (-1), .bool false] = false := by
   cases h : vEqL [.int .i64 r.1.2.1,.bool r.1.2.2] [.int .i64 (-1),.bool false] with
   | false=>rfl
   | true=>exact absurd (Prod.ext (veq_if h).1 (veq_if h).2) hf
  have hF : rank2E p l r = _ := if_neg (by rw [decide_eq_false hf,Bool.false_and]; nofun)
  refine sound (d := 2) tok2 mixed2 Tryz.func60 (by kernel_rfl) (by kernel_rfl) ?_
  by_cases hxl : (stp p r.1.1).exits.length = 0
  ·refine ifB_intro (fun w1=>?_) (fun w1=>?_)
   ·exact absurd (hfe.symm.trans w1) nofun
   ·refine .inl ⟨_,_,byX rfl (h131),?_⟩
    refine ⟨(by first | rfl | assumption),?_⟩
    refine ⟨_,keep_ok [3,4,5,6,46] _,?_⟩
    refine ⟨⟨(by omega),(by omega)⟩,?_⟩
    refine .inr ?_
    refine ⟨by assumption,?_⟩
    refine ⟨[],[0,1,2,3,18,19,20],fun st mq=>∃ (j : Nat),(j ≤ (stp p r.1.1).exits.length + 1) ∧ (∀ i,i < j → (!hasQ l ((succs p r.1.2 r.1.1).getD i (0,0),r.1.2)) = false) ∧ st = ⟨[(0,.yld 0),(1,.rptr (planC p)),(2,.rptr (stC r.1.1)),(3,.rptr (fltC r.1.2)),(18,.oslice 4 0 0 1 (some 1)),(19,i64 (1 : Nat)),(20,i64 j)],⟨[⟨3,1,fun _=>planC p,0,false,true,true⟩,⟨1,1,fun _=>[pmA l l.length],0,false,true,true⟩,⟨5,1,fun _=>rkC r,0,false,true,true⟩,⟨1,1,fun _=>[i64 0],0,false,true,true⟩,⟨1,1,fun i=>[i64 (cAt p r.1.1 i)],0,false,true,true⟩],[],none,1⟩,[(3,.optr 0 0 0 0),(4,.optr 1 0 0 0),(5,.optr 2 0 0 0),(6,.optr 3 0 0 0),(46,.func (.func 112) 0 [.rptr (planC p),.rptr (stC r.1.1),.rptr (fltC r.1.2)])]⟩ ∧ mq = (stp p r.1.1).exits.length + 1 - j,
     ⟨_,_,⟨0,by omega,fun i h=>absurd h (Nat.not_lt_zero i),rfl,rfl⟩,⟨⟨.inl rfl,rfl,rfl,rfl⟩,⟨bA,⟨bA,⟨bA,⟨bA,⟨⟨rfl,rfl,rfl,rfl,fun _=>rfl,fun i h=>.inl (cAt_row0 h)⟩,trivial⟩⟩⟩⟩⟩,trivial⟩⟩,?_⟩
    rintro s0 m0 ⟨j,hj,hn2,rfl,hmeas⟩
    by_cases hlt : j < (stp p r.1.1).exits.length + 1
    ·have h92 := fun c=>S47 p r.1.1 r.1.2 c hat
     (conv=>whnf); refine ifB_dec (fun w2=>?_) (fun w2=>?_)
     ·(conv=>whnf); refine ⟨⟨(by omega),(by omega)⟩,?_⟩
      (conv=>whnf); refine .inl ⟨_,_,byX rfl (Sound1.pl (h92 _) rfl),?_⟩
      (conv=>whnf); refine ⟨(by first | rfl | assumption),?_⟩
      (conv=>whnf); refine ifB_not ?_
      (conv=>whnf); refine ifB_intro (fun w3=>?_) (fun w3=>?_)
      ·(conv=>whnf); refine ⟨inK64 (by omega) (by omega),?_⟩
       have e : hasQ l ((turnF p r.1.2 r.1.1 (cAt p r.1.1 j)).1,r.1.2) = true := has_key w3
       (conv=>whnf); refine ⟨_,_,⟨⟨j + 1,by omega,inv_nextB hn2 (by rw [succs_at hlt,e]; rfl),rfl,rfl⟩,by omega⟩,⟨⟨.inl rfl,rfl,rfl,rfl⟩,⟨bA,⟨bA,⟨bA,⟨bA,⟨bA,trivial⟩⟩⟩⟩⟩,trivial⟩⟩
      ·(conv=>whnf); refine ⟨?_,nofun⟩
       have e : hasQ l ((turnF p r.1.2 r.1.1 (cAt p r.1.1 j)).1,r.1.2) = false := has_key w3
       refine endi (hF.trans (if_pos ?_)).symm
       unfold missS
       rw [firstN_at (k := j) (by rw [succs_len]; exact hlt) hn2 (by rw [succs_at hlt,e]; rfl)]; rfl
     ·(exfalso; omega)
    ·obtain rfl : j = (stp p r.1.1).exits.length + 1 := by omega
     have hS : missS p l r.1 = false := by
      unfold missS
      rw [firstN_none (by rw [succs_len]; exact hn2)]; rfl
     rw [hS] at hF
     have hF := hF.trans (if_neg nofun)
     cases hx : homeTurnF p r.1.2 r.1.1 with
     | none =>
      rw [hx] at h81 hF
      (conv=>whnf); refine .inl ⟨_,_,byX rfl (Sound1.pl (h118) rfl),?_⟩
      (conv=>whnf); refine ifB_not ?_
      (conv=>whnf); refine ifB_beqB (fun w2=>?_) (fun w2=>?_)
      ·(conv=>whnf); refine .inl ⟨_,_,byX rfl (Sound1.pl (h81) rfl),?_⟩
       (conv=>whnf); refine ⟨[],by kernel_rfl,?_⟩
       (conv=>whnf); refine ifB_intro (fun w3=>?_) (fun w3=>?_)
       ·(conv=>whnf); refine .inl ⟨_,_,byX rfl (Sound1.pl (S45 _ _) rfl),?_⟩
        (conv=>whnf); refine ⟨?_,nofun⟩
        exact endi ((rank_a hF).2.1 w2 w3).symm
       ·(conv=>whnf); refine .inl ⟨_,_,byX rfl (Sound1.pl (S45 _ _) rfl),?_⟩
        (conv=>whnf); refine ⟨?_,nofun⟩
        exact endi ((rank_a hF).2.2 w2 w3).symm
      ·(conv=>whnf); refine ⟨?_,nofun⟩
       exact endi ((rank_a hF).1 w2).symm
     | some x =>
      rw [hx] at h81 hF
      (conv=>whnf); refine .inl ⟨_,_,byX rfl (Sound1.pl (h118) rfl),?_⟩
      (conv=>whnf); refine ifB_not ?_
      (conv=>whnf); refine ifB_beqB (fun w2=>?_) (fun w2=>?_)
      ·(conv=>whnf); refine .inl ⟨_,_,byX rfl (Sound1.pl (h81) rfl),?_⟩
       (conv=>whnf); refine ⟨[],by kernel_rfl,?_⟩
       (conv=>whnf); refine ifB_intro (fun w3=>?_) (fun w3=>?_)
       ·(conv=>whnf); refine .inl ⟨_,_,byX rfl (Sound1.pl (S45 _ _) rfl),?_⟩
        (conv=>whnf); refine ⟨?_,nofun⟩
        exact endi ((rank_a hF).2.1 w2 w3).symm
       ·(conv=>whnf); refine .inl ⟨_,_,byX rfl (Sound1.pl (S45 _ _) rfl),?_⟩
        (conv=>whnf); refine ⟨?_,nofun⟩
        exact endi (rank_if ((rank_a hF).2.2 w2 w3))
      ·(conv=>whnf); refine ⟨?_,nofun⟩
       exact endi ((rank_a hF).1 w2).symm
  ·have hneed := hneed hxl
   (conv=>whnf); refine ifB_intro (fun w1=>?_) (fun w1=>?_)
   ·exact absurd (hfe.symm.trans w1) nofun
   ·(conv=>whnf); refine .inl ⟨_,_,byX rfl (h131),?_⟩
    (conv=>whnf); refine ⟨(by first | rfl | assumption),?_⟩
    refine ⟨_,keep_ok [3,4,5,6,46] _,?_⟩
    (conv=>whnf); refine ⟨⟨(by omega),(by omega)⟩,?_⟩
    (conv=>whnf); refine .inl ?_
    (conv=>whnf); refine ⟨by assumption,?_⟩
    (conv=>whnf); refine ⟨[],[0,1,2,3,18,19,20],fun st mq=>∃ (j : Nat) (F4 : Nat → List AV),(j ≤ (stp p r.1.1).exits.length + 1) ∧ (∀ i,i < j → (!hasQ l ((succs p r.1.2 r.1.1).getD i (0,0),r.1.2)) = false) ∧ st = ⟨[(0,.yld 0),(1,.rptr (planC p)),(2,.rptr (stC r.1.1)),(3,.rptr (fltC r.1.2)),(18,.oslice 5 0 0 (1 + (stp p r.1.1).exits.length) none),(19,i64 ((1 + (stp p r.1.1).exits.length : Nat) : Int)),(20,i64 j)],⟨[⟨3,1,fun _=>planC p,0,false,true,true⟩,⟨1,1,fun _=>[pmA l l.length],0,false,true,true⟩,⟨5,1,fun _=>rkC r,0,false,true,true⟩,⟨1,1,fun _=>[i64 0],0,false,true,true⟩,⟨1,1,F4,0,false,true,false⟩,⟨1,1 + (stp p r.1.1).exits.length,fun i=>[i64 (cAt p r.1.1 i)],0,false,true,false⟩],[],none,1⟩,[(3,.optr 0 0 0 0),(4,.optr 1 0 0 0),(5,.optr 2 0 0 0),(6,.optr 3 0 0 0),(46,.func (.func 112) 0 [.rptr (planC p),.rptr (stC r.1.1),.rptr (fltC r.1.2)])]⟩ ∧ mq = (stp p r.1.1).exits.length + 1 - j,
     ⟨_,_,⟨0,_,by omega,fun i h=>absurd h (Nat.not_lt_zero i),rfl,rfl⟩,⟨⟨.inl rfl,rfl,rfl,rfl⟩,⟨bA,⟨bA,⟨bA,⟨bA,⟨bA,⟨⟨rfl,rfl,rfl,rfl,fun _=>rfl,fun i h=>.inl (cAt_row h)⟩,trivial⟩⟩⟩⟩⟩⟩,trivial⟩⟩,?_⟩
    rintro s0 m0 ⟨j,F4,hj,hn2,rfl,hmeas⟩
    by_cases hlt : j < (stp p r.1.1).exits.length + 1
    ·have h92 := fun c=>S47 p r.1.1 r.1.2 c hat
     conv=>whnf
     (conv=>whnf); refine ifB_dec (fun w2=>?_) (fun w2=>?_)
     ·conv=>whnf
      (conv=>whnf); refine ⟨⟨(by omega),(by omega)⟩,?_⟩
      conv=>whnf
      (conv=>whnf); refine .inl ⟨_,_,byX rfl (Sound1.pl (h92 _) rfl),?_⟩
      conv=>whnf
      (conv=>whnf); refine ⟨(by first | rfl | assumption),?_⟩
      conv=>whnf
      (conv=>whnf); refine ifB_not ?_
      conv=>whnf
      (conv=>whnf); refine ifB_intro (fun w3=>?_) (fun w3=>?_)
      ·conv=>whnf
       (conv=>whnf); refine ⟨inK64 (by omega) (by omega),?_⟩
       have e : hasQ l ((turnF p r.1.2 r.1.1 (cAt p r.1.1 j)).1,r.1.2) = true := has_key w3
       conv=>whnf
       (conv=>whnf); refine ⟨_,_,⟨⟨j + 1,_,by omega,inv_nextB hn2 (by rw [succs_at hlt,e]; rfl),rfl,rfl⟩,by omega⟩,⟨⟨.inl rfl,rfl,rfl,rfl⟩,⟨bA,⟨bA,⟨bA,⟨bA,⟨bA,⟨bA,trivial⟩⟩⟩⟩⟩⟩,trivial⟩⟩
      ·conv=>whnf
       (conv=>whnf); refine ⟨?_,nofun⟩
       have e : hasQ l ((turnF p r.1.2 r.1.1 (cAt p r.1.1 j)).1,r.1.2) = false := has_key w3
       refine endi (hF.trans (if_pos ?_)).symm
       unfold missS
       rw [firstN_at (k := j) (by rw [succs_len]; exact hlt) hn2 (by rw [succs_at hlt,e]; rfl)]; rfl
     ·(exfalso; omega)
    ·obtain rfl : j = (stp p r.1.1).exits.length + 1 := by omega
     have hS : missS p l r.1 = false := by
      unfold missS
      rw [firstN_none (by rw [succs_len]; exact hn2)]; rfl
     rw [hS] at hF
     have hF := hF.trans (if_neg nofun)
     cases hx : homeTurnF p r.1.2 r.1.1 with
     | none =>
      rw [hx] at h81 hF
      conv=>whnf
      (conv=>whnf); refine ifB_dec (fun w2=>?_) (fun w2=>?_)
      ·(exfalso; omega)
      ·conv=>whnf
       (conv=>whnf); refine .inl ⟨_,_,byX rfl (Sound1.pl (h118) rfl),?_⟩
       conv=>whnf
       (conv=>whnf); refine ifB_not ?_
       conv=>whnf
       (conv=>whnf); refine ifB_beqB (fun w3=>?_) (fun w3=>?_)
       ·conv=>whnf
        (conv=>whnf); refine .inl ⟨_,_,byX rfl (Sound1.pl (h81) rfl),?_⟩
        conv=>whnf
        (conv=>whnf); refine ⟨[],by kernel_rfl,?_⟩
        conv=>whnf
        (conv=>whnf); refine ifB_intro (fun w4=>?_) (fun w4=>?_)
        ·conv=>whnf
         (conv=>whnf); refine .inl ⟨_,_,byX rfl (Sound1.pl (S45 _ _) rfl),?_⟩
         conv=>whnf
         (conv=>whnf); refine ⟨?_,nofun⟩
         exact endi ((rank_a hF).2.1 w3 w4).symm
        ·conv=>whnf
         (conv=>whnf); refine .inl ⟨_,_,byX rfl (Sound1.pl (S45 _ _) rfl),?_⟩
         conv=>whnf
         (conv=>whnf); refine ⟨?_,nofun⟩
         exact endi ((rank_a hF).2.2 w3 w4).symm
       ·conv=>whnf
        (conv=>whnf); refine ⟨?_,nofun⟩
        exact endi ((rank_a hF).1 w3).symm
     | some x =>
      rw [hx] at h81 hF
      conv=>whnf
      (conv=>whnf); refine ifB_dec (fun w2=>?_) (fun w2=>?_)
      ·(exfalso; omega)
      ·conv=>whnf
       (conv=>whnf); refine .inl ⟨_,_,byX rfl (Sound1.pl (h118) rfl),?_⟩
       conv=>whnf
       (conv=>whnf); refine ifB_not ?_
       conv=>whnf
       (conv=>whnf); refine ifB_beqB (fun w3=>?_) (fun w3=>?_)
       ·conv=>whnf
        (conv=>whnf); refine .inl ⟨_,_,byX rfl (Sound1.pl (h81) rfl),?_⟩
        conv=>whnf
        (conv=>whnf); refine ⟨[],by kernel_rfl,?_⟩
        conv=>whnf
        (conv=>whnf); refine ifB_intro (fun w4=>?_) (fun w4=>?_)
        ·conv=>whnf
         (conv=>whnf); refine .inl ⟨_,_,byX rfl (Sound1.pl (S45 _ _) rfl),?_⟩
         conv=>whnf
         (conv=>whnf); refine ⟨?_,nofun⟩
         exact endi ((rank_a hF).2.1 w3 w4).symm
        ·conv=>whnf
         (conv=>whnf); refine .inl ⟨_,_,byX rfl (Sound1.pl (S45 _ _) rfl),?_⟩
         conv=>whnf
         (conv=>whnf); refine ⟨?_,nofun⟩
         exact endi (rank_if ((rank_a hF).2.2 w3 w4))
       ·conv=>whnf
        (conv=>whnf); refine ⟨?_,nofun⟩
        exact endi ((rank_a hF).1 w3).symm
end Go.Tr

/- Contracts of chapter 7: a spread, the package. Conditions: none. -/
-- seat YtinfmponjglalaaGreatDoor
namespace Go.Tr
open Go Go.Proofs
set_option maxRecDepth 20000
set_option maxHeartbeats 8000000

theorem take_st {l : List S2} {i : Nat} (h : i < l.length) : l.take (i + 1) = l.take i ++ [l.getD i (0,0)] := by
  rw [List.take_add_one,List.getElem?_eq_getElem h,List.getD_eq_getElem?_getD,List.getElem?_eq_getElem h]; rfl
theorem getD_mem {l : List S2} {i : Nat} (h : i < l.length) : l.getD i (0,0) ∈ l := by
  rw [List.getD_eq_getElem?_getD,List.getElem?_eq_getElem h]; exact List.getElem_mem _
theorem mem_getD {l : List S2} {t : S2} (h : t ∈ l) : ∃ c,c < l.length ∧ l.getD c (0,0) = t := by
  obtain ⟨c,hc⟩ := List.mem_iff_getElem?.1 h
  exact ⟨c,(List.getElem?_eq_some_iff.1 hc).1,by rw [List.getD_eq_getElem?_getD,hc]; rfl⟩
theorem seen_snoc {sn : Value → Bool} {D : List S2} {e : S2} (hs : ∀ s,sn (keyV s) = true ↔ s ∈ D) (s : S2) : Bool.or (sn (keyV s)) (opEv.keyEq (keyV s) (keyV e)) = true ↔ s ∈ D ++ [e] := by
 rw [keyD,List.mem_append,Bool.or_eq_true,hs]
 show _ ∨ decide (s = e) = true ↔ _
 simp
theorem inM {X : (Nat → List AV) → Prop} (G : Nat → List AV) {p1 p2 p3 p4 K : Prop} (e : X G = (p1 ∧ p2 ∧ p3 ∧ p4 ∧ K)) (h1 : p1) (h2 : p2) (h3 : p3) (h4 : p4) (h : K) : ∃ G,X G := ⟨G,e ▸ ⟨h1,h2,h3,h4,h⟩⟩
theorem srt_row {R : List S2} {m i : Nat} {A B : List AV} (hi : i < m) : stC (R.getD i (0,0)) = if i < 0 then A else if i < 0 + m then stC (R.getD (i - 0) (0,0)) else B := by
  rw [if_neg (by omega),if_pos (by omega),Nat.sub_zero]
theorem getD_snoc {l : List S2} {i : Nat} (x : S2) (h : i < l.length) : (l ++ [x]).getD i (0,0) = l.getD i (0,0) := by
  rw [List.getD_eq_getElem?_getD,List.getD_eq_getElem?_getD,List.getElem?_append_left h]
theorem q_row {L : List S2} {d o l : Nat} (h : d + o + l = L.length) (x : S2) (i : Nat) (hi : i < l + 1) : stC ((L ++ [x]).getD (d + o + i) (0,0)) = if i < l then stC (L.getD (d + (o + i)) (0,0)) else List.take 2 (List.drop ((i - l) * 2) (stC x)) := by
 by_cases hl : i < l
 ·rw [if_pos hl,getD_snoc x (by omega),Nat.add_assoc]
 ·obtain rfl : i = l := by omega
  rw [if_neg hl,h,Nat.sub_self,List.getD_eq_getElem?_getD,List.getElem?_append_right (Nat.le_refl _),Nat.sub_self]; rfl
set_option maxHeartbeats 8000000 in
theorem S75 (p : Pln) (hg : Good p) (f : Int × Bool) (A : List S2) (hA : ∀ x ∈ A, OkS p x) (hnd : A.Nodup) (h0 : 0 < A.length) : SP 75 [planA p, sts A, ftA f] (sts (spL p f A)) false := by
 have hAl := states_le hg A hnd hA
 have hN : allN p ≤ 320 := by
  have h1 := hg.m
  have h2 : 2 ^ p.sig.length ≤ 2 ^ 5 := Nat.pow_le_pow_right (by decide) hg.n
  have := Nat.mul_le_mul h2 h1
  unfold allN
  omega
 have h106 := S106 A (by omega) h0
 refine sound (d := 2) tok2 mixed2 Tryz.func75 (by kernel_rfl) (by kernel_rfl) ?_
 (conv=>whnf); refine .inl ⟨_,_,byX rfl (h106),?_⟩
 (conv=>whnf); refine ⟨[],[3,5,7,8,18,19,20],fun st mq=>∃ (i : Nat) (M : List S2),(i ≤ A.length) ∧ (M = A.take i) ∧ st = ⟨[(3,.optr 0 0 0 0),(5,.optr 1 0 0 0),(7,.optr 2 0 0 0),(8,.optr 4 0 0 0),(18,sts A),(19,i64 A.length),(20,i64 i)],⟨[⟨3,1,fun _=>planC p,0,false,true,true⟩,⟨2,1,fun _=>fltC f,0,false,true,true⟩,⟨1,1,fun _=>[.omap 0],0,false,false,true⟩,⟨2,A.length,fun i=>stC (A.getD i (0,0)),0,false,true,false⟩,⟨1,1,fun _=>[.oslice 3 0 0 A.length none],0,false,false,true⟩],[⟨.agg [.int .i64,.int .i64],4,hasM fun x=>decide (x ∈ M),fun v=>vb (hasM (fun x=>decide (x ∈ M)) v),false,none,0,.top⟩],none,0⟩,[]⟩ ∧ mq = A.length - i,
  ⟨_,_,⟨0,[],by omega,rfl,rfl,rfl⟩,⟨⟨.inl rfl,rfl,rfl,rfl⟩,⟨bA,⟨bA,⟨⟨rfl,rfl,rfl,rfl,nofun,fun _ _=>.inl rfl⟩,⟨bA,⟨⟨rfl,rfl,rfl,rfl,nofun,fun _ _=>.inl rfl⟩,trivial⟩⟩⟩⟩⟩,⟨⟨rfl,rfl,rfl,trivial,.inl rfl,fun v=>And.imp id Or.inl (⟨hasM_nil v,congrArg (fun b=>vb b) (hasM_nil v)⟩)⟩,trivial⟩⟩⟩,?_⟩
 rintro s0 m0 ⟨i,M,hi,hM,rfl,hmeas⟩
 by_cases hlt : i < A.length
 ·conv=>whnf
  (conv=>whnf); refine ifB_dec (fun w1=>?_) (fun w1=>?_)
  ·conv=>whnf
   (conv=>whnf); refine ⟨⟨(by omega),(by omega)⟩,?_⟩
   conv=>whnf
   (conv=>whnf); refine ⟨inK64 (by omega) (by omega),?_⟩
   conv=>whnf
   (conv=>whnf); refine ⟨_,_,⟨⟨i + 1,M ++ [A.getD i (0,0)],by omega,(by rw [hM]; exact (take_st hlt).symm),rfl,rfl⟩,by omega⟩,⟨⟨.inl rfl,rfl,rfl,rfl⟩,⟨bA,⟨bA,⟨⟨rfl,rfl,rfl,rfl,nofun,fun _ _=>.inl rfl⟩,⟨bA,⟨⟨rfl,rfl,rfl,rfl,nofun,fun _ _=>.inl rfl⟩,trivial⟩⟩⟩⟩⟩,⟨⟨rfl,rfl,rfl,trivial,.inl rfl,fun v=>And.imp id Or.inl (⟨(hasM_put M _ v).symm,(hasM_vb M _ v).symm⟩)⟩,trivial⟩⟩⟩
  ·(exfalso; omega)
 ·have hMA : M = A := by rw [hM, List.take_of_length_le (by omega)]
  subst hMA
  clear hM
  conv=>whnf
  (conv=>whnf); refine ifB_dec (fun w1=>?_) (fun w1=>?_)
  ·(exfalso; omega)
  ·conv => whnf
   (conv=>whnf); refine ⟨[],[3,5,7,8],fun st mq=>∃ (K : List S2) (d : Nat) (off : Nat) (len : Nat) (n : Nat),(∀ x ∈ M,x ∈ K) ∧ (∀ x ∈ K,Rc p f M x) ∧ (K.Nodup) ∧ (d + off + len = K.length) ∧ (n = off + len) ∧ (∀ a,a < d + off → ∀ t ∈ succs p f (K.getD a (0,0)),t ∈ K) ∧ st = ⟨[(3,.optr 0 0 0 0),(5,.optr 1 0 0 0),(7,.optr 2 0 0 0),(8,.optr 4 0 0 0)],⟨[⟨3,1,fun _=>planC p,0,false,true,true⟩,⟨2,1,fun _=>fltC f,0,false,true,true⟩,⟨1,1,fun _=>[.omap 0],0,false,false,true⟩,⟨2,n,fun i=>stC (K.getD (d + i) (0,0)),0,false,true,false⟩,⟨1,1,fun _=>[.oslice 3 0 off len none],0,false,false,true⟩],[⟨.agg [.int .i64,.int .i64],4,hasM fun x=>decide (x ∈ K),fun v=>vb (hasM (fun x=>decide (x ∈ K)) v),false,none,0,.top⟩],none,0⟩,[]⟩ ∧ mq = allN p - (d + off),
    ⟨_,_,⟨M,0,0,M.length,M.length,(fun x hx=>hx),(fun x hx=>.base hx),hnd,by omega,by omega,(fun a ha=>absurd ha (Nat.not_lt_zero a)),rfl,rfl⟩,⟨⟨.inl rfl,rfl,rfl,rfl⟩,⟨bA,⟨bA,⟨⟨rfl,rfl,rfl,rfl,nofun,fun _ _=>.inl rfl⟩,⟨⟨rfl,rfl,rfl,rfl,fun _=>rfl,fun i h=>.inl (congrArg (fun k=>stC (M.getD k (0,0))) (Nat.zero_add i))⟩,⟨⟨rfl,rfl,rfl,rfl,nofun,fun _ _=>.inl rfl⟩,trivial⟩⟩⟩⟩⟩,⟨⟨rfl,rfl,rfl,trivial,.inl rfl,fun _=>⟨rfl,.inl rfl⟩⟩,trivial⟩⟩⟩,?_⟩
   rintro s0 m0 ⟨K,d,off,len,n,hK1,hK2,hKn,hj,hn,hc,rfl,hmeas⟩
   have hKo : ∀ x ∈ K,OkS p x := fun x hx=>(hK2 x hx).ok hg hA
   have hKl := states_le hg K hKn hKo
   by_cases hl : 0 < len
   ·have hmem : K.getD (d + (off + 0)) (0, 0) ∈ K := by
     rw [List.getD_eq_getElem?_getD,List.getElem?_eq_getElem (show d + (off + 0) < K.length by omega)]
     exact List.getElem_mem _
    have hs := hKo _ hmem
    have h87 := fun s=>S87 p s f
    have hneed1 : (0 : Int) ≤ 1 ∧ (1 : Int) ≤ len ∧ (off : Int) + len ≤ n := by omega
    have hat := hs.at
    have hxl12 : (stp p (K.getD (d + (off + Int.toNat 0)) (0,0))).exits.length ≤ 12 := hg.few.exits _ hs.k
    have hb3 : Tryz.prog.types[3].bytes = 8 := by kernel_rfl
    have hb41 : Tryz.prog.types[41].bytes = 16 := by kernel_rfl
    by_cases hxl : (stp p (K.getD (d + (off + Int.toNat 0)) (0,0))).exits.length = 0
    ·refine ifB_dec (fun w2=>?_) (fun w2=>?_)
     ·refine ⟨⟨(by omega),(by omega)⟩,?_⟩
      refine ⟨by assumption,?_⟩
      refine .inl ⟨_,_,byX rfl (h87 _),?_⟩
      refine ⟨(by first | rfl | assumption),?_⟩
      refine ⟨_,keep_ok [3,5,7,8,38] _,?_⟩
      refine ⟨by assumption,?_⟩
      refine .inr ?_
      refine ⟨by assumption,?_⟩
      refine ⟨[],[0,1,2,3,18,19,20],fun st mq=>∃ (i : Nat) (L : List S2) (d2 : Nat) (o2 : Nat) (l2 : Nat) (n2 : Nat),(i ≤ (stp p (K.getD (d + (off + Int.toNat 0)) (0,0))).exits.length + 1) ∧ (K.length ≤ L.length) ∧ (∀ x ∈ M,x ∈ L) ∧ (∀ x ∈ L,Rc p f M x) ∧ (L.Nodup) ∧ (d2 + o2 + l2 = L.length) ∧ (n2 = o2 + l2) ∧ (d2 + o2 = d + off + 1) ∧ (∀ a,a < K.length → L.getD a (0,0) = K.getD a (0,0)) ∧ (∀ c,c < i → (succs p f (K.getD (d + (off + Int.toNat 0)) (0,0))).getD c (0,0) ∈ L) ∧ (∀ x ∈ K,x ∈ L) ∧ st = ⟨[(0,.yld 0),(1,.rptr (planC p)),(2,.rptr (stC (K.getD (d + (off + Int.toNat 0)) (0,0)))),(3,.rptr (fltC f)),(18,.oslice 6 0 0 1 (some 1)),(19,i64 (1 : Nat)),(20,i64 i)],⟨[⟨3,1,fun _=>planC p,0,false,true,true⟩,⟨2,1,fun _=>fltC f,0,false,true,true⟩,⟨1,1,fun _=>[.omap 0],0,false,false,true⟩,⟨2,n2,fun i=>stC (L.getD (d2 + i) (0,0)),0,false,true,false⟩,⟨1,1,fun _=>[.oslice 3 0 o2 l2 none],0,false,false,true⟩,⟨2,1,fun _=>stC (K.getD (d + (off + Int.toNat 0)) (0,0)),0,false,true,true⟩,⟨1,1,fun i=>[i64 (cAt p (K.getD (d + (off + Int.toNat 0)) (0,0)) i)],0,false,true,true⟩],[⟨.agg [.int .i64,.int .i64],4,hasM fun x=>decide (x ∈ L),fun v=>vb (hasM (fun x=>decide (x ∈ L)) v),false,none,0,.top⟩],none,1⟩,[(3,.optr 0 0 0 0),(5,.optr 1 0 0 0),(7,.optr 2 0 0 0),(8,.optr 4 0 0 0),(38,.func (.func 112) 0 [.rptr (planC p),.rptr (stC (K.getD (d + (off + Int.toNat 0)) (0,0))),.rptr (fltC f)])]⟩ ∧ mq = (stp p (K.getD (d + (off + Int.toNat 0)) (0,0))).exits.length + 1 - i,
       ⟨_,_,⟨0,K,d,off + Int.toNat 1,((len : Int) - 1).toNat,n,by omega,Nat.le_refl _,hK1,hK2,hKn,by omega,by omega,by omega,(fun a _=>rfl),(fun c hc=>absurd hc (Nat.not_lt_zero c)),(fun x hx=>hx),rfl,rfl⟩,⟨⟨.inl rfl,rfl,rfl,rfl⟩,⟨bA,⟨bA,⟨⟨rfl,rfl,rfl,rfl,nofun,fun _ _=>.inl rfl⟩,⟨bA,⟨⟨rfl,rfl,rfl,rfl,nofun,fun _ _=>.inl rfl⟩,⟨bA,⟨⟨rfl,rfl,rfl,rfl,fun _=>rfl,fun i h=>.inl (cAt_row0 h)⟩,trivial⟩⟩⟩⟩⟩⟩⟩,⟨⟨rfl,rfl,rfl,trivial,.inl rfl,fun _=>⟨rfl,.inl rfl⟩⟩,trivial⟩⟩⟩,?_⟩
      rintro s0 m0 ⟨i,L,d2,o2,l2,n2,hi,g0,g1,g2,g3,g4,g5,g6,g7,g8,g9,rfl,hmeas⟩
      have hLo : ∀ x ∈ L,OkS p x := fun x hx=>(g2 x hx).ok hg hA
      have hLl := states_le hg L g3 hLo
      by_cases hlt2 : i < (stp p (K.getD (d + (off + Int.toNat 0)) (0,0))).exits.length + 1
      ·have h47 := fun c=>S47 p (K.getD (d + (off + Int.toNat 0)) (0,0)) f c hat
       have hsu := succs_at (f := f) hlt2
       have hlt3 : i < (succs p f (K.getD (d + (off + Int.toNat 0)) (0,0))).length := by rw [succs_len]; exact hlt2
       have htm : (turnF p f (K.getD (d + (off + Int.toNat 0)) (0,0)) (cAt p (K.getD (d + (off + Int.toNat 0)) (0,0)) i)).1 ∈ succs p f (K.getD (d + (off + Int.toNat 0)) (0,0)) := by
        rw [← hsu]; exact getD_mem hlt3
       have hT : (turnF p f (K.getD (d + (off + Int.toNat 0)) (0,0)) (cAt p (K.getD (d + (off + Int.toNat 0)) (0,0)) (0 + (i : Int).toNat))).1 = (turnF p f (K.getD (d + (off + Int.toNat 0)) (0,0)) (cAt p (K.getD (d + (off + Int.toNat 0)) (0,0)) i)).1 := by rw [Nat.zero_add]; rfl
       have hneed2 : (l2 + 1) * (Tryz.prog.types[41].bytes + 1) ≤ 1000000000000 := by rw [hb41]; omega
       (conv=>whnf); refine ifB_dec (fun w3=>?_) (fun w3=>?_)
       ·(conv=>whnf); refine ⟨⟨(by omega),(by omega)⟩,?_⟩
        (conv=>whnf); refine .inl ⟨_,_,byX rfl (Sound1.pl (h47 _) rfl),?_⟩
        (conv=>whnf); refine ⟨(by first | rfl | assumption),?_⟩
        (conv=>whnf); refine ifB_not ?_
        (conv=>whnf); refine ifB_intro (fun w4=>?_) (fun w4=>?_)
        ·(conv=>whnf); refine ⟨inK64 (by omega) (by omega),?_⟩
         have hin : (turnF p f (K.getD (d + (off + Int.toNat 0)) (0,0)) (cAt p (K.getD (d + (off + Int.toNat 0)) (0,0)) i)).1 ∈ L := by rw [← hT]; exact of_decide_eq_true w4
         have q8 : ∀ c,c < i + 1 → (succs p f (K.getD (d + (off + Int.toNat 0)) (0,0))).getD c (0,0) ∈ L := fun c hc=>by
          rcases Nat.lt_succ_iff_lt_or_eq.1 hc with h | h
          ·exact g8 c h
          ·rw [h,hsu]; exact hin
         (conv=>whnf); refine ⟨_,_,⟨⟨i + 1,L,d2,o2,l2,n2,by omega,g0,g1,g2,g3,g4,g5,g6,g7,q8,g9,rfl,rfl⟩,by omega⟩,⟨⟨.inl rfl,rfl,rfl,rfl⟩,⟨bA,⟨bA,⟨⟨rfl,rfl,rfl,rfl,nofun,fun _ _=>.inl rfl⟩,⟨bA,⟨⟨rfl,rfl,rfl,rfl,nofun,fun _ _=>.inl rfl⟩,⟨bA,⟨bA,trivial⟩⟩⟩⟩⟩⟩⟩,⟨⟨rfl,rfl,rfl,trivial,.inl rfl,fun _=>⟨rfl,.inl rfl⟩⟩,trivial⟩⟩⟩
        ·(conv=>whnf); refine .inl ?_
         (conv=>whnf); refine ⟨(by show _ * (16 + 1) ≤ _; omega),?_⟩
         (conv=>whnf); refine ⟨inK64 (by omega) (by omega),?_⟩
         have hno : ¬ (turnF p f (K.getD (d + (off + Int.toNat 0)) (0,0)) (cAt p (K.getD (d + (off + Int.toNat 0)) (0,0)) (0 + (i : Int).toNat))).1 ∈ L := of_decide_eq_false w4
         have q0 : K.length ≤ (L ++ [(turnF p f (K.getD (d + (off + Int.toNat 0)) (0,0)) (cAt p (K.getD (d + (off + Int.toNat 0)) (0,0)) (0 + (i : Int).toNat))).1]).length := by rw [List.length_append]; omega
         have q2 : ∀ x ∈ L ++ [(turnF p f (K.getD (d + (off + Int.toNat 0)) (0,0)) (cAt p (K.getD (d + (off + Int.toNat 0)) (0,0)) (0 + (i : Int).toNat))).1],Rc p f M x := fun x hx=>by
          rcases List.mem_append.1 hx with h | h
          ·exact g2 x h
          ·rw [List.mem_singleton.1 h,hT]; exact .step (hK2 _ hmem) htm
         have q3 : (L ++ [(turnF p f (K.getD (d + (off + Int.toNat 0)) (0,0)) (cAt p (K.getD (d + (off + Int.toNat 0)) (0,0)) (0 + (i : Int).toNat))).1]).Nodup := List.nodup_append.2 ⟨g3,by simp,fun a ha b hb e=>hno (by rw [← List.mem_singleton.1 hb,← e]; exact ha)⟩
         have q4 : d2 + o2 + 0 + (l2 + 1) = (L ++ [(turnF p f (K.getD (d + (off + Int.toNat 0)) (0,0)) (cAt p (K.getD (d + (off + Int.toNat 0)) (0,0)) (0 + (i : Int).toNat))).1]).length := by rw [List.length_append,List.length_singleton]; omega
         have q7 : ∀ a,a < K.length → (L ++ [(turnF p f (K.getD (d + (off + Int.toNat 0)) (0,0)) (cAt p (K.getD (d + (off + Int.toNat 0)) (0,0)) (0 + (i : Int).toNat))).1]).getD a (0,0) = K.getD a (0,0) := fun a ha=>by rw [getD_snoc _ (by omega)]; exact g7 a ha
         have q8 : ∀ c,c < i + 1 → (succs p f (K.getD (d + (off + Int.toNat 0)) (0,0))).getD c (0,0) ∈ L ++ [(turnF p f (K.getD (d + (off + Int.toNat 0)) (0,0)) (cAt p (K.getD (d + (off + Int.toNat 0)) (0,0)) (0 + (i : Int).toNat))).1] := fun c hc=>by
          rcases Nat.lt_succ_iff_lt_or_eq.1 hc with h | h
          ·exact List.mem_append_left _ (g8 c h)
          ·rw [h,hsu,← hT]; exact List.mem_append_right _ (.head _)
         (conv=>whnf); refine ⟨_,_,⟨⟨i + 1,L ++ [(turnF p f (K.getD (d + (off + Int.toNat 0)) (0,0)) (cAt p (K.getD (d + (off + Int.toNat 0)) (0,0)) (0 + (i : Int).toNat))).1],d2 + o2,0,l2 + 1,l2 + 1,by omega,q0,(fun x hx=>List.mem_append_left _ (g1 x hx)),q2,q3,q4,by omega,by omega,q7,q8,(fun x hx=>List.mem_append_left _ (g9 x hx)),rfl,rfl⟩,by omega⟩,⟨⟨.inl rfl,rfl,rfl,rfl⟩,⟨bA,⟨bA,⟨⟨rfl,rfl,rfl,rfl,nofun,fun _ _=>.inl rfl⟩,⟨⟨rfl,rfl,rfl,rfl,fun _=>rfl,fun i h=>.inl (q_row g4 _ i h)⟩,⟨⟨rfl,rfl,rfl,rfl,nofun,fun _ _=>.inl rfl⟩,⟨bA,⟨bA,trivial⟩⟩⟩⟩⟩⟩⟩,⟨⟨rfl,rfl,rfl,trivial,.inl rfl,fun v=>And.imp id Or.inl (⟨(hasM_put L _ v).symm,(hasM_vb L _ v).symm⟩)⟩,trivial⟩⟩⟩
       ·(exfalso; omega)
      ·have q8 : ∀ a,a < d2 + o2 → ∀ t ∈ succs p f (L.getD a (0,0)),t ∈ L := fun a ha t ht=>by
        rw [g7 a (by omega)] at ht
        by_cases e : a = d + off
        ·rw [e] at ht
         have ht : t ∈ succs p f (K.getD (d + (off + Int.toNat 0)) (0,0)) := ht
         obtain ⟨c,hlt,hc2⟩ := mem_getD ht
         rw [succs_len] at hlt
         rw [← hc2]; exact g8 c (by omega)
        ·exact g9 _ (hc a (by omega) t ht)
       (conv=>whnf); refine ifB_dec (fun w3=>?_) (fun w3=>?_)
       ·(exfalso; omega)
       ·(conv=>whnf); refine ⟨_,_,⟨⟨L,d2,o2,l2,n2,g1,g2,g3,g4,g5,q8,rfl,rfl⟩,by omega⟩,⟨⟨.inl rfl,rfl,rfl,rfl⟩,⟨bA,⟨bA,⟨⟨rfl,rfl,rfl,rfl,nofun,fun _ _=>.inl rfl⟩,⟨bA,⟨⟨rfl,rfl,rfl,rfl,nofun,fun _ _=>.inl rfl⟩,trivial⟩⟩⟩⟩⟩,⟨⟨rfl,rfl,rfl,trivial,.inl rfl,fun _=>⟨rfl,.inl rfl⟩⟩,trivial⟩⟩⟩
     ·(exfalso; omega)
    ·have hneed3 : (1 < 1 + (p.steps.getD (K.getD (d + (off + Int.toNat 0)) (0, 0)).1.toNat stp0).exits.length ∨ (p.steps.getD (K.getD (d + (off + Int.toNat 0)) (0, 0)).1.toNat stp0).exits.length = 0 ∧ 1 = 0) ∧ (1 + (p.steps.getD (K.getD (d + (off + Int.toNat 0)) (0, 0)).1.toNat stp0).exits.length) * (Tryz.prog.types[3].bytes + 1) ≤ 1000000000000 := by
      have h : ¬ (p.steps.getD (K.getD (d + (off + Int.toNat 0)) (0,0)).1.toNat stp0).exits.length = 0 := hxl
      have h2 : (p.steps.getD (K.getD (d + (off + Int.toNat 0)) (0,0)).1.toNat stp0).exits.length ≤ 12 := hxl12
      rw [hb3]
      omega
     conv=>whnf
     conv=>whnf
     (conv=>whnf); refine ifB_dec (fun w2=>?_) (fun w2=>?_)
     ·conv=>whnf
      conv=>whnf
      (conv=>whnf); refine ⟨⟨(by omega),(by omega)⟩,?_⟩
      conv=>whnf
      conv=>whnf
      (conv=>whnf); refine ⟨by assumption,?_⟩
      conv=>whnf
      conv=>whnf
      (conv=>whnf); refine .inl ⟨_,_,byX rfl (h87 _),?_⟩
      conv=>whnf
      conv=>whnf
      (conv=>whnf); refine ⟨(by first | rfl | assumption),?_⟩
      refine ⟨_,keep_ok [3,5,7,8,38] _,?_⟩
      conv=>whnf
      conv=>whnf
      (conv=>whnf); refine ⟨by assumption,?_⟩
      conv=>whnf
      conv=>whnf
      (conv=>whnf); refine .inl ?_
      conv=>whnf
      conv=>whnf
      (conv=>whnf); refine ⟨by assumption,?_⟩
      conv=>whnf
      conv=>whnf
      (conv=>whnf); refine ⟨[],[0,1,2,3,18,19,20],fun st mq=>∃ (i : Nat) (L : List S2) (d2 : Nat) (o2 : Nat) (l2 : Nat) (n2 : Nat) (F6 : Nat → List AV),(i ≤ (stp p (K.getD (d + (off + Int.toNat 0)) (0,0))).exits.length + 1) ∧ (K.length ≤ L.length) ∧ (∀ x ∈ M,x ∈ L) ∧ (∀ x ∈ L,Rc p f M x) ∧ (L.Nodup) ∧ (d2 + o2 + l2 = L.length) ∧ (n2 = o2 + l2) ∧ (d2 + o2 = d + off + 1) ∧ (∀ a,a < K.length → L.getD a (0,0) = K.getD a (0,0)) ∧ (∀ c,c < i → (succs p f (K.getD (d + (off + Int.toNat 0)) (0,0))).getD c (0,0) ∈ L) ∧ (∀ x ∈ K,x ∈ L) ∧ st = ⟨[(0,.yld 0),(1,.rptr (planC p)),(2,.rptr (stC (K.getD (d + (off + Int.toNat 0)) (0,0)))),(3,.rptr (fltC f)),(18,.oslice 7 0 0 (1 + (stp p (K.getD (d + (off + Int.toNat 0)) (0,0))).exits.length) none),(19,i64 ((1 + (stp p (K.getD (d + (off + Int.toNat 0)) (0,0))).exits.length : Nat) : Int)),(20,i64 i)],⟨[⟨3,1,fun _=>planC p,0,false,true,true⟩,⟨2,1,fun _=>fltC f,0,false,true,true⟩,⟨1,1,fun _=>[.omap 0],0,false,false,true⟩,⟨2,n2,fun i=>stC (L.getD (d2 + i) (0,0)),0,false,true,false⟩,⟨1,1,fun _=>[.oslice 3 0 o2 l2 none],0,false,false,true⟩,⟨2,1,fun _=>stC (K.getD (d + (off + Int.toNat 0)) (0,0)),0,false,true,true⟩,⟨1,1,F6,0,false,true,false⟩,⟨1,1 + (stp p (K.getD (d + (off + Int.toNat 0)) (0,0))).exits.length,fun i=>[i64 (cAt p (K.getD (d + (off + Int.toNat 0)) (0,0)) i)],0,false,true,false⟩],[⟨.agg [.int .i64,.int .i64],4,hasM fun x=>decide (x ∈ L),fun v=>vb (hasM (fun x=>decide (x ∈ L)) v),false,none,0,.top⟩],none,1⟩,[(3,.optr 0 0 0 0),(5,.optr 1 0 0 0),(7,.optr 2 0 0 0),(8,.optr 4 0 0 0),(38,.func (.func 112) 0 [.rptr (planC p),.rptr (stC (K.getD (d + (off + Int.toNat 0)) (0,0))),.rptr (fltC f)])]⟩ ∧ mq = (stp p (K.getD (d + (off + Int.toNat 0)) (0,0))).exits.length + 1 - i,
       ⟨_,_,⟨0,K,d,off + Int.toNat 1,((len : Int) - 1).toNat,n,_,by omega,Nat.le_refl _,hK1,hK2,hKn,by omega,by omega,by omega,(fun a _=>rfl),(fun c hc=>absurd hc (Nat.not_lt_zero c)),(fun x hx=>hx),rfl,rfl⟩,⟨⟨.inl rfl,rfl,rfl,rfl⟩,⟨bA,⟨bA,⟨⟨rfl,rfl,rfl,rfl,nofun,fun _ _=>.inl rfl⟩,⟨bA,⟨⟨rfl,rfl,rfl,rfl,nofun,fun _ _=>.inl rfl⟩,⟨bA,⟨bA,⟨⟨rfl,rfl,rfl,rfl,fun _=>rfl,fun i h=>.inl (cAt_row h)⟩,trivial⟩⟩⟩⟩⟩⟩⟩⟩,⟨⟨rfl,rfl,rfl,trivial,.inl rfl,fun _=>⟨rfl,.inl rfl⟩⟩,trivial⟩⟩⟩,?_⟩
      rintro s0 m0 ⟨i,L,d2,o2,l2,n2,F6,hi,g0,g1,g2,g3,g4,g5,g6,g7,g8,g9,rfl,hmeas⟩
      have hLo : ∀ x ∈ L,OkS p x := fun x hx=>(g2 x hx).ok hg hA
      have hLl := states_le hg L g3 hLo
      by_cases hlt2 : i < (stp p (K.getD (d + (off + Int.toNat 0)) (0,0))).exits.length + 1
      ·have h47 := fun c=>S47 p (K.getD (d + (off + Int.toNat 0)) (0,0)) f c hat
       have hsu := succs_at (f := f) hlt2
       have hlt3 : i < (succs p f (K.getD (d + (off + Int.toNat 0)) (0,0))).length := by rw [succs_len]; exact hlt2
       have htm : (turnF p f (K.getD (d + (off + Int.toNat 0)) (0,0)) (cAt p (K.getD (d + (off + Int.toNat 0)) (0,0)) i)).1 ∈ succs p f (K.getD (d + (off + Int.toNat 0)) (0,0)) := by
        rw [← hsu]; exact getD_mem hlt3
       have hT : (turnF p f (K.getD (d + (off + Int.toNat 0)) (0,0)) (cAt p (K.getD (d + (off + Int.toNat 0)) (0,0)) (0 + (i : Int).toNat))).1 = (turnF p f (K.getD (d + (off + Int.toNat 0)) (0,0)) (cAt p (K.getD (d + (off + Int.toNat 0)) (0,0)) i)).1 := by rw [Nat.zero_add]; rfl
       have hneed2 : (l2 + 1) * (Tryz.prog.types[41].bytes + 1) ≤ 1000000000000 := by rw [hb41]; omega
       conv=>whnf
       conv=>whnf
       conv=>whnf
       (conv=>whnf); refine ifB_dec (fun w3=>?_) (fun w3=>?_)
       ·conv=>whnf
        conv=>whnf
        conv=>whnf
        (conv=>whnf); refine ⟨⟨(by omega),(by omega)⟩,?_⟩
        conv=>whnf
        conv=>whnf
        conv=>whnf
        (conv=>whnf); refine .inl ⟨_,_,byX rfl (Sound1.pl (h47 _) rfl),?_⟩
        conv=>whnf
        conv=>whnf
        conv=>whnf
        (conv=>whnf); refine ⟨(by first | rfl | assumption),?_⟩
        conv=>whnf
        conv=>whnf
        conv=>whnf
        (conv=>whnf); refine ifB_not ?_
        conv=>whnf
        conv=>whnf
        conv=>whnf
        (conv=>whnf); refine ifB_intro (fun w4=>?_) (fun w4=>?_)
        ·conv=>whnf
         conv=>whnf
         conv=>whnf
         (conv=>whnf); refine ⟨inK64 (by omega) (by omega),?_⟩
         have hin : (turnF p f (K.getD (d + (off + Int.toNat 0)) (0,0)) (cAt p (K.getD (d + (off + Int.toNat 0)) (0,0)) i)).1 ∈ L := by rw [← hT]; exact of_decide_eq_true w4
         have q8 : ∀ c,c < i + 1 → (succs p f (K.getD (d + (off + Int.toNat 0)) (0,0))).getD c (0,0) ∈ L := fun c hc=>by
          rcases Nat.lt_succ_iff_lt_or_eq.1 hc with h | h
          ·exact g8 c h
          ·rw [h,hsu]; exact hin
         conv=>whnf
         conv=>whnf
         conv=>whnf
         (conv=>whnf); refine ⟨_,_,⟨⟨i + 1,L,d2,o2,l2,n2,_,by omega,g0,g1,g2,g3,g4,g5,g6,g7,q8,g9,rfl,rfl⟩,by omega⟩,⟨⟨.inl rfl,rfl,rfl,rfl⟩,⟨bA,⟨bA,⟨⟨rfl,rfl,rfl,rfl,nofun,fun _ _=>.inl rfl⟩,⟨bA,⟨⟨rfl,rfl,rfl,rfl,nofun,fun _ _=>.inl rfl⟩,⟨bA,⟨bA,⟨bA,trivial⟩⟩⟩⟩⟩⟩⟩⟩,⟨⟨rfl,rfl,rfl,trivial,.inl rfl,fun _=>⟨rfl,.inl rfl⟩⟩,trivial⟩⟩⟩
        ·conv=>whnf
         conv=>whnf
         conv=>whnf
         (conv=>whnf); refine .inl ?_
         conv=>whnf
         conv=>whnf
         conv=>whnf
         (conv=>whnf); refine ⟨(by show _ * (16 + 1) ≤ _; omega),?_⟩
         conv=>whnf
         conv=>whnf
         conv=>whnf
         (conv=>whnf); refine ⟨inK64 (by omega) (by omega),?_⟩
         have hno : ¬ (turnF p f (K.getD (d + (off + Int.toNat 0)) (0,0)) (cAt p (K.getD (d + (off + Int.toNat 0)) (0,0)) (0 + (i : Int).toNat))).1 ∈ L := of_decide_eq_false w4
         have q0 : K.length ≤ (L ++ [(turnF p f (K.getD (d + (off + Int.toNat 0)) (0,0)) (cAt p (K.getD (d + (off + Int.toNat 0)) (0,0)) (0 + (i : Int).toNat))).1]).length := by rw [List.length_append]; omega
         have q2 : ∀ x ∈ L ++ [(turnF p f (K.getD (d + (off + Int.toNat 0)) (0,0)) (cAt p (K.getD (d + (off + Int.toNat 0)) (0,0)) (0 + (i : Int).toNat))).1],Rc p f M x := fun x hx=>by
          rcases List.mem_append.1 hx with h | h
          ·exact g2 x h
          ·rw [List.mem_singleton.1 h,hT]; exact .step (hK2 _ hmem) htm
         have q3 : (L ++ [(turnF p f (K.getD (d + (off + Int.toNat 0)) (0,0)) (cAt p (K.getD (d + (off + Int.toNat 0)) (0,0)) (0 + (i : Int).toNat))).1]).Nodup := List.nodup_append.2 ⟨g3,by simp,fun a ha b hb e=>hno (by rw [← List.mem_singleton.1 hb,← e]; exact ha)⟩
         have q4 : d2 + o2 + 0 + (l2 + 1) = (L ++ [(turnF p f (K.getD (d + (off + Int.toNat 0)) (0,0)) (cAt p (K.getD (d + (off + Int.toNat 0)) (0,0)) (0 + (i : Int).toNat))).1]).length := by rw [List.length_append,List.length_singleton]; omega
         have q7 : ∀ a,a < K.length → (L ++ [(turnF p f (K.getD (d + (off + Int.toNat 0)) (0,0)) (cAt p (K.getD (d + (off + Int.toNat 0)) (0,0)) (0 + (i : Int).toNat))).1]).getD a (0,0) = K.getD a (0,0) := fun a ha=>by rw [getD_snoc _ (by omega)]; exact g7 a ha
         have q8 : ∀ c,c < i + 1 → (succs p f (K.getD (d + (off + Int.toNat 0)) (0,0))).getD c (0,0) ∈ L ++ [(turnF p f (K.getD (d + (off + Int.toNat 0)) (0,0)) (cAt p (K.getD (d + (off + Int.toNat 0)) (0,0)) (0 + (i : Int).toNat))).1] := fun c hc=>by
          rcases Nat.lt_succ_iff_lt_or_eq.1 hc with h | h
          ·exact List.mem_append_left _ (g8 c h)
          ·rw [h,hsu,← hT]; exact List.mem_append_right _ (.head _)
         conv=>whnf
         conv=>whnf
         conv=>whnf
         (conv=>whnf); refine ⟨_,_,⟨⟨i + 1,L ++ [(turnF p f (K.getD (d + (off + Int.toNat 0)) (0,0)) (cAt p (K.getD (d + (off + Int.toNat 0)) (0,0)) (0 + (i : Int).toNat))).1],d2 + o2,0,l2 + 1,l2 + 1,_,by omega,q0,(fun x hx=>List.mem_append_left _ (g1 x hx)),q2,q3,q4,by omega,by omega,q7,q8,(fun x hx=>List.mem_append_left _ (g9 x hx)),rfl,rfl⟩,by omega⟩,⟨⟨.inl rfl,rfl,rfl,rfl⟩,⟨bA,⟨bA,⟨⟨rfl,rfl,rfl,rfl,nofun,fun _ _=>.inl rfl⟩,⟨⟨rfl,rfl,rfl,rfl,fun _=>rfl,fun i h=>.inl (q_row g4 _ i h)⟩,⟨⟨rfl,rfl,rfl,rfl,nofun,fun _ _=>.inl rfl⟩,⟨bA,⟨bA,⟨bA,trivial⟩⟩⟩⟩⟩⟩⟩⟩,⟨⟨rfl,rfl,rfl,trivial,.inl rfl,fun v=>And.imp id Or.inl (⟨(hasM_put L _ v).symm,(hasM_vb L _ v).symm⟩)⟩,trivial⟩⟩⟩
       ·(exfalso; omega)
      ·have q8 : ∀ a,a < d2 + o2 → ∀ t ∈ succs p f (L.getD a (0,0)),t ∈ L := fun a ha t ht=>by
        rw [g7 a (by omega)] at ht
        by_cases e : a = d + off
        ·rw [e] at ht
         have ht : t ∈ succs p f (K.getD (d + (off + Int.toNat 0)) (0,0)) := ht
         obtain ⟨c,hlt,hc2⟩ := mem_getD ht
         rw [succs_len] at hlt
         rw [← hc2]; exact g8 c (by omega)
        ·exact g9 _ (hc a (by omega) t ht)
       conv=>whnf
       conv=>whnf
       conv=>whnf
       (conv=>whnf); refine ifB_dec (fun w3=>?_) (fun w3=>?_)
       ·(exfalso; omega)
       ·conv=>whnf
        conv=>whnf
        conv=>whnf
        (conv=>whnf); refine ⟨_,_,⟨⟨L,d2,o2,l2,n2,g1,g2,g3,g4,g5,q8,rfl,rfl⟩,by omega⟩,⟨⟨.inl rfl,rfl,rfl,rfl⟩,⟨bA,⟨bA,⟨⟨rfl,rfl,rfl,rfl,nofun,fun _ _=>.inl rfl⟩,⟨bA,⟨⟨rfl,rfl,rfl,rfl,nofun,fun _ _=>.inl rfl⟩,trivial⟩⟩⟩⟩⟩,⟨⟨rfl,rfl,rfl,trivial,.inl rfl,fun _=>⟨rfl,.inl rfl⟩⟩,trivial⟩⟩⟩
     ·(exfalso; omega)
   ·have hcl : ∀ s ∈ K,∀ t ∈ succs p f s,t ∈ K := fun s hs t ht=>by
     obtain ⟨a,hlt,ha⟩ := mem_getD hs
     exact hc a (by omega) t (by rw [ha]; exact ht)
    have hKp : 0 < K.length := by
     obtain ⟨x,hx⟩ := List.exists_mem_of_length_pos h0
     exact List.length_pos_of_mem (hK1 x hx)
    have hb41 : Tryz.prog.types[41].bytes = 16 := by kernel_rfl
    conv=>whnf
    conv=>whnf
    (conv=>whnf); refine ifB_dec (fun w2=>?_) (fun w2=>?_)
    ·(exfalso; omega)
    ·intro w3
     conv=>whnf
     conv=>whnf
     (conv=>whnf); refine ⟨[.slot 13 2],[13,51],fun st mq=>∃ (nl : Nat) (sn : Value → Bool) (D : List S2) (m : Nat) (F0 : Nat → List AV) (F1 : Nat → List AV) (F2 : Nat → List AV) (F3 : Nat → List AV) (F4 : Nat → List AV),(D.length = m) ∧ (∀ e ∈ D,e ∈ K) ∧ (D.Nodup) ∧ (∀ s,sn (keyV s) = true ↔ s ∈ D) ∧ st = ⟨[(13,.oslice 5 0 0 m none),(51,.oiter 1)],⟨[⟨3,1,F0,0,false,true,false⟩,⟨2,1,F1,0,false,true,false⟩,⟨1,1,F2,0,false,false,false⟩,⟨2,n,F3,0,false,true,false⟩,⟨1,1,F4,0,false,false,false⟩,⟨2,m,fun i=>stC (D.getD i (0,0)),0,false,true,false⟩],[⟨.agg [.int .i64,.int .i64],4,hasM fun x=>decide (x ∈ K),fun v=>vb (hasM (fun x=>decide (x ∈ K)) v),true,none,0,.top⟩,⟨.agg [.int .i64,.int .i64],4,hasM fun x=>decide (x ∈ K),fun v=>vb (hasM (fun x=>decide (x ∈ K)) v),false,some sn,nl,.top⟩],none,0⟩,[]⟩ ∧ mq = nl,
      ⟨_,_,⟨w3,fun _=>false,[],0,_,_,_,_,_,rfl,(fun e he=>by cases he),(by simp),(fun s=>by simp),rfl,rfl⟩,⟨⟨.inl rfl,rfl,rfl,rfl⟩,⟨bA,⟨bA,⟨⟨rfl,rfl,rfl,rfl,nofun,fun _ _=>.inl rfl⟩,⟨bA,⟨⟨rfl,rfl,rfl,rfl,nofun,fun _ _=>.inl rfl⟩,⟨⟨rfl,rfl,rfl,rfl,fun _=>rfl,fun i h=>.inl (absurd h (Nat.not_lt_zero i))⟩,trivial⟩⟩⟩⟩⟩⟩,⟨⟨rfl,rfl,rfl,trivial,.inl rfl,fun _=>⟨rfl,.inl rfl⟩⟩,⟨⟨rfl,rfl,rfl,⟨rfl,fun _=>rfl⟩,.inr rfl,fun _=>⟨rfl,.inl rfl⟩⟩,trivial⟩⟩⟩⟩,?_⟩
     rintro s0 m0 ⟨nl,sn,D,m,F0,F1,F2,F3,F4,hm,hDK,hDn,hs2,rfl,hmeas⟩
     have hDl := states_le hg D hDn (fun x hx=>hKo x (hDK x hx))
     have hneed2 : (m + 1) * (Tryz.prog.types[41].bytes + 1) ≤ 1000000000000 := by rw [hb41]; omega
     refine ⟨fun w4=>?_,?_⟩
     ·have hDK2 : ∀ x,x ∈ D ↔ x ∈ K := fun x=>⟨hDK x,fun hx=>(hs2 x).1 (w4 (keyV x) rfl (decide_eq_true hx))⟩
      have hmp : 0 < m := by
       rw [← hm]
       obtain ⟨x,hx⟩ := List.exists_mem_of_length_pos hKp
       exact List.length_pos_of_mem ((hDK2 x).2 hx)
      obtain ⟨R,r1,r2,h107⟩ := S107 D (by omega)
      have hE : R = spL p f M := spL_of hg hA hK1 hK2 hcl hDn hDK2 r1 r2
      have hRl := r1.length_eq
      rw [hm] at h107 hRl
      conv=>whnf
      conv=>whnf
      conv=>whnf
      (conv=>whnf); refine .inr (.inr (.inl (inM _ rfl rfl (by omega) (show 0 + m ≤ m by omega) (byM rfl h107) ?_)))
      conv=>whnf
      conv=>whnf
      conv=>whnf
      conv=>whnf
      (conv=>whnf); refine ⟨?_,nofun⟩
      rw [← hE]
      exact ⟨rfl,hRl.symm,fun i hi=>(srt_row (A := stC (D.getD i (0,0))) (B := stC (D.getD i (0,0))) hi).symm⟩
     ·intro a b h1 h2 n hn
      have h1 : (a,b) ∈ K := of_decide_eq_true h1
      have h2 : ¬ (a,b) ∈ D := fun h=>by
       have := (hs2 (a,b)).2 h
       rw [show sn (keyV (a,b)) = false from h2] at this
       cases this
      have hn : nl = n + 1 := hn
      conv=>whnf
      conv=>whnf
      conv=>whnf
      conv=>whnf
      (conv=>whnf); refine .inl ?_
      conv=>whnf
      conv=>whnf
      conv=>whnf
      conv=>whnf
      (conv=>whnf); refine ⟨(by show _ * (16 + 1) ≤ _; omega),?_⟩
      conv=>whnf
      conv=>whnf
      conv=>whnf
      conv=>whnf
      (conv=>whnf); refine ⟨_,_,⟨⟨n,fun v=>Bool.or (sn v) (opEv.keyEq v (keyV (a,b))),D ++ [(a,b)],m + 1,_,_,_,_,_,(by rw [List.length_append,hm]; rfl),(fun e he=>(List.mem_append.1 he).elim (hDK e) fun h=>by rw [List.mem_singleton.1 h]; exact h1),(List.nodup_append.2 ⟨hDn,by simp,fun x hx y hy e=>h2 (by rw [← List.mem_singleton.1 hy,← e]; exact hx)⟩),(seen_snoc hs2),rfl,rfl⟩,by omega⟩,⟨⟨.inl rfl,rfl,rfl,rfl⟩,⟨bA,⟨bA,⟨⟨rfl,rfl,rfl,rfl,nofun,fun _ _=>.inl rfl⟩,⟨bA,⟨⟨rfl,rfl,rfl,rfl,nofun,fun _ _=>.inl rfl⟩,⟨⟨rfl,rfl,rfl,rfl,fun _=>rfl,fun i h=>.inl (sts_row hm _ i h)⟩,trivial⟩⟩⟩⟩⟩⟩,⟨⟨rfl,rfl,rfl,trivial,.inl rfl,fun _=>⟨rfl,.inl rfl⟩⟩,⟨⟨rfl,rfl,rfl,⟨rfl,fun _=>rfl⟩,.inr rfl,fun _=>⟨rfl,.inl rfl⟩⟩,trivial⟩⟩⟩⟩
end Go.Tr

/- Contracts of chapter 7: what is reached, the reference. Conditions: none. -/
/- The law SequenceHomes returns true. Conditions: none. -/
/- The law SequenceRuns returns true. Conditions: none. -/
/- Contracts of chapter 7: reached states, the package; the law SequenceReached. Conditions: none. -/
-- seat YtinfmponjglalaaGreatDoor
namespace Go.Tr
open Go Go.Proofs
set_option maxRecDepth 20000
set_option maxHeartbeats 8000000

theorem S75n (p : Pln) (hg : Good p) (f : Int × Bool) (A : List S2) (hA : ∀ x ∈ A,OkS p x) (hnd : A.Nodup) (h0 : 0 < A.length) {n : Nat} {F : Nat → List AV} (hn : n = A.length) (hF : ∀ i,i < n → F i = stC (A.getD i (0,0))) :
  SP 75 [planA p,.rslice 2 n F,ftA f] (sts (spL p f A)) false :=
 (S75 p hg f A hA hnd h0).argsD rfl fun i y z hy hz=>match i,hy,hz with
  | 0,hy,hz=>by cases hy; cases hz; exact .inl rfl
  | 1,hy,hz=>by cases hy; cases hz; exact .inr ⟨1,AVF_rows hn hF 0⟩
  | 2,hy,hz=>by cases hy; cases hz; exact .inl rfl
theorem S38 (p : Pln) (hg : Good p) (f : Int × Bool) : SP 38 [planA p,ftA f] (sts (reachL p f)) false := by
 have hs1 := start_ok hg
 have h75 : ∀ {n : Nat} {F : Nat → List AV},n = 1 → F 0 = [i64 0,i64 p.start] → SP 75 [planA p,.rslice 2 n F,ftA noF] (sts (spL p noF [((0 : Int),p.start)])) false := fun {n F} hn hF =>
  S75n p hg noF _ hs1 (by simp) (by simp) hn fun i hi=>by
   obtain rfl : i = 0 := by omega
   exact hF
 have hne : 0 < (spL p noF [((0 : Int),p.start)]).length := List.length_pos_of_mem ((spL_mem hg hs1).2 (.base (.head _)))
 have h75b := S75 p hg f (spL p noF [((0 : Int),p.start)]) (spL_ok hg) (spL_nd _ _ _) hne
 by_cases hf : f = noF
 ·have hE : reachL p f = spL p noF [((0 : Int),p.start)] := if_pos hf
  have hv : vEqL [.int .i64 f.1,.bool f.2] [.int .i64 (-1),.bool false] = true := by rw [hf]; exact vEq_flt _ _
  rw [hE]
  refine sound (d := 2) tok2 mixed2 Tryz.func38 (by kernel_rfl) (by kernel_rfl) ?_
  (conv=>whnf); refine .inl ⟨_,_,byX rfl (h75 (by omega) rfl),?_⟩
  (conv=>whnf); refine ifB_intro (fun w1=>?_) (fun w1=>?_)
  ·(conv=>whnf); refine ⟨?_,nofun⟩
   (first | contradiction | exact ⟨rfl,rfl,fun _ _=>rfl⟩)
  ·exact absurd (hv.symm.trans w1) nofun
 ·have hE : reachL p f = spL p f (spL p noF [((0 : Int),p.start)]) := if_neg hf
  have hv : vEqL [.int .i64 f.1,.bool f.2] [.int .i64 (-1),.bool false] = false := by
   cases h : vEqL [.int .i64 f.1,.bool f.2] [.int .i64 (-1),.bool false] with
   | false=>rfl
   | true=>exact absurd (Prod.ext (veq_if h).1 (veq_if h).2) hf
  rw [hE]
  refine sound (d := 2) tok2 mixed2 Tryz.func38 (by kernel_rfl) (by kernel_rfl) ?_
  (conv=>whnf); refine .inl ⟨_,_,byX rfl (h75 (by omega) rfl),?_⟩
  (conv=>whnf); refine ifB_intro (fun w1=>?_) (fun w1=>?_)
  ·exact absurd (hv.symm.trans w1) nofun
  ·(conv=>whnf); refine .inl ⟨_,_,byX rfl (h75b),?_⟩
   (conv=>whnf); refine ⟨?_,nofun⟩
   (first | contradiction | exact ⟨rfl,rfl,fun _ _=>rfl⟩)
theorem S9o (p : Pln) (hp : FewP p) (hc : (checkP p).2 = 0) (f : Int × Bool) (hf : faultE p f = 0) : SP 9 [planA p,ftA f] (.tuple [sts (reachL p f),i64 0]) false := by
 have h36 := S36 p hp
 have h37 := S37 p hp.sig f
 have h38 := S38 p (Good.of hp hc) f
 rw [hc] at h36
 rw [hf] at h37
 refine sound (d := 2) tok2 mixed2 Tryz.func9 (by kernel_rfl) (by kernel_rfl) ?_
 (conv=>whnf); refine .inl ⟨_,_,byX rfl (h36),?_⟩
 (conv=>whnf); refine .inl ⟨_,_,byX rfl (Sound1.pl (h37) rfl),?_⟩
 (conv=>whnf); refine .inl ⟨_,_,byX rfl (h38),?_⟩
 (conv=>whnf); refine ⟨?_,nofun⟩
 (first | contradiction | omega | exact ave_tup2 (k := 4) ⟨rfl,rfl,fun _ _=>rfl⟩ rfl)
theorem S16 (l : List S2) (hl : l.length ≤ 1000000) (s : S2) : SP 16 [sts l,stA s] (vb (decide (s ∈ l))) false := by
 refine sound (d := 2) tok2 mixed2 Tryz.func16 (by kernel_rfl) (by kernel_rfl) ?_
 (conv=>whnf); refine ⟨[],[0,3,5],fun st mq=>∃ (k : Nat),(k ≤ l.length) ∧ (∀ j,j < k → l.getD j (0,0) ≠ s) ∧ st = ⟨[(0,sts l),(3,.optr 0 0 0 0),(5,i64 k)],⟨[⟨2,1,fun _=>stC s,0,false,true,true⟩],[],none,0⟩,[]⟩ ∧ mq = l.length - k,
  ⟨_,_,⟨0,by omega,fun i h=>absurd h (Nat.not_lt_zero i),rfl,rfl⟩,⟨⟨.inl rfl,rfl,rfl,rfl⟩,⟨bA,trivial⟩,trivial⟩⟩,?_⟩
 rintro s0 m0 ⟨k,hk,hn,rfl,hmeas⟩
 by_cases hlt : k < l.length
 ·conv=>whnf
  (conv=>whnf); refine ifB_dec (fun w1=>?_) (fun w1=>?_)
  ·conv=>whnf
   (conv=>whnf); refine ⟨[],by kernel_rfl,?_⟩
   conv=>whnf
   (conv=>whnf); refine ⟨⟨(by omega),(by omega)⟩,?_⟩
   conv=>whnf
   (conv=>whnf); refine ifB_veq2 (fun w2=>?_) (fun w2=>?_)
   ·conv=>whnf
    (conv=>whnf); refine ⟨?_,nofun⟩
    have e : l.getD k (0,0) = s := Prod.ext w2.1 w2.2
    exact endb (decide_eq_true (e ▸ getD_mem hlt)).symm
   ·conv=>whnf
    (conv=>whnf); refine ⟨inK64 (by omega) (by omega),?_⟩
    have e : l.getD k (0,0) ≠ s := fun e=>w2 ⟨congrArg Prod.fst e,congrArg Prod.snd e⟩
    conv=>whnf
    (conv=>whnf); refine ⟨_,_,⟨⟨k + 1,by omega,fun j hj=>(by rcases Nat.lt_succ_iff_lt_or_eq.1 hj with h | h; exact hn j h; rw [h]; exact e),rfl,rfl⟩,by omega⟩,⟨⟨.inl rfl,rfl,rfl,rfl⟩,⟨bA,trivial⟩,trivial⟩⟩
  ·(exfalso; omega)
 ·have hno : ¬ s ∈ l := fun h=>by
   obtain ⟨c,c1,c2⟩ := mem_getD h
   exact hn c (by omega) c2
  conv=>whnf
  (conv=>whnf); refine ifB_dec (fun w1=>?_) (fun w1=>?_)
  ·(exfalso; omega)
  ·conv=>whnf
   (conv=>whnf); refine ⟨?_,nofun⟩
   exact endb (decide_eq_false hno).symm
end Go.Tr

/- Plain law: all that is reached with all faults, in order; traps, ranks, the longest way home. Conditions: none. -/
-- seat YtinfmponjglalaaGreatDoor
namespace Go.Tr
open Go Go.Proofs
set_option maxRecDepth 20000
set_option maxHeartbeats 8000000

abbrev nF (p : Pln) : Nat := 2 * p.sig.length + 1
noncomputable def rch (p : Pln) (i : Nat) : List S2 := reachL p (fltAt i)
noncomputable def plR (p : Pln) (i : Nat) : List Plc := (rch p i).map fun s=>(s,fltAt i)
noncomputable def pre (p : Pln) (i j : Nat) : List Plc := ((List.range i).flatMap (plR p)) ++ (plR p i).take j
noncomputable def plL (p : Pln) : List Plc := (List.range (nF p)).flatMap (plR p)
abbrev pc0 : Plc := ((0,0),(0,false))
theorem plR_len (p : Pln) (i : Nat) : (plR p i).length = (rch p i).length := List.length_map ..
theorem pre_s {p : Pln} {i j : Nat} (h : j < (rch p i).length) : pre p i (j + 1) = pre p i j ++ [((rch p i).getD j (0,0),fltAt i)] := by
 unfold pre
 rw [List.append_assoc,List.take_add_one,List.getElem?_eq_getElem (by rw [plR_len]; exact h)]
 congr 2
 unfold plR
 rw [List.getElem_map,List.getD_eq_getElem?_getD,List.getElem?_eq_getElem h]; rfl
theorem pre_n (p : Pln) (i : Nat) : pre p i (rch p i).length = pre p (i + 1) 0 := by
  unfold pre
  rw [List.take_of_length_le (by rw [plR_len]; exact Nat.le_refl _),List.range_succ,List.flatMap_append,List.take_zero,List.append_nil,List.flatMap_cons,List.flatMap_nil,List.append_nil]
theorem pre_e (p : Pln) : pre p (nF p) 0 = plL p := by
  unfold pre plL
  rw [List.take_zero,List.append_nil]
theorem pre_le {p : Pln} {i j : Nat} (hi : i < nF p) : ∃ r,plL p = pre p i j ++ r := by
 have key : ∀ k,i + 1 + k = nF p → ∃ r,plL p = pre p (i + 1) 0 ++ r := fun k hk=>by
  refine ⟨((List.range k).map (i + 1 + ·)).flatMap (plR p),?_⟩
  unfold plL pre
  rw [← hk,List.range_add,List.flatMap_append,List.take_zero,List.append_nil]
 obtain ⟨r,hr⟩ := key (nF p - (i + 1)) (by omega)
 refine ⟨(plR p i).drop j ++ r,?_⟩
 rw [hr,← pre_n]
 unfold pre
 rw [List.take_of_length_le (i := (rch p i).length) (by rw [plR_len]; exact Nat.le_refl _)]
 rw [List.append_assoc,List.append_assoc,← List.append_assoc (List.take j (plR p i)),List.take_append_drop]
def hom (p : Pln) (q : Plc) : Option (List S2 × Int) := homeF p q.2 q.1
noncomputable def trapO (p : Pln) : Option Plc := (plL p).find? fun q=>(hom p q).isNone
def AllH (p : Pln) (L : List Plc) : Prop := ∀ q ∈ L,(hom p q).isNone = false
theorem trap_some {p : Pln} {i j : Nat} (hi : i < nF p) (hj : j < (rch p i).length) (ha : AllH p (pre p i j)) (hn : hom p ((rch p i).getD j (0,0),fltAt i) = none) : trapO p = some ((rch p i).getD j (0,0),fltAt i) := by
 obtain ⟨r,hr⟩ := pre_le (p := p) (i := i) (j := j + 1) hi
 unfold trapO
 rw [hr,pre_s hj,List.append_assoc,List.find?_append,List.find?_eq_none.2 (fun q hq=>by rw [ha q hq]; nofun)]
 rw [Option.none_or,List.singleton_append,List.find?_cons_of_pos (by rw [hn]; rfl)]
theorem trap_none {p : Pln} (ha : AllH p (plL p)) : trapO p = none := List.find?_eq_none.2 fun q hq=>by rw [ha q hq]; nofun
theorem AllH.snoc {p : Pln} {L : List Plc} (h : AllH p L) {q : Plc} {r : List S2 × Int} (hq : hom p q = some r) : AllH p (L ++ [q]) := fun x hx=>by
 rcases List.mem_append.1 hx with h1 | h1
 ·exact h x h1
 ·rw [List.mem_singleton.1 h1,hq]; rfl
def rnk (p : Pln) (q : Plc) : Rnk := (q,match hom p q with | some r=>(r.1.length : Int) | none=>0)
def tik (p : Pln) (q : Plc) : Int := match hom p q with | some r=>r.2 | none=>0
theorem rnk_some {p : Pln} {q : Plc} {r : List S2 × Int} (h : hom p q = some r) : rnk p q = (q,(r.1.length : Int)) := by unfold rnk; rw [h]
theorem tik_some {p : Pln} {q : Plc} {r : List S2 × Int} (h : hom p q = some r) : tik p q = r.2 := by unfold tik; rw [h]
def lngL (p : Pln) (L : List Plc) : Int := L.foldl (fun m q=>max m (tik p q)) 0
theorem lng_snoc (p : Pln) (L : List Plc) (q : Plc) : lngL p (L ++ [q]) = max (lngL p L) (tik p q) := by simp [lngL]
theorem rch_len {p : Pln} (hg : Good p) (i : Nat) : (rch p i).length ≤ 320 := reach_len hg
theorem pre_len {p : Pln} (hg : Good p) (i j : Nat) (hj : j ≤ 320) : (pre p i j).length ≤ 320 * (i + 1) := by
 have key : ∀ i,((List.range i).flatMap (plR p)).length ≤ 320 * i := fun i=>by
  induction i with
  | zero=>simp
  | succ i ih =>
   have := rch_len hg i
   rw [List.range_succ,List.flatMap_append,List.length_append,List.flatMap_cons,List.flatMap_nil,List.append_nil,plR_len]
   omega
 unfold pre
 have := key i
 rw [List.length_append,List.length_take]
 omega
theorem rch_ok {p : Pln} (hg : Good p) {i j : Nat} (h : j < (rch p i).length) : OkS p ((rch p i).getD j (0,0)) := reach_ok hg _ (getD_mem h)
end Go.Tr

/- Contracts of chapter 7: traps, ranks, the longest way home. Conditions: none. -/
-- seat YtinfmponjglalaaGreatDoor
namespace Go.Tr
open Go Go.Proofs
set_option maxRecDepth 20000
set_option maxHeartbeats 8000000

abbrev rkA (r : Rnk) : AV := .agg (rkC r)
theorem ave_rk {k : Nat} (r : Rnk) : AVE (k + 2) (rkA r) (rkA r) := ⟨rfl,fun i x y hx hy=>by
 match i,hx,hy with
 | 0,hx,hy=>cases hx; cases hy; exact rfl
 | 1,hx,hy=>cases hx; cases hy; exact rfl
 | 2,hx,hy=>cases hx; cases hy; exact rfl
 | 3,hx,hy=>cases hx; cases hy; exact rfl
 | 4,hx,hy=>cases hx; cases hy; exact rfl⟩
noncomputable def trapR (p : Pln) : AV := match trapO p with | some q=>.tuple [rkA (q,0),i64 0] | none=>.tuple [rkA rk0,i64 12]
theorem trap_f1 {p : Pln} {q : Plc} (h : trapO p = some q) : AVE 5 (.tuple [rkA (q,0),i64 0]) (trapR p) := by
 unfold trapR
 rw [h]
 exact ave_tup2 (k := 4) (ave_rk _) rfl
theorem trap_f0 {p : Pln} (h : trapO p = none) : AVE 5 (.tuple [rkA rk0,i64 12]) (trapR p) := by
 unfold trapR
 rw [h]
 exact ave_tup2 (k := 4) (ave_rk _) rfl
noncomputable def rkL (p : Pln) : List Rnk := (plL p).map (rnk p)
noncomputable def ranksR (p : Pln) : AV := match trapO p with | some _=>.tuple [.eslice,i64 13] | none=>.tuple [ranksA (rkL p),i64 0]
theorem rank_f1 {p : Pln} {q : Plc} (h : trapO p = some q) : AVE 5 (.tuple [.eslice,i64 13]) (ranksR p) := by
 unfold ranksR
 rw [h]
 exact ave_tup2 (k := 4) rfl rfl
theorem rank_f0 {p : Pln} (h : trapO p = none) {n : Nat} {F : Nat → List AV} (hn : n = (rkL p).length) (hF : ∀ i,i < n → F i = rkC ((rkL p).getD i rk0)) : AVE 5 (.tuple [.rslice 5 n F,i64 0]) (ranksR p) := by
 unfold ranksR
 rw [h]
 exact ave_tup2 (k := 4) ⟨rfl,hn,hF⟩ rfl
theorem rk_row {l : List Rnk} {n : Nat} (hn : l.length = n) (x : Rnk) (i : Nat) (h : i < n + 1) : rkC ((l ++ [x]).getD i rk0) = if i < n then rkC (l.getD (0 + i) rk0) else List.take 5 (List.drop ((i - n) * 5) (rkC x)) := by
 subst hn
 rw [Nat.zero_add]
 by_cases hi : i < l.length
 ·rw [if_pos hi,List.getD_eq_getElem?_getD,List.getD_eq_getElem?_getD,List.getElem?_append_left hi]
 ·obtain rfl : i = l.length := by omega
  rw [if_neg hi,Nat.sub_self,List.getD_eq_getElem?_getD,List.getElem?_append_right (Nat.le_refl _),Nat.sub_self]; rfl
noncomputable def longR (p : Pln) : AV := match trapO p with | some _=>.tuple [i64 0,i64 13] | none=>.tuple [i64 (lngL p (plL p)),i64 0]
theorem long_f1 {p : Pln} {q : Plc} (h : trapO p = some q) : AVE 5 (.tuple [i64 0,i64 13]) (longR p) := by
 unfold longR
 rw [h]
 exact ave_tup2 (k := 4) rfl rfl
theorem long_f0 {p : Pln} (h : trapO p = none) {m : Int} (hm : m = lngL p (plL p)) : AVE 5 (.tuple [i64 m,i64 0]) (longR p) := by
 unfold longR
 rw [h,hm]
 exact ave_tup2 (k := 4) rfl rfl
set_option maxHeartbeats 8000000 in
theorem S19 (p : Pln) (hp : FewP p) (hc : (checkP p).2 = 0) : SP 19 [planA p] (trapR p) false := by
 have hg := Good.of hp hc
 have h36 := S36 p hp
 rw [hc] at h36
 have h81 := S81 p (by have := hp.sig; omega)
 have h45 := S45
 have hnF : nF p = 2 * p.sig.length + 1 := rfl
 have hsg := hp.sig
 refine sound (d := 2) tok2 mixed2 Tryz.func19 (by kernel_rfl) (by kernel_rfl) ?_
 (conv=>whnf); refine .inl ⟨_,_,byX rfl (h36),?_⟩
 (conv=>whnf); refine .inr (.inl ⟨[],?_⟩)
 (conv=>whnf); refine .inl ⟨_,_,byX rfl (h81),?_⟩
 (conv=>whnf); refine ⟨[.forget [0,1,3,4,5,8,9,10,11,12,13,14,17,18]],[1,2,12,13,14],fun st mq=>∃ (i : Nat) (F0 : Nat → List AV) (F2 : Nat → List AV),(i ≤ nF p) ∧ (AllH p (pre p i 0)) ∧ st = ⟨[(1,.func (.func 49) 0 [.optr 3 0 0 0,.optr 4 0 0 0]),(2,.optr 5 0 0 0),(12,fts p.sig.length),(13,i64 (2 * p.sig.length + 1 : Nat)),(14,i64 i)],⟨[⟨3,1,F0,0,false,true,false⟩,⟨5,1,fun _=>rkC rk0,0,false,true,true⟩,⟨3,1,F2,0,false,true,false⟩,⟨5,1,fun _=>rkC rk0,0,false,true,true⟩,⟨1,1,fun _=>[vb false],0,false,true,true⟩,⟨3,1,fun _=>planC p,0,false,true,true⟩],[],none,0⟩,[(7,.optr 4 0 0 0),(6,.optr 3 0 0 0),(2,.optr 1 0 0 0)]⟩ ∧ mq = nF p - i,
  ⟨_,_,⟨0,_,_,by omega,(fun q hq=>by cases hq),rfl,rfl⟩,⟨⟨.inl rfl,rfl,rfl,rfl⟩,⟨bA,⟨bA,⟨bA,⟨bA,⟨bA,⟨bA,trivial⟩⟩⟩⟩⟩⟩,trivial⟩⟩,?_⟩
 rintro s0 m0 ⟨i,F0,F2,hi,ha,rfl,hmeas⟩
 by_cases hlt : i < nF p
 ·have h38 := S38 p hg (fltAt (i : Int).toNat)
  have hrl := rch_len hg i
  conv=>whnf
  (conv=>whnf); refine ifB_dec (fun w1=>?_) (fun w1=>?_)
  ·conv=>whnf
   (conv=>whnf); refine ⟨⟨(by omega),(by omega)⟩,?_⟩
   conv=>whnf
   (conv=>whnf); refine .inl ⟨_,_,byX rfl (h38),?_⟩
   conv=>whnf
   (conv=>whnf); refine ⟨[],[1,2,5,12,13,14,20,21,22],fun st mq=>∃ (j : Nat) (F0 : Nat → List AV) (F2 : Nat → List AV),(j ≤ (rch p i).length) ∧ (AllH p (pre p i j)) ∧ st = ⟨[(1,.func (.func 49) 0 [.optr 3 0 0 0,.optr 4 0 0 0]),(2,.optr 5 0 0 0),(5,.optr 6 0 0 0),(12,fts p.sig.length),(13,i64 (2 * p.sig.length + 1 : Nat)),(14,i64 i),(20,sts (rch p i)),(21,i64 (rch p i).length),(22,i64 j)],⟨[⟨3,1,F0,0,false,true,false⟩,⟨5,1,fun _=>rkC rk0,0,false,true,true⟩,⟨3,1,F2,0,false,true,false⟩,⟨5,1,fun _=>rkC rk0,0,false,true,true⟩,⟨1,1,fun _=>[vb false],0,false,true,true⟩,⟨3,1,fun _=>planC p,0,false,true,true⟩,⟨2,1,fun _=>fltC (fltAt i),0,false,true,true⟩],[],none,0⟩,[(7,.optr 4 0 0 0),(6,.optr 3 0 0 0),(2,.optr 1 0 0 0)]⟩ ∧ mq = (rch p i).length - j,
    ⟨_,_,⟨0,_,_,by omega,ha,rfl,rfl⟩,⟨⟨.inl rfl,rfl,rfl,rfl⟩,⟨bA,⟨bA,⟨bA,⟨bA,⟨bA,⟨bA,⟨bA,trivial⟩⟩⟩⟩⟩⟩⟩,trivial⟩⟩,?_⟩
   rintro s0 m0 ⟨j,F0,F2,hj,ha,rfl,hmeas⟩
   by_cases hlj : j < (rch p i).length
   ·have hso := rch_ok hg hlj
    have h61 := S61 p hg (fltAt i) ((rch p i).getD (j : Int).toNat (0,0)) hso
    have hps := pre_s hlj
    cases hx : homeF p (fltAt i) ((rch p i).getD (j : Int).toNat (0,0)) with
    | none =>
     have hT := trap_some hlt hlj ha hx
     rw [hx] at h61
     have hend := trap_f1 hT
     conv=>whnf
     conv=>whnf
     (conv=>whnf); refine ifB_dec (fun w2=>?_) (fun w2=>?_)
     ·conv=>whnf
      conv=>whnf
      (conv=>whnf); refine ⟨⟨(by omega),(by omega)⟩,?_⟩
      conv=>whnf
      conv=>whnf
      (conv=>whnf); refine .inl ⟨_,_,byX rfl (h61),?_⟩
      conv=>whnf
      conv=>whnf
      (conv=>whnf); refine .inr (.inl ⟨[],?_⟩)
      conv=>whnf
      conv=>whnf
      (conv=>whnf); refine ⟨[],by kernel_rfl,?_⟩
      conv=>whnf
      conv=>whnf
      (conv=>whnf); refine .inl ⟨_,_,byX rfl (Sound1.pl (h45 _ _) rfl),?_⟩
      conv=>whnf
      conv=>whnf
      (conv=>whnf); refine ⟨?_,nofun⟩
      (first | contradiction | omega | exact hend)
     ·(exfalso; omega)
    | some r =>
     rw [hx] at h61
     have ha2 : AllH p (pre p i (j + 1)) := by rw [hps]; exact ha.snoc (q := ((rch p i).getD j (0,0),fltAt i)) hx
     conv=>whnf
     conv=>whnf
     (conv=>whnf); refine ifB_dec (fun w2=>?_) (fun w2=>?_)
     ·conv=>whnf
      conv=>whnf
      (conv=>whnf); refine ⟨⟨(by omega),(by omega)⟩,?_⟩
      conv=>whnf
      conv=>whnf
      (conv=>whnf); refine .inl ⟨_,_,byX rfl (h61),?_⟩
      conv=>whnf
      conv=>whnf
      (conv=>whnf); refine .inr (.inl ⟨[],?_⟩)
      conv=>whnf
      conv=>whnf
      (conv=>whnf); refine ⟨inK64 (by omega) (by omega),?_⟩
      conv=>whnf
      conv=>whnf
      (conv=>whnf); refine ⟨_,_,⟨⟨j + 1,_,_,by omega,ha2,rfl,rfl⟩,by omega⟩,⟨⟨.inl rfl,rfl,rfl,rfl⟩,⟨bA,⟨bA,⟨bA,⟨bA,⟨bA,⟨bA,⟨bA,trivial⟩⟩⟩⟩⟩⟩⟩,trivial⟩⟩
     ·(exfalso; omega)
   ·have hje : j = (rch p i).length := by omega
    have ha2 : AllH p (pre p (i + 1) 0) := by rw [← pre_n,← hje]; exact ha
    conv=>whnf
    conv=>whnf
    (conv=>whnf); refine ifB_dec (fun w2=>?_) (fun w2=>?_)
    ·(exfalso; omega)
    ·conv=>whnf
     conv=>whnf
     (conv=>whnf); refine ⟨inK64 (by omega) (by omega),?_⟩
     conv=>whnf
     conv=>whnf
     (conv=>whnf); refine ⟨_,_,⟨⟨i + 1,_,_,by omega,ha2,rfl,rfl⟩,by omega⟩,⟨⟨.inl rfl,rfl,rfl,rfl⟩,⟨bA,⟨bA,⟨bA,⟨bA,⟨bA,⟨bA,trivial⟩⟩⟩⟩⟩⟩,trivial⟩⟩
  ·(exfalso; omega)
 ·have hie : i = nF p := by omega
  have hT : trapO p = none := trap_none (by rw [← pre_e,← hie]; exact ha)
  have hend := trap_f0 hT
  conv=>whnf
  (conv=>whnf); refine ifB_dec (fun w1=>?_) (fun w1=>?_)
  ·(exfalso; omega)
  ·conv=>whnf
   (conv=>whnf); refine ⟨[],by kernel_rfl,?_⟩
   conv=>whnf
   (conv=>whnf); refine .inl ⟨_,_,byX rfl (Sound1.pl (h45 _ _) rfl),?_⟩
   conv=>whnf
   (conv=>whnf); refine ⟨?_,nofun⟩
   (first | contradiction | omega | exact hend)
set_option maxHeartbeats 8000000 in
theorem S20 (p : Pln) (hp : FewP p) (hc : (checkP p).2 = 0) : SP 20 [planA p] (ranksR p) false := by
 have hg := Good.of hp hc
 have h36 := S36 p hp
 rw [hc] at h36
 have h81 := S81 p (by have := hp.sig; omega)
 have h45 := S45
 have hnF : nF p = 2 * p.sig.length + 1 := rfl
 have hsg := hp.sig
 have hb50 : Tryz.prog.types[50].bytes = 40 := by kernel_rfl
 refine sound (d := 2) tok2 mixed2 Tryz.func20 (by kernel_rfl) (by kernel_rfl) ?_
 (conv=>whnf); refine .inl ⟨_,_,byX rfl (h36),?_⟩
 (conv=>whnf); refine .inr (.inl ⟨[],?_⟩)
 (conv=>whnf); refine .inl ⟨_,_,byX rfl (h81),?_⟩
 (conv=>whnf); refine ⟨[.forget [0,1,2,3,4,5,8,9,10,11,12,13,14,15,16,17],.cell 2 0 5],[1,2,12,13,14],fun st mq=>∃ (i : Nat) (m : Nat) (L : List Rnk) (F0 : Nat → List AV) (F1 : Nat → List AV),(i ≤ nF p) ∧ (AllH p (pre p i 0)) ∧ (L = (pre p i 0).map (rnk p)) ∧ (L.length = m) ∧ st = ⟨[(1,.func (.func 50) 0 [.optr 2 0 0 0,.optr 3 0 0 0]),(2,.optr 4 0 0 0),(12,fts p.sig.length),(13,i64 (2 * p.sig.length + 1 : Nat)),(14,i64 i)],⟨[⟨3,1,F0,0,false,true,false⟩,⟨3,1,F1,0,false,true,false⟩,⟨1,1,fun _=>[.oslice 5 0 0 m none],0,false,false,true⟩,⟨1,1,fun _=>[vb true],0,false,true,true⟩,⟨3,1,fun _=>planC p,0,false,true,true⟩,⟨5,m,fun k=>rkC (L.getD k rk0),0,false,true,false⟩],[],none,0⟩,[(7,.optr 3 0 0 0),(6,.optr 2 0 0 0)]⟩ ∧ mq = nF p - i,
  ⟨_,_,⟨0,0,[],_,_,by omega,(fun q hq=>by cases hq),rfl,rfl,rfl,rfl⟩,⟨⟨.inl rfl,rfl,rfl,rfl⟩,⟨bA,⟨bA,⟨⟨rfl,rfl,rfl,rfl,nofun,fun _ _=>.inl rfl⟩,⟨bA,⟨bA,⟨⟨rfl,rfl,rfl,rfl,fun _=>rfl,fun i h=>.inl (absurd h (Nat.not_lt_zero i))⟩,trivial⟩⟩⟩⟩⟩⟩,trivial⟩⟩,?_⟩
 rintro s0 m0 ⟨i,m,L,F0,F1,hi,ha,hL,hm,rfl,hmeas⟩
 by_cases hlt : i < nF p
 ·have h38 := S38 p hg (fltAt (i : Int).toNat)
  have hrl := rch_len hg i
  conv=>whnf
  (conv=>whnf); refine ifB_dec (fun w1=>?_) (fun w1=>?_)
  ·conv=>whnf
   (conv=>whnf); refine ⟨⟨(by omega),(by omega)⟩,?_⟩
   conv=>whnf
   (conv=>whnf); refine .inl ⟨_,_,byX rfl (h38),?_⟩
   conv=>whnf
   (conv=>whnf); refine ⟨[],[1,2,5,12,13,14,20,21,22],fun st mq=>∃ (j : Nat) (m : Nat) (L : List Rnk) (F0 : Nat → List AV) (F1 : Nat → List AV),(j ≤ (rch p i).length) ∧ (AllH p (pre p i j)) ∧ (L = (pre p i j).map (rnk p)) ∧ (L.length = m) ∧ st = ⟨[(1,.func (.func 50) 0 [.optr 2 0 0 0,.optr 3 0 0 0]),(2,.optr 4 0 0 0),(5,.optr 6 0 0 0),(12,fts p.sig.length),(13,i64 (2 * p.sig.length + 1 : Nat)),(14,i64 i),(20,sts (rch p i)),(21,i64 (rch p i).length),(22,i64 j)],⟨[⟨3,1,F0,0,false,true,false⟩,⟨3,1,F1,0,false,true,false⟩,⟨1,1,fun _=>[.oslice 5 0 0 m none],0,false,false,true⟩,⟨1,1,fun _=>[vb true],0,false,true,true⟩,⟨3,1,fun _=>planC p,0,false,true,true⟩,⟨5,m,fun k=>rkC (L.getD k rk0),0,false,true,false⟩,⟨2,1,fun _=>fltC (fltAt i),0,false,true,true⟩],[],none,0⟩,[(7,.optr 3 0 0 0),(6,.optr 2 0 0 0)]⟩ ∧ mq = (rch p i).length - j,
    ⟨_,_,⟨0,m,L,_,_,by omega,ha,hL,hm,rfl,rfl⟩,⟨⟨.inl rfl,rfl,rfl,rfl⟩,⟨bA,⟨bA,⟨⟨rfl,rfl,rfl,rfl,nofun,fun _ _=>.inl rfl⟩,⟨bA,⟨bA,⟨bA,⟨bA,trivial⟩⟩⟩⟩⟩⟩⟩,trivial⟩⟩,?_⟩
   rintro s0 m0 ⟨j,m,L,F0,F1,hj,ha,hL,hm,rfl,hmeas⟩
   by_cases hlj : j < (rch p i).length
   ·have hso := rch_ok hg hlj
    have h61 := S61 p hg (fltAt i) ((rch p i).getD (j : Int).toNat (0,0)) hso
    have hps := pre_s hlj
    have hpl := pre_len hg i j (by omega)
    have hml : m = (pre p i j).length := by rw [← hm,hL,List.length_map]
    have hneed2 : (m + 1) * (Tryz.prog.types[50].bytes + 1) ≤ 1000000000000 := by rw [hb50]; omega
    cases hx : homeF p (fltAt i) ((rch p i).getD (j : Int).toNat (0,0)) with
    | none =>
     have hT := trap_some hlt hlj ha hx
     rw [hx] at h61
     have hend := rank_f1 hT
     conv=>whnf
     conv=>whnf
     (conv=>whnf); refine ifB_dec (fun w2=>?_) (fun w2=>?_)
     ·conv=>whnf
      conv=>whnf
      (conv=>whnf); refine ⟨⟨(by omega),(by omega)⟩,?_⟩
      conv=>whnf
      conv=>whnf
      (conv=>whnf); refine .inl ⟨_,_,byX rfl (h61),?_⟩
      conv=>whnf
      conv=>whnf
      (conv=>whnf); refine .inr (.inl ⟨[],?_⟩)
      conv=>whnf
      conv=>whnf
      (conv=>whnf); refine .inl ?_
      conv=>whnf
      conv=>whnf
      (conv=>whnf); refine ⟨(by show _ * (40 + 1) ≤ _; omega),?_⟩
      conv=>whnf
      conv=>whnf
      (conv=>whnf); refine ⟨?_,nofun⟩
      (first | contradiction | omega | exact hend | exact hneed2)
     ·(exfalso; omega)
    | some r =>
     rw [hx] at h61
     have ha2 : AllH p (pre p i (j + 1)) := by rw [hps]; exact ha.snoc (q := ((rch p i).getD j (0,0),fltAt i)) hx
     have hL2 : L ++ [(((rch p i).getD j (0,0),fltAt i),(r.1.length : Int))] = (pre p i (j + 1)).map (rnk p) := by
      rw [hps,List.map_append,hL]
      have hk := rnk_some (q := ((rch p i).getD j (0,0),fltAt i)) hx
      rw [List.map_cons,List.map_nil,hk]
     conv=>whnf
     conv=>whnf
     (conv=>whnf); refine ifB_dec (fun w2=>?_) (fun w2=>?_)
     ·conv=>whnf
      conv=>whnf
      (conv=>whnf); refine ⟨⟨(by omega),(by omega)⟩,?_⟩
      conv=>whnf
      conv=>whnf
      (conv=>whnf); refine .inl ⟨_,_,byX rfl (h61),?_⟩
      conv=>whnf
      conv=>whnf
      (conv=>whnf); refine .inr (.inl ⟨[],?_⟩)
      conv=>whnf
      conv=>whnf
      (conv=>whnf); refine .inl ?_
      conv=>whnf
      conv=>whnf
      (conv=>whnf); refine ⟨(by show _ * (40 + 1) ≤ _; omega),?_⟩
      conv=>whnf
      conv=>whnf
      (conv=>whnf); refine ⟨inK64 (by omega) (by omega),?_⟩
      conv=>whnf
      conv=>whnf
      (conv=>whnf); refine ⟨_,_,⟨⟨j + 1,m + 1,L ++ [(((rch p i).getD j (0,0),fltAt i),(r.1.length : Int))],_,_,by omega,ha2,hL2,(by rw [List.length_append,hm]; rfl),rfl,rfl⟩,by omega⟩,⟨⟨.inl rfl,rfl,rfl,rfl⟩,⟨bA,⟨bA,⟨⟨rfl,rfl,rfl,rfl,nofun,fun _ _=>.inl rfl⟩,⟨bA,⟨bA,⟨⟨rfl,rfl,rfl,rfl,fun _=>rfl,fun k hk=>.inl (rk_row hm _ k hk)⟩,⟨bA,trivial⟩⟩⟩⟩⟩⟩⟩,trivial⟩⟩
     ·(exfalso; omega)
   ·have hje : j = (rch p i).length := by omega
    have ha2 : AllH p (pre p (i + 1) 0) := by rw [← pre_n,← hje]; exact ha
    rw [hje,pre_n] at hL
    conv=>whnf
    conv=>whnf
    (conv=>whnf); refine ifB_dec (fun w2=>?_) (fun w2=>?_)
    ·(exfalso; omega)
    ·conv=>whnf
     conv=>whnf
     (conv=>whnf); refine ⟨inK64 (by omega) (by omega),?_⟩
     conv=>whnf
     conv=>whnf
     (conv=>whnf); refine ⟨_,_,⟨⟨i + 1,m,L,_,_,by omega,ha2,hL,hm,rfl,rfl⟩,by omega⟩,⟨⟨.inl rfl,rfl,rfl,rfl⟩,⟨bA,⟨bA,⟨⟨rfl,rfl,rfl,rfl,nofun,fun _ _=>.inl rfl⟩,⟨bA,⟨bA,⟨bA,trivial⟩⟩⟩⟩⟩⟩,trivial⟩⟩
  ·(exfalso; omega)
 ·have hie : i = nF p := by omega
  have hT : trapO p = none := trap_none (by rw [← pre_e,← hie]; exact ha)
  have hE : L = rkL p := by rw [hL,hie,pre_e]; rfl
  subst hE
  conv=>whnf
  (conv=>whnf); refine ifB_dec (fun w1=>?_) (fun w1=>?_)
  ·(exfalso; omega)
  ·conv=>whnf
   (conv=>whnf); refine ⟨?_,nofun⟩
   (first | contradiction | omega | exact rank_f0 hT hm.symm (fun i hi=>rfl))
set_option maxHeartbeats 8000000 in
theorem S21 (p : Pln) (hp : FewP p) (hc : (checkP p).2 = 0) : SP 21 [planA p] (longR p) false := by
 have hg := Good.of hp hc
 have h36 := S36 p hp
 rw [hc] at h36
 have h81 := S81 p (by have := hp.sig; omega)
 have h45 := S45
 have hnF : nF p = 2 * p.sig.length + 1 := rfl
 have hsg := hp.sig
 have hb50 : Tryz.prog.types[50].bytes = 40 := by kernel_rfl
 refine sound (d := 2) tok2 mixed2 Tryz.func21 (by kernel_rfl) (by kernel_rfl) ?_
 (conv=>whnf); refine .inl ⟨_,_,byX rfl (h36),?_⟩
 (conv=>whnf); refine .inr (.inl ⟨[],?_⟩)
 (conv=>whnf); refine .inl ⟨_,_,byX rfl (h81),?_⟩
 (conv=>whnf); refine ⟨[.forget [0,1,2,3,4,5,8,9,10,11,12,13,14,15,16,17]],[1,2,12,13,14],fun st mq=>∃ (i : Nat) (m : Int) (F0 : Nat → List AV) (F1 : Nat → List AV),(i ≤ nF p) ∧ (AllH p (pre p i 0)) ∧ (m = lngL p (pre p i 0)) ∧ st = ⟨[(1,.func (.func 51) 0 [.optr 2 0 0 0,.optr 3 0 0 0]),(2,.optr 4 0 0 0),(12,fts p.sig.length),(13,i64 (2 * p.sig.length + 1 : Nat)),(14,i64 i)],⟨[⟨3,1,F0,0,false,true,false⟩,⟨3,1,F1,0,false,true,false⟩,⟨1,1,fun _=>[i64 m],0,false,true,true⟩,⟨1,1,fun _=>[vb true],0,false,true,true⟩,⟨3,1,fun _=>planC p,0,false,true,true⟩],[],none,0⟩,[(7,.optr 3 0 0 0),(6,.optr 2 0 0 0)]⟩ ∧ mq = nF p - i,
  ⟨_,_,⟨0,0,_,_,by omega,(fun q hq=>by cases hq),rfl,rfl,rfl⟩,⟨⟨.inl rfl,rfl,rfl,rfl⟩,⟨bA,⟨bA,⟨bA,⟨bA,⟨bA,trivial⟩⟩⟩⟩⟩,trivial⟩⟩,?_⟩
 rintro s0 m0 ⟨i,m,F0,F1,hi,ha,hm,rfl,hmeas⟩
 by_cases hlt : i < nF p
 ·have h38 := S38 p hg (fltAt (i : Int).toNat)
  have hrl := rch_len hg i
  conv=>whnf
  (conv=>whnf); refine ifB_dec (fun w1=>?_) (fun w1=>?_)
  ·conv=>whnf
   (conv=>whnf); refine ⟨⟨(by omega),(by omega)⟩,?_⟩
   conv=>whnf
   (conv=>whnf); refine .inl ⟨_,_,byX rfl (h38),?_⟩
   conv=>whnf
   (conv=>whnf); refine ⟨[],[1,2,5,12,13,14,20,21,22],fun st mq=>∃ (j : Nat) (m : Int) (F0 : Nat → List AV) (F1 : Nat → List AV),(j ≤ (rch p i).length) ∧ (AllH p (pre p i j)) ∧ (m = lngL p (pre p i j)) ∧ st = ⟨[(1,.func (.func 51) 0 [.optr 2 0 0 0,.optr 3 0 0 0]),(2,.optr 4 0 0 0),(5,.optr 5 0 0 0),(12,fts p.sig.length),(13,i64 (2 * p.sig.length + 1 : Nat)),(14,i64 i),(20,sts (rch p i)),(21,i64 (rch p i).length),(22,i64 j)],⟨[⟨3,1,F0,0,false,true,false⟩,⟨3,1,F1,0,false,true,false⟩,⟨1,1,fun _=>[i64 m],0,false,true,true⟩,⟨1,1,fun _=>[vb true],0,false,true,true⟩,⟨3,1,fun _=>planC p,0,false,true,true⟩,⟨2,1,fun _=>fltC (fltAt i),0,false,true,true⟩],[],none,0⟩,[(7,.optr 3 0 0 0),(6,.optr 2 0 0 0)]⟩ ∧ mq = (rch p i).length - j,
    ⟨_,_,⟨0,m,_,_,by omega,ha,hm,rfl,rfl⟩,⟨⟨.inl rfl,rfl,rfl,rfl⟩,⟨bA,⟨bA,⟨bA,⟨bA,⟨bA,⟨bA,trivial⟩⟩⟩⟩⟩⟩,trivial⟩⟩,?_⟩
   rintro s0 m0 ⟨j,m,F0,F1,hj,ha,hm,rfl,hmeas⟩
   by_cases hlj : j < (rch p i).length
   ·have hso := rch_ok hg hlj
    have h61 := S61 p hg (fltAt i) ((rch p i).getD (j : Int).toNat (0,0)) hso
    have hps := pre_s hlj
    cases hx : homeF p (fltAt i) ((rch p i).getD (j : Int).toNat (0,0)) with
    | none =>
     have hT := trap_some hlt hlj ha hx
     rw [hx] at h61
     have hend := long_f1 hT
     conv=>whnf
     conv=>whnf
     (conv=>whnf); refine ifB_dec (fun w2=>?_) (fun w2=>?_)
     ·conv=>whnf
      conv=>whnf
      (conv=>whnf); refine ⟨⟨(by omega),(by omega)⟩,?_⟩
      conv=>whnf
      conv=>whnf
      (conv=>whnf); refine .inl ⟨_,_,byX rfl (h61),?_⟩
      conv=>whnf
      conv=>whnf
      (conv=>whnf); refine .inr (.inl ⟨[],?_⟩)
      conv=>whnf
      conv=>whnf
      (conv=>whnf); refine ⟨?_,nofun⟩
      (first | contradiction | omega | exact hend)
     ·(exfalso; omega)
    | some r =>
     rw [hx] at h61
     have ha2 : AllH p (pre p i (j + 1)) := by rw [hps]; exact ha.snoc (q := ((rch p i).getD j (0,0),fltAt i)) hx
     have hm2 : (if r.2 > m then r.2 else m) = lngL p (pre p i (j + 1)) := by
      rw [hps,lng_snoc,tik_some (q := ((rch p i).getD j (0,0),fltAt i)) hx,← hm]
      split <;> omega
     conv=>whnf
     conv=>whnf
     (conv=>whnf); refine ifB_dec (fun w2=>?_) (fun w2=>?_)
     ·conv=>whnf
      conv=>whnf
      (conv=>whnf); refine ⟨⟨(by omega),(by omega)⟩,?_⟩
      conv=>whnf
      conv=>whnf
      (conv=>whnf); refine .inl ⟨_,_,byX rfl (h61),?_⟩
      conv=>whnf
      conv=>whnf
      (conv=>whnf); refine .inr (.inl ⟨[],?_⟩)
      conv=>whnf
      conv=>whnf
      (conv=>whnf); refine ⟨inK64 (by omega) (by omega),?_⟩
      conv=>whnf
      conv=>whnf
      (conv=>whnf); refine ⟨_,_,⟨⟨j + 1,(if r.2 > m then r.2 else m),_,_,by omega,ha2,hm2,rfl,rfl⟩,by omega⟩,⟨⟨.inl rfl,rfl,rfl,rfl⟩,⟨bA,⟨bA,⟨bA,⟨bA,⟨bA,⟨bA,trivial⟩⟩⟩⟩⟩⟩,trivial⟩⟩
     ·(exfalso; omega)
   ·have hje : j = (rch p i).length := by omega
    have ha2 : AllH p (pre p (i + 1) 0) := by rw [← pre_n,← hje]; exact ha
    rw [hje,pre_n] at hm
    conv=>whnf
    conv=>whnf
    (conv=>whnf); refine ifB_dec (fun w2=>?_) (fun w2=>?_)
    ·(exfalso; omega)
    ·conv=>whnf
     conv=>whnf
     (conv=>whnf); refine ⟨inK64 (by omega) (by omega),?_⟩
     conv=>whnf
     conv=>whnf
     (conv=>whnf); refine ⟨_,_,⟨⟨i + 1,m,_,_,by omega,ha2,hm,rfl,rfl⟩,by omega⟩,⟨⟨.inl rfl,rfl,rfl,rfl⟩,⟨bA,⟨bA,⟨bA,⟨bA,⟨bA,trivial⟩⟩⟩⟩⟩,trivial⟩⟩
  ·(exfalso; omega)
 ·have hie : i = nF p := by omega
  have hT : trapO p = none := trap_none (by rw [← pre_e,← hie]; exact ha)
  have hE : m = lngL p (plL p) := by rw [hm,hie,pre_e]
  conv=>whnf
  (conv=>whnf); refine ifB_dec (fun w1=>?_) (fun w1=>?_)
  ·(exfalso; omega)
  ·conv=>whnf
   (conv=>whnf); refine ⟨?_,nofun⟩
   (first | contradiction | omega | exact long_f0 hT hE)
end Go.Tr

/- Contracts of chapter 7: the reference's ranks; the law SequenceTraps. Conditions: none. -/
-- seat YtinfmponjglalaaGreatDoor
namespace Go.Tr
open Go Go.Proofs
set_option maxRecDepth 20000
set_option maxHeartbeats 8000000

theorem flt_ok {p : Pln} {i : Nat} (h : i < nF p) : OkF p (fltAt i) := by
 have h : i < 2 * p.sig.length + 1 := h
 unfold fltAt
 split
 ·exact ⟨Int.le_refl _,by show (-1 : Int) < _; omega⟩
 ·refine ⟨?_,?_⟩
  ·show (-1 : Int) ≤ (((i - 1) / 2 : Nat) : Int); omega
  ·show (((i - 1) / 2 : Nat) : Int) < _; omega
def lightB (p : Pln) : Bool := decide (p.sig.length ≤ 3) && decide (p.steps.length ≤ 6)
theorem S18 (p : Pln) : SP 18 [planA p] (vb (lightB p)) false := by
 unfold lightB
 refine sound (d := 2) tok2 mixed2 Tryz.func18 (by kernel_rfl) (by kernel_rfl) ?_
 (conv=>whnf); refine ifB_dec (fun w1=>?_) (fun w1=>?_)
 ·(conv=>whnf); refine ⟨?_,nofun⟩
  exact endb (by rw [decide_eq_true (show p.sig.length ≤ 3 by omega),Bool.true_and]; exact decide_eq_decide.2 (by omega))
 ·(conv=>whnf); refine ⟨?_,nofun⟩
  exact endb (by rw [decide_eq_false (show ¬ p.sig.length ≤ 3 by omega)]; rfl)

end Go.Tr

/- The law SequenceProofs returns true. Conditions: none. -/
namespace Go.Tr
open Go Go.Proofs
set_option maxRecDepth 20000
set_option maxHeartbeats 8000000

theorem S57_4 (a b c d : Int) {f : Nat → List AV} (h : f 0 = [i64 a] ∧ f 1 = [i64 b] ∧ f 2 = [i64 c] ∧ f 3 = [i64 d]) : SP 57 [.rslice 1 4 f] (i64 (firstOf [a,b,c,d])) false := by
 have key : ∀ i,i < 4 → f i = [i64 (([a,b,c,d] : List Int).getD i 0)] := fun i hi=>by
  match i,hi with
  | 0,_=>exact h.1
  | 1,_=>exact h.2.1
  | 2,_=>exact h.2.2.1
  | 3,_=>exact h.2.2.2
 refine (S57 [a,b,c,d] (by simp)).argsD rfl fun i y x hy hx=>?_
 match i,hy,hx with
 | 0,hy,hx=>cases hy; cases hx; exact .inr ⟨1,AVF_rows rfl key 0⟩
theorem rank1_pk (p : Pln) (l : List Rnk) (k : Nat) : firstOf [stateE p (l.getD k rk0).1.1,faultE p (l.getD k rk0).1.2,if decide (0 ≤ (l.getD k rk0).2 ∧ (l.getD k rk0).2 ≤ 4000) = true then 0 else 2,if (!hasK l k (l.getD k rk0).1) = true then 0 else 23] = rank1E p l k := by
  unfold rank1E hasK
  cases (findN l (l.getD k rk0).1 k).isSome <;> rfl
theorem rank1_no {p : Pln} {l : List Rnk} {k : Nat} (h : rank1E p l k = 0) : hasK l k (l.getD k rk0).1 = false := by
 unfold rank1E at h
 rw [first4_iff] at h
 unfold hasK
 cases hh : (findN l (l.getD k rk0).1 k).isSome with
 | false=>rfl
 | true=>rw [hh] at h; exact absurd h.2.2.2 (by decide)
theorem S26 (p : Pln) (hp : FewP p) (hg : Good p) (h0 : (checkP p).2 = 0) (l : List Rnk) (hl : l.length ≤ 4000) : SP 26 [planA p, ranksA l] (t2 (ranksF p l).1 (ranksF p l).2) false := by
  have hn5 := hg.n
  have hm10 := hg.m
  have h101 := S36 p hp
  rw [h0] at h101
  have hz : firstOf [0,if decide ((l.length : Int) ≤ 4000) = true then 0 else 8] = 0 := by
    rw [decide_eq_true (by omega)]; rfl
  refine sound (d := 2) tok2 mixed2 Tryz.func26 (by kernel_rfl) (by kernel_rfl) ?_
  (conv=>whnf); refine .inl ⟨_,_,byX rfl (h101),?_⟩
  (conv=>whnf); refine .inl ⟨_,_,byX rfl (Sound1.pl (S45 _ _) rfl),?_⟩
  (conv=>whnf); refine .inl ⟨_,_,byX rfl (Sound1.pl (S57_2 _ _ ⟨rfl,rfl⟩) rfl),?_⟩
  (conv=>whnf); refine ifB_bne (fun w1=>?_) (fun w1=>?_)
  · (exfalso; omega)
  · · (conv => whnf); refine ⟨[], [1, 2, 6, 8, 36, 37, 38], fun st mq => ∃ (k : Nat) (F2 : Nat → List AV), (k ≤ l.length) ∧ (∀ i, i < k → (rank1E p l i != 0) = false) ∧ st = ⟨[(1, ranksA l), (2, .optr 0 0 0 0), (6, .optr 1 0 0 0), (8, .omap 0), (36, ranksA l), (37, i64 l.length), (38, i64 k)], ⟨[⟨3, 1, fun _ => planC p, 0, false, true, true⟩, ⟨3, 1, fun _ => planC p, 0, false, true, true⟩, ⟨1, 2, F2, 0, false, true, false⟩], [⟨kkP, 3, hasP (hasK l k), getP (lookK l k), false, none, 0, .top⟩], none, 0⟩, []⟩ ∧ mq = l.length - k,
        ⟨_,_,⟨0,_,by omega,fun i h=>absurd h (Nat.not_lt_zero i),rfl,rfl⟩,⟨⟨.inl rfl,rfl,rfl,rfl⟩,⟨bA,⟨bA,⟨bA,trivial⟩⟩⟩,⟨⟨rfl,rfl,rfl,trivial,.inl rfl,fun v=>And.imp id Or.inl (⟨hasP_nil l v,getP_nil l v⟩)⟩,trivial⟩⟩⟩,?_⟩
      rintro s0 m0 ⟨k,F2,hk,h1,rfl,hmeas⟩
      by_cases hlt : k < l.length
      · have h109 := S58 p (by omega) (by omega) (l.getD (k : Int).toNat rk0).1.1
        have h103 := S37 p (by omega) (l.getD (k : Int).toNat rk0).1.2
        have h78 := S59 (l.getD (k : Int).toNat rk0).2 0 4000
        have hF := rank1_pk p l k
        conv=>whnf
        (conv=>whnf); refine ifB_dec (fun w2=>?_) (fun w2=>?_)
        · conv=>whnf
          (conv=>whnf); refine ⟨⟨(by omega),(by omega)⟩,?_⟩
          conv=>whnf
          (conv=>whnf); refine ⟨[],by kernel_rfl,?_⟩
          conv=>whnf
          (conv=>whnf); refine .inl ⟨_,_,byX rfl (Sound1.pl (h109) rfl),?_⟩
          conv=>whnf
          (conv=>whnf); refine .inl ⟨_,_,byX rfl (Sound1.pl (h103) rfl),?_⟩
          conv=>whnf
          (conv=>whnf); refine .inl ⟨_,_,byX rfl (Sound1.pl (h78) rfl),?_⟩
          conv=>whnf
          (conv=>whnf); refine .inl ⟨_,_,byX rfl (Sound1.pl (S45 _ _) rfl),?_⟩
          conv=>whnf
          (conv=>whnf); refine .inl ⟨_,_,byX rfl (Sound1.pl (S45 _ _) rfl),?_⟩
          conv=>whnf
          (conv=>whnf); refine .inl ⟨_,_,byX rfl (Sound1.pl (S57_4 _ _ _ _ ⟨rfl,rfl,rfl,rfl⟩) rfl),?_⟩
          conv=>whnf
          (conv=>whnf); refine ifB_bne (fun w3=>?_) (fun w3=>?_)
          · conv=>whnf
            (conv=>whnf); refine ⟨?_,nofun⟩
            rw [ranks_1 hlt h1 (fun e=>w3 (hF.trans e))]
            exact ave_tup2 rfl (ave_i64 3 hF)
          · conv=>whnf
            (conv=>whnf); refine ⟨inK64 (by omega) (by omega),?_⟩
            have e0 : rank1E p l k = 0 := hF.symm.trans w3
            have hno := rank1_no e0
            conv=>whnf
            (conv=>whnf); refine ⟨_,_,⟨⟨k + 1,_,by omega,inv_nextB h1 (bne_eq_false_iff_eq.2 e0),rfl,rfl⟩,by omega⟩,⟨⟨.inl rfl,rfl,rfl,rfl⟩,⟨bA,⟨bA,⟨bA,trivial⟩⟩⟩,⟨⟨rfl,rfl,rfl,trivial,.inl rfl,fun v=>And.imp id Or.inl (⟨(hasP_put l k v).symm,(getP_put l k hno v).symm⟩)⟩,trivial⟩⟩⟩
        · (exfalso; omega)
      · obtain rfl : k = l.length := by omega
        have hst := hasQ_find (l := l) (q := rankS p)
        conv=>whnf
        (conv=>whnf); refine ifB_dec (fun w2=>?_) (fun w2=>?_)
        · (exfalso; omega)
        · conv => whnf
          (conv=>whnf); refine ifB_not ?_
          conv=>whnf
          (conv=>whnf); refine ifB_intro (fun w3=>?_) (fun w3=>?_)
          · have hs0 : ¬ findI l (rankS p) l.length < 0 := of_decide_eq_true (hst.symm.trans w3)
            conv=>whnf
            (conv=>whnf); refine ⟨[],[6,8,92,93,94],fun st mq=>∃ (j : Nat) (F2 : Nat → List AV),(j ≤ l.length) ∧ (∀ i,i < j → (rank2E p l (l.getD i rk0) != 0) = false) ∧ st = ⟨[(6,.optr 1 0 0 0),(8,.omap 0),(92,ranksA l),(93,i64 l.length),(94,i64 j)],⟨[⟨3,1,fun _=>planC p,0,false,true,true⟩,⟨3,1,fun _=>planC p,0,false,true,true⟩,⟨1,2,F2,0,false,true,false⟩],[⟨kkP,3,hasP (hasK l l.length),getP (lookK l l.length),false,none,0,.top⟩],none,0⟩,[]⟩ ∧ mq = l.length - j,
              ⟨_,_,⟨0,_,by omega,fun i h=>absurd h (Nat.not_lt_zero i),rfl,rfl⟩,⟨⟨.inl rfl,rfl,rfl,rfl⟩,⟨bA,⟨bA,⟨bA,trivial⟩⟩⟩,⟨⟨rfl,rfl,rfl,trivial,.inl rfl,fun _=>⟨rfl,.inl rfl⟩⟩,trivial⟩⟩⟩,?_⟩
            rintro s0 m0 ⟨j,F2,hj,h2,rfl,hmeas⟩
            by_cases hlt2 : j < l.length
            · have hok := rank_ok (h1 j hlt2)
              have h110 := S60 p hg l (by omega) (l.getD (j : Int).toNat rk0) hok.1
              conv=>whnf
              conv=>whnf
              (conv=>whnf); refine ifB_dec (fun w4=>?_) (fun w4=>?_)
              · conv=>whnf
                conv=>whnf
                (conv=>whnf); refine ⟨⟨(by omega),(by omega)⟩,?_⟩
                conv=>whnf
                conv=>whnf
                (conv=>whnf); refine .inl ⟨_,_,byX rfl (Sound1.pl (h110) rfl),?_⟩
                conv=>whnf
                conv=>whnf
                (conv=>whnf); refine ifB_bne (fun w5=>?_) (fun w5=>?_)
                · conv=>whnf
                  conv=>whnf
                  (conv=>whnf); refine ⟨?_,nofun⟩
                  rw [ranks_2 h1 hs0 hlt2 h2 w5]
                  exact ave_tup2 rfl rfl
                · conv=>whnf
                  conv=>whnf
                  (conv=>whnf); refine ⟨inK64 (by omega) (by omega),?_⟩
                  conv=>whnf
                  conv=>whnf
                  (conv=>whnf); refine ⟨_,_,⟨⟨j + 1,_,by omega,inv_nextB h2 (bne_eq_false_iff_eq.2 w5),rfl,rfl⟩,by omega⟩,⟨⟨.inl rfl,rfl,rfl,rfl⟩,⟨bA,⟨bA,⟨bA,trivial⟩⟩⟩,⟨⟨rfl,rfl,rfl,trivial,.inl rfl,fun _=>⟨rfl,.inl rfl⟩⟩,trivial⟩⟩⟩
              · (exfalso; omega)
            · obtain rfl : j = l.length := by omega
              conv=>whnf
              conv=>whnf
              (conv=>whnf); refine ifB_dec (fun w4=>?_) (fun w4=>?_)
              · (exfalso; omega)
              · conv=>whnf
                conv=>whnf
                (conv=>whnf); refine ⟨?_,nofun⟩
                rw [ranks_0 h1 hs0 h2]
                exact ave_tup2 rfl rfl
          · conv=>whnf
            (conv=>whnf); refine ⟨?_,nofun⟩
            have hs0 : findI l (rankS p) l.length < 0 := Decidable.of_not_not (of_decide_eq_false (hst.symm.trans w3))
            rw [ranks_14 h1 hs0]
            exact ave_tup2 rfl rfl
end Go.Tr

/- Plain law: the ranks of all that is reached are a proof. Conditions: none. -/
import Derived.Test.YtinfmponjglalaaGreatDoorTr10
import Derived.Test.YtinfmponjglalaaGreatDoorTr06
import Derived.ProofKit
set_option linter.unusedSectionVars false
set_option linter.unnecessarySimpa false
set_option linter.unusedVariables false
set_option linter.unusedSimpArgs false

-- seat YtinfmponjglalaaGreatDoor
namespace Go.Tr
open Go Go.Proofs
set_option maxRecDepth 20000
set_option maxHeartbeats 8000000

section
variable {stop : S2 → Bool} {step : S2 → Option (S2 × Int)}
theorem goA_stop0 {n : Nat} {s : S2} {l : List S2} {t : Int} (h : stop s = true) : goA stop step (n + 1) s l t = some (l,t) := by
  unfold goA
  rw [h]; rfl
theorem goA_shift : ∀ (n : Nat) (s : S2) (l0 l : List S2) (t0 t : Int),goA stop step n s (l0 ++ l) (t0 + t) = (goA stop step n s l t).map fun r=>(l0 ++ r.1,t0 + r.2)
 | 0,_,_,_,_,_=>rfl
 | n + 1, s, l0, l, t0, t => by
  cases hs : stop s with
  | true=>rw [goA_stop0 hs,goA_stop0 hs]; rfl
  | false =>
   cases hx : step s with
   | none=>rw [goA_stuck hs hx,goA_stuck hs hx]; rfl
   | some x=>rw [goA_step hs hx,goA_step hs hx,List.append_assoc,Int.add_assoc,goA_shift n x.1 l0 _ t0 _]
theorem goA_next {n : Nat} {s : S2} (hs : stop s = false) {x : S2 × Int} (hx : step s = some x) {r : List S2 × Int} (h : goA stop step (n + 1) s [] 0 = some r) : ∃ r',goA stop step n x.1 [] 0 = some r' ∧ r = (x.1 :: r'.1,x.2 + r'.2) := by
 rw [goA_step hs hx] at h
 have e := goA_shift (stop := stop) (step := step) n x.1 [x.1] [] x.2 0
 rw [List.append_nil,Int.add_zero] at e
 rw [List.nil_append,Int.zero_add,e] at h
 obtain ⟨r',h1,h2⟩ := Option.map_eq_some_iff.1 h
 exact ⟨r',h1,h2.symm⟩
theorem goT_len : ∀ (n : Nat) (s : S2) (r : List S2 × Int),goA stop step n s [] 0 = some r → goT stop step (r.1.length + 1) s = true
 | 0,_,_,h=>by cases h
 | n + 1, s, r, h => by
  cases hs : stop s with
  | true =>
   rw [goA_stop0 hs] at h
   cases h
   show (stop s || _) = true
   rw [hs]; rfl
  | false =>
   cases hx : step s with
   | none=>rw [goA_stuck hs hx] at h; cases h
   | some x =>
    obtain ⟨r',h1,rfl⟩ := goA_next hs hx h
    have ih := goT_len n x.1 r' h1
    show (stop s || match step s with | none=>false | some x=>goT stop step (r'.1.length + 1) x.1) = true
    rw [hs,hx]
    exact ih
end
theorem home_len {p : Pln} (hg : Good p) {f : Int × Bool} {s : S2} (hs : OkS p s) {r : List S2 × Int} (h : homeF p f s = some r) : r.1.length ≤ allN p + 1 ∧ 0 ≤ r.2 := by
  have := goA_spec (stepH_all hg f) s (allN p + 1) s [] 0 r rfl hs (fun x hx=>by cases hx) h
  exact ⟨by have := this.2.2.2.2.2.2; simp at this; omega,this.2.2.2.1⟩
theorem home_rank {p : Pln} (hg : Good p) {f : Int × Bool} {s : S2} (hs : OkS p s) {r : List S2 × Int} (h : homeF p f s = some r) :
  (homeB p f s = true → r.1.length = 0) ∧ (homeB p f s = false → ∃ x,homeTurnF p f s = some x ∧ ∃ r',homeF p f x.1 = some r' ∧ r.1.length = r'.1.length + 1) := by
 constructor
 ·intro hh
  unfold homeF at h
  rw [goA_stop0 hh] at h
  cases h; rfl
 ·intro hh
  unfold homeF at h
  cases hx : homeTurnF p f s with
  | none=>rw [goA_stuck hh hx] at h; cases h
  | some x =>
   obtain ⟨r',h1,rfl⟩ := goA_next hh hx h
   refine ⟨x,rfl,r',?_,by simp⟩
   unfold homeF
   exact goA_mono _ 1 _ _ _ _ h1
theorem home_never {p : Pln} (hg : Good p) {f : Int × Bool} {s : S2} (hs : OkS p s) (h : homeF p f s = none) (n : Nat) : goT (homeB p f) (homeTurnF p f) n s = false := by
 cases hn : goT (homeB p f) (homeTurnF p f) n s with
 | false=>rfl
 | true =>
  have := goT_stable (Ok := OkS p) (fun s x hs hx=>(stepH_all hg f s x hs hx).1) (N := allN p) (fun l h1 h2=>states_le hg l h1 h2) n s [] (by simp) (fun x hx=>by cases hx) hs (Met.nil s) hn
  have e := goA_T (stop := homeB p f) (step := homeTurnF p f) (allN p + 1) s [] 0
  unfold homeF at h
  rw [h] at e
  simp at this
  rw [this] at e; cases e
theorem turn_succ {p : Pln} (hg : Good p) {f : Int × Bool} {s : S2} (hs : OkS p s) {x : S2 × Int} (h : homeTurnF p f s = some x) : x.1 ∈ succs p f s := by
 unfold homeTurnF at h
 split at h
 ·rename_i hc
  split at h
  ·cases h
  ·rename_i he
   cases h
   have := ((hg.stp hs).steady hc.1).2.resolve_right he
   exact .tail _ (List.mem_map.2 ⟨_,hasI_mem.1 this,rfl⟩)
 ·cases h
  exact .head _

theorem flt_inj {i j : Nat} (h : fltAt i = fltAt j) : i = j := by
 unfold fltAt at h
 split at h <;> split at h
 ·omega
 ·have := congrArg Prod.fst h
  simp only at this
  omega
 ·have := congrArg Prod.fst h
  simp only at this
  omega
 ·have h1 : (((i - 1) / 2 : Nat) : Int) = (((j - 1) / 2 : Nat) : Int) := congrArg Prod.fst h
  have h2 : decide ((i - 1) % 2 = 1) = decide ((j - 1) % 2 = 1) := congrArg Prod.snd h
  rw [decide_eq_decide] at h2
  omega
theorem flt_err {p : Pln} {i : Nat} (h : i < nF p) : faultE p (fltAt i) = 0 := by
 have hk := flt_ok h
 unfold faultE
 rw [first2_iff]
 refine ⟨by rw [if_pos (decide_eq_true ⟨hk.1,by have := hk.2; omega⟩)],?_⟩
 unfold fltAt
 by_cases hi : i = 0
 ·rw [if_pos hi]; rfl
 ·rw [if_neg hi]
  have : (((i - 1) / 2 : Nat) : Int) ≥ 0 := by omega
  rw [decide_eq_true this]; rfl
theorem mem_plR {p : Pln} {q : Plc} {i : Nat} : q ∈ plR p i ↔ q.2 = fltAt i ∧ q.1 ∈ rch p i := by
 unfold plR
 rw [List.mem_map]
 constructor
 ·rintro ⟨s,hs,rfl⟩; exact ⟨rfl,hs⟩
 ·rintro ⟨h1,h2⟩; exact ⟨q.1,h2,Prod.ext rfl h1.symm⟩
theorem mem_plL {p : Pln} {q : Plc} : q ∈ plL p ↔ ∃ i,i < nF p ∧ q.2 = fltAt i ∧ q.1 ∈ rch p i := by
 unfold plL
 rw [List.mem_flatMap]
 exact ⟨fun ⟨i,h1,h2⟩=>⟨i,List.mem_range.1 h1,mem_plR.1 h2⟩,fun ⟨i,h1,h2⟩=>⟨i,List.mem_range.2 h1,mem_plR.2 h2⟩⟩
theorem reach_nd (p : Pln) (f : Int × Bool) : (reachL p f).Nodup := by
  unfold reachL
  split <;> exact spL_nd _ _ _
theorem plL_nd (p : Pln) : (plL p).Nodup := by
 unfold plL
 generalize nF p = n
 induction n with
 | zero=>simp
 | succ n ih =>
  rw [List.range_succ,List.flatMap_append,List.flatMap_cons,List.flatMap_nil,List.append_nil,List.nodup_append]
  refine ⟨ih,?_,fun a ha b hb e=>?_⟩
  ·unfold plR List.Nodup
   rw [List.pairwise_map]
   exact (show (rch p n).Pairwise (· ≠ ·) from reach_nd p _).imp fun h e=>h (congrArg Prod.fst e)
  ·obtain ⟨i,h1,h2⟩ := List.mem_flatMap.1 ha
   have h3 := (mem_plR.1 h2).1
   have h4 := (mem_plR.1 hb).1
   rw [e] at h3
   have := flt_inj (h3.symm.trans h4)
   have := List.mem_range.1 h1
   omega
theorem rk_at {p : Pln} {k : Nat} (h : k < (plL p).length) : (rkL p).getD k rk0 = rnk p ((plL p).getD k pc0) := by
  unfold rkL
  rw [List.getD_eq_getElem?_getD,List.getElem?_map,List.getElem?_eq_getElem h,List.getD_eq_getElem?_getD,List.getElem?_eq_getElem h]; rfl
theorem rnk_q (p : Pln) (q : Plc) : (rnk p q).1 = q := rfl
theorem pl_mem {p : Pln} {k : Nat} (h : k < (plL p).length) : (plL p).getD k pc0 ∈ plL p := by
  rw [List.getD_eq_getElem?_getD,List.getElem?_eq_getElem h]; exact List.getElem_mem _
theorem mem_pl {p : Pln} {q : Plc} (h : q ∈ plL p) : ∃ k,k < (plL p).length ∧ (plL p).getD k pc0 = q := by
  obtain ⟨c,hc⟩ := List.mem_iff_getElem?.1 h
  exact ⟨c,(List.getElem?_eq_some_iff.1 hc).1,by rw [List.getD_eq_getElem?_getD,hc]; rfl⟩
theorem rkL_len (p : Pln) : (rkL p).length = (plL p).length := List.length_map ..
theorem firstN_spec {P : Nat → Bool} : ∀ n i,(∃ j,firstN P n i = some j ∧ i ≤ j ∧ j < i + n ∧ P j = true) ∨ (firstN P n i = none ∧ ∀ j,i ≤ j → j < i + n → P j = false)
 | 0,i=>.inr ⟨rfl,fun j h1 h2=>by omega⟩
 | n + 1, i => by
  unfold firstN
  by_cases h : P i = true
  ·rw [if_pos h]; exact .inl ⟨i,rfl,Nat.le_refl _,by omega,h⟩
  ·rw [if_neg h]
   rcases firstN_spec n (i + 1) with ⟨j,h1,h2,h3,h4⟩ | ⟨h1,h2⟩
   ·exact .inl ⟨j,h1,by omega,by omega,h4⟩
   ·refine .inr ⟨h1,fun j h3 h4=>?_⟩
    by_cases e : j = i
    ·rw [e]; simpa using h
    ·exact h2 j (by omega) (by omega)
theorem find_pl {p : Pln} {q : Plc} (h : q ∈ plL p) : ∃ i,findN (rkL p) q (rkL p).length = some i ∧ (rkL p).getD i rk0 = rnk p q := by
 obtain ⟨k,hk,hq⟩ := mem_pl h
 unfold findN
 rcases firstN_spec (P := atP (rkL p) q) (rkL p).length 0 with ⟨j,h1,_,h3,h4⟩ | ⟨_,h2⟩
 ·refine ⟨j,h1,?_⟩
  rw [rkL_len] at h3
  have h4 : ((rkL p).getD j rk0).1 = q := of_decide_eq_true h4
  rw [rk_at (by omega),rnk_q] at h4
  rw [rk_at (by omega),h4]
 ·have := h2 k (Nat.zero_le _) (by rw [rkL_len]; omega)
  unfold atP at this
  rw [rk_at hk,rnk_q] at this
  exact absurd hq (of_decide_eq_false this)
theorem has_pl {p : Pln} {q : Plc} (h : q ∈ plL p) : hasQ (rkL p) q = true := by
 obtain ⟨i,h1,_⟩ := find_pl h
 unfold hasQ
 rw [h1]; rfl
theorem look_pl {p : Pln} {q : Plc} (h : q ∈ plL p) : lookQ (rkL p) q = (rnk p q).2 := by
 obtain ⟨i,h1,h2⟩ := find_pl h
 unfold lookQ
 rw [h1]
 show ((rkL p).getD i rk0).2 = _
 rw [h2]
theorem all_hom {p : Pln} (hT : trapO p = none) {q : Plc} (h : q ∈ plL p) : ∃ r,hom p q = some r := by
 have := List.find?_eq_none.1 hT q h
 cases hq : hom p q with
 | none=>rw [hq] at this; exact absurd rfl this
 | some r=>exact ⟨r,rfl⟩
theorem pl_ok {p : Pln} (hg : Good p) {q : Plc} (h : q ∈ plL p) : OkS p q.1 := by
  obtain ⟨i,h1,h2,h3⟩ := mem_plL.1 h
  exact reach_ok hg _ h3
theorem pl_next {p : Pln} (hg : Good p) {q : Plc} (h : q ∈ plL p) {t : S2} (ht : t ∈ succs p q.2 q.1) : (t,q.2) ∈ plL p := by
 obtain ⟨i,h1,h2,h3⟩ := mem_plL.1 h
 refine mem_plL.2 ⟨i,h1,h2,?_⟩
 unfold rch at *
 rw [h2] at ht
 exact reach_turn hg h3 ht
theorem pl_own {p : Pln} (hg : Good p) {s : S2} (h : (s,noF) ∈ plL p) {i : Nat} (hi : i < nF p) : (s,fltAt i) ∈ plL p := by
 obtain ⟨k,h1,h2,h3⟩ := mem_plL.1 h
 refine mem_plL.2 ⟨i,hi,rfl,?_⟩
 unfold rch at *
 rw [← h2] at h3
 exact reach_own hg h3
theorem pl_start {p : Pln} (hg : Good p) : rankS p ∈ plL p := by
 refine mem_plL.2 ⟨0,by show 0 < 2 * p.sig.length + 1; omega,rfl,?_⟩
 unfold rch
 rw [show fltAt 0 = noF from rfl]
 unfold reachL
 rw [if_pos rfl]
 exact (spL_mem hg (start_ok hg)).2 (.base (.head _))
theorem rank1_0 {p : Pln} (hg : Good p) (hT : trapO p = none) {k : Nat} (hk : k < (plL p).length) : rank1E p (rkL p) k = 0 := by
 have hm := pl_mem hk
 obtain ⟨i,h1,h2,h3⟩ := mem_plL.1 hm
 obtain ⟨r,hr⟩ := all_hom hT hm
 have ho := pl_ok hg hm
 have hl := home_len hg ho hr
 have hA : allN p ≤ 320 := by
  have h1 := hg.m
  have h2 : 2 ^ p.sig.length ≤ 2 ^ 5 := Nat.pow_le_pow_right (by decide) hg.n
  have := Nat.mul_le_mul h2 h1
  unfold allN
  omega
 unfold rank1E
 rw [rk_at hk,rnk_q,first4_iff]
 refine ⟨state_ok.2 ho,by rw [h2]; exact flt_err h1,?_,?_⟩
 ·rw [rnk_some hr,if_pos (decide_eq_true ⟨Int.natCast_nonneg _,by show ((r.1.length : Nat) : Int) ≤ 4000; omega⟩)]
 ·have hno : findN (rkL p) ((plL p).getD k pc0) k = none := by
   unfold findN
   rcases firstN_spec (P := atP (rkL p) ((plL p).getD k pc0)) k 0 with ⟨j,h1,_,h3,h4⟩ | ⟨h1,_⟩
   ·have h4 : ((rkL p).getD j rk0).1 = (plL p).getD k pc0 := of_decide_eq_true h4
    rw [rk_at (by omega),rnk_q] at h4
    have hj : j < (plL p).length := by omega
    have hnd := List.pairwise_iff_getElem.1 (plL_nd p) j k hj hk (by omega)
    rw [List.getD_eq_getElem?_getD,List.getElem?_eq_getElem hj,List.getD_eq_getElem?_getD,List.getElem?_eq_getElem hk] at h4
    exact absurd h4 hnd
   ·exact h1
  rw [hno]; rfl
theorem rank2_0 {p : Pln} (hg : Good p) (hT : trapO p = none) {q : Plc} (hq : q ∈ plL p) : rank2E p (rkL p) (rnk p q) = 0 := by
 obtain ⟨r,hr⟩ := all_hom hT hq
 have ho := pl_ok hg hq
 have hR := rnk_some hr
 have hF : ∀ h : q.2 = noF,missF p (rkL p) q.1 = false := fun h=>by
  unfold missF
  rw [firstN_none (fun i hi=>by
   rw [has_pl (pl_own hg (i := i) (by rw [← h]; exact hq) hi)]; rfl)]; rfl
 have hS : missS p (rkL p) q = false := by
  unfold missS
  rw [firstN_none (fun i hi=>by
   rw [has_pl (pl_next hg hq (getD_mem hi))]; rfl)]; rfl
 obtain ⟨g1,g2⟩ := home_rank hg ho hr
 unfold rank2E
 rw [rnk_q,if_neg (by
  by_cases h : q.2 = noF
  ·rw [hF h,Bool.and_false]; nofun
  ·rw [decide_eq_false h,Bool.false_and]; nofun),hS,if_neg nofun]
 cases hh : homeB p q.2 q.1 with
 | true =>
  have := g1 hh
  rw [hR]
  show (if (true != (((r.1.length : Nat) : Int) == 0)) = true then (3 : Int) else _) = 0
  rw [this]; rfl
 | false =>
  obtain ⟨x,hx,r',h1,h2⟩ := g2 hh
  have hn := pl_next hg hq (turn_succ hg ho hx)
  rw [hR]
  show (if (false != (((r.1.length : Nat) : Int) == 0)) = true then (3 : Int) else if false = true then 0 else match homeTurnF p q.2 q.1 with | none=>19 | some x=>if lookQ (rkL p) (x.1,q.2) < ((r.1.length : Nat) : Int) then 0 else 19) = 0
  have hne : (((r.1.length : Nat) : Int) == 0) = false := by rw [h2]; simp; omega
  rw [hne,hx]
  show (if lookQ (rkL p) (x.1,q.2) < ((r.1.length : Nat) : Int) then (0 : Int) else 19) = 0
  rw [look_pl hn,rnk_some (q := (x.1,q.2)) h1,if_pos (by show ((r'.1.length : Nat) : Int) < _; omega)]
theorem ranks_ok0 {p : Pln} (hg : Good p) (hT : trapO p = none) : ranksF p (rkL p) = (0,0) := by
 unfold ranksF
 rw [firstN_none (fun i hi=>by rw [rank1_0 hg hT (by rw [rkL_len] at hi; exact hi)]; rfl)]
 obtain ⟨i,h1,_⟩ := find_pl (pl_start hg)
 have hf : ¬ findI (rkL p) (rankS p) (rkL p).length < 0 := by
  unfold findI
  rw [h1]
  show ¬ ((i : Nat) : Int) < 0
  omega
 show (if findI (rkL p) (rankS p) (rkL p).length < 0 then ((0 : Int),(14 : Int)) else _) = (0,0)
 rw [if_neg hf,firstN_none (fun i hi=>by
  rw [rkL_len] at hi
  rw [rk_at hi,rank2_0 hg hT (pl_mem hi)]; rfl)]
theorem lng_from (p : Pln) : ∀ (L : List Plc) (m : Int),m ≤ L.foldl (fun m q=>max m (tik p q)) m ∧ ∀ q ∈ L,tik p q ≤ L.foldl (fun m q=>max m (tik p q)) m
 | [],m=>⟨Int.le_refl _,fun q hq=>by cases hq⟩
 | x :: L,m=>by
  obtain ⟨h1,h2⟩ := lng_from p L (max m (tik p x))
  rw [List.foldl_cons]
  refine ⟨by omega,fun q hq=>?_⟩
  rcases List.mem_cons.1 hq with h | h
  ·rw [h]; omega
  ·exact h2 q h
theorem lng_ge (p : Pln) (L : List Plc) : 0 ≤ lngL p L ∧ ∀ q ∈ L,tik p q ≤ lngL p L := lng_from p L 0
theorem pl_light {p : Pln} (hg : Good p) (hl : lightB p = true) : (plL p).length ≤ 400 ∧ allN p ≤ 48 := by
 unfold lightB at hl
 rw [Bool.and_eq_true,decide_eq_true_iff,decide_eq_true_iff] at hl
 have hA : allN p ≤ 48 := by
  have h2 : 2 ^ p.sig.length ≤ 2 ^ 3 := Nat.pow_le_pow_right (by decide) hl.1
  have := Nat.mul_le_mul h2 hl.2
  unfold allN
  omega
 refine ⟨?_,hA⟩
 have key : ∀ n,((List.range n).flatMap (plR p)).length ≤ 48 * n := fun n=>by
  induction n with
  | zero=>simp
  | succ n ih =>
   have := states_le hg (rch p n) (reach_nd p _) (fun s hs=>reach_ok hg s hs)
   rw [List.range_succ,List.flatMap_append,List.length_append,List.flatMap_cons,List.flatMap_nil,List.append_nil,plR_len]
   omega
 have := key (nF p)
 have hnF : nF p = 2 * p.sig.length + 1 := rfl
 unfold plL
 omega
end Go.Tr

/- The law SequenceSafe. Conditions: none. -/
-- seat YtinfmponjglalaaGreatDoor
namespace Go.Tr
open Go Go.Proofs
set_option maxRecDepth 20000
set_option maxHeartbeats 8000000

section
variable {stop : S2 → Bool} {step : S2 → Option (S2 × Int)}
theorem goT_1 {n : Nat} {s : S2} (h : stop s = true) : goT stop step (n + 1) s = true := by
  show (stop s || _) = true
  rw [h]; rfl
theorem goT_0 {n : Nat} {s : S2} (h : stop s = false) (hx : step s = none) : goT stop step (n + 1) s = false := by
  show (stop s || match step s with | none=>false | some x=>goT stop step n x.1) = false
  rw [h,hx]; rfl
theorem goT_s {n : Nat} {s : S2} (h : stop s = false) {x : S2 × Int} (hx : step s = some x) : goT stop step (n + 1) s = goT stop step n x.1 := by
  show (stop s || match step s with | none=>false | some x=>goT stop step n x.1) = _
  rw [h,hx]; rfl
end
theorem open_z {p : Pln} (hc : (checkP p).2 = 0) {s : S2} (hs : OkS p s) {f : Int × Bool} (hf : faultE p f = 0) : openE p s f = 0 := by
 unfold openE
 rw [if_pos hc,first2_iff]
 exact ⟨state_ok.2 hs,hf⟩
set_option maxHeartbeats 4000000 in
theorem S25 (p : Pln) (hp : FewP p) (hc : (checkP p).2 = 0) (s : S2) (hs : OkS p s) (f : Int × Bool) (hf : faultE p f = 0) (n : Nat) (hn : n ≤ 1000) : SP 25 [planA p,stA s,ftA f,i64 n] (vb (goT (homeB p f) (homeTurnF p f) (n + 1) s)) false := by
 have hg := Good.of hp hc
 have hfo := fault_ok hf
 have h10 := S10 p hp
 refine sound (d := 2) tok2 mixed2 Tryz.func25 (by kernel_rfl) (by kernel_rfl) ?_
 (conv=>whnf); refine ⟨[],[3,4,5,6,9],fun st mq=>∃ (k : Nat) (s1 : S2),(k ≤ n + 1) ∧ (OkS p s1) ∧ (goT (homeB p f) (homeTurnF p f) (n + 1) s = goT (homeB p f) (homeTurnF p f) (n + 1 - k) s1) ∧ st = ⟨[(3,i64 n),(4,.optr 0 0 0 0),(5,.optr 1 0 0 0),(6,.optr 2 0 0 0),(9,i64 k)],⟨[⟨3,1,fun _=>planC p,0,false,true,true⟩,⟨2,1,fun _=>stC s1,0,false,true,true⟩,⟨2,1,fun _=>fltC f,0,false,true,true⟩],[],none,0⟩,[]⟩ ∧ mq = n + 1 - k,
  ⟨_,_,⟨0,s,by omega,hs,rfl,rfl,rfl⟩,⟨⟨.inl rfl,rfl,rfl,rfl⟩,⟨bA,⟨bA,⟨bA,trivial⟩⟩⟩,trivial⟩⟩,?_⟩
 rintro s0 m0 ⟨k,s1,hk,hso,hE,rfl,hmeas⟩
 by_cases hlt : k ≤ n
 ·have h55 := S55 p hg s1 f hso hfo
  obtain ⟨m,hm⟩ : ∃ m,n + 1 - k = m + 1 := ⟨n - k,by omega⟩
  rw [hm] at hE
  cases hh : homeB p f s1 with
  | true =>
   rw [hh] at h55
   have hend : vb true = vb (goT (homeB p f) (homeTurnF p f) (n + 1) s) := endb (by rw [hE,goT_1 hh])
   conv=>whnf
   (conv=>whnf); refine ifB_dec (fun w1=>?_) (fun w1=>?_)
   ·conv=>whnf
    (conv=>whnf); refine .inl ⟨_,_,byX rfl (Sound1.pl (h55) rfl),?_⟩
    conv=>whnf
    (conv=>whnf); refine ⟨?_,nofun⟩
    (first | contradiction | omega | exact hend)
   ·(exfalso; omega)
  | false =>
   rw [hh] at h55
   have h56 := S56 p hp s1 f
   unfold htR at h56
   rw [if_neg (not_not_intro (open_z hc hso hf))] at h56
   cases hx : homeTurnF p f s1 with
   | none =>
    rw [hx] at h56
    have hend : vb false = vb (goT (homeB p f) (homeTurnF p f) (n + 1) s) := endb (by rw [hE,goT_0 hh hx])
    conv=>whnf
    (conv=>whnf); refine ifB_dec (fun w1=>?_) (fun w1=>?_)
    ·conv=>whnf
     (conv=>whnf); refine .inl ⟨_,_,byX rfl (Sound1.pl (h55) rfl),?_⟩
     conv=>whnf
     (conv=>whnf); refine ⟨[],by kernel_rfl,?_⟩
     conv=>whnf
     (conv=>whnf); refine .inl ⟨_,_,byX rfl (h10),?_⟩
     conv=>whnf
     (conv=>whnf); refine .inl ⟨_,_,byX rfl (Sound1.pl (h56) rfl),?_⟩
     conv=>whnf
     (conv=>whnf); refine ⟨?_,nofun⟩
     (first | contradiction | omega | exact hend)
    ·(exfalso; omega)
   | some x =>
    rw [hx] at h56
    have hxo := (home_ok hg hso hx).1
    have h54 := S54 p (by have := hp.sig; omega) (by have := hp.steps; omega) x.1
    rw [state_ok.2 hxo] at h54
    conv=>whnf
    (conv=>whnf); refine ifB_dec (fun w1=>?_) (fun w1=>?_)
    ·conv=>whnf
     (conv=>whnf); refine .inl ⟨_,_,byX rfl (Sound1.pl (h55) rfl),?_⟩
     conv=>whnf
     (conv=>whnf); refine ⟨[],by kernel_rfl,?_⟩
     conv=>whnf
     (conv=>whnf); refine .inl ⟨_,_,byX rfl (h10),?_⟩
     conv=>whnf
     (conv=>whnf); refine .inl ⟨_,_,byX rfl (Sound1.pl (h56) rfl),?_⟩
     conv=>whnf
     (conv=>whnf); refine .inl ⟨_,_,byX rfl (Sound1.pl (h54) rfl),?_⟩
     conv=>whnf
     (conv=>whnf); refine ⟨inK64 (by omega) (by omega),?_⟩
     conv=>whnf
     (conv=>whnf); refine ⟨_,_,⟨⟨k + 1,x.1,by omega,hxo,(by rw [hE,goT_s hh hx,show n + 1 - (k + 1) = m by omega]),rfl,rfl⟩,by omega⟩,⟨⟨.inl rfl,rfl,rfl,rfl⟩,⟨bA,⟨bA,⟨bA,trivial⟩⟩⟩,trivial⟩⟩
    ·(exfalso; omega)
 ·have hend : vb false = vb (goT (homeB p f) (homeTurnF p f) (n + 1) s) := endb (by rw [hE,show n + 1 - k = 0 by omega]; rfl)
  conv=>whnf
  (conv=>whnf); refine ifB_dec (fun w1=>?_) (fun w1=>?_)
  ·(exfalso; omega)
  ·conv=>whnf
   (conv=>whnf); refine ⟨?_,nofun⟩
   (first | contradiction | omega | exact hend)
set_option maxHeartbeats 8000000 in
theorem S5 (p : Pln) (hl : p.sig.length ≤ 9223372036854775807 ∧ p.steps.length ≤ 9223372036854775807) : SP 5 [planA p] (vb true) false := by
 have h6 := S6
 have h7 := S7 p hl
 cases hfw : fewB p with
 | false =>
  rw [hfw] at h7
  refine sound (d := 2) tok2 mixed2 Tryz.func5 (by kernel_rfl) (by kernel_rfl) ?_
  (conv=>whnf); refine .inl ⟨_,_,byX rfl (Sound1.pl (h6) rfl),?_⟩
  (conv=>whnf); refine .inl ⟨_,_,byX rfl (Sound1.pl (h7) rfl),?_⟩
  (conv=>whnf); refine ⟨?_,nofun⟩
  (first | contradiction | omega | rfl)
 | true =>
  rw [hfw] at h7
  have hp := FewP.of hfw
  have h8 := S8 p hp
  have h10 := S10 p hp
  have h18 := S18 p
  by_cases hc : (checkP p).2 = 0
  ·have hg := Good.of hp hc
   rw [hc] at h8
   cases hlt : lightB p with
   | false =>
    rw [hlt] at h18
    refine sound (d := 2) tok2 mixed2 Tryz.func5 (by kernel_rfl) (by kernel_rfl) ?_
    (conv=>whnf); refine .inl ⟨_,_,byX rfl (Sound1.pl (h6) rfl),?_⟩
    (conv=>whnf); refine .inl ⟨_,_,byX rfl (Sound1.pl (h7) rfl),?_⟩
    (conv=>whnf); refine .inl ⟨_,_,byX rfl (Sound1.pl (h8) rfl),?_⟩
    (conv=>whnf); refine .inl ⟨_,_,byX rfl (Sound1.pl (h18) rfl),?_⟩
    (conv=>whnf); refine ⟨?_,nofun⟩
    (first | contradiction | omega | rfl)
   | true =>
    rw [hlt] at h18
    obtain ⟨hpl,hA⟩ := pl_light hg hlt
    have h19 := S19 p hp hc
    have h20 := S20 p hp hc
    have h21 := S21 p hp hc
    unfold trapR at h19
    unfold ranksR at h20
    unfold longR at h21
    cases hT : trapO p with
    | some q =>
     rw [hT] at h19 h20 h21
     have hq : q ∈ plL p := List.mem_of_find?_eq_some hT
     have hqn : homeF p q.2 q.1 = none := by
      have := List.find?_some hT
      cases h : homeF p q.2 q.1 with
      | none=>rfl
      | some r=>rw [show hom p q = some r from h] at this; cases this
     obtain ⟨i,i1,i2,i3⟩ := mem_plL.1 hq
     have hqo := pl_ok hg hq
     have hqf : faultE p q.2 = 0 := by rw [i2]; exact flt_err i1
     have h24 := S24 p hp q.1 q.2
     rw [open_z hc hqo hqf] at h24
     have h9 := S9o p hp hc q.2 hqf
     have hrl := reach_len (f := q.2) hg
     have h16 := S16 (reachL p q.2) (by omega) q.1
     rw [decide_eq_true (show q.1 ∈ reachL p q.2 by rw [i2]; exact i3)] at h16
     have h25 := S25 p hp hc q.1 hqo q.2 hqf 64 (by omega)
     rw [home_never hg hqo hqn] at h25
     refine sound (d := 2) tok2 mixed2 Tryz.func5 (by kernel_rfl) (by kernel_rfl) ?_
     (conv=>whnf); refine .inl ⟨_,_,byX rfl (Sound1.pl (h6) rfl),?_⟩
     (conv=>whnf); refine .inl ⟨_,_,byX rfl (Sound1.pl (h7) rfl),?_⟩
     (conv=>whnf); refine .inl ⟨_,_,byX rfl (Sound1.pl (h8) rfl),?_⟩
     (conv=>whnf); refine .inl ⟨_,_,byX rfl (Sound1.pl (h18) rfl),?_⟩
     (conv=>whnf); refine .inl ⟨_,_,byX rfl (h10),?_⟩
     (conv=>whnf); refine .inl ⟨_,_,byX rfl (h20),?_⟩
     (conv=>whnf); refine .inl ⟨_,_,byX rfl (h10),?_⟩
     (conv=>whnf); refine .inl ⟨_,_,byX rfl (Sound1.pl (h19) rfl),?_⟩
     (conv=>whnf); refine .inl ⟨_,_,byX rfl (Sound1.pl (h24) rfl),?_⟩
     (conv=>whnf); refine ⟨[],by kernel_rfl,?_⟩
     (conv=>whnf); refine .inl ⟨_,_,byX rfl (h10),?_⟩
     (conv=>whnf); refine .inl ⟨_,_,byX rfl (h9),?_⟩
     (conv=>whnf); refine .inl ⟨_,_,byX rfl (Sound1.pl (h16) rfl),?_⟩
     (conv=>whnf); refine .inl ⟨_,_,byX rfl (Sound1.pl (h25) rfl),?_⟩
     (conv=>whnf); refine ⟨?_,nofun⟩
     (first | contradiction | omega | rfl)
    | none =>
     rw [hT] at h19 h20 h21
     have hkl := rkL_len p
     have h27 := S27 (rkL p) (by omega)
     have h26 := S26 p hp hg hc (rkL p) (by omega)
     rw [ranks_ok0 hg hT] at h26
     refine sound (d := 2) tok2 mixed2 Tryz.func5 (by kernel_rfl) (by kernel_rfl) ?_
     (conv=>whnf); refine .inl ⟨_,_,byX rfl (Sound1.pl (h6) rfl),?_⟩
     (conv=>whnf); refine .inl ⟨_,_,byX rfl (Sound1.pl (h7) rfl),?_⟩
     (conv=>whnf); refine .inl ⟨_,_,byX rfl (Sound1.pl (h8) rfl),?_⟩
     (conv=>whnf); refine .inl ⟨_,_,byX rfl (Sound1.pl (h18) rfl),?_⟩
     (conv=>whnf); refine .inl ⟨_,_,byX rfl (h10),?_⟩
     (conv=>whnf); refine .inl ⟨_,_,byX rfl (h20),?_⟩
     (conv=>whnf); refine .inl ⟨_,_,byX rfl (h10),?_⟩
     (conv=>whnf); refine .inl ⟨_,_,byX rfl (Sound1.pl (h19) rfl),?_⟩
     (conv=>whnf); refine ifB_dec (fun w1=>?_) (fun w1=>?_)
     ·(exfalso; omega)
     ·(conv=>whnf); refine .inl ⟨_,_,byX rfl (h10),?_⟩
      (conv=>whnf); refine .inl ⟨_,_,byX rfl (h27),?_⟩
      (conv=>whnf); refine .inl ⟨_,_,byX rfl (Sound1.pl (h26) rfl),?_⟩
      (conv=>whnf); refine .inl ⟨_,_,byX rfl (h10),?_⟩
      (conv=>whnf); refine .inl ⟨_,_,byX rfl (Sound1.pl (h21) rfl),?_⟩
      (conv=>whnf); refine ⟨[],[1,3,11,13],fun st mq=>∃ (k : Nat) (F1 : Nat → List AV),(k ≤ (plL p).length) ∧ st = ⟨[(1,.optr 0 0 0 0),(3,ranksA (rkL p)),(11,i64 (lngL p (plL p))),(13,i64 k)],⟨[⟨3,1,fun _=>planC p,0,false,true,true⟩,⟨5,1,F1,0,false,true,false⟩],[],none,0⟩,[]⟩ ∧ mq = (plL p).length - k,
       ⟨_,_,⟨0,_,by omega,rfl,rfl⟩,⟨⟨.inl rfl,rfl,rfl,rfl⟩,⟨bA,⟨bA,trivial⟩⟩,trivial⟩⟩,?_⟩
      rintro s0 m0 ⟨k,F1,hk,rfl,hmeas⟩
      by_cases hlk : k < (plL p).length
      ·have hlz : (k : Int) < ((rkL p).length : Int) := by omega
       have hq := pl_mem hlk
       obtain ⟨i,i1,i2,i3⟩ := mem_plL.1 hq
       obtain ⟨r,hr⟩ := all_hom hT hq
       have hqo := pl_ok hg hq
       have hqf : faultE p ((plL p).getD k pc0).2 = 0 := by rw [i2]; exact flt_err i1
       obtain ⟨hl1,hl2⟩ := home_len hg hqo hr
       have hR : (rkL p).getD (k : Int).toNat rk0 = ((plL p).getD k pc0,(r.1.length : Int)) := (rk_at hlk).trans (rnk_some hr)
       have h24 : SP 24 [planA p,stA ((rkL p).getD (k : Int).toNat rk0).1.1,ftA ((rkL p).getD (k : Int).toNat rk0).1.2] (i64 0) false := by
        have h := S24 p hp ((plL p).getD k pc0).1 ((plL p).getD k pc0).2
        rw [open_z hc hqo hqf] at h
        rw [hR]; exact h
       have h28 : SP 28 [i64 ((rkL p).getD (k : Int).toNat rk0).2,i64 0,i64 400] (vb true) false := by
        have h := S28 ((rkL p).getD (k : Int).toNat rk0).2 0 400
        rw [decide_eq_true (by rw [hR]; exact ⟨Int.natCast_nonneg _,by show ((r.1.length : Nat) : Int) ≤ 400; omega⟩)] at h
        exact h
       have h25 : SP 25 [planA p,stA ((rkL p).getD (k : Int).toNat rk0).1.1,ftA ((rkL p).getD (k : Int).toNat rk0).1.2,i64 ((rkL p).getD (k : Int).toNat rk0).2] (vb true) false := by
        have h := S25 p hp hc ((plL p).getD k pc0).1 hqo ((plL p).getD k pc0).2 hqf r.1.length (by omega)
        rw [goT_len _ _ _ hr] at h
        rw [hR]; exact h
       have h29 : SP 29 [planA p,stA ((rkL p).getD (k : Int).toNat rk0).1.1,ftA ((rkL p).getD (k : Int).toNat rk0).1.2] (.tuple [sts r.1,i64 r.2,i64 0]) false := by
        have h := S29 p hp ((plL p).getD k pc0).1 ((plL p).getD k pc0).2
        unfold homeR at h
        rw [if_neg (not_not_intro (open_z hc hqo hqf)),show homeF p ((plL p).getD k pc0).2 ((plL p).getD k pc0).1 = some r from hr] at h
        rw [hR]; exact h
       have h28b : SP 28 [i64 r.2,i64 0,i64 (lngL p (plL p))] (vb true) false := by
        have h := S28 r.2 0 (lngL p (plL p))
        have hge := (lng_ge p (plL p)).2 _ hq
        rw [tik_some hr] at hge
        rw [decide_eq_true ⟨hl2,hge⟩] at h
        exact h
       conv=>whnf
       (conv=>whnf); refine ifB_dec (fun w2=>?_) (fun w2=>?_)
       ·conv=>whnf
        (conv=>whnf); refine ⟨[],by kernel_rfl,?_⟩
        conv=>whnf
        (conv=>whnf); refine ⟨⟨(by omega),(by omega)⟩,?_⟩
        conv=>whnf
        (conv=>whnf); refine ⟨⟨(by omega),(by omega)⟩,?_⟩
        conv=>whnf
        (conv=>whnf); refine .inl ⟨_,_,byX rfl (Sound1.pl (h24) rfl),?_⟩
        conv=>whnf
        (conv=>whnf); refine ⟨⟨(by omega),(by omega)⟩,?_⟩
        conv=>whnf
        (conv=>whnf); refine .inl ⟨_,_,byX rfl (Sound1.pl (h28) rfl),?_⟩
        conv=>whnf
        (conv=>whnf); refine ⟨⟨(by omega),(by omega)⟩,?_⟩
        conv=>whnf
        (conv=>whnf); refine ⟨⟨(by omega),(by omega)⟩,?_⟩
        conv=>whnf
        (conv=>whnf); refine ⟨⟨(by omega),(by omega)⟩,?_⟩
        conv=>whnf
        (conv=>whnf); refine .inl ⟨_,_,byX rfl (Sound1.pl (h25) rfl),?_⟩
        conv=>whnf
        (conv=>whnf); refine ⟨[],by kernel_rfl,?_⟩
        conv=>whnf
        (conv=>whnf); refine .inl ⟨_,_,byX rfl (h10),?_⟩
        conv=>whnf
        (conv=>whnf); refine ⟨⟨(by omega),(by omega)⟩,?_⟩
        conv=>whnf
        (conv=>whnf); refine ⟨⟨(by omega),(by omega)⟩,?_⟩
        conv=>whnf
        (conv=>whnf); refine .inl ⟨_,_,byX rfl (h29),?_⟩
        conv=>whnf
        (conv=>whnf); refine .inl ⟨_,_,byX rfl (Sound1.pl (h28b) rfl),?_⟩
        conv=>whnf
        (conv=>whnf); refine ⟨inK64 (by omega) (by omega),?_⟩
        conv=>whnf
        (conv=>whnf); refine ⟨_,_,⟨⟨k + 1,_,by omega,rfl,rfl⟩,by omega⟩,⟨⟨.inl rfl,rfl,rfl,rfl⟩,⟨bA,⟨bA,trivial⟩⟩,trivial⟩⟩
       ·(exfalso; omega)
      ·conv=>whnf
       (conv=>whnf); refine ifB_dec (fun w2=>?_) (fun w2=>?_)
       ·(exfalso; omega)
       ·conv=>whnf
        (conv=>whnf); refine ⟨?_,nofun⟩
        (first | contradiction | omega | rfl)
  ·refine sound (d := 2) tok2 mixed2 Tryz.func5 (by kernel_rfl) (by kernel_rfl) ?_
   (conv=>whnf); refine .inl ⟨_,_,byX rfl (Sound1.pl (h6) rfl),?_⟩
   (conv=>whnf); refine .inl ⟨_,_,byX rfl (Sound1.pl (h7) rfl),?_⟩
   (conv=>whnf); refine .inl ⟨_,_,byX rfl (Sound1.pl (h8) rfl),?_⟩
   (conv=>whnf); refine ifB_bne (fun w1=>?_) (fun w1=>?_)
   ·(conv=>whnf); refine ⟨?_,nofun⟩
    (first | contradiction | omega | rfl)
   ·(exfalso; omega)
end Go.Tr

/- The opening of a law: what an argument reads as, as abstract values, with its shape. Conditions: types of numbers, truth values, strings, slices, structs and arrays. -/
namespace Go.Tr
open Go Go.RowKit

def V2 (P : Program) (w : World) (q : Nat → Prop) : List AV → List Value → Prop
 | [],[]=>True
 | x :: xs,v :: vs=>(VT P w q x v ∧ v.oneCell' = true) ∧ V2 P w q xs vs
 | _,_=>False

def All2 {α β : Type} (p : α → β → Prop) : List α → List β → Prop
 | [],[]=>True
 | x :: xs,y :: ys=>p x y ∧ All2 p xs ys
 | _,_=>False

def TyC (P : Program) : Nat → TypeId → List AV → Prop
 | 0,_,_=>True
 | m + 1,t,xs=>match P.underlying t with
  | some .bool=>∃ b,xs = [.val (.bool b)]
  | some (.int k)=>∃ n,xs = [.val (.int k n)] ∧ inK k n
  | some .string=>∃ s : ByteArray,xs = [.val (.string s)] ∧ s.size ≤ 9223372036854775807
  | some (.slice e)=>∃ len f,xs = [.rslice (P.cellsOf e) len f] ∧ len ≤ 9223372036854775807 ∧ ∀ i,i < len → TyC P m e (f i)
  | some (.struct fs)=>∃ ps : List (List AV),xs = ps.flatten ∧ All2 (fun f p=>TyC P m f.type p) fs.toList ps
  | some (.array n e)=>∃ ps : List (List AV),xs = ps.flatten ∧ ps.length = n ∧ ∀ p ∈ ps,TyC P m e p
  | _=>False

def layF (P : Program) (g : TypeId → Bool) : List Field → Nat → Nat → Bool
 | [],off,tot=>Nat.beq off tot
 | f :: r,off,tot=>Nat.beq f.offset off && g f.type && layF P g r (off + P.cellsOf f.type) tot

def lay (P : Program) : Nat → TypeId → Bool
 | 0,_=>false
 | m + 1,t=>match P.underlying t with
  | some .bool | some (.int _) | some .string=>true
  | some (.slice e)=>Nat.blt 0 (P.cellsOf e) && lay P m e
  | some (.struct fs)=>layF P (lay P m) fs.toList 0 (P.cellsOf t)
  | some (.array n e)=>Nat.beq (P.cellsOf t) (n * P.cellsOf e) && lay P m e
  | _=>false

section
variable {H : Type} {enc : TypeId × Value → H} {P : Program} {w : World} {spare : Nat → Bool} {held : Bool} {q : Nat → Prop}

theorem V2_len : ∀ {xs : List AV} {vs : List Value},V2 P w q xs vs → xs.length = vs.length
 | [],[],_=>rfl
 | x :: xs,v :: vs,h=>by simp [V2_len h.2]
 | [],_ :: _,h=>h.elim
 | _ :: _,[],h=>h.elim

theorem V2_append : ∀ {xs : List AV} {vs : List Value} {ys : List AV} {us : List Value},V2 P w q xs vs → V2 P w q ys us → V2 P w q (xs ++ ys) (vs ++ us)
 | [],[],_,_,_,h=>h
 | _ :: _,_ :: _,_,_,h,h'=>⟨h.1,V2_append h.2 h'⟩
 | [],_ :: _,_,_,h,_=>h.elim
 | _ :: _,[],_,_,h,_=>h.elim

theorem V2_get : ∀ {xs : List AV} {vs : List Value},V2 P w q xs vs → ∀ (i : Nat) x,xs[i]? = some x → VT P w q x (vs.getD i undef) ∧ (vs.getD i undef).oneCell' = true
 | [],[],_,i,x,hx=>by simp at hx
 | y :: ys,v :: vs,h,0,x,hx=>by
  simp at hx
  subst hx
  simpa using h.1
 | y :: ys,v :: vs,h,i + 1,x,hx=>by
  have := V2_get h.2 i x (by simpa using hx)
  simpa using this
 | [],_ :: _,h,_,_,_=>h.elim
 | _ :: _,[],h,_,_,_=>h.elim

theorem mapM_cons_some {α β : Type} {f : α → Option β} {a : α} {l : List α} {r : List β} (h : (a :: l).mapM f = some r) : ∃ b bs,f a = some b ∧ l.mapM f = some bs ∧ r = b :: bs := by
 rw [List.mapM_cons] at h
 cases ha : f a with
 | none=>simp [ha] at h
 | some b =>
  cases hl : l.mapM f with
  | none=>simp [ha,hl] at h
  | some bs=>simp [ha,hl] at h; exact ⟨b,bs,rfl,rfl,h.symm⟩

theorem mapM_get {α β : Type} {f : α → Option β} : ∀ {l : List α} {r : List β},l.mapM f = some r → r.length = l.length ∧ ∀ (i : Nat) x,l[i]? = some x → ∃ y,f x = some y ∧ r[i]? = some y
 | [],r,h=>by simp at h; subst h; exact ⟨rfl,fun i x hx=>by simp at hx⟩
 | a :: l,r,h=>by
  obtain ⟨b,bs,h1,h2,rfl⟩ := mapM_cons_some h
  obtain ⟨g1,g2⟩ := mapM_get h2
  refine ⟨by simp [g1],fun i x hx=>?_⟩
  cases i with
  | zero=>simp at hx; subst hx; exact ⟨b,h1,rfl⟩
  | succ i=>simpa using g2 i x (by simpa using hx)

theorem cells_some {a : Addr} {n : Nat} {cs : List Value} (h : w.cells? 0 a n = some cs) : cs.length = n ∧ ∀ j,j < n → w.cell? (a.add j) = some (cs.getD j undef) := by
 unfold World.cells? at h
 rw [if_pos (Nat.zero_le _)] at h
 obtain ⟨h1,h2⟩ := mapM_get h
 refine ⟨by simpa using h1,fun j hj=>?_⟩
 obtain ⟨y,h3,h4⟩ := h2 j j (by simp [hj])
 rw [h3,List.getD_eq_getElem?_getD,h4]
 rfl

theorem cell_spot {a : Addr} {v : Value} (h : w.cell? a = some v) : a.spot = none ∧ a.block < w.heap.size := by
 unfold World.cell? at h
 split at h
 ·rename_i c t fr hb
  refine ⟨?_,?_⟩
  ·cases hs : a.spot with
   | none=>rfl
   | some s=>simp [hs] at h
  ·exact (Array.getElem?_eq_some_iff.1 hb).1
 ·cases h

theorem addr_add2 (blk off u j : Nat) : ((⟨blk,off,none⟩ : Addr).add u).add j = ⟨blk,off + (u + j),none⟩ := by
 unfold Addr.add
 by_cases h1 : u = 0
 ·subst h1
  by_cases h2 : j = 0
  ·subst h2; rfl
  ·simp [h2]
 ·by_cases h2 : j = 0
  ·subst h2; simp [h1]
  ·simp [h1,h2,Nat.add_assoc]

theorem fields_av {g : TypeId → List Value → Option (DataW H × List MemPlace)} {T : TypeId → List AV → Prop} {ly : TypeId → Bool}
  (ih : ∀ t,ly t = true → ∀ cs x,g t cs = some x → ∃ xs,V2 P w q xs cs ∧ T t xs) (cs : List Value) : ∀ (fs : List Field) (off : Nat) (r : List (DataW H × List MemPlace)),layF P ly fs off cs.length = true →
  (fs.mapM fun f=>g f.type ((cs.drop f.offset).take (P.cellsOf f.type))) = some r → ∃ ps : List (List AV),V2 P w q ps.flatten (cs.drop off) ∧ All2 (fun f p=>T f.type p) fs ps
 | [],off,r,hl,h=>by
  have := Nat.eq_of_beq_eq_true hl
  subst this
  exact ⟨[],by simp [V2],trivial⟩
 | f :: fs, off, r, hl, h => by
  simp only [layF,Bool.and_eq_true] at hl
  obtain ⟨⟨h1,h2⟩,h3⟩ := hl
  have e := Nat.eq_of_beq_eq_true h1
  obtain ⟨b,bs,g1,g2,rfl⟩ := mapM_cons_some h
  obtain ⟨p,p1,p2⟩ := ih _ h2 _ _ g1
  obtain ⟨ps,r1,r2⟩ := fields_av ih cs fs _ _ h3 g2
  refine ⟨p :: ps,?_,p2,r2⟩
  rw [List.flatten_cons]
  have : cs.drop off = (cs.drop f.offset).take (P.cellsOf f.type) ++ cs.drop (off + P.cellsOf f.type) := by
   rw [e,← List.drop_drop]
   exact (List.take_append_drop _ _).symm
  rw [this]
  exact V2_append p1 r1

theorem items_av {g : List Value → Option (DataW H × List MemPlace)} {T : List AV → Prop} (ih : ∀ cs x,g cs = some x → ∃ xs,V2 P w q xs cs ∧ T xs) (cs : List Value) (s n : Nat) (hn : cs.length = n * s)
  (h : ∀ i,i < n → ∃ x,g ((cs.drop (i * s)).take s) = some x) : ∀ (k i : Nat),i + k = n → ∃ ps : List (List AV),V2 P w q ps.flatten (cs.drop (i * s)) ∧ ps.length = k ∧ ∀ p ∈ ps,T p
 | 0,i,hi=>by
  have : i = n := by omega
  subst this
  refine ⟨[],?_,rfl,nofun⟩
  rw [List.drop_eq_nil_of_le (by omega)]
  exact trivial
 | k + 1, i, hi => by
  obtain ⟨x,hx⟩ := h i (by omega)
  obtain ⟨p,p1,p2⟩ := ih _ _ hx
  obtain ⟨ps,r1,r2,r3⟩ := items_av ih cs s n hn h k (i + 1) (by omega)
  refine ⟨p :: ps,?_,by simp [r2],fun y hy=>?_⟩
  ·rw [List.flatten_cons]
   have : cs.drop (i * s) = (cs.drop (i * s)).take s ++ cs.drop ((i + 1) * s) := by
    rw [Nat.succ_mul,← List.drop_drop]
    exact (List.take_append_drop _ _).symm
   rw [this]
   exact V2_append p1 r1
  ·rcases List.mem_cons.1 hy with rfl | hy
   ·exact p2
   ·exact r3 y hy

theorem trod_av (hq : ∀ b, b < w.heap.size → q b) : ∀ (m : Nat) (t : TypeId), lay P m t = true → ∀ (fuel : Nat) (cs : List Value) (x : DataW H × List MemPlace), DataW.trod enc P w 0 spare held fuel t cs = some x → ∃ xs, V2 P w q xs cs ∧ TyC P m t xs
 | 0,t,hl,_,_,_,_=>by simp [lay] at hl
 | m + 1,t,hl,0,cs,x,h=>by simp [DataW.trod] at h
 | m + 1, t, hl, fuel + 1, cs, x, h => by
  unfold lay at hl
  unfold TyC
  unfold DataW.trod at h
  cases hu : P.underlying t with
  | none=>simp [hu] at hl
  | some d =>
   simp only [hu] at hl h ⊢
   cases d with
   | bool =>
    split at h <;> first | (cases h; done) | (rename_i e; cases e; done) | skip
    cases h
    exact ⟨[.val (.bool _)],⟨⟨.val _,rfl⟩,trivial⟩,_,rfl⟩
   | int k =>
    split at h <;> first | (cases h; done) | (rename_i e; cases e; done) | skip
    rename_i e
    cases e
    split at h
    ·rename_i hk
     obtain ⟨rfl,hw⟩ := hk
     simp only [Lit.wf,Bool.and_eq_true,decide_eq_true_eq] at hw
     exact ⟨[.val (.int _ _)],⟨⟨.val _,rfl⟩,trivial⟩,_,rfl,hw⟩
    ·cases h
   | string =>
    split at h <;> first | (cases h; done) | (rename_i e; cases e; done) | skip
    split at h
    ·rename_i hs
     exact ⟨[.val (.string _)],⟨⟨.val _,rfl⟩,trivial⟩,_,rfl,hs⟩
    ·cases h
   | slice e =>
    simp only [Bool.and_eq_true] at hl
    split at h <;> first | (cases h; done) | (rename_i e; cases e; done) | skip
    ·exact ⟨[.rslice (P.cellsOf e) 0 fun _=>[]],⟨⟨.rslice0 _ _ _ _,rfl⟩,trivial⟩,_,_,rfl,by omega,fun i hi=>absurd hi (Nat.not_lt_zero i)⟩
    ·rename_i e0 a len cap e1
     cases e1
     split at h
     case isFalse=>cases h
     rename_i hb
     have hes : 0 < P.cellsOf e := Nat.le_of_ble_eq_true hl.1
     cases hM : (List.range len).mapM fun i=>(w.cells? 0 (a.add (i * P.cellsOf e)) (P.cellsOf e)).bind (DataW.trod enc P w 0 spare held fuel e) with
     | none=>rw [hM] at h; cases h
     | some elems =>
      obtain ⟨_,g2⟩ := mapM_get hM
      have hx : ∀ i,∃ xs : List AV,i < len → ∃ cs,(cs.length = P.cellsOf e ∧ ∀ j,j < P.cellsOf e → w.cell? ((a.add (i * P.cellsOf e)).add j) = some (cs.getD j undef)) ∧ V2 P w q xs cs ∧ TyC P m e xs := fun i=>by
       by_cases hi : i < len
       ·obtain ⟨y,y1,_⟩ := g2 i i (by simp [hi])
        cases hc : w.cells? 0 (a.add (i * P.cellsOf e)) (P.cellsOf e) with
        | none=>rw [hc] at y1; cases y1
        | some cs1 =>
         rw [hc] at y1
         obtain ⟨xs,x1,x2⟩ := trod_av hq m e hl.2 _ _ _ y1
         exact ⟨xs,fun _=>⟨cs1,cells_some hc,x1,x2⟩⟩
       ·exact ⟨[],fun h=>absurd h hi⟩
      have hf := fun i=>(Classical.choose_spec (hx i))
      generalize hF : (fun i=>Classical.choose (hx i)) = F
      have hf : ∀ i,i < len → ∃ cs,(cs.length = P.cellsOf e ∧ ∀ j,j < P.cellsOf e → w.cell? ((a.add (i * P.cellsOf e)).add j) = some (cs.getD j undef)) ∧ V2 P w q (F i) cs ∧ TyC P m e (F i) := fun i hi=>by
       have := Classical.choose_spec (hx i) hi
       rw [← hF]
       exact this
      refine ⟨[.rslice (P.cellsOf e) len F],⟨⟨?_,rfl⟩,trivial⟩,len,F,rfl,?_,fun i hi=>?_⟩
      ·rcases Nat.eq_zero_or_pos len with rfl | hp
       ·exact .rslice0 _ _ _ _
       ·obtain ⟨cs0,c1,_,_⟩ := hf 0 hp
        have hc0 := c1.2 0 hes
        have e0 : ((a.add (0 * P.cellsOf e)).add 0) = a := by simp [Addr.add]
        rw [e0] at hc0
        obtain ⟨s1,s2⟩ := cell_spot hc0
        obtain ⟨blk,off,spot⟩ := a
        simp only at s1 s2
        subst s1
        have hG : ∀ i,∃ cs : List Value,i < len → (cs.length = P.cellsOf e ∧ ∀ j,j < P.cellsOf e → w.cell? (((⟨blk,off,none⟩ : Addr).add (i * P.cellsOf e)).add j) = some (cs.getD j undef)) ∧ V2 P w q (F i) cs := fun i=>by
         by_cases hi : i < len
         ·obtain ⟨cs,c1,c2,_⟩ := hf i hi
          exact ⟨cs,fun _=>⟨c1,c2⟩⟩
         ·exact ⟨[],fun h=>absurd h hi⟩
        refine .rslice _ _ _ blk off cap (fun i j=>(Classical.choose (hG i)).getD j undef) hb.2.1 (hq _ s2) (fun i hi=>?_) (fun i j hi hj=>?_) (fun i j x hi hx=>?_)
        ·obtain ⟨c1,c2⟩ := Classical.choose_spec (hG i) hi
         rw [V2_len c2,c1.1]
        ·obtain ⟨c1,c2⟩ := Classical.choose_spec (hG i) hi
         have hc := c1.2 j hj
         have ea : ((⟨blk,off,none⟩ : Addr).add (i * P.cellsOf e)).add j = ⟨blk,off + (i * P.cellsOf e + j),none⟩ := by
          exact addr_add2 blk off _ j
         rw [ea] at hc
         refine ⟨hc,?_⟩
         have hlt : j < (F i).length := by rw [V2_len c2,c1.1]; exact hj
         exact (V2_get c2 j _ (List.getElem?_eq_getElem hlt)).2
        ·obtain ⟨c1,c2⟩ := Classical.choose_spec (hG i) hi
         exact (V2_get c2 j x hx).1
      ·have := hb.2.2
       unfold maxLen at this
       omega
      ·obtain ⟨_,_,_,h3⟩ := hf i hi
       exact h3
   | struct fs =>
    replace h : (if cs.length = P.cellsOf t then (fs.toList.mapM fun f=>DataW.trod enc P w 0 spare held fuel f.type ((cs.drop f.offset).take (P.cellsOf f.type))).map fun xs=>(.agg (xs.map (·.1)),xs.flatMap (·.2)) else none) = some x := h
    split at h
    case isFalse=>cases h
    rename_i hc
    cases hM : fs.toList.mapM fun f=>DataW.trod enc P w 0 spare held fuel f.type ((cs.drop f.offset).take (P.cellsOf f.type)) with
    | none=>rw [hM] at h; cases h
    | some r =>
     obtain ⟨ps,p1,p2⟩ := fields_av (T := TyC P m) (ly := lay P m) (fun t ht cs x hx=>trod_av hq m t ht fuel cs x hx) cs fs.toList 0 r (by rw [hc]; exact hl) hM
     exact ⟨ps.flatten,by simpa using p1,ps,rfl,p2⟩
   | array n e =>
    simp only [Bool.and_eq_true] at hl
    replace h : (if cs.length = P.cellsOf t then ((List.range n).mapM fun i=>DataW.trod enc P w 0 spare held fuel e ((cs.drop (i * P.cellsOf e)).take (P.cellsOf e))).map fun xs=>(.agg (xs.map (·.1)),xs.flatMap (·.2)) else none) = some x := h
    split at h
    case isFalse=>cases h
    rename_i hc
    cases hM : (List.range n).mapM fun i=>DataW.trod enc P w 0 spare held fuel e ((cs.drop (i * P.cellsOf e)).take (P.cellsOf e)) with
    | none=>rw [hM] at h; cases h
    | some r =>
     obtain ⟨_,g2⟩ := mapM_get hM
     obtain ⟨ps,p1,p2,p3⟩ := items_av (T := TyC P m e) (fun cs x hx=>trod_av hq m e hl.2 fuel cs x hx) cs (P.cellsOf e) n (by rw [hc]; exact Nat.eq_of_beq_eq_true hl.1)
      (fun i hi=>by obtain ⟨y,y1,_⟩ := g2 i i (by simp [hi]); exact ⟨y,y1⟩) n 0 (by omega)
     exact ⟨ps.flatten,by simpa using p1,ps,rfl,p2,p3⟩
   | _=>simp at hl

def TyA (P : Program) (m : Nat) (t : TypeId) (x : AV) : Prop :=
 match P.underlying t with
 | some (.struct _) | some (.array _ _)=>∃ xs,x = .agg xs ∧ TyC P m t xs
 | _=>TyC P m t [x]

theorem open_av {r : Reach} {b0 : Nat} {t : TypeId} {v : Value} {d : DataW H} {ps : List MemPlace} {m : Nat} (hl : lay P m t = true) (hq : ∀ b,b < w.heap.size → q b)
  (hv : Value.okWide P w r b0 t v) (hd : DataW.Trod enc P w 0 spare held t v d ps) : ∃ x,VT P w q x v ∧ TyA P m t x := by
 obtain ⟨fuel,hf⟩ := hd
 obtain ⟨xs,h1,h2⟩ := trod_av hq m t hl fuel _ _ hf
 have agg : ∀ cs,v = .agg cs → VT P w q (.agg xs) v := by
  rintro cs rfl
  have hlen := V2_len h1
  refine .agg xs cs (by rw [hlen]; simp [Value.cells]) (fun u hu=>?_) (fun i x hx=>?_)
  ·obtain ⟨i,hi,rfl⟩ := List.getElem_of_mem hu
   have hx : i < xs.length := by rw [hlen]; simpa [Value.cells] using hi
   have := (V2_get h1 i _ (List.getElem?_eq_getElem hx)).2
   have hi' : i < cs.size := by simpa using hi
   simpa [Value.cells,List.getD_eq_getElem?_getD,hi'] using this
  ·have := (V2_get h1 i x hx).1
   simpa [Value.cells,List.getD_eq_getElem?_getD,Array.getD_eq_getD_getElem?] using this
 have one : ∀ u,v.cells.toList = [u] → v = u → ∃ x,VT P w q x v ∧ TyC P m t [x] := by
  rintro u e rfl
  rw [e] at h1
  match xs,h1,h2 with
  | [x],h1,h2=>exact ⟨x,h1.1.1,h2⟩
 unfold TyA
 unfold Value.okWide at hv
 split
 ·rename_i fs hu
  simp only [hu] at hv
  obtain ⟨cs,e,_,_⟩ := hv
  exact ⟨_,agg cs e,xs,rfl,h2⟩
 ·rename_i n e hu
  simp only [hu] at hv
  obtain ⟨cs,e,_,_⟩ := hv
  exact ⟨_,agg cs e,xs,rfl,h2⟩
 ·rename_i n1 n2
  have hc : Cell.okWide P w r b0 t v := by
   split at hv
   ·rename_i hu; exact absurd hu (n1 _)
   ·rename_i hu; exact absurd hu (n2 _ _)
   ·exact hv
  cases v with
  | agg cs =>
   simp only [Cell.okWide] at hc
   split at hc <;> first | (rename_i e _; cases e; done) | (rename_i e; cases e; done) | (simp [Cell.ok] at hc)
  | tuple cs =>
   simp only [Cell.okWide] at hc
   split at hc <;> first | (rename_i e _; cases e; done) | (rename_i e; cases e; done) | (simp [Cell.ok] at hc)
  | _=>exact one _ rfl rfl
end
end Go.Tr

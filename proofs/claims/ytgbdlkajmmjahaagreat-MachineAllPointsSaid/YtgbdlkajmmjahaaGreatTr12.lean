/- Plain laws of chapter 5: the best point for a head and a power, in both orders the same. Conditions: none. -/
import Derived.Test.YtgbdlkajmmjahaaGreatTr11
import Derived.Test.YtgbdlkajmmjahaaGreatTr10
import Derived.Test.YtgbdlkajmmjahaaGreatTr06
import Derived.ProofKit
set_option linter.unusedSectionVars false
set_option linter.unnecessarySimpa false
set_option linter.unusedVariables false
set_option linter.unusedSimpArgs false

-- seat YtgbdlkajmmjahaaGreat
namespace Go.Tr
open Go Go.Proofs
set_option maxRecDepth 20000
set_option maxHeartbeats 8000000

def wN (r : MRow) : List Nm := r.ps.map fun p=>(p,1)
theorem wN_len (r : MRow) : (wN r).length = r.ps.length := List.length_map _
theorem wN_ok {t : List MRow} (hR : RwOk t) {i : Nat} (hi : i < t.length) : CvOk (wN (t.getD i r0)) := by
 have hl := hR.len i hi
 have hnp := hR.np
 have hb : ∀ n ∈ wN (t.getD i r0),∃ p,PtOk p ∧ n = (p,1) := fun n hn=>by
  obtain ⟨p,hp,e⟩ := List.mem_map.1 hn
  obtain ⟨k,hk,e2⟩ := List.getElem_of_mem hp
  have h : PtOk ((t.getD i r0).ps.getD k p0) := hR.pts i k hi (by omega)
  rw [List.getD_eq_getElem?_getD,List.getElem?_eq_getElem hk] at h
  refine ⟨p,?_,e.symm⟩
  rw [← e2]; exact h
 refine ⟨by rw [wN_len]; omega,fun n hn=>?_,fun n hn m hm=>?_⟩
 ·obtain ⟨p,hp,e⟩ := hb n hn
  rw [e]; exact nm1_ok hp
 ·obtain ⟨p,_,e⟩ := hb n hn
  obtain ⟨p',_,e'⟩ := hb m hm
  rw [e,e']
theorem wN_one {t : List MRow} (hR : RwOk t) {i : Nat} (hi : i < t.length) : One (wN (t.getD i r0)) := fun n hn=>by
 refine ⟨?_,(wN_ok hR hi).b n hn⟩
 obtain ⟨p,_,e⟩ := List.mem_map.1 hn
 rw [← e]
def leF (a b : Nm) : Prop := leR (nmQ a).2.1 (nmQ b).2.1
def pasB (n b : Nm) : Bool := decide (n.1.2.2 * b.1.2.1 > b.1.2.2 * n.1.2.1)
def bo (o : Option (Int × Nm)) : Int × Nm := match o with | none=>(0,((0,0,0),0)) | some b=>b
def stB (f x : Int) (o : Option (Int × Nm)) (n : Nm) : Option (Int × Nm) := if okB f n = true ∧ (o.isSome = true → pasB n (bo o).2 = true) then some (x,n) else o
def rwB (f x : Int) (o : Option (Int × Nm)) (L : List Nm) : Option (Int × Nm) := L.foldl (stB f x) o
inductive BstT (h f : Int) (t : List MRow) : Nat → Option (Int × Nm) → Prop
  | zero : BstT h f t 0 none
  | row {i : Nat} {o : Option (Int × Nm)} {L : List Nm} (hb : BstT h f t i o) (hp : L.Perm (onL (wN (t.getD i r0)) (hdL h))) (hs : L.Pairwise leF) : BstT h f t (i + 1) (rwB f (t.getD i r0).o o L)
def efQ (s : Q3) : Rat := s.2.2 / s.2.1
def okQ (f : Int) (s : Q3) : Prop := 0 < s.2.1 ∧ (f : Rat) ≤ s.2.2
instance (f : Int) (s : Q3) : Decidable (okQ f s) := inferInstanceAs (Decidable (_ ∧ _))
def topQ (o : Option (Int × Q3)) (s : Q3) : Bool := match o with | none=>true | some b=>decide (efQ b.2 < efQ s)
def stQ (f x : Int) (o : Option (Int × Q3)) (s : Q3) : Option (Int × Q3) := if okQ f s ∧ topQ o s = true then some (x,s) else o
def rwQ (f x : Int) (o : Option (Int × Q3)) (L : List Q3) : Option (Int × Q3) := L.foldl (stQ f x) o
theorem rwQ_snoc (f x : Int) (o : Option (Int × Q3)) (L : List Q3) (s : Q3) : rwQ f x o (L ++ [s]) = stQ f x (rwQ f x o L) s := by unfold rwQ; rw [List.foldl_append]; rfl
inductive IsB (f x : Int) (o : Option (Int × Q3)) (L : List Q3) : Option (Int × Q3) → Prop
  | old (h : ∀ s ∈ L,okQ f s → topQ o s = false) : IsB f x o L o
  | new {n : Q3} (hn : n ∈ L) (hk : okQ f n) (ht : topQ o n = true) (hb : ∀ s ∈ L,okQ f s → ¬ efQ n < efQ s) (he : ∀ s ∈ L,okQ f s → ¬ efQ s < efQ n → leR n.2.1 s.2.1) : IsB f x o L (some (x,n))
theorem topQ_lt {o : Option (Int × Q3)} {s n : Q3} (h1 : topQ o s = false) (h2 : topQ o n = true) : efQ s < efQ n := by
 cases o with
 | none=>cases h1
 | some b =>
  have h1 : ¬ efQ b.2 < efQ s := of_decide_eq_false h1
  have h2 : efQ b.2 < efQ n := of_decide_eq_true h2
  grind
theorem topQ_up {o : Option (Int × Q3)} {s n : Q3} (h1 : topQ o s = true) (h2 : efQ s < efQ n) : topQ o n = true := by
 cases o with
 | none=>rfl
 | some b =>
  have h1 : efQ b.2 < efQ s := of_decide_eq_true h1
  exact decide_eq_true (rlt_tr h1 h2)
theorem leR_rf (a : Rat) : leR a a := rlt_irr a
theorem isB (f x : Int) (o : Option (Int × Q3)) (L : List Q3) (hp : L.Pairwise fun a b=>leR a.2.1 b.2.1) : IsB f x o L (rwQ f x o L) := by
 induction L using snoc_ind with
 | h0=>exact .old fun s hs=>by cases hs
 | hs l y ih =>
  rw [List.pairwise_append] at hp
  have ih := ih hp.1
  have hly := fun s hs=>hp.2.2 s hs y (by simp)
  rw [rwQ_snoc]
  generalize hr : rwQ f x o l = r at ih
  clear hr
  unfold stQ
  by_cases hy : okQ f y
  ·cases ih with
   | old h =>
    by_cases ht : topQ o y = true
    ·rw [if_pos ⟨hy,ht⟩]
     refine .new (by simp) hy ht (fun s hs hk=>?_) fun s hs hk hne=>?_
     ·rcases List.mem_append.1 hs with hs | hs
      ·exact fun g=>rlt_irr _ (rlt_tr g (topQ_lt (h s hs hk) ht))
      ·rw [List.mem_singleton.1 hs]; exact rlt_irr _
     ·rcases List.mem_append.1 hs with hs | hs
      ·exact absurd (topQ_lt (h s hs hk) ht) hne
      ·rw [List.mem_singleton.1 hs]; exact leR_rf _
    ·rw [if_neg fun g=>ht g.2]
     refine .old fun s hs hk=>?_
     rcases List.mem_append.1 hs with hs | hs
     ·exact h s hs hk
     ·rw [List.mem_singleton.1 hs]; exact Bool.eq_false_iff.2 ht
   | new hn hk ht hb he =>
    rename_i n
    by_cases hg : efQ n < efQ y
    ·rw [if_pos ⟨hy,decide_eq_true hg⟩]
     refine .new (by simp) hy (topQ_up ht hg) (fun s hs hk=>?_) fun s hs hk hne=>?_
     ·rcases List.mem_append.1 hs with hs | hs
      ·exact fun g=>hb s hs hk (rlt_tr hg g)
      ·rw [List.mem_singleton.1 hs]; exact rlt_irr _
     ·rcases List.mem_append.1 hs with hs | hs
      ·have := hb s hs hk
       exact absurd (show efQ s < efQ y by grind) hne
      ·rw [List.mem_singleton.1 hs]; exact leR_rf _
    ·rw [if_neg fun g=>hg (of_decide_eq_true g.2)]
     refine .new (by simp [hn]) hk ht (fun s hs hk=>?_) fun s hs hk hne=>?_
     ·rcases List.mem_append.1 hs with hs | hs
      ·exact hb s hs hk
      ·rw [List.mem_singleton.1 hs]; exact hg
     ·rcases List.mem_append.1 hs with hs | hs
      ·exact he s hs hk hne
      ·rw [List.mem_singleton.1 hs]; exact hly n hn
  ·rw [if_neg fun g=>hy g.1]
   cases ih with
   | old h =>
    refine .old fun s hs hk=>?_
    rcases List.mem_append.1 hs with hs | hs
    ·exact h s hs hk
    ·rw [List.mem_singleton.1 hs] at hk; exact absurd hk hy
   | new hn hk ht hb he =>
    refine .new (by simp [hn]) hk ht (fun s hs hk=>?_) fun s hs hk hne=>?_
    ·rcases List.mem_append.1 hs with hs | hs
     ·exact hb s hs hk
     ·rw [List.mem_singleton.1 hs] at hk; exact absurd hk hy
    ·rcases List.mem_append.1 hs with hs | hs
     ·exact he s hs hk hne
     ·rw [List.mem_singleton.1 hs] at hk; exact absurd hk hy
theorem eff_inj {m n : Q3} (hm : 0 < m.2.1) (hh : m.1 = n.1) (hq : m.2.1 = n.2.1) (he : efQ m = efQ n) : m = n := by
 obtain ⟨a,b,c⟩ := m
 obtain ⟨a',b',c'⟩ := n
 unfold efQ at he
 dsimp only at *
 subst hh; subst hq
 have h0 : b ≠ 0 := fun e=>by rw [e] at hm; exact rlt_irr _ hm
 have : c = c' := by
  have h1 : c / b * b = c' / b * b := by rw [he]
  rwa [Rat.div_mul_cancel h0,Rat.div_mul_cancel h0] at h1
 rw [this]
theorem IsB.uniq {f x : Int} {o r r' : Option (Int × Q3)} {L M : List Q3} {h : Rat} (hL : IsB f x o L r) (hM : IsB f x o M r') (hm : ∀ s,s ∈ L ↔ s ∈ M) (hh : ∀ s ∈ L,s.1 = h) : r = r' := by
 cases hL with
 | old h1 =>
  cases hM with
  | old h2=>rfl
  | new hn hk ht hb he =>
   have := h1 _ ((hm _).2 hn) hk
   rw [this] at ht; cases ht
 | new hn hk ht hb he =>
  cases hM with
  | old h2 =>
   have := h2 _ ((hm _).1 hn) hk
   rw [this] at ht; cases ht
  | new hn' hk' ht' hb' he' =>
   have a1 := hb _ ((hm _).2 hn') hk'
   have a2 := hb' _ ((hm _).1 hn) hk
   have b1 := he _ ((hm _).2 hn') hk' a2
   have b2 := he' _ ((hm _).1 hn) hk a1
   unfold leR at b1 b2
   rw [eff_inj hk.1 ((hh _ hn).trans (hh _ ((hm _).2 hn')).symm) (by grind) (by grind)]
def ptsQ (t : List MRow) (i : Nat) : List Q3 := (t.getD i r0).ps.map ptQ
def bsT (h f : Int) (t : List MRow) : Nat → Option (Int × Q3)
  | 0=>none
  | i + 1=>rwQ f (t.getD i r0).o (bsT h f t i) (spL (ptsQ t i) (hdL h))
def oQ (o : Option (Int × Nm)) : Option (Int × Q3) := o.map fun b=>(b.1,nmQ b.2)
theorem pasB_q {n b : Nm} (hn : 0 < n.2) (hb : 0 < b.2) (hnq : 0 < n.1.2.1) (hbq : 0 < b.1.2.1) : pasB n b = decide (efQ (nmQ b) < efQ (nmQ n)) := by
 have e : efQ (nmQ b) < efQ (nmQ n) ↔ b.1.2.2 * n.1.2.1 < n.1.2.2 * b.1.2.1 := by
  have e1 : ∀ {m : Nm},0 < m.2 → efQ (nmQ m) = Rat.divInt m.1.2.2 m.1.2.1 := fun {m} hm=>by
   unfold efQ nmQ
   dsimp only
   rw [Rat.divInt_eq_div,Rat.divInt_eq_div,Rat.divInt_eq_div]
   have h0 : (m.2 : Rat) ≠ 0 := cast_ne (by omega)
   grind
  rw [e1 hb,e1 hn,divInt_lt_iff hbq hnq]
 rw [Bool.eq_iff_iff]
 unfold pasB
 rw [decide_eq_true_iff,decide_eq_true_iff,e]
def OkO (o : Option (Int × Nm)) : Prop := ∀ b,o = some b → NmB 4000 b.2 ∧ 0 < b.2.1.2.1
theorem stB_q {f x : Int} {o : Option (Int × Nm)} {n : Nm} (ho : OkO o) (hn : NmB 4000 n) : OkO (stB f x o n) ∧ oQ (stB f x o n) = stQ f x (oQ o) (nmQ n) := by
 have hk := okB_q (f := f) hn.d.1
 unfold stB stQ
 by_cases h1 : okB f n = true
 ·have h2 : okQ f (nmQ n) := hk.1 h1
  have hq : 0 < n.1.2.1 := by
   unfold okB at h1
   rw [Bool.and_eq_true,decide_eq_true_iff] at h1
   exact h1.1
  have e : (o.isSome = true → pasB n (bo o).2 = true) ↔ topQ (oQ o) (nmQ n) = true := by
   cases o with
   | none=>exact ⟨fun _=>rfl,fun _ g=>by cases g⟩
   | some b =>
    have hb := ho b rfl
    have e := pasB_q hn.d.1 hb.1.d.1 hq hb.2
    show (true = true → pasB n b.2 = true) ↔ decide (efQ (nmQ b.2) < efQ (nmQ n)) = true
    rw [e]
    exact ⟨fun g=>g rfl,fun g _=>g⟩
  by_cases h3 : topQ (oQ o) (nmQ n) = true
  ·rw [if_pos ⟨h1,e.2 h3⟩,if_pos ⟨h2,h3⟩]
   exact ⟨fun b hb=>by cases hb; exact ⟨hn,hq⟩,rfl⟩
  ·rw [if_neg fun g=>h3 (e.1 g.2),if_neg fun g=>h3 g.2]
   exact ⟨ho,rfl⟩
 ·rw [if_neg fun g=>h1 g.1,if_neg fun g=>h1 (hk.2 g.1)]
  exact ⟨ho,rfl⟩
theorem rwB_q {f x : Int} : ∀ (L : List Nm) {o : Option (Int × Nm)},OkO o → (∀ n ∈ L,NmB 4000 n) → OkO (rwB f x o L) ∧ oQ (rwB f x o L) = rwQ f x (oQ o) (L.map nmQ)
 | [],o,ho,_=>⟨ho,rfl⟩
 | n :: r,o,ho,hL=>by
  have h1 := stB_q (f := f) (x := x) ho (hL n (by simp))
  have h2 := rwB_q (f := f) (x := x) r h1.1 fun m hm=>hL m (by simp [hm])
  refine ⟨h2.1,?_⟩
  show oQ (rwB f x (stB f x o n) r) = rwQ f x (stQ f x (oQ o) (nmQ n)) (r.map nmQ)
  rw [h2.2,h1.2]
theorem wN_map (r : MRow) : (wN r).map nmQ = r.ps.map ptQ := by
 unfold wN
 rw [List.map_map]
 exact List.map_congr_left fun p _=>nm1_q p
theorem BstT.q {h f : Int} {t : List MRow} (hR : RwOk t) (hh : szE h = 0) {i : Nat} {o : Option (Int × Nm)} (hi : i ≤ t.length) (hb : BstT h f t i o) : OkO o ∧ oQ o = bsT h f t i := by
 induction hb with
 | zero=>exact ⟨nofun,rfl⟩
 | @row i o L hb hp hs ih =>
  obtain ⟨h1,h2⟩ := ih (by omega)
  have hw := wN_ok hR (i := i) (by omega)
  have hr : -1000 ≤ h ∧ h ≤ 1000 := by
   unfold szE at hh
   split at hh
   ·assumption
   ·cases hh
  have hB : ∀ n ∈ L,NmB 4000 n := fun n hn=>one_on (wN_one hR (i := i) (by omega)) hr _ (Nat.le_refl _) n (hp.subset hn)
  obtain ⟨g1,g2⟩ := rwB_q (f := f) (x := (t.getD i r0).o) L h1 hB
  refine ⟨g1,?_⟩
  rw [g2,h2]
  have hmap : (onL (wN (t.getD i r0)) (hdL h)).map nmQ = onS (ptsQ t i) (hdL h) := by
   rw [onL_map hw,wN_map]; rfl
  have hmem : ∀ s,s ∈ L.map nmQ ↔ s ∈ spL (ptsQ t i) (hdL h) := fun s=>by
   unfold spL
   rw [putAll_mem,← hmap]
   constructor
   ·intro hs
    obtain ⟨n,hn,e⟩ := List.mem_map.1 hs
    exact List.mem_map.2 ⟨n,hp.subset hn,e⟩
   ·intro hs
    obtain ⟨n,hn,e⟩ := List.mem_map.1 hs
    exact List.mem_map.2 ⟨n,hp.symm.subset hn,e⟩
  have hhd : ∀ s ∈ L.map nmQ,s.1 = (h : Rat) := fun s hs=>by
   have := (hmem s).1 hs
   unfold spL at this
   exact hdL_side (on_side _ s ((putAll_mem _ _).1 this))
  refine IsB.uniq (isB _ _ _ _ ?_) (isB _ _ _ _ ?_) hmem hhd
  ·rw [List.pairwise_map]; exact hs
  ·have hps : (spL (ptsQ t i) (hdL h)).Pairwise lt3 := putAll_sorted lt3_tr lt3_tri _
   refine List.Pairwise.imp_of_mem ?_ hps
   intro a b ha hb hl
   have h1 := hhd a ((hmem a).2 ha)
   have h2 := hhd b ((hmem b).2 hb)
   exact lt3_flow hl (h1.trans h2.symm)
theorem mix_0 (a b : Q3) : mixQ a b 0 = a := by
 obtain ⟨a1,a2,a3⟩ := a
 unfold mixQ mix1
 dsimp only
 rw [Rat.zero_mul,Rat.zero_mul,Rat.zero_mul,Rat.add_zero,Rat.add_zero,Rat.add_zero]
theorem mix_1 (a b : Q3) : mixQ a b 1 = b := by
 obtain ⟨a1,a2,a3⟩ := a
 obtain ⟨b1,b2,b3⟩ := b
 unfold mixQ mix1
 dsimp only
 rw [Rat.one_mul,Rat.one_mul,Rat.one_mul]
 refine Prod.ext (by grind) (Prod.ext (by grind) (by grind))
end Go.Tr

/- Plain laws of chapter 5: what lies on a line lies on the curve, in the table's bounds; how often a curve changes sides. Conditions: none. -/
namespace Go.Tr
open Go Go.Proofs
set_option maxRecDepth 20000
set_option maxHeartbeats 8000000

def BdQ (b : B3) (q : Q3) : Prop := (((b.1.1 : Rat) ≤ q.1 ∧ q.1 ≤ (b.1.2 : Rat)) ∧ ((b.2.1.1 : Rat) ≤ q.2.1 ∧ q.2.1 ≤ (b.2.1.2 : Rat))) ∧ (b.2.2.1 : Rat) ≤ q.2.2 ∧ q.2.2 ≤ (b.2.2.2 : Rat)
theorem mix1_bd {lo hi a b t : Rat} (ha : lo ≤ a ∧ a ≤ hi) (hb : lo ≤ b ∧ b ≤ hi) (ht : 0 ≤ t ∧ t ≤ 1) : lo ≤ mix1 a b t ∧ mix1 a b t ≤ hi := by
 have h1 : 0 ≤ (1 - t) * (a - lo) := Rat.mul_nonneg (by grind) (by grind)
 have h2 : 0 ≤ t * (b - lo) := Rat.mul_nonneg (by grind) (by grind)
 have h3 : 0 ≤ (1 - t) * (hi - a) := Rat.mul_nonneg (by grind) (by grind)
 have h4 : 0 ≤ t * (hi - b) := Rat.mul_nonneg (by grind) (by grind)
 unfold mix1
 constructor <;> grind
theorem mixQ_bd {b : B3} {p q : Q3} {t : Rat} (hp : BdQ b p) (hq : BdQ b q) (ht : 0 ≤ t ∧ t ≤ 1) : BdQ b (mixQ p q t) :=
  ⟨⟨mix1_bd hp.1.1 hq.1.1 ht,mix1_bd hp.1.2 hq.1.2 ht⟩,mix1_bd hp.2 hq.2 ht⟩
def InB (b : B3) (p : P3) : Prop := ((b.1.1 ≤ p.1 ∧ p.1 ≤ b.1.2) ∧ b.2.1.1 ≤ p.2.1 ∧ p.2.1 ≤ b.2.1.2) ∧ b.2.2.1 ≤ p.2.2 ∧ p.2.2 ≤ b.2.2.2
def LeB (a b : B3) : Prop := ((b.1.1 ≤ a.1.1 ∧ a.1.2 ≤ b.1.2) ∧ b.2.1.1 ≤ a.2.1.1 ∧ a.2.1.2 ≤ b.2.1.2) ∧ b.2.2.1 ≤ a.2.2.1 ∧ a.2.2.2 ≤ b.2.2.2
theorem LeB.rf (a : B3) : LeB a a := by unfold LeB; omega
theorem LeB.tr {a b c : B3} (h : LeB a b) (g : LeB b c) : LeB a c := by unfold LeB at *; omega
theorem InB.up {a b : B3} {p : P3} (h : InB a p) (g : LeB a b) : InB b p := by unfold InB LeB at *; omega
theorem bndP_ok (b : B3) (p : P3) : LeB b (bndP b p) ∧ InB (bndP b p) p := by
 unfold LeB InB bndP bnd1
 dsimp only
 omega
theorem bndL_ok : ∀ (l : List P3) (b : B3),LeB b (bndL b l) ∧ ∀ p ∈ l,InB (bndL b l) p
 | [],b=>⟨LeB.rf b,fun p hp=>by cases hp⟩
 | x :: r,b=>by
  have h := bndL_ok r (bndP b x)
  have g := bndP_ok b x
  refine ⟨g.1.tr h.1,fun p hp=>?_⟩
  rcases List.mem_cons.1 hp with e | hp
  ·rw [e]; exact g.2.up h.1
  ·exact h.2 p hp
theorem bndR_ok : ∀ (t : List MRow) (b : B3),LeB b (t.foldl (fun b r=>bndL b r.ps) b) ∧ ∀ r ∈ t,∀ p ∈ r.ps,InB (t.foldl (fun b r=>bndL b r.ps) b) p
 | [],b=>⟨LeB.rf b,fun p hp=>by cases hp⟩
 | x :: r,b=>by
  have h := bndR_ok r (bndL b x.ps)
  have g := bndL_ok x.ps b
  refine ⟨g.1.tr h.1,fun p hp q hq=>?_⟩
  rcases List.mem_cons.1 hp with e | hp
  ·rw [e] at hq; exact (g.2 q hq).up h.1
  ·exact h.2 p hp q hq
theorem InB.q {b : B3} {p : P3} (h : InB b p) : BdQ b (ptQ p) := by
 unfold InB at h
 have c : ∀ x y : Int,x ≤ y → (x : Rat) ≤ (y : Rat) := fun x y h=>Rat.intCast_le_intCast.2 h
 exact ⟨⟨⟨c _ _ h.1.1.1,c _ _ h.1.1.2⟩,c _ _ h.1.2.1,c _ _ h.1.2.2⟩,c _ _ h.2.1,c _ _ h.2.2⟩
theorem bndT_pt {t : List MRow} {i k : Nat} (hi : i < t.length) (hk : k < (t.getD i r0).ps.length) : BdQ (bndT t) (ptQ ((t.getD i r0).ps.getD k p0)) :=
  ((bndR_ok t _).2 _ (getD_memG hi) _ (getD_memG hk)).q
theorem rawQ_mem {A B : List P3} {part : Rat} : ∀ k,k ≤ A.length → ∀ q ∈ rawQ A B part k,∃ i j,i < A.length ∧ j < A.length ∧ q = mixQ (ptQ (A.getD i p0)) (ptQ (B.getD j p0)) part
 | 0,_,q,hq=>by cases hq
 | k + 1, hk, q, hq => by
  unfold rawQ at hq
  rcases List.mem_append.1 hq with hq | hq
  ·exact rawQ_mem k (by omega) q hq
  ·rcases List.mem_cons.1 hq with e | hq
   ·exact ⟨k,k,by omega,by omega,e⟩
   ·split at hq
    ·exact ⟨k + 1,k,by omega,by omega,List.mem_singleton.1 hq⟩
    ·cases hq
theorem part_01 {t : List MRow} {f : Int × Int} (hT : TblOk t) (hO : OpOk t f) : 0 ≤ Rat.divInt (crvP t f) (crvD t f) ∧ Rat.divInt (crvP t f) (crvD t f) ≤ 1 := by
 have hd := crv_den hT hO
 have hp := crv_part hT hO
 refine ⟨(Rat.divInt_nonneg_iff_of_pos_right (by omega)).2 hp.1,?_⟩
 have e : (1 : Rat) = Rat.divInt 1 1 := by decide
 rw [← Rat.not_lt,e,divInt_lt_iff (by decide) (by omega)]
 omega
theorem crvQ_bd {t : List MRow} {f : Int × Int} (hT : TblOk t) (hO : OpOk t f) : ∀ q ∈ crvQ t f,BdQ (bndT t) q := fun q hq=>by
 have hK := rwK_ok hT hO
 have hl := crv_len hT hO
 unfold crvQ at hq
 obtain ⟨i,j,hi,hj,e⟩ := rawQ_mem _ (Nat.le_refl _) q ((compL_mem _ _).1 hq)
 rw [e]
 refine mixQ_bd (bndT_pt (i := rwK t f) (by omega) hi) (bndT_pt (i := rwK t f + 1) hK.1 ?_) (part_01 hT hO)
 show j < (crvB t f).length
 omega
theorem frac01 {x y : Rat} (h : sgR x * sgR y < 0) : 0 < x / (x - y) ∧ x / (x - y) < 1 := by
 have hx := sgR_cases x
 have hy := sgR_cases y
 have h0 : x - y ≠ 0 := fun e=>by
  have e : x = y := by grind
  rw [e] at h
  rcases hy with ⟨_,e⟩ | ⟨_,e⟩ | ⟨_,e⟩ <;> rw [e] at h <;> omega
 have e := Rat.div_mul_cancel (a := x) h0
 have e2 : x / (x - y) * (x - y) = x := by grind
 generalize x / (x - y) = u at e2
 have hs : (x < 0 ∧ 0 < y) ∨ (0 < x ∧ y < 0) := by
  rcases hx with ⟨a,e⟩ | ⟨a,e⟩ | ⟨a,e⟩ <;> rcases hy with ⟨b,g⟩ | ⟨b,g⟩ | ⟨b,g⟩ <;> rw [e,g] at h <;> first | omega | exact .inl ⟨a,b⟩ | exact .inr ⟨a,b⟩
 rcases hs with ⟨a,b⟩ | ⟨a,b⟩
 ·constructor
  ·refine Rat.not_le.1 fun g=>?_
   have := Rat.mul_nonneg (a := -u) (b := y - x) (by grind) (by grind)
   grind
  ·refine Rat.not_le.1 fun g=>?_
   have := Rat.mul_nonneg (a := u - 1) (b := y - x) (by grind) (by grind)
   grind
 ·constructor
  ·refine Rat.not_le.1 fun g=>?_
   have := Rat.mul_nonneg (a := -u) (b := x - y) (by grind) (by grind)
   grind
  ·refine Rat.not_le.1 fun g=>?_
   have := Rat.mul_nonneg (a := u - 1) (b := x - y) (by grind) (by grind)
   grind
theorem onQ_mem {L : List Q3} {l : Ln} : ∀ k,k ≤ L.length → ∀ q ∈ onQ L l k,∃ j,j < L.length ∧ (q = L.getD j q0 ∨ (j + 1 < L.length ∧ ∃ u,0 < u ∧ u < 1 ∧ q = mixQ (L.getD j q0) (L.getD (j + 1) q0) u))
 | 0,_,q,hq=>by cases hq
 | k + 1, hk, q, hq => by
  unfold onQ at hq
  rcases List.mem_append.1 hq with hq | hq
  ·exact onQ_mem k (by omega) q hq
  ·rcases List.mem_append.1 hq with hq | hq
   ·split at hq
    ·exact ⟨k,by omega,.inl (List.mem_singleton.1 hq)⟩
    ·cases hq
   ·split at hq
    ·rename_i hc
     have := frac01 hc.2
     exact ⟨k,by omega,.inr ⟨hc.1,_,this.1,this.2,List.mem_singleton.1 hq⟩⟩
    ·cases hq
theorem onS_bd {t : List MRow} {f : Int × Int} (hT : TblOk t) (hO : OpOk t f) {l : Ln} : ∀ q ∈ spL (crvQ t f) l,BdQ (bndT t) q := fun q hq=>by
 obtain ⟨j,hj,h⟩ := onQ_mem _ (Nat.le_refl _) q ((putAll_mem _ _).1 hq)
 have h1 := crvQ_bd hT hO _ (getD_memG (d := q0) hj)
 rcases h with e | ⟨hj2,u,h2,h3,e⟩
 ·rw [e]; exact h1
 ·rw [e]; exact mixQ_bd h1 (crvQ_bd hT hO _ (getD_memG (d := q0) hj2)) ⟨Rat.le_of_lt h2,Rat.le_of_lt h3⟩
def PcOn (a b q : Q3) : Prop := (q.1 - a.1) * (b.2.1 - q.2.1) = (q.2.1 - a.2.1) * (b.1 - q.1) ∧ 0 < (q.1 - a.1) * (b.1 - q.1) + (q.2.1 - a.2.1) * (b.2.1 - q.2.1) ∧
  (q.1 - a.1) * (b.2.2 - q.2.2) = (b.1 - q.1) * (q.2.2 - a.2.2) ∧ (q.2.1 - a.2.1) * (b.2.2 - q.2.2) = (b.2.1 - q.2.1) * (q.2.2 - a.2.2)
def PlNe (a b : Q3) : Prop := ¬ (a.1 = b.1 ∧ a.2.1 = b.2.1)
theorem sq_pos {x : Rat} (h : x ≠ 0) : 0 < x * x := by
 rcases rlt_tri x 0 with g | g | g
 ·have := Rat.mul_pos (a := -x) (b := -x) (by grind) (by grind)
  grind
 ·exact absurd g h
 ·exact Rat.mul_pos g g
theorem sq_nn (x : Rat) : 0 ≤ x * x := by
 by_cases h : x = 0
 ·rw [h]; grind
 ·exact Rat.le_of_lt (sq_pos h)
theorem mix_on {a b : Q3} {u : Rat} (h : PlNe a b) (h0 : 0 < u) (h1 : u < 1) : PcOn a b (mixQ a b u) := by
 have hu : 0 < u * (1 - u) := Rat.mul_pos h0 (by grind)
 have hd : 0 < (b.1 - a.1) * (b.1 - a.1) + (b.2.1 - a.2.1) * (b.2.1 - a.2.1) := by
  have s1 := sq_nn (b.1 - a.1)
  have s2 := sq_nn (b.2.1 - a.2.1)
  by_cases e1 : b.1 - a.1 = 0
  ·have e2 : b.2.1 - a.2.1 ≠ 0 := fun e=>h ⟨by grind,by grind⟩
   have := sq_pos e2
   grind
  ·have := sq_pos e1
   grind
 have hp := Rat.mul_pos hu hd
 unfold PcOn mixQ mix1
 dsimp only
 refine ⟨by grind,by grind,by grind,by grind⟩
def ChE (l : List Q3) : Prop := ∀ k,k + 1 < l.length → l.getD k q0 = l.getD (k + 1) q0 ∨ PlNe (l.getD k q0) (l.getD (k + 1) q0)
theorem getD_app1 {l m : List Q3} {k : Nat} (h : k < l.length) : (l ++ m).getD k q0 = l.getD k q0 := by
  rw [List.getD_eq_getElem?_getD,List.getD_eq_getElem?_getD,List.getElem?_append_left h]
theorem getD_app2 {l : List Q3} {x : Q3} : (l ++ [x]).getD l.length q0 = x := by
  rw [List.getD_eq_getElem?_getD,List.getElem?_append_right (Nat.le_refl _),Nat.sub_self]; rfl
theorem last_at {l : List Q3} {k : Nat} (h : k + 1 = l.length) : l.getLast? = some (l.getD k q0) := by
  rw [List.getLast?_eq_getElem?,List.getD_eq_getElem?_getD,← h,Nat.add_sub_cancel,List.getElem?_eq_getElem (by omega)]; rfl
theorem ChE.app {l : List Q3} {x : Q3} (h : ChE l) (hx : ∀ y,l.getLast? = some y → y = x ∨ PlNe y x) : ChE (l ++ [x]) := fun k hk=>by
 rw [List.length_append,List.length_singleton] at hk
 by_cases e : k + 1 < l.length
 ·rw [getD_app1 (by omega),getD_app1 e]; exact h k e
 ·have e : k + 1 = l.length := by omega
  rw [getD_app1 (by omega),e,getD_app2]
  exact hx _ (last_at e)
theorem ChE.init {l : List Q3} {x : Q3} (h : ChE (l ++ [x])) : ChE l ∧ ∀ y,l.getLast? = some y → y = x ∨ PlNe y x := by
 constructor
 ·intro k hk
  have := h k (by rw [List.length_append]; omega)
  rwa [getD_app1 (by omega),getD_app1 hk] at this
 ·intro y hy
  by_cases e : l.length = 0
  ·rw [List.length_eq_zero_iff.1 e] at hy; cases hy
  ·have e1 : l.length - 1 + 1 = l.length := by omega
   have := h (l.length - 1) (by rw [List.length_append,List.length_singleton]; omega)
   rw [getD_app1 (by omega),e1,getD_app2] at this
   rw [last_at e1] at hy
   rw [← Option.some.inj hy]; exact this
theorem compL_pl (l : List Q3) (h : ChE l) : ∀ k,k + 1 < (compL l).length → PlNe ((compL l).getD k q0) ((compL l).getD (k + 1) q0) := by
 induction l using snoc_ind with
 | h0=>intro k hk; exact absurd hk (Nat.not_lt_zero _)
 | hs l x ih =>
  obtain ⟨h1,h2⟩ := h.init
  have ih := ih h1
  rw [compL_snoc]
  unfold compS
  split
  ·exact ih
  ·rename_i hne
   rw [compL_last] at hne
   intro k hk
   rw [List.length_append,List.length_singleton] at hk
   by_cases e : k + 1 < (compL l).length
   ·rw [getD_app1 (by omega),getD_app1 e]; exact ih k e
   ·have e : k + 1 = (compL l).length := by omega
    rw [getD_app1 (by omega),e,getD_app2]
    have hl := last_at e
    rw [compL_last] at hl
    rcases h2 _ hl with g | g
    ·exact absurd (hl.trans (by rw [g])) hne
    ·exact g
theorem mixb {a b c : Q3} {u : Rat} (h : PlNe b c) : mixQ a b u = mixQ a c u ∨ PlNe (mixQ a b u) (mixQ a c u) := by
 by_cases hu : u = 0
 ·left; rw [hu,mix_0,mix_0]
 ·right
  intro e
  unfold mixQ mix1 at e
  dsimp only at e
  have k : ∀ x y z : Rat,x + u * (y - x) = x + u * (z - x) → y = z := fun x y z e=>by
   have e1 : u * (y - z) = 0 := by grind
   rcases Rat.mul_eq_zero.1 e1 with g | g
   ·exact absurd g hu
   ·grind
  exact h ⟨k _ _ _ e.1,k _ _ _ e.2⟩
theorem mixa {a b c : Q3} {u : Rat} (h : PlNe a c) : mixQ a b u = mixQ c b u ∨ PlNe (mixQ a b u) (mixQ c b u) := by
 by_cases hu : u = 1
 ·left; rw [hu,mix_1,mix_1]
 ·right
  intro e
  unfold mixQ mix1 at e
  dsimp only at e
  have k : ∀ x y z : Rat,x + u * (y - x) = z + u * (y - z) → x = z := fun x y z e=>by
   have e1 : (1 - u) * (x - z) = 0 := by grind
   rcases Rat.mul_eq_zero.1 e1 with g | g
   ·exact absurd (show u = 1 by grind) hu
   ·grind
  exact h ⟨k _ _ _ e.1,k _ _ _ e.2⟩
theorem last_snoc (l : List Q3) (x y : Q3) (h : (l ++ [x]).getLast? = some y) : x = y := by
  rw [List.getLast?_append] at h
  exact Option.some.inj h
theorem rawQ_ch {A B : List P3} {u : Rat} (hA : ∀ k,k + 1 < A.length → PlNe (ptQ (A.getD k p0)) (ptQ (A.getD (k + 1) p0))) (hB : ∀ k,k + 1 < A.length → PlNe (ptQ (B.getD k p0)) (ptQ (B.getD (k + 1) p0))) :
  ∀ k,k ≤ A.length → ChE (rawQ A B u k) ∧ (k < A.length → ∀ y,(rawQ A B u k).getLast? = some y → 0 < k ∧ y = mixQ (ptQ (A.getD k p0)) (ptQ (B.getD (k - 1) p0)) u)
 | 0,_=>⟨fun k hk=>absurd hk (Nat.not_lt_zero _),fun _ y hy=>by cases hy⟩
 | k + 1, hk => by
  obtain ⟨h1,h2⟩ := rawQ_ch hA hB k (by omega)
  have c1 : ChE (rawQ A B u k ++ [mixQ (ptQ (A.getD k p0)) (ptQ (B.getD k p0)) u]) := h1.app fun y hy=>by
   obtain ⟨h3,h4⟩ := h2 (by omega) y hy
   rw [h4]
   have := hB (k - 1) (by omega)
   rw [show k - 1 + 1 = k by omega] at this
   exact mixb this
  by_cases hk2 : k + 1 < A.length
  ·rw [rawQ_2 hk2]
   refine ⟨c1.app fun y hy=>?_,fun _ y hy=>⟨by omega,(last_snoc _ _ _ hy).symm⟩⟩
   rw [← last_snoc _ _ _ hy]
   exact mixa (hA k hk2)
  ·rw [rawQ_1 hk2]
   exact ⟨c1,fun h=>absurd h hk2⟩
theorem row_pl {t : List MRow} (hT : TblOk t) {i : Nat} (hi : i < t.length) (k : Nat) (hk : k + 1 < npT t) : PlNe (ptQ (ptT t i k)) (ptQ (ptT t i (k + 1))) := fun ⟨e1,e2⟩=>by
 have e1 : (ptT t i k).1 = (ptT t i (k + 1)).1 := Rat.intCast_inj.1 e1
 have e2 : (ptT t i k).2.1 = (ptT t i (k + 1)).2.1 := Rat.intCast_inj.1 e2
 have hn := hT.n
 by_cases h : i + 1 < t.length
 ·have := (hT.ar i k h hk).1
  unfold tri1 turnI at this
  rw [e1,e2,Int.sub_self,Int.sub_self,Int.zero_mul,Int.mul_zero] at this
  omega
 ·obtain ⟨j,rfl⟩ : ∃ j,i = j + 1 := ⟨i - 1,by omega⟩
  have := (hT.ar j k hi hk).2
  unfold tri2 turnI at this
  rw [e1,e2,Int.sub_self] at this
  omega
theorem crvQ_pl {t : List MRow} {f : Int × Int} (hT : TblOk t) (hO : OpOk t f) : ∀ k,k + 1 < (crvQ t f).length → PlNe ((crvQ t f).getD k q0) ((crvQ t f).getD (k + 1) q0) := by
 have hK := rwK_ok hT hO
 have hl := crv_len hT hO
 refine compL_pl _ (rawQ_ch (fun k hk=>?_) (fun k hk=>?_) _ (Nat.le_refl _)).1
 ·exact row_pl hT (i := rwK t f) (by omega) k (by omega)
 ·exact row_pl hT (i := rwK t f + 1) hK.1 k (by omega)
theorem spL_on {t : List MRow} {f : Int × Int} (hT : TblOk t) (hO : OpOk t f) {l : Ln} : ∀ q ∈ spL (crvQ t f) l,∃ j,j < (crvQ t f).length ∧ (q = (crvQ t f).getD j q0 ∨ (0 < j ∧ PcOn ((crvQ t f).getD (j - 1) q0) ((crvQ t f).getD j q0) q)) := fun q hq=>by
 obtain ⟨j,hj,h⟩ := onQ_mem _ (Nat.le_refl _) q ((putAll_mem _ _).1 hq)
 rcases h with e | ⟨hj2,u,h2,h3,e⟩
 ·exact ⟨j,hj,.inl e⟩
 ·refine ⟨j + 1,hj2,.inr ⟨by omega,?_⟩⟩
  rw [Nat.add_sub_cancel,e]
  exact mix_on (crvQ_pl hT hO j hj2) h2 h3
def sdQ (C : List Q3) (l : Ln) (k : Nat) : Int := sgR (sideQ l (C.getD k q0))
def chQ (C : List Q3) (l : Ln) : Nat → Nat
  | 0=>0
  | k + 1=>chQ C l k + if 0 < k ∧ sdQ C l k * sdQ C l (k - 1) < 0 then 1 else 0
def tcQ (C : List Q3) (l : Ln) : Nat → Bool
  | 0=>false
  | k + 1=>tcQ C l k || decide (sdQ C l k = 0)
theorem tcQ_no {C : List Q3} {l : Ln} : ∀ {n : Nat},tcQ C l n = false → ∀ k,k < n → sdQ C l k ≠ 0
 | 0,_,k,hk=>absurd hk (Nat.not_lt_zero k)
 | n + 1,h,k,hk=>by
  unfold tcQ at h
  rw [Bool.or_eq_false_iff,decide_eq_false_iff_not] at h
  by_cases e : k = n
  ·rw [e]; exact h.2
  ·exact tcQ_no h.1 k (by omega)
theorem tcQ_yes {C : List Q3} {l : Ln} : ∀ {n : Nat},tcQ C l n = true → ∃ k,k < n ∧ sdQ C l k = 0
 | 0,h=>by cases h
 | n + 1, h => by
  unfold tcQ at h
  rw [Bool.or_eq_true,decide_eq_true_iff] at h
  rcases h with h | h
  ·obtain ⟨k,hk,e⟩ := tcQ_yes h
   exact ⟨k,by omega,e⟩
  ·exact ⟨n,by omega,h⟩
theorem sd_zero {C : List Q3} {l : Ln} {k : Nat} : sdQ C l k = 0 ↔ sideQ l (C.getD k q0) = 0 := by
 unfold sdQ
 rcases sgR_cases (sideQ l (C.getD k q0)) with ⟨a,e⟩ | ⟨a,e⟩ | ⟨a,e⟩ <;> rw [e]
 ·exact ⟨fun h=>by omega,fun h=>absurd (h ▸ a) (rlt_irr _)⟩
 ·exact ⟨fun _=>a,fun _=>rfl⟩
 ·exact ⟨fun h=>by omega,fun h=>absurd (h ▸ a) (rlt_irr _)⟩
theorem on_cnt {C : List Q3} {l : Ln} (h : ∀ k,k < C.length → sdQ C l k ≠ 0) : ∀ k,k + 1 ≤ C.length → (onQ C l k).length = chQ C l (k + 1)
 | 0,_=>by
  unfold onQ chQ
  rw [if_neg (fun e=>absurd e.1 (Nat.lt_irrefl 0))]; rfl
 | k + 1,hk=>by
  have ih := on_cnt h k (by omega)
  have h0 : ¬ sideQ l (C.getD k q0) = 0 := fun e=>h k (by omega) (sd_zero.2 e)
  unfold onQ
  rw [if_neg h0,List.nil_append,List.length_append,ih]
  show _ = chQ C l (k + 1) + if 0 < k + 1 ∧ sdQ C l (k + 1) * sdQ C l (k + 1 - 1) < 0 then 1 else 0
  congr 1
  rw [Nat.add_sub_cancel]
  unfold sdQ
  rw [Int.mul_comm (sgR (sideQ l (C.getD (k + 1) q0)))]
  by_cases g : sgR (sideQ l (C.getD k q0)) * sgR (sideQ l (C.getD (k + 1) q0)) < 0
  ·rw [if_pos ⟨by omega,g⟩,if_pos ⟨by omega,g⟩]; rfl
  ·rw [if_neg fun e=>g e.2,if_neg fun e=>g e.2]; rfl
theorem onS_cnt {C : List Q3} {l : Ln} (hn : 0 < C.length) (h : ∀ k,k < C.length → sdQ C l k ≠ 0) : (onS C l).length = chQ C l C.length := by
 obtain ⟨m,hm⟩ : ∃ m,C.length = m + 1 := ⟨C.length - 1,by omega⟩
 unfold onS
 rw [hm]
 have h0 : ¬ sideQ l (C.getD m q0) = 0 := fun e=>h m (by omega) (sd_zero.2 e)
 rw [← on_cnt h m (by omega)]
 show (onQ C l m ++ _).length = _
 rw [if_neg h0,if_neg (fun e=>by omega),List.append_nil,List.append_nil]
theorem putAll_nil (L : List Q3) : (putAll lt3 L).length = 0 ↔ L.length = 0 := by
 constructor
 ·intro h
  cases L with
  | nil=>rfl
  | cons x r =>
   have : x ∈ putAll lt3 (x :: r) := (putAll_mem _ _).2 (by simp)
   rw [List.length_eq_zero_iff.1 h] at this; cases this
 ·intro h
  rw [List.length_eq_zero_iff.1 h]; rfl
theorem spL_cnt {C : List Q3} {l : Ln} (hn : 0 < C.length) (h : tcQ C l C.length = false) : (spL C l).length ≤ chQ C l C.length ∧ (chQ C l C.length = 0 ↔ (spL C l).length = 0) := by
 have e := onS_cnt hn (tcQ_no h)
 rw [← e]
 exact ⟨putAll_len _,(putAll_nil _).symm⟩
theorem onQ_zero {C : List Q3} {l : Ln} : ∀ {n k : Nat},k < n → sideQ l (C.getD k q0) = 0 → C.getD k q0 ∈ onQ C l n
 | 0,k,h,_=>absurd h (Nat.not_lt_zero k)
 | n + 1, k, h, e => by
  unfold onQ
  by_cases g : k = n
  ·rw [g] at e ⊢
   rw [if_pos e]; simp
  ·exact List.mem_append_left _ (onQ_zero (by omega) e)
theorem chQ_same {C : List Q3} {l : Ln} (h : ∀ k,k < C.length → sdQ C l k ≠ 0) : ∀ n,n ≤ C.length → chQ C l n = 0 → ∀ k,k < n → sdQ C l k = sdQ C l 0
 | 0,_,_,k,hk=>absurd hk (Nat.not_lt_zero k)
 | n + 1, hn, hc, k, hk => by
  unfold chQ at hc
  have h1 : chQ C l n = 0 := by omega
  have ih := chQ_same h n (by omega) h1
  by_cases e : k = n
  ·subst e
   by_cases k0 : k = 0
   ·rw [k0]
   ·have h2 : ¬ (0 < k ∧ sdQ C l k * sdQ C l (k - 1) < 0) := fun g=>by rw [if_pos g] at hc; omega
    rw [ih (k - 1) (by omega)] at h2
    have a := h k (by omega)
    have b := h 0 (by omega)
    unfold sdQ at *
    rcases sgR_cases (sideQ l (C.getD k q0)) with ⟨_,e⟩ | ⟨_,e⟩ | ⟨_,e⟩ <;> rcases sgR_cases (sideQ l (C.getD 0 q0)) with ⟨_,g⟩ | ⟨_,g⟩ | ⟨_,g⟩ <;> rw [e,g] at h2 ⊢ <;> first | rfl | omega | exact absurd e a | exact absurd g b | exact absurd (by omega) h2
  ·exact ih k (by omega)
theorem ends_cross {C : List Q3} {l : Ln} (hn : 0 < C.length) (h : sdQ C l 0 * sdQ C l (C.length - 1) < 0) : 0 < (spL C l).length := by
 refine Classical.byContradiction fun g=>?_
 have g : (spL C l).length = 0 := by omega
 have ho : (onS C l).length = 0 := (putAll_nil _).1 g
 cases ht : tcQ C l C.length with
 | true =>
  obtain ⟨k,hk,e⟩ := tcQ_yes ht
  have := onQ_zero (n := C.length) hk (sd_zero.1 e)
  unfold onS at ho
  rw [List.length_eq_zero_iff.1 ho] at this; cases this
 | false =>
  have hs := tcQ_no ht
  rw [onS_cnt hn hs] at ho
  rw [chQ_same hs _ (Nat.le_refl _) ho (C.length - 1) (by omega)] at h
  unfold sdQ at h
  rcases sgR_cases (sideQ l (C.getD 0 q0)) with ⟨_,e⟩ | ⟨_,e⟩ | ⟨_,e⟩ <;> rw [e] at h <;> omega
theorem spL_lt {C : List Q3} {l : Ln} {k : Nat} (hk : k + 1 < (spL C l).length) : lt3 ((spL C l).getD k q0) ((spL C l).getD (k + 1) q0) := by
 have h := putAll_sorted lt3_tr lt3_tri (onS C l)
 have := (List.pairwise_iff_getElem.1 h) k (k + 1) (by exact Nat.lt_of_succ_lt hk) hk (by omega)
 have hk : k + 1 < (putAll lt3 (onS C l)).length := hk
 unfold spL
 rw [List.getD_eq_getElem?_getD,List.getD_eq_getElem?_getD,List.getElem?_eq_getElem (by omega),List.getElem?_eq_getElem hk]
 exact this
theorem chQ_le (C : List Q3) (l : Ln) : ∀ k,chQ C l k ≤ k
 | 0=>Nat.le_refl _
 | k + 1=>by
  have := chQ_le C l k
  unfold chQ
  split <;> omega
end Go.Tr

/- Contracts of chapter 5: small spots, bounds, order, pieces. Conditions: none. -/
-- seat YtgbdlkajmmjahaaGreat
namespace Go.Tr
open Go Go.Proofs
set_option maxRecDepth 20000
set_option maxHeartbeats 8000000

theorem frI_low (q : Rat) : lowF (frI q) := by
 refine ⟨by show (0 : Int) < (q.den : Nat); have := q.den_pos; omega,?_⟩
 show ((Nat.gcd q.num.natAbs ((q.den : Nat) : Int).natAbs : Nat) : Int) = 1
 rw [Int.natAbs_natCast,q.reduced]; rfl
theorem frI_I {q : Rat} (h : smR q) : FrI (frI q) := by
 unfold smR at h
 unfold FrI frI
 dsimp only
 omega
theorem S62 (q : Rat) (h : smR q) : SP 62 [gaF (frI q)] (vb true) false := by
 have h1 := S130g (frI q) (frI_I h)
 rw [decide_eq_true (frI_low q)] at h1
 have h2 := S111 (frI q)
 have hp := q.den_pos
 unfold smR at h
 rw [decide_eq_true (by unfold frI; dsimp only; omega)] at h2
 refine sound (d := 2) tok2 mixed2 Tryz.func62 (by kernel_rfl) (by kernel_rfl) ?_
 (conv=>whnf); refine .inl ⟨_,_,byX rfl (Sound1.pl (h1) rfl),?_⟩
 (conv=>whnf); refine .inl ⟨_,_,byX rfl (Sound1.pl (h2) rfl),?_⟩
 (conv=>whnf); refine ⟨?_,nofun⟩
 (first | contradiction | rfl)
theorem S47 (q : Q3) (h : sm3 q) : SP 47 [spA (fr3 q)] (vb true) false := by
 have h1 := S62 q.1 h.1
 have h2 := S62 q.2.1 h.2.1
 have h3 := S62 q.2.2 h.2.2
 refine sound (d := 2) tok2 mixed2 Tryz.func47 (by kernel_rfl) (by kernel_rfl) ?_
 (conv=>whnf); refine .inl ⟨_,_,byX rfl (Sound1.pl (h1) rfl),?_⟩
 (conv=>whnf); refine .inl ⟨_,_,byX rfl (Sound1.pl (h2) rfl),?_⟩
 (conv=>whnf); refine .inl ⟨_,_,byX rfl (Sound1.pl (h3) rfl),?_⟩
 (conv=>whnf); refine ⟨?_,nofun⟩
 (first | contradiction | rfl)
theorem divI_fr (q : Rat) : Rat.divInt (frI q).1 (frI q).2 = q := Rat.num_divInt_den q
theorem big_fr (q : Q3) : bigQ (fr3 q) = q := by
 unfold bigQ fr3
 dsimp only
 rw [divI_fr,divI_fr,divI_fr]
theorem S50s (q : Q3) (h : sm3 q) : SP 50 [spA (fr3 q)] (bgA q) false := by
 have hb : ∀ r : Rat,smR r → (-9223372036854775807 ≤ (frI r).1 ∧ (frI r).1 ≤ 9223372036854775807) ∧ 1 ≤ (frI r).2 ∧ (frI r).2 ≤ 9223372036854775807 := fun r hr=>by
  have hp := r.den_pos
  unfold smR at hr
  unfold frI
  dsimp only
  omega
 have c1 := S85 (fr3 q).1 (hb _ h.1).1 (hb _ h.1).2
 have c2 := S85 (fr3 q).2.1 (hb _ h.2.1).1 (hb _ h.2.1).2
 have c3 := S85 (fr3 q).2.2 (hb _ h.2.2).1 (hb _ h.2.2).2
 have e := big_fr q
 rw [← e]
 conv=>arg 2; rw [e]
 unfold bigQ
 refine sound (d := 2) tok2 mixed2 Tryz.func50 (by kernel_rfl) (by kernel_rfl) ?_
 (conv=>whnf); refine ⟨[],by kernel_rfl,?_⟩
 (conv=>whnf); refine .inl ⟨_,_,byX rfl (c1),?_⟩
 (conv=>whnf); refine .inl ⟨_,_,byX rfl (c2),?_⟩
 (conv=>whnf); refine .inl ⟨_,_,byX rfl (c3),?_⟩
 (conv=>whnf); refine ⟨?_,nofun⟩
 exact ave_bgA (q := bigQ (fr3 q))
theorem sm_rk {q : Rat} (h : smR q) : Rk 2 q := by
  unfold smR at h
  exact ⟨digs_len 2 _ (Nat.lt_of_le_of_lt (show _ ≤ 1000000000 by omega) (by decide)),digs_len 2 _ (Nat.lt_of_le_of_lt h.2 (by decide))⟩
theorem sm3_rk {q : Q3} (h : sm3 q) : R3k 2 q := ⟨sm_rk h.1,sm_rk h.2.1,sm_rk h.2.2⟩
theorem S49b (q : Q3) (l : Ln) (hq : R3k 2 q) (hl : LnOk l) : SP 49 [bgA q,lnA l] (rA (sideQ l q)) false := by
 unfold LnOk at hl
 have a1 := S86 l.1 (by omega)
 have a2 := S86 l.2.1 (by omega)
 have a3 := S86 l.2.2.1 (by omega)
 have a4 := S86 l.2.2.2 (by omega)
 have r1 := rk_mil (x := l.1) (by omega)
 have r2 := rk_mil (x := l.2.1) (by omega)
 have r3 := rk_mil (x := l.2.2.1) (by omega)
 have r4 := rk_mil (x := l.2.2.2) (by omega)
 have m1 := S121 q.1 l.1 hq.1 r1 (by omega)
 have m2 := S121 q.2.1 l.2.1 hq.2.1 r2 (by omega)
 have m3 := S121 q.2.2 l.2.2.1 hq.2.2 r3 (by omega)
 have k1 := hq.1.mul r1
 have k2 := hq.2.1.mul r2
 have k3 := hq.2.2.mul r3
 have s1 := S122 _ _ k1 k2 (by omega)
 have s2 := S122 _ _ (k1.add k2) k3 (by omega)
 have s3 := S84 _ _ ((k1.add k2).add k3) r4 (by omega)
 unfold sideQ
 refine sound (d := 2) tok2 mixed2 Tryz.func49 (by kernel_rfl) (by kernel_rfl) ?_
 (conv=>whnf); refine ⟨[],by kernel_rfl,?_⟩
 (conv=>whnf); refine .inl ⟨_,_,byX rfl (a1),?_⟩
 (conv=>whnf); refine .inl ⟨_,_,byX rfl (m1),?_⟩
 (conv=>whnf); refine ⟨[],by kernel_rfl,?_⟩
 (conv=>whnf); refine .inl ⟨_,_,byX rfl (a2),?_⟩
 (conv=>whnf); refine .inl ⟨_,_,byX rfl (m2),?_⟩
 (conv=>whnf); refine .inl ⟨_,_,byX rfl (s1),?_⟩
 (conv=>whnf); refine ⟨[],by kernel_rfl,?_⟩
 (conv=>whnf); refine .inl ⟨_,_,byX rfl (a3),?_⟩
 (conv=>whnf); refine .inl ⟨_,_,byX rfl (m3),?_⟩
 (conv=>whnf); refine .inl ⟨_,_,byX rfl (s2),?_⟩
 (conv=>whnf); refine ⟨[],by kernel_rfl,?_⟩
 (conv=>whnf); refine .inl ⟨_,_,byX rfl (a4),?_⟩
 (conv=>whnf); refine .inl ⟨_,_,byX rfl (s3),?_⟩
 (conv=>whnf); refine ⟨?_,nofun⟩
 (first | contradiction | exact ave_rA)
theorem sm_cmp {p q : Rat} (hp : smR p) (hq : smR q) : SP 63 [i64 (frI p).1,i64 (frI p).2,i64 (frI q).1,i64 (frI q).2] (i64 (cmpR p q)) false := by
 have h1 := p.den_pos
 have h2 := q.den_pos
 unfold smR at hp hq
 exact S63 p.num (p.den : Nat) q.num (q.den : Nat) (by omega) (by omega) (by omega) (by omega)
theorem sm_cmpI {p : Rat} (hp : smR p) {x : Int} (hx : -1000000000 ≤ x ∧ x ≤ 1000000000) : SP 63 [i64 (frI p).1,i64 (frI p).2,i64 x,i64 1] (i64 (cmpR p (x : Rat))) false := by
 have h1 := p.den_pos
 unfold smR at hp
 have h := S63 p.num (p.den : Nat) x 1 (by omega) (by omega) hx (by decide)
 have e : cmpR p (x : Rat) = sgI (p.num * 1 - x * (p.den : Nat)) := by
  unfold cmpR
  rw [Rat.num_intCast,Rat.den_intCast]; rfl
 rw [e]; exact h
theorem S53 (p q : Q3) (hp : sm3 p) (hq : sm3 q) (h : lt3 p q) : SP 53 [spA (fr3 p),spA (fr3 q)] (vb true) false := by
 have c1 := sm_cmp hp.1 hq.1
 have c2 := sm_cmp hp.2.1 hq.2.1
 have c3 := sm_cmp hp.2.2 hq.2.2
 have z1 := cmpR_zero p.1 q.1
 have z2 := cmpR_zero p.2.1 q.2.1
 have n1 := cmpR_neg p.1 q.1
 have n2 := cmpR_neg p.2.1 q.2.1
 have n3 := cmpR_neg p.2.2 q.2.2
 unfold lt3 lt2 at h
 by_cases e1 : cmpR p.1 q.1 = 0
 ·have e1' := z1.1 e1
  by_cases e2 : cmpR p.2.1 q.2.1 = 0
  ·have e2' := z2.1 e2
   have e3 : cmpR p.2.2 q.2.2 < 0 := n3.2 (by
    rcases h with h | ⟨_,h | ⟨_,h⟩⟩
    ·rw [e1'] at h; exact absurd h (rlt_irr _)
    ·rw [e2'] at h; exact absurd h (rlt_irr _)
    ·exact h)
   refine sound (d := 2) tok2 mixed2 Tryz.func53 (by kernel_rfl) (by kernel_rfl) ?_
   (conv=>whnf); refine .inl ⟨_,_,byX rfl (Sound1.pl (c1) rfl),?_⟩
   (conv=>whnf); refine ifB_bne (fun w1=>?_) (fun w1=>?_)
   ·(exfalso; omega)
   ·(conv=>whnf); refine .inl ⟨_,_,byX rfl (Sound1.pl (c2) rfl),?_⟩
    (conv=>whnf); refine ifB_bne (fun w2=>?_) (fun w2=>?_)
    ·(exfalso; omega)
    ·(conv=>whnf); refine .inl ⟨_,_,byX rfl (Sound1.pl (c3) rfl),?_⟩
     (conv=>whnf); refine ⟨?_,nofun⟩
     (first | contradiction | exact congrArg vb (decide_eq_true e3) | omega)
  ·have e3 : cmpR p.2.1 q.2.1 < 0 := n2.2 (by
    rcases h with h | ⟨_,h | ⟨g,_⟩⟩
    ·rw [e1'] at h; exact absurd h (rlt_irr _)
    ·exact h
    ·exact absurd (z2.2 g) e2)
   refine sound (d := 2) tok2 mixed2 Tryz.func53 (by kernel_rfl) (by kernel_rfl) ?_
   (conv=>whnf); refine .inl ⟨_,_,byX rfl (Sound1.pl (c1) rfl),?_⟩
   (conv=>whnf); refine ifB_bne (fun w1=>?_) (fun w1=>?_)
   ·(exfalso; omega)
   ·(conv=>whnf); refine .inl ⟨_,_,byX rfl (Sound1.pl (c2) rfl),?_⟩
    (conv=>whnf); refine ifB_bne (fun w2=>?_) (fun w2=>?_)
    ·(conv=>whnf); refine ⟨?_,nofun⟩
     (first | contradiction | exact congrArg vb (decide_eq_true e3) | omega)
    ·(exfalso; omega)
 ·have e3 : cmpR p.1 q.1 < 0 := n1.2 (by
   rcases h with h | ⟨g,_⟩
   ·exact h
   ·exact absurd (z1.2 g) e1)
  refine sound (d := 2) tok2 mixed2 Tryz.func53 (by kernel_rfl) (by kernel_rfl) ?_
  (conv=>whnf); refine .inl ⟨_,_,byX rfl (Sound1.pl (c1) rfl),?_⟩
  (conv=>whnf); refine ifB_bne (fun w1=>?_) (fun w1=>?_)
  ·(conv=>whnf); refine ⟨?_,nofun⟩
   (first | contradiction | exact congrArg vb (decide_eq_true e3) | omega)
  ·(exfalso; omega)
def subQ (a b : Q3) : Q3 := (a.1 - b.1,a.2.1 - b.2.1,a.2.2 - b.2.2)
theorem R3k.sub {k l : Nat} {a b : Q3} (ha : R3k k a) (hb : R3k l b) : R3k (k + l + 1) (subQ a b) := ⟨ha.1.sub hb.1,ha.2.1.sub hb.2.1,ha.2.2.sub hb.2.2⟩
theorem S123 {k l : Nat} (a b : Q3) (ha : R3k k a) (hb : R3k l b) (h : k + l < 100) : SP 123 [bgA a,bgA b] (bgA (subQ a b)) false := by
 have c1 := S84 a.1 b.1 ha.1 hb.1 h
 have c2 := S84 a.2.1 b.2.1 ha.2.1 hb.2.1 h
 have c3 := S84 a.2.2 b.2.2 ha.2.2 hb.2.2 h
 unfold subQ
 refine sound (d := 2) tok2 mixed2 Tryz.func123 (by kernel_rfl) (by kernel_rfl) ?_
 (conv=>whnf); refine ⟨[],by kernel_rfl,?_⟩
 (conv=>whnf); refine .inl ⟨_,_,byX rfl (c1),?_⟩
 (conv=>whnf); refine .inl ⟨_,_,byX rfl (c2),?_⟩
 (conv=>whnf); refine .inl ⟨_,_,byX rfl (c3),?_⟩
 (conv=>whnf); refine ⟨?_,nofun⟩
 (first | contradiction | exact ave_bgA (q := (a.1 - b.1,a.2.1 - b.2.1,a.2.2 - b.2.2)))
theorem S124 {k : Nat} (x y : Rat) (v : Q3) (hx : Rk k x) (hy : Rk k y) (hv : R3k k v) (h : k ≤ 20) : SP 124 [rA x,rA y,bgA v] (i64 (cmpR (x * v.2.1) (y * v.1))) false := by
 have c1 := S121 x v.2.1 hx hv.2.1 (by omega)
 have c2 := S121 y v.1 hy hv.1 (by omega)
 have c3 := S109 _ _ (hx.mul hv.2.1) (hy.mul hv.1) (by omega)
 refine sound (d := 2) tok2 mixed2 Tryz.func124 (by kernel_rfl) (by kernel_rfl) ?_
 (conv=>whnf); refine ⟨[],by kernel_rfl,?_⟩
 (conv=>whnf); refine .inl ⟨_,_,byX rfl (c1),?_⟩
 (conv=>whnf); refine .inl ⟨_,_,byX rfl (c2),?_⟩
 (conv=>whnf); refine .inl ⟨_,_,byX rfl (Sound1.pl (c3) rfl),?_⟩
 (conv=>whnf); refine ⟨?_,nofun⟩
 (first | contradiction | rfl)
def evB (u v : Q3) : Bool := decide (cmpR (u.1 * v.2.2) (v.1 * u.2.2) = 0) && decide (cmpR (u.2.1 * v.2.2) (v.2.1 * u.2.2) = 0)
theorem S125 {k : Nat} (u v : Q3) (hu : R3k k u) (hv : R3k k v) (h : k ≤ 20) : SP 125 [bgA u,bgA v] (vb (evB u v)) false := by
 have c1 := S121 u.1 v.2.2 hu.1 hv.2.2 (by omega)
 have c2 := S121 v.1 u.2.2 hv.1 hu.2.2 (by omega)
 have c3 := S109 _ _ (hu.1.mul hv.2.2) (hv.1.mul hu.2.2) (by omega)
 have d1 := S121 u.2.1 v.2.2 hu.2.1 hv.2.2 (by omega)
 have d2 := S121 v.2.1 u.2.2 hv.2.1 hu.2.2 (by omega)
 have d3 := S109 _ _ (hu.2.1.mul hv.2.2) (hv.2.1.mul hu.2.2) (by omega)
 unfold evB
 by_cases e1 : cmpR (u.1 * v.2.2) (v.1 * u.2.2) = 0
 ·rw [decide_eq_true e1,Bool.true_and]
  refine sound (d := 2) tok2 mixed2 Tryz.func125 (by kernel_rfl) (by kernel_rfl) ?_
  (conv=>whnf); refine ⟨[],by kernel_rfl,?_⟩
  (conv=>whnf); refine .inl ⟨_,_,byX rfl (c1),?_⟩
  (conv=>whnf); refine .inl ⟨_,_,byX rfl (c2),?_⟩
  (conv=>whnf); refine .inl ⟨_,_,byX rfl (Sound1.pl (c3) rfl),?_⟩
  (conv=>whnf); refine ifB_beq (fun w1=>?_) (fun w1=>?_)
  ·(conv=>whnf); refine .inl ⟨_,_,byX rfl (d1),?_⟩
   (conv=>whnf); refine .inl ⟨_,_,byX rfl (d2),?_⟩
   (conv=>whnf); refine .inl ⟨_,_,byX rfl (Sound1.pl (d3) rfl),?_⟩
   (conv=>whnf); refine ⟨?_,nofun⟩
   (first | contradiction | rfl | omega)
  ·(exfalso; omega)
 ·rw [decide_eq_false e1,Bool.false_and]
  refine sound (d := 2) tok2 mixed2 Tryz.func125 (by kernel_rfl) (by kernel_rfl) ?_
  (conv=>whnf); refine ⟨[],by kernel_rfl,?_⟩
  (conv=>whnf); refine .inl ⟨_,_,byX rfl (c1),?_⟩
  (conv=>whnf); refine .inl ⟨_,_,byX rfl (c2),?_⟩
  (conv=>whnf); refine .inl ⟨_,_,byX rfl (Sound1.pl (c3) rfl),?_⟩
  (conv=>whnf); refine ifB_beq (fun w1=>?_) (fun w1=>?_)
  ·(exfalso; omega)
  ·(conv=>whnf); refine ⟨?_,nofun⟩
   (first | contradiction | rfl | omega)
end Go.Tr

/- Contracts of chapter 5: within bounds; on a curve. Conditions: none. -/
-- seat YtgbdlkajmmjahaaGreat
namespace Go.Tr
open Go Go.Proofs
set_option maxRecDepth 20000
set_option maxHeartbeats 8000000

def bdI (b : B3) : Prop := ∀ x ∈ [b.1.1,b.1.2,b.2.1.1,b.2.1.2,b.2.2.1,b.2.2.2],-1000000000 ≤ x ∧ x ≤ 1000000000
theorem cmp_ge {p q : Rat} (h : q ≤ p) : ¬ cmpR p q < 0 := fun g=>Rat.not_lt.2 h ((cmpR_neg p q).1 g)
theorem cmp_le {p q : Rat} (h : p ≤ q) : ¬ cmpR p q > 0 := fun g=>Rat.not_lt.2 h ((cmpR_pos p q).1 g)
theorem S51 (q : Q3) (b : B3) (hq : sm3 q) (hb : bdI b) (h : BdQ b q) : SP 51 [spA (fr3 q),bnA b] (vb true) false := by
 have c1 := sm_cmpI hq.1 (hb b.1.1 (by simp))
 have c2 := sm_cmpI hq.1 (hb b.1.2 (by simp))
 have c3 := sm_cmpI hq.2.1 (hb b.2.1.1 (by simp))
 have c4 := sm_cmpI hq.2.1 (hb b.2.1.2 (by simp))
 have c5 := sm_cmpI hq.2.2 (hb b.2.2.1 (by simp))
 have c6 := sm_cmpI hq.2.2 (hb b.2.2.2 (by simp))
 have d1 := cmp_ge h.1.1.1
 have d2 := cmp_le h.1.1.2
 have d3 := cmp_ge h.1.2.1
 have d4 := cmp_le h.1.2.2
 have d5 := cmp_ge h.2.1
 have d6 := cmp_le h.2.2
 refine sound (d := 2) tok2 mixed2 Tryz.func51 (by kernel_rfl) (by kernel_rfl) ?_
 (conv=>whnf); refine ⟨[],[6,5,3],fun st mq=>∃ (k : Nat) (F0 : Nat → List AV),(k ≤ 3) ∧ st = ⟨[(6,i64 k),(5,.oslice 2 0 0 3 (some 3)),(3,.optr 1 0 0 0)],⟨[⟨6,1,F0,0,false,true,false⟩,⟨6,1,fun _=>bnC b,0,false,true,true⟩,⟨2,3,fun j=>((spC (fr3 q)).drop (j * 2)).take 2,0,false,true,false⟩],[],none,0⟩,[]⟩ ∧ mq = 3 - k,
  ⟨_,_,⟨0,_,by omega,rfl,rfl⟩,⟨⟨.inl rfl,rfl,rfl,rfl⟩,⟨⟨rfl,rfl,rfl,rfl,fun _=>rfl,fun _ _=>.inl rfl⟩,⟨⟨rfl,rfl,rfl,rfl,fun _=>rfl,fun _ _=>.inl rfl⟩,⟨⟨rfl,rfl,rfl,rfl,fun _=>rfl,fun _ _=>.inl rfl⟩,trivial⟩⟩⟩,trivial⟩⟩,?_⟩
 rintro s0 m0 ⟨k,F0,hk,rfl,hmeas⟩
 rcases (show k = 0 ∨ k = 1 ∨ k = 2 ∨ k = 3 by omega) with e | e | e | e
 ·subst e
  conv=>whnf
  (conv=>whnf); refine ⟨[],by kernel_rfl,?_⟩
  conv=>whnf
  (conv=>whnf); refine ⟨⟨(by omega),(by omega)⟩,?_⟩
  conv=>whnf
  (conv=>whnf); refine ⟨⟨(by omega),(by omega)⟩,?_⟩
  conv=>whnf
  (conv=>whnf); refine ⟨⟨(by omega),(by omega)⟩,?_⟩
  conv=>whnf
  (conv=>whnf); refine .inl ⟨_,_,byX rfl (Sound1.pl (c1) rfl),?_⟩
  conv=>whnf
  (conv=>whnf); refine ifB_dec (fun w1=>?_) (fun w1=>?_)
  ·(exfalso; omega)
  ·conv=>whnf
   (conv=>whnf); refine ⟨⟨(by omega),(by omega)⟩,?_⟩
   conv=>whnf
   (conv=>whnf); refine ⟨⟨(by omega),(by omega)⟩,?_⟩
   conv=>whnf
   (conv=>whnf); refine ⟨⟨(by omega),(by omega)⟩,?_⟩
   conv=>whnf
   (conv=>whnf); refine .inl ⟨_,_,byX rfl (Sound1.pl (c2) rfl),?_⟩
   conv=>whnf
   (conv=>whnf); refine ifB_dec (fun w2=>?_) (fun w2=>?_)
   ·(exfalso; omega)
   ·conv=>whnf
    (conv=>whnf); refine ⟨inK64 (by omega) (by omega),?_⟩
    conv=>whnf
    (conv=>whnf); refine ⟨_,_,⟨⟨1,_,by omega,rfl,rfl⟩,by omega⟩,⟨⟨.inl rfl,rfl,rfl,rfl⟩,⟨⟨rfl,rfl,rfl,rfl,fun _=>rfl,fun _ _=>.inl rfl⟩,⟨⟨rfl,rfl,rfl,rfl,fun _=>rfl,fun _ _=>.inl rfl⟩,⟨⟨rfl,rfl,rfl,rfl,fun _=>rfl,fun _ _=>.inl rfl⟩,trivial⟩⟩⟩,trivial⟩⟩
 ·subst e
  conv=>whnf
  (conv=>whnf); refine ⟨[],by kernel_rfl,?_⟩
  conv=>whnf
  (conv=>whnf); refine ⟨⟨(by omega),(by omega)⟩,?_⟩
  conv=>whnf
  (conv=>whnf); refine ⟨⟨(by omega),(by omega)⟩,?_⟩
  conv=>whnf
  (conv=>whnf); refine ⟨⟨(by omega),(by omega)⟩,?_⟩
  conv=>whnf
  (conv=>whnf); refine .inl ⟨_,_,byX rfl (Sound1.pl (c3) rfl),?_⟩
  conv=>whnf
  (conv=>whnf); refine ifB_dec (fun w1=>?_) (fun w1=>?_)
  ·(exfalso; omega)
  ·conv=>whnf
   (conv=>whnf); refine ⟨⟨(by omega),(by omega)⟩,?_⟩
   conv=>whnf
   (conv=>whnf); refine ⟨⟨(by omega),(by omega)⟩,?_⟩
   conv=>whnf
   (conv=>whnf); refine ⟨⟨(by omega),(by omega)⟩,?_⟩
   conv=>whnf
   (conv=>whnf); refine .inl ⟨_,_,byX rfl (Sound1.pl (c4) rfl),?_⟩
   conv=>whnf
   (conv=>whnf); refine ifB_dec (fun w2=>?_) (fun w2=>?_)
   ·(exfalso; omega)
   ·conv=>whnf
    (conv=>whnf); refine ⟨inK64 (by omega) (by omega),?_⟩
    conv=>whnf
    (conv=>whnf); refine ⟨_,_,⟨⟨2,_,by omega,rfl,rfl⟩,by omega⟩,⟨⟨.inl rfl,rfl,rfl,rfl⟩,⟨⟨rfl,rfl,rfl,rfl,fun _=>rfl,fun _ _=>.inl rfl⟩,⟨⟨rfl,rfl,rfl,rfl,fun _=>rfl,fun _ _=>.inl rfl⟩,⟨⟨rfl,rfl,rfl,rfl,fun _=>rfl,fun _ _=>.inl rfl⟩,trivial⟩⟩⟩,trivial⟩⟩
 ·subst e
  conv=>whnf
  (conv=>whnf); refine ⟨[],by kernel_rfl,?_⟩
  conv=>whnf
  (conv=>whnf); refine ⟨⟨(by omega),(by omega)⟩,?_⟩
  conv=>whnf
  (conv=>whnf); refine ⟨⟨(by omega),(by omega)⟩,?_⟩
  conv=>whnf
  (conv=>whnf); refine ⟨⟨(by omega),(by omega)⟩,?_⟩
  conv=>whnf
  (conv=>whnf); refine .inl ⟨_,_,byX rfl (Sound1.pl (c5) rfl),?_⟩
  conv=>whnf
  (conv=>whnf); refine ifB_dec (fun w1=>?_) (fun w1=>?_)
  ·(exfalso; omega)
  ·conv=>whnf
   (conv=>whnf); refine ⟨⟨(by omega),(by omega)⟩,?_⟩
   conv=>whnf
   (conv=>whnf); refine ⟨⟨(by omega),(by omega)⟩,?_⟩
   conv=>whnf
   (conv=>whnf); refine ⟨⟨(by omega),(by omega)⟩,?_⟩
   conv=>whnf
   (conv=>whnf); refine .inl ⟨_,_,byX rfl (Sound1.pl (c6) rfl),?_⟩
   conv=>whnf
   (conv=>whnf); refine ifB_dec (fun w2=>?_) (fun w2=>?_)
   ·(exfalso; omega)
   ·conv=>whnf
    (conv=>whnf); refine ⟨inK64 (by omega) (by omega),?_⟩
    conv=>whnf
    (conv=>whnf); refine ⟨_,_,⟨⟨3,_,by omega,rfl,rfl⟩,by omega⟩,⟨⟨.inl rfl,rfl,rfl,rfl⟩,⟨⟨rfl,rfl,rfl,rfl,fun _=>rfl,fun _ _=>.inl rfl⟩,⟨⟨rfl,rfl,rfl,rfl,fun _=>rfl,fun _ _=>.inl rfl⟩,⟨⟨rfl,rfl,rfl,rfl,fun _=>rfl,fun _ _=>.inl rfl⟩,trivial⟩⟩⟩,trivial⟩⟩
 ·subst e
  conv=>whnf
  (conv=>whnf); refine ⟨?_,nofun⟩
  (first | contradiction | rfl | omega)
theorem vEqS (p q : Q3) : vEqL [.int .i64 (fr3 p).1.1,.int .i64 (fr3 p).1.2,.int .i64 (fr3 p).2.1.1,.int .i64 (fr3 p).2.1.2,.int .i64 (fr3 p).2.2.1,.int .i64 (fr3 p).2.2.2]
  [.int .i64 (fr3 q).1.1,.int .i64 (fr3 q).1.2,.int .i64 (fr3 q).2.1.1,.int .i64 (fr3 q).2.1.2,.int .i64 (fr3 q).2.2.1,.int .i64 (fr3 q).2.2.2] = decide (p = q) := by
 by_cases h : p = q
 ·subst h
  rw [decide_eq_true rfl]; exact vEq6 _ _ _ _ _ _
 ·rw [decide_eq_false h,Bool.eq_false_iff]
  intro g
  refine h (fr3_inj ?_)
  simp only [vEqL,Bool.and_eq_true,beq_iff_eq,Bool.and_true] at g
  exact Prod.ext (Prod.ext g.1 g.2.1) (Prod.ext (Prod.ext g.2.2.1 g.2.2.2.1) (Prod.ext g.2.2.2.2.1 g.2.2.2.2.2))
set_option maxHeartbeats 8000000 in
theorem S52 (L : List Q3) (q : Q3) (hl : L.length ≤ 1000000) (hL : ∀ k, k < L.length → sm3 (L.getD k q0)) (hq : sm3 q) (j0 : Nat) (hj0 : j0 < L.length) (hw : q = L.getD j0 q0 ∨ (0 < j0 ∧ PcOn (L.getD (j0 - 1) q0) (L.getD j0 q0) q)) :
  SP 52 [sps L,spA (fr3 q)] (vb true) false := by
 have c50 := S50s q hq
 have rq := sm3_rk hq
 refine sound (d := 2) tok2 mixed2 Tryz.func52 (by kernel_rfl) (by kernel_rfl) ?_
 (conv=>whnf); refine .inl ⟨_,_,byX rfl (c50),?_⟩
 (conv=>whnf); refine ⟨[],[6,5,3,0],fun st mq=>∃ (i : Nat),(i ≤ j0) ∧ st = ⟨[(6,i64 i),(5,.optr 1 0 0 0),(3,.optr 0 0 0 0),(0,sps L)],⟨[⟨6,1,fun _=>spC (fr3 q),0,false,true,true⟩,⟨12,1,fun _=>bgC q,0,false,true,true⟩],[],none,0⟩,[]⟩ ∧ mq = L.length - i,
  ⟨_,_,⟨0,by omega,rfl,rfl⟩,⟨⟨.inl rfl,rfl,rfl,rfl⟩,⟨⟨rfl,rfl,rfl,rfl,fun _=>rfl,fun _ _=>.inl rfl⟩,⟨⟨rfl,rfl,rfl,rfl,fun _=>rfl,fun _ _=>.inl rfl⟩,trivial⟩⟩,trivial⟩⟩,?_⟩
 rintro s0 m0 ⟨i,hi,rfl,hmeas⟩
 have hv := vEqS (L.getD (i : Int).toNat q0) q
 by_cases e : L.getD i q0 = q
 ·rw [decide_eq_true (show L.getD (i : Int).toNat q0 = q from e)] at hv
  conv=>whnf
  (conv=>whnf); refine ifB_dec (fun w1=>?_) (fun w1=>?_)
  ·conv=>whnf
   (conv=>whnf); refine ⟨[],by kernel_rfl,?_⟩
   conv=>whnf
   (conv=>whnf); refine ⟨⟨(by omega),(by omega)⟩,?_⟩
   conv=>whnf
   (conv=>whnf); refine ifB_intro (fun w2=>?_) (fun w2=>?_)
   ·conv=>whnf
    (conv=>whnf); refine ⟨?_,nofun⟩
    (first | contradiction | rfl | omega)
   ·exact absurd (hv.symm.trans w2) nofun
  ·(exfalso; omega)
 ·rw [decide_eq_false (show ¬ L.getD (i : Int).toNat q0 = q from e)] at hv
  by_cases h0 : i = 0
  ·have : i < j0 := by
    rcases hw with g | g
    ·exact Nat.lt_of_le_of_ne hi fun x=>e (by rw [x,g])
    ·omega
   conv=>whnf
   (conv=>whnf); refine ifB_dec (fun w1=>?_) (fun w1=>?_)
   ·conv=>whnf
    (conv=>whnf); refine ⟨[],by kernel_rfl,?_⟩
    conv=>whnf
    (conv=>whnf); refine ⟨⟨(by omega),(by omega)⟩,?_⟩
    conv=>whnf
    (conv=>whnf); refine ifB_intro (fun w2=>?_) (fun w2=>?_)
    ·exact absurd (hv.symm.trans w2) nofun
    ·conv=>whnf
     (conv=>whnf); refine ifB_beq (fun w3=>?_) (fun w3=>?_)
     ·conv=>whnf
      (conv=>whnf); refine ⟨inK64 (by omega) (by omega),?_⟩
      conv=>whnf
      (conv=>whnf); refine ⟨_,_,⟨⟨i + 1,by omega,rfl,rfl⟩,by omega⟩,⟨⟨.inl rfl,rfl,rfl,rfl⟩,⟨⟨rfl,rfl,rfl,rfl,fun _=>rfl,fun _ _=>.inl rfl⟩,⟨⟨rfl,rfl,rfl,rfl,fun _=>rfl,fun _ _=>.inl rfl⟩,trivial⟩⟩,trivial⟩⟩
     ·(exfalso; omega)
   ·(exfalso; omega)
  ·have ej : ((i : Int) - 1).toNat = i - 1 := by omega
   have ra := hL ((i : Int) - 1).toNat (by omega)
   have rb := hL i (by omega)
   have hok : i = j0 → PcOn (L.getD ((i : Int) - 1).toNat q0) (L.getD i q0) q := fun x=>by
    rcases hw with g | g
    ·exact absurd (by rw [x,g]) e
    ·rw [ej,x]; exact g.2
   have c50a := S50s _ ra
   have c50b := S50s _ rb
   have ru := rq.sub (sm3_rk ra)
   have rv := (sm3_rk rb).sub rq
   have c123a := S123 q (L.getD ((i : Int) - 1).toNat q0) rq (sm3_rk ra) (by omega)
   have c123b := S123 (L.getD i q0) q (sm3_rk rb) rq (by omega)
   have hpc : i = j0 → cmpR ((subQ q (L.getD ((i : Int) - 1).toNat q0)).1 * (subQ (L.getD i q0) q).2.1) ((subQ q (L.getD ((i : Int) - 1).toNat q0)).2.1 * (subQ (L.getD i q0) q).1) = 0 ∧
     sgR ((subQ q (L.getD ((i : Int) - 1).toNat q0)).1 * (subQ (L.getD i q0) q).1 + (subQ q (L.getD ((i : Int) - 1).toNat q0)).2.1 * (subQ (L.getD i q0) q).2.1) > 0 ∧
     evB (subQ q (L.getD ((i : Int) - 1).toNat q0)) (subQ (L.getD i q0) q) = true := fun x=>by
    obtain ⟨p1,p2,p3,p4⟩ := hok x
    refine ⟨(cmpR_zero _ _).2 p1,?_,?_⟩
    ·rcases sgR_cases ((subQ q (L.getD ((i : Int) - 1).toNat q0)).1 * (subQ (L.getD i q0) q).1 + (subQ q (L.getD ((i : Int) - 1).toNat q0)).2.1 * (subQ (L.getD i q0) q).2.1) with ⟨a,b⟩ | ⟨a,b⟩ | ⟨a,b⟩
     ·exact absurd (rlt_tr a p2) (rlt_irr _)
     ·exact absurd (a ▸ p2) (rlt_irr _)
     ·rw [b]; decide
    ·unfold evB
     rw [Bool.and_eq_true]
     exact ⟨decide_eq_true ((cmpR_zero _ _).2 p3),decide_eq_true ((cmpR_zero _ _).2 p4)⟩
   generalize subQ q (L.getD ((i : Int) - 1).toNat q0) = u at *
   generalize subQ (L.getD i q0) q = v at *
   have c124 := S124 u.1 u.2.1 v ru.1 ru.2.1 rv (by omega)
   have m1 := S121 u.1 v.1 ru.1 rv.1 (by omega)
   have m2 := S121 u.2.1 v.2.1 ru.2.1 rv.2.1 (by omega)
   have m3 := S122 _ _ (ru.1.mul rv.1) (ru.2.1.mul rv.2.1) (by omega)
   have c48 := S48 (u.1 * v.1 + u.2.1 * v.2.1)
   have c125 := S125 u v ru rv (by omega)
   by_cases x : i = j0
   ·obtain ⟨k1,k2,k3⟩ := hpc x
    rw [k3] at c125
    conv=>whnf
    (conv=>whnf); refine ifB_dec (fun w1=>?_) (fun w1=>?_)
    ·conv=>whnf
     (conv=>whnf); refine ⟨[],by kernel_rfl,?_⟩
     conv=>whnf
     (conv=>whnf); refine ⟨⟨(by omega),(by omega)⟩,?_⟩
     conv=>whnf
     (conv=>whnf); refine ifB_intro (fun w2=>?_) (fun w2=>?_)
     ·exact absurd (hv.symm.trans w2) nofun
     ·conv=>whnf
      (conv=>whnf); refine ifB_beq (fun w3=>?_) (fun w3=>?_)
      ·(exfalso; omega)
      ·conv=>whnf
       (conv=>whnf); refine ⟨[],by kernel_rfl,?_⟩
       conv=>whnf
       (conv=>whnf); refine ⟨inK64 (by omega) (by omega),?_⟩
       conv=>whnf
       (conv=>whnf); refine ⟨⟨(by omega),(by omega)⟩,?_⟩
       conv=>whnf
       (conv=>whnf); refine .inl ⟨_,_,byX rfl (c50a),?_⟩
       conv=>whnf
       (conv=>whnf); refine ⟨⟨(by omega),(by omega)⟩,?_⟩
       conv=>whnf
       (conv=>whnf); refine .inl ⟨_,_,byX rfl (c50b),?_⟩
       conv=>whnf
       (conv=>whnf); refine ⟨[],by kernel_rfl,?_⟩
       conv=>whnf
       (conv=>whnf); refine .inl ⟨_,_,byX rfl (c123a),?_⟩
       conv=>whnf
       (conv=>whnf); refine .inl ⟨_,_,byX rfl (c123b),?_⟩
       conv=>whnf
       (conv=>whnf); refine ⟨[],by kernel_rfl,?_⟩
       conv=>whnf
       (conv=>whnf); refine .inl ⟨_,_,byX rfl (Sound1.pl (c124) rfl),?_⟩
       conv=>whnf
       (conv=>whnf); refine ifB_beq (fun w4=>?_) (fun w4=>?_)
       ·conv=>whnf
        (conv=>whnf); refine .inl ⟨_,_,byX rfl (m1),?_⟩
        conv=>whnf
        (conv=>whnf); refine .inl ⟨_,_,byX rfl (m2),?_⟩
        conv=>whnf
        (conv=>whnf); refine .inl ⟨_,_,byX rfl (m3),?_⟩
        conv=>whnf
        (conv=>whnf); refine .inl ⟨_,_,byX rfl (Sound1.pl (c48) rfl),?_⟩
        conv=>whnf
        (conv=>whnf); refine ifB_dec (fun w5=>?_) (fun w5=>?_)
        ·conv=>whnf
         (conv=>whnf); refine .inl ⟨_,_,byX rfl (Sound1.pl (c125) rfl),?_⟩
         conv=>whnf
         (conv=>whnf); refine ⟨?_,nofun⟩
         (first | contradiction | rfl | omega)
        ·(exfalso; omega)
       ·(exfalso; omega)
    ·(exfalso; omega)
   ·cases k3 : evB u v
    ·rw [k3] at c125
     conv=>whnf
     (conv=>whnf); refine ifB_dec (fun w1=>?_) (fun w1=>?_)
     ·conv=>whnf
      (conv=>whnf); refine ⟨[],by kernel_rfl,?_⟩
      conv=>whnf
      (conv=>whnf); refine ⟨⟨(by omega),(by omega)⟩,?_⟩
      conv=>whnf
      (conv=>whnf); refine ifB_intro (fun w2=>?_) (fun w2=>?_)
      ·exact absurd (hv.symm.trans w2) nofun
      ·conv=>whnf
       (conv=>whnf); refine ifB_beq (fun w3=>?_) (fun w3=>?_)
       ·(exfalso; omega)
       ·conv=>whnf
        (conv=>whnf); refine ⟨[],by kernel_rfl,?_⟩
        conv=>whnf
        (conv=>whnf); refine ⟨inK64 (by omega) (by omega),?_⟩
        conv=>whnf
        (conv=>whnf); refine ⟨⟨(by omega),(by omega)⟩,?_⟩
        conv=>whnf
        (conv=>whnf); refine .inl ⟨_,_,byX rfl (c50a),?_⟩
        conv=>whnf
        (conv=>whnf); refine ⟨⟨(by omega),(by omega)⟩,?_⟩
        conv=>whnf
        (conv=>whnf); refine .inl ⟨_,_,byX rfl (c50b),?_⟩
        conv=>whnf
        (conv=>whnf); refine ⟨[],by kernel_rfl,?_⟩
        conv=>whnf
        (conv=>whnf); refine .inl ⟨_,_,byX rfl (c123a),?_⟩
        conv=>whnf
        (conv=>whnf); refine .inl ⟨_,_,byX rfl (c123b),?_⟩
        conv=>whnf
        (conv=>whnf); refine ⟨[],by kernel_rfl,?_⟩
        conv=>whnf
        (conv=>whnf); refine .inl ⟨_,_,byX rfl (Sound1.pl (c124) rfl),?_⟩
        conv=>whnf
        (conv=>whnf); refine ifB_beq (fun w4=>?_) (fun w4=>?_)
        ·conv=>whnf
         (conv=>whnf); refine .inl ⟨_,_,byX rfl (m1),?_⟩
         conv=>whnf
         (conv=>whnf); refine .inl ⟨_,_,byX rfl (m2),?_⟩
         conv=>whnf
         (conv=>whnf); refine .inl ⟨_,_,byX rfl (m3),?_⟩
         conv=>whnf
         (conv=>whnf); refine .inl ⟨_,_,byX rfl (Sound1.pl (c48) rfl),?_⟩
         conv=>whnf
         (conv=>whnf); refine ifB_dec (fun w5=>?_) (fun w5=>?_)
         ·conv=>whnf
          (conv=>whnf); refine .inl ⟨_,_,byX rfl (Sound1.pl (c125) rfl),?_⟩
          conv=>whnf
          (conv=>whnf); refine ⟨inK64 (by omega) (by omega),?_⟩
          conv=>whnf
          (conv=>whnf); refine ⟨_,_,⟨⟨i + 1,by omega,rfl,rfl⟩,by omega⟩,⟨⟨.inl rfl,rfl,rfl,rfl⟩,⟨⟨rfl,rfl,rfl,rfl,fun _=>rfl,fun _ _=>.inl rfl⟩,⟨⟨rfl,rfl,rfl,rfl,fun _=>rfl,fun _ _=>.inl rfl⟩,trivial⟩⟩,trivial⟩⟩
         ·conv=>whnf
          (conv=>whnf); refine ⟨inK64 (by omega) (by omega),?_⟩
          conv=>whnf
          (conv=>whnf); refine ⟨_,_,⟨⟨i + 1,by omega,rfl,rfl⟩,by omega⟩,⟨⟨.inl rfl,rfl,rfl,rfl⟩,⟨⟨rfl,rfl,rfl,rfl,fun _=>rfl,fun _ _=>.inl rfl⟩,⟨⟨rfl,rfl,rfl,rfl,fun _=>rfl,fun _ _=>.inl rfl⟩,trivial⟩⟩,trivial⟩⟩
        ·conv=>whnf
         (conv=>whnf); refine ⟨inK64 (by omega) (by omega),?_⟩
         conv=>whnf
         (conv=>whnf); refine ⟨_,_,⟨⟨i + 1,by omega,rfl,rfl⟩,by omega⟩,⟨⟨.inl rfl,rfl,rfl,rfl⟩,⟨⟨rfl,rfl,rfl,rfl,fun _=>rfl,fun _ _=>.inl rfl⟩,⟨⟨rfl,rfl,rfl,rfl,fun _=>rfl,fun _ _=>.inl rfl⟩,trivial⟩⟩,trivial⟩⟩
     ·(exfalso; omega)
    ·rw [k3] at c125
     conv=>whnf
     (conv=>whnf); refine ifB_dec (fun w1=>?_) (fun w1=>?_)
     ·conv=>whnf
      (conv=>whnf); refine ⟨[],by kernel_rfl,?_⟩
      conv=>whnf
      (conv=>whnf); refine ⟨⟨(by omega),(by omega)⟩,?_⟩
      conv=>whnf
      (conv=>whnf); refine ifB_intro (fun w2=>?_) (fun w2=>?_)
      ·exact absurd (hv.symm.trans w2) nofun
      ·conv=>whnf
       (conv=>whnf); refine ifB_beq (fun w3=>?_) (fun w3=>?_)
       ·(exfalso; omega)
       ·conv=>whnf
        (conv=>whnf); refine ⟨[],by kernel_rfl,?_⟩
        conv=>whnf
        (conv=>whnf); refine ⟨inK64 (by omega) (by omega),?_⟩
        conv=>whnf
        (conv=>whnf); refine ⟨⟨(by omega),(by omega)⟩,?_⟩
        conv=>whnf
        (conv=>whnf); refine .inl ⟨_,_,byX rfl (c50a),?_⟩
        conv=>whnf
        (conv=>whnf); refine ⟨⟨(by omega),(by omega)⟩,?_⟩
        conv=>whnf
        (conv=>whnf); refine .inl ⟨_,_,byX rfl (c50b),?_⟩
        conv=>whnf
        (conv=>whnf); refine ⟨[],by kernel_rfl,?_⟩
        conv=>whnf
        (conv=>whnf); refine .inl ⟨_,_,byX rfl (c123a),?_⟩
        conv=>whnf
        (conv=>whnf); refine .inl ⟨_,_,byX rfl (c123b),?_⟩
        conv=>whnf
        (conv=>whnf); refine ⟨[],by kernel_rfl,?_⟩
        conv=>whnf
        (conv=>whnf); refine .inl ⟨_,_,byX rfl (Sound1.pl (c124) rfl),?_⟩
        conv=>whnf
        (conv=>whnf); refine ifB_beq (fun w4=>?_) (fun w4=>?_)
        ·conv=>whnf
         (conv=>whnf); refine .inl ⟨_,_,byX rfl (m1),?_⟩
         conv=>whnf
         (conv=>whnf); refine .inl ⟨_,_,byX rfl (m2),?_⟩
         conv=>whnf
         (conv=>whnf); refine .inl ⟨_,_,byX rfl (m3),?_⟩
         conv=>whnf
         (conv=>whnf); refine .inl ⟨_,_,byX rfl (Sound1.pl (c48) rfl),?_⟩
         conv=>whnf
         (conv=>whnf); refine ifB_dec (fun w5=>?_) (fun w5=>?_)
         ·conv=>whnf
          (conv=>whnf); refine .inl ⟨_,_,byX rfl (Sound1.pl (c125) rfl),?_⟩
          conv=>whnf
          (conv=>whnf); refine ⟨?_,nofun⟩
          (first | contradiction | rfl | omega)
         ·conv=>whnf
          (conv=>whnf); refine ⟨inK64 (by omega) (by omega),?_⟩
          conv=>whnf
          (conv=>whnf); refine ⟨_,_,⟨⟨i + 1,by omega,rfl,rfl⟩,by omega⟩,⟨⟨.inl rfl,rfl,rfl,rfl⟩,⟨⟨rfl,rfl,rfl,rfl,fun _=>rfl,fun _ _=>.inl rfl⟩,⟨⟨rfl,rfl,rfl,rfl,fun _=>rfl,fun _ _=>.inl rfl⟩,trivial⟩⟩,trivial⟩⟩
        ·conv=>whnf
         (conv=>whnf); refine ⟨inK64 (by omega) (by omega),?_⟩
         conv=>whnf
         (conv=>whnf); refine ⟨_,_,⟨⟨i + 1,by omega,rfl,rfl⟩,by omega⟩,⟨⟨.inl rfl,rfl,rfl,rfl⟩,⟨⟨rfl,rfl,rfl,rfl,fun _=>rfl,fun _ _=>.inl rfl⟩,⟨⟨rfl,rfl,rfl,rfl,fun _=>rfl,fun _ _=>.inl rfl⟩,trivial⟩⟩,trivial⟩⟩
     ·(exfalso; omega)
end Go.Tr

/- Contracts of chapter 5: the reference's curve. Conditions: none. -/
/- Contracts of chapter 5: the reference's flows; the law of flows. Conditions: none. -/
/- The law of chapter 5: all points of a curve on a line. Conditions: none. -/
-- seat YtgbdlkajmmjahaaGreat
namespace Go.Tr
open Go Go.Proofs
set_option maxRecDepth 20000
set_option maxHeartbeats 8000000

theorem sd_abs (C : List Q3) (l : Ln) (k : Nat) : (sdQ C l k).natAbs ≤ 1 := by
  unfold sdQ
  rcases sgR_cases (sideQ l (C.getD k q0)) with ⟨_,e⟩ | ⟨_,e⟩ | ⟨_,e⟩ <;> rw [e] <;> decide
theorem sd_in (C : List Q3) (l : Ln) (j k : Nat) : inK .i64 (sdQ C l j * sdQ C l k) := by
 have h := absM (sd_abs C l j) (sd_abs C l k)
 exact inK_of (by omega)

theorem crvQ_pos {t : List MRow} {f : Int × Int} (hT : TblOk t) (hO : OpOk t f) : 0 < (crvQ t f).length := by
 have hl := (crv_len hT hO).1
 have hnp := hT.np
 obtain ⟨m,hm⟩ : ∃ m,(crvA t f).length = m + 1 := ⟨(crvA t f).length - 1,by omega⟩
 have h : mixQ (ptQ ((crvA t f).getD m p0)) (ptQ ((crvB t f).getD m p0)) (Rat.divInt (crvP t f) (crvD t f)) ∈ crvQ t f := by
  unfold crvQ
  rw [compL_mem,hm]
  unfold rawQ
  simp
 exact List.length_pos_of_mem h
def SmB (b : B3) : Prop := ((-10000 ≤ b.1.1 ∧ b.1.1 ≤ 10000) ∧ (-10000 ≤ b.1.2 ∧ b.1.2 ≤ 10000)) ∧ ((-10000 ≤ b.2.1.1 ∧ b.2.1.1 ≤ 10000) ∧ (-10000 ≤ b.2.1.2 ∧ b.2.1.2 ≤ 10000)) ∧ (-10000 ≤ b.2.2.1 ∧ b.2.2.1 ≤ 10000) ∧ -10000 ≤ b.2.2.2 ∧ b.2.2.2 ≤ 10000
theorem SmB.pt {b : B3} {p : P3} (h : SmB b) (hp : PtOk p) : SmB (bndP b p) := by
 unfold PtOk at hp
 unfold SmB bndP bnd1 at *
 dsimp only
 omega
theorem SmB.row : ∀ (l : List P3) {b : B3},SmB b → (∀ p ∈ l,PtOk p) → SmB (bndL b l)
  | [],_,h,_=>h
  | x :: r,_,h,hp=>SmB.row r (h.pt (hp x (by simp))) fun p hp'=>hp p (by simp [hp'])
theorem SmB.rows : ∀ (t : List MRow) {b : B3},SmB b → (∀ r ∈ t,∀ p ∈ r.ps,PtOk p) → SmB (t.foldl (fun b r=>bndL b r.ps) b)
  | [],_,h,_=>h
  | x :: r,_,h,hp=>SmB.rows r (SmB.row x.ps h (hp x (by simp))) fun p hp'=>hp p (by simp [hp'])
theorem bndT_I {t : List MRow} (hT : TblOk t) : bdI (bndT t) := by
 have hn := hT.n
 have h0 : PtOk (ptT t 0 0) := hT.pt 0 0 (by omega)
 have h : SmB (bndT t) := SmB.rows t (by unfold PtOk at h0; unfold SmB bnd0; dsimp only; omega) fun r hr p hp=>by
  obtain ⟨i,hi,e⟩ := List.getElem_of_mem hr
  obtain ⟨k,hk,e2⟩ := List.getElem_of_mem hp
  have h := hT.pt i k hi
  have e0 : t.getD i r0 = r := by rw [List.getD_eq_getElem?_getD,List.getElem?_eq_getElem hi,e]; rfl
  have e3 : r.ps.getD k p0 = p := by rw [List.getD_eq_getElem?_getD,List.getElem?_eq_getElem hk,e2]; rfl
  rw [e0,e3] at h
  exact h
 unfold SmB at h
 intro x hx
 simp only [List.mem_cons,List.not_mem_nil,or_false] at hx
 omega
theorem ev_row1 [GTab] {T : Nat → Option TI} {o : Oper} {ρ : Operand → AV} {h : Hp} {t : Nat} {a : Operand} {b ver idx : Nat} {k : AB} {ti : TI} {x : AV} (ho : o.op = .load t a) (hT : T t = some ti) (hd : isAggT ti.desc = false) (ha : ρ a = .optr b ver idx 0)
  (hb : h.block b ver = some k) (hr : k.f idx = [x]) : opEv T o ρ h = .ok x h := by
 unfold opEv
 rw [ho]
 dsimp only
 rw [hT,ha]
 dsimp only
 rw [hb]
 dsimp only
 rw [hr]
 unfold ofCells
 rw [hd]
 rfl
set_option maxHeartbeats 16000000 in
theorem S10m (t : List MRow) (hT : TblOk t) (f : Int × Int) (hO : OpOk t f) (l : Ln) (hl : LnOk l) (hE : allS (crvQ t f) = true) (hF : allS (spL (crvQ t f) l) = true)
  (h14 : SP 14 [] (vb true) false) (h15 : SP 15 [tblA t] (vb true) false) (h17 : SP 17 [tblA t] (tblA t) false) (h18 : SP 18 [tblA t,gaF f] (i64 0) false) (h34 : SP 34 [lnA l] (i64 0) false)
  (h25 : SP 25 [tblA t,gaF f] (.tuple [sps (crvQ t f),i64 0]) false) (h33 : SP 33 [tblA t,gaF f,lnA l] (.tuple [sps (spL (crvQ t f) l),i64 0]) false) (h46 : SP 46 [tblA t] (.tuple [bnA (bndT t),i64 0]) false) :
  SP 10 [tblA t,gaF f,lnA l] (vb true) false := by
 have hC := crvQ_len hT hO
 have hS := spL_len (l := l) hC
 have hn0 := crvQ_pos hT hO
 have hsm : ∀ k,k < (crvQ t f).length → sm3 ((crvQ t f).getD k q0) := fun k hk=>allS_at hE hk
 have hsm2 : ∀ k,k < (spL (crvQ t f) l).length → sm3 ((spL (crvQ t f) l).getD k q0) := fun k hk=>allS_at hF hk
 have hon := fun k (hk : k < (spL (crvQ t f) l).length)=>spL_on hT hO (l := l) _ (getD_memG (d := q0) hk)
 have hbd := fun k (hk : k < (spL (crvQ t f) l).length)=>onS_bd hT hO (l := l) _ (getD_memG (d := q0) hk)
 have hsd : ∀ k,k < (spL (crvQ t f) l).length → sideQ l ((spL (crvQ t f) l).getD k q0) = 0 := fun k hk=>on_side _ _ ((putAll_mem _ _).1 (getD_memG (d := q0) hk))
 have hlt3 : ∀ k,k + 1 < (spL (crvQ t f) l).length → lt3 ((spL (crvQ t f) l).getD k q0) ((spL (crvQ t f) l).getD (k + 1) q0) := fun k hk=>spL_lt hk
 have hcnt := fun h=>spL_cnt (l := l) hn0 h
 have hend := fun h=>ends_cross (l := l) hn0 h
 have hbI := bndT_I hT
 generalize bndT t = B at *
 generalize crvQ t f = C at *
 generalize spL C l = S at *
 refine sound (d := 2) tok2 mixed2 Tryz.func10 (by kernel_rfl) (by kernel_rfl) ?_
 (conv=>whnf); refine .inl ⟨_,_,byX rfl (Sound1.pl (h14) rfl),?_⟩
 (conv=>whnf); refine .inl ⟨_,_,byX rfl (Sound1.pl (h15) rfl),?_⟩
 (conv=>whnf); refine .inl ⟨_,_,byX rfl (Sound1.pl (h18) rfl),?_⟩
 (conv=>whnf); refine .inl ⟨_,_,byX rfl (Sound1.pl (h34) rfl),?_⟩
 (conv=>whnf); refine ⟨[],by kernel_rfl,?_⟩
 (conv=>whnf); refine .inl ⟨_,_,byX rfl (h17),?_⟩
 (conv=>whnf); refine .inl ⟨_,_,byX rfl (h25),?_⟩
 (conv=>whnf); refine ⟨[],by kernel_rfl,?_⟩
 (conv=>whnf); refine .inl ⟨_,_,byX rfl (h17),?_⟩
 (conv=>whnf); refine .inl ⟨_,_,byX rfl (h33),?_⟩
 (conv=>whnf); refine .inl ⟨_,_,byX rfl (h17),?_⟩
 (conv=>whnf); refine .inl ⟨_,_,byX rfl (Sound1.pl (h46) rfl),?_⟩
 (conv=>whnf); refine ifB_beq (fun w1=>?_) (fun w1=>?_)
 ·(exfalso; omega)
 ·(conv => whnf); refine ifB_dec (fun w2 => ?_) (fun w2 => ?_)
  ·(exfalso; omega)
  ·(conv => whnf); refine ifB_dec (fun w3 => ?_) (fun w3 => ?_)
   ·(exfalso; omega)
   ·(conv => whnf); refine ⟨[.slot 15 1], [16, 15, 14, 13, 9, 7, 5, 11], fun st mq => ∃ (k : Nat) (d : Nat) (b : Bool), (k ≤ C.length) ∧ (d = chQ C l k) ∧ (b = tcQ C l k) ∧ st = ⟨[(16, i64 k), (15, .oslice 4 0 0 k none), (14, vb b), (13, i64 d), (9, sps S), (7, sps C), (5, .optr 2 0 0 0), (11, .optr 3 0 0 0)], ⟨[⟨1, 1, fun _ => [rowsA t], 0, false, true, true⟩, ⟨2, 1, fun _ => [i64 f.1, i64 f.2], 0, false, true, true⟩, ⟨4, 1, fun _ => lnC l, 0, false, true, true⟩, ⟨6, 1, fun _ => bnC B, 0, false, true, true⟩, ⟨1, k, fun i => [i64 (sdQ C l i)], 0, false, true, false⟩], [], none, 0⟩, []⟩ ∧ mq = C.length - k,
     ⟨_,_,⟨0,0,false,by omega,rfl,rfl,rfl,rfl⟩,⟨⟨.inl rfl,rfl,rfl,rfl⟩,⟨⟨rfl,rfl,rfl,rfl,fun _=>rfl,fun _ _=>.inl rfl⟩,⟨⟨rfl,rfl,rfl,rfl,fun _=>rfl,fun _ _=>.inl rfl⟩,⟨⟨rfl,rfl,rfl,rfl,fun _=>rfl,fun _ _=>.inl rfl⟩,⟨⟨rfl,rfl,rfl,rfl,fun _=>rfl,fun _ _=>.inl rfl⟩,⟨⟨rfl,rfl,rfl,rfl,fun _=>rfl,fun i h=>.inl (absurd h (Nat.not_lt_zero i))⟩,trivial⟩⟩⟩⟩⟩,trivial⟩⟩,?_⟩
    rintro s0 m0 ⟨k,d,b,hk,hd,hb,rfl,hmeas⟩
    have hdk := chQ_le C l k
    by_cases hlt : k < C.length
    ·have c47 := S47 _ (hsm k hlt)
     have c50 := S50s _ (hsm k hlt)
     have c49 := S49b _ l (sm3_rk (hsm k hlt)) hl
     have c48 := S48 (sideQ l (C.getD k q0))
     change SP 48 _ (i64 (sdQ C l k)) false at c48
     have hwk : ∀ i,i < k + 1 → [i64 (sdQ C l i)] = if i < k then [i64 (sdQ C l (0 + i))] else List.take 1 (List.drop ((i - k) * 1) [i64 (sdQ C l k)]) := fun i hi=>extE (fun z=>[i64 z]) (m := 1) (fun _=>rfl) (fun i=>sdQ C l i) k i hi _ rfl
     have es : sdQ C l (0 + (k : Int).toNat) = sdQ C l k := by rw [show 0 + (k : Int).toNat = k by omega]
     have ep : sdQ C l (0 + ((k : Int) - 1).toNat) = sdQ C l (k - 1) := by rw [show 0 + ((k : Int) - 1).toNat = k - 1 by omega]
     have hin := sd_in C l (0 + (k : Int).toNat) (0 + ((k : Int) - 1).toNat)
     have e1 : tcQ C l (k + 1) = (tcQ C l k || decide (sdQ C l k = 0)) := rfl
     have e2 : chQ C l (k + 1) = chQ C l k + if 0 < k ∧ sdQ C l k * sdQ C l (k - 1) < 0 then 1 else 0 := rfl
     rw [← hd] at e2 hdk
     rw [← hb] at e1
     rw [← es,← ep] at e2
     cases b with
     | true =>
      conv=>whnf
      (conv=>whnf); refine ifB_dec (fun w4=>?_) (fun w4=>?_)
      ·conv=>whnf
       (conv=>whnf); refine ⟨⟨(by omega),(by omega)⟩,?_⟩
       conv=>whnf
       (conv=>whnf); refine .inl ⟨_,_,byX rfl (Sound1.pl (c47) rfl),?_⟩
       conv=>whnf
       (conv=>whnf); refine ⟨[],by kernel_rfl,?_⟩
       conv=>whnf
       (conv=>whnf); refine ⟨⟨(by omega),(by omega)⟩,?_⟩
       conv=>whnf
       (conv=>whnf); refine .inl ⟨_,_,byX rfl (c50),?_⟩
       conv=>whnf
       (conv=>whnf); refine .inl ⟨_,_,byX rfl (c49),?_⟩
       conv=>whnf
       (conv=>whnf); refine .inl ⟨_,_,byX rfl (Sound1.pl (c48) rfl),?_⟩
       conv=>whnf
       (conv=>whnf); refine .inl ?_
       conv=>whnf
       (conv=>whnf); refine ⟨(by show _ * (8 + 1) ≤ _; omega),?_⟩
       conv=>whnf
       (conv=>whnf); refine ⟨[(15,1000001),(0,1000002)],_,weakF 4 (fun i=>[i64 (sdQ C l i)]) rfl hwk,by kernel_rfl,?_⟩
       conv=>whnf
       (conv=>whnf); refine ifB_dec (fun w5=>?_) (fun w5=>?_)
       ·conv=>whnf
        (conv=>whnf); refine ⟨⟨(by omega),(by omega)⟩,?_⟩
        conv=>whnf
        (conv=>whnf); refine ⟨inK64 (by omega) (by omega),?_⟩
        conv=>whnf
        (conv=>whnf); refine ⟨⟨(by omega),(by omega)⟩,?_⟩
        conv=>whnf
        (conv=>whnf); refine ⟨by assumption,?_⟩
        conv=>whnf
        (conv=>whnf); refine ifB_dec (fun w6=>?_) (fun w6=>?_)
        ·conv=>whnf
         (conv=>whnf); refine ⟨inK64 (by omega) (by omega),?_⟩
         conv=>whnf
         (conv=>whnf); refine ⟨inK64 (by omega) (by omega),?_⟩
         conv=>whnf
         (conv=>whnf); refine ⟨_,_,⟨⟨k + 1,d + 1,true,by omega,(by rw [e2,if_pos ⟨by omega,by assumption⟩]),e1.symm,rfl,rfl⟩,by omega⟩,⟨⟨.inl rfl,rfl,rfl,rfl⟩,⟨⟨rfl,rfl,rfl,rfl,fun _=>rfl,fun _ _=>.inl rfl⟩,⟨⟨rfl,rfl,rfl,rfl,fun _=>rfl,fun _ _=>.inl rfl⟩,⟨⟨rfl,rfl,rfl,rfl,fun _=>rfl,fun _ _=>.inl rfl⟩,⟨⟨rfl,rfl,rfl,rfl,fun _=>rfl,fun _ _=>.inl rfl⟩,⟨⟨rfl,rfl,rfl,rfl,fun _=>rfl,fun _ _=>.inl rfl⟩,trivial⟩⟩⟩⟩⟩,trivial⟩⟩
        ·conv=>whnf
         (conv=>whnf); refine ⟨inK64 (by omega) (by omega),?_⟩
         conv=>whnf
         (conv=>whnf); refine ⟨_,_,⟨⟨k + 1,d,true,by omega,(by rw [e2,if_neg (fun e=>absurd e.2 (by assumption))]; rfl),e1.symm,rfl,rfl⟩,by omega⟩,⟨⟨.inl rfl,rfl,rfl,rfl⟩,⟨⟨rfl,rfl,rfl,rfl,fun _=>rfl,fun _ _=>.inl rfl⟩,⟨⟨rfl,rfl,rfl,rfl,fun _=>rfl,fun _ _=>.inl rfl⟩,⟨⟨rfl,rfl,rfl,rfl,fun _=>rfl,fun _ _=>.inl rfl⟩,⟨⟨rfl,rfl,rfl,rfl,fun _=>rfl,fun _ _=>.inl rfl⟩,⟨⟨rfl,rfl,rfl,rfl,fun _=>rfl,fun _ _=>.inl rfl⟩,trivial⟩⟩⟩⟩⟩,trivial⟩⟩
       ·conv=>whnf
        (conv=>whnf); refine ⟨inK64 (by omega) (by omega),?_⟩
        conv=>whnf
        (conv=>whnf); refine ⟨_,_,⟨⟨k + 1,d,true,by omega,(by rw [e2,if_neg (fun e=>absurd e.1 (by omega))]; rfl),e1.symm,rfl,rfl⟩,by omega⟩,⟨⟨.inl rfl,rfl,rfl,rfl⟩,⟨⟨rfl,rfl,rfl,rfl,fun _=>rfl,fun _ _=>.inl rfl⟩,⟨⟨rfl,rfl,rfl,rfl,fun _=>rfl,fun _ _=>.inl rfl⟩,⟨⟨rfl,rfl,rfl,rfl,fun _=>rfl,fun _ _=>.inl rfl⟩,⟨⟨rfl,rfl,rfl,rfl,fun _=>rfl,fun _ _=>.inl rfl⟩,⟨⟨rfl,rfl,rfl,rfl,fun _=>rfl,fun _ _=>.inl rfl⟩,trivial⟩⟩⟩⟩⟩,trivial⟩⟩
      ·(exfalso; omega)
     | false =>
      conv=>whnf
      (conv=>whnf); refine ifB_dec (fun w4=>?_) (fun w4=>?_)
      ·conv=>whnf
       (conv=>whnf); refine ⟨⟨(by omega),(by omega)⟩,?_⟩
       conv=>whnf
       (conv=>whnf); refine .inl ⟨_,_,byX rfl (Sound1.pl (c47) rfl),?_⟩
       conv=>whnf
       (conv=>whnf); refine ⟨[],by kernel_rfl,?_⟩
       conv=>whnf
       (conv=>whnf); refine ⟨⟨(by omega),(by omega)⟩,?_⟩
       conv=>whnf
       (conv=>whnf); refine .inl ⟨_,_,byX rfl (c50),?_⟩
       conv=>whnf
       (conv=>whnf); refine .inl ⟨_,_,byX rfl (c49),?_⟩
       conv=>whnf
       (conv=>whnf); refine .inl ⟨_,_,byX rfl (Sound1.pl (c48) rfl),?_⟩
       conv=>whnf
       (conv=>whnf); refine .inl ?_
       conv=>whnf
       (conv=>whnf); refine ⟨(by show _ * (8 + 1) ≤ _; omega),?_⟩
       conv=>whnf
       (conv=>whnf); refine ⟨⟨(by omega),(by omega)⟩,?_⟩
       have hrr := (hwk (0 + (k : Int).toNat) (by omega)).symm
       conv=>whnf
       rw [ev_row1 (x := i64 (sdQ C l (0 + (k : Int).toNat))) rfl rfl rfl rfl rfl hrr]
       conv=>whnf
       conv=>whnf
       (conv=>whnf); refine ⟨[(15,1000001),(0,1000002)],_,weakF 4 (fun i=>[i64 (sdQ C l i)]) rfl hwk,by kernel_rfl,?_⟩
       conv=>whnf
       conv=>whnf
       (conv=>whnf); refine ifB_dec (fun w5=>?_) (fun w5=>?_)
       ·conv=>whnf
        conv=>whnf
        (conv=>whnf); refine ⟨⟨(by omega),(by omega)⟩,?_⟩
        conv=>whnf
        conv=>whnf
        (conv=>whnf); refine ⟨inK64 (by omega) (by omega),?_⟩
        conv=>whnf
        conv=>whnf
        (conv=>whnf); refine ⟨⟨(by omega),(by omega)⟩,?_⟩
        conv=>whnf
        conv=>whnf
        (conv=>whnf); refine ⟨by assumption,?_⟩
        conv=>whnf
        conv=>whnf
        (conv=>whnf); refine ifB_dec (fun w6=>?_) (fun w6=>?_)
        ·conv=>whnf
         conv=>whnf
         (conv=>whnf); refine ⟨inK64 (by omega) (by omega),?_⟩
         conv=>whnf
         conv=>whnf
         (conv=>whnf); refine ⟨inK64 (by omega) (by omega),?_⟩
         conv=>whnf
         conv=>whnf
         (conv=>whnf); refine ⟨_,_,⟨⟨k + 1,d + 1,decide (sdQ C l (0 + (k : Int).toNat) = 0),by omega,(by rw [e2,if_pos ⟨by omega,by assumption⟩]),(by rw [e1,es]; rfl),rfl,rfl⟩,by omega⟩,⟨⟨.inl rfl,rfl,rfl,rfl⟩,⟨⟨rfl,rfl,rfl,rfl,fun _=>rfl,fun _ _=>.inl rfl⟩,⟨⟨rfl,rfl,rfl,rfl,fun _=>rfl,fun _ _=>.inl rfl⟩,⟨⟨rfl,rfl,rfl,rfl,fun _=>rfl,fun _ _=>.inl rfl⟩,⟨⟨rfl,rfl,rfl,rfl,fun _=>rfl,fun _ _=>.inl rfl⟩,⟨⟨rfl,rfl,rfl,rfl,fun _=>rfl,fun _ _=>.inl rfl⟩,trivial⟩⟩⟩⟩⟩,trivial⟩⟩
        ·conv=>whnf
         conv=>whnf
         (conv=>whnf); refine ⟨inK64 (by omega) (by omega),?_⟩
         conv=>whnf
         conv=>whnf
         (conv=>whnf); refine ⟨_,_,⟨⟨k + 1,d,decide (sdQ C l (0 + (k : Int).toNat) = 0),by omega,(by rw [e2,if_neg (fun e=>absurd e.2 (by assumption))]; rfl),(by rw [e1,es]; rfl),rfl,rfl⟩,by omega⟩,⟨⟨.inl rfl,rfl,rfl,rfl⟩,⟨⟨rfl,rfl,rfl,rfl,fun _=>rfl,fun _ _=>.inl rfl⟩,⟨⟨rfl,rfl,rfl,rfl,fun _=>rfl,fun _ _=>.inl rfl⟩,⟨⟨rfl,rfl,rfl,rfl,fun _=>rfl,fun _ _=>.inl rfl⟩,⟨⟨rfl,rfl,rfl,rfl,fun _=>rfl,fun _ _=>.inl rfl⟩,⟨⟨rfl,rfl,rfl,rfl,fun _=>rfl,fun _ _=>.inl rfl⟩,trivial⟩⟩⟩⟩⟩,trivial⟩⟩
       ·conv=>whnf
        conv=>whnf
        (conv=>whnf); refine ⟨inK64 (by omega) (by omega),?_⟩
        conv=>whnf
        conv=>whnf
        (conv=>whnf); refine ⟨_,_,⟨⟨k + 1,d,decide (sdQ C l (0 + (k : Int).toNat) = 0),by omega,(by rw [e2,if_neg (fun e=>absurd e.1 (by omega))]; rfl),(by rw [e1,es]; rfl),rfl,rfl⟩,by omega⟩,⟨⟨.inl rfl,rfl,rfl,rfl⟩,⟨⟨rfl,rfl,rfl,rfl,fun _=>rfl,fun _ _=>.inl rfl⟩,⟨⟨rfl,rfl,rfl,rfl,fun _=>rfl,fun _ _=>.inl rfl⟩,⟨⟨rfl,rfl,rfl,rfl,fun _=>rfl,fun _ _=>.inl rfl⟩,⟨⟨rfl,rfl,rfl,rfl,fun _=>rfl,fun _ _=>.inl rfl⟩,⟨⟨rfl,rfl,rfl,rfl,fun _=>rfl,fun _ _=>.inl rfl⟩,trivial⟩⟩⟩⟩⟩,trivial⟩⟩
      ·(exfalso; omega)
    ·obtain rfl : k = C.length := by omega
     conv=>whnf
     (conv=>whnf); refine ifB_dec (fun w4=>?_) (fun w4=>?_)
     ·(exfalso; omega)
     ·conv => whnf
      (conv=>whnf); refine ⟨[],[17,15,14,13,9,7,5,11],fun st mq=>∃ (m : Nat),(m ≤ S.length) ∧ st = ⟨[(17,i64 m),(15,.oslice 4 0 0 C.length none),(14,vb b),(13,i64 d),(9,sps S),(7,sps C),(5,.optr 2 0 0 0),(11,.optr 3 0 0 0)],⟨[⟨1,1,fun _=>[rowsA t],0,false,true,true⟩,⟨2,1,fun _=>[i64 f.1,i64 f.2],0,false,true,true⟩,⟨4,1,fun _=>lnC l,0,false,true,true⟩,⟨6,1,fun _=>bnC B,0,false,true,true⟩,⟨1,C.length,fun i=>[i64 (sdQ C l i)],0,false,true,false⟩],[],none,0⟩,[]⟩ ∧ mq = S.length - m,
       ⟨_,_,⟨0,by omega,rfl,rfl⟩,⟨⟨.inl rfl,rfl,rfl,rfl⟩,⟨⟨rfl,rfl,rfl,rfl,fun _=>rfl,fun _ _=>.inl rfl⟩,⟨⟨rfl,rfl,rfl,rfl,fun _=>rfl,fun _ _=>.inl rfl⟩,⟨⟨rfl,rfl,rfl,rfl,fun _=>rfl,fun _ _=>.inl rfl⟩,⟨⟨rfl,rfl,rfl,rfl,fun _=>rfl,fun _ _=>.inl rfl⟩,⟨⟨rfl,rfl,rfl,rfl,fun _=>rfl,fun _ _=>.inl rfl⟩,trivial⟩⟩⟩⟩⟩,trivial⟩⟩,?_⟩
      rintro s0 m0 ⟨m,hm,rfl,hmeas⟩
      by_cases hlm : m < S.length
      ·have c47 := S47 _ (hsm2 m hlm)
       have c50 := S50s _ (hsm2 m hlm)
       have c49 := S49b _ l (sm3_rk (hsm2 m hlm)) hl
       have c48 := S48 (sideQ l (S.getD m q0))
       rw [hsd m hlm] at c48
       change SP 48 _ (i64 0) false at c48
       rw [hsd m hlm] at c49
       have c51 := S51 _ B (hsm2 m hlm) hbI (hbd m hlm)
       obtain ⟨j0,hj0,hw0⟩ := hon m hlm
       have c52 := S52 C _ (by omega) hsm (hsm2 m hlm) j0 hj0 hw0
       by_cases hm0 : m = 0
       ·conv=>whnf
        conv=>whnf
        (conv=>whnf); refine ifB_dec (fun w5=>?_) (fun w5=>?_)
        ·conv=>whnf
         conv=>whnf
         (conv=>whnf); refine ⟨[],by kernel_rfl,?_⟩
         conv=>whnf
         conv=>whnf
         (conv=>whnf); refine ⟨⟨(by omega),(by omega)⟩,?_⟩
         conv=>whnf
         conv=>whnf
         (conv=>whnf); refine .inl ⟨_,_,byX rfl (Sound1.pl (c47) rfl),?_⟩
         conv=>whnf
         conv=>whnf
         (conv=>whnf); refine ⟨⟨(by omega),(by omega)⟩,?_⟩
         conv=>whnf
         conv=>whnf
         (conv=>whnf); refine .inl ⟨_,_,byX rfl (c50),?_⟩
         conv=>whnf
         conv=>whnf
         (conv=>whnf); refine .inl ⟨_,_,byX rfl (c49),?_⟩
         conv=>whnf
         conv=>whnf
         (conv=>whnf); refine .inl ⟨_,_,byX rfl (Sound1.pl (c48) rfl),?_⟩
         conv=>whnf
         conv=>whnf
         (conv=>whnf); refine ⟨⟨(by omega),(by omega)⟩,?_⟩
         conv=>whnf
         conv=>whnf
         (conv=>whnf); refine .inl ⟨_,_,byX rfl (Sound1.pl (c51) rfl),?_⟩
         conv=>whnf
         conv=>whnf
         (conv=>whnf); refine ⟨⟨(by omega),(by omega)⟩,?_⟩
         conv=>whnf
         conv=>whnf
         (conv=>whnf); refine .inl ⟨_,_,byX rfl (Sound1.pl (c52) rfl),?_⟩
         conv=>whnf
         conv=>whnf
         (conv=>whnf); refine ifB_dec (fun w6=>?_) (fun w6=>?_)
         ·(exfalso; omega)
         ·conv=>whnf
          conv=>whnf
          (conv=>whnf); refine ⟨inK64 (by omega) (by omega),?_⟩
          conv=>whnf
          conv=>whnf
          (conv=>whnf); refine ⟨_,_,⟨⟨m + 1,by omega,rfl,rfl⟩,by omega⟩,⟨⟨.inl rfl,rfl,rfl,rfl⟩,⟨⟨rfl,rfl,rfl,rfl,fun _=>rfl,fun _ _=>.inl rfl⟩,⟨⟨rfl,rfl,rfl,rfl,fun _=>rfl,fun _ _=>.inl rfl⟩,⟨⟨rfl,rfl,rfl,rfl,fun _=>rfl,fun _ _=>.inl rfl⟩,⟨⟨rfl,rfl,rfl,rfl,fun _=>rfl,fun _ _=>.inl rfl⟩,⟨⟨rfl,rfl,rfl,rfl,fun _=>rfl,fun _ _=>.inl rfl⟩,trivial⟩⟩⟩⟩⟩,trivial⟩⟩
        ·(exfalso; omega)
       ·have em : ((m : Int) - 1).toNat = m - 1 := by omega
        have c53 := S53 (S.getD ((m : Int) - 1).toNat q0) (S.getD m q0) (hsm2 _ (by omega)) (hsm2 m hlm) (by
         rw [em]
         have := hlt3 (m - 1) (by omega)
         rwa [show m - 1 + 1 = m by omega] at this)
        conv=>whnf
        conv=>whnf
        (conv=>whnf); refine ifB_dec (fun w5=>?_) (fun w5=>?_)
        ·conv=>whnf
         conv=>whnf
         (conv=>whnf); refine ⟨[],by kernel_rfl,?_⟩
         conv=>whnf
         conv=>whnf
         (conv=>whnf); refine ⟨⟨(by omega),(by omega)⟩,?_⟩
         conv=>whnf
         conv=>whnf
         (conv=>whnf); refine .inl ⟨_,_,byX rfl (Sound1.pl (c47) rfl),?_⟩
         conv=>whnf
         conv=>whnf
         (conv=>whnf); refine ⟨⟨(by omega),(by omega)⟩,?_⟩
         conv=>whnf
         conv=>whnf
         (conv=>whnf); refine .inl ⟨_,_,byX rfl (c50),?_⟩
         conv=>whnf
         conv=>whnf
         (conv=>whnf); refine .inl ⟨_,_,byX rfl (c49),?_⟩
         conv=>whnf
         conv=>whnf
         (conv=>whnf); refine .inl ⟨_,_,byX rfl (Sound1.pl (c48) rfl),?_⟩
         conv=>whnf
         conv=>whnf
         (conv=>whnf); refine ⟨⟨(by omega),(by omega)⟩,?_⟩
         conv=>whnf
         conv=>whnf
         (conv=>whnf); refine .inl ⟨_,_,byX rfl (Sound1.pl (c51) rfl),?_⟩
         conv=>whnf
         conv=>whnf
         (conv=>whnf); refine ⟨⟨(by omega),(by omega)⟩,?_⟩
         conv=>whnf
         conv=>whnf
         (conv=>whnf); refine .inl ⟨_,_,byX rfl (Sound1.pl (c52) rfl),?_⟩
         conv=>whnf
         conv=>whnf
         (conv=>whnf); refine ifB_dec (fun w6=>?_) (fun w6=>?_)
         ·conv=>whnf
          conv=>whnf
          (conv=>whnf); refine ⟨inK64 (by omega) (by omega),?_⟩
          conv=>whnf
          conv=>whnf
          (conv=>whnf); refine ⟨⟨(by omega),(by omega)⟩,?_⟩
          conv=>whnf
          conv=>whnf
          (conv=>whnf); refine ⟨⟨(by omega),(by omega)⟩,?_⟩
          conv=>whnf
          conv=>whnf
          (conv=>whnf); refine .inl ⟨_,_,byX rfl (Sound1.pl (c53) rfl),?_⟩
          conv=>whnf
          conv=>whnf
          (conv=>whnf); refine ⟨inK64 (by omega) (by omega),?_⟩
          conv=>whnf
          conv=>whnf
          (conv=>whnf); refine ⟨_,_,⟨⟨m + 1,by omega,rfl,rfl⟩,by omega⟩,⟨⟨.inl rfl,rfl,rfl,rfl⟩,⟨⟨rfl,rfl,rfl,rfl,fun _=>rfl,fun _ _=>.inl rfl⟩,⟨⟨rfl,rfl,rfl,rfl,fun _=>rfl,fun _ _=>.inl rfl⟩,⟨⟨rfl,rfl,rfl,rfl,fun _=>rfl,fun _ _=>.inl rfl⟩,⟨⟨rfl,rfl,rfl,rfl,fun _=>rfl,fun _ _=>.inl rfl⟩,⟨⟨rfl,rfl,rfl,rfl,fun _=>rfl,fun _ _=>.inl rfl⟩,trivial⟩⟩⟩⟩⟩,trivial⟩⟩
         ·(exfalso; omega)
        ·(exfalso; omega)
      ·have hin := sd_in C l 0 (0 + ((C.length : Int) - 1).toNat)
       have ep : sdQ C l (0 + ((C.length : Int) - 1).toNat) = sdQ C l (C.length - 1) := by rw [show 0 + ((C.length : Int) - 1).toNat = C.length - 1 by omega]
       rw [← ep] at hend
       cases b with
       | true =>
        conv=>whnf
        conv=>whnf
        (conv=>whnf); refine ifB_dec (fun w5=>?_) (fun w5=>?_)
        ·(exfalso; omega)
        ·conv=>whnf
         conv=>whnf
         (conv=>whnf); refine ⟨[],by kernel_rfl,?_⟩
         conv=>whnf
         conv=>whnf
         (conv=>whnf); refine ⟨⟨(by omega),(by omega)⟩,?_⟩
         conv=>whnf
         conv=>whnf
         (conv=>whnf); refine ⟨inK64 (by omega) (by omega),?_⟩
         conv=>whnf
         conv=>whnf
         (conv=>whnf); refine ⟨⟨(by omega),(by omega)⟩,?_⟩
         conv=>whnf
         conv=>whnf
         (conv=>whnf); refine ⟨by assumption,?_⟩
         conv=>whnf
         conv=>whnf
         (conv=>whnf); refine ifB_dec (fun w6=>?_) (fun w6=>?_)
         ·conv=>whnf
          conv=>whnf
          (conv=>whnf); refine ifB_beq (fun w7=>?_) (fun w7=>?_)
          ·conv=>whnf
           conv=>whnf
           (conv=>whnf); refine ⟨?_,nofun⟩
           (first | contradiction | exact hin | exact absurd (hend (by assumption)) (by omega) | rfl | omega)
          ·conv=>whnf
           conv=>whnf
           (conv=>whnf); refine ⟨?_,nofun⟩
           (first | contradiction | exact hin | exact absurd (hend (by assumption)) (by omega) | rfl | omega)
         ·conv=>whnf
          conv=>whnf
          (conv=>whnf); refine ⟨?_,nofun⟩
          (first | contradiction | exact hin | exact absurd (hend (by assumption)) (by omega) | rfl | omega)
       | false =>
        obtain ⟨k1,k2⟩ := hcnt hb.symm
        rw [← hd] at k1 k2
        have kk : (((d : Int) == 0) == ((S.length : Int) == 0)) = true := by
         rw [beq_iff_eq,Bool.eq_iff_iff,beq_iff_eq,beq_iff_eq]
         constructor
         ·intro h; have := k2.1 (by omega); omega
         ·intro h; have := k2.2 (by omega); omega
        conv=>whnf
        conv=>whnf
        (conv=>whnf); refine ifB_dec (fun w5=>?_) (fun w5=>?_)
        ·(exfalso; omega)
        ·conv=>whnf
         conv=>whnf
         (conv=>whnf); refine ⟨[],by kernel_rfl,?_⟩
         conv=>whnf
         conv=>whnf
         (conv=>whnf); refine ⟨⟨(by omega),(by omega)⟩,?_⟩
         conv=>whnf
         conv=>whnf
         (conv=>whnf); refine ⟨inK64 (by omega) (by omega),?_⟩
         conv=>whnf
         conv=>whnf
         (conv=>whnf); refine ⟨⟨(by omega),(by omega)⟩,?_⟩
         conv=>whnf
         conv=>whnf
         (conv=>whnf); refine ⟨by assumption,?_⟩
         conv=>whnf
         conv=>whnf
         (conv=>whnf); refine ifB_dec (fun w6=>?_) (fun w6=>?_)
         ·conv=>whnf
          conv=>whnf
          (conv=>whnf); refine ifB_beq (fun w7=>?_) (fun w7=>?_)
          ·conv=>whnf
           conv=>whnf
           (conv=>whnf); refine ⟨?_,nofun⟩
           (first | contradiction | exact hin | exact absurd (hend (by assumption)) (by omega) | exact congrArg vb kk | rfl | omega)
          ·conv=>whnf
           conv=>whnf
           (conv=>whnf); refine ifB_dec (fun w8=>?_) (fun w8=>?_)
           ·conv=>whnf
            conv=>whnf
            (conv=>whnf); refine ⟨?_,nofun⟩
            (first | contradiction | exact hin | exact absurd (hend (by assumption)) (by omega) | exact congrArg vb kk | rfl | omega)
           ·(exfalso; omega)
         ·conv=>whnf
          conv=>whnf
          (conv=>whnf); refine ifB_dec (fun w7=>?_) (fun w7=>?_)
          ·conv=>whnf
           conv=>whnf
           (conv=>whnf); refine ⟨?_,nofun⟩
           (first | contradiction | exact hin | exact absurd (hend (by assumption)) (by omega) | exact congrArg vb kk | rfl | omega)
          ·(exfalso; omega)
theorem smE_0 {L : List Q3} (h : smE L = 0) : allS L = true := by
 unfold smE at h
 split at h
 ·assumption
 ·cases h
theorem smE_8 {L : List Q3} (h : ¬ smE L = 0) : smE L = 8 := by
 unfold smE at *
 split
 ·rename_i g; exact absurd (if_pos g) h
 ·rfl
set_option maxHeartbeats 8000000 in
theorem S10 (t : List MRow) (h1 : t.length ≤ 9223372036854775807) (f : Int × Int) (hf : FrI f) (l : Ln) : SP 10 [tblA t,gaF f,lnA l] (vb true) false := by
 have h14 := S14
 have h15 := S15 t h1
 by_cases hw : fewT t = true
 ·rw [hw] at h15
  have ht := few_fit hw
  have h18 := S18 t ht f hf
  have h34 := S34 l
  by_cases h0 : ocE t f = 0
  ·by_cases hz : lnE l = 0
   ·obtain ⟨hT,hlo,hO⟩ := ocE_ok h0
    have hl := lnE_ok hz
    have h17 := S17 t ht
    have h25 := S25 t ht f hf
    have h33 := S33 t ht f hf l
    have h46 := S46 t ht
    have es : soE t f l = 0 := by unfold soE; rw [if_neg (not_not_intro h0)]; exact hz
    have ec : (chkM t).2 = 0 := Classical.byContradiction fun e=>e (by unfold ocE at h0; rwa [if_pos e] at h0)
    unfold cvS cvE at h25
    rw [if_pos h0,if_pos h0] at h25
    rw [if_pos es,if_pos es] at h33
    rw [if_pos ec,ec] at h46
    rw [h0] at h18
    rw [hz] at h34
    unfold slL slE at h33
    by_cases g1 : smE (crvQ t f) = 0
    ·by_cases g2 : smE (spL (crvQ t f) l) = 0
     ·have a1 := smE_0 g1
      have a2 := smE_0 g2
      unfold smL at h25 h33
      rw [if_pos a1,g1] at h25
      rw [if_pos a2,g2] at h33
      exact S10m t hT f hO l hl a1 a2 h14 h15 h17 h18 h34 h25 h33 h46
     ·rw [smE_8 g2] at h33
      rw [g1] at h25
      refine sound (d := 2) tok2 mixed2 Tryz.func10 (by kernel_rfl) (by kernel_rfl) ?_
      (conv=>whnf); refine .inl ⟨_,_,byX rfl (Sound1.pl (h14) rfl),?_⟩
      (conv=>whnf); refine .inl ⟨_,_,byX rfl (Sound1.pl (h15) rfl),?_⟩
      (conv=>whnf); refine .inl ⟨_,_,byX rfl (Sound1.pl (h18) rfl),?_⟩
      (conv=>whnf); refine .inl ⟨_,_,byX rfl (Sound1.pl (h34) rfl),?_⟩
      (conv=>whnf); refine ⟨[],by kernel_rfl,?_⟩
      (conv=>whnf); refine .inl ⟨_,_,byX rfl (h17),?_⟩
      (conv=>whnf); refine .inl ⟨_,_,byX rfl (h25),?_⟩
      (conv=>whnf); refine ⟨[],by kernel_rfl,?_⟩
      (conv=>whnf); refine .inl ⟨_,_,byX rfl (h17),?_⟩
      (conv=>whnf); refine .inl ⟨_,_,byX rfl (h33),?_⟩
      (conv=>whnf); refine .inl ⟨_,_,byX rfl (h17),?_⟩
      (conv=>whnf); refine .inl ⟨_,_,byX rfl (Sound1.pl (h46) rfl),?_⟩
      (conv=>whnf); refine ⟨?_,nofun⟩
      (first | contradiction | rfl | omega)
    ·rw [smE_8 g1] at h25
     by_cases g2 : smE (spL (crvQ t f) l) = 0
     ·rw [g2] at h33
      refine sound (d := 2) tok2 mixed2 Tryz.func10 (by kernel_rfl) (by kernel_rfl) ?_
      (conv=>whnf); refine .inl ⟨_,_,byX rfl (Sound1.pl (h14) rfl),?_⟩
      (conv=>whnf); refine .inl ⟨_,_,byX rfl (Sound1.pl (h15) rfl),?_⟩
      (conv=>whnf); refine .inl ⟨_,_,byX rfl (Sound1.pl (h18) rfl),?_⟩
      (conv=>whnf); refine .inl ⟨_,_,byX rfl (Sound1.pl (h34) rfl),?_⟩
      (conv=>whnf); refine ⟨[],by kernel_rfl,?_⟩
      (conv=>whnf); refine .inl ⟨_,_,byX rfl (h17),?_⟩
      (conv=>whnf); refine .inl ⟨_,_,byX rfl (h25),?_⟩
      (conv=>whnf); refine ⟨[],by kernel_rfl,?_⟩
      (conv=>whnf); refine .inl ⟨_,_,byX rfl (h17),?_⟩
      (conv=>whnf); refine .inl ⟨_,_,byX rfl (h33),?_⟩
      (conv=>whnf); refine .inl ⟨_,_,byX rfl (h17),?_⟩
      (conv=>whnf); refine .inl ⟨_,_,byX rfl (Sound1.pl (h46) rfl),?_⟩
      (conv=>whnf); refine ⟨?_,nofun⟩
      (first | contradiction | rfl | omega)
     ·rw [smE_8 g2] at h33
      refine sound (d := 2) tok2 mixed2 Tryz.func10 (by kernel_rfl) (by kernel_rfl) ?_
      (conv=>whnf); refine .inl ⟨_,_,byX rfl (Sound1.pl (h14) rfl),?_⟩
      (conv=>whnf); refine .inl ⟨_,_,byX rfl (Sound1.pl (h15) rfl),?_⟩
      (conv=>whnf); refine .inl ⟨_,_,byX rfl (Sound1.pl (h18) rfl),?_⟩
      (conv=>whnf); refine .inl ⟨_,_,byX rfl (Sound1.pl (h34) rfl),?_⟩
      (conv=>whnf); refine ⟨[],by kernel_rfl,?_⟩
      (conv=>whnf); refine .inl ⟨_,_,byX rfl (h17),?_⟩
      (conv=>whnf); refine .inl ⟨_,_,byX rfl (h25),?_⟩
      (conv=>whnf); refine ⟨[],by kernel_rfl,?_⟩
      (conv=>whnf); refine .inl ⟨_,_,byX rfl (h17),?_⟩
      (conv=>whnf); refine .inl ⟨_,_,byX rfl (h33),?_⟩
      (conv=>whnf); refine .inl ⟨_,_,byX rfl (h17),?_⟩
      (conv=>whnf); refine .inl ⟨_,_,byX rfl (Sound1.pl (h46) rfl),?_⟩
      (conv=>whnf); refine ⟨?_,nofun⟩
      (first | contradiction | rfl | omega)
   ·rw [h0] at h18
    refine sound (d := 2) tok2 mixed2 Tryz.func10 (by kernel_rfl) (by kernel_rfl) ?_
    (conv=>whnf); refine .inl ⟨_,_,byX rfl (Sound1.pl (h14) rfl),?_⟩
    (conv=>whnf); refine .inl ⟨_,_,byX rfl (Sound1.pl (h15) rfl),?_⟩
    (conv=>whnf); refine .inl ⟨_,_,byX rfl (Sound1.pl (h18) rfl),?_⟩
    (conv=>whnf); refine .inl ⟨_,_,byX rfl (Sound1.pl (h34) rfl),?_⟩
    (conv=>whnf); refine ifB_bne (fun w1=>?_) (fun w1=>?_)
    ·(conv=>whnf); refine ⟨?_,nofun⟩
     (first | contradiction | rfl | omega)
    ·(exfalso; omega)
  ·refine sound (d := 2) tok2 mixed2 Tryz.func10 (by kernel_rfl) (by kernel_rfl) ?_
   (conv=>whnf); refine .inl ⟨_,_,byX rfl (Sound1.pl (h14) rfl),?_⟩
   (conv=>whnf); refine .inl ⟨_,_,byX rfl (Sound1.pl (h15) rfl),?_⟩
   (conv=>whnf); refine .inl ⟨_,_,byX rfl (Sound1.pl (h18) rfl),?_⟩
   (conv=>whnf); refine ifB_bne (fun w1=>?_) (fun w1=>?_)
   ·(conv=>whnf); refine ⟨?_,nofun⟩
    (first | contradiction | rfl | omega)
   ·(exfalso; omega)
 ·rw [Bool.eq_false_iff.2 hw] at h15
  refine sound (d := 2) tok2 mixed2 Tryz.func10 (by kernel_rfl) (by kernel_rfl) ?_
  (conv=>whnf); refine .inl ⟨_,_,byX rfl (Sound1.pl (h14) rfl),?_⟩
  (conv=>whnf); refine .inl ⟨_,_,byX rfl (Sound1.pl (h15) rfl),?_⟩
  (conv=>whnf); refine ⟨?_,nofun⟩
  (first | contradiction | rfl | omega)
end Go.Tr

/- The opening of a law: what an argument reads as, as abstract values, with its shape. Conditions: types of numbers, truth values, strings, slices, structs and arrays. -/
namespace Go.Tr
open Go Go.RowKit

def V2 (P : Program) (w : World) (q : Nat → Prop) : List AV → List Value → Prop
 | [],[]=>True
 | x :: xs,v :: vs=>(VT P w q x v ∧ v.oneCell' = true) ∧ V2 P w q xs vs
 | _,_=>False

def All2 {α β : Type} (p : α → β → Prop) : List α → List β → Prop
 | [],[]=>True
 | x :: xs,y :: ys=>p x y ∧ All2 p xs ys
 | _,_=>False

def TyC (P : Program) : Nat → TypeId → List AV → Prop
 | 0,_,_=>True
 | m + 1,t,xs=>match P.underlying t with
  | some .bool=>∃ b,xs = [.val (.bool b)]
  | some (.int k)=>∃ n,xs = [.val (.int k n)] ∧ inK k n
  | some .string=>∃ s : ByteArray,xs = [.val (.string s)] ∧ s.size ≤ 9223372036854775807
  | some (.slice e)=>∃ len f,xs = [.rslice (P.cellsOf e) len f] ∧ len ≤ 9223372036854775807 ∧ ∀ i,i < len → TyC P m e (f i)
  | some (.struct fs)=>∃ ps : List (List AV),xs = ps.flatten ∧ All2 (fun f p=>TyC P m f.type p) fs.toList ps
  | some (.array n e)=>∃ ps : List (List AV),xs = ps.flatten ∧ ps.length = n ∧ ∀ p ∈ ps,TyC P m e p
  | _=>False

def layF (P : Program) (g : TypeId → Bool) : List Field → Nat → Nat → Bool
 | [],off,tot=>Nat.beq off tot
 | f :: r,off,tot=>Nat.beq f.offset off && g f.type && layF P g r (off + P.cellsOf f.type) tot

def lay (P : Program) : Nat → TypeId → Bool
 | 0,_=>false
 | m + 1,t=>match P.underlying t with
  | some .bool | some (.int _) | some .string=>true
  | some (.slice e)=>Nat.blt 0 (P.cellsOf e) && lay P m e
  | some (.struct fs)=>layF P (lay P m) fs.toList 0 (P.cellsOf t)
  | some (.array n e)=>Nat.beq (P.cellsOf t) (n * P.cellsOf e) && lay P m e
  | _=>false

section
variable {H : Type} {enc : TypeId × Value → H} {P : Program} {w : World} {spare : Nat → Bool} {held : Bool} {q : Nat → Prop}

theorem V2_len : ∀ {xs : List AV} {vs : List Value},V2 P w q xs vs → xs.length = vs.length
 | [],[],_=>rfl
 | x :: xs,v :: vs,h=>by simp [V2_len h.2]
 | [],_ :: _,h=>h.elim
 | _ :: _,[],h=>h.elim

theorem V2_append : ∀ {xs : List AV} {vs : List Value} {ys : List AV} {us : List Value},V2 P w q xs vs → V2 P w q ys us → V2 P w q (xs ++ ys) (vs ++ us)
 | [],[],_,_,_,h=>h
 | _ :: _,_ :: _,_,_,h,h'=>⟨h.1,V2_append h.2 h'⟩
 | [],_ :: _,_,_,h,_=>h.elim
 | _ :: _,[],_,_,h,_=>h.elim

theorem V2_get : ∀ {xs : List AV} {vs : List Value},V2 P w q xs vs → ∀ (i : Nat) x,xs[i]? = some x → VT P w q x (vs.getD i undef) ∧ (vs.getD i undef).oneCell' = true
 | [],[],_,i,x,hx=>by simp at hx
 | y :: ys,v :: vs,h,0,x,hx=>by
  simp at hx
  subst hx
  simpa using h.1
 | y :: ys,v :: vs,h,i + 1,x,hx=>by
  have := V2_get h.2 i x (by simpa using hx)
  simpa using this
 | [],_ :: _,h,_,_,_=>h.elim
 | _ :: _,[],h,_,_,_=>h.elim

theorem mapM_cons_some {α β : Type} {f : α → Option β} {a : α} {l : List α} {r : List β} (h : (a :: l).mapM f = some r) : ∃ b bs,f a = some b ∧ l.mapM f = some bs ∧ r = b :: bs := by
 rw [List.mapM_cons] at h
 cases ha : f a with
 | none=>simp [ha] at h
 | some b =>
  cases hl : l.mapM f with
  | none=>simp [ha,hl] at h
  | some bs=>simp [ha,hl] at h; exact ⟨b,bs,rfl,rfl,h.symm⟩

theorem mapM_get {α β : Type} {f : α → Option β} : ∀ {l : List α} {r : List β},l.mapM f = some r → r.length = l.length ∧ ∀ (i : Nat) x,l[i]? = some x → ∃ y,f x = some y ∧ r[i]? = some y
 | [],r,h=>by simp at h; subst h; exact ⟨rfl,fun i x hx=>by simp at hx⟩
 | a :: l,r,h=>by
  obtain ⟨b,bs,h1,h2,rfl⟩ := mapM_cons_some h
  obtain ⟨g1,g2⟩ := mapM_get h2
  refine ⟨by simp [g1],fun i x hx=>?_⟩
  cases i with
  | zero=>simp at hx; subst hx; exact ⟨b,h1,rfl⟩
  | succ i=>simpa using g2 i x (by simpa using hx)

theorem cells_some {a : Addr} {n : Nat} {cs : List Value} (h : w.cells? 0 a n = some cs) : cs.length = n ∧ ∀ j,j < n → w.cell? (a.add j) = some (cs.getD j undef) := by
 unfold World.cells? at h
 rw [if_pos (Nat.zero_le _)] at h
 obtain ⟨h1,h2⟩ := mapM_get h
 refine ⟨by simpa using h1,fun j hj=>?_⟩
 obtain ⟨y,h3,h4⟩ := h2 j j (by simp [hj])
 rw [h3,List.getD_eq_getElem?_getD,h4]
 rfl

theorem cell_spot {a : Addr} {v : Value} (h : w.cell? a = some v) : a.spot = none ∧ a.block < w.heap.size := by
 unfold World.cell? at h
 split at h
 ·rename_i c t fr hb
  refine ⟨?_,?_⟩
  ·cases hs : a.spot with
   | none=>rfl
   | some s=>simp [hs] at h
  ·exact (Array.getElem?_eq_some_iff.1 hb).1
 ·cases h

theorem addr_add2 (blk off u j : Nat) : ((⟨blk,off,none⟩ : Addr).add u).add j = ⟨blk,off + (u + j),none⟩ := by
 unfold Addr.add
 by_cases h1 : u = 0
 ·subst h1
  by_cases h2 : j = 0
  ·subst h2; rfl
  ·simp [h2]
 ·by_cases h2 : j = 0
  ·subst h2; simp [h1]
  ·simp [h1,h2,Nat.add_assoc]

theorem fields_av {g : TypeId → List Value → Option (DataW H × List MemPlace)} {T : TypeId → List AV → Prop} {ly : TypeId → Bool}
  (ih : ∀ t,ly t = true → ∀ cs x,g t cs = some x → ∃ xs,V2 P w q xs cs ∧ T t xs) (cs : List Value) : ∀ (fs : List Field) (off : Nat) (r : List (DataW H × List MemPlace)),layF P ly fs off cs.length = true →
  (fs.mapM fun f=>g f.type ((cs.drop f.offset).take (P.cellsOf f.type))) = some r → ∃ ps : List (List AV),V2 P w q ps.flatten (cs.drop off) ∧ All2 (fun f p=>T f.type p) fs ps
 | [],off,r,hl,h=>by
  have := Nat.eq_of_beq_eq_true hl
  subst this
  exact ⟨[],by simp [V2],trivial⟩
 | f :: fs, off, r, hl, h => by
  simp only [layF,Bool.and_eq_true] at hl
  obtain ⟨⟨h1,h2⟩,h3⟩ := hl
  have e := Nat.eq_of_beq_eq_true h1
  obtain ⟨b,bs,g1,g2,rfl⟩ := mapM_cons_some h
  obtain ⟨p,p1,p2⟩ := ih _ h2 _ _ g1
  obtain ⟨ps,r1,r2⟩ := fields_av ih cs fs _ _ h3 g2
  refine ⟨p :: ps,?_,p2,r2⟩
  rw [List.flatten_cons]
  have : cs.drop off = (cs.drop f.offset).take (P.cellsOf f.type) ++ cs.drop (off + P.cellsOf f.type) := by
   rw [e,← List.drop_drop]
   exact (List.take_append_drop _ _).symm
  rw [this]
  exact V2_append p1 r1

theorem items_av {g : List Value → Option (DataW H × List MemPlace)} {T : List AV → Prop} (ih : ∀ cs x,g cs = some x → ∃ xs,V2 P w q xs cs ∧ T xs) (cs : List Value) (s n : Nat) (hn : cs.length = n * s)
  (h : ∀ i,i < n → ∃ x,g ((cs.drop (i * s)).take s) = some x) : ∀ (k i : Nat),i + k = n → ∃ ps : List (List AV),V2 P w q ps.flatten (cs.drop (i * s)) ∧ ps.length = k ∧ ∀ p ∈ ps,T p
 | 0,i,hi=>by
  have : i = n := by omega
  subst this
  refine ⟨[],?_,rfl,nofun⟩
  rw [List.drop_eq_nil_of_le (by omega)]
  exact trivial
 | k + 1, i, hi => by
  obtain ⟨x,hx⟩ := h i (by omega)
  obtain ⟨p,p1,p2⟩ := ih _ _ hx
  obtain ⟨ps,r1,r2,r3⟩ := items_av ih cs s n hn h k (i + 1) (by omega)
  refine ⟨p :: ps,?_,by simp [r2],fun y hy=>?_⟩
  ·rw [List.flatten_cons]
   have : cs.drop (i * s) = (cs.drop (i * s)).take s ++ cs.drop ((i + 1) * s) := by
    rw [Nat.succ_mul,← List.drop_drop]
    exact (List.take_append_drop _ _).symm
   rw [this]
   exact V2_append p1 r1
  ·rcases List.mem_cons.1 hy with rfl | hy
   ·exact p2
   ·exact r3 y hy

theorem trod_av (hq : ∀ b, b < w.heap.size → q b) : ∀ (m : Nat) (t : TypeId), lay P m t = true → ∀ (fuel : Nat) (cs : List Value) (x : DataW H × List MemPlace), DataW.trod enc P w 0 spare held fuel t cs = some x → ∃ xs, V2 P w q xs cs ∧ TyC P m t xs
 | 0,t,hl,_,_,_,_=>by simp [lay] at hl
 | m + 1,t,hl,0,cs,x,h=>by simp [DataW.trod] at h
 | m + 1, t, hl, fuel + 1, cs, x, h => by
  unfold lay at hl
  unfold TyC
  unfold DataW.trod at h
  cases hu : P.underlying t with
  | none=>simp [hu] at hl
  | some d =>
   simp only [hu] at hl h ⊢
   cases d with
   | bool =>
    split at h <;> first | (cases h; done) | (rename_i e; cases e; done) | skip
    cases h
    exact ⟨[.val (.bool _)],⟨⟨.val _,rfl⟩,trivial⟩,_,rfl⟩
   | int k =>
    split at h <;> first | (cases h; done) | (rename_i e; cases e; done) | skip
    rename_i e
    cases e
    split at h
    ·rename_i hk
     obtain ⟨rfl,hw⟩ := hk
     simp only [Lit.wf,Bool.and_eq_true,decide_eq_true_eq] at hw
     exact ⟨[.val (.int _ _)],⟨⟨.val _,rfl⟩,trivial⟩,_,rfl,hw⟩
    ·cases h
   | string =>
    split at h <;> first | (cases h; done) | (rename_i e; cases e; done) | skip
    split at h
    ·rename_i hs
     exact ⟨[.val (.string _)],⟨⟨.val _,rfl⟩,trivial⟩,_,rfl,hs⟩
    ·cases h
   | slice e =>
    simp only [Bool.and_eq_true] at hl
    split at h <;> first | (cases h; done) | (rename_i e; cases e; done) | skip
    ·exact ⟨[.rslice (P.cellsOf e) 0 fun _=>[]],⟨⟨.rslice0 _ _ _ _,rfl⟩,trivial⟩,_,_,rfl,by omega,fun i hi=>absurd hi (Nat.not_lt_zero i)⟩
    ·rename_i e0 a len cap e1
     cases e1
     split at h
     case isFalse=>cases h
     rename_i hb
     have hes : 0 < P.cellsOf e := Nat.le_of_ble_eq_true hl.1
     cases hM : (List.range len).mapM fun i=>(w.cells? 0 (a.add (i * P.cellsOf e)) (P.cellsOf e)).bind (DataW.trod enc P w 0 spare held fuel e) with
     | none=>rw [hM] at h; cases h
     | some elems =>
      obtain ⟨_,g2⟩ := mapM_get hM
      have hx : ∀ i,∃ xs : List AV,i < len → ∃ cs,(cs.length = P.cellsOf e ∧ ∀ j,j < P.cellsOf e → w.cell? ((a.add (i * P.cellsOf e)).add j) = some (cs.getD j undef)) ∧ V2 P w q xs cs ∧ TyC P m e xs := fun i=>by
       by_cases hi : i < len
       ·obtain ⟨y,y1,_⟩ := g2 i i (by simp [hi])
        cases hc : w.cells? 0 (a.add (i * P.cellsOf e)) (P.cellsOf e) with
        | none=>rw [hc] at y1; cases y1
        | some cs1 =>
         rw [hc] at y1
         obtain ⟨xs,x1,x2⟩ := trod_av hq m e hl.2 _ _ _ y1
         exact ⟨xs,fun _=>⟨cs1,cells_some hc,x1,x2⟩⟩
       ·exact ⟨[],fun h=>absurd h hi⟩
      have hf := fun i=>(Classical.choose_spec (hx i))
      generalize hF : (fun i=>Classical.choose (hx i)) = F
      have hf : ∀ i,i < len → ∃ cs,(cs.length = P.cellsOf e ∧ ∀ j,j < P.cellsOf e → w.cell? ((a.add (i * P.cellsOf e)).add j) = some (cs.getD j undef)) ∧ V2 P w q (F i) cs ∧ TyC P m e (F i) := fun i hi=>by
       have := Classical.choose_spec (hx i) hi
       rw [← hF]
       exact this
      refine ⟨[.rslice (P.cellsOf e) len F],⟨⟨?_,rfl⟩,trivial⟩,len,F,rfl,?_,fun i hi=>?_⟩
      ·rcases Nat.eq_zero_or_pos len with rfl | hp
       ·exact .rslice0 _ _ _ _
       ·obtain ⟨cs0,c1,_,_⟩ := hf 0 hp
        have hc0 := c1.2 0 hes
        have e0 : ((a.add (0 * P.cellsOf e)).add 0) = a := by simp [Addr.add]
        rw [e0] at hc0
        obtain ⟨s1,s2⟩ := cell_spot hc0
        obtain ⟨blk,off,spot⟩ := a
        simp only at s1 s2
        subst s1
        have hG : ∀ i,∃ cs : List Value,i < len → (cs.length = P.cellsOf e ∧ ∀ j,j < P.cellsOf e → w.cell? (((⟨blk,off,none⟩ : Addr).add (i * P.cellsOf e)).add j) = some (cs.getD j undef)) ∧ V2 P w q (F i) cs := fun i=>by
         by_cases hi : i < len
         ·obtain ⟨cs,c1,c2,_⟩ := hf i hi
          exact ⟨cs,fun _=>⟨c1,c2⟩⟩
         ·exact ⟨[],fun h=>absurd h hi⟩
        refine .rslice _ _ _ blk off cap (fun i j=>(Classical.choose (hG i)).getD j undef) hb.2.1 (hq _ s2) (fun i hi=>?_) (fun i j hi hj=>?_) (fun i j x hi hx=>?_)
        ·obtain ⟨c1,c2⟩ := Classical.choose_spec (hG i) hi
         rw [V2_len c2,c1.1]
        ·obtain ⟨c1,c2⟩ := Classical.choose_spec (hG i) hi
         have hc := c1.2 j hj
         have ea : ((⟨blk,off,none⟩ : Addr).add (i * P.cellsOf e)).add j = ⟨blk,off + (i * P.cellsOf e + j),none⟩ := by
          exact addr_add2 blk off _ j
         rw [ea] at hc
         refine ⟨hc,?_⟩
         have hlt : j < (F i).length := by rw [V2_len c2,c1.1]; exact hj
         exact (V2_get c2 j _ (List.getElem?_eq_getElem hlt)).2
        ·obtain ⟨c1,c2⟩ := Classical.choose_spec (hG i) hi
         exact (V2_get c2 j x hx).1
      ·have := hb.2.2
       unfold maxLen at this
       omega
      ·obtain ⟨_,_,_,h3⟩ := hf i hi
       exact h3
   | struct fs =>
    replace h : (if cs.length = P.cellsOf t then (fs.toList.mapM fun f=>DataW.trod enc P w 0 spare held fuel f.type ((cs.drop f.offset).take (P.cellsOf f.type))).map fun xs=>(.agg (xs.map (·.1)),xs.flatMap (·.2)) else none) = some x := h
    split at h
    case isFalse=>cases h
    rename_i hc
    cases hM : fs.toList.mapM fun f=>DataW.trod enc P w 0 spare held fuel f.type ((cs.drop f.offset).take (P.cellsOf f.type)) with
    | none=>rw [hM] at h; cases h
    | some r =>
     obtain ⟨ps,p1,p2⟩ := fields_av (T := TyC P m) (ly := lay P m) (fun t ht cs x hx=>trod_av hq m t ht fuel cs x hx) cs fs.toList 0 r (by rw [hc]; exact hl) hM
     exact ⟨ps.flatten,by simpa using p1,ps,rfl,p2⟩
   | array n e =>
    simp only [Bool.and_eq_true] at hl
    replace h : (if cs.length = P.cellsOf t then ((List.range n).mapM fun i=>DataW.trod enc P w 0 spare held fuel e ((cs.drop (i * P.cellsOf e)).take (P.cellsOf e))).map fun xs=>(.agg (xs.map (·.1)),xs.flatMap (·.2)) else none) = some x := h
    split at h
    case isFalse=>cases h
    rename_i hc
    cases hM : (List.range n).mapM fun i=>DataW.trod enc P w 0 spare held fuel e ((cs.drop (i * P.cellsOf e)).take (P.cellsOf e)) with
    | none=>rw [hM] at h; cases h
    | some r =>
     obtain ⟨_,g2⟩ := mapM_get hM
     obtain ⟨ps,p1,p2,p3⟩ := items_av (T := TyC P m e) (fun cs x hx=>trod_av hq m e hl.2 fuel cs x hx) cs (P.cellsOf e) n (by rw [hc]; exact Nat.eq_of_beq_eq_true hl.1)
      (fun i hi=>by obtain ⟨y,y1,_⟩ := g2 i i (by simp [hi]); exact ⟨y,y1⟩) n 0 (by omega)
     exact ⟨ps.flatten,by simpa using p1,ps,rfl,p2,p3⟩
   | _=>simp at hl

def TyA (P : Program) (m : Nat) (t : TypeId) (x : AV) : Prop :=
 match P.underlying t with
 | some (.struct _) | some (.array _ _)=>∃ xs,x = .agg xs ∧ TyC P m t xs
 | _=>TyC P m t [x]

theorem open_av {r : Reach} {b0 : Nat} {t : TypeId} {v : Value} {d : DataW H} {ps : List MemPlace} {m : Nat} (hl : lay P m t = true) (hq : ∀ b,b < w.heap.size → q b)
  (hv : Value.okWide P w r b0 t v) (hd : DataW.Trod enc P w 0 spare held t v d ps) : ∃ x,VT P w q x v ∧ TyA P m t x := by
 obtain ⟨fuel,hf⟩ := hd
 obtain ⟨xs,h1,h2⟩ := trod_av hq m t hl fuel _ _ hf
 have agg : ∀ cs,v = .agg cs → VT P w q (.agg xs) v := by
  rintro cs rfl
  have hlen := V2_len h1
  refine .agg xs cs (by rw [hlen]; simp [Value.cells]) (fun u hu=>?_) (fun i x hx=>?_)
  ·obtain ⟨i,hi,rfl⟩ := List.getElem_of_mem hu
   have hx : i < xs.length := by rw [hlen]; simpa [Value.cells] using hi
   have := (V2_get h1 i _ (List.getElem?_eq_getElem hx)).2
   have hi' : i < cs.size := by simpa using hi
   simpa [Value.cells,List.getD_eq_getElem?_getD,hi'] using this
  ·have := (V2_get h1 i x hx).1
   simpa [Value.cells,List.getD_eq_getElem?_getD,Array.getD_eq_getD_getElem?] using this
 have one : ∀ u,v.cells.toList = [u] → v = u → ∃ x,VT P w q x v ∧ TyC P m t [x] := by
  rintro u e rfl
  rw [e] at h1
  match xs,h1,h2 with
  | [x],h1,h2=>exact ⟨x,h1.1.1,h2⟩
 unfold TyA
 unfold Value.okWide at hv
 split
 ·rename_i fs hu
  simp only [hu] at hv
  obtain ⟨cs,e,_,_⟩ := hv
  exact ⟨_,agg cs e,xs,rfl,h2⟩
 ·rename_i n e hu
  simp only [hu] at hv
  obtain ⟨cs,e,_,_⟩ := hv
  exact ⟨_,agg cs e,xs,rfl,h2⟩
 ·rename_i n1 n2
  have hc : Cell.okWide P w r b0 t v := by
   split at hv
   ·rename_i hu; exact absurd hu (n1 _)
   ·rename_i hu; exact absurd hu (n2 _ _)
   ·exact hv
  cases v with
  | agg cs =>
   simp only [Cell.okWide] at hc
   split at hc <;> first | (rename_i e _; cases e; done) | (rename_i e; cases e; done) | (simp [Cell.ok] at hc)
  | tuple cs =>
   simp only [Cell.okWide] at hc
   split at hc <;> first | (rename_i e _; cases e; done) | (rename_i e; cases e; done) | (simp [Cell.ok] at hc)
  | _=>exact one _ rfl rfl
end
end Go.Tr

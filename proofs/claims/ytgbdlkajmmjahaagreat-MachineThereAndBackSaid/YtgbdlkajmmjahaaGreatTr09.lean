/- Plain laws of chapter 5: the curve of an opening; what lies on a line, with bounds. Conditions: none. -/
import Derived.Test.YtgbdlkajmmjahaaGreatTr08
set_option linter.unusedSectionVars false
set_option linter.unnecessarySimpa false
set_option linter.unusedVariables false
set_option linter.unusedSimpArgs false

namespace Go.Tr
open Go Go.Proofs
set_option maxRecDepth 20000
set_option maxHeartbeats 8000000

def rwI (t : List MRow) (f : Int × Int) : Nat → Nat → Nat
  | 0,i=>i
  | n + 1,i=>if i + 2 < t.length ∧ (t.getD (i + 1) r0).o * f.2 ≤ f.1 then rwI t f n (i + 1) else i
def rwK (t : List MRow) (f : Int × Int) : Nat := rwI t f t.length 0
theorem rwI_go {t : List MRow} {f : Int × Int} {n i : Nat} (hn : i < n) (h : i + 2 < t.length ∧ (t.getD (i + 1) r0).o * f.2 ≤ f.1) : rwI t f (n - i) i = rwI t f (n - (i + 1)) (i + 1) := by
  obtain ⟨m,e⟩ : ∃ m,n - i = m + 1 := ⟨n - i - 1,by omega⟩
  rw [e,rwI,if_pos h,show n - (i + 1) = m by omega]
theorem rwI_stop {t : List MRow} {f : Int × Int} (n i : Nat) (h : ¬ (i + 2 < t.length ∧ (t.getD (i + 1) r0).o * f.2 ≤ f.1)) : rwI t f n i = i := by
 cases n with
 | zero=>rfl
 | succ n=>rw [rwI,if_neg h]
structure OpOk (t : List MRow) (f : Int × Int) : Prop where
 den : 1 ≤ f.2 ∧ f.2 ≤ 10
 lo : (t.getD 0 r0).o * f.2 ≤ f.1
 hi : f.1 ≤ (t.getD (t.length - 1) r0).o * f.2
theorem rwI_ok {t : List MRow} {f : Int × Int} : ∀ (n i : Nat),t.length ≤ n + i → i + 1 < t.length → (t.getD i r0).o * f.2 ≤ f.1 → f.1 ≤ (t.getD (t.length - 1) r0).o * f.2 →
  rwI t f n i + 1 < t.length ∧ (t.getD (rwI t f n i) r0).o * f.2 ≤ f.1 ∧ f.1 ≤ (t.getD (rwI t f n i + 1) r0).o * f.2
 | 0,i,hn,hi,_,_=>by omega
 | n + 1, i, hn, hi, h1, h2 => by
  by_cases h : i + 2 < t.length ∧ (t.getD (i + 1) r0).o * f.2 ≤ f.1
  ·rw [rwI,if_pos h]
   exact rwI_ok n (i + 1) (by omega) (by omega) h.2 h2
  ·rw [rwI,if_neg h]
   refine ⟨hi,h1,?_⟩
   by_cases h3 : i + 2 < t.length
   ·have : ¬ (t.getD (i + 1) r0).o * f.2 ≤ f.1 := fun e=>h ⟨h3,e⟩
    omega
   ·rw [show i + 1 = t.length - 1 by omega]; exact h2
def crvA (t : List MRow) (f : Int × Int) : List P3 := (t.getD (rwK t f) r0).ps
def crvB (t : List MRow) (f : Int × Int) : List P3 := (t.getD (rwK t f + 1) r0).ps
def crvP (t : List MRow) (f : Int × Int) : Int := f.1 - (t.getD (rwK t f) r0).o * f.2
def crvD (t : List MRow) (f : Int × Int) : Int := ((t.getD (rwK t f + 1) r0).o - (t.getD (rwK t f) r0).o) * f.2
def crvR (t : List MRow) (f : Int × Int) : List Nm := rawN (crvA t f) (crvB t f) (crvP t f) (crvD t f) (crvA t f).length
def crvN (t : List MRow) (f : Int × Int) : List Nm := compL (crvR t f)
def crvQ (t : List MRow) (f : Int × Int) : List Q3 := compL (rawQ (crvA t f) (crvB t f) (Rat.divInt (crvP t f) (crvD t f)) (crvA t f).length)
theorem rwK_ok {t : List MRow} {f : Int × Int} (hT : TblOk t) (hO : OpOk t f) : rwK t f + 1 < t.length ∧ (t.getD (rwK t f) r0).o * f.2 ≤ f.1 ∧ f.1 ≤ (t.getD (rwK t f + 1) r0).o * f.2 :=
  rwI_ok t.length 0 (by omega) (by have := hT.n; omega) hO.lo hO.hi
theorem mul_rng {x y A B : Int} (hx : 1 ≤ x ∧ x ≤ A) (hy : 1 ≤ y ∧ y ≤ B) : 1 ≤ x * y ∧ x * y ≤ A * B := by
 have h1 : 1 * 1 ≤ x * y := Int.mul_le_mul hx.1 hy.1 (by decide) (by omega)
 have h2 : x * y ≤ A * B := Int.mul_le_mul hx.2 hy.2 (by omega) (by omega)
 omega
theorem crv_den {t : List MRow} {f : Int × Int} (hT : TblOk t) (hO : OpOk t f) : 1 ≤ crvD t f ∧ crvD t f ≤ 200 := by
 have h := rwK_ok hT hO
 have ho := hT.ord (rwK t f) h.1
 exact mul_rng (A := 20) (B := 10) (by omega) hO.den
theorem crv_part {t : List MRow} {f : Int × Int} (hT : TblOk t) (hO : OpOk t f) : 0 ≤ crvP t f ∧ crvP t f ≤ crvD t f := by
 have h := rwK_ok hT hO
 unfold crvP crvD
 rw [Int.sub_mul]
 omega
theorem crv_len {t : List MRow} {f : Int × Int} (hT : TblOk t) (hO : OpOk t f) : (crvA t f).length = npT t ∧ (crvB t f).length = npT t := by
  have h := rwK_ok hT hO
  exact ⟨hT.len _ (by omega),hT.len _ h.1⟩
theorem ptOk_0 : PtOk p0 := by unfold PtOk p0; decide
theorem TblOk.pt {t : List MRow} (hT : TblOk t) (i k : Nat) (hi : i < t.length) : PtOk ((t.getD i r0).ps.getD k p0) := by
 by_cases hk : k < npT t
 ·exact hT.pts i k hi hk
 ·have := hT.len i hi
  rw [List.getD_eq_getElem?_getD,List.getElem?_eq_none (by omega)]
  exact ptOk_0
theorem crv_pts {t : List MRow} {f : Int × Int} (hT : TblOk t) (hO : OpOk t f) (k : Nat) : PtOk ((crvA t f).getD k p0) ∧ PtOk ((crvB t f).getD k p0) := by
  have h := rwK_ok hT hO
  exact ⟨hT.pt _ k (by omega),hT.pt _ k h.1⟩
structure NmB (d : Int) (n : Nm) : Prop where
 d : 0 < n.2 ∧ n.2 ≤ d
 h : -(1000 * n.2) ≤ n.1.1 ∧ n.1.1 ≤ 1000 * n.2
 q : -(1000 * n.2) ≤ n.1.2.1 ∧ n.1.2.1 ≤ 1000 * n.2
 w : -(10000 * n.2) ≤ n.1.2.2 ∧ n.1.2.2 ≤ 10000 * n.2
theorem mixB {x y part den M : Int} (hx : -M ≤ x ∧ x ≤ M) (hy : -M ≤ y ∧ y ≤ M) (hp : 0 ≤ part ∧ part ≤ den) : -(M * den) ≤ x * den + (y - x) * part ∧ x * den + (y - x) * part ≤ M * den := by
 have h1 := Int.mul_nonneg (a := M - x) (b := den - part) (by omega) (by omega)
 have h2 := Int.mul_nonneg (a := M - y) (b := part) (by omega) (by omega)
 have h3 := Int.mul_nonneg (a := M + x) (b := den - part) (by omega) (by omega)
 have h4 := Int.mul_nonneg (a := M + y) (b := part) (by omega) (by omega)
 have e1 : M * den - (x * den + (y - x) * part) = (M - x) * (den - part) + (M - y) * part := by grind
 have e2 : M * den + (x * den + (y - x) * part) = (M + x) * (den - part) + (M + y) * part := by grind
 omega
theorem btwN_ok {p q : P3} {part den d : Int} (hp : PtOk p) (hq : PtOk q) (h : 0 ≤ part ∧ part ≤ den) (hd : 1 ≤ den ∧ den ≤ d) : NmB d (btwN p q part den) := by
  unfold PtOk at hp hq
  exact ⟨⟨by show 0 < den; omega,hd.2⟩,mixB hp.1 hq.1 h,mixB hp.2.1 hq.2.1 h,mixB hp.2.2 hq.2.2 h⟩
theorem rawN_ok {A B : List P3} {part den d : Int} (hA : ∀ k,PtOk (A.getD k p0)) (hB : ∀ k,PtOk (B.getD k p0)) (h : 0 ≤ part ∧ part ≤ den) (hd : 1 ≤ den ∧ den ≤ d) : ∀ k,∀ n ∈ rawN A B part den k,NmB d n
 | 0,n,hn=>by cases hn
 | k + 1, n, hn => by
  unfold rawN at hn
  rcases List.mem_append.1 hn with hn | hn
  ·exact rawN_ok hA hB h hd k n hn
  ·rcases List.mem_cons.1 hn with e | hn
   ·rw [e]; exact btwN_ok (hA _) (hB _) h hd
   ·split at hn
    ·rw [List.mem_singleton.1 hn]; exact btwN_ok (hA _) (hB _) h hd
    ·cases hn
theorem rawN_len (A B : List P3) (part den : Int) : ∀ k,(rawN A B part den k).length ≤ 2 * k
 | 0=>Nat.le_refl _
 | k + 1=>by
  unfold rawN
  have := rawN_len A B part den k
  rw [List.length_append,List.length_cons]
  split
  ·show _ + (1 + 1) ≤ _; omega
  ·show _ + (0 + 1) ≤ _; omega
theorem crvR_ok {t : List MRow} {f : Int × Int} (hT : TblOk t) (hO : OpOk t f) : ∀ n ∈ crvR t f,NmB 200 n :=
  rawN_ok (fun k=>(crv_pts hT hO k).1) (fun k=>(crv_pts hT hO k).2) (crv_part hT hO) (crv_den hT hO) _
theorem crvN_ok {t : List MRow} {f : Int × Int} (hT : TblOk t) (hO : OpOk t f) : ∀ n ∈ crvN t f,NmB 200 n := fun n hn=>crvR_ok hT hO n ((compL_mem _ _).1 hn)
theorem crvN_den {t : List MRow} {f : Int × Int} : ∀ n ∈ crvN t f,n.2 = crvD t f := fun n hn=>rawN_den _ _ _ _ _ n ((compL_mem _ _).1 hn)
theorem crvR_len {t : List MRow} {f : Int × Int} (hT : TblOk t) (hO : OpOk t f) : (crvR t f).length ≤ 12 := by
 have h := rawN_len (crvA t f) (crvB t f) (crvP t f) (crvD t f) (crvA t f).length
 have h1 := (crv_len hT hO).1
 have h2 := hT.np
 unfold crvR
 omega
theorem crvN_len {t : List MRow} {f : Int × Int} (hT : TblOk t) (hO : OpOk t f) : (crvN t f).length ≤ 12 := Nat.le_trans (compL_len _) (crvR_len hT hO)
theorem crv_map {t : List MRow} {f : Int × Int} (hT : TblOk t) (hO : OpOk t f) : (crvN t f).map nmQ = crvQ t f := by
 have hd := crv_den hT hO
 unfold crvQ crvN crvR
 rw [← raw_map _ _ _ (show crvD t f ≠ 0 by omega),compL_map nmQ]
 intro a ha b hb e
 have h1 := rawN_den _ _ _ _ _ a ha
 have h2 := rawN_den _ _ _ _ _ b hb
 exact nmQ_inj (h1.trans h2.symm) (by omega) e
theorem absM {a b : Int} {A B : Nat} (ha : a.natAbs ≤ A) (hb : b.natAbs ≤ B) : (a * b).natAbs ≤ A * B := by
  rw [Int.natAbs_mul]; exact Nat.mul_le_mul ha hb
def LnOk (l : Ln) : Prop := (-100 ≤ l.1 ∧ l.1 ≤ 100) ∧ (-100 ≤ l.2.1 ∧ l.2.1 ≤ 100) ∧ (-100 ≤ l.2.2.1 ∧ l.2.2.1 ≤ 100) ∧ -1000000 ≤ l.2.2.2 ∧ l.2.2.2 ≤ 1000000
theorem side_b {l : Ln} (hl : LnOk l) {n : Nm} (hn : NmB 200 n) : ((l.1 * n.1.1).natAbs ≤ 20000000 ∧ (l.2.1 * n.1.2.1).natAbs ≤ 20000000 ∧ (l.2.2.1 * n.1.2.2).natAbs ≤ 200000000 ∧ (l.2.2.2 * n.2).natAbs ≤ 200000000) ∧ (sideN l n).natAbs ≤ 440000000 := by
 obtain ⟨hd,h1,h2,h3⟩ := hn
 unfold LnOk at hl
 have a1 := absM (a := l.1) (b := n.1.1) (A := 100) (B := 200000) (by omega) (by omega)
 have a2 := absM (a := l.2.1) (b := n.1.2.1) (A := 100) (B := 200000) (by omega) (by omega)
 have a3 := absM (a := l.2.2.1) (b := n.1.2.2) (A := 100) (B := 2000000) (by omega) (by omega)
 have a4 := absM (a := l.2.2.2) (b := n.2) (A := 1000000) (B := 200) (by omega) (by omega)
 refine ⟨⟨a1,a2,a3,a4⟩,?_⟩
 unfold sideN
 omega
theorem crs_conv {x y a b M d : Int} (hx : -(M * d) ≤ x ∧ x ≤ M * d) (hy : -(M * d) ≤ y ∧ y ≤ M * d) (h : crossB a b) :
  (0 < a - b → -(M * (d * (a - b))) ≤ x * (a - b) + (y - x) * a ∧ x * (a - b) + (y - x) * a ≤ M * (d * (a - b))) ∧
  (a - b < 0 → -(M * -(d * (a - b))) ≤ -(x * (a - b) + (y - x) * a) ∧ -(x * (a - b) + (y - x) * a) ≤ M * -(d * (a - b))) := by
 unfold crossB at h
 rcases h with ⟨ha,hb⟩ | ⟨ha,hb⟩
 ·have h1 := Int.mul_nonneg (a := M * d - x) (b := b) (by omega) (by omega)
  have h2 := Int.mul_nonneg (a := M * d - y) (b := -a) (by omega) (by omega)
  have h3 := Int.mul_nonneg (a := M * d + x) (b := b) (by omega) (by omega)
  have h4 := Int.mul_nonneg (a := M * d + y) (b := -a) (by omega) (by omega)
  refine ⟨fun h=>by omega,fun _=>?_⟩
  have e1 : M * -(d * (a - b)) + (x * (a - b) + (y - x) * a) = (M * d - x) * b + (M * d - y) * -a + 0 := by grind
  have e2 : M * -(d * (a - b)) - (x * (a - b) + (y - x) * a) = (M * d + x) * b + (M * d + y) * -a + 0 := by grind
  omega
 ·have h1 := Int.mul_nonneg (a := M * d - x) (b := -b) (by omega) (by omega)
  have h2 := Int.mul_nonneg (a := M * d - y) (b := a) (by omega) (by omega)
  have h3 := Int.mul_nonneg (a := M * d + x) (b := -b) (by omega) (by omega)
  have h4 := Int.mul_nonneg (a := M * d + y) (b := a) (by omega) (by omega)
  refine ⟨fun _=>?_,fun h=>by omega⟩
  have e1 : M * (d * (a - b)) - (x * (a - b) + (y - x) * a) = (M * d - x) * -b + (M * d - y) * a := by grind
  have e2 : M * (d * (a - b)) + (x * (a - b) + (y - x) * a) = (M * d + x) * -b + (M * d + y) * a := by grind
  omega
theorem crsN_b {d : Int} {p q : Nm} {a b : Int} (hp : NmB d p) (hq : NmB d q) (he : p.2 = q.2) (h : crossB a b) {K : Int} (hK : p.2 * (a - b) ≤ K ∧ -(p.2 * (a - b)) ≤ K) : NmB K (crsN p q a b) := by
 have q1 := hq.h
 have q2 := hq.q
 have q3 := hq.w
 rw [← he] at q1 q2 q3
 have c1 := crs_conv hp.h q1 h
 have c2 := crs_conv hp.q q2 h
 have c3 := crs_conv hp.w q3 h
 have hab : a - b ≠ 0 := by unfold crossB at h; omega
 have h0 : 0 < p.2 := hp.d.1
 unfold crsN
 dsimp only
 by_cases hs : p.2 * (a - b) < 0
 ·have hneg : a - b < 0 := Classical.byContradiction fun e=>by
   have := Int.mul_nonneg (a := p.2) (b := a - b) (by omega) (by omega)
   omega
  rw [if_pos hs]
  exact ⟨⟨by show 0 < -(p.2 * (a - b)); omega,hK.2⟩,c1.2 hneg,c2.2 hneg,c3.2 hneg⟩
 ·have hpos : 0 < a - b := Classical.byContradiction fun e=>by
   have := Int.mul_neg_of_pos_of_neg h0 (show a - b < 0 by omega)
   omega
  have := Int.mul_pos h0 hpos
  rw [if_neg hs]
  exact ⟨⟨this,hK.1⟩,c1.1 hpos,c2.1 hpos,c3.1 hpos⟩
theorem NmB.mono {d e : Int} {n : Nm} (h : NmB d n) (hd : d ≤ e) : NmB e n := ⟨⟨h.d.1,Int.le_trans h.d.2 hd⟩,h.h,h.q,h.w⟩
theorem getD_memG {α : Type} {l : List α} {k : Nat} {d : α} (h : k < l.length) : l.getD k d ∈ l := by
  rw [List.getD_eq_getElem?_getD,List.getElem?_eq_getElem h]; exact List.getElem_mem h
structure CvOk (L : List Nm) : Prop where
 len : L.length ≤ 12
 b : ∀ n ∈ L,NmB 200 n
 d : ∀ n ∈ L,∀ m ∈ L,n.2 = m.2
theorem crv_ok {t : List MRow} {f : Int × Int} (hT : TblOk t) (hO : OpOk t f) : CvOk (crvN t f) := ⟨crvN_len hT hO,crvN_ok hT hO,fun n hn m hm=>(crvN_den n hn).trans (crvN_den m hm).symm⟩
theorem crs_b2 {L : List Nm} (hL : CvOk L) {l : Ln} (hl : LnOk l) {k : Nat} (hk : k + 1 < L.length) (hc : crossB (sideN l (L.getD k n0)) (sideN l (L.getD (k + 1) n0))) :
  NmB 176000000000 (crsN (L.getD k n0) (L.getD (k + 1) n0) (sideN l (L.getD k n0)) (sideN l (L.getD (k + 1) n0))) := by
 have m1 := getD_memG (d := n0) (show k < L.length by omega)
 have m2 := getD_memG (d := n0) hk
 have b1 := hL.b _ m1
 have s1 := (side_b hl b1).2
 have s2 := (side_b hl (hL.b _ m2)).2
 have h := absM (a := (L.getD k n0).2) (b := sideN l (L.getD k n0) - sideN l (L.getD (k + 1) n0)) (A := 200) (B := 880000000) (by have := b1.d; omega) (by omega)
 exact crsN_b b1 (hL.b _ m2) (hL.d _ m1 _ m2) hc (by omega)
theorem onN_ok {L : List Nm} (hL : CvOk L) {l : Ln} (hl : LnOk l) : ∀ k,k ≤ L.length → ∀ n ∈ onN L l k,NmB 176000000000 n
 | 0,_,n,hn=>by cases hn
 | k + 1, hk, n, hn => by
  unfold onN at hn
  rcases List.mem_append.1 hn with hn | hn
  ·exact onN_ok hL hl k (by omega) n hn
  ·rcases List.mem_append.1 hn with hn | hn
   ·split at hn
    ·rw [List.mem_singleton.1 hn]
     exact (hL.b _ (getD_memG (by omega))).mono (by decide)
    ·cases hn
   ·split at hn
    ·rename_i h
     rw [List.mem_singleton.1 hn]
     exact crs_b2 hL hl h.1 h.2
    ·cases hn
theorem onN_len (L : List Nm) (l : Ln) : ∀ k,(onN L l k).length ≤ k
 | 0=>Nat.le_refl _
 | k + 1 => by
  unfold onN
  have := onN_len L l k
  rw [List.length_append,List.length_append]
  by_cases h : sideN l (L.getD k n0) = 0
  ·rw [if_pos h,if_neg (fun e=>by have := e.2; unfold crossB at this; omega)]
   show _ + (1 + 0) ≤ _
   omega
  ·rw [if_neg h]
   split
   ·show _ + (0 + 1) ≤ _; omega
   ·show _ + (0 + 0) ≤ _; omega
def onL (L : List Nm) (l : Ln) : List Nm := onN L l L.length
theorem onL_len {L : List Nm} (hL : CvOk L) (l : Ln) : (onL L l).length ≤ 12 := Nat.le_trans (onN_len L l _) hL.len
theorem onL_ok {L : List Nm} (hL : CvOk L) {l : Ln} (hl : LnOk l) : ∀ n ∈ onL L l,NmB 176000000000 n := onN_ok hL hl _ (Nat.le_refl _)
def onS (L : List Q3) (l : Ln) : List Q3 := onQ L l L.length
theorem onL_map {L : List Nm} (hL : CvOk L) (l : Ln) : (onL L l).map nmQ = onS (L.map nmQ) l := by
 unfold onL onS
 rw [List.length_map]
 cases h : L with
 | nil=>rfl
 | cons x r =>
  rw [← h]
  have hx : x ∈ L := by rw [h]; simp
  exact on_map L l (hL.b x hx).d.1 (fun n hn=>hL.d n hn x hx) _ (Nat.le_refl _)
def sm3 (q : Q3) : Prop := smR q.1 ∧ smR q.2.1 ∧ smR q.2.2
instance (q : Q3) : Decidable (sm3 q) := inferInstanceAs (Decidable (smR q.1 ∧ smR q.2.1 ∧ smR q.2.2))
def fr3 (q : Q3) : F3 := (frI q.1,frI q.2.1,frI q.2.2)
theorem fr3_inj {p q : Q3} (h : fr3 p = fr3 q) : p = q := by
  exact Prod.ext (frI_inj (congrArg Prod.fst h)) (Prod.ext (frI_inj (congrArg (fun x=>x.2.1) h)) (frI_inj (congrArg (fun x=>x.2.2) h)))
def allS (L : List Q3) : Bool := L.all fun q=>decide (sm3 q)
theorem allS_mem {L M : List Q3} (h : ∀ x,x ∈ L ↔ x ∈ M) : allS L = allS M := by
 rw [Bool.eq_iff_iff]
 unfold allS
 rw [List.all_eq_true,List.all_eq_true]
 exact ⟨fun g x hx=>g x ((h x).2 hx),fun g x hx=>g x ((h x).1 hx)⟩
theorem allS_at {L : List Q3} (h : allS L = true) {k : Nat} (hk : k < L.length) : sm3 (L.getD k q0) :=
  of_decide_eq_true (List.all_eq_true.1 h _ (getD_memG hk))
theorem allS_no {L : List Q3} {k : Nat} (hk : k < L.length) (h : ¬ sm3 (L.getD k q0)) : allS L = false := by
 unfold allS
 rw [List.all_eq_false]
 exact ⟨_,getD_memG hk,by simpa using h⟩
theorem allS_yes {L : List Q3} (h : ∀ k,k < L.length → sm3 (L.getD k q0)) : allS L = true := by
 unfold allS
 rw [List.all_eq_true]
 intro x hx
 obtain ⟨j,hj,e⟩ := List.getElem_of_mem hx
 have := h j hj
 rw [List.getD_eq_getElem?_getD,List.getElem?_eq_getElem hj] at this
 rw [← e]
 exact decide_eq_true this
def smL (L : List Q3) : List Q3 := if allS L = true then L else []
def smE (L : List Q3) : Int := if allS L = true then 0 else 8
def spL (L : List Q3) (l : Ln) : List Q3 := putAll lt3 (onS L l)
theorem spL_sort {L s : List Q3} {l : Ln} (hp : s.Perm (onS L l)) (hs : s.Pairwise fun a b=>¬ lt3 b a) : compL s = spL L l := sort_put lt3_irr lt3_tr lt3_tri hp hs
theorem spL_all (L : List Q3) (l : Ln) : allS (spL L l) = allS (onS L l) := allS_mem fun x=>putAll_mem _ _
end Go.Tr

/- Plain laws: doubles taken out in place; a store into a row. Conditions: none. -/
namespace Go.Tr
open Go Go.Proofs
set_option maxRecDepth 20000
set_option maxHeartbeats 8000000

section
variable {α : Type} [DecidableEq α] {d : α}
theorem compL_one {l : List α} (h : l.length < 2) : compL l = l := by
 match l,h with
 | [],_=>rfl
 | [x],_=>rfl
theorem take_succG {l : List α} {k : Nat} (h : k < l.length) : l.take (k + 1) = l.take k ++ [l.getD k d] := by
  rw [List.getD_eq_getElem?_getD,List.getElem?_eq_getElem h]; simp
theorem comp_go {l : List α} {k : Nat} (h1 : 1 ≤ k) (h : k < l.length) (he : compL (l.take k) = l.take k) (hn : ¬ l.getD k d = l.getD (k - 1) d) : compL (l.take (k + 1)) = l.take (k + 1) := by
  rw [compL_take (d := d) h1 h,if_neg hn,he,take_succG (d := d) h]
structure CmpI (d : α) (L a : List α) (k p : Nat) : Prop where
 len : a.length = L.length
 pre : a.take k = compL (L.take p)
 rest : ∀ j,p ≤ j + 1 → a.getD j d = L.getD j d
 kp : 1 ≤ k ∧ k + 1 ≤ p ∧ p ≤ L.length
theorem cmpI_start {L : List α} {k : Nat} (h1 : 1 ≤ k) (h : k < L.length) (he : compL (L.take k) = L.take k) (hd : L.getD k d = L.getD (k - 1) d) : CmpI d L L k (k + 1) :=
  ⟨rfl,by rw [compL_take (d := d) h1 h,if_pos hd,he],fun _ _=>rfl,h1,Nat.le_refl _,h⟩
theorem CmpI.same {L a : List α} {k p : Nat} (h : CmpI d L a k p) (hp : p < L.length) (he : a.getD p d = a.getD (p - 1) d) : CmpI d L a k (p + 1) := by
 have hk := h.kp
 rw [h.rest p (by omega),h.rest (p - 1) (by omega)] at he
 exact ⟨h.len,by rw [compL_take (d := d) (by omega) hp,if_pos he]; exact h.pre,fun j hj=>h.rest j (by omega),hk.1,by omega,hp⟩
theorem CmpI.put {L a : List α} {k p : Nat} (h : CmpI d L a k p) (hp : p < L.length) (he : ¬ a.getD p d = a.getD (p - 1) d) : CmpI d L (a.set k (a.getD p d)) (k + 1) (p + 1) := by
 have hk := h.kp
 have hl := h.len
 rw [h.rest p (by omega),h.rest (p - 1) (by omega)] at he
 refine ⟨by rw [List.length_set]; exact hl,?_,fun j hj=>?_,by omega,by omega,hp⟩
 ·rw [compL_take (d := d) (by omega) hp,if_neg he,← h.pre,h.rest p (by omega)]
  have hkl : k < (a.set k (L.getD p d)).length := by rw [List.length_set]; omega
  rw [take_succG (d := d) hkl,getD_setG,if_pos ⟨rfl,by omega⟩,List.take_set_of_le (Nat.le_refl k)]
 ·rw [getD_setG,if_neg (by omega)]
  exact h.rest j (by omega)
theorem CmpI.fin {L a : List α} {k p : Nat} (h : CmpI d L a k p) (hp : ¬ p < L.length) : k = (compL L).length ∧ ∀ i,i < k → a.getD i d = (compL L).getD i d := by
 have hk := h.kp
 have e : p = L.length := by omega
 have hpre := h.pre
 rw [e,List.take_length] at hpre
 refine ⟨by rw [← hpre,List.length_take,h.len]; omega,fun i hi=>?_⟩
 rw [← hpre]
 simp [List.getD_eq_getElem?_getD,List.getElem?_take,hi]
end
theorem splice_all : ∀ {A B : List AV},A.length = B.length → splice A 0 B = B
 | [],[],_=>rfl
 | x :: r,y :: s,h=>by
  show y :: splice r 0 s = y :: s
  rw [splice_all (by simpa using h)]
theorem rowG {α : Type} (g : α → List AV) {n : Nat} (hg : ∀ a,(g a).length = n) (d : α) (x : List α) (a i : Nat) (v : α) (ha : a < x.length) : g ((x.set a v).getD i d) = bif Nat.beq i (0 + a) then splice (g (x.getD i d)) 0 (g v) else g (x.getD i d) := by
 rw [getD_setG,Nat.zero_add]
 cases e : Nat.beq i a with
 | true =>
  rw [if_pos ⟨Nat.eq_of_beq_eq_true e,ha⟩]
  exact (splice_all ((hg _).trans (hg _).symm)).symm
 | false=>rw [if_neg (fun h=>Nat.ne_of_beq_eq_false e h.1)]; rfl
end Go.Tr

/- Contracts of chapter 5: copies of tables; the errors of the reference. Conditions: none. -/
-- seat YtgbdlkajmmjahaaGreat
namespace Go.Tr
open Go Go.Proofs
set_option maxRecDepth 20000
set_option maxHeartbeats 8000000

theorem S97 (t : List MRow) (ht : Fit t) : SP 97 [tblA t] (i64 (chkM t).2) false := by
 have h := S154 t ht
 refine sound (d := 2) tok2 mixed2 Tryz.func97 (by kernel_rfl) (by kernel_rfl) ?_
 (conv=>whnf); refine .inl ⟨_,_,byX rfl (Sound1.pl (h) rfl),?_⟩
 (conv=>whnf); refine ⟨?_,nofun⟩
 (first | rfl)
theorem row_le {fl : Bool} (hf : fl = true) {a b x y : AV} (h1 : a = b) (h2 : AVE 5 x y) : RowLe fl [a,x] [b,y] :=
 ⟨hf,rfl,fun j u v hu hv=>by
  match j,hu,hv with
  | 0,hu,hv=>cases hu; cases hv; exact .inl h1
  | 1,hu,hv=>cases hu; cases hv; exact .inr h2⟩
theorem cp_row {o : Nat → Int} {P : Nat → List P3} {k i : Nat} (hi : i < k + 1) {bs : List Nat} {H : Hp} {x : AV} (hx : AVE 5 (fzIn bs H x) (ptsA (P k))) :
  RowLe true ((if i < k then [i64 (o (0 + i)),ptsA (P (0 + i))] else List.take 2 (List.drop ((i - k) * 2) [i64 (o k),x])).map (fzIn bs H)) [i64 (o i),ptsA (P i)] := by
 by_cases h : i < k
 ·rw [if_pos h,Nat.zero_add]
  exact row_le rfl rfl ⟨rfl,rfl,fun _ _=>rfl⟩
 ·obtain rfl : i = k := by omega
  rw [if_neg h,Nat.sub_self,Nat.zero_mul]
  exact row_le rfl rfl hx
theorem S71 (t : List MRow) (ht : Fit t) : SP 71 [rowsA t] (rowsA t) false := by
 have h1 := ht.1
 refine sound (d := 2) tok2 mixed2 Tryz.func71 (by kernel_rfl) (by kernel_rfl) ?_
 (conv=>whnf); refine ⟨[.slot 3 2,.fzl 0 [1,2,3]],[0,3,4],fun st mq=>∃ (k : Nat),(k ≤ t.length) ∧ st = ⟨[(0,rowsA t),(3,.oslice 0 0 0 k none),(4,i64 k)],⟨[⟨2,k,fun i=>[i64 (t.getD i r0).o,ptsA (t.getD i r0).ps],0,false,true,false⟩],[],none,0⟩,[]⟩ ∧ mq = t.length - k,
  ⟨_,_,⟨0,by omega,rfl,rfl⟩,⟨⟨.inl rfl,rfl,rfl,rfl⟩,⟨⟨rfl,rfl,rfl,rfl,fun _=>rfl,fun i h=>.inl (absurd h (Nat.not_lt_zero i))⟩,trivial⟩,trivial⟩⟩,?_⟩
 rintro s0 m0 ⟨k,hk,rfl,hmeas⟩
 by_cases hlt : k < t.length
 ·have hl := ht.2 k
  have hb : Tryz.prog.types[152].bytes = 24 := by kernel_rfl
  have hneed : (0 < 0 + (t.getD (k : Int).toNat r0).ps.length ∨ (t.getD (k : Int).toNat r0).ps.length = 0 ∧ 0 = 0) ∧ (0 + (t.getD (k : Int).toNat r0).ps.length) * (Tryz.prog.types[152].bytes + 1) ≤ 1000000000000 := by
   rw [hb]
   show (0 < 0 + (t.getD k r0).ps.length ∨ (t.getD k r0).ps.length = 0 ∧ 0 = 0) ∧ (0 + (t.getD k r0).ps.length) * (24 + 1) ≤ 1000000000000
   omega
  conv=>whnf
  (conv=>whnf); refine ifB_dec (fun w1=>?_) (fun w1=>?_)
  ·conv=>whnf
   (conv=>whnf); refine ⟨[],by kernel_rfl,?_⟩
   conv=>whnf
   (conv=>whnf); refine ⟨⟨(by omega),(by omega)⟩,?_⟩
   conv=>whnf
   (conv=>whnf); refine ⟨⟨(by omega),(by omega)⟩,?_⟩
   conv=>whnf
   (conv=>whnf); refine .inl ?_
   conv=>whnf
   (conv=>whnf); refine ⟨by assumption,?_⟩
   conv=>whnf
   (conv=>whnf); refine .inl ?_
   conv=>whnf
   (conv=>whnf); refine ⟨(by show _ * (32 + 1) ≤ _; omega),?_⟩
   conv=>whnf
   (conv=>whnf); refine ⟨inK64 (by omega) (by omega),?_⟩
   conv=>whnf
   (conv=>whnf); refine ⟨_,_,⟨⟨k + 1,by omega,rfl,rfl⟩,by omega⟩,⟨⟨.inl rfl,rfl,rfl,rfl⟩,⟨⟨rfl,rfl,rfl,rfl,fun _=>rfl,fun i hi=>.inr (cp_row (o := fun i=>(t.getD i r0).o) (P := fun i=>(t.getD i r0).ps) hi ⟨rfl,Nat.zero_add _,fun j hj=>rfl⟩)⟩,trivial⟩,trivial⟩⟩
  ·(exfalso; omega)
 ·have e : k = t.length := by omega
  subst e
  conv=>whnf
  (conv=>whnf); refine ifB_dec (fun w1=>?_) (fun w1=>?_)
  ·(exfalso; omega)
  ·conv=>whnf
   (conv=>whnf); refine ⟨?_,nofun⟩
   exact ⟨rfl,rfl,fun _ _=>rfl⟩
theorem S17 (t : List MRow) (ht : Fit t) : SP 17 [tblA t] (tblA t) false := by
 have h := S71 t ht
 refine sound (d := 2) tok2 mixed2 Tryz.func17 (by kernel_rfl) (by kernel_rfl) ?_
 (conv=>whnf); refine .inl ⟨_,_,byX rfl (h),?_⟩
 (conv=>whnf); refine ⟨?_,nofun⟩
 exact ave_aggR (l := [rowsA t]) (by simp [AV.atom,rowsA])
def fewT (t : List MRow) : Bool := decide (t.length ≤ 8) && t.all fun r=>decide (r.ps.length ≤ 8)
theorem S15 (t : List MRow) (h1 : t.length ≤ 9223372036854775807) : SP 15 [tblA t] (vb (fewT t)) false := by
 unfold fewT
 by_cases h8 : t.length ≤ 8
 ·rw [decide_eq_true h8, Bool.true_and]
  refine sound (d := 2) tok2 mixed2 Tryz.func15 (by kernel_rfl) (by kernel_rfl) ?_
  (conv=>whnf); refine ifB_dec (fun w1=>?_) (fun w1=>?_)
  ·(exfalso; omega)
  ·(conv=>whnf); refine ⟨[],[1,3],fun st mq=>∃ (k : Nat),(k ≤ t.length) ∧ (∀ j,j < k → (t.getD j r0).ps.length ≤ 8) ∧ st = ⟨[(1,.optr 0 0 0 0),(3,i64 k)],⟨[⟨1,1,fun _=>[rowsA t],0,false,true,true⟩],[],none,0⟩,[]⟩ ∧ mq = t.length - k,
    ⟨_,_,⟨0,by omega,fun j h=>absurd h (Nat.not_lt_zero j),rfl,rfl⟩,⟨⟨.inl rfl,rfl,rfl,rfl⟩,⟨bA,trivial⟩,trivial⟩⟩,?_⟩
   rintro s0 m0 ⟨k,hk,hq,rfl,hmeas⟩
   by_cases hlt : k < t.length
   ·conv=>whnf
    (conv=>whnf); refine ifB_dec (fun w2=>?_) (fun w2=>?_)
    ·conv=>whnf
     (conv=>whnf); refine ⟨⟨(by omega),(by omega)⟩,?_⟩
     conv=>whnf
     (conv=>whnf); refine ifB_dec (fun w3=>?_) (fun w3=>?_)
     ·conv=>whnf
      (conv=>whnf); refine ⟨?_,nofun⟩
      refine endb ?_
      have hw : ((t.getD k r0).ps.length : Int) > 8 := by assumption
      have hm : t.getD k r0 ∈ t := by rw [List.getD_eq_getElem?_getD,List.getElem?_eq_getElem hlt]; exact List.getElem_mem hlt
      symm
      rw [List.all_eq_false]
      exact ⟨_,hm,by simp only [decide_eq_true_eq]; omega⟩
     ·conv=>whnf
      (conv=>whnf); refine ⟨inK64 (by omega) (by omega),?_⟩
      have hw : ¬ ((t.getD k r0).ps.length : Int) > 8 := by assumption
      conv=>whnf
      (conv=>whnf); refine ⟨_,_,⟨⟨k + 1,by omega,(fun j hj=>by by_cases e : j = k; (rw [e]; omega); exact hq j (by omega)),rfl,rfl⟩,by omega⟩,⟨⟨.inl rfl,rfl,rfl,rfl⟩,⟨bA,trivial⟩,trivial⟩⟩
    ·(exfalso; omega)
   ·have e : k = t.length := by omega
    subst e
    conv=>whnf
    (conv=>whnf); refine ifB_dec (fun w2=>?_) (fun w2=>?_)
    ·(exfalso; omega)
    ·conv=>whnf
     (conv=>whnf); refine ⟨?_,nofun⟩
     refine endb ?_
     symm
     rw [List.all_eq_true]
     intro r hr
     obtain ⟨j,hj,e⟩ := List.getElem_of_mem hr
     have := hq j hj
     rw [List.getD_eq_getElem?_getD,List.getElem?_eq_getElem hj] at this
     rw [← e]
     exact decide_eq_true this
 ·rw [decide_eq_false h8,Bool.false_and]
  refine sound (d := 2) tok2 mixed2 Tryz.func15 (by kernel_rfl) (by kernel_rfl) ?_
  (conv=>whnf); refine ifB_dec (fun w1=>?_) (fun w1=>?_)
  ·(conv=>whnf); refine ⟨?_,nofun⟩
   (first | contradiction | omega | rfl)
  ·(exfalso; omega)
theorem few_fit {t : List MRow} (h : fewT t = true) : Fit t := by
 unfold fewT at h
 rw [Bool.and_eq_true,decide_eq_true_iff,List.all_eq_true] at h
 refine ⟨by omega,fun i=>?_⟩
 by_cases hi : i < t.length
 ·have hm : t.getD i r0 ∈ t := by rw [List.getD_eq_getElem?_getD,List.getElem?_eq_getElem hi]; exact List.getElem_mem hi
  have := of_decide_eq_true (h.2 _ hm)
  omega
 ·have : t.getD i r0 = r0 := by rw [List.getD_eq_getElem?_getD,List.getElem?_eq_none (by omega)]; rfl
  rw [this]; decide
theorem S29 (n : Int) : SP 29 [i64 n] (i64 (if -1000 ≤ n ∧ n ≤ 1000 then 0 else 2)) false := by
 have h := S36 n (-1000) 1000
 refine sound (d := 2) tok2 mixed2 Tryz.func29 (by kernel_rfl) (by kernel_rfl) ?_
 (conv=>whnf); refine .inl ⟨_,_,byX rfl (Sound1.pl (h) rfl),?_⟩
 (conv=>whnf); refine ifB_not ?_
 (conv=>whnf); refine ifB_dec (fun w1=>?_) (fun w1=>?_)
 ·(conv=>whnf); refine ⟨?_,nofun⟩
  exact endi (if_pos (by assumption)).symm
 ·(conv=>whnf); refine ⟨?_,nofun⟩
  exact endi (if_neg (by assumption)).symm
theorem S194 (n : Int) : SP 194 [i64 n] (i64 (if -10000 ≤ n ∧ n ≤ 10000 then 0 else 2)) false := by
 have h := S36 n (-10000) 10000
 refine sound (d := 2) tok2 mixed2 Tryz.func194 (by kernel_rfl) (by kernel_rfl) ?_
 (conv=>whnf); refine .inl ⟨_,_,byX rfl (Sound1.pl (h) rfl),?_⟩
 (conv=>whnf); refine ifB_not ?_
 (conv=>whnf); refine ifB_dec (fun w1=>?_) (fun w1=>?_)
 ·(conv=>whnf); refine ⟨?_,nofun⟩
  exact endi (if_pos (by assumption)).symm
 ·(conv=>whnf); refine ⟨?_,nofun⟩
  exact endi (if_neg (by assumption)).symm
theorem S117 (a b c : P3) (ha : PtOk a) (hb : PtOk b) (hc : PtOk c) : SP 117 [.agg [i64 a.1,i64 a.2.1,i64 a.2.2],.agg [i64 b.1,i64 b.2.1,i64 b.2.2],.agg [i64 c.1,i64 c.2.1,i64 c.2.2]] (i64 (turnI a b c)) false := by
 have h1 := mul2 (a := b.1 - a.1) (b := c.2.1 - a.2.1) (by unfold PtOk at *; omega) (by unfold PtOk at *; omega)
 have h2 := mul2 (a := c.1 - a.1) (b := b.2.1 - a.2.1) (by unfold PtOk at *; omega) (by unfold PtOk at *; omega)
 unfold PtOk at *
 unfold turnI
 refine sound (d := 2) tok2 mixed2 Tryz.func117 (by kernel_rfl) (by kernel_rfl) ?_
 (conv=>whnf); refine ⟨inK64 (by omega) (by omega),?_⟩
 (conv=>whnf); refine ⟨inK64 (by omega) (by omega),?_⟩
 (conv=>whnf); refine ⟨inK64 (by omega) (by omega),?_⟩
 (conv=>whnf); refine ⟨inK64 (by omega) (by omega),?_⟩
 (conv=>whnf); refine ⟨inK64 (by omega) (by omega),?_⟩
 (conv=>whnf); refine ⟨inK64 (by omega) (by omega),?_⟩
 (conv=>whnf); refine ⟨inK64 (by omega) (by omega),?_⟩
 (conv=>whnf); refine ⟨?_,nofun⟩
 (first | rfl | contradiction)
theorem pnt_ifs (p : P3) : (pntE p = 0) ↔ ((-1000 ≤ p.1 ∧ p.1 ≤ 1000) ∧ (-1000 ≤ p.2.1 ∧ p.2.1 ≤ 1000) ∧ -10000 ≤ p.2.2 ∧ p.2.2 ≤ 10000) := ⟨pntE_ok,fun h=>if_pos h⟩
theorem ptsP_two (l : List P3) : ∀ k,ptsP l k = 0 ∨ ptsP l k = 2
 | 0=>.inl rfl
 | k + 1 => by
  rw [ptsP_succ]
  by_cases h : ptsP l k = 0
  ·rw [if_neg (not_not_intro h)]
   unfold pntE
   split
   ·exact .inl rfl
   ·exact .inr rfl
  ·rw [if_pos h]; exact ptsP_two l k
theorem ptsP_mono {l : List P3} {k : Nat} (h : ptsP l k ≠ 0) : ∀ j,k ≤ j → ptsP l j = ptsP l k := fun j hj=>by
 induction j with
 | zero=>rw [show k = 0 by omega]
 | succ j ih =>
  by_cases e : k = j + 1
  ·rw [e]
  ·have := ih (by omega)
   rw [ptsP_succ,this,if_pos h]
theorem S158 (t : List MRow) (ht : Fit t) (i : Nat) (hi : i < t.length) : SP 158 [tblA t, i64 i] (i64 (rowA t i)) false := by
 have h36 := S36 (t.getD i r0).o 0 100
 have hl := ht.2 i
 unfold rowA
 by_cases g1 : 0 ≤ (t.getD i r0).o ∧ (t.getD i r0).o ≤ 100
 ·rw [if_neg (not_not_intro g1)]
  rw [show win (t.getD i r0).o 0 100 = true from decide_eq_true g1] at h36
  by_cases g2 : 2 ≤ (t.getD i r0).ps.length ∧ (t.getD i r0).ps.length = npT t
  ·have g2a : ¬ (((t.getD (i : Int).toNat r0).ps.length : Int) < 2) := by show ¬ (((t.getD i r0).ps.length : Int) < 2); omega
   have g2b : ((t.getD (i : Int).toNat r0).ps.length : Int) = ((t.getD (0 : Int).toNat r0).ps.length : Int) := by
    show ((t.getD i r0).ps.length : Int) = ((t.getD 0 r0).ps.length : Int)
    have := g2.2
    unfold npT at this
    omega
   rw [if_neg (not_not_intro g2)]
   by_cases g3 : 6 < (t.getD i r0).ps.length
   ·rw [if_pos g3]
    have g3a : ((t.getD (i : Int).toNat r0).ps.length : Int) > 6 := by show ((t.getD i r0).ps.length : Int) > 6; omega
    refine sound (d := 2) tok2 mixed2 Tryz.func158 (by kernel_rfl) (by kernel_rfl) ?_
    (conv=>whnf); refine ⟨⟨(by omega),(by omega)⟩,?_⟩
    (conv=>whnf); refine .inl ⟨_,_,byX rfl (Sound1.pl (h36) rfl),?_⟩
    (conv=>whnf); refine ⟨[],by kernel_rfl,?_⟩
    (conv=>whnf); refine ifB_dec (fun w1=>?_) (fun w1=>?_)
    ·(exfalso; omega)
    ·(conv=>whnf); refine ⟨⟨(by omega),(by omega)⟩,?_⟩
     (conv=>whnf); refine ifB_bne (fun w2=>?_) (fun w2=>?_)
     ·(exfalso; omega)
     ·(conv=>whnf); refine ifB_dec (fun w3=>?_) (fun w3=>?_)
      ·(conv=>whnf); refine ⟨?_,nofun⟩
       (first | contradiction | rfl)
      ·(exfalso; omega)
   ·rw [if_neg g3]
    have g3a : ¬ ((t.getD (i : Int).toNat r0).ps.length : Int) > 6 := by show ¬ ((t.getD i r0).ps.length : Int) > 6; omega
    refine sound (d := 2) tok2 mixed2 Tryz.func158 (by kernel_rfl) (by kernel_rfl) ?_
    (conv=>whnf); refine ⟨⟨(by omega),(by omega)⟩,?_⟩
    (conv=>whnf); refine .inl ⟨_,_,byX rfl (Sound1.pl (h36) rfl),?_⟩
    (conv=>whnf); refine ⟨[],by kernel_rfl,?_⟩
    (conv=>whnf); refine ifB_dec (fun w1=>?_) (fun w1=>?_)
    ·(exfalso; omega)
    ·(conv => whnf); refine ⟨⟨(by omega), (by omega)⟩, ?_⟩
     (conv=>whnf); refine ifB_bne (fun w2=>?_) (fun w2=>?_)
     ·(exfalso; omega)
     ·(conv => whnf); refine ifB_dec (fun w3 => ?_) (fun w3 => ?_)
      ·(exfalso; omega)
      ·(conv=>whnf); refine ⟨[],[5,6],fun st mq=>∃ (k : Nat),(k ≤ (t.getD i r0).ps.length) ∧ (ptsP (t.getD i r0).ps k = 0) ∧ st = ⟨[(5,.optr 1 0 0 0),(6,i64 k)],⟨[⟨1,1,fun _=>[rowsA t],0,false,true,true⟩,⟨2,1,fun _=>[i64 (t.getD i r0).o,ptsA (t.getD i r0).ps],0,false,true,true⟩],[],none,0⟩,[]⟩ ∧ mq = (t.getD i r0).ps.length - k,
        ⟨_,_,⟨0,by omega,rfl,rfl,rfl⟩,⟨⟨.inl rfl,rfl,rfl,rfl⟩,⟨bA,⟨bA,trivial⟩⟩,trivial⟩⟩,?_⟩
       rintro s0 m0 ⟨k,hk,hz,rfl,hmeas⟩
       by_cases hlt : k < (t.getD i r0).ps.length
       ·have c1 := S29 ((t.getD i r0).ps.getD k p0).1
        have c2 := S29 ((t.getD i r0).ps.getD k p0).2.1
        have c3 := S194 ((t.getD i r0).ps.getD k p0).2.2
        have hs := ptsP_succ (t.getD i r0).ps k
        rw [if_neg (not_not_intro hz)] at hs
        by_cases hp : pntE ((t.getD i r0).ps.getD k p0) = 0
        ·have hb := pntE_ok hp
         rw [if_pos hb.1] at c1
         rw [if_pos hb.2.1] at c2
         rw [if_pos hb.2.2] at c3
         rw [hp] at hs
         conv=>whnf
         (conv=>whnf); refine ifB_dec (fun w4=>?_) (fun w4=>?_)
         ·conv=>whnf
          (conv=>whnf); refine ⟨⟨(by omega),(by omega)⟩,?_⟩
          conv=>whnf
          (conv=>whnf); refine .inl ⟨_,_,byX rfl (Sound1.pl (c1) rfl),?_⟩
          conv=>whnf
          (conv=>whnf); refine .inl ⟨_,_,byX rfl (Sound1.pl (c2) rfl),?_⟩
          conv=>whnf
          (conv=>whnf); refine .inl ⟨_,_,byX rfl (Sound1.pl (c3) rfl),?_⟩
          conv=>whnf
          (conv=>whnf); refine ⟨inK64 (by omega) (by omega),?_⟩
          conv=>whnf
          (conv=>whnf); refine ⟨_,_,⟨⟨k + 1,by omega,hs,rfl,rfl⟩,by omega⟩,⟨⟨.inl rfl,rfl,rfl,rfl⟩,⟨bA,⟨bA,trivial⟩⟩,trivial⟩⟩
         ·(exfalso; omega)
        ·have hn : ¬ ptsP (t.getD i r0).ps (k + 1) = 0 := by rw [hs]; exact hp
         have h2 : pntsE (t.getD i r0).ps = 2 := by
          have := ptsP_mono hn (t.getD i r0).ps.length (by omega)
          have h3 := (ptsP_two (t.getD i r0).ps (k + 1)).resolve_left hn
          show ptsP (t.getD i r0).ps (t.getD i r0).ps.length = 2
          rw [this,h3]
         rw [h2]
         by_cases b1 : -1000 ≤ ((t.getD i r0).ps.getD k p0).1 ∧ ((t.getD i r0).ps.getD k p0).1 ≤ 1000
         ·rw [if_pos b1] at c1
          by_cases b2 : -1000 ≤ ((t.getD i r0).ps.getD k p0).2.1 ∧ ((t.getD i r0).ps.getD k p0).2.1 ≤ 1000
          ·rw [if_pos b2] at c2
           rw [if_neg (fun e=>hp ((pnt_ifs _).2 ⟨b1,b2,e⟩))] at c3
           conv=>whnf
           (conv=>whnf); refine ifB_dec (fun w4=>?_) (fun w4=>?_)
           ·conv=>whnf
            (conv=>whnf); refine ⟨⟨(by omega),(by omega)⟩,?_⟩
            conv=>whnf
            (conv=>whnf); refine .inl ⟨_,_,byX rfl (Sound1.pl (c1) rfl),?_⟩
            conv=>whnf
            (conv=>whnf); refine .inl ⟨_,_,byX rfl (Sound1.pl (c2) rfl),?_⟩
            conv=>whnf
            (conv=>whnf); refine .inl ⟨_,_,byX rfl (Sound1.pl (c3) rfl),?_⟩
            conv=>whnf
            (conv=>whnf); refine ⟨?_,nofun⟩
            (first | contradiction | rfl)
           ·(exfalso; omega)
          ·rw [if_neg b2] at c2
           conv=>whnf
           (conv=>whnf); refine ifB_dec (fun w4=>?_) (fun w4=>?_)
           ·conv=>whnf
            (conv=>whnf); refine ⟨⟨(by omega),(by omega)⟩,?_⟩
            conv=>whnf
            (conv=>whnf); refine .inl ⟨_,_,byX rfl (Sound1.pl (c1) rfl),?_⟩
            conv=>whnf
            (conv=>whnf); refine .inl ⟨_,_,byX rfl (Sound1.pl (c2) rfl),?_⟩
            conv=>whnf
            (conv=>whnf); refine ⟨?_,nofun⟩
            (first | contradiction | rfl)
           ·(exfalso; omega)
         ·rw [if_neg b1] at c1
          conv=>whnf
          (conv=>whnf); refine ifB_dec (fun w4=>?_) (fun w4=>?_)
          ·conv=>whnf
           (conv=>whnf); refine ⟨⟨(by omega),(by omega)⟩,?_⟩
           conv=>whnf
           (conv=>whnf); refine .inl ⟨_,_,byX rfl (Sound1.pl (c1) rfl),?_⟩
           conv=>whnf
           (conv=>whnf); refine ⟨?_,nofun⟩
           (first | contradiction | rfl)
          ·(exfalso; omega)
       ·have e : k = (t.getD i r0).ps.length := by omega
        subst e
        have e : pntsE (t.getD i r0).ps = 0 := hz
        rw [e]
        conv=>whnf
        (conv=>whnf); refine ifB_dec (fun w4=>?_) (fun w4=>?_)
        ·(exfalso; omega)
        ·conv=>whnf
         (conv=>whnf); refine ⟨?_,nofun⟩
         (first | contradiction | rfl)
  ·rw [if_pos g2]
   have g2' : ¬ (¬ (((t.getD (i : Int).toNat r0).ps.length : Int) < 2) ∧ ((t.getD (i : Int).toNat r0).ps.length : Int) = ((t.getD (0 : Int).toNat r0).ps.length : Int)) := by
    show ¬ (¬ (((t.getD i r0).ps.length : Int) < 2) ∧ ((t.getD i r0).ps.length : Int) = ((t.getD 0 r0).ps.length : Int))
    unfold npT at g2
    omega
   refine sound (d := 2) tok2 mixed2 Tryz.func158 (by kernel_rfl) (by kernel_rfl) ?_
   (conv=>whnf); refine ⟨⟨(by omega),(by omega)⟩,?_⟩
   (conv=>whnf); refine .inl ⟨_,_,byX rfl (Sound1.pl (h36) rfl),?_⟩
   (conv=>whnf); refine ⟨[],by kernel_rfl,?_⟩
   (conv=>whnf); refine ifB_dec (fun w1=>?_) (fun w1=>?_)
   ·(conv=>whnf); refine ⟨?_,nofun⟩
    (first | contradiction | rfl | (exfalso; exact g2' ⟨by assumption,by assumption⟩))
   ·(conv=>whnf); refine ⟨⟨(by omega),(by omega)⟩,?_⟩
    (conv=>whnf); refine ifB_bne (fun w2=>?_) (fun w2=>?_)
    ·(conv=>whnf); refine ⟨?_,nofun⟩
     (first | contradiction | rfl | (exfalso; exact g2' ⟨by assumption,by assumption⟩))
    ·(exfalso; omega)
 ·rw [if_pos g1]
  rw [show win (t.getD i r0).o 0 100 = false from decide_eq_false g1] at h36
  refine sound (d := 2) tok2 mixed2 Tryz.func158 (by kernel_rfl) (by kernel_rfl) ?_
  (conv=>whnf); refine ⟨⟨(by omega),(by omega)⟩,?_⟩
  (conv=>whnf); refine .inl ⟨_,_,byX rfl (Sound1.pl (h36) rfl),?_⟩
  (conv=>whnf); refine ⟨?_,nofun⟩
  (first | contradiction | rfl)
end Go.Tr

/- Contracts of chapter 5: the reference's triangles and its check of a table. Conditions: none. -/
-- seat YtgbdlkajmmjahaaGreat
namespace Go.Tr
open Go Go.Proofs
set_option maxRecDepth 20000
set_option maxHeartbeats 8000000

def tri0 : Tri := ((p0,0),(p0,0),p0,0)
abbrev rtC (x : Tri) : List AV := [i64 x.1.1.1,i64 x.1.1.2.1,i64 x.1.1.2.2,i64 x.2.1.1.1,i64 x.2.1.1.2.1,i64 x.2.1.1.2.2,i64 x.2.2.1.1,i64 x.2.2.1.2.1,i64 x.2.2.1.2.2,i64 x.1.2,i64 x.2.1.2,i64 x.2.2.2]
def tris (L : List Tri) : AV := .rslice 12 L.length fun j=>rtC (L.getD j tri0)
def triU (t : List MRow) (i k : Nat) : Tri := ((ptT t i k,(t.getD i r0).o),(ptT t i (k + 1),(t.getD i r0).o),ptT t (i + 1) k,(t.getD (i + 1) r0).o)
def triD (t : List MRow) (i k : Nat) : Tri := ((ptT t i (k + 1),(t.getD i r0).o),(ptT t (i + 1) (k + 1),(t.getD (i + 1) r0).o),ptT t (i + 1) k,(t.getD (i + 1) r0).o)
def triK (t : List MRow) (i : Nat) : Nat → List Tri
  | 0=>[]
  | k + 1=>triK t i k ++ [triU t i k] ++ [triD t i k]
theorem triK_len (t : List MRow) (i : Nat) : ∀ k,(triK t i k).length = 2 * k
 | 0=>rfl
 | k + 1=>by
  unfold triK
  rw [List.length_append,List.length_append,triK_len t i k]
  simp
  omega
theorem app_tri (L : List Tri) (x : Tri) (n j : Nat) (hn : L.length = n) (hj : j < n + 1) : rtC ((L ++ [x]).getD j tri0) = if j < n then rtC (L.getD (0 + j) tri0) else List.take 12 (List.drop ((j - n) * 12) (rtC x)) := by
 subst hn
 rw [Nat.zero_add]
 by_cases h : j < L.length
 ·rw [if_pos h]; simp [List.getD_eq_getElem?_getD,h,List.getElem?_append_left h]
 ·have : j = L.length := by omega
  subst this
  rw [if_neg h]; simp [List.getD_eq_getElem?_getD]
theorem app_tri2 (L : List Tri) (x y : Tri) (n j : Nat) (hn : L.length = n) (hj : j < n + 1 + 1) : rtC ((L ++ [x] ++ [y]).getD j tri0) = if j < n + 1 then (if 0 + j < n then rtC (L.getD (0 + (0 + j)) tri0) else List.take 12 (List.drop ((0 + j - n) * 12) (rtC x))) else List.take 12 (List.drop ((j - (n + 1)) * 12) (rtC y)) := by
 rw [app_tri (L ++ [x]) y (n + 1) j (by simp [hn]) hj]
 by_cases h : j < n + 1
 ·rw [if_pos h,if_pos h,app_tri L x n (0 + j) hn (by omega)]
 ·rw [if_neg h,if_neg h]
theorem S159 (t : List MRow) (hR : RwOk t) (i : Nat) (hi : i + 1 < t.length) : SP 159 [tblA t,i64 i] (tris (triK t i (npT t - 1))) false := by
 have hl1 : (t.getD i r0).ps.length = npT t := hR.len i (by omega)
 have hl2 : (t.getD (i + 1) r0).ps.length = npT t := hR.len (i + 1) (by omega)
 have hnp := hR.np
 have hn := hR.n
 refine sound (d := 2) tok2 mixed2 Tryz.func159 (by kernel_rfl) (by kernel_rfl) ?_
 (conv=>whnf); refine ⟨[(6,13),(10,13)],by kernel_rfl,?_⟩
 (conv=>whnf); refine ⟨⟨(by omega),(by omega)⟩,?_⟩
 (conv=>whnf); refine ⟨inK64 (by omega) (by omega),?_⟩
 (conv=>whnf); refine ⟨⟨(by omega),(by omega)⟩,?_⟩
 (conv=>whnf); refine ⟨[.slot 7 12],[5,6,7,8],fun st mq=>∃ (k : Nat) (L : List Tri),(k + 1 ≤ npT t) ∧ (L = triK t i k) ∧ (L.length = 2 * k) ∧ st = ⟨[(5,.optr 1 0 0 0),(6,.optr 2 0 0 0),(7,.oslice 3 0 0 (2 * k) none),(8,i64 k)],⟨[⟨1,1,fun _=>[rowsA t],0,false,true,true⟩,⟨2,1,fun _=>[i64 (t.getD i r0).o,ptsA (t.getD i r0).ps],0,false,true,true⟩,⟨2,1,fun _=>[i64 (t.getD (i + 1) r0).o,ptsA (t.getD (i + 1) r0).ps],0,false,true,true⟩,⟨12,2 * k,fun j=>rtC (L.getD j tri0),0,false,true,false⟩],[],none,0⟩,[]⟩ ∧ mq = npT t - k,
  ⟨_,_,⟨0,[],by omega,rfl,rfl,rfl,rfl⟩,⟨⟨.inl rfl,rfl,rfl,rfl⟩,⟨bA,⟨bA,⟨bA,⟨⟨rfl,rfl,rfl,rfl,fun _=>rfl,fun i h=>.inl (absurd h (Nat.not_lt_zero i))⟩,trivial⟩⟩⟩⟩,trivial⟩⟩,?_⟩
 rintro s0 m0 ⟨k,L,hk,hL,hln,rfl,hmeas⟩
 by_cases hlt : k + 1 < npT t
 ·conv=>whnf
  (conv=>whnf); refine ⟨inK64 (by omega) (by omega),?_⟩
  conv=>whnf
  (conv=>whnf); refine ifB_dec (fun w1=>?_) (fun w1=>?_)
  ·conv=>whnf
   (conv=>whnf); refine ⟨[],by kernel_rfl,?_⟩
   conv=>whnf
   (conv=>whnf); refine ⟨⟨(by omega),(by omega)⟩,?_⟩
   conv=>whnf
   (conv=>whnf); refine ⟨inK64 (by omega) (by omega),?_⟩
   conv=>whnf
   (conv=>whnf); refine ⟨⟨(by omega),(by omega)⟩,?_⟩
   conv=>whnf
   (conv=>whnf); refine ⟨⟨(by omega),(by omega)⟩,?_⟩
   conv=>whnf
   (conv=>whnf); refine .inl ?_
   conv=>whnf
   (conv=>whnf); refine ⟨(by show _ * (96 + 1) ≤ _; omega),?_⟩
   conv=>whnf
   (conv=>whnf); refine ⟨[],by kernel_rfl,?_⟩
   conv=>whnf
   (conv=>whnf); refine ⟨inK64 (by omega) (by omega),?_⟩
   conv=>whnf
   (conv=>whnf); refine ⟨⟨(by omega),(by omega)⟩,?_⟩
   conv=>whnf
   (conv=>whnf); refine ⟨inK64 (by omega) (by omega),?_⟩
   conv=>whnf
   (conv=>whnf); refine ⟨⟨(by omega),(by omega)⟩,?_⟩
   conv=>whnf
   (conv=>whnf); refine ⟨⟨(by omega),(by omega)⟩,?_⟩
   conv=>whnf
   (conv=>whnf); refine .inl ?_
   conv=>whnf
   (conv=>whnf); refine ⟨(by show _ * (96 + 1) ≤ _; omega),?_⟩
   conv=>whnf
   (conv=>whnf); refine ⟨inK64 (by omega) (by omega),?_⟩
   conv=>whnf
   (conv=>whnf); refine ⟨_,_,⟨⟨k + 1,L ++ [triU t i k] ++ [triD t i k],by omega,(by rw [hL]; rfl),(by simp [hln]; omega),rfl,rfl⟩,by omega⟩,⟨⟨.inl rfl,rfl,rfl,rfl⟩,⟨bA,⟨bA,⟨bA,⟨⟨rfl,rfl,rfl,rfl,fun _=>rfl,fun j hj=>.inl (app_tri2 L (triU t i k) (triD t i k) (2 * k) j hln hj)⟩,trivial⟩⟩⟩⟩,trivial⟩⟩
  ·(exfalso; omega)
 ·have e : k = npT t - 1 := by omega
  rw [← e,← hL]
  conv=>whnf
  (conv=>whnf); refine ⟨inK64 (by omega) (by omega),?_⟩
  conv=>whnf
  (conv=>whnf); refine ifB_dec (fun w1=>?_) (fun w1=>?_)
  ·(exfalso; omega)
  ·conv=>whnf
   (conv=>whnf); refine ⟨?_,nofun⟩
   exact ⟨rfl,hln.symm,fun _ _=>rfl⟩
def trE (L : List Tri) (j : Nat) : Int := if turnI (L.getD j tri0).1.1 (L.getD j tri0).2.1.1 (L.getD j tri0).2.2.1 ≤ 0 then 13 else 0
theorem triK_get (t : List MRow) (i : Nat) : ∀ (n k : Nat),k < n → (triK t i n).getD (2 * k) tri0 = triU t i k ∧ (triK t i n).getD (2 * k + 1) tri0 = triD t i k
 | 0,k,h=>absurd h (Nat.not_lt_zero k)
 | n + 1, k, h => by
  have hl := triK_len t i n
  unfold triK
  by_cases e : k < n
  ·have ih := triK_get t i n k e
   rw [← ih.1,← ih.2]
   constructor
   ·rw [List.getD_eq_getElem?_getD,List.append_assoc,List.getElem?_append_left (by omega),List.getD_eq_getElem?_getD]
   ·rw [List.getD_eq_getElem?_getD,List.append_assoc,List.getElem?_append_left (by omega),List.getD_eq_getElem?_getD]
  ·obtain rfl : k = n := by omega
   constructor
   ·rw [List.getD_eq_getElem?_getD,List.append_assoc,List.getElem?_append_right (by omega),hl,Nat.sub_self]; rfl
   ·rw [List.getD_eq_getElem?_getD,List.append_assoc,List.getElem?_append_right (by omega),hl,show 2 * k + 1 - 2 * k = 1 by omega]; rfl
theorem trE_strip (t : List MRow) (i : Nat) : ∀ (n k : Nat),k ≤ n → ((fstE (trE (triK t i n)) (2 * n - 2 * k) (2 * k)).2 = (fstE (quadE t i) (n - k) k).2)
 | n, k, h => by
  induction hm : n - k generalizing k with
  | zero =>
   rw [show 2 * n - 2 * k = 0 by omega]; rfl
  | succ m ih =>
   have hlt : k < n := by omega
   have hg := triK_get t i n k hlt
   have e1 : trE (triK t i n) (2 * k) = if tri1 t i k ≤ 0 then 13 else 0 := by unfold trE; rw [hg.1]; rfl
   have e2 : trE (triK t i n) (2 * k + 1) = if tri2 t i k ≤ 0 then 13 else 0 := by unfold trE; rw [hg.2]; rfl
   have ih := ih (k + 1) (by omega) (by omega)
   have n13 : (13 : Int) ≠ 0 := by decide
   have n0 : ¬ (0 : Int) ≠ 0 := by decide
   rw [show 2 * n - 2 * k = (2 * n - 2 * (k + 1)) + 1 + 1 by omega]
   by_cases g1 : tri1 t i k ≤ 0
   ·have e3 : quadE t i k = 13 := if_pos g1
    rw [fstE,e1,if_pos g1,if_pos n13,fstE,e3,if_pos n13]
   ·by_cases g2 : tri2 t i k ≤ 0
    ·have e3 : quadE t i k = 13 := by unfold quadE; rw [if_neg g1,if_pos g2]
     rw [fstE,e1,if_neg g1,if_neg n0,fstE,e2,if_pos g2,if_pos n13,fstE,e3,if_pos n13]
    ·have e3 : quadE t i k = 0 := by unfold quadE; rw [if_neg g1,if_neg g2]
     rw [fstE,e1,if_neg g1,if_neg n0,fstE,e2,if_neg g2,if_neg n0,show fstE (quadE t i) (m + 1) k = fstE (quadE t i) m (k + 1) by rw [fstE,e3,if_neg n0]]
     exact ih
end Go.Tr

/- Contracts of chapter 5: the reference's check of a table. Conditions: none. -/
-- seat YtgbdlkajmmjahaaGreat
namespace Go.Tr
open Go Go.Proofs
set_option maxRecDepth 20000
set_option maxHeartbeats 8000000

theorem triK_ok {t : List MRow} (hR : RwOk t) {i : Nat} (hi : i + 1 < t.length) {j : Nat} (hj : j < 2 * (npT t - 1)) :
  PtOk ((triK t i (npT t - 1)).getD j tri0).1.1 ∧ PtOk ((triK t i (npT t - 1)).getD j tri0).2.1.1 ∧ PtOk ((triK t i (npT t - 1)).getD j tri0).2.2.1 := by
 obtain ⟨k,e | e⟩ : ∃ k,j = 2 * k ∨ j = 2 * k + 1 := ⟨j / 2,by omega⟩
 ·subst e
  rw [(triK_get t i (npT t - 1) k (by omega)).1]
  exact ⟨hR.pts i k (by omega) (by omega),hR.pts i (k + 1) (by omega) (by omega),hR.pts (i + 1) k (by omega) (by omega)⟩
 ·subst e
  rw [(triK_get t i (npT t - 1) k (by omega)).2]
  exact ⟨hR.pts i (k + 1) (by omega) (by omega),hR.pts (i + 1) (k + 1) (by omega) (by omega),hR.pts (i + 1) k (by omega) (by omega)⟩
set_option maxHeartbeats 8000000 in
theorem S107 (t : List MRow) (ht : Fit t) : SP 107 [tblA t] (.tuple [i64 (chkM t).1, i64 (chkM t).2]) false := by
 have h1 := ht.1
 unfold chkM
 by_cases g1 : t.length < 2
 ·rw [if_pos g1]
  refine sound (d := 2) tok2 mixed2 Tryz.func107 (by kernel_rfl) (by kernel_rfl) ?_
  (conv=>whnf); refine ifB_dec (fun w1=>?_) (fun w1=>?_)
  ·(conv=>whnf); refine ⟨?_,nofun⟩
   (first | contradiction | omega | exact ave_tup2 rfl rfl)
  ·(exfalso; omega)
 ·rw [if_neg g1]
  by_cases g2 : t.length > 6
  ·rw [if_pos g2]
   refine sound (d := 2) tok2 mixed2 Tryz.func107 (by kernel_rfl) (by kernel_rfl) ?_
   (conv=>whnf); refine ifB_dec (fun w1=>?_) (fun w1=>?_)
   ·(exfalso; omega)
   ·(conv=>whnf); refine ifB_dec (fun w2=>?_) (fun w2=>?_)
    ·(conv=>whnf); refine ⟨?_,nofun⟩
     (first | contradiction | omega | exact ave_tup2 rfl rfl)
    ·(exfalso; omega)
  ·rw [if_neg g2]
   refine sound (d := 2) tok2 mixed2 Tryz.func107 (by kernel_rfl) (by kernel_rfl) ?_
   (conv=>whnf); refine ifB_dec (fun w1=>?_) (fun w1=>?_)
   ·(exfalso; omega)
   ·(conv => whnf); refine ifB_dec (fun w2 => ?_) (fun w2 => ?_)
    ·(exfalso; omega)
    ·(conv => whnf); refine ⟨[], [1, 4], fun st mq => ∃ (i : Nat), (i ≤ t.length) ∧ (fstE (rowX t) (t.length - i) i = fstE (rowX t) t.length 0) ∧ (∀ j, j < i → rowX t j = 0) ∧ st = ⟨[(1, .optr 0 0 0 0), (4, i64 i)], ⟨[⟨1, 1, fun _ => [rowsA t], 0, false, true, true⟩], [], none, 0⟩, []⟩ ∧ mq = t.length - i,
      ⟨_,_,⟨0,by omega,rfl,fun j h=>absurd h (Nat.not_lt_zero j),rfl,rfl⟩,⟨⟨.inl rfl,rfl,rfl,rfl⟩,⟨bA,trivial⟩,trivial⟩⟩,?_⟩
     rintro s0 m0 ⟨i,hi,he,hz,rfl,hmeas⟩
     by_cases hlt : i < t.length
     ·have h158 := S158 t ht i hlt
      rw [fstE_step _ hlt] at he
      by_cases hA : rowA t i = 0
      ·have ho := (rowA_ok hA).1
       have hX : rowX t i = rowO t i := if_neg (not_not_intro hA)
       rw [hA] at h158
       rw [hX] at he
       by_cases hi0 : i = 0
       ·subst hi0
        have hO : rowO t 0 = 0 := if_pos rfl
        rw [hO,if_neg (by decide)] at he
        conv=>whnf
        (conv=>whnf); refine ifB_dec (fun w3=>?_) (fun w3=>?_)
        ·conv=>whnf
         (conv=>whnf); refine .inl ⟨_,_,byX rfl (Sound1.pl (h158) rfl),?_⟩
         conv=>whnf
         (conv=>whnf); refine ⟨[],by kernel_rfl,?_⟩
         conv=>whnf
         (conv=>whnf); refine ⟨[],by kernel_rfl,?_⟩
         conv=>whnf
         (conv=>whnf); refine ⟨inK64 (by omega) (by omega),?_⟩
         conv=>whnf
         (conv=>whnf); refine ⟨_,_,⟨⟨1,by omega,he,(fun j hj=>by rw [show j = 0 by omega,hX,hO]),rfl,rfl⟩,by omega⟩,⟨⟨.inl rfl,rfl,rfl,rfl⟩,⟨bA,trivial⟩,trivial⟩⟩
        ·(exfalso; omega)
       ·have hpv : 0 ≤ (t.getD (i - 1) r0).o ∧ (t.getD (i - 1) r0).o ≤ 100 := by
         have h2 := hz (i - 1) (by omega)
         unfold rowX at h2
         by_cases e2 : rowA t (i - 1) = 0
         ·exact (rowA_ok e2).1
         ·rw [if_pos e2] at h2; exact absurd h2 e2
        have ei : ((i : Int) - 1).toNat = i - 1 := by omega
        have hmx : IntKind.max .i64 = 9223372036854775807 := by decide
        have hmn : IntKind.min .i64 = -9223372036854775808 := by decide
        have hpv' : 0 ≤ (t.getD ((i : Int) - 1).toNat r0).o ∧ (t.getD ((i : Int) - 1).toNat r0).o ≤ 100 := by rw [ei]; exact hpv
        have ho' : 0 ≤ (t.getD (i : Int).toNat r0).o ∧ (t.getD (i : Int).toNat r0).o ≤ 100 := ho
        have hd : inK .i64 ((t.getD (i : Int).toNat r0).o - (t.getD ((i : Int) - 1).toNat r0).o) := ⟨by omega,by omega⟩
        have hi1 : inK .i64 ((i : Int) - 1) := ⟨by omega,by omega⟩
        have hip : (i : Int) > 0 := by omega
        by_cases c1 : (t.getD i r0).o ≤ (t.getD (i - 1) r0).o
        ·have hO : rowO t i = 9 := by unfold rowO; rw [if_neg hi0,if_pos c1]
         rw [hO,if_pos (by decide)] at he
         rw [← he,if_pos (show (9 : Int) ≠ 0 by decide)]
         have c1' : (t.getD (i : Int).toNat r0).o ≤ (t.getD ((i : Int) - 1).toNat r0).o := by rw [ei]; exact c1
         conv=>whnf
         (conv=>whnf); refine ifB_dec (fun w3=>?_) (fun w3=>?_)
         ·conv=>whnf
          (conv=>whnf); refine .inl ⟨_,_,byX rfl (Sound1.pl (h158) rfl),?_⟩
          conv=>whnf
          (conv=>whnf); refine ⟨[],by kernel_rfl,?_⟩
          conv=>whnf
          (conv=>whnf); refine ifB_dec (fun w4=>?_) (fun w4=>?_)
          ·conv=>whnf
           (conv=>whnf); refine ⟨⟨(by omega),(by omega)⟩,?_⟩
           conv=>whnf
           (conv=>whnf); refine ⟨inK64 (by omega) (by omega),?_⟩
           conv=>whnf
           (conv=>whnf); refine ⟨⟨(by omega),(by omega)⟩,?_⟩
           conv=>whnf
           (conv=>whnf); refine ifB_dec (fun w5=>?_) (fun w5=>?_)
           ·conv=>whnf
            (conv=>whnf); refine ⟨?_,nofun⟩
            (first | contradiction | exact hi1 | exact hd | omega | exact ave_tup2 rfl rfl)
           ·(exfalso; omega)
          ·(exfalso; omega)
         ·(exfalso; omega)
        ·have c1' : ¬ (t.getD (i : Int).toNat r0).o ≤ (t.getD ((i : Int) - 1).toNat r0).o := by rw [ei]; exact c1
         by_cases c2 : (t.getD i r0).o - (t.getD (i - 1) r0).o > 20
         ·have hO : rowO t i = 22 := by unfold rowO; rw [if_neg hi0, if_neg c1, if_pos c2]
          rw [hO,if_pos (by decide)] at he
          rw [← he,if_pos (show (22 : Int) ≠ 0 by decide)]
          have c2' : (t.getD (i : Int).toNat r0).o - (t.getD ((i : Int) - 1).toNat r0).o > 20 := by rw [ei]; exact c2
          conv=>whnf
          (conv=>whnf); refine ifB_dec (fun w3=>?_) (fun w3=>?_)
          ·conv=>whnf
           (conv=>whnf); refine .inl ⟨_,_,byX rfl (Sound1.pl (h158) rfl),?_⟩
           conv=>whnf
           (conv=>whnf); refine ⟨[],by kernel_rfl,?_⟩
           conv=>whnf
           (conv=>whnf); refine ifB_dec (fun w4=>?_) (fun w4=>?_)
           ·conv=>whnf
            (conv=>whnf); refine ⟨⟨(by omega),(by omega)⟩,?_⟩
            conv=>whnf
            (conv=>whnf); refine ⟨inK64 (by omega) (by omega),?_⟩
            conv=>whnf
            (conv=>whnf); refine ⟨⟨(by omega),(by omega)⟩,?_⟩
            conv=>whnf
            (conv=>whnf); refine ifB_dec (fun w5=>?_) (fun w5=>?_)
            ·(exfalso; omega)
            ·conv=>whnf
             (conv=>whnf); refine ⟨[],by kernel_rfl,?_⟩
             conv=>whnf
             (conv=>whnf); refine ifB_dec (fun w6=>?_) (fun w6=>?_)
             ·conv=>whnf
              (conv=>whnf); refine ⟨⟨(by omega),(by omega)⟩,?_⟩
              conv=>whnf
              (conv=>whnf); refine ⟨inK64 (by omega) (by omega),?_⟩
              conv=>whnf
              (conv=>whnf); refine ⟨⟨(by omega),(by omega)⟩,?_⟩
              conv=>whnf
              (conv=>whnf); refine ⟨inK64 (by omega) (by omega),?_⟩
              conv=>whnf
              (conv=>whnf); refine ifB_dec (fun w7=>?_) (fun w7=>?_)
              ·conv=>whnf
               (conv=>whnf); refine ⟨?_,nofun⟩
               (first | contradiction | exact hi1 | exact hd | omega | exact ave_tup2 rfl rfl)
              ·(exfalso; omega)
             ·(exfalso; omega)
           ·(exfalso; omega)
          ·(exfalso; omega)
         ·have hO : rowO t i = 0 := by unfold rowO; rw [if_neg hi0, if_neg c1, if_neg c2]
          rw [hO,if_neg (by decide)] at he
          have c2' : ¬ (t.getD (i : Int).toNat r0).o - (t.getD ((i : Int) - 1).toNat r0).o > 20 := by rw [ei]; exact c2
          conv=>whnf
          (conv=>whnf); refine ifB_dec (fun w3=>?_) (fun w3=>?_)
          ·conv=>whnf
           (conv=>whnf); refine .inl ⟨_,_,byX rfl (Sound1.pl (h158) rfl),?_⟩
           conv=>whnf
           (conv=>whnf); refine ⟨[],by kernel_rfl,?_⟩
           conv=>whnf
           (conv=>whnf); refine ifB_dec (fun w4=>?_) (fun w4=>?_)
           ·conv=>whnf
            (conv=>whnf); refine ⟨⟨(by omega),(by omega)⟩,?_⟩
            conv=>whnf
            (conv=>whnf); refine ⟨inK64 (by omega) (by omega),?_⟩
            conv=>whnf
            (conv=>whnf); refine ⟨⟨(by omega),(by omega)⟩,?_⟩
            conv=>whnf
            (conv=>whnf); refine ifB_dec (fun w5=>?_) (fun w5=>?_)
            ·(exfalso; omega)
            ·conv=>whnf
             (conv=>whnf); refine ⟨[],by kernel_rfl,?_⟩
             conv=>whnf
             (conv=>whnf); refine ifB_dec (fun w6=>?_) (fun w6=>?_)
             ·conv=>whnf
              (conv=>whnf); refine ⟨⟨(by omega),(by omega)⟩,?_⟩
              conv=>whnf
              (conv=>whnf); refine ⟨inK64 (by omega) (by omega),?_⟩
              conv=>whnf
              (conv=>whnf); refine ⟨⟨(by omega),(by omega)⟩,?_⟩
              conv=>whnf
              (conv=>whnf); refine ⟨inK64 (by omega) (by omega),?_⟩
              conv=>whnf
              (conv=>whnf); refine ifB_dec (fun w7=>?_) (fun w7=>?_)
              ·(exfalso; omega)
              ·conv=>whnf
               (conv=>whnf); refine ⟨inK64 (by omega) (by omega),?_⟩
               conv=>whnf
               (conv=>whnf); refine ⟨_,_,⟨⟨i + 1,by omega,he,(fun j hj=>by by_cases e : j = i; (rw [e,hX,hO]); exact hz j (by omega)),rfl,rfl⟩,by omega⟩,⟨⟨.inl rfl,rfl,rfl,rfl⟩,⟨bA,trivial⟩,trivial⟩⟩
             ·(exfalso; omega)
           ·(exfalso; omega)
          ·(exfalso; omega)
      ·have hX : rowX t i = rowA t i := if_pos hA
       rw [hX,if_pos hA] at he
       rw [← he,if_pos hA]
       conv=>whnf
       (conv=>whnf); refine ifB_dec (fun w3=>?_) (fun w3=>?_)
       ·conv=>whnf
        (conv=>whnf); refine .inl ⟨_,_,byX rfl (Sound1.pl (h158) rfl),?_⟩
        conv=>whnf
        (conv=>whnf); refine ifB_bne (fun w4=>?_) (fun w4=>?_)
        ·conv=>whnf
         (conv=>whnf); refine ⟨?_,nofun⟩
         (first | contradiction | exact ave_tup2 rfl rfl)
        ·(exfalso; omega)
       ·(exfalso; omega)
     ·rw [fstE_end _ hlt] at he
      have hE : (fstE (rowX t) t.length 0).2 = 0 := by rw [← he]
      have hR := RwOk.of ⟨by omega,by omega⟩ hE
      rw [if_neg (not_not_intro hE)]
      conv=>whnf
      (conv=>whnf); refine ifB_dec (fun w3=>?_) (fun w3=>?_)
      ·(exfalso; omega)
      ·conv => whnf
       (conv=>whnf); refine ⟨[],[1,6],fun st mq=>∃ (i : Nat),(i + 1 ≤ t.length) ∧ (fstE (stripE t) (t.length - 1 - i) i = fstE (stripE t) (t.length - 1) 0) ∧ st = ⟨[(1,.optr 0 0 0 0),(6,i64 i)],⟨[⟨1,1,fun _=>[rowsA t],0,false,true,true⟩],[],none,0⟩,[]⟩ ∧ mq = t.length - i,
        ⟨_,_,⟨0,by omega,rfl,rfl,rfl⟩,⟨⟨.inl rfl,rfl,rfl,rfl⟩,⟨bA,trivial⟩,trivial⟩⟩,?_⟩
       rintro s0 m0 ⟨i,hi,hs,rfl,hmeas⟩
       by_cases hlt2 : i + 1 < t.length
       ·have hl1 : (t.getD i r0).ps.length = npT t := hR.len i (by omega)
        have hnp := hR.np
        have h159 := S159 t hR i hlt2
        have hlen := triK_len t i (npT t - 1)
        have hok := fun j hj=>triK_ok hR hlt2 (j := j) hj
        have hst := trE_strip t i (npT t - 1) 0 (Nat.zero_le _)
        rw [Nat.mul_zero,Nat.sub_zero,Nat.sub_zero] at hst
        have hse : stripE t i = (fstE (quadE t i) (npT t - 1) 0).2 := by unfold stripE; rw [hl1]
        rw [← hst] at hse
        generalize triK t i (npT t - 1) = L at h159 hlen hok hse
        rw [fstE_step _ (show i < t.length - 1 by omega)] at hs
        conv=>whnf
        conv=>whnf
        (conv=>whnf); refine ⟨inK64 (by omega) (by omega),?_⟩
        conv=>whnf
        conv=>whnf
        (conv=>whnf); refine ifB_dec (fun w4=>?_) (fun w4=>?_)
        ·conv=>whnf
         conv=>whnf
         (conv=>whnf); refine .inl ⟨_,_,byX rfl (h159),?_⟩
         conv=>whnf
         conv=>whnf
         (conv=>whnf); refine ⟨[],[1,6,7,8],fun st mq=>∃ (j : Nat),(j ≤ L.length) ∧ (fstE (trE L) (L.length - j) j = fstE (trE L) L.length 0) ∧ st = ⟨[(1,.optr 0 0 0 0),(6,i64 i),(7,tris L),(8,i64 j)],⟨[⟨1,1,fun _=>[rowsA t],0,false,true,true⟩],[],none,0⟩,[]⟩ ∧ mq = L.length - j,
          ⟨_,_,⟨0,by omega,rfl,rfl,rfl⟩,⟨⟨.inl rfl,rfl,rfl,rfl⟩,⟨bA,trivial⟩,trivial⟩⟩,?_⟩
         rintro s0 m0 ⟨j,hj,hq,rfl,hmeas⟩
         rw [← hlen] at hse
         by_cases hlt3 : j < L.length
         ·obtain ⟨o1,o2,o3⟩ := hok j (by omega)
          have h117 := S117 _ _ _ o1 o2 o3
          rw [fstE_step _ hlt3] at hq
          by_cases g : turnI (L.getD j tri0).1.1 (L.getD j tri0).2.1.1 (L.getD j tri0).2.2.1 ≤ 0
          ·have e1 : trE L j = 13 := if_pos g
           rw [e1,if_pos (by decide)] at hq
           have e2 : stripE t i = 13 := by rw [hse,← hq]
           rw [e2,if_pos (by decide)] at hs
           rw [← hs]
           conv=>whnf
           conv=>whnf
           conv=>whnf
           (conv=>whnf); refine ifB_dec (fun w5=>?_) (fun w5=>?_)
           ·conv=>whnf
            conv=>whnf
            conv=>whnf
            (conv=>whnf); refine ⟨[],by kernel_rfl,?_⟩
            conv=>whnf
            conv=>whnf
            conv=>whnf
            (conv=>whnf); refine ⟨⟨(by omega),(by omega)⟩,?_⟩
            conv=>whnf
            conv=>whnf
            conv=>whnf
            (conv=>whnf); refine ⟨⟨(by omega),(by omega)⟩,?_⟩
            conv=>whnf
            conv=>whnf
            conv=>whnf
            (conv=>whnf); refine ⟨⟨(by omega),(by omega)⟩,?_⟩
            conv=>whnf
            conv=>whnf
            conv=>whnf
            (conv=>whnf); refine ⟨⟨(by omega),(by omega)⟩,?_⟩
            conv=>whnf
            conv=>whnf
            conv=>whnf
            (conv=>whnf); refine ⟨⟨(by omega),(by omega)⟩,?_⟩
            conv=>whnf
            conv=>whnf
            conv=>whnf
            (conv=>whnf); refine ⟨⟨(by omega),(by omega)⟩,?_⟩
            conv=>whnf
            conv=>whnf
            conv=>whnf
            (conv=>whnf); refine .inl ⟨_,_,byX rfl (Sound1.pl (h117) rfl),?_⟩
            conv=>whnf
            conv=>whnf
            conv=>whnf
            (conv=>whnf); refine ifB_dec (fun w6=>?_) (fun w6=>?_)
            ·conv=>whnf
             conv=>whnf
             conv=>whnf
             (conv=>whnf); refine ⟨?_,nofun⟩
             (first | contradiction | omega | exact ave_tup2 rfl rfl)
            ·(exfalso; omega)
           ·(exfalso; omega)
          ·have e1 : trE L j = 0 := if_neg g
           rw [e1,if_neg (by decide)] at hq
           conv=>whnf
           conv=>whnf
           conv=>whnf
           (conv=>whnf); refine ifB_dec (fun w5=>?_) (fun w5=>?_)
           ·conv=>whnf
            conv=>whnf
            conv=>whnf
            (conv=>whnf); refine ⟨[],by kernel_rfl,?_⟩
            conv=>whnf
            conv=>whnf
            conv=>whnf
            (conv=>whnf); refine ⟨⟨(by omega),(by omega)⟩,?_⟩
            conv=>whnf
            conv=>whnf
            conv=>whnf
            (conv=>whnf); refine ⟨⟨(by omega),(by omega)⟩,?_⟩
            conv=>whnf
            conv=>whnf
            conv=>whnf
            (conv=>whnf); refine ⟨⟨(by omega),(by omega)⟩,?_⟩
            conv=>whnf
            conv=>whnf
            conv=>whnf
            (conv=>whnf); refine ⟨⟨(by omega),(by omega)⟩,?_⟩
            conv=>whnf
            conv=>whnf
            conv=>whnf
            (conv=>whnf); refine ⟨⟨(by omega),(by omega)⟩,?_⟩
            conv=>whnf
            conv=>whnf
            conv=>whnf
            (conv=>whnf); refine ⟨⟨(by omega),(by omega)⟩,?_⟩
            conv=>whnf
            conv=>whnf
            conv=>whnf
            (conv=>whnf); refine .inl ⟨_,_,byX rfl (Sound1.pl (h117) rfl),?_⟩
            conv=>whnf
            conv=>whnf
            conv=>whnf
            (conv=>whnf); refine ifB_dec (fun w6=>?_) (fun w6=>?_)
            ·(exfalso; omega)
            ·conv=>whnf
             conv=>whnf
             conv=>whnf
             (conv=>whnf); refine ⟨inK64 (by omega) (by omega),?_⟩
             conv=>whnf
             conv=>whnf
             conv=>whnf
             (conv=>whnf); refine ⟨_,_,⟨⟨j + 1,by omega,hq,rfl,rfl⟩,by omega⟩,⟨⟨.inl rfl,rfl,rfl,rfl⟩,⟨bA,trivial⟩,trivial⟩⟩
           ·(exfalso; omega)
         ·rw [fstE_end _ hlt3] at hq
          have e2 : stripE t i = 0 := by rw [hse,← hq]
          rw [e2,if_neg (by decide)] at hs
          conv=>whnf
          conv=>whnf
          conv=>whnf
          (conv=>whnf); refine ifB_dec (fun w5=>?_) (fun w5=>?_)
          ·(exfalso; omega)
          ·conv=>whnf
           conv=>whnf
           conv=>whnf
           (conv=>whnf); refine ⟨inK64 (by omega) (by omega),?_⟩
           conv=>whnf
           conv=>whnf
           conv=>whnf
           (conv=>whnf); refine ⟨_,_,⟨⟨i + 1,by omega,hs,rfl,rfl⟩,by omega⟩,⟨⟨.inl rfl,rfl,rfl,rfl⟩,⟨bA,trivial⟩,trivial⟩⟩
        ·(exfalso; omega)
       ·rw [fstE_end _ (show ¬ i < t.length - 1 by omega)] at hs
        rw [← hs]
        conv=>whnf
        conv=>whnf
        (conv=>whnf); refine ⟨inK64 (by omega) (by omega),?_⟩
        conv=>whnf
        conv=>whnf
        (conv=>whnf); refine ifB_dec (fun w4=>?_) (fun w4=>?_)
        ·(exfalso; omega)
        ·conv=>whnf
         conv=>whnf
         (conv=>whnf); refine ⟨?_,nofun⟩
         (first | contradiction | omega | exact ave_tup2 rfl rfl)
theorem S39 (t : List MRow) (ht : Fit t) : SP 39 [tblA t] (i64 (chkM t).2) false := by
 have h := S107 t ht
 refine sound (d := 2) tok2 mixed2 Tryz.func39 (by kernel_rfl) (by kernel_rfl) ?_
 (conv=>whnf); refine .inl ⟨_,_,byX rfl (Sound1.pl (h) rfl),?_⟩
 (conv=>whnf); refine ⟨?_,nofun⟩
 (first | rfl)
end Go.Tr

/- Contracts of chapter 5: areas of tables. Conditions: none. -/
-- seat YtgbdlkajmmjahaaGreat
namespace Go.Tr
open Go Go.Proofs
set_option maxRecDepth 20000
set_option maxHeartbeats 8000000

theorem RwOk.ofT {t : List MRow} (h : TblOk t) : RwOk t := ⟨h.n,h.np,h.len,h.pts⟩
end Go.Tr

/- Contracts of chapter 5: the reference's area of a table. Conditions: none. -/
-- seat YtgbdlkajmmjahaaGreat
namespace Go.Tr
open Go Go.Proofs
set_option maxRecDepth 20000
set_option maxHeartbeats 8000000

def triT (t : List MRow) : Nat → List Tri
  | 0=>[]
  | i + 1=>triT t i ++ triK t i (npT t - 1)
theorem triT_len (t : List MRow) : ∀ i,(triT t i).length = i * (2 * (npT t - 1))
 | 0=>by simp [triT]
 | i + 1=>by
  unfold triT
  rw [List.length_append,triT_len t i,triK_len]
  generalize 2 * (npT t - 1) = X
  rw [Nat.add_mul,Nat.one_mul]
end Go.Tr

/- Contracts of chapter 5: the bounds of a table. Conditions: none. -/
-- seat YtgbdlkajmmjahaaGreat
namespace Go.Tr
open Go Go.Proofs
set_option maxRecDepth 20000
set_option maxHeartbeats 8000000

theorem S101 (p : P3) : SP 101 [.agg (ptC p)] (.agg (ptC p)) false := by
 refine sound (d := 2) tok2 mixed2 Tryz.func101 (by kernel_rfl) (by kernel_rfl) ?_
 (conv=>whnf); refine ⟨?_,nofun⟩
 exact ave_aggR (l := ptC p) (by simp [AV.atom])
end Go.Tr

/- Contracts of chapter 5: the curve of an opening. Conditions: none. -/
-- seat YtgbdlkajmmjahaaGreat
namespace Go.Tr
open Go Go.Proofs
set_option maxRecDepth 20000
set_option maxHeartbeats 8000000

abbrev nmC (n : Nm) : List AV := [i64 n.1.1,i64 n.1.2.1,i64 n.1.2.2,i64 n.2]
def nms (L : List Nm) : AV := .rslice 4 L.length fun i=>nmC (L.getD i n0)
theorem mixI {x y part den : Int} (hx : -10000 ≤ x ∧ x ≤ 10000) (hy : -10000 ≤ y ∧ y ≤ 10000) (h : 0 ≤ part ∧ part ≤ den) (hd : 1 ≤ den ∧ den ≤ 200) : (x * den).natAbs ≤ 2000000 ∧ ((y - x) * part).natAbs ≤ 4000000 :=
  ⟨absM (A := 10000) (B := 200) (by omega) (by omega),absM (A := 20000) (B := 200) (by omega) (by omega)⟩
def btJ (p q : P3) (part den : Int) (j : Nat) : Nm := ((if 0 < j then p.1 * den + (q.1 - p.1) * part else 0,if 1 < j then p.2.1 * den + (q.2.1 - p.2.1) * part else 0,if 2 < j then p.2.2 * den + (q.2.2 - p.2.2) * part else 0),den)
theorem S168 (p q : P3) (part den : Int) (hp : PtOk p) (hq : PtOk q) (h : 0 ≤ part ∧ part ≤ den) (hd : 1 ≤ den ∧ den ≤ 200) :
  SP 168 [.agg (ptC p),.agg (ptC q),.rptr [i64 den],.rptr [i64 part]] (.agg (nmC (btwN p q part den))) false := by
 unfold PtOk at hp hq
 have m1 := mixI (x := p.1) (y := q.1) (by omega) (by omega) h hd
 have m2 := mixI (x := p.2.1) (y := q.2.1) (by omega) (by omega) h hd
 have m3 := mixI (x := p.2.2) (y := q.2.2) (by omega) (by omega) h hd
 have h1 := S101 p
 have h2 := S101 q
 refine sound (d := 2) tok2 mixed2 Tryz.func168 (by kernel_rfl) (by kernel_rfl) ?_
 (conv=>whnf); refine .inl ⟨_,_,byX rfl (Sound1.pl (h2) rfl),?_⟩
 (conv=>whnf); refine .inl ⟨_,_,byX rfl (Sound1.pl (h1) rfl),?_⟩
 (conv=>whnf); refine ⟨[],[2,3,6,7,8,16,17],fun st mq=>∃ (j : Nat) (F0 : Nat → List AV) (F1 : Nat → List AV),(j ≤ 3) ∧ st = ⟨[(2,.rptr [i64 den]),(3,.rptr [i64 part]),(6,.optr 2 0 0 0),(7,.optr 3 0 0 0),(8,.optr 4 0 0 0),(16,.agg (ptC p)),(17,i64 j)],⟨[⟨3,1,F0,0,false,true,false⟩,⟨3,1,F1,0,false,true,false⟩,⟨4,1,fun _=>[i64 0,i64 0,i64 0,i64 0],0,false,true,true⟩,⟨4,1,fun _=>nmC (btJ p q part den j),0,false,true,true⟩,⟨3,1,fun _=>ptC q,0,false,true,true⟩],[],none,0⟩,[]⟩ ∧ mq = 3 - j,
  ⟨_,_,⟨0,_,_,by omega,rfl,rfl⟩,⟨⟨.inl rfl,rfl,rfl,rfl⟩,⟨bA,⟨bA,⟨bA,⟨bA,⟨bA,trivial⟩⟩⟩⟩⟩,trivial⟩⟩,?_⟩
 rintro s0 m0 ⟨j,F0,F1,hj,rfl,hmeas⟩
 have hj4 : j = 0 ∨ j = 1 ∨ j = 2 ∨ j = 3 := by omega
 rcases hj4 with rfl | rfl | rfl | rfl
 ·conv=>whnf
  (conv=>whnf); refine ⟨⟨(by omega),(by omega)⟩,?_⟩
  conv=>whnf
  (conv=>whnf); refine ⟨[],by kernel_rfl,?_⟩
  conv=>whnf
  (conv=>whnf); refine ⟨inK64 (by omega) (by omega),?_⟩
  conv=>whnf
  (conv=>whnf); refine ⟨⟨(by omega),(by omega)⟩,?_⟩
  conv=>whnf
  (conv=>whnf); refine ⟨inK64 (by omega) (by omega),?_⟩
  conv=>whnf
  (conv=>whnf); refine ⟨inK64 (by omega) (by omega),?_⟩
  conv=>whnf
  (conv=>whnf); refine ⟨inK64 (by omega) (by omega),?_⟩
  conv=>whnf
  (conv=>whnf); refine ⟨⟨(by omega),(by omega)⟩,?_⟩
  conv=>whnf
  (conv=>whnf); refine ⟨inK64 (by omega) (by omega),?_⟩
  conv=>whnf
  (conv=>whnf); refine ⟨_,_,⟨⟨1,_,_,by omega,rfl,rfl⟩,by omega⟩,⟨⟨.inl rfl,rfl,rfl,rfl⟩,⟨bA,⟨bA,⟨bA,⟨bA,⟨bA,trivial⟩⟩⟩⟩⟩,trivial⟩⟩
 ·conv=>whnf
  (conv=>whnf); refine ⟨⟨(by omega),(by omega)⟩,?_⟩
  conv=>whnf
  (conv=>whnf); refine ⟨[],by kernel_rfl,?_⟩
  conv=>whnf
  (conv=>whnf); refine ⟨inK64 (by omega) (by omega),?_⟩
  conv=>whnf
  (conv=>whnf); refine ⟨⟨(by omega),(by omega)⟩,?_⟩
  conv=>whnf
  (conv=>whnf); refine ⟨inK64 (by omega) (by omega),?_⟩
  conv=>whnf
  (conv=>whnf); refine ⟨inK64 (by omega) (by omega),?_⟩
  conv=>whnf
  (conv=>whnf); refine ⟨inK64 (by omega) (by omega),?_⟩
  conv=>whnf
  (conv=>whnf); refine ⟨⟨(by omega),(by omega)⟩,?_⟩
  conv=>whnf
  (conv=>whnf); refine ⟨inK64 (by omega) (by omega),?_⟩
  conv=>whnf
  (conv=>whnf); refine ⟨_,_,⟨⟨2,_,_,by omega,rfl,rfl⟩,by omega⟩,⟨⟨.inl rfl,rfl,rfl,rfl⟩,⟨bA,⟨bA,⟨bA,⟨bA,⟨bA,trivial⟩⟩⟩⟩⟩,trivial⟩⟩
 ·conv=>whnf
  (conv=>whnf); refine ⟨⟨(by omega),(by omega)⟩,?_⟩
  conv=>whnf
  (conv=>whnf); refine ⟨[],by kernel_rfl,?_⟩
  conv=>whnf
  (conv=>whnf); refine ⟨inK64 (by omega) (by omega),?_⟩
  conv=>whnf
  (conv=>whnf); refine ⟨⟨(by omega),(by omega)⟩,?_⟩
  conv=>whnf
  (conv=>whnf); refine ⟨inK64 (by omega) (by omega),?_⟩
  conv=>whnf
  (conv=>whnf); refine ⟨inK64 (by omega) (by omega),?_⟩
  conv=>whnf
  (conv=>whnf); refine ⟨inK64 (by omega) (by omega),?_⟩
  conv=>whnf
  (conv=>whnf); refine ⟨⟨(by omega),(by omega)⟩,?_⟩
  conv=>whnf
  (conv=>whnf); refine ⟨inK64 (by omega) (by omega),?_⟩
  conv=>whnf
  (conv=>whnf); refine ⟨_,_,⟨⟨3,_,_,by omega,rfl,rfl⟩,by omega⟩,⟨⟨.inl rfl,rfl,rfl,rfl⟩,⟨bA,⟨bA,⟨bA,⟨bA,⟨bA,trivial⟩⟩⟩⟩⟩,trivial⟩⟩
 ·conv=>whnf
  (conv=>whnf); refine ⟨?_,nofun⟩
  exact ave_aggR (l := nmC (btwN p q part den)) (by simp [AV.atom])
theorem appG {α : Type} (g : α → List AV) {m : Nat} (hg : ∀ a,(g a).length = m) (d : α) (L : List α) (x : α) (n j : Nat) (hn : L.length = n) (hj : j < n + 1) : g ((L ++ [x]).getD j d) = if j < n then g (L.getD (0 + j) d) else List.take m (List.drop ((j - n) * m) (g x)) := by
 subst hn
 rw [Nat.zero_add]
 by_cases h : j < L.length
 ·rw [if_pos h]; simp [List.getD_eq_getElem?_getD,h,List.getElem?_append_left h]
 ·have : j = L.length := by omega
  subst this
  rw [if_neg h,Nat.sub_self,Nat.zero_mul,List.drop_zero,List.take_of_length_le (by rw [hg]; exact Nat.le_refl _)]
  simp [List.getD_eq_getElem?_getD]
theorem appG2 {α : Type} (g : α → List AV) {m : Nat} (hg : ∀ a,(g a).length = m) (d : α) (L : List α) (x y : α) (n j : Nat) (hn : L.length = n) (hj : j < n + 1 + 1) : g ((L ++ [x] ++ [y]).getD j d) = if j < n + 1 then (if 0 + j < n then g (L.getD (0 + (0 + j)) d) else List.take m (List.drop ((0 + j - n) * m) (g x))) else List.take m (List.drop ((j - (n + 1)) * m) (g y)) := by
 rw [appG g hg d (L ++ [x]) y (n + 1) j (by simp [hn]) hj]
 by_cases h : j < n + 1
 ·rw [if_pos h,if_pos h,appG g hg d L x n (0 + j) hn (by omega)]
 ·rw [if_neg h,if_neg h]
theorem nm_veq (m n : Nm) : vEqL [.int .i64 m.1.1,.int .i64 m.1.2.1,.int .i64 m.1.2.2,.int .i64 m.2] [.int .i64 n.1.1,.int .i64 n.1.2.1,.int .i64 n.1.2.2,.int .i64 n.2] = decide (m = n) := by
 obtain ⟨⟨a,b,c⟩,d⟩ := m
 obtain ⟨⟨a',b',c'⟩,d'⟩ := n
 rw [Bool.eq_iff_iff]
 simp [vEqL,Prod.ext_iff,and_assoc]
theorem rawN_2 {A B : List P3} {part den : Int} {k : Nat} (h : k + 1 < A.length) : rawN A B part den (k + 1) = rawN A B part den k ++ [btwN (A.getD k p0) (B.getD k p0) part den] ++ [btwN (A.getD (k + 1) p0) (B.getD k p0) part den] := by
  rw [rawN,if_pos h,List.append_assoc]; rfl
theorem rawN_1 {A B : List P3} {part den : Int} {k : Nat} (h : ¬ k + 1 < A.length) : rawN A B part den (k + 1) = rawN A B part den k ++ [btwN (A.getD k p0) (B.getD k p0) part den] := by
  rw [rawN,if_neg h]
theorem inK_of {n : Int} (h : -9223372036854775808 ≤ n ∧ n ≤ 9223372036854775807) : inK .i64 n := inK64 h.1 h.2
set_option maxHeartbeats 8000000 in
theorem S137 (t : List MRow) (ht : Fit t) (hT : TblOk t) (f : Int × Int) (hO : OpOk t f) : SP 137 [tblA t, gaF f] (nms (crvN t f)) false := by
 have hn := hT.n
 have hnp := hT.np
 have hd := hO.den
 have hK := rwK_ok hT hO
 have hcl := crv_len hT hO
 have hcd := crv_den hT hO
 have hcp := crv_part hT hO
 have ho := hT.op
 have hml : ∀ j,j < t.length → ((t.getD j r0).o * f.2).natAbs ≤ 100 * 10 := fun j hj=>absM (by have := ho j hj; omega) (by omega)
 have r1 : inK .i64 ((t.getD (rwK t f) r0).o * f.2) := inK_of (by have := hml (rwK t f) (by omega); omega)
 have r2 : inK .i64 (crvP t f) := inK_of (by omega)
 have r3 : inK .i64 ((t.getD (rwK t f + 1) r0).o - (t.getD (rwK t f) r0).o) := inK_of (by have := ho (rwK t f) (by omega); have := ho (rwK t f + 1) (by omega); omega)
 have r4 : inK .i64 (crvD t f) := inK_of (by omega)
 refine sound (d := 2) tok2 mixed2 Tryz.func137 (by kernel_rfl) (by kernel_rfl) ?_
 (conv=>whnf); refine ⟨[],[2,3,5],fun st mq=>∃ (i : Nat),(i + 2 ≤ t.length) ∧ (rwI t f (t.length - i) i = rwK t f) ∧ st = ⟨[(2,.optr 0 0 0 0),(3,.optr 1 0 0 0),(5,i64 i)],⟨[⟨1,1,fun _=>[rowsA t],0,false,true,true⟩,⟨2,1,fun _=>[i64 f.1,i64 f.2],0,false,true,true⟩],[],none,0⟩,[]⟩ ∧ mq = t.length - i,
  ⟨_,_,⟨0,by omega,rfl,rfl,rfl⟩,⟨⟨.inl rfl,rfl,rfl,rfl⟩,⟨bA,⟨bA,trivial⟩⟩,trivial⟩⟩,?_⟩
 rintro s0 m0 ⟨i,hi,hr,rfl,hmeas⟩
 by_cases hlt : i + 2 < t.length
 ·have q1 : inK .i64 ((t.getD (i + 1) r0).o * f.2) := inK_of (by have := hml (i + 1) (by omega); omega)
  by_cases hle : (t.getD (i + 1) r0).o * f.2 ≤ f.1
  ·rw [rwI_go (by omega) ⟨hlt,hle⟩] at hr
   conv=>whnf
   (conv=>whnf); refine ⟨[],by kernel_rfl,?_⟩
   conv=>whnf
   (conv=>whnf); refine ⟨inK64 (by omega) (by omega),?_⟩
   conv=>whnf
   (conv=>whnf); refine ifB_dec (fun w1=>?_) (fun w1=>?_)
   ·conv=>whnf
    (conv=>whnf); refine ⟨inK64 (by omega) (by omega),?_⟩
    conv=>whnf
    (conv=>whnf); refine ⟨⟨(by omega),(by omega)⟩,?_⟩
    conv=>whnf
    (conv=>whnf); refine ⟨by assumption,?_⟩
    conv=>whnf
    (conv=>whnf); refine ifB_dec (fun w2=>?_) (fun w2=>?_)
    ·conv=>whnf
     (conv=>whnf); refine ⟨inK64 (by omega) (by omega),?_⟩
     conv=>whnf
     (conv=>whnf); refine ⟨_,_,⟨⟨i + 1,by omega,hr,rfl,rfl⟩,by omega⟩,⟨⟨.inl rfl,rfl,rfl,rfl⟩,⟨bA,⟨bA,trivial⟩⟩,trivial⟩⟩
    ·(first | contradiction | exact q1 | omega)
   ·(exfalso; omega)
  ·rw [rwI_stop _ _ (fun e => hle e.2)] at hr
   subst hr
   conv=>whnf
   (conv=>whnf); refine ⟨[],by kernel_rfl,?_⟩
   conv=>whnf
   (conv=>whnf); refine ⟨inK64 (by omega) (by omega),?_⟩
   conv=>whnf
   (conv=>whnf); refine ifB_dec (fun w1=>?_) (fun w1=>?_)
   ·conv => whnf
    (conv=>whnf); refine ⟨inK64 (by omega) (by omega),?_⟩
    conv=>whnf
    (conv=>whnf); refine ⟨⟨(by omega),(by omega)⟩,?_⟩
    conv=>whnf
    (conv=>whnf); refine ⟨by assumption,?_⟩
    conv=>whnf
    (conv=>whnf); refine ifB_dec (fun w2=>?_) (fun w2=>?_)
    ·conv=>whnf
     (conv=>whnf); refine ⟨inK64 (by omega) (by omega),?_⟩
     (first | contradiction | exact r1 | exact r2 | exact r3 | exact r4 | exact q1 | omega)
    ·conv => whnf
     (conv=>whnf); refine ⟨[(6,13),(10,13)],by kernel_rfl,?_⟩
     conv=>whnf
     (conv=>whnf); refine ⟨⟨(by omega),(by omega)⟩,?_⟩
     conv=>whnf
     (conv=>whnf); refine ⟨inK64 (by omega) (by omega),?_⟩
     conv=>whnf
     (conv=>whnf); refine ⟨⟨(by omega),(by omega)⟩,?_⟩
     conv=>whnf
     (conv=>whnf); refine ⟨[(9,18),(11,18),(14,18)],by kernel_rfl,?_⟩
     conv=>whnf
     (conv=>whnf); refine ⟨by assumption,?_⟩
     conv=>whnf
     (conv=>whnf); refine ⟨by assumption,?_⟩
     conv=>whnf
     (conv=>whnf); refine ⟨by assumption,?_⟩
     conv=>whnf
     (conv=>whnf); refine ⟨by assumption,?_⟩
     conv=>whnf
     (conv=>whnf); refine ⟨[.slot 11 4],[6,7,10,11,66,67,68],fun st mq=>∃ (k : Nat) (R : List Nm) (n : Nat) (F0 : Nat → List AV) (F1 : Nat → List AV),(k ≤ (crvA t f).length) ∧ (R = rawN (crvA t f) (crvB t f) (crvP t f) (crvD t f) k) ∧ (R.length = n) ∧ st = ⟨[(6,.optr 2 0 0 0),(7,.optr 3 0 0 0),(10,.func (.func 168) 0 [.optr 5 0 0 0,.optr 4 0 0 0]),(11,.oslice 6 0 0 n none),(66,ptsA (crvA t f)),(67,i64 (crvA t f).length),(68,i64 k)],⟨[⟨1,1,F0,0,false,true,false⟩,⟨2,1,F1,0,false,true,false⟩,⟨2,1,fun _=>[i64 (t.getD (rwK t f) r0).o,ptsA (crvA t f)],0,false,true,true⟩,⟨2,1,fun _=>[i64 (t.getD (rwK t f + 1) r0).o,ptsA (crvB t f)],0,false,true,true⟩,⟨1,1,fun _=>[i64 (crvP t f)],0,false,true,true⟩,⟨1,1,fun _=>[i64 (crvD t f)],0,false,true,true⟩,⟨4,n,fun i=>nmC (R.getD i n0),0,false,true,false⟩],[],none,0⟩,[]⟩ ∧ mq = (crvA t f).length - k,
      ⟨_,_,⟨0,[],0,_,_,by omega,rfl,rfl,rfl,rfl⟩,⟨⟨.inl rfl,rfl,rfl,rfl⟩,⟨bA,⟨bA,⟨bA,⟨bA,⟨bA,⟨bA,⟨⟨rfl,rfl,rfl,rfl,fun _=>rfl,fun i h=>.inl (absurd h (Nat.not_lt_zero i))⟩,trivial⟩⟩⟩⟩⟩⟩⟩,trivial⟩⟩,?_⟩
     rintro s0 m0 ⟨k,R,n,F0,F1,hk,hR,hn,rfl,hmeas⟩
     have hpt := crv_pts hT hO k
     have hrl := rawN_len (crvA t f) (crvB t f) (crvP t f) (crvD t f) k
     rw [← hR] at hrl
     by_cases hlt2 : k < (crvA t f).length
     ·have c1 := S168 ((crvA t f).getD k p0) ((crvB t f).getD k p0) (crvP t f) (crvD t f) hpt.1 hpt.2 hcp hcd
      by_cases hlt3 : k + 1 < (crvA t f).length
      ·have c2 := S168 ((crvA t f).getD (k + 1) p0) ((crvB t f).getD k p0) (crvP t f) (crvD t f) (crv_pts hT hO (k + 1)).1 hpt.2 hcp hcd
       conv=>whnf
       conv=>whnf
       (conv=>whnf); refine ifB_dec (fun w3=>?_) (fun w3=>?_)
       ·conv=>whnf
        conv=>whnf
        (conv=>whnf); refine ⟨⟨(by omega),(by omega)⟩,?_⟩
        conv=>whnf
        conv=>whnf
        (conv=>whnf); refine ⟨[],by kernel_rfl,?_⟩
        conv=>whnf
        conv=>whnf
        (conv=>whnf); refine ⟨⟨(by omega),(by omega)⟩,?_⟩
        conv=>whnf
        conv=>whnf
        (conv=>whnf); refine .inl ⟨_,_,byX rfl (Sound1.pl (c1) rfl),?_⟩
        conv=>whnf
        conv=>whnf
        (conv=>whnf); refine .inl ?_
        conv=>whnf
        conv=>whnf
        (conv=>whnf); refine ⟨(by show _ * (32 + 1) ≤ _; omega),?_⟩
        conv=>whnf
        conv=>whnf
        (conv=>whnf); refine ⟨inK64 (by omega) (by omega),?_⟩
        conv=>whnf
        conv=>whnf
        (conv=>whnf); refine ifB_dec (fun w4=>?_) (fun w4=>?_)
        ·conv=>whnf
         conv=>whnf
         (conv=>whnf); refine ⟨[],by kernel_rfl,?_⟩
         conv=>whnf
         conv=>whnf
         (conv=>whnf); refine ⟨inK64 (by omega) (by omega),?_⟩
         conv=>whnf
         conv=>whnf
         (conv=>whnf); refine ⟨⟨(by omega),(by omega)⟩,?_⟩
         conv=>whnf
         conv=>whnf
         (conv=>whnf); refine ⟨⟨(by omega),(by omega)⟩,?_⟩
         conv=>whnf
         conv=>whnf
         (conv=>whnf); refine .inl ⟨_,_,byX rfl (Sound1.pl (c2) rfl),?_⟩
         conv=>whnf
         conv=>whnf
         (conv=>whnf); refine .inl ?_
         conv=>whnf
         conv=>whnf
         (conv=>whnf); refine ⟨(by show _ * (32 + 1) ≤ _; omega),?_⟩
         conv=>whnf
         conv=>whnf
         (conv=>whnf); refine ⟨inK64 (by omega) (by omega),?_⟩
         conv=>whnf
         conv=>whnf
         (conv=>whnf); refine ⟨_,_,⟨⟨k + 1,R ++ [btwN ((crvA t f).getD k p0) ((crvB t f).getD k p0) (crvP t f) (crvD t f)] ++ [btwN ((crvA t f).getD (k + 1) p0) ((crvB t f).getD k p0) (crvP t f) (crvD t f)],n + 1 + 1,_,_,by omega,(by rw [rawN_2 hlt3,hR]),(by simp [hn]),rfl,rfl⟩,by omega⟩,⟨⟨.inl rfl,rfl,rfl,rfl⟩,⟨bA,⟨bA,⟨bA,⟨bA,⟨bA,⟨bA,⟨⟨rfl,rfl,rfl,rfl,fun _=>rfl,fun j hj=>.inl (appG2 nmC (fun _=>rfl) n0 R _ _ n j hn hj)⟩,trivial⟩⟩⟩⟩⟩⟩⟩,trivial⟩⟩
        ·(exfalso; omega)
       ·(exfalso; omega)
      ·conv=>whnf
       conv=>whnf
       (conv=>whnf); refine ifB_dec (fun w3=>?_) (fun w3=>?_)
       ·conv=>whnf
        conv=>whnf
        (conv=>whnf); refine ⟨⟨(by omega),(by omega)⟩,?_⟩
        conv=>whnf
        conv=>whnf
        (conv=>whnf); refine ⟨[],by kernel_rfl,?_⟩
        conv=>whnf
        conv=>whnf
        (conv=>whnf); refine ⟨⟨(by omega),(by omega)⟩,?_⟩
        conv=>whnf
        conv=>whnf
        (conv=>whnf); refine .inl ⟨_,_,byX rfl (Sound1.pl (c1) rfl),?_⟩
        conv=>whnf
        conv=>whnf
        (conv=>whnf); refine .inl ?_
        conv=>whnf
        conv=>whnf
        (conv=>whnf); refine ⟨(by show _ * (32 + 1) ≤ _; omega),?_⟩
        conv=>whnf
        conv=>whnf
        (conv=>whnf); refine ⟨inK64 (by omega) (by omega),?_⟩
        conv=>whnf
        conv=>whnf
        (conv=>whnf); refine ifB_dec (fun w4=>?_) (fun w4=>?_)
        ·(exfalso; omega)
        ·conv=>whnf
         conv=>whnf
         (conv=>whnf); refine ⟨inK64 (by omega) (by omega),?_⟩
         conv=>whnf
         conv=>whnf
         (conv=>whnf); refine ⟨_,_,⟨⟨k + 1,R ++ [btwN ((crvA t f).getD k p0) ((crvB t f).getD k p0) (crvP t f) (crvD t f)],n + 1,_,_,by omega,(by rw [rawN_1 hlt3,hR]),(by simp [hn]),rfl,rfl⟩,by omega⟩,⟨⟨.inl rfl,rfl,rfl,rfl⟩,⟨bA,⟨bA,⟨bA,⟨bA,⟨bA,⟨bA,⟨⟨rfl,rfl,rfl,rfl,fun _=>rfl,fun j hj=>.inl (appG nmC (fun _=>rfl) n0 R _ n j hn hj)⟩,trivial⟩⟩⟩⟩⟩⟩⟩,trivial⟩⟩
       ·(exfalso; omega)
     ·obtain rfl : k = (crvA t f).length := by omega
      have hR : R = crvR t f := hR
      have ec : crvN t f = compL R := by rw [hR]; rfl
      rw [ec]
      subst hn
      conv=>whnf
      conv=>whnf
      (conv=>whnf); refine ifB_dec (fun w3=>?_) (fun w3=>?_)
      ·(exfalso; omega)
      ·conv => whnf
       conv=>whnf
       (conv=>whnf); refine .inr (.inl ⟨[],?_⟩)
       conv=>whnf
       conv=>whnf
       (conv=>whnf); refine ifB_dec (fun w4=>?_) (fun w4=>?_)
       ·conv=>whnf
        conv=>whnf
        (conv=>whnf); refine ⟨?_,nofun⟩
        rw [compL_one (by omega)]
        exact ⟨rfl,rfl,fun _ _=>rfl⟩
       ·conv => whnf
        conv=>whnf
        (conv=>whnf); refine ⟨[.forget [107,69,6,7,10,11,66,67,68]],[0,3],fun st mq=>∃ (k : Nat) (F0 : Nat → List AV) (F1 : Nat → List AV) (F2 : Nat → List AV) (F3 : Nat → List AV) (F4 : Nat → List AV) (F5 : Nat → List AV),(1 ≤ k) ∧ (k ≤ R.length) ∧ (compL (R.take k) = R.take k) ∧ st = ⟨[(0,.oslice 6 0 0 R.length none),(3,i64 k)],⟨[⟨1,1,F0,0,false,true,false⟩,⟨2,1,F1,0,false,true,false⟩,⟨2,1,F2,0,false,true,false⟩,⟨2,1,F3,0,false,true,false⟩,⟨1,1,F4,0,false,true,false⟩,⟨1,1,F5,0,false,true,false⟩,⟨4,R.length,fun i=>nmC (R.getD i n0),0,false,true,false⟩],[],none,0⟩,[]⟩ ∧ mq = R.length - k,
         ⟨_,_,⟨1,_,_,_,_,_,_,by omega,by omega,compL_one (by rw [List.length_take]; omega),rfl,rfl⟩,⟨⟨.inl rfl,rfl,rfl,rfl⟩,⟨bA,⟨bA,⟨bA,⟨bA,⟨bA,⟨bA,⟨bA,trivial⟩⟩⟩⟩⟩⟩⟩,trivial⟩⟩,?_⟩
        rintro s0 m0 ⟨k,F0,F1,F2,F3,F4,F5,hk1,hk2,hc,rfl,hmeas⟩
        have ek : ((k : Int) - 1).toNat = k - 1 := by omega
        by_cases hlt : k < R.length
        ·have hv := nm_veq (R.getD (0 + (k : Int).toNat) n0) (R.getD (0 + ((k : Int) - 1).toNat) n0)
         have hz : 0 ≤ (k : Int) ∧ (k : Int) ≤ (R.length : Int) ∧ ((0 : Nat) : Int) + (R.length : Int) ≤ (R.length : Int) := ⟨by omega,by omega,by omega⟩
         by_cases he : R.getD k n0 = R.getD (k - 1) n0
         ·rw [decide_eq_true (by rw [ek, Nat.zero_add, Nat.zero_add]; exact he)] at hv
          conv=>whnf
          conv=>whnf
          conv=>whnf
          (conv=>whnf); refine ifB_dec (fun w5=>?_) (fun w5=>?_)
          ·conv => whnf
           conv=>whnf
           conv=>whnf
           (conv=>whnf); refine ⟨[],by kernel_rfl,?_⟩
           conv=>whnf
           conv=>whnf
           conv=>whnf
           (conv=>whnf); refine ⟨⟨(by omega),(by omega)⟩,?_⟩
           conv=>whnf
           conv=>whnf
           conv=>whnf
           (conv=>whnf); refine ⟨inK64 (by omega) (by omega),?_⟩
           conv=>whnf
           conv=>whnf
           conv=>whnf
           (conv=>whnf); refine ⟨⟨(by omega),(by omega)⟩,?_⟩
           conv=>whnf
           conv=>whnf
           conv=>whnf
           (conv=>whnf); refine ifB_intro (fun w6=>?_) (fun w6=>?_)
           ·conv=>whnf
            conv=>whnf
            conv=>whnf
            (conv=>whnf); refine ⟨by assumption,?_⟩
            conv=>whnf
            conv=>whnf
            conv=>whnf
            (conv=>whnf); refine ⟨[],[0,3,4,5],fun st mq=>∃ (k1 : Nat) (q : Nat) (a : List Nm) (F0 : Nat → List AV) (F1 : Nat → List AV) (F2 : Nat → List AV) (F3 : Nat → List AV) (F4 : Nat → List AV) (F5 : Nat → List AV),(1 ≤ q) ∧ (CmpI n0 R a k1 (k + q)) ∧ st = ⟨[(0,.oslice 6 0 0 R.length none),(3,i64 k1),(4,.oslice 6 0 (0 + (k : Int).toNat) ((R.length : Int) - (k : Int)).toNat none),(5,i64 q)],⟨[⟨1,1,F0,0,false,true,false⟩,⟨2,1,F1,0,false,true,false⟩,⟨2,1,F2,0,false,true,false⟩,⟨2,1,F3,0,false,true,false⟩,⟨1,1,F4,0,false,true,false⟩,⟨1,1,F5,0,false,true,false⟩,⟨4,R.length,fun i=>nmC (a.getD i n0),0,false,true,false⟩],[],none,0⟩,[]⟩ ∧ mq = R.length - k - q,
             ⟨_,_,⟨k,1,R,_,_,_,_,_,_,by omega,cmpI_start hk1 hlt hc he,rfl,rfl⟩,⟨⟨.inl rfl,rfl,rfl,rfl⟩,⟨bA,⟨bA,⟨bA,⟨bA,⟨bA,⟨bA,⟨bA,trivial⟩⟩⟩⟩⟩⟩⟩,trivial⟩⟩,?_⟩
            rintro s0 m0 ⟨k1,q,a,F0,F1,F2,F3,F4,F5,hq,hI,rfl,hmeas⟩
            have hkp := hI.kp
            have hal := hI.len
            by_cases hlt2 : k + q < R.length
            ·have hv2 := nm_veq (a.getD (0 + (k : Int).toNat + (q : Int).toNat) n0) (a.getD (0 + (k : Int).toNat + ((q : Int) - 1).toNat) n0)
             have ep : 0 + (k : Int).toNat + ((q : Int) - 1).toNat = k + q - 1 := by omega
             have eq0 : 0 + (k : Int).toNat + (q : Int).toNat = k + q := by omega
             by_cases he2 : a.getD (k + q) n0 = a.getD (k + q - 1) n0
             ·rw [decide_eq_true (by rw [ep,eq0]; exact he2)] at hv2
              conv=>whnf
              conv=>whnf
              conv=>whnf
              conv=>whnf
              (conv=>whnf); refine ifB_dec (fun w7=>?_) (fun w7=>?_)
              ·conv=>whnf
               conv=>whnf
               conv=>whnf
               conv=>whnf
               (conv=>whnf); refine ⟨[],by kernel_rfl,?_⟩
               conv=>whnf
               conv=>whnf
               conv=>whnf
               conv=>whnf
               (conv=>whnf); refine ⟨⟨(by omega),(by omega)⟩,?_⟩
               conv=>whnf
               conv=>whnf
               conv=>whnf
               conv=>whnf
               (conv=>whnf); refine ⟨inK64 (by omega) (by omega),?_⟩
               conv=>whnf
               conv=>whnf
               conv=>whnf
               conv=>whnf
               (conv=>whnf); refine ⟨⟨(by omega),(by omega)⟩,?_⟩
               conv=>whnf
               conv=>whnf
               conv=>whnf
               conv=>whnf
               (conv=>whnf); refine ifB_not ?_
               conv=>whnf
               conv=>whnf
               conv=>whnf
               conv=>whnf
               (conv=>whnf); refine ifB_intro (fun w8=>?_) (fun w8=>?_)
               ·conv=>whnf
                conv=>whnf
                conv=>whnf
                conv=>whnf
                (conv=>whnf); refine ⟨inK64 (by omega) (by omega),?_⟩
                conv=>whnf
                conv=>whnf
                conv=>whnf
                conv=>whnf
                (conv=>whnf); refine ⟨_,_,⟨⟨k1,q + 1,a,_,_,_,_,_,_,by omega,hI.same hlt2 he2,rfl,rfl⟩,by omega⟩,⟨⟨.inl rfl,rfl,rfl,rfl⟩,⟨bA,⟨bA,⟨bA,⟨bA,⟨bA,⟨bA,⟨bA,trivial⟩⟩⟩⟩⟩⟩⟩,trivial⟩⟩
               ·exact absurd (hv2.symm.trans w8) nofun
              ·(exfalso; omega)
             ·rw [decide_eq_false (by rw [ep,eq0]; exact he2)] at hv2
              have hrow := fun i : Nat=>rowG (n := 4) (fun e=>nmC e) (fun _=>rfl) n0 a (k1 : Int).toNat i (a.getD (0 + (k : Int).toNat + (q : Int).toNat) n0) (by omega)
              conv=>whnf
              conv=>whnf
              conv=>whnf
              conv=>whnf
              (conv=>whnf); refine ifB_dec (fun w7=>?_) (fun w7=>?_)
              ·conv=>whnf
               conv=>whnf
               conv=>whnf
               conv=>whnf
               (conv=>whnf); refine ⟨[],by kernel_rfl,?_⟩
               conv=>whnf
               conv=>whnf
               conv=>whnf
               conv=>whnf
               (conv=>whnf); refine ⟨⟨(by omega),(by omega)⟩,?_⟩
               conv=>whnf
               conv=>whnf
               conv=>whnf
               conv=>whnf
               (conv=>whnf); refine ⟨inK64 (by omega) (by omega),?_⟩
               conv=>whnf
               conv=>whnf
               conv=>whnf
               conv=>whnf
               (conv=>whnf); refine ⟨⟨(by omega),(by omega)⟩,?_⟩
               conv=>whnf
               conv=>whnf
               conv=>whnf
               conv=>whnf
               (conv=>whnf); refine ifB_not ?_
               conv=>whnf
               conv=>whnf
               conv=>whnf
               conv=>whnf
               (conv=>whnf); refine ifB_intro (fun w8=>?_) (fun w8=>?_)
               ·exact absurd (hv2.symm.trans w8) nofun
               ·conv=>whnf
                conv=>whnf
                conv=>whnf
                conv=>whnf
                (conv=>whnf); refine ⟨⟨(by omega),(by omega)⟩,?_⟩
                conv=>whnf
                conv=>whnf
                conv=>whnf
                conv=>whnf
                (conv=>whnf); refine ⟨⟨(by omega),(by omega)⟩,?_⟩
                refine ⟨_,fun i _=>hrow i,?_⟩
                conv=>whnf
                conv=>whnf
                conv=>whnf
                conv=>whnf
                (conv=>whnf); refine ⟨inK64 (by omega) (by omega),?_⟩
                conv=>whnf
                conv=>whnf
                conv=>whnf
                conv=>whnf
                (conv=>whnf); refine ⟨inK64 (by omega) (by omega),?_⟩
                conv=>whnf
                conv=>whnf
                conv=>whnf
                conv=>whnf
                (conv=>whnf); refine ⟨_,_,⟨⟨k1 + 1,q + 1,a.set k1 (a.getD (0 + (k : Int).toNat + (q : Int).toNat) n0),_,_,_,_,_,_,by omega,(by rw [eq0]; exact hI.put hlt2 he2),rfl,rfl⟩,by omega⟩,⟨⟨.inl rfl,rfl,rfl,rfl⟩,⟨bA,⟨bA,⟨bA,⟨bA,⟨bA,⟨bA,⟨bA,trivial⟩⟩⟩⟩⟩⟩⟩,trivial⟩⟩
              ·(exfalso; omega)
            ·have hf := hI.fin hlt2
             have hz2 : 0 ≤ (k1 : Int) ∧ (k1 : Int) ≤ (R.length : Int) ∧ ((0 : Nat) : Int) + (R.length : Int) ≤ (R.length : Int) := ⟨by omega,by omega,by omega⟩
             have hz3 : 0 ≤ (0 : Int) ∧ (0 : Int) ≤ (k1 : Int) ∧ ((0 : Nat) : Int) + (k1 : Int) ≤ (R.length : Int) := ⟨by omega,by omega,by omega⟩
             conv=>whnf
             conv=>whnf
             conv=>whnf
             conv=>whnf
             (conv=>whnf); refine ifB_dec (fun w7=>?_) (fun w7=>?_)
             ·(exfalso; omega)
             ·conv=>whnf
              conv=>whnf
              conv=>whnf
              conv=>whnf
              (conv=>whnf); refine ⟨by assumption,?_⟩
              conv=>whnf
              conv=>whnf
              conv=>whnf
              conv=>whnf
              (conv=>whnf); refine ⟨by assumption,?_⟩
              conv=>whnf
              conv=>whnf
              conv=>whnf
              conv=>whnf
              (conv=>whnf); refine ⟨?_,nofun⟩
              exact ⟨rfl,(by have := hf.1; omega),fun i hi=>(if_neg (by omega)).trans (congrArg (fun e=>nmC e) (hf.2 i (by omega)))⟩
           ·exact absurd (hv.symm.trans w6) nofun
          ·(exfalso; omega)
         ·rw [decide_eq_false (by rw [ek,Nat.zero_add,Nat.zero_add]; exact he)] at hv
          conv=>whnf
          conv=>whnf
          conv=>whnf
          (conv=>whnf); refine ifB_dec (fun w5=>?_) (fun w5=>?_)
          ·conv=>whnf
           conv=>whnf
           conv=>whnf
           (conv=>whnf); refine ⟨[],by kernel_rfl,?_⟩
           conv=>whnf
           conv=>whnf
           conv=>whnf
           (conv=>whnf); refine ⟨⟨(by omega),(by omega)⟩,?_⟩
           conv=>whnf
           conv=>whnf
           conv=>whnf
           (conv=>whnf); refine ⟨inK64 (by omega) (by omega),?_⟩
           conv=>whnf
           conv=>whnf
           conv=>whnf
           (conv=>whnf); refine ⟨⟨(by omega),(by omega)⟩,?_⟩
           conv=>whnf
           conv=>whnf
           conv=>whnf
           (conv=>whnf); refine ifB_intro (fun w6=>?_) (fun w6=>?_)
           ·exact absurd (hv.symm.trans w6) nofun
           ·conv=>whnf
            conv=>whnf
            conv=>whnf
            (conv=>whnf); refine ⟨inK64 (by omega) (by omega),?_⟩
            conv=>whnf
            conv=>whnf
            conv=>whnf
            (conv=>whnf); refine ⟨_,_,⟨⟨k + 1,_,_,_,_,_,_,by omega,by omega,comp_go hk1 hlt hc he,rfl,rfl⟩,by omega⟩,⟨⟨.inl rfl,rfl,rfl,rfl⟩,⟨bA,⟨bA,⟨bA,⟨bA,⟨bA,⟨bA,⟨bA,trivial⟩⟩⟩⟩⟩⟩⟩,trivial⟩⟩
          ·(exfalso; omega)
        ·obtain rfl : k = R.length := by omega
         rw [List.take_length] at hc
         rw [hc]
         conv=>whnf
         conv=>whnf
         conv=>whnf
         (conv=>whnf); refine ifB_dec (fun w5=>?_) (fun w5=>?_)
         ·(exfalso; omega)
         ·conv=>whnf
          conv=>whnf
          conv=>whnf
          (conv=>whnf); refine ⟨?_,nofun⟩
          exact ⟨rfl,rfl,fun _ _=>rfl⟩
   ·(exfalso; omega)
 ·rw [rwI_stop _ _ (fun e => hlt e.1)] at hr
  subst hr
  conv=>whnf
  (conv=>whnf); refine ⟨[],by kernel_rfl,?_⟩
  conv=>whnf
  (conv=>whnf); refine ⟨inK64 (by omega) (by omega),?_⟩
  conv=>whnf
  (conv=>whnf); refine ifB_dec (fun w1=>?_) (fun w1=>?_)
  ·(exfalso; omega)
  ·conv => whnf
   (conv=>whnf); refine ⟨[(6,13),(10,13)],by kernel_rfl,?_⟩
   conv=>whnf
   (conv=>whnf); refine ⟨⟨(by omega),(by omega)⟩,?_⟩
   conv=>whnf
   (conv=>whnf); refine ⟨inK64 (by omega) (by omega),?_⟩
   conv=>whnf
   (conv=>whnf); refine ⟨⟨(by omega),(by omega)⟩,?_⟩
   conv=>whnf
   (conv=>whnf); refine ⟨[(9,18),(11,18),(14,18)],by kernel_rfl,?_⟩
   conv=>whnf
   (conv=>whnf); refine ⟨by assumption,?_⟩
   conv=>whnf
   (conv=>whnf); refine ⟨by assumption,?_⟩
   conv=>whnf
   (conv=>whnf); refine ⟨by assumption,?_⟩
   conv=>whnf
   (conv=>whnf); refine ⟨by assumption,?_⟩
   conv=>whnf
   (conv=>whnf); refine ⟨[.slot 11 4],[6,7,10,11,66,67,68],fun st mq=>∃ (k : Nat) (R : List Nm) (n : Nat) (F0 : Nat → List AV) (F1 : Nat → List AV),(k ≤ (crvA t f).length) ∧ (R = rawN (crvA t f) (crvB t f) (crvP t f) (crvD t f) k) ∧ (R.length = n) ∧ st = ⟨[(6,.optr 2 0 0 0),(7,.optr 3 0 0 0),(10,.func (.func 168) 0 [.optr 5 0 0 0,.optr 4 0 0 0]),(11,.oslice 6 0 0 n none),(66,ptsA (crvA t f)),(67,i64 (crvA t f).length),(68,i64 k)],⟨[⟨1,1,F0,0,false,true,false⟩,⟨2,1,F1,0,false,true,false⟩,⟨2,1,fun _=>[i64 (t.getD (rwK t f) r0).o,ptsA (crvA t f)],0,false,true,true⟩,⟨2,1,fun _=>[i64 (t.getD (rwK t f + 1) r0).o,ptsA (crvB t f)],0,false,true,true⟩,⟨1,1,fun _=>[i64 (crvP t f)],0,false,true,true⟩,⟨1,1,fun _=>[i64 (crvD t f)],0,false,true,true⟩,⟨4,n,fun i=>nmC (R.getD i n0),0,false,true,false⟩],[],none,0⟩,[]⟩ ∧ mq = (crvA t f).length - k,
    ⟨_,_,⟨0,[],0,_,_,by omega,rfl,rfl,rfl,rfl⟩,⟨⟨.inl rfl,rfl,rfl,rfl⟩,⟨bA,⟨bA,⟨bA,⟨bA,⟨bA,⟨bA,⟨⟨rfl,rfl,rfl,rfl,fun _=>rfl,fun i h=>.inl (absurd h (Nat.not_lt_zero i))⟩,trivial⟩⟩⟩⟩⟩⟩⟩,trivial⟩⟩,?_⟩
   rintro s0 m0 ⟨k,R,n,F0,F1,hk,hR,hn,rfl,hmeas⟩
   have hpt := crv_pts hT hO k
   have hrl := rawN_len (crvA t f) (crvB t f) (crvP t f) (crvD t f) k
   rw [← hR] at hrl
   by_cases hlt2 : k < (crvA t f).length
   ·have c1 := S168 ((crvA t f).getD k p0) ((crvB t f).getD k p0) (crvP t f) (crvD t f) hpt.1 hpt.2 hcp hcd
    by_cases hlt3 : k + 1 < (crvA t f).length
    ·have c2 := S168 ((crvA t f).getD (k + 1) p0) ((crvB t f).getD k p0) (crvP t f) (crvD t f) (crv_pts hT hO (k + 1)).1 hpt.2 hcp hcd
     conv=>whnf
     conv=>whnf
     (conv=>whnf); refine ifB_dec (fun w2=>?_) (fun w2=>?_)
     ·conv=>whnf
      conv=>whnf
      (conv=>whnf); refine ⟨⟨(by omega),(by omega)⟩,?_⟩
      conv=>whnf
      conv=>whnf
      (conv=>whnf); refine ⟨[],by kernel_rfl,?_⟩
      conv=>whnf
      conv=>whnf
      (conv=>whnf); refine ⟨⟨(by omega),(by omega)⟩,?_⟩
      conv=>whnf
      conv=>whnf
      (conv=>whnf); refine .inl ⟨_,_,byX rfl (Sound1.pl (c1) rfl),?_⟩
      conv=>whnf
      conv=>whnf
      (conv=>whnf); refine .inl ?_
      conv=>whnf
      conv=>whnf
      (conv=>whnf); refine ⟨(by show _ * (32 + 1) ≤ _; omega),?_⟩
      conv=>whnf
      conv=>whnf
      (conv=>whnf); refine ⟨inK64 (by omega) (by omega),?_⟩
      conv=>whnf
      conv=>whnf
      (conv=>whnf); refine ifB_dec (fun w3=>?_) (fun w3=>?_)
      ·conv=>whnf
       conv=>whnf
       (conv=>whnf); refine ⟨[],by kernel_rfl,?_⟩
       conv=>whnf
       conv=>whnf
       (conv=>whnf); refine ⟨inK64 (by omega) (by omega),?_⟩
       conv=>whnf
       conv=>whnf
       (conv=>whnf); refine ⟨⟨(by omega),(by omega)⟩,?_⟩
       conv=>whnf
       conv=>whnf
       (conv=>whnf); refine ⟨⟨(by omega),(by omega)⟩,?_⟩
       conv=>whnf
       conv=>whnf
       (conv=>whnf); refine .inl ⟨_,_,byX rfl (Sound1.pl (c2) rfl),?_⟩
       conv=>whnf
       conv=>whnf
       (conv=>whnf); refine .inl ?_
       conv=>whnf
       conv=>whnf
       (conv=>whnf); refine ⟨(by show _ * (32 + 1) ≤ _; omega),?_⟩
       conv=>whnf
       conv=>whnf
       (conv=>whnf); refine ⟨inK64 (by omega) (by omega),?_⟩
       conv=>whnf
       conv=>whnf
       (conv=>whnf); refine ⟨_,_,⟨⟨k + 1,R ++ [btwN ((crvA t f).getD k p0) ((crvB t f).getD k p0) (crvP t f) (crvD t f)] ++ [btwN ((crvA t f).getD (k + 1) p0) ((crvB t f).getD k p0) (crvP t f) (crvD t f)],n + 1 + 1,_,_,by omega,(by rw [rawN_2 hlt3,hR]),(by simp [hn]),rfl,rfl⟩,by omega⟩,⟨⟨.inl rfl,rfl,rfl,rfl⟩,⟨bA,⟨bA,⟨bA,⟨bA,⟨bA,⟨bA,⟨⟨rfl,rfl,rfl,rfl,fun _=>rfl,fun j hj=>.inl (appG2 nmC (fun _=>rfl) n0 R _ _ n j hn hj)⟩,trivial⟩⟩⟩⟩⟩⟩⟩,trivial⟩⟩
      ·(exfalso; omega)
     ·(exfalso; omega)
    ·conv=>whnf
     conv=>whnf
     (conv=>whnf); refine ifB_dec (fun w2=>?_) (fun w2=>?_)
     ·conv=>whnf
      conv=>whnf
      (conv=>whnf); refine ⟨⟨(by omega),(by omega)⟩,?_⟩
      conv=>whnf
      conv=>whnf
      (conv=>whnf); refine ⟨[],by kernel_rfl,?_⟩
      conv=>whnf
      conv=>whnf
      (conv=>whnf); refine ⟨⟨(by omega),(by omega)⟩,?_⟩
      conv=>whnf
      conv=>whnf
      (conv=>whnf); refine .inl ⟨_,_,byX rfl (Sound1.pl (c1) rfl),?_⟩
      conv=>whnf
      conv=>whnf
      (conv=>whnf); refine .inl ?_
      conv=>whnf
      conv=>whnf
      (conv=>whnf); refine ⟨(by show _ * (32 + 1) ≤ _; omega),?_⟩
      conv=>whnf
      conv=>whnf
      (conv=>whnf); refine ⟨inK64 (by omega) (by omega),?_⟩
      conv=>whnf
      conv=>whnf
      (conv=>whnf); refine ifB_dec (fun w3=>?_) (fun w3=>?_)
      ·(exfalso; omega)
      ·conv=>whnf
       conv=>whnf
       (conv=>whnf); refine ⟨inK64 (by omega) (by omega),?_⟩
       conv=>whnf
       conv=>whnf
       (conv=>whnf); refine ⟨_,_,⟨⟨k + 1,R ++ [btwN ((crvA t f).getD k p0) ((crvB t f).getD k p0) (crvP t f) (crvD t f)],n + 1,_,_,by omega,(by rw [rawN_1 hlt3,hR]),(by simp [hn]),rfl,rfl⟩,by omega⟩,⟨⟨.inl rfl,rfl,rfl,rfl⟩,⟨bA,⟨bA,⟨bA,⟨bA,⟨bA,⟨bA,⟨⟨rfl,rfl,rfl,rfl,fun _=>rfl,fun j hj=>.inl (appG nmC (fun _=>rfl) n0 R _ n j hn hj)⟩,trivial⟩⟩⟩⟩⟩⟩⟩,trivial⟩⟩
     ·(exfalso; omega)
   ·obtain rfl : k = (crvA t f).length := by omega
    have hR : R = crvR t f := hR
    have ec : crvN t f = compL R := by rw [hR]; rfl
    rw [ec]
    subst hn
    conv=>whnf
    conv=>whnf
    (conv=>whnf); refine ifB_dec (fun w2=>?_) (fun w2=>?_)
    ·(exfalso; omega)
    ·conv => whnf
     conv=>whnf
     (conv=>whnf); refine .inr (.inl ⟨[],?_⟩)
     conv=>whnf
     conv=>whnf
     (conv=>whnf); refine ifB_dec (fun w3=>?_) (fun w3=>?_)
     ·conv=>whnf
      conv=>whnf
      (conv=>whnf); refine ⟨?_,nofun⟩
      rw [compL_one (by omega)]
      exact ⟨rfl,rfl,fun _ _=>rfl⟩
     ·conv => whnf
      conv=>whnf
      (conv=>whnf); refine ⟨[.forget [107,69,6,7,10,11,66,67,68]],[0,3],fun st mq=>∃ (k : Nat) (F0 : Nat → List AV) (F1 : Nat → List AV) (F2 : Nat → List AV) (F3 : Nat → List AV) (F4 : Nat → List AV) (F5 : Nat → List AV),(1 ≤ k) ∧ (k ≤ R.length) ∧ (compL (R.take k) = R.take k) ∧ st = ⟨[(0,.oslice 6 0 0 R.length none),(3,i64 k)],⟨[⟨1,1,F0,0,false,true,false⟩,⟨2,1,F1,0,false,true,false⟩,⟨2,1,F2,0,false,true,false⟩,⟨2,1,F3,0,false,true,false⟩,⟨1,1,F4,0,false,true,false⟩,⟨1,1,F5,0,false,true,false⟩,⟨4,R.length,fun i=>nmC (R.getD i n0),0,false,true,false⟩],[],none,0⟩,[]⟩ ∧ mq = R.length - k,
       ⟨_,_,⟨1,_,_,_,_,_,_,by omega,by omega,compL_one (by rw [List.length_take]; omega),rfl,rfl⟩,⟨⟨.inl rfl,rfl,rfl,rfl⟩,⟨bA,⟨bA,⟨bA,⟨bA,⟨bA,⟨bA,⟨bA,trivial⟩⟩⟩⟩⟩⟩⟩,trivial⟩⟩,?_⟩
      rintro s0 m0 ⟨k,F0,F1,F2,F3,F4,F5,hk1,hk2,hc,rfl,hmeas⟩
      have ek : ((k : Int) - 1).toNat = k - 1 := by omega
      by_cases hlt : k < R.length
      ·have hv := nm_veq (R.getD (0 + (k : Int).toNat) n0) (R.getD (0 + ((k : Int) - 1).toNat) n0)
       have hz : 0 ≤ (k : Int) ∧ (k : Int) ≤ (R.length : Int) ∧ ((0 : Nat) : Int) + (R.length : Int) ≤ (R.length : Int) := ⟨by omega,by omega,by omega⟩
       by_cases he : R.getD k n0 = R.getD (k - 1) n0
       ·rw [decide_eq_true (by rw [ek, Nat.zero_add, Nat.zero_add]; exact he)] at hv
        conv=>whnf
        conv=>whnf
        conv=>whnf
        (conv=>whnf); refine ifB_dec (fun w4=>?_) (fun w4=>?_)
        ·conv => whnf
         conv=>whnf
         conv=>whnf
         (conv=>whnf); refine ⟨[],by kernel_rfl,?_⟩
         conv=>whnf
         conv=>whnf
         conv=>whnf
         (conv=>whnf); refine ⟨⟨(by omega),(by omega)⟩,?_⟩
         conv=>whnf
         conv=>whnf
         conv=>whnf
         (conv=>whnf); refine ⟨inK64 (by omega) (by omega),?_⟩
         conv=>whnf
         conv=>whnf
         conv=>whnf
         (conv=>whnf); refine ⟨⟨(by omega),(by omega)⟩,?_⟩
         conv=>whnf
         conv=>whnf
         conv=>whnf
         (conv=>whnf); refine ifB_intro (fun w5=>?_) (fun w5=>?_)
         ·conv=>whnf
          conv=>whnf
          conv=>whnf
          (conv=>whnf); refine ⟨by assumption,?_⟩
          conv=>whnf
          conv=>whnf
          conv=>whnf
          (conv=>whnf); refine ⟨[],[0,3,4,5],fun st mq=>∃ (k1 : Nat) (q : Nat) (a : List Nm) (F0 : Nat → List AV) (F1 : Nat → List AV) (F2 : Nat → List AV) (F3 : Nat → List AV) (F4 : Nat → List AV) (F5 : Nat → List AV),(1 ≤ q) ∧ (CmpI n0 R a k1 (k + q)) ∧ st = ⟨[(0,.oslice 6 0 0 R.length none),(3,i64 k1),(4,.oslice 6 0 (0 + (k : Int).toNat) ((R.length : Int) - (k : Int)).toNat none),(5,i64 q)],⟨[⟨1,1,F0,0,false,true,false⟩,⟨2,1,F1,0,false,true,false⟩,⟨2,1,F2,0,false,true,false⟩,⟨2,1,F3,0,false,true,false⟩,⟨1,1,F4,0,false,true,false⟩,⟨1,1,F5,0,false,true,false⟩,⟨4,R.length,fun i=>nmC (a.getD i n0),0,false,true,false⟩],[],none,0⟩,[]⟩ ∧ mq = R.length - k - q,
           ⟨_,_,⟨k,1,R,_,_,_,_,_,_,by omega,cmpI_start hk1 hlt hc he,rfl,rfl⟩,⟨⟨.inl rfl,rfl,rfl,rfl⟩,⟨bA,⟨bA,⟨bA,⟨bA,⟨bA,⟨bA,⟨bA,trivial⟩⟩⟩⟩⟩⟩⟩,trivial⟩⟩,?_⟩
          rintro s0 m0 ⟨k1,q,a,F0,F1,F2,F3,F4,F5,hq,hI,rfl,hmeas⟩
          have hkp := hI.kp
          have hal := hI.len
          by_cases hlt2 : k + q < R.length
          ·have hv2 := nm_veq (a.getD (0 + (k : Int).toNat + (q : Int).toNat) n0) (a.getD (0 + (k : Int).toNat + ((q : Int) - 1).toNat) n0)
           have ep : 0 + (k : Int).toNat + ((q : Int) - 1).toNat = k + q - 1 := by omega
           have eq0 : 0 + (k : Int).toNat + (q : Int).toNat = k + q := by omega
           by_cases he2 : a.getD (k + q) n0 = a.getD (k + q - 1) n0
           ·rw [decide_eq_true (by rw [ep,eq0]; exact he2)] at hv2
            conv=>whnf
            conv=>whnf
            conv=>whnf
            conv=>whnf
            (conv=>whnf); refine ifB_dec (fun w6=>?_) (fun w6=>?_)
            ·conv=>whnf
             conv=>whnf
             conv=>whnf
             conv=>whnf
             (conv=>whnf); refine ⟨[],by kernel_rfl,?_⟩
             conv=>whnf
             conv=>whnf
             conv=>whnf
             conv=>whnf
             (conv=>whnf); refine ⟨⟨(by omega),(by omega)⟩,?_⟩
             conv=>whnf
             conv=>whnf
             conv=>whnf
             conv=>whnf
             (conv=>whnf); refine ⟨inK64 (by omega) (by omega),?_⟩
             conv=>whnf
             conv=>whnf
             conv=>whnf
             conv=>whnf
             (conv=>whnf); refine ⟨⟨(by omega),(by omega)⟩,?_⟩
             conv=>whnf
             conv=>whnf
             conv=>whnf
             conv=>whnf
             (conv=>whnf); refine ifB_not ?_
             conv=>whnf
             conv=>whnf
             conv=>whnf
             conv=>whnf
             (conv=>whnf); refine ifB_intro (fun w7=>?_) (fun w7=>?_)
             ·conv=>whnf
              conv=>whnf
              conv=>whnf
              conv=>whnf
              (conv=>whnf); refine ⟨inK64 (by omega) (by omega),?_⟩
              conv=>whnf
              conv=>whnf
              conv=>whnf
              conv=>whnf
              (conv=>whnf); refine ⟨_,_,⟨⟨k1,q + 1,a,_,_,_,_,_,_,by omega,hI.same hlt2 he2,rfl,rfl⟩,by omega⟩,⟨⟨.inl rfl,rfl,rfl,rfl⟩,⟨bA,⟨bA,⟨bA,⟨bA,⟨bA,⟨bA,⟨bA,trivial⟩⟩⟩⟩⟩⟩⟩,trivial⟩⟩
             ·exact absurd (hv2.symm.trans w7) nofun
            ·(exfalso; omega)
           ·rw [decide_eq_false (by rw [ep,eq0]; exact he2)] at hv2
            have hrow := fun i : Nat=>rowG (n := 4) (fun e=>nmC e) (fun _=>rfl) n0 a (k1 : Int).toNat i (a.getD (0 + (k : Int).toNat + (q : Int).toNat) n0) (by omega)
            conv=>whnf
            conv=>whnf
            conv=>whnf
            conv=>whnf
            (conv=>whnf); refine ifB_dec (fun w6=>?_) (fun w6=>?_)
            ·conv=>whnf
             conv=>whnf
             conv=>whnf
             conv=>whnf
             (conv=>whnf); refine ⟨[],by kernel_rfl,?_⟩
             conv=>whnf
             conv=>whnf
             conv=>whnf
             conv=>whnf
             (conv=>whnf); refine ⟨⟨(by omega),(by omega)⟩,?_⟩
             conv=>whnf
             conv=>whnf
             conv=>whnf
             conv=>whnf
             (conv=>whnf); refine ⟨inK64 (by omega) (by omega),?_⟩
             conv=>whnf
             conv=>whnf
             conv=>whnf
             conv=>whnf
             (conv=>whnf); refine ⟨⟨(by omega),(by omega)⟩,?_⟩
             conv=>whnf
             conv=>whnf
             conv=>whnf
             conv=>whnf
             (conv=>whnf); refine ifB_not ?_
             conv=>whnf
             conv=>whnf
             conv=>whnf
             conv=>whnf
             (conv=>whnf); refine ifB_intro (fun w7=>?_) (fun w7=>?_)
             ·exact absurd (hv2.symm.trans w7) nofun
             ·conv=>whnf
              conv=>whnf
              conv=>whnf
              conv=>whnf
              (conv=>whnf); refine ⟨⟨(by omega),(by omega)⟩,?_⟩
              conv=>whnf
              conv=>whnf
              conv=>whnf
              conv=>whnf
              (conv=>whnf); refine ⟨⟨(by omega),(by omega)⟩,?_⟩
              refine ⟨_,fun i _=>hrow i,?_⟩
              conv=>whnf
              conv=>whnf
              conv=>whnf
              conv=>whnf
              (conv=>whnf); refine ⟨inK64 (by omega) (by omega),?_⟩
              conv=>whnf
              conv=>whnf
              conv=>whnf
              conv=>whnf
              (conv=>whnf); refine ⟨inK64 (by omega) (by omega),?_⟩
              conv=>whnf
              conv=>whnf
              conv=>whnf
              conv=>whnf
              (conv=>whnf); refine ⟨_,_,⟨⟨k1 + 1,q + 1,a.set k1 (a.getD (0 + (k : Int).toNat + (q : Int).toNat) n0),_,_,_,_,_,_,by omega,(by rw [eq0]; exact hI.put hlt2 he2),rfl,rfl⟩,by omega⟩,⟨⟨.inl rfl,rfl,rfl,rfl⟩,⟨bA,⟨bA,⟨bA,⟨bA,⟨bA,⟨bA,⟨bA,trivial⟩⟩⟩⟩⟩⟩⟩,trivial⟩⟩
            ·(exfalso; omega)
          ·have hf := hI.fin hlt2
           have hz2 : 0 ≤ (k1 : Int) ∧ (k1 : Int) ≤ (R.length : Int) ∧ ((0 : Nat) : Int) + (R.length : Int) ≤ (R.length : Int) := ⟨by omega,by omega,by omega⟩
           have hz3 : 0 ≤ (0 : Int) ∧ (0 : Int) ≤ (k1 : Int) ∧ ((0 : Nat) : Int) + (k1 : Int) ≤ (R.length : Int) := ⟨by omega,by omega,by omega⟩
           conv=>whnf
           conv=>whnf
           conv=>whnf
           conv=>whnf
           (conv=>whnf); refine ifB_dec (fun w6=>?_) (fun w6=>?_)
           ·(exfalso; omega)
           ·conv=>whnf
            conv=>whnf
            conv=>whnf
            conv=>whnf
            (conv=>whnf); refine ⟨by assumption,?_⟩
            conv=>whnf
            conv=>whnf
            conv=>whnf
            conv=>whnf
            (conv=>whnf); refine ⟨by assumption,?_⟩
            conv=>whnf
            conv=>whnf
            conv=>whnf
            conv=>whnf
            (conv=>whnf); refine ⟨?_,nofun⟩
            exact ⟨rfl,(by have := hf.1; omega),fun i hi=>(if_neg (by omega)).trans (congrArg (fun e=>nmC e) (hf.2 i (by omega)))⟩
         ·exact absurd (hv.symm.trans w5) nofun
        ·(exfalso; omega)
       ·rw [decide_eq_false (by rw [ek,Nat.zero_add,Nat.zero_add]; exact he)] at hv
        conv=>whnf
        conv=>whnf
        conv=>whnf
        (conv=>whnf); refine ifB_dec (fun w4=>?_) (fun w4=>?_)
        ·conv=>whnf
         conv=>whnf
         conv=>whnf
         (conv=>whnf); refine ⟨[],by kernel_rfl,?_⟩
         conv=>whnf
         conv=>whnf
         conv=>whnf
         (conv=>whnf); refine ⟨⟨(by omega),(by omega)⟩,?_⟩
         conv=>whnf
         conv=>whnf
         conv=>whnf
         (conv=>whnf); refine ⟨inK64 (by omega) (by omega),?_⟩
         conv=>whnf
         conv=>whnf
         conv=>whnf
         (conv=>whnf); refine ⟨⟨(by omega),(by omega)⟩,?_⟩
         conv=>whnf
         conv=>whnf
         conv=>whnf
         (conv=>whnf); refine ifB_intro (fun w5=>?_) (fun w5=>?_)
         ·exact absurd (hv.symm.trans w5) nofun
         ·conv=>whnf
          conv=>whnf
          conv=>whnf
          (conv=>whnf); refine ⟨inK64 (by omega) (by omega),?_⟩
          conv=>whnf
          conv=>whnf
          conv=>whnf
          (conv=>whnf); refine ⟨_,_,⟨⟨k + 1,_,_,_,_,_,_,by omega,by omega,comp_go hk1 hlt hc he,rfl,rfl⟩,by omega⟩,⟨⟨.inl rfl,rfl,rfl,rfl⟩,⟨bA,⟨bA,⟨bA,⟨bA,⟨bA,⟨bA,⟨bA,trivial⟩⟩⟩⟩⟩⟩⟩,trivial⟩⟩
        ·(exfalso; omega)
      ·obtain rfl : k = R.length := by omega
       rw [List.take_length] at hc
       rw [hc]
       conv=>whnf
       conv=>whnf
       conv=>whnf
       (conv=>whnf); refine ifB_dec (fun w4=>?_) (fun w4=>?_)
       ·(exfalso; omega)
       ·conv=>whnf
        conv=>whnf
        conv=>whnf
        (conv=>whnf); refine ⟨?_,nofun⟩
        exact ⟨rfl,rfl,fun _ _=>rfl⟩
end Go.Tr

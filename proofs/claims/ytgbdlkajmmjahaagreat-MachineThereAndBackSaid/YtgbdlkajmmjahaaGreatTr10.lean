/- Contracts of chapter 5: the reference's spots, comparisons, openings. Conditions: none. -/
import Derived.Test.YtgbdlkajmmjahaaGreatTr09
set_option linter.unusedSectionVars false
set_option linter.unnecessarySimpa false
set_option linter.unusedVariables false
set_option linter.unusedSimpArgs false

-- seat YtgbdlkajmmjahaaGreat
namespace Go.Tr
open Go Go.Proofs
set_option maxRecDepth 20000
set_option maxHeartbeats 8000000

def R3k (k : Nat) (q : Q3) : Prop := Rk k q.1 ∧ Rk k q.2.1 ∧ Rk k q.2.2
theorem R3k.mono {k l : Nat} {q : Q3} (h : R3k k q) (hl : k ≤ l) : R3k l q := ⟨h.1.mono hl,h.2.1.mono hl,h.2.2.mono hl⟩
theorem NmB.rk {d : Int} {n : Nm} (h : NmB d n) {k : Nat} (hd : (10000 * d).natAbs < 1000000000 ^ k) : R3k k (nmQ n) := by
 obtain ⟨h0,h1,h2,h3⟩ := h
 have z : ∀ x : Int,x.natAbs ≤ (10000 * d).natAbs → Zk k x := fun x hx=>Zk.small (Nat.lt_of_le_of_lt hx hd)
 exact ⟨Rk.divI (by omega) (z _ (by omega)) (z _ (by omega)),Rk.divI (by omega) (z _ (by omega)) (z _ (by omega)),Rk.divI (by omega) (z _ (by omega)) (z _ (by omega))⟩
theorem floor_eq (n : Int) {d : Int} (hd : 0 < d) : n / d = if n.tmod d < 0 then n.tdiv d - 1 else n.tdiv d := by
 have h1 := Int.tmod_add_mul_tdiv n d
 have h2 := Int.tmod_lt_of_pos n hd
 have h3 := Int.lt_tmod_of_pos n hd
 by_cases h : n.tmod d < 0
 ·rw [if_pos h]
  refine ((Int.ediv_emod_unique hd (q := n.tdiv d - 1) (r := n.tmod d + d)).2 ⟨?_,by omega,by omega⟩).1
  rw [Int.mul_sub,Int.mul_one]
  omega
 ·rw [if_neg h]
  exact ((Int.ediv_emod_unique hd (q := n.tdiv d) (r := n.tmod d)).2 ⟨h1,by omega,h2⟩).1
theorem S131 (n d : Int) (hn : -9223372036854775808 ≤ n ∧ n ≤ 9223372036854775807) (hd : 0 < d ∧ d ≤ 1000000000) : SP 131 [i64 n,i64 d] (i64 (n / d)) false := by
 have h4 : ((n.tdiv d).natAbs) ≤ n.natAbs := Int.natAbs_tdiv_le_natAbs _ _
 have h5 := Int.tmod_add_mul_tdiv n d
 have h6 : n.tmod d < 0 → -9223372036854775807 ≤ n.tdiv d := fun h=>by
  apply Classical.byContradiction
  intro e
  by_cases h1 : d = 1
  ·rw [h1,Int.tmod_one] at h; omega
  ·have e1 : n.tdiv d = -9223372036854775808 := by omega
   rw [e1] at h5
   have := Int.tmod_lt_of_pos n hd.1
   have := Int.lt_tmod_of_pos n hd.1
   omega
 have h7 : n.tdiv d ≤ 9223372036854775807 := by
  apply Classical.byContradiction
  intro e
  have e1 : n.tdiv d = 9223372036854775808 := by omega
  rw [e1] at h5
  have := Int.tmod_lt_of_pos n hd.1
  have := Int.lt_tmod_of_pos n hd.1
  omega
 have h8 : d ≠ 0 ∧ inK .i64 (n.tdiv d) := ⟨by omega,inK_of (by omega)⟩
 rw [floor_eq n hd.1]
 refine sound (d := 2) tok2 mixed2 Tryz.func131 (by kernel_rfl) (by kernel_rfl) ?_
 (conv=>whnf); refine ⟨⟨(by omega),inK64 (by omega) (by omega)⟩,?_⟩
 (conv=>whnf); refine ⟨(by omega),?_⟩
 (conv=>whnf); refine ifB_dec (fun w1=>?_) (fun w1=>?_)
 ·(conv=>whnf); refine ⟨inK64 (by omega) (by omega),?_⟩
  (conv=>whnf); refine ⟨?_,nofun⟩
  exact endi (if_pos w1).symm
 ·(conv=>whnf); refine ⟨?_,nofun⟩
  exact endi (if_neg w1).symm
theorem flo (n : Int) {d : Int} (hd : 0 < d) : n = n / d * d + n % d ∧ 0 ≤ n % d ∧ n % d < d := by
 have h1 := Int.emod_add_mul_ediv n d
 have h2 := Int.emod_nonneg n (show d ≠ 0 by omega)
 have h3 := Int.emod_lt_of_pos n hd
 refine ⟨?_,h2,h3⟩
 rw [Int.mul_comm (n / d) d]; omega
theorem sg_neg {z : Int} (h : z < 0) : sgI z = -1 := by have := sg_cases z; omega
theorem sg_pos {z : Int} (h : 0 < z) : sgI z = 1 := by have := sg_cases z; omega
theorem cmp_floor {n d m k : Int} (hd : 0 < d) (hk : 0 < k) : (n / d < m / k → sgI (n * k - m * d) = -1) ∧ (m / k < n / d → sgI (n * k - m * d) = 1) ∧ (n / d = m / k → n * k - m * d = n % d * k - m % k * d) := by
 obtain ⟨e1,a1,b1⟩ := flo n hd
 obtain ⟨e2,a2,b2⟩ := flo m hk
 generalize n / d = p at *
 generalize m / k = q at *
 generalize n % d = x at *
 generalize m % k = y at *
 have hdk := Int.mul_pos hd hk
 have e : n * k - m * d = (p - q) * (d * k) + (x * k - y * d) := by rw [e1,e2]; grind
 have c1 := Int.mul_nonneg (a := x) (b := k) (by omega) (by omega)
 have c2 := Int.mul_nonneg (a := y) (b := d) (by omega) (by omega)
 have c3 := Int.mul_pos (a := d - x) (b := k) (by omega) hk
 have c4 := Int.mul_pos (a := k - y) (b := d) (by omega) hd
 rw [Int.sub_mul] at c3 c4
 have c5 : k * d = d * k := Int.mul_comm _ _
 refine ⟨fun h=>sg_neg ?_,fun h=>sg_pos ?_,fun h=>?_⟩
 ·have := Int.mul_nonneg (a := q - p - 1) (b := d * k) (by omega) (by omega)
  have e3 : (p - q) * (d * k) = -((q - p - 1) * (d * k)) - d * k := by grind
  omega
 ·have := Int.mul_nonneg (a := p - q - 1) (b := d * k) (by omega) (by omega)
  have e3 : (p - q) * (d * k) = (p - q - 1) * (d * k) + d * k := by grind
  omega
 ·rw [e,h,Int.sub_self,Int.zero_mul]; omega
theorem S63 (n d m k : Int) (hn : -9223372036854775808 ≤ n ∧ n ≤ 9223372036854775807) (hd : 0 < d ∧ d ≤ 1000000000) (hm : -1000000000 ≤ m ∧ m ≤ 1000000000) (hk : 0 < k ∧ k ≤ 1000000000) :
  SP 63 [i64 n,i64 d,i64 m,i64 k] (i64 (sgI (n * k - m * d))) false := by
 refine sound (d := 2) tok2 mixed2 Tryz.func63 (by kernel_rfl) (by kernel_rfl) ?_
 (conv=>whnf); refine ⟨[],[0,1,2,3],fun st mq=>∃ (n1 : Int) (d1 : Int) (m1 : Int) (k1 : Int),(-9223372036854775808 ≤ n1 ∧ n1 ≤ 9223372036854775807) ∧ (0 < d1 ∧ d1 ≤ 1000000000) ∧ (-1000000000 ≤ m1 ∧ m1 ≤ 1000000000) ∧ (0 < k1 ∧ k1 ≤ 1000000000) ∧ (sgI (n1 * k1 - m1 * d1) = sgI (n * k - m * d)) ∧ st = ⟨[(0,i64 n1),(1,i64 d1),(2,i64 m1),(3,i64 k1)],⟨[],[],none,0⟩,[]⟩ ∧ mq = (d1 + k1).toNat,
  ⟨_,_,⟨n,d,m,k,hn,hd,hm,hk,rfl,rfl,rfl⟩,⟨⟨.inl rfl,rfl,rfl,rfl⟩,trivial,trivial⟩⟩,?_⟩
 rintro s0 m0 ⟨n1,d1,m1,k1,hn1,hd1,hm1,hk1,hs,rfl,hmeas⟩
 have h1 := S131 n1 d1 hn1 hd1
 have h2 := S131 m1 k1 (by omega) hk1
 obtain ⟨e1,a1,b1⟩ := flo n1 hd1.1
 obtain ⟨e2,a2,b2⟩ := flo m1 hk1.1
 obtain ⟨c1,c2,c3⟩ := cmp_floor (n := n1) (m := m1) hd1.1 hk1.1
 have hq := Int.natAbs_ediv_le_natAbs m1 k1
 rw [← hs]
 generalize n1 / d1 = p at *
 generalize m1 / k1 = q at *
 generalize n1 % d1 = x at *
 generalize m1 % k1 = y at *
 have f1 : n1 - p * d1 = x := by omega
 have f2 : m1 - q * k1 = y := by omega
 by_cases g1 : p < q
 ·rw [c1 g1]
  conv=>whnf
  (conv=>whnf); refine .inl ⟨_,_,byX rfl (Sound1.pl (h1) rfl),?_⟩
  conv=>whnf
  (conv=>whnf); refine .inl ⟨_,_,byX rfl (Sound1.pl (h2) rfl),?_⟩
  conv=>whnf
  (conv=>whnf); refine ifB_dec (fun w1=>?_) (fun w1=>?_)
  ·conv=>whnf
   (conv=>whnf); refine ⟨?_,nofun⟩
   (first | contradiction | rfl)
  ·(exfalso; omega)
 ·by_cases g2 : q < p
  ·rw [c2 g2]
   conv=>whnf
   (conv=>whnf); refine .inl ⟨_,_,byX rfl (Sound1.pl (h1) rfl),?_⟩
   conv=>whnf
   (conv=>whnf); refine .inl ⟨_,_,byX rfl (Sound1.pl (h2) rfl),?_⟩
   conv=>whnf
   (conv=>whnf); refine ifB_dec (fun w1=>?_) (fun w1=>?_)
   ·(exfalso; omega)
   ·conv=>whnf
    (conv=>whnf); refine ifB_dec (fun w2=>?_) (fun w2=>?_)
    ·conv=>whnf
     (conv=>whnf); refine ⟨?_,nofun⟩
     (first | contradiction | rfl | omega)
    ·(exfalso; omega)
  ·have g3 : p = q := by omega
   subst g3
   have c3 := c3 rfl
   rw [c3] at hs ⊢
   have hb := absM (show p.natAbs ≤ 1000000000 by omega) (show d1.natAbs ≤ 1000000000 by omega)
   have he : k1 * (n1 - p * d1) - d1 * (m1 - p * k1) = x * k1 - y * d1 := by rw [f1,f2,Int.mul_comm k1 x,Int.mul_comm d1 y]
   conv=>whnf
   (conv=>whnf); refine .inl ⟨_,_,byX rfl (Sound1.pl (h1) rfl),?_⟩
   conv=>whnf
   (conv=>whnf); refine .inl ⟨_,_,byX rfl (Sound1.pl (h2) rfl),?_⟩
   conv=>whnf
   (conv=>whnf); refine ifB_dec (fun w1=>?_) (fun w1=>?_)
   ·(exfalso; omega)
   ·conv=>whnf
    (conv=>whnf); refine ifB_dec (fun w2=>?_) (fun w2=>?_)
    ·(exfalso; omega)
    ·conv=>whnf
     (conv=>whnf); refine ⟨inK64 (by omega) (by omega),?_⟩
     conv=>whnf
     (conv=>whnf); refine ⟨inK64 (by omega) (by omega),?_⟩
     conv=>whnf
     (conv=>whnf); refine ⟨inK64 (by omega) (by omega),?_⟩
     conv=>whnf
     (conv=>whnf); refine ⟨inK64 (by omega) (by omega),?_⟩
     conv=>whnf
     (conv=>whnf); refine ifB_beq (fun w3=>?_) (fun w3=>?_)
     ·conv=>whnf
      (conv=>whnf); refine ifB_beq (fun w4=>?_) (fun w4=>?_)
      ·conv=>whnf
       (conv=>whnf); refine ⟨?_,nofun⟩
       have e1 : x = 0 := by omega
       have e2 : y = 0 := by omega
       exact endi (by rw [e1,e2,Int.zero_mul,Int.zero_mul]; rfl)
      ·conv=>whnf
       (conv=>whnf); refine ifB_beq (fun w5=>?_) (fun w5=>?_)
       ·conv=>whnf
        (conv=>whnf); refine ⟨?_,nofun⟩
        have e1 : x = 0 := by omega
        have := Int.mul_pos (a := y) (b := d1) (by omega) hd1.1
        exact endi (sg_neg (by rw [e1,Int.zero_mul]; omega)).symm
       ·(exfalso; omega)
     ·conv=>whnf
      (conv=>whnf); refine ifB_beq (fun w4=>?_) (fun w4=>?_)
      ·(exfalso; omega)
      ·conv=>whnf
       (conv=>whnf); refine ifB_beq (fun w5=>?_) (fun w5=>?_)
       ·conv=>whnf
        (conv=>whnf); refine ⟨?_,nofun⟩
        have e2 : y = 0 := by omega
        have := Int.mul_pos (a := x) (b := k1) (by omega) hk1.1
        exact endi (sg_pos (by rw [e2,Int.zero_mul]; omega)).symm
       ·conv=>whnf
        (conv=>whnf); refine ⟨_,_,⟨⟨k1,m1 - p * k1,d1,n1 - p * d1,by omega,by omega,by omega,by omega,congrArg sgI he,rfl,rfl⟩,by omega⟩,⟨⟨.inl rfl,rfl,rfl,rfl⟩,trivial,trivial⟩⟩
end Go.Tr

/- Contracts of chapter 5: what of a curve lies on a line; numbers as spots. Conditions: none. -/
-- seat YtgbdlkajmmjahaaGreat
namespace Go.Tr
open Go Go.Proofs
set_option maxRecDepth 20000
set_option maxHeartbeats 8000000

abbrev lnC (l : Ln) : List AV := [i64 l.1,i64 l.2.1,i64 l.2.2.1,i64 l.2.2.2]
abbrev lnA (l : Ln) : AV := .agg (lnC l)
theorem S149 (l : Ln) (n : Nm) (hl : LnOk l) (hn : NmB 200 n) : SP 149 [lnA l,.agg (nmC n)] (i64 (sideN l n)) false := by
 have h := side_b hl hn
 unfold sideN at *
 refine sound (d := 2) tok2 mixed2 Tryz.func149 (by kernel_rfl) (by kernel_rfl) ?_
 (conv=>whnf); refine ⟨⟨(by omega),(by omega)⟩,?_⟩
 (conv=>whnf); refine ⟨inK64 (by omega) (by omega),?_⟩
 (conv=>whnf); refine ⟨⟨(by omega),(by omega)⟩,?_⟩
 (conv=>whnf); refine ⟨inK64 (by omega) (by omega),?_⟩
 (conv=>whnf); refine ⟨inK64 (by omega) (by omega),?_⟩
 (conv=>whnf); refine ⟨⟨(by omega),(by omega)⟩,?_⟩
 (conv=>whnf); refine ⟨inK64 (by omega) (by omega),?_⟩
 (conv=>whnf); refine ⟨inK64 (by omega) (by omega),?_⟩
 (conv=>whnf); refine ⟨inK64 (by omega) (by omega),?_⟩
 (conv=>whnf); refine ⟨inK64 (by omega) (by omega),?_⟩
 (conv=>whnf); refine ⟨?_,nofun⟩
 (first | contradiction | rfl)
def crsJ (X : P3) (D : Int) (j : Nat) : List AV := [i64 (if 0 < j then X.1 else 0),i64 (if 1 < j then X.2.1 else 0),i64 (if 2 < j then X.2.2 else 0),i64 D]
def crsM (X : P3) (D : Int) (j : Nat) : List AV := [i64 (if 0 < j then -X.1 else X.1),i64 (if 1 < j then -X.2.1 else X.2.1),i64 (if 2 < j then -X.2.2 else X.2.2),i64 D]
def crsX (p q : Nm) (a b : Int) : P3 := (p.1.1 * (a - b) + (q.1.1 - p.1.1) * a,p.1.2.1 * (a - b) + (q.1.2.1 - p.1.2.1) * a,p.1.2.2 * (a - b) + (q.1.2.2 - p.1.2.2) * a)
theorem crsN_eq (p q : Nm) (a b : Int) : crsN p q a b = if p.2 * (a - b) < 0 then ((-(crsX p q a b).1,-(crsX p q a b).2.1,-(crsX p q a b).2.2),-(p.2 * (a - b))) else (crsX p q a b,p.2 * (a - b)) := rfl
set_option maxHeartbeats 8000000 in
theorem S150 (p q : Nm) (a b : Int) (hp : NmB 200 p) (hq : NmB 200 q) (ha : a.natAbs ≤ 440000000) (hb : b.natAbs ≤ 440000000) :
  SP 150 [.agg (nmC p),.agg (nmC q),i64 a,i64 b] (.agg (nmC (crsN p q a b))) false := by
 have hab : (a - b).natAbs ≤ 880000000 := by omega
 obtain ⟨d1,p1,p2,p3⟩ := hp
 obtain ⟨d2,q1,q2,q3⟩ := hq
 have md := absM (show p.2.natAbs ≤ 200 by omega) hab
 have m1 := absM (show p.1.1.natAbs ≤ 2000000 by omega) hab
 have m2 := absM (show p.1.2.1.natAbs ≤ 2000000 by omega) hab
 have m3 := absM (show p.1.2.2.natAbs ≤ 2000000 by omega) hab
 have k1 := absM (show (q.1.1 - p.1.1).natAbs ≤ 4000000 by omega) ha
 have k2 := absM (show (q.1.2.1 - p.1.2.1).natAbs ≤ 4000000 by omega) ha
 have k3 := absM (show (q.1.2.2 - p.1.2.2).natAbs ≤ 4000000 by omega) ha
 rw [crsN_eq]
 refine sound (d := 2) tok2 mixed2 Tryz.func150 (by kernel_rfl) (by kernel_rfl) ?_
 (conv=>whnf); refine ⟨inK64 (by omega) (by omega),?_⟩
 (conv=>whnf); refine ⟨inK64 (by omega) (by omega),?_⟩
 (conv=>whnf); refine ⟨[],[2,3,5,8,9,22,23],fun st mq=>∃ (j : Nat) (F0 : Nat → List AV),(j ≤ 3) ∧ st = ⟨[(2,i64 a),(3,i64 b),(5,.optr 1 0 0 0),(8,.optr 2 0 0 0),(9,.optr 3 0 0 0),(22,.agg [i64 p.1.1,i64 p.1.2.1,i64 p.1.2.2]),(23,i64 j)],⟨[⟨4,1,F0,0,false,true,false⟩,⟨4,1,fun _=>nmC q,0,false,true,true⟩,⟨4,1,fun _=>[i64 0,i64 0,i64 0,i64 0],0,false,true,true⟩,⟨4,1,fun _=>crsJ (crsX p q a b) (p.2 * (a - b)) j,0,false,true,true⟩],[],none,0⟩,[]⟩ ∧ mq = 3 - j,
  ⟨_,_,⟨0,_,by omega,rfl,rfl⟩,⟨⟨.inl rfl,rfl,rfl,rfl⟩,⟨bA,⟨bA,⟨bA,⟨bA,trivial⟩⟩⟩⟩,trivial⟩⟩,?_⟩
 rintro s0 m0 ⟨j,F0,hj,rfl,hmeas⟩
 have hj4 : j = 0 ∨ j = 1 ∨ j = 2 ∨ j = 3 := by omega
 rcases hj4 with rfl | rfl | rfl | rfl
 ·conv=>whnf
  (conv=>whnf); refine ⟨⟨(by omega),(by omega)⟩,?_⟩
  conv=>whnf
  (conv=>whnf); refine ⟨inK64 (by omega) (by omega),?_⟩
  conv=>whnf
  (conv=>whnf); refine ⟨inK64 (by omega) (by omega),?_⟩
  conv=>whnf
  (conv=>whnf); refine ⟨⟨(by omega),(by omega)⟩,?_⟩
  conv=>whnf
  (conv=>whnf); refine ⟨inK64 (by omega) (by omega),?_⟩
  conv=>whnf
  (conv=>whnf); refine ⟨inK64 (by omega) (by omega),?_⟩
  conv=>whnf
  (conv=>whnf); refine ⟨inK64 (by omega) (by omega),?_⟩
  conv=>whnf
  (conv=>whnf); refine ⟨⟨(by omega),(by omega)⟩,?_⟩
  conv=>whnf
  (conv=>whnf); refine ⟨inK64 (by omega) (by omega),?_⟩
  conv=>whnf
  (conv=>whnf); refine ⟨_,_,⟨⟨1,_,by omega,rfl,rfl⟩,by omega⟩,⟨⟨.inl rfl,rfl,rfl,rfl⟩,⟨bA,⟨bA,⟨bA,⟨bA,trivial⟩⟩⟩⟩,trivial⟩⟩
 ·conv=>whnf
  (conv=>whnf); refine ⟨⟨(by omega),(by omega)⟩,?_⟩
  conv=>whnf
  (conv=>whnf); refine ⟨inK64 (by omega) (by omega),?_⟩
  conv=>whnf
  (conv=>whnf); refine ⟨inK64 (by omega) (by omega),?_⟩
  conv=>whnf
  (conv=>whnf); refine ⟨⟨(by omega),(by omega)⟩,?_⟩
  conv=>whnf
  (conv=>whnf); refine ⟨inK64 (by omega) (by omega),?_⟩
  conv=>whnf
  (conv=>whnf); refine ⟨inK64 (by omega) (by omega),?_⟩
  conv=>whnf
  (conv=>whnf); refine ⟨inK64 (by omega) (by omega),?_⟩
  conv=>whnf
  (conv=>whnf); refine ⟨⟨(by omega),(by omega)⟩,?_⟩
  conv=>whnf
  (conv=>whnf); refine ⟨inK64 (by omega) (by omega),?_⟩
  conv=>whnf
  (conv=>whnf); refine ⟨_,_,⟨⟨2,_,by omega,rfl,rfl⟩,by omega⟩,⟨⟨.inl rfl,rfl,rfl,rfl⟩,⟨bA,⟨bA,⟨bA,⟨bA,trivial⟩⟩⟩⟩,trivial⟩⟩
 ·conv=>whnf
  (conv=>whnf); refine ⟨⟨(by omega),(by omega)⟩,?_⟩
  conv=>whnf
  (conv=>whnf); refine ⟨inK64 (by omega) (by omega),?_⟩
  conv=>whnf
  (conv=>whnf); refine ⟨inK64 (by omega) (by omega),?_⟩
  conv=>whnf
  (conv=>whnf); refine ⟨⟨(by omega),(by omega)⟩,?_⟩
  conv=>whnf
  (conv=>whnf); refine ⟨inK64 (by omega) (by omega),?_⟩
  conv=>whnf
  (conv=>whnf); refine ⟨inK64 (by omega) (by omega),?_⟩
  conv=>whnf
  (conv=>whnf); refine ⟨inK64 (by omega) (by omega),?_⟩
  conv=>whnf
  (conv=>whnf); refine ⟨⟨(by omega),(by omega)⟩,?_⟩
  conv=>whnf
  (conv=>whnf); refine ⟨inK64 (by omega) (by omega),?_⟩
  conv=>whnf
  (conv=>whnf); refine ⟨_,_,⟨⟨3,_,by omega,rfl,rfl⟩,by omega⟩,⟨⟨.inl rfl,rfl,rfl,rfl⟩,⟨bA,⟨bA,⟨bA,⟨bA,trivial⟩⟩⟩⟩,trivial⟩⟩
 ·have x1 : (crsX p q a b).1.natAbs ≤ 4000000000000000 := by unfold crsX; dsimp only; omega
  have x2 : (crsX p q a b).2.1.natAbs ≤ 4000000000000000 := by unfold crsX; dsimp only; omega
  have x3 : (crsX p q a b).2.2.natAbs ≤ 4000000000000000 := by unfold crsX; dsimp only; omega
  generalize crsX p q a b = X at *
  generalize p.2 * (a - b) = D at *
  by_cases hD : D < 0
  ·rw [if_pos hD]
   conv=>whnf
   (conv=>whnf); refine ifB_dec (fun w1=>?_) (fun w1=>?_)
   ·conv=>whnf
    (conv=>whnf); refine ⟨inK64 (by omega) (by omega),?_⟩
    conv=>whnf
    (conv=>whnf); refine ⟨[],[8,9,53,54],fun st mq=>∃ (j : Nat) (F0 : Nat → List AV) (F1 : Nat → List AV),(j ≤ 3) ∧ st = ⟨[(8,.optr 2 0 0 0),(9,.optr 3 0 0 0),(53,.agg [i64 X.1,i64 X.2.1,i64 X.2.2]),(54,i64 j)],⟨[⟨4,1,F0,0,false,true,false⟩,⟨4,1,F1,0,false,true,false⟩,⟨4,1,fun _=>[i64 0,i64 0,i64 0,i64 0],0,false,true,true⟩,⟨4,1,fun _=>crsM X (-D) j,0,false,true,true⟩],[],none,0⟩,[]⟩ ∧ mq = 3 - j,
     ⟨_,_,⟨0,_,_,by omega,rfl,rfl⟩,⟨⟨.inl rfl,rfl,rfl,rfl⟩,⟨bA,⟨bA,⟨bA,⟨bA,trivial⟩⟩⟩⟩,trivial⟩⟩,?_⟩
    rintro s0 m0 ⟨j,F0,F1,hj,rfl,hmeas⟩
    have hj4 : j = 0 ∨ j = 1 ∨ j = 2 ∨ j = 3 := by omega
    rcases hj4 with rfl | rfl | rfl | rfl
    ·conv=>whnf
     conv=>whnf
     (conv=>whnf); refine ⟨⟨(by omega),(by omega)⟩,?_⟩
     conv=>whnf
     conv=>whnf
     (conv=>whnf); refine ⟨inK64 (by omega) (by omega),?_⟩
     conv=>whnf
     conv=>whnf
     (conv=>whnf); refine ⟨⟨(by omega),(by omega)⟩,?_⟩
     conv=>whnf
     conv=>whnf
     (conv=>whnf); refine ⟨inK64 (by omega) (by omega),?_⟩
     conv=>whnf
     conv=>whnf
     (conv=>whnf); refine ⟨_,_,⟨⟨1,_,_,by omega,rfl,rfl⟩,by omega⟩,⟨⟨.inl rfl,rfl,rfl,rfl⟩,⟨bA,⟨bA,⟨bA,⟨bA,trivial⟩⟩⟩⟩,trivial⟩⟩
    ·conv=>whnf
     conv=>whnf
     (conv=>whnf); refine ⟨⟨(by omega),(by omega)⟩,?_⟩
     conv=>whnf
     conv=>whnf
     (conv=>whnf); refine ⟨inK64 (by omega) (by omega),?_⟩
     conv=>whnf
     conv=>whnf
     (conv=>whnf); refine ⟨⟨(by omega),(by omega)⟩,?_⟩
     conv=>whnf
     conv=>whnf
     (conv=>whnf); refine ⟨inK64 (by omega) (by omega),?_⟩
     conv=>whnf
     conv=>whnf
     (conv=>whnf); refine ⟨_,_,⟨⟨2,_,_,by omega,rfl,rfl⟩,by omega⟩,⟨⟨.inl rfl,rfl,rfl,rfl⟩,⟨bA,⟨bA,⟨bA,⟨bA,trivial⟩⟩⟩⟩,trivial⟩⟩
    ·conv=>whnf
     conv=>whnf
     (conv=>whnf); refine ⟨⟨(by omega),(by omega)⟩,?_⟩
     conv=>whnf
     conv=>whnf
     (conv=>whnf); refine ⟨inK64 (by omega) (by omega),?_⟩
     conv=>whnf
     conv=>whnf
     (conv=>whnf); refine ⟨⟨(by omega),(by omega)⟩,?_⟩
     conv=>whnf
     conv=>whnf
     (conv=>whnf); refine ⟨inK64 (by omega) (by omega),?_⟩
     conv=>whnf
     conv=>whnf
     (conv=>whnf); refine ⟨_,_,⟨⟨3,_,_,by omega,rfl,rfl⟩,by omega⟩,⟨⟨.inl rfl,rfl,rfl,rfl⟩,⟨bA,⟨bA,⟨bA,⟨bA,trivial⟩⟩⟩⟩,trivial⟩⟩
    ·conv=>whnf
     conv=>whnf
     (conv=>whnf); refine ⟨?_,nofun⟩
     exact ave_aggR (l := nmC ((-X.1,-X.2.1,-X.2.2),-D)) (by simp [AV.atom])
   ·(exfalso; omega)
  ·rw [if_neg hD]
   conv=>whnf
   (conv=>whnf); refine ifB_dec (fun w1=>?_) (fun w1=>?_)
   ·(exfalso; omega)
   ·conv=>whnf
    (conv=>whnf); refine ⟨?_,nofun⟩
    exact ave_aggR (l := nmC (X,D)) (by simp [AV.atom])
theorem onN_1 {L : List Nm} {l : Ln} {k : Nat} (h : sideN l (L.getD k n0) = 0) : onN L l (k + 1) = onN L l k ++ [L.getD k n0] := by
  rw [onN,if_pos h,if_neg (fun e=>by have := e.2; unfold crossB at this; omega)]; rfl
theorem onN_2 {L : List Nm} {l : Ln} {k : Nat} (h : ¬ sideN l (L.getD k n0) = 0) (h2 : k + 1 < L.length ∧ crossB (sideN l (L.getD k n0)) (sideN l (L.getD (k + 1) n0))) :
    onN L l (k + 1) = onN L l k ++ [crsN (L.getD k n0) (L.getD (k + 1) n0) (sideN l (L.getD k n0)) (sideN l (L.getD (k + 1) n0))] := by
  rw [onN,if_neg h,if_pos h2]; rfl
theorem onN_3 {L : List Nm} {l : Ln} {k : Nat} (h : ¬ sideN l (L.getD k n0) = 0) (h2 : ¬ (k + 1 < L.length ∧ crossB (sideN l (L.getD k n0)) (sideN l (L.getD (k + 1) n0)))) : onN L l (k + 1) = onN L l k := by
  rw [onN,if_neg h,if_neg h2]; simp
set_option maxHeartbeats 8000000 in
theorem S90 (L : List Nm) (l : Ln) (hL : CvOk L) (hl : LnOk l) : SP 90 [nms L, lnA l] (nms (onL L l)) false := by
 have hlen := hL.len
 refine sound (d := 2) tok2 mixed2 Tryz.func90 (by kernel_rfl) (by kernel_rfl) ?_
 (conv=>whnf); refine ⟨[.slot 5 4],[0,3,5,10,11,12],fun st mq=>∃ (k : Nat) (R : List Nm) (n : Nat),(k ≤ L.length) ∧ (R = onN L l k) ∧ (R.length = n) ∧ st = ⟨[(0,nms L),(3,.optr 0 0 0 0),(5,.oslice 1 0 0 n none),(10,nms L),(11,i64 L.length),(12,i64 k)],⟨[⟨4,1,fun _=>lnC l,0,false,true,true⟩,⟨4,n,fun i=>nmC (R.getD i n0),0,false,true,false⟩],[],none,0⟩,[]⟩ ∧ mq = L.length - k,
  ⟨_,_,⟨0,[],0,by omega,rfl,rfl,rfl,rfl⟩,⟨⟨.inl rfl,rfl,rfl,rfl⟩,⟨bA,⟨⟨rfl,rfl,rfl,rfl,fun _=>rfl,fun i h=>.inl (absurd h (Nat.not_lt_zero i))⟩,trivial⟩⟩,trivial⟩⟩,?_⟩
 rintro s0 m0 ⟨k,R,n,hk,hR,hn,rfl,hmeas⟩
 have hrl := onN_len L l k
 rw [← hR] at hrl
 by_cases hlt : k < L.length
 ·have b1 := hL.b _ (getD_memG (d := n0) hlt)
  have s1 := (side_b hl b1).2
  have c1 := S149 l _ hl b1
  by_cases hz : sideN l (L.getD k n0) = 0
  ·have eR := onN_1 hz
   rw [← hR] at eR
   by_cases hlt2 : k + 1 < L.length
   ·have b2 := hL.b _ (getD_memG (d := n0) hlt2)
    have c2 := S149 l _ hl b2
    rw [hz] at c1
    conv=>whnf
    (conv=>whnf); refine ifB_dec (fun w1=>?_) (fun w1=>?_)
    ·conv=>whnf
     (conv=>whnf); refine ⟨⟨(by omega),(by omega)⟩,?_⟩
     conv=>whnf
     (conv=>whnf); refine .inl ⟨_,_,byX rfl (Sound1.pl (c1) rfl),?_⟩
     conv=>whnf
     (conv=>whnf); refine .inl ?_
     conv=>whnf
     (conv=>whnf); refine ⟨(by show _ * (32 + 1) ≤ _; omega),?_⟩
     conv=>whnf
     (conv=>whnf); refine ⟨inK64 (by omega) (by omega),?_⟩
     conv=>whnf
     (conv=>whnf); refine ifB_dec (fun w2=>?_) (fun w2=>?_)
     ·conv=>whnf
      (conv=>whnf); refine ⟨[],by kernel_rfl,?_⟩
      conv=>whnf
      (conv=>whnf); refine ⟨inK64 (by omega) (by omega),?_⟩
      conv=>whnf
      (conv=>whnf); refine ⟨⟨(by omega),(by omega)⟩,?_⟩
      conv=>whnf
      (conv=>whnf); refine .inl ⟨_,_,byX rfl (Sound1.pl (c2) rfl),?_⟩
      conv=>whnf
      (conv=>whnf); refine ⟨inK64 (by omega) (by omega),?_⟩
      conv=>whnf
      (conv=>whnf); refine ⟨_,_,⟨⟨k + 1,R ++ [L.getD k n0],n + 1,by omega,eR.symm,(by simp [hn]),rfl,rfl⟩,by omega⟩,⟨⟨.inl rfl,rfl,rfl,rfl⟩,⟨bA,⟨⟨rfl,rfl,rfl,rfl,fun _=>rfl,fun j hj=>.inl (appG nmC (fun _=>rfl) n0 R _ n j hn hj)⟩,trivial⟩⟩,trivial⟩⟩
     ·(exfalso; omega)
    ·(exfalso; omega)
   ·rw [hz] at c1
    conv=>whnf
    (conv=>whnf); refine ifB_dec (fun w1=>?_) (fun w1=>?_)
    ·conv=>whnf
     (conv=>whnf); refine ⟨⟨(by omega),(by omega)⟩,?_⟩
     conv=>whnf
     (conv=>whnf); refine .inl ⟨_,_,byX rfl (Sound1.pl (c1) rfl),?_⟩
     conv=>whnf
     (conv=>whnf); refine .inl ?_
     conv=>whnf
     (conv=>whnf); refine ⟨(by show _ * (32 + 1) ≤ _; omega),?_⟩
     conv=>whnf
     (conv=>whnf); refine ⟨inK64 (by omega) (by omega),?_⟩
     conv=>whnf
     (conv=>whnf); refine ifB_dec (fun w2=>?_) (fun w2=>?_)
     ·(exfalso; omega)
     ·conv=>whnf
      (conv=>whnf); refine ⟨inK64 (by omega) (by omega),?_⟩
      conv=>whnf
      (conv=>whnf); refine ⟨_,_,⟨⟨k + 1,R ++ [L.getD k n0],n + 1,by omega,eR.symm,(by simp [hn]),rfl,rfl⟩,by omega⟩,⟨⟨.inl rfl,rfl,rfl,rfl⟩,⟨bA,⟨⟨rfl,rfl,rfl,rfl,fun _=>rfl,fun j hj=>.inl (appG nmC (fun _=>rfl) n0 R _ n j hn hj)⟩,trivial⟩⟩,trivial⟩⟩
    ·(exfalso; omega)
  ·by_cases hlt2 : k + 1 < L.length
   ·have b2 := hL.b _ (getD_memG (d := n0) hlt2)
    have s2 := (side_b hl b2).2
    have c2 := S149 l _ hl b2
    have c3 := S150 _ _ (sideN l (L.getD k n0)) (sideN l (L.getD (k + 1) n0)) b1 b2 s1 s2
    by_cases hc : crossB (sideN l (L.getD k n0)) (sideN l (L.getD (k + 1) n0))
    ·have eR := onN_2 hz ⟨hlt2, hc⟩
     rw [← hR] at eR
     unfold crossB at hc
     generalize sideN l (L.getD k n0) = A at *
     generalize sideN l (L.getD (k + 1) n0) = B at *
     rcases hc with hc | hc
     ·conv => whnf
      (conv=>whnf); refine ifB_dec (fun w1=>?_) (fun w1=>?_)
      ·conv=>whnf
       (conv=>whnf); refine ⟨⟨(by omega),(by omega)⟩,?_⟩
       conv=>whnf
       (conv=>whnf); refine .inl ⟨_,_,byX rfl (Sound1.pl (c1) rfl),?_⟩
       conv=>whnf
       (conv=>whnf); refine ifB_beq (fun w2=>?_) (fun w2=>?_)
       ·(exfalso; omega)
       ·conv=>whnf
        (conv=>whnf); refine ⟨inK64 (by omega) (by omega),?_⟩
        conv=>whnf
        (conv=>whnf); refine ifB_dec (fun w3=>?_) (fun w3=>?_)
        ·conv=>whnf
         (conv=>whnf); refine ⟨[],by kernel_rfl,?_⟩
         conv=>whnf
         (conv=>whnf); refine ⟨inK64 (by omega) (by omega),?_⟩
         conv=>whnf
         (conv=>whnf); refine ⟨⟨(by omega),(by omega)⟩,?_⟩
         conv=>whnf
         (conv=>whnf); refine .inl ⟨_,_,byX rfl (Sound1.pl (c2) rfl),?_⟩
         conv=>whnf
         (conv=>whnf); refine ifB_dec (fun w4=>?_) (fun w4=>?_)
         ·conv=>whnf
          (conv=>whnf); refine ifB_dec (fun w5=>?_) (fun w5=>?_)
          ·conv=>whnf
           (conv=>whnf); refine ⟨[],by kernel_rfl,?_⟩
           conv=>whnf
           (conv=>whnf); refine ⟨inK64 (by omega) (by omega),?_⟩
           conv=>whnf
           (conv=>whnf); refine ⟨⟨(by omega),(by omega)⟩,?_⟩
           conv=>whnf
           (conv=>whnf); refine .inl ⟨_,_,byX rfl (Sound1.pl (c3) rfl),?_⟩
           conv=>whnf
           (conv=>whnf); refine .inl ?_
           conv=>whnf
           (conv=>whnf); refine ⟨(by show _ * (32 + 1) ≤ _; omega),?_⟩
           conv=>whnf
           (conv=>whnf); refine ⟨inK64 (by omega) (by omega),?_⟩
           conv=>whnf
           (conv=>whnf); refine ⟨_,_,⟨⟨k + 1,R ++ [crsN (L.getD k n0) (L.getD (k + 1) n0) A B],n + 1,by omega,eR.symm,(by simp [hn]),rfl,rfl⟩,by omega⟩,⟨⟨.inl rfl,rfl,rfl,rfl⟩,⟨bA,⟨⟨rfl,rfl,rfl,rfl,fun _=>rfl,fun j hj=>.inl (appG nmC (fun _=>rfl) n0 R _ n j hn hj)⟩,trivial⟩⟩,trivial⟩⟩
          ·(exfalso; omega)
         ·(exfalso; omega)
        ·(exfalso; omega)
      ·(exfalso; omega)
     ·conv => whnf
      (conv=>whnf); refine ifB_dec (fun w1=>?_) (fun w1=>?_)
      ·conv => whnf
       (conv=>whnf); refine ⟨⟨(by omega),(by omega)⟩,?_⟩
       conv=>whnf
       (conv=>whnf); refine .inl ⟨_,_,byX rfl (Sound1.pl (c1) rfl),?_⟩
       conv=>whnf
       (conv=>whnf); refine ifB_beq (fun w2=>?_) (fun w2=>?_)
       ·(exfalso; omega)
       ·conv=>whnf
        (conv=>whnf); refine ⟨inK64 (by omega) (by omega),?_⟩
        conv=>whnf
        (conv=>whnf); refine ifB_dec (fun w3=>?_) (fun w3=>?_)
        ·conv=>whnf
         (conv=>whnf); refine ⟨[],by kernel_rfl,?_⟩
         conv=>whnf
         (conv=>whnf); refine ⟨inK64 (by omega) (by omega),?_⟩
         conv=>whnf
         (conv=>whnf); refine ⟨⟨(by omega),(by omega)⟩,?_⟩
         conv=>whnf
         (conv=>whnf); refine .inl ⟨_,_,byX rfl (Sound1.pl (c2) rfl),?_⟩
         conv=>whnf
         (conv=>whnf); refine ifB_dec (fun w4=>?_) (fun w4=>?_)
         ·(exfalso; omega)
         ·conv=>whnf
          (conv=>whnf); refine ifB_dec (fun w5=>?_) (fun w5=>?_)
          ·conv=>whnf
           (conv=>whnf); refine ifB_dec (fun w6=>?_) (fun w6=>?_)
           ·conv=>whnf
            (conv=>whnf); refine ⟨[],by kernel_rfl,?_⟩
            conv=>whnf
            (conv=>whnf); refine ⟨inK64 (by omega) (by omega),?_⟩
            conv=>whnf
            (conv=>whnf); refine ⟨⟨(by omega),(by omega)⟩,?_⟩
            conv=>whnf
            (conv=>whnf); refine .inl ⟨_,_,byX rfl (Sound1.pl (c3) rfl),?_⟩
            conv=>whnf
            (conv=>whnf); refine .inl ?_
            conv=>whnf
            (conv=>whnf); refine ⟨(by show _ * (32 + 1) ≤ _; omega),?_⟩
            conv=>whnf
            (conv=>whnf); refine ⟨inK64 (by omega) (by omega),?_⟩
            conv=>whnf
            (conv=>whnf); refine ⟨_,_,⟨⟨k + 1,R ++ [crsN (L.getD k n0) (L.getD (k + 1) n0) A B],n + 1,by omega,eR.symm,(by simp [hn]),rfl,rfl⟩,by omega⟩,⟨⟨.inl rfl,rfl,rfl,rfl⟩,⟨bA,⟨⟨rfl,rfl,rfl,rfl,fun _=>rfl,fun j hj=>.inl (appG nmC (fun _=>rfl) n0 R _ n j hn hj)⟩,trivial⟩⟩,trivial⟩⟩
           ·(exfalso; omega)
          ·(exfalso; omega)
        ·(exfalso; omega)
      ·(exfalso; omega)
    ·have eR := onN_3 hz (fun e => hc e.2)
     rw [← hR] at eR
     unfold crossB at hc
     generalize sideN l (L.getD k n0) = A at *
     generalize sideN l (L.getD (k + 1) n0) = B at *
     conv=>whnf
     (conv=>whnf); refine ifB_dec (fun w1=>?_) (fun w1=>?_)
     ·conv => whnf
      (conv=>whnf); refine ⟨⟨(by omega),(by omega)⟩,?_⟩
      conv=>whnf
      (conv=>whnf); refine .inl ⟨_,_,byX rfl (Sound1.pl (c1) rfl),?_⟩
      conv=>whnf
      (conv=>whnf); refine ifB_beq (fun w2=>?_) (fun w2=>?_)
      ·(exfalso; omega)
      ·conv=>whnf
       (conv=>whnf); refine ⟨inK64 (by omega) (by omega),?_⟩
       conv=>whnf
       (conv=>whnf); refine ifB_dec (fun w3=>?_) (fun w3=>?_)
       ·conv=>whnf
        (conv=>whnf); refine ⟨[],by kernel_rfl,?_⟩
        conv=>whnf
        (conv=>whnf); refine ⟨inK64 (by omega) (by omega),?_⟩
        conv=>whnf
        (conv=>whnf); refine ⟨⟨(by omega),(by omega)⟩,?_⟩
        conv=>whnf
        (conv=>whnf); refine .inl ⟨_,_,byX rfl (Sound1.pl (c2) rfl),?_⟩
        conv=>whnf
        (conv=>whnf); refine ifB_dec (fun w4=>?_) (fun w4=>?_)
        ·conv=>whnf
         (conv=>whnf); refine ifB_dec (fun w5=>?_) (fun w5=>?_)
         ·(exfalso; omega)
         ·conv=>whnf
          (conv=>whnf); refine ifB_dec (fun w6=>?_) (fun w6=>?_)
          ·(exfalso; omega)
          ·conv=>whnf
           (conv=>whnf); refine ⟨inK64 (by omega) (by omega),?_⟩
           conv=>whnf
           (conv=>whnf); refine ⟨_,_,⟨⟨k + 1,R,n,by omega,eR.symm,hn,rfl,rfl⟩,by omega⟩,⟨⟨.inl rfl,rfl,rfl,rfl⟩,⟨bA,⟨bA,trivial⟩⟩,trivial⟩⟩
        ·conv=>whnf
         (conv=>whnf); refine ifB_dec (fun w5=>?_) (fun w5=>?_)
         ·conv=>whnf
          (conv=>whnf); refine ifB_dec (fun w6=>?_) (fun w6=>?_)
          ·(exfalso; omega)
          ·conv=>whnf
           (conv=>whnf); refine ⟨inK64 (by omega) (by omega),?_⟩
           conv=>whnf
           (conv=>whnf); refine ⟨_,_,⟨⟨k + 1,R,n,by omega,eR.symm,hn,rfl,rfl⟩,by omega⟩,⟨⟨.inl rfl,rfl,rfl,rfl⟩,⟨bA,⟨bA,trivial⟩⟩,trivial⟩⟩
         ·(exfalso; omega)
       ·(exfalso; omega)
     ·(exfalso; omega)
   ·have eR := onN_3 hz (fun e=>hlt2 e.1)
    rw [← hR] at eR
    conv=>whnf
    (conv=>whnf); refine ifB_dec (fun w1=>?_) (fun w1=>?_)
    ·conv=>whnf
     (conv=>whnf); refine ⟨⟨(by omega),(by omega)⟩,?_⟩
     conv=>whnf
     (conv=>whnf); refine .inl ⟨_,_,byX rfl (Sound1.pl (c1) rfl),?_⟩
     conv=>whnf
     (conv=>whnf); refine ifB_beq (fun w2=>?_) (fun w2=>?_)
     ·(exfalso; omega)
     ·conv=>whnf
      (conv=>whnf); refine ⟨inK64 (by omega) (by omega),?_⟩
      conv=>whnf
      (conv=>whnf); refine ifB_dec (fun w3=>?_) (fun w3=>?_)
      ·(exfalso; omega)
      ·conv=>whnf
       (conv=>whnf); refine ⟨inK64 (by omega) (by omega),?_⟩
       conv=>whnf
       (conv=>whnf); refine ⟨_,_,⟨⟨k + 1,R,n,by omega,eR.symm,hn,rfl,rfl⟩,by omega⟩,⟨⟨.inl rfl,rfl,rfl,rfl⟩,⟨bA,⟨bA,trivial⟩⟩,trivial⟩⟩
    ·(exfalso; omega)
 ·obtain rfl : k = L.length := by omega
  have hR : R = onL L l := hR
  rw [← hR]
  conv=>whnf
  (conv=>whnf); refine ifB_dec (fun w1=>?_) (fun w1=>?_)
  ·(exfalso; omega)
  ·conv=>whnf
   (conv=>whnf); refine ⟨?_,nofun⟩
   exact ⟨rfl,hn.symm,fun _ _=>rfl⟩
def f30 : F3 := ((0,0),(0,0),(0,0))
def spJ (q : Q3) (j : Nat) : F3 := (if 0 < j then frI q.1 else (0,0),if 1 < j then frI q.2.1 else (0,0),if 2 < j then frI q.2.2 else (0,0))
theorem ave_spE {k : Nat} {s : F3} {e : Int} : AVE (k + 3) (.tuple [spA s,i64 e]) (.tuple [spA s,i64 e]) := ave_ok2 (by simp [AV.atom]) trivial
theorem S106 (n : Nm) (h : NmB 176000000000 n) : SP 106 [.agg (nmC n)] (.tuple [spA (if sm3 (nmQ n) then fr3 (nmQ n) else f30),i64 (if sm3 (nmQ n) then 0 else 8)]) false := by
 obtain ⟨d1,p1,p2,p3⟩ := h
 have c1 := S92p n.1.1 n.2 (by omega) (by omega)
 have c2 := S92p n.1.2.1 n.2 (by omega) (by omega)
 have c3 := S92p n.1.2.2 n.2 (by omega) (by omega)
 change SP 92 _ (.tuple [gaF (okR (nmQ n).1),i64 (if smR (nmQ n).1 then 0 else 8)]) false at c1
 change SP 92 _ (.tuple [gaF (okR (nmQ n).2.1),i64 (if smR (nmQ n).2.1 then 0 else 8)]) false at c2
 change SP 92 _ (.tuple [gaF (okR (nmQ n).2.2),i64 (if smR (nmQ n).2.2 then 0 else 8)]) false at c3
 generalize nmQ n = q at *
 unfold okR at c1 c2 c3
 refine sound (d := 2) tok2 mixed2 Tryz.func106 (by kernel_rfl) (by kernel_rfl) ?_
 (conv=>whnf); refine ⟨[],[1,2,4,10,11],fun st mq=>∃ (j : Nat),(j ≤ 3) ∧ (0 < j → smR q.1) ∧ (1 < j → smR q.2.1) ∧ (2 < j → smR q.2.2) ∧ st = ⟨[(1,.optr 0 0 0 0),(2,.optr 1 0 0 0),(4,.optr 2 0 0 0),(10,.agg [i64 n.1.1,i64 n.1.2.1,i64 n.1.2.2]),(11,i64 j)],⟨[⟨4,1,fun _=>nmC n,0,false,true,true⟩,⟨6,1,fun _=>spC f30,0,false,true,true⟩,⟨6,1,fun _=>spC (spJ q j),0,false,true,true⟩],[],none,0⟩,[]⟩ ∧ mq = 3 - j,
  ⟨_,_,⟨0,by omega,nofun,nofun,nofun,rfl,rfl⟩,⟨⟨.inl rfl,rfl,rfl,rfl⟩,⟨bA,⟨bA,⟨bA,trivial⟩⟩⟩,trivial⟩⟩,?_⟩
 rintro s0 m0 ⟨j,hj,h0,h1,h2,rfl,hmeas⟩
 have hj4 : j = 0 ∨ j = 1 ∨ j = 2 ∨ j = 3 := by omega
 rcases hj4 with rfl | rfl | rfl | rfl
 ·by_cases g : smR q.1
  ·rw [if_pos g,if_pos g] at c1
   conv=>whnf
   (conv=>whnf); refine ⟨⟨(by omega),(by omega)⟩,?_⟩
   conv=>whnf
   (conv=>whnf); refine .inl ⟨_,_,byX rfl (Sound1.pl (c1) rfl),?_⟩
   conv=>whnf
   (conv=>whnf); refine ⟨⟨(by omega),(by omega)⟩,?_⟩
   conv=>whnf
   (conv=>whnf); refine ⟨inK64 (by omega) (by omega),?_⟩
   conv=>whnf
   (conv=>whnf); refine ⟨_,_,⟨⟨1,by omega,(fun _=>g),(fun h=>absurd h (by decide)),(fun h=>absurd h (by decide)),rfl,rfl⟩,by omega⟩,⟨⟨.inl rfl,rfl,rfl,rfl⟩,⟨bA,⟨bA,⟨bA,trivial⟩⟩⟩,trivial⟩⟩
  ·rw [if_neg g,if_neg g] at c1
   have hn : ¬ sm3 q := fun e=>g e.1
   rw [if_neg hn,if_neg hn]
   conv=>whnf
   (conv=>whnf); refine ⟨⟨(by omega),(by omega)⟩,?_⟩
   conv=>whnf
   (conv=>whnf); refine .inl ⟨_,_,byX rfl (Sound1.pl (c1) rfl),?_⟩
   conv=>whnf
   (conv=>whnf); refine ⟨?_,nofun⟩
   (first | contradiction | omega | exact ave_spE (s := f30))
 ·by_cases g : smR q.2.1
  ·rw [if_pos g,if_pos g] at c2
   conv=>whnf
   (conv=>whnf); refine ⟨⟨(by omega),(by omega)⟩,?_⟩
   conv=>whnf
   (conv=>whnf); refine .inl ⟨_,_,byX rfl (Sound1.pl (c2) rfl),?_⟩
   conv=>whnf
   (conv=>whnf); refine ⟨⟨(by omega),(by omega)⟩,?_⟩
   conv=>whnf
   (conv=>whnf); refine ⟨inK64 (by omega) (by omega),?_⟩
   conv=>whnf
   (conv=>whnf); refine ⟨_,_,⟨⟨2,by omega,(fun _=>h0 (by decide)),(fun _=>g),(fun h=>absurd h (by decide)),rfl,rfl⟩,by omega⟩,⟨⟨.inl rfl,rfl,rfl,rfl⟩,⟨bA,⟨bA,⟨bA,trivial⟩⟩⟩,trivial⟩⟩
  ·rw [if_neg g,if_neg g] at c2
   have hn : ¬ sm3 q := fun e=>g e.2.1
   rw [if_neg hn,if_neg hn]
   conv=>whnf
   (conv=>whnf); refine ⟨⟨(by omega),(by omega)⟩,?_⟩
   conv=>whnf
   (conv=>whnf); refine .inl ⟨_,_,byX rfl (Sound1.pl (c2) rfl),?_⟩
   conv=>whnf
   (conv=>whnf); refine ⟨?_,nofun⟩
   (first | contradiction | omega | exact ave_spE (s := f30))
 ·by_cases g : smR q.2.2
  ·rw [if_pos g,if_pos g] at c3
   conv=>whnf
   (conv=>whnf); refine ⟨⟨(by omega),(by omega)⟩,?_⟩
   conv=>whnf
   (conv=>whnf); refine .inl ⟨_,_,byX rfl (Sound1.pl (c3) rfl),?_⟩
   conv=>whnf
   (conv=>whnf); refine ⟨⟨(by omega),(by omega)⟩,?_⟩
   conv=>whnf
   (conv=>whnf); refine ⟨inK64 (by omega) (by omega),?_⟩
   conv=>whnf
   (conv=>whnf); refine ⟨_,_,⟨⟨3,by omega,(fun _=>h0 (by decide)),(fun _=>h1 (by decide)),(fun _=>g),rfl,rfl⟩,by omega⟩,⟨⟨.inl rfl,rfl,rfl,rfl⟩,⟨bA,⟨bA,⟨bA,trivial⟩⟩⟩,trivial⟩⟩
  ·rw [if_neg g,if_neg g] at c3
   have hn : ¬ sm3 q := fun e=>g e.2.2
   rw [if_neg hn,if_neg hn]
   conv=>whnf
   (conv=>whnf); refine ⟨⟨(by omega),(by omega)⟩,?_⟩
   conv=>whnf
   (conv=>whnf); refine .inl ⟨_,_,byX rfl (Sound1.pl (c3) rfl),?_⟩
   conv=>whnf
   (conv=>whnf); refine ⟨?_,nofun⟩
   (first | contradiction | omega | exact ave_spE (s := f30))
 ·have hs : sm3 q := ⟨h0 (by decide),h1 (by decide),h2 (by decide)⟩
  rw [if_pos hs,if_pos hs]
  conv=>whnf
  (conv=>whnf); refine ⟨⟨(by omega),(by omega)⟩,?_⟩
  conv=>whnf
  (conv=>whnf); refine ⟨⟨(by omega),(by omega)⟩,?_⟩
  conv=>whnf
  (conv=>whnf); refine ⟨⟨(by omega),(by omega)⟩,?_⟩
  conv=>whnf
  (conv=>whnf); refine ⟨?_,nofun⟩
  (first | contradiction | omega | exact ave_spE (s := fr3 q))
theorem extG {α : Type} (g : α → List AV) {m : Nat} (hg : ∀ a,(g a).length = m) (f : Nat → α) (k i : Nat) (hi : i < k + 1) : g (f i) = if i < k then g (f (0 + i)) else List.take m (List.drop ((i - k) * m) (g (f k))) := by
 by_cases h : i < k
 ·rw [if_pos h,Nat.zero_add]
 ·obtain rfl : i = k := by omega
  rw [if_neg h,Nat.sub_self,Nat.zero_mul,List.drop_zero,List.take_of_length_le (by rw [hg]; exact Nat.le_refl _)]
theorem sp_val {s : F3} {x : AV} (hx : x ∈ spC s) : ∃ v,x = .val v := by
  simp only [List.mem_cons,List.not_mem_nil,or_false] at hx
  rcases hx with h | h | h | h | h | h <;> exact ⟨_,h⟩
def sps (L : List Q3) : AV := .rslice 6 L.length fun i=>spC (fr3 (L.getD i q0))
theorem S89 (L : List Nm) (hn : L.length ≤ 1000) (hL : ∀ n ∈ L,NmB 176000000000 n) : SP 89 [nms L] (.tuple [sps (smL (L.map nmQ)),i64 (smE (L.map nmQ))]) true := by
 refine sound (d := 2) tok2 mixed2 Tryz.func89 (by kernel_rfl) (by kernel_rfl) ?_
 (conv=>whnf); refine ⟨[.slot 4 6],[4,9,10,11],fun st mq=>∃ (k : Nat),(k ≤ L.length) ∧ (∀ j,j < k → sm3 ((L.map nmQ).getD j q0)) ∧ st = ⟨[(4,.oslice 0 0 0 k none),(9,nms L),(10,i64 L.length),(11,i64 k)],⟨[⟨6,k,fun i=>spC (fr3 ((L.map nmQ).getD i q0)),0,false,true,false⟩],[],none,0⟩,[]⟩ ∧ mq = L.length - k,
  ⟨_,_,⟨0,by omega,fun j h=>absurd h (Nat.not_lt_zero j),rfl,rfl⟩,⟨⟨.inl rfl,rfl,rfl,rfl⟩,⟨⟨rfl,rfl,rfl,rfl,fun _=>rfl,fun i h=>.inl (absurd h (Nat.not_lt_zero i))⟩,trivial⟩,trivial⟩⟩,?_⟩
 rintro s0 m0 ⟨k,hk,hs,rfl,hmeas⟩
 by_cases hlt : k < L.length
 ·have c1 := S106 _ (hL _ (getD_memG (d := n0) hlt))
  rw [← getD_mapG nmQ L k n0 q0 hlt] at c1
  by_cases g : sm3 ((L.map nmQ).getD k q0)
  ·rw [if_pos g,if_pos g] at c1
   conv=>whnf
   (conv=>whnf); refine ifB_dec (fun w1=>?_) (fun w1=>?_)
   ·conv=>whnf
    (conv=>whnf); refine ⟨⟨(by omega),(by omega)⟩,?_⟩
    conv=>whnf
    (conv=>whnf); refine .inl ⟨_,_,byX rfl (Sound1.pl (c1) rfl),?_⟩
    conv=>whnf
    (conv=>whnf); refine .inl ?_
    conv=>whnf
    (conv=>whnf); refine ⟨(by show _ * (48 + 1) ≤ _; omega),?_⟩
    conv=>whnf
    (conv=>whnf); refine ⟨inK64 (by omega) (by omega),?_⟩
    conv=>whnf
    (conv=>whnf); refine ⟨_,_,⟨⟨k + 1,by omega,(fun j hj=>by by_cases e : j = k; (rw [e]; exact g); exact hs j (by omega)),rfl,rfl⟩,by omega⟩,⟨⟨.inl rfl,rfl,rfl,rfl⟩,⟨⟨rfl,rfl,rfl,rfl,fun _=>rfl,fun i hi=>.inl (extG (fun q=>spC (fr3 q)) (m := 6) (fun _=>rfl) (fun i=>(L.map nmQ).getD i q0) k i hi)⟩,trivial⟩,trivial⟩⟩
   ·(exfalso; omega)
  ·rw [if_neg g,if_neg g] at c1
   have ha := allS_no (L := L.map nmQ) (by rw [List.length_map]; exact hlt) g
   unfold smL smE
   rw [ha]
   conv=>whnf
   (conv=>whnf); refine ifB_dec (fun w1=>?_) (fun w1=>?_)
   ·conv=>whnf
    (conv=>whnf); refine ⟨⟨(by omega),(by omega)⟩,?_⟩
    conv=>whnf
    (conv=>whnf); refine .inl ⟨_,_,byX rfl (Sound1.pl (c1) rfl),?_⟩
    conv=>whnf
    (conv=>whnf); refine ⟨?_,fun _=>⟨rfl,?_⟩⟩
    ·exact ave_tup2 rfl rfl
    ·exact ⟨fun i _ x hx=>sp_val hx,trivial⟩
   ·(exfalso; omega)
 ·obtain rfl : k = L.length := by omega
  have ha := allS_yes (L := L.map nmQ) (by rw [List.length_map]; exact hs)
  unfold smL smE
  rw [ha]
  conv=>whnf
  (conv=>whnf); refine ifB_dec (fun w1=>?_) (fun w1=>?_)
  ·(exfalso; omega)
  ·conv=>whnf
   (conv=>whnf); refine ⟨?_,fun _=>⟨rfl,?_⟩⟩
   ·exact ave_tup2 ⟨rfl,(List.length_map ..).symm,fun _ _=>rfl⟩ rfl
   ·exact ⟨fun i _ x hx=>sp_val hx,trivial⟩
end Go.Tr

/- Contracts of chapter 5: errors of openings; the curve as spots. Conditions: none. -/
-- seat YtgbdlkajmmjahaaGreat
namespace Go.Tr
open Go Go.Proofs
set_option maxRecDepth 20000
set_option maxHeartbeats 8000000

def opE (t : List MRow) (f : Int × Int) : Int :=
  if lowF f then (if f.2 ≤ 10 then (if (t.getD 0 r0).o * f.2 ≤ f.1 ∧ f.1 ≤ (t.getD (t.length - 1) r0).o * f.2 then 0 else 2) else 2) else 3
theorem opE_ok {t : List MRow} {f : Int × Int} (h : opE t f = 0) : lowF f ∧ OpOk t f := by
 unfold opE at h
 by_cases h1 : lowF f
 ·rw [if_pos h1] at h
  by_cases h2 : f.2 ≤ 10
  ·rw [if_pos h2] at h
   by_cases h3 : (t.getD 0 r0).o * f.2 ≤ f.1 ∧ f.1 ≤ (t.getD (t.length - 1) r0).o * f.2
   ·exact ⟨h1,⟨h1.1,h2⟩,h3.1,h3.2⟩
   ·rw [if_neg h3] at h; exact absurd h (by decide)
  ·rw [if_neg h2] at h; exact absurd h (by decide)
 ·rw [if_neg h1] at h; exact absurd h (by decide)
theorem op_mul {t : List MRow} (hT : TblOk t) {f : Int × Int} (h1 : 0 < f.2) (h2 : f.2 ≤ 10) (j : Nat) (hj : j < t.length) : ((t.getD j r0).o * f.2).natAbs ≤ 100 * 10 :=
  absM (by have := hT.op j hj; omega) (by omega)
theorem S136 (t : List MRow) (hT : TblOk t) (f : Int × Int) (hf : FrI f) : SP 136 [tblA t,gaF f] (i64 (opE t f)) false := by
 have h165 := S165 f hf
 have hn := hT.n
 unfold opE
 by_cases h1 : lowF f
 ·rw [decide_eq_true h1] at h165
  rw [if_pos h1]
  by_cases h2 : f.2 ≤ 10
  ·rw [if_pos h2]
   have m0 := op_mul hT h1.1 h2 0 (by omega)
   have m1 := op_mul hT h1.1 h2 (t.length - 1) (by omega)
   have e1 : ((t.length : Int) - 1).toNat = t.length - 1 := by omega
   have r0' : inK .i64 ((t.getD 0 r0).o * f.2) := inK_of (by omega)
   have r1' : inK .i64 ((t.getD ((t.length : Int) - 1).toNat r0).o * f.2) := inK_of (by rw [e1]; omega)
   have h75 := S75 f.1 ((t.getD 0 r0).o * f.2) ((t.getD ((t.length : Int) - 1).toNat r0).o * f.2)
   have h78 := S78 (win f.1 ((t.getD 0 r0).o * f.2) ((t.getD ((t.length : Int) - 1).toNat r0).o * f.2)) 2
   refine sound (d := 2) tok2 mixed2 Tryz.func136 (by kernel_rfl) (by kernel_rfl) ?_
   (conv=>whnf); refine .inl ⟨_,_,byX rfl (Sound1.pl (h165) rfl),?_⟩
   (conv=>whnf); refine ifB_dec (fun w1=>?_) (fun w1=>?_)
   ·(exfalso; omega)
   ·(conv=>whnf); refine ⟨[],by kernel_rfl,?_⟩
    (conv=>whnf); refine ⟨⟨(by omega),(by omega)⟩,?_⟩
    (conv=>whnf); refine ⟨by assumption,?_⟩
    (conv=>whnf); refine ⟨inK64 (by omega) (by omega),?_⟩
    (conv=>whnf); refine ⟨⟨(by omega),(by omega)⟩,?_⟩
    (conv=>whnf); refine ⟨by assumption,?_⟩
    (conv=>whnf); refine .inl ⟨_,_,byX rfl (Sound1.pl (h75) rfl),?_⟩
    (conv=>whnf); refine .inl ⟨_,_,byX rfl (Sound1.pl (h78) rfl),?_⟩
    (conv=>whnf); refine ⟨?_,nofun⟩
    exact endi (by rw [ifw,e1])
  ·rw [if_neg h2]
   refine sound (d := 2) tok2 mixed2 Tryz.func136 (by kernel_rfl) (by kernel_rfl) ?_
   (conv=>whnf); refine .inl ⟨_,_,byX rfl (Sound1.pl (h165) rfl),?_⟩
   (conv=>whnf); refine ifB_dec (fun w1=>?_) (fun w1=>?_)
   ·(conv=>whnf); refine ⟨?_,nofun⟩
    (first | contradiction | omega | rfl)
   ·(exfalso; omega)
 ·rw [decide_eq_false h1] at h165
  rw [if_neg h1]
  refine sound (d := 2) tok2 mixed2 Tryz.func136 (by kernel_rfl) (by kernel_rfl) ?_
  (conv=>whnf); refine .inl ⟨_,_,byX rfl (Sound1.pl (h165) rfl),?_⟩
  (conv=>whnf); refine ⟨?_,nofun⟩
  (first | contradiction | omega | rfl)
theorem sg_lt (z : Int) : sgI z < 0 ↔ z < 0 := by have := sg_cases z; omega
theorem sg_gt (z : Int) : sgI z > 0 ↔ z > 0 := by have := sg_cases z; omega
theorem S80 (t : List MRow) (hT : TblOk t) (f : Int × Int) (hf : FrI f) : SP 80 [tblA t,gaF f] (i64 (opE t f)) false := by
 have h130 := S130g f hf
 have hn := hT.n
 unfold opE
 by_cases h1 : lowF f
 ·rw [decide_eq_true h1] at h130
  rw [if_pos h1]
  by_cases h2 : f.2 ≤ 10
  ·rw [if_pos h2]
   have e1 : ((t.length : Int) - 1).toNat = t.length - 1 := by omega
   have o0 := hT.op 0 (by omega)
   have o1 := hT.op (t.length - 1) (by omega)
   have c0 := S63 f.1 f.2 (t.getD 0 r0).o 1 hf.1 ⟨h1.1,by omega⟩ (by omega) (by decide)
   have c1 := S63 f.1 f.2 (t.getD ((t.length : Int) - 1).toNat r0).o 1 hf.1 ⟨h1.1,by omega⟩ (by rw [e1]; omega) (by decide)
   have g0 := sg_lt (f.1 * 1 - (t.getD 0 r0).o * f.2)
   have g1 := sg_gt (f.1 * 1 - (t.getD ((t.length : Int) - 1).toNat r0).o * f.2)
   rw [Int.mul_one] at g0 g1 c0 c1
   rw [← e1]
   refine sound (d := 2) tok2 mixed2 Tryz.func80 (by kernel_rfl) (by kernel_rfl) ?_
   (conv=>whnf); refine .inl ⟨_,_,byX rfl (Sound1.pl (h130) rfl),?_⟩
   (conv=>whnf); refine ⟨inK64 (by omega) (by omega),?_⟩
   (conv=>whnf); refine ⟨⟨(by omega),(by omega)⟩,?_⟩
   (conv=>whnf); refine ⟨[],by kernel_rfl,?_⟩
   (conv=>whnf); refine ifB_dec (fun w1=>?_) (fun w1=>?_)
   ·(exfalso; omega)
   ·(conv=>whnf); refine ⟨⟨(by omega),(by omega)⟩,?_⟩
    (conv=>whnf); refine .inl ⟨_,_,byX rfl (Sound1.pl (c0) rfl),?_⟩
    (conv=>whnf); refine ifB_dec (fun w2=>?_) (fun w2=>?_)
    ·(conv=>whnf); refine ⟨?_,nofun⟩
     exact endi (if_neg (by omega)).symm
    ·(conv=>whnf); refine .inl ⟨_,_,byX rfl (Sound1.pl (c1) rfl),?_⟩
     (conv=>whnf); refine ifB_dec (fun w3=>?_) (fun w3=>?_)
     ·(conv=>whnf); refine ⟨?_,nofun⟩
      exact endi (if_neg (by omega)).symm
     ·(conv=>whnf); refine ⟨?_,nofun⟩
      exact endi (if_pos (by omega)).symm
  ·rw [if_neg h2]
   refine sound (d := 2) tok2 mixed2 Tryz.func80 (by kernel_rfl) (by kernel_rfl) ?_
   (conv=>whnf); refine .inl ⟨_,_,byX rfl (Sound1.pl (h130) rfl),?_⟩
   (conv=>whnf); refine ⟨inK64 (by omega) (by omega),?_⟩
   (conv=>whnf); refine ⟨⟨(by omega),(by omega)⟩,?_⟩
   (conv=>whnf); refine ⟨[],by kernel_rfl,?_⟩
   (conv=>whnf); refine ifB_dec (fun w1=>?_) (fun w1=>?_)
   ·(conv=>whnf); refine ⟨?_,nofun⟩
    (first | contradiction | omega | rfl)
   ·(exfalso; omega)
 ·rw [decide_eq_false h1] at h130
  rw [if_neg h1]
  refine sound (d := 2) tok2 mixed2 Tryz.func80 (by kernel_rfl) (by kernel_rfl) ?_
  (conv=>whnf); refine .inl ⟨_,_,byX rfl (Sound1.pl (h130) rfl),?_⟩
  (conv=>whnf); refine ⟨?_,nofun⟩
  (first | contradiction | omega | rfl)
def ocE (t : List MRow) (f : Int × Int) : Int := if (chkM t).2 ≠ 0 then (chkM t).2 else opE t f
theorem ocE_ok {t : List MRow} {f : Int × Int} (h : ocE t f = 0) : TblOk t ∧ lowF f ∧ OpOk t f := by
 unfold ocE at h
 by_cases h1 : (chkM t).2 = 0
 ·rw [if_neg (not_not_intro h1)] at h
  exact ⟨TblOk.of h1,opE_ok h⟩
 ·rw [if_pos h1] at h; exact absurd h h1
theorem S18 (t : List MRow) (ht : Fit t) (f : Int × Int) (hf : FrI f) : SP 18 [tblA t,gaF f] (i64 (ocE t f)) false := by
 have h39 := S39 t ht
 unfold ocE
 by_cases h1 : (chkM t).2 = 0
 ·have h80 := S80 t (TblOk.of h1) f hf
  rw [h1] at h39
  rw [if_neg (not_not_intro h1)]
  refine sound (d := 2) tok2 mixed2 Tryz.func18 (by kernel_rfl) (by kernel_rfl) ?_
  (conv=>whnf); refine .inl ⟨_,_,byX rfl (Sound1.pl (h39) rfl),?_⟩
  (conv=>whnf); refine .inl ⟨_,_,byX rfl (Sound1.pl (h80) rfl),?_⟩
  (conv=>whnf); refine ⟨?_,nofun⟩
  (first | contradiction | omega | rfl)
 ·rw [if_pos h1]
  refine sound (d := 2) tok2 mixed2 Tryz.func18 (by kernel_rfl) (by kernel_rfl) ?_
  (conv=>whnf); refine .inl ⟨_,_,byX rfl (Sound1.pl (h39) rfl),?_⟩
  (conv=>whnf); refine ifB_bne (fun w1=>?_) (fun w1=>?_)
  ·(conv=>whnf); refine ⟨?_,nofun⟩
   (first | contradiction | omega | rfl)
  ·(exfalso; omega)
def ocL (t : List MRow) (f : Int × Int) : List Nm := if ocE t f = 0 then crvN t f else []
theorem S74 (t : List MRow) (ht : Fit t) (f : Int × Int) (hf : FrI f) : SP 74 [tblA t,gaF f] (.tuple [nms (ocL t f),i64 (ocE t f)]) false := by
 have h97 := S97 t ht
 unfold ocL
 by_cases h1 : (chkM t).2 = 0
 ·have h136 := S136 t (TblOk.of h1) f hf
  have eo : ocE t f = opE t f := if_neg (not_not_intro h1)
  rw [h1] at h97
  rw [eo]
  by_cases h2 : opE t f = 0
  ·have h137 := S137 t ht (TblOk.of h1) f (opE_ok h2).2
   rw [h2] at h136
   rw [if_pos h2,h2]
   refine sound (d := 2) tok2 mixed2 Tryz.func74 (by kernel_rfl) (by kernel_rfl) ?_
   (conv=>whnf); refine .inl ⟨_,_,byX rfl (Sound1.pl (h97) rfl),?_⟩
   (conv=>whnf); refine .inl ⟨_,_,byX rfl (Sound1.pl (h136) rfl),?_⟩
   (conv=>whnf); refine .inl ⟨_,_,byX rfl (h137),?_⟩
   (conv=>whnf); refine ⟨?_,nofun⟩
   exact ave_tup2 ⟨rfl,rfl,fun _ _=>rfl⟩ rfl
  ·rw [if_neg h2]
   refine sound (d := 2) tok2 mixed2 Tryz.func74 (by kernel_rfl) (by kernel_rfl) ?_
   (conv=>whnf); refine .inl ⟨_,_,byX rfl (Sound1.pl (h97) rfl),?_⟩
   (conv=>whnf); refine .inl ⟨_,_,byX rfl (Sound1.pl (h136) rfl),?_⟩
   (conv=>whnf); refine ifB_bne (fun w1=>?_) (fun w1=>?_)
   ·(conv=>whnf); refine ⟨?_,nofun⟩
    exact ave_tup2 rfl rfl
   ·(exfalso; omega)
 ·have eo : ocE t f = (chkM t).2 := if_pos h1
  rw [eo,if_neg h1]
  refine sound (d := 2) tok2 mixed2 Tryz.func74 (by kernel_rfl) (by kernel_rfl) ?_
  (conv=>whnf); refine .inl ⟨_,_,byX rfl (Sound1.pl (h97) rfl),?_⟩
  (conv=>whnf); refine ifB_beq (fun w1=>?_) (fun w1=>?_)
  ·(exfalso; omega)
  ·(conv=>whnf); refine ifB_bne (fun w2=>?_) (fun w2=>?_)
   ·(conv=>whnf); refine ⟨?_,nofun⟩
    exact ave_tup2 rfl rfl
   ·(exfalso; omega)
end Go.Tr

/- Contracts of chapter 5: the reference's curve; spots compared; the law of curves. Conditions: none. -/
-- seat YtgbdlkajmmjahaaGreat
namespace Go.Tr
open Go Go.Proofs
set_option maxRecDepth 20000
set_option maxHeartbeats 8000000

theorem vEq6 (a b c d e f : Int) : vEqL [.int .i64 a,.int .i64 b,.int .i64 c,.int .i64 d,.int .i64 e,.int .i64 f] [.int .i64 a,.int .i64 b,.int .i64 c,.int .i64 d,.int .i64 e,.int .i64 f] = true := by
  simp [vEqL]
theorem rawQ_2 {A B : List P3} {part : Rat} {k : Nat} (h : k + 1 < A.length) : rawQ A B part (k + 1) = rawQ A B part k ++ [mixQ (ptQ (A.getD k p0)) (ptQ (B.getD k p0)) part] ++ [mixQ (ptQ (A.getD (k + 1) p0)) (ptQ (B.getD k p0)) part] := by
  rw [rawQ,if_pos h,List.append_assoc]; rfl
theorem rawQ_1 {A B : List P3} {part : Rat} {k : Nat} (h : ¬ k + 1 < A.length) : rawQ A B part (k + 1) = rawQ A B part k ++ [mixQ (ptQ (A.getD k p0)) (ptQ (B.getD k p0)) part] := by
  rw [rawQ,if_neg h]
end Go.Tr

/- Contracts of chapter 5: spots compared and sorted; spots on a line. Conditions: none. -/
-- seat YtgbdlkajmmjahaaGreat
namespace Go.Tr
open Go Go.Proofs
set_option maxRecDepth 20000
set_option maxHeartbeats 8000000

theorem S157 (x : Int) : SP 157 [i64 x] (vb false) false := by
 refine sound (d := 2) tok2 mixed2 Tryz.func157 (by kernel_rfl) (by kernel_rfl) ?_
 (conv=>whnf); refine ⟨?_,nofun⟩
 exact endb (by simp)
theorem S105 (a b : Int) : SP 105 [i64 a,i64 b] (i64 (sgI (a - b))) false := by
 have h1 := S157 a
 have h2 := S157 b
 refine sound (d := 2) tok2 mixed2 Tryz.func105 (by kernel_rfl) (by kernel_rfl) ?_
 (conv=>whnf); refine .inl ⟨_,_,byX rfl (Sound1.pl (h1) rfl),?_⟩
 (conv=>whnf); refine .inl ⟨_,_,byX rfl (Sound1.pl (h2) rfl),?_⟩
 (conv=>whnf); refine ifB_dec (fun w1=>?_) (fun w1=>?_)
 ·(conv=>whnf); refine ⟨?_,nofun⟩
  exact endi (sg_neg (by omega)).symm
 ·(conv=>whnf); refine ifB_dec (fun w2=>?_) (fun w2=>?_)
  ·(conv=>whnf); refine ⟨?_,nofun⟩
   exact endi (sg_pos (by omega)).symm
  ·(conv=>whnf); refine ⟨?_,nofun⟩
   exact endi (by rw [show a - b = 0 by omega]; rfl)
theorem S94 (p q : Rat) (hp : smR p) (hq : smR q) : SP 94 [gaF (frI p),gaF (frI q)] (i64 (cmpR p q)) false := by
 have h := S105 (p.num * (q.den : Nat)) (q.num * (p.den : Nat))
 unfold smR at hp hq
 have e0 : cmpR p q = sgI ((frI p).1 * (frI q).2 - (frI q).1 * (frI p).2) := rfl
 have m1 := absM (a := p.num) (b := (q.den : Nat)) (A := 1000000000) (B := 1000000000) (by omega) (by omega)
 have m2 := absM (a := q.num) (b := (p.den : Nat)) (A := 1000000000) (B := 1000000000) (by omega) (by omega)
 have i1 : inK .i64 ((frI p).1 * (frI q).2) := inK_of (by show _ ≤ p.num * (q.den : Nat) ∧ p.num * (q.den : Nat) ≤ _; omega)
 have i2 : inK .i64 ((frI q).1 * (frI p).2) := inK_of (by show _ ≤ q.num * (p.den : Nat) ∧ q.num * (p.den : Nat) ≤ _; omega)
 rw [e0]
 refine sound (d := 2) tok2 mixed2 Tryz.func94 (by kernel_rfl) (by kernel_rfl) ?_
 (conv=>whnf); refine ⟨by assumption,?_⟩
 (conv=>whnf); refine ⟨by assumption,?_⟩
 (conv=>whnf); refine .inl ⟨_,_,byX rfl (Sound1.pl (h) rfl),?_⟩
 (conv=>whnf); refine ⟨?_,nofun⟩
 (first | contradiction | rfl)
theorem S115 (l : List Int) (hl : l.length ≤ 1000000000) : SP 115 [ints l] (i64 (firstOf l)) false := by
 refine sound (d := 2) tok2 mixed2 Tryz.func115 (by kernel_rfl) (by kernel_rfl) ?_
 (conv=>whnf); refine ⟨[],[3,6,7,8],fun st mq=>∃ (k : Nat),(k ≤ l.length) ∧ (firstOf (l.drop k) = firstOf l) ∧ st = ⟨[(3,i64 0),(6,ints l),(7,i64 l.length),(8,i64 k)],⟨[],[],none,0⟩,[]⟩ ∧ mq = l.length - k,
  ⟨_,_,⟨0,by omega,rfl,rfl,rfl⟩,⟨⟨.inl rfl,rfl,rfl,rfl⟩,trivial,trivial⟩⟩,?_⟩
 rintro s0 m0 ⟨k,hk,hf,rfl,hmeas⟩
 by_cases hlt : k < l.length
 ·have hd := firstOf_drop l k hlt
  conv=>whnf
  (conv=>whnf); refine ifB_dec (fun w1=>?_) (fun w1=>?_)
  ·conv=>whnf
   (conv=>whnf); refine ⟨⟨(by omega),(by omega)⟩,?_⟩
   conv=>whnf
   (conv=>whnf); refine ifB_bne (fun w2=>?_) (fun w2=>?_)
   ·conv=>whnf
    (conv=>whnf); refine ⟨?_,nofun⟩
    rw [if_neg (show ¬ l.getD k 0 = 0 from w2)] at hd
    show i64 _ = i64 _
    rw [← hf,hd]; rfl
   ·conv=>whnf
    (conv=>whnf); refine ⟨inK64 (by omega) (by omega),?_⟩
    rw [if_pos (show l.getD k 0 = 0 from w2)] at hd
    conv=>whnf
    (conv=>whnf); refine ⟨_,_,⟨⟨k + 1,by omega,hd.symm.trans hf,rfl,rfl⟩,by omega⟩,⟨⟨.inl rfl,rfl,rfl,rfl⟩,trivial,trivial⟩⟩
  ·(exfalso; omega)
 ·have e : k = l.length := by omega
  subst e
  conv=>whnf
  (conv=>whnf); refine ifB_dec (fun w1=>?_) (fun w1=>?_)
  ·(exfalso; omega)
  ·conv=>whnf
   (conv=>whnf); refine ⟨?_,nofun⟩
   simp [firstOf] at hf
   show i64 _ = i64 _
   rw [← hf]
theorem S115_3 (a b c : Int) {f : Nat → List AV} (h : f 0 = [i64 a] ∧ f 1 = [i64 b] ∧ f 2 = [i64 c]) : SP 115 [.rslice 1 3 f] (i64 (firstOf [a,b,c])) false := by
 have key : ∀ i,i < 3 → f i = [i64 (([a,b,c] : List Int).getD i 0)] := fun i hi=>by
  match i,hi with
  | 0,_=>exact h.1
  | 1,_=>exact h.2.1
  | 2,_=>exact h.2.2
 refine (S115 [a,b,c] (by simp)).argsD rfl fun i y x hy hx=>?_
 match i,hy,hx with
 | 0,hy,hx=>cases hy; cases hx; exact .inr ⟨1,AVF_rows rfl key 0⟩
theorem S142 (p q : Q3) (hp : sm3 p) (hq : sm3 q) : SP 142 [spA (fr3 p),spA (fr3 q)] (i64 (cmp3 p q)) false := by
 have h1 := S94 p.1 q.1 hp.1 hq.1
 have h2 := S94 p.2.1 q.2.1 hp.2.1 hq.2.1
 have h3 := S94 p.2.2 q.2.2 hp.2.2 hq.2.2
 have h4 := @S115_3 (cmpR p.1 q.1) (cmpR p.2.1 q.2.1) (cmpR p.2.2 q.2.2)
 have e : firstOf [cmpR p.1 q.1,cmpR p.2.1 q.2.1,cmpR p.2.2 q.2.2] = cmp3 p q := by rw [first3]; rfl
 rw [e] at h4
 refine sound (d := 2) tok2 mixed2 Tryz.func142 (by kernel_rfl) (by kernel_rfl) ?_
 (conv=>whnf); refine ⟨[],by kernel_rfl,?_⟩
 (conv=>whnf); refine .inl ⟨_,_,byX rfl (Sound1.pl (h1) rfl),?_⟩
 (conv=>whnf); refine .inl ⟨_,_,byX rfl (Sound1.pl (h2) rfl),?_⟩
 (conv=>whnf); refine .inl ⟨_,_,byX rfl (Sound1.pl (h3) rfl),?_⟩
 (conv=>whnf); refine .inl ⟨_,_,byX rfl (Sound1.pl (h4 ⟨rfl,rfl,rfl⟩) rfl),?_⟩
 (conv=>whnf); refine ⟨?_,nofun⟩
 (first | contradiction | rfl)
theorem S153 (n : Nat) (h : n ≤ 12) : ∃ r,SP 153 [.val (.int .u64 n)] (i64 r) false := by
 have : n = 0 ∨ n = 1 ∨ n = 2 ∨ n = 3 ∨ n = 4 ∨ n = 5 ∨ n = 6 ∨ n = 7 ∨ n = 8 ∨ n = 9 ∨ n = 10 ∨ n = 11 ∨ n = 12 := by omega
 rcases this with rfl | rfl | rfl | rfl | rfl | rfl | rfl | rfl | rfl | rfl | rfl | rfl | rfl
 ·exact ⟨_,run_ok mixed2 (l := []) (by simp) 1000 60 (y := i64 0) (by kernel_rfl)⟩
 ·exact ⟨_,run_ok mixed2 (l := []) (by simp) 1000 60 (y := i64 1) (by kernel_rfl)⟩
 ·exact ⟨_,run_ok mixed2 (l := []) (by simp) 1000 60 (y := i64 2) (by kernel_rfl)⟩
 ·exact ⟨_,run_ok mixed2 (l := []) (by simp) 1000 60 (y := i64 2) (by kernel_rfl)⟩
 ·exact ⟨_,run_ok mixed2 (l := []) (by simp) 1000 60 (y := i64 3) (by kernel_rfl)⟩
 ·exact ⟨_,run_ok mixed2 (l := []) (by simp) 1000 60 (y := i64 3) (by kernel_rfl)⟩
 ·exact ⟨_,run_ok mixed2 (l := []) (by simp) 1000 60 (y := i64 3) (by kernel_rfl)⟩
 ·exact ⟨_,run_ok mixed2 (l := []) (by simp) 1000 60 (y := i64 3) (by kernel_rfl)⟩
 ·exact ⟨_,run_ok mixed2 (l := []) (by simp) 1000 60 (y := i64 4) (by kernel_rfl)⟩
 ·exact ⟨_,run_ok mixed2 (l := []) (by simp) 1000 60 (y := i64 4) (by kernel_rfl)⟩
 ·exact ⟨_,run_ok mixed2 (l := []) (by simp) 1000 60 (y := i64 4) (by kernel_rfl)⟩
 ·exact ⟨_,run_ok mixed2 (l := []) (by simp) 1000 60 (y := i64 4) (by kernel_rfl)⟩
 ·exact ⟨_,run_ok mixed2 (l := []) (by simp) 1000 60 (y := i64 4) (by kernel_rfl)⟩
theorem u64_in {n : Nat} (h : n ≤ 12) : inK .u64 (n : Int) := ⟨by
 have : IntKind.min .u64 = 0 := by decide
 omega,by
 have : IntKind.max .u64 = 18446744073709551615 := by decide
 omega⟩
abbrev le3 (a b : Q3) : Prop := ¬ lt3 b a
theorem le3_tr (a b c : Q3) (h1 : le3 a b) (h2 : le3 b c) : le3 a c := fun h=>by
 rcases lt3_tri b c with g | g | g
 ·exact h1 (lt3_tr _ _ _ g h)
 ·subst g; exact h1 h
 ·exact h2 g
theorem le3_of {a b : Q3} (h : cmp3 a b < 0) : le3 a b := fun g=>lt3_irr _ (lt3_tr _ _ _ g ((cmp3_neg _ _).1 h))
theorem ge3_of {a b : Q3} (h : ¬ cmp3 a b < 0) : le3 b a := fun g=>h ((cmp3_neg _ _).2 g)
theorem sm3_0 : sm3 q0 := by unfold sm3 smR q0; decide
theorem sp_veq (a b : Q3) : vEqL [.int .i64 (fr3 a).1.1,.int .i64 (fr3 a).1.2,.int .i64 (fr3 a).2.1.1,.int .i64 (fr3 a).2.1.2,.int .i64 (fr3 a).2.2.1,.int .i64 (fr3 a).2.2.2]
  [.int .i64 (fr3 b).1.1,.int .i64 (fr3 b).1.2,.int .i64 (fr3 b).2.1.1,.int .i64 (fr3 b).2.1.2,.int .i64 (fr3 b).2.2.1,.int .i64 (fr3 b).2.2.2] = decide (a = b) := by
 rw [Bool.eq_iff_iff,decide_eq_true_iff]
 constructor
 ·intro h
  refine fr3_inj ?_
  simp only [vEqL,Bool.and_eq_true,beq_iff_eq,and_true,true_and] at h
  exact Prod.ext (Prod.ext h.1 h.2.1) (Prod.ext (Prod.ext h.2.2.1 h.2.2.2.1) (Prod.ext h.2.2.2.2.1 h.2.2.2.2.2))
 ·intro h
  subst h
  exact vEq6 _ _ _ _ _ _
def slL (L : List Q3) (l : Ln) : List Q3 := smL (spL L l)
def slE (L : List Q3) (l : Ln) : Int := smE (spL L l)
set_option maxHeartbeats 16000000 in
theorem S79 (L : List Nm) (l : Ln) (hL : CvOk L) (hl : LnOk l) : SP 79 [nms L, lnA l] (.tuple [sps (slL (L.map nmQ) l), i64 (slE (L.map nmQ) l)]) false := by
 have h90 := S90 L l hL hl
 have h89 := S89 (onL L l) (Nat.le_trans (onL_len hL l) (by decide)) (onL_ok hL hl)
 rw [onL_map hL] at h89
 have hlen : (onS (L.map nmQ) l).length ≤ 12 := by rw [← onL_map hL,List.length_map]; exact onL_len hL l
 have hfin : ∀ s : List Q3,s.Perm (smL (onS (L.map nmQ) l)) → s.Pairwise le3 → compL s = slL (L.map nmQ) l := fun s hp hs=>by
  unfold slL
  unfold smL at hp ⊢
  rw [spL_all]
  by_cases g : allS (onS (L.map nmQ) l) = true
  ·rw [if_pos g] at hp ⊢
   exact spL_sort hp hs
  ·rw [if_neg g] at hp ⊢
   rw [List.perm_nil.1 hp]; rfl
 have hE : slE (L.map nmQ) l = smE (onS (L.map nmQ) l) := by unfold slE smE; rw [spL_all]
 have hsm : ∀ x ∈ smL (onS (L.map nmQ) l),sm3 x := fun x hx=>by
  unfold smL at hx
  by_cases g : allS (onS (L.map nmQ) l) = true
  ·rw [if_pos g] at hx
   exact of_decide_eq_true (List.all_eq_true.1 g x hx)
  ·rw [if_neg g] at hx; cases hx
 have hO : (smL (onS (L.map nmQ) l)).length ≤ 12 := by
  unfold smL
  split
  ·exact hlen
  ·exact Nat.zero_le _
 rw [hE]
 generalize smL (onS (L.map nmQ) l) = O at *
 generalize smE (onS (L.map nmQ) l) = E at *
 generalize slL (L.map nmQ) l = G at *
 have hcmp : ∀ b : List Q3,b.Perm O → ∀ i j,SP 142 [spA (fr3 (b.getD i q0)),spA (fr3 (b.getD j q0))] (i64 (cmp3 (b.getD i q0) (b.getD j q0))) false := fun b hb i j=>by
  have h1 : ∀ i,sm3 (b.getD i q0) := fun i=>by
   by_cases hi : i < b.length
   ·exact hsm _ (hb.subset (getD_memG hi))
   ·rw [List.getD_eq_getElem?_getD,List.getElem?_eq_none (by omega)]; exact sm3_0
  exact S142 _ _ (h1 i) (h1 j)
 obtain ⟨n,hON⟩ : ∃ n,O.length = n := ⟨_,rfl⟩
 rw [hON] at hO
 unfold sps at h89
 rw [hON] at h89
 have hu := u64_in hO
 obtain ⟨rl,h153⟩ := S153 n hO
 refine sound (d := 5) tok2 mixed2 Tryz.func79 (by kernel_rfl) (by kernel_rfl) ?_
 (conv=>whnf); refine .inl ⟨_,_,byX rfl (h90),?_⟩
 (conv=>whnf); refine .inl ⟨_,_,byX rfl (h89),?_⟩
 (conv=>whnf); refine .inr (.inl ⟨[],?_⟩)
 (conv=>whnf); refine ⟨by assumption,?_⟩
 (conv=>whnf); refine .inl ⟨_,_,byX rfl (Sound1.pl (h153) rfl),?_⟩
 (conv=>whnf); refine .inr (.inl ⟨[],?_⟩)
 (conv=>whnf); refine ⟨[.forget [0,1,2,3,4,5,6,7,8,9,10,11,12,13,14,15,16,17,18,19,22,23,24,25,26,27,28,29,30,31,32,33,34,35,36,37,38,39,40,41,42,43,44,45,46,47,48,49,50,51,52,53,54,55,56,57,58,59,60,61,62,63]],[0,1,2,3,4],fun st mq=>∃ (F0 : Nat → List AV),st = ⟨[(0,.oslice 1 0 0 n none),(1,i64 0),(2,i64 n),(3,i64 rl),(4,.func (.func 142) 0 [])],⟨[⟨4,1,F0,0,false,true,false⟩,⟨6,n,fun i=>spC (fr3 (O.getD i q0)),0,false,true,false⟩],[],none,0⟩,[(21,i64 E),(20,.oslice 1 0 0 n none)]⟩ ∧ mq = 0,
  ⟨_,_,⟨_,rfl,rfl⟩,⟨⟨.inl rfl,rfl,rfl,rfl⟩,⟨bA,⟨bA,trivial⟩⟩,trivial⟩⟩,?_⟩
 rintro s0 m0 ⟨F0,rfl,hmeas⟩
 conv=>whnf
 (conv=>whnf); refine ⟨inK64 (by omega) (by omega),?_⟩
 conv=>whnf
 (conv=>whnf); refine ifB_dec (fun w1=>?_) (fun w1=>?_)
 ·conv => whnf
  (conv=>whnf); refine .inr (.inl ⟨[],?_⟩)
  conv=>whnf
  (conv=>whnf); refine ⟨inK64 (by omega) (by omega),?_⟩
  conv=>whnf
  (conv=>whnf); refine ⟨[.forget [0,1,2,3,4,5,6,7,8,9,10,11,12,13,14,15,16,17,18,19,20,21,22,23,24,25,26,27,28,29,30,31,32,33,34,35,36,37,38,39,40,41,42,43,44,45,46,47,48,49,50,51,52,53,54,55,56,57,58,59,60,61,62,63]],[0,1,2,3,8],fun st mq=>∃ (i : Nat) (a : List Q3) (F0 : Nat → List AV),(1 ≤ i) ∧ (i ≤ n ∨ i = 1) ∧ (a.length = n) ∧ (a.Perm O) ∧ (SortG le3 q0 a i) ∧ st = ⟨[(0,.oslice 1 0 0 n none),(1,i64 0),(2,i64 n),(3,.func (.func 142) 0 []),(8,i64 i)],⟨[⟨4,1,F0,0,false,true,false⟩,⟨6,n,fun i=>spC (fr3 (a.getD i q0)),0,false,true,false⟩],[],none,0⟩,[(169,i64 E),(168,.oslice 1 0 0 n none)]⟩ ∧ mq = n - i,
   ⟨_,_,⟨1,O,_,by omega,by omega,hON,List.Perm.refl _,fun p q h1 h2=>by omega,rfl,rfl⟩,⟨⟨.inl rfl,rfl,rfl,rfl⟩,⟨bA,⟨bA,trivial⟩⟩,trivial⟩⟩,?_⟩
  rintro s0 m0 ⟨i,a,F0,hi1,hi2,hal,hp,hs,rfl,hmeas⟩
  by_cases hil : i < n
  ·conv => whnf
   conv=>whnf
   (conv=>whnf); refine ifB_dec (fun w2=>?_) (fun w2=>?_)
   ·conv=>whnf
    conv=>whnf
    (conv=>whnf); refine ⟨[],[0,1,2,3,8,9],fun st mq=>∃ (j : Nat) (z : Int) (b : List Q3) (F0 : Nat → List AV),(z = (j : Int)) ∧ (j ≤ i) ∧ (b.length = n) ∧ (b.Perm O) ∧ (SinkG le3 q0 b j (i + 1)) ∧ st = ⟨[(0,.oslice 1 0 0 n none),(1,i64 0),(2,i64 n),(3,.func (.func 142) 0 []),(8,i64 i),(9,i64 z)],⟨[⟨4,1,F0,0,false,true,false⟩,⟨6,n,fun i=>spC (fr3 (b.getD i q0)),0,false,true,false⟩],[],none,0⟩,[(169,i64 E),(168,.oslice 1 0 0 n none)]⟩ ∧ mq = j,
     ⟨_,_,⟨i,(i : Int),a,_,rfl,by omega,hal,hp,sinkG_start hs,rfl,rfl⟩,⟨⟨.inl rfl,rfl,rfl,rfl⟩,⟨bA,⟨bA,trivial⟩⟩,trivial⟩⟩,?_⟩
    rintro s0 m0 ⟨j,z,b,F0,hz,hj,hbl,hpb,hsb,rfl,hmeas⟩
    subst hz
    have hcm := hcmp b hpb
    by_cases hj0 : j = 0
    ·subst hj0
     conv=>whnf
     conv=>whnf
     conv=>whnf
     (conv=>whnf); refine ⟨[],by kernel_rfl,?_⟩
     conv=>whnf
     conv=>whnf
     conv=>whnf
     (conv=>whnf); refine ⟨inK64 (by omega) (by omega),?_⟩
     conv=>whnf
     conv=>whnf
     conv=>whnf
     (conv=>whnf); refine ⟨_,_,⟨⟨i + 1,b,_,by omega,by omega,hbl,hpb,sinkG_end le3_tr hsb (.inl rfl),rfl,rfl⟩,by omega⟩,⟨⟨.inl rfl,rfl,rfl,rfl⟩,⟨bA,⟨bA,trivial⟩⟩,trivial⟩⟩
    ·obtain ⟨j,rfl⟩ : ∃ k,j = k + 1 := ⟨j - 1,by omega⟩
     have e1 : (((j + 1 : Nat) : Int) - 1).toNat = j := by omega
     have hr1 := fun x : Nat=>rowG (n := 6) (fun e=>spC (fr3 e)) (fun _=>rfl) q0 b ((j + 1 : Nat) : Int).toNat x (b.getD (0 + (((j + 1 : Nat) : Int) - 1).toNat) q0) (by omega)
     have hr2 := fun x : Nat=>rowG (n := 6) (fun e=>spC (fr3 e)) (fun _=>rfl) q0 (b.set ((j + 1 : Nat) : Int).toNat (b.getD (0 + (((j + 1 : Nat) : Int) - 1).toNat) q0)) (((j + 1 : Nat) : Int) - 1).toNat x (b.getD (0 + ((j + 1 : Nat) : Int).toNat) q0) (by rw [List.length_set]; omega)
     have hsw : ∀ x,spC (fr3 ((swapG q0 b (j + 1)).getD x q0)) = spC (fr3 (((b.set ((j + 1 : Nat) : Int).toNat (b.getD (0 + (((j + 1 : Nat) : Int) - 1).toNat) q0)).set (((j + 1 : Nat) : Int) - 1).toNat (b.getD (0 + ((j + 1 : Nat) : Int).toNat) q0)).getD x q0)) := fun x=>by
      rw [e1,Nat.zero_add,Nat.zero_add]; rfl
     conv=>whnf
     conv=>whnf
     conv=>whnf
     (conv=>whnf); refine ⟨[],by kernel_rfl,?_⟩
     conv=>whnf
     conv=>whnf
     conv=>whnf
     (conv=>whnf); refine ifB_dec (fun w3=>?_) (fun w3=>?_)
     ·conv=>whnf
      conv=>whnf
      conv=>whnf
      (conv=>whnf); refine ⟨⟨(by omega),(by omega)⟩,?_⟩
      conv=>whnf
      conv=>whnf
      conv=>whnf
      (conv=>whnf); refine ⟨inK64 (by omega) (by omega),?_⟩
      conv=>whnf
      conv=>whnf
      conv=>whnf
      (conv=>whnf); refine ⟨⟨(by omega),(by omega)⟩,?_⟩
      conv=>whnf
      conv=>whnf
      conv=>whnf
      (conv=>whnf); refine .inl ⟨_,_,byX rfl (Sound1.pl (hcm _ _) rfl),?_⟩
      conv=>whnf
      conv=>whnf
      conv=>whnf
      (conv=>whnf); refine ifB_dec (fun w4=>?_) (fun w4=>?_)
      ·conv=>whnf
       conv=>whnf
       conv=>whnf
       (conv=>whnf); refine ⟨[],by kernel_rfl,?_⟩
       conv=>whnf
       conv=>whnf
       conv=>whnf
       (conv=>whnf); refine ⟨inK64 (by omega) (by omega),?_⟩
       conv=>whnf
       conv=>whnf
       conv=>whnf
       (conv=>whnf); refine ⟨inK64 (by omega) (by omega),?_⟩
       conv=>whnf
       conv=>whnf
       conv=>whnf
       (conv=>whnf); refine ⟨⟨(by omega),(by omega)⟩,?_⟩
       conv=>whnf
       conv=>whnf
       conv=>whnf
       (conv=>whnf); refine ⟨⟨(by omega),(by omega)⟩,?_⟩
       conv=>whnf
       conv=>whnf
       conv=>whnf
       (conv=>whnf); refine ⟨⟨(by omega),(by omega)⟩,?_⟩
       refine ⟨_,fun i _=>hr1 i,?_⟩
       conv=>whnf
       conv=>whnf
       conv=>whnf
       (conv=>whnf); refine ⟨⟨(by omega),(by omega)⟩,?_⟩
       refine ⟨_,fun i _=>hr2 i,?_⟩
       conv=>whnf
       conv=>whnf
       conv=>whnf
       (conv=>whnf); refine ⟨inK64 (by omega) (by omega),?_⟩
       have hlt : cmp3 (b.getD (j + 1) q0) (b.getD (j + 1 - 1) q0) < 0 := by
        have e : cmp3 (b.getD (0 + ((j + 1 : Nat) : Int).toNat) q0) (b.getD (0 + (((j + 1 : Nat) : Int) - 1).toNat) q0) < 0 := by assumption
        rw [e1,Nat.zero_add,Nat.zero_add] at e
        exact e
       conv=>whnf
       conv=>whnf
       conv=>whnf
       (conv=>whnf); refine ⟨_,_,⟨⟨j,((j + 1 : Nat) : Int) - 1,swapG q0 b (j + 1),_,by omega,by omega,(by rw [swapG_len]; exact hbl),(swapG_perm (by omega)).trans hpb,sinkG_swap (by omega) (by omega) hsb (le3_of hlt),rfl,rfl⟩,by omega⟩,⟨⟨.inl rfl,rfl,rfl,rfl⟩,⟨bA,⟨⟨rfl,rfl,rfl,rfl,fun _=>rfl,fun x _=>.inl (hsw x)⟩,trivial⟩⟩,trivial⟩⟩
      ·conv=>whnf
       conv=>whnf
       conv=>whnf
       (conv=>whnf); refine ⟨inK64 (by omega) (by omega),?_⟩
       have hge : ¬ cmp3 (b.getD (j + 1) q0) (b.getD (j + 1 - 1) q0) < 0 := by
        have e : ¬ cmp3 (b.getD (0 + ((j + 1 : Nat) : Int).toNat) q0) (b.getD (0 + (((j + 1 : Nat) : Int) - 1).toNat) q0) < 0 := by assumption
        rw [e1,Nat.zero_add,Nat.zero_add] at e
        exact e
       conv=>whnf
       conv=>whnf
       conv=>whnf
       (conv=>whnf); refine ⟨_,_,⟨⟨i + 1,b,_,by omega,by omega,hbl,hpb,sinkG_end le3_tr hsb (.inr (ge3_of hge)),rfl,rfl⟩,by omega⟩,⟨⟨.inl rfl,rfl,rfl,rfl⟩,⟨bA,⟨bA,trivial⟩⟩,trivial⟩⟩
     ·(exfalso; omega)
   ·(exfalso; omega)
  ·have hsa : SortG le3 q0 a a.length := fun p q h1 h2 => hs p q h1 (by omega)
   have hG := hfin a hp (sortG_pair hsa)
   rw [← hG]
   subst hal
   conv=>whnf
   conv=>whnf
   (conv=>whnf); refine ifB_dec (fun w2=>?_) (fun w2=>?_)
   ·(exfalso; omega)
   ·conv => whnf
    conv=>whnf
    (conv=>whnf); refine .inr (.inl ⟨[],?_⟩)
    conv=>whnf
    conv=>whnf
    (conv=>whnf); refine ifB_dec (fun w3=>?_) (fun w3=>?_)
    ·conv=>whnf
     conv=>whnf
     (conv=>whnf); refine ⟨?_,nofun⟩
     rw [compL_one (by omega)]
     exact ave_tup2 ⟨rfl,rfl,fun _ _=>rfl⟩ rfl
    ·conv => whnf
     conv=>whnf
     (conv=>whnf); refine ⟨[.forget [0,1,2,3,4,5,6,8,9,10,11,12,13,14,15,16,17,18,19,20,21,22,23,24,25,26,27,28,29,30,31,32,33,34,35,36,37,38,39,40,41,42,43,44,45,46,47,48,49,50,51,52,53,54,55,56,57,58,59,60,61,62,63]],[0,3],fun st mq=>∃ (k : Nat) (F0 : Nat → List AV),(1 ≤ k) ∧ (k ≤ a.length) ∧ (compL (a.take k) = a.take k) ∧ st = ⟨[(0,.oslice 1 0 0 a.length none),(3,i64 k)],⟨[⟨4,1,F0,0,false,true,false⟩,⟨6,a.length,fun i=>spC (fr3 (a.getD i q0)),0,false,true,false⟩],[],none,0⟩,[(7,i64 E)]⟩ ∧ mq = a.length - k,
      ⟨_,_,⟨1,_,by omega,by omega,compL_one (by rw [List.length_take]; omega),rfl,rfl⟩,⟨⟨.inl rfl,rfl,rfl,rfl⟩,⟨bA,⟨bA,trivial⟩⟩,trivial⟩⟩,?_⟩
     rintro s0 m0 ⟨k,F0,hk1,hk2,hc,rfl,hmeas⟩
     have ek : ((k : Int) - 1).toNat = k - 1 := by omega
     by_cases hlt : k < a.length
     ·have hv := sp_veq (a.getD (0 + (k : Int).toNat) q0) (a.getD (0 + ((k : Int) - 1).toNat) q0)
      have hz : 0 ≤ (k : Int) ∧ (k : Int) ≤ (a.length : Int) ∧ ((0 : Nat) : Int) + (a.length : Int) ≤ (a.length : Int) := ⟨by omega,by omega,by omega⟩
      by_cases he : a.getD k q0 = a.getD (k - 1) q0
      ·rw [decide_eq_true (by rw [ek, Nat.zero_add, Nat.zero_add]; exact he)] at hv
       conv=>whnf
       conv=>whnf
       conv=>whnf
       (conv=>whnf); refine ifB_dec (fun w4=>?_) (fun w4=>?_)
       ·conv => whnf
        conv=>whnf
        conv=>whnf
        (conv=>whnf); refine ⟨[],by kernel_rfl,?_⟩
        conv=>whnf
        conv=>whnf
        conv=>whnf
        (conv=>whnf); refine ⟨⟨(by omega),(by omega)⟩,?_⟩
        conv=>whnf
        conv=>whnf
        conv=>whnf
        (conv=>whnf); refine ⟨inK64 (by omega) (by omega),?_⟩
        conv=>whnf
        conv=>whnf
        conv=>whnf
        (conv=>whnf); refine ⟨⟨(by omega),(by omega)⟩,?_⟩
        conv=>whnf
        conv=>whnf
        conv=>whnf
        (conv=>whnf); refine ifB_intro (fun w5=>?_) (fun w5=>?_)
        ·conv=>whnf
         conv=>whnf
         conv=>whnf
         (conv=>whnf); refine ⟨by assumption,?_⟩
         conv=>whnf
         conv=>whnf
         conv=>whnf
         (conv=>whnf); refine ⟨[],[0,3,4,5],fun st mq=>∃ (k1 : Nat) (q : Nat) (a1 : List Q3) (F0 : Nat → List AV),(1 ≤ q) ∧ (CmpI q0 a a1 k1 (k + q)) ∧ st = ⟨[(0,.oslice 1 0 0 a.length none),(3,i64 k1),(4,.oslice 1 0 (0 + (k : Int).toNat) ((a.length : Int) - (k : Int)).toNat none),(5,i64 q)],⟨[⟨4,1,F0,0,false,true,false⟩,⟨6,a.length,fun i=>spC (fr3 (a1.getD i q0)),0,false,true,false⟩],[],none,0⟩,[(7,i64 E)]⟩ ∧ mq = a.length - k - q,
          ⟨_,_,⟨k,1,a,_,by omega,cmpI_start hk1 hlt hc he,rfl,rfl⟩,⟨⟨.inl rfl,rfl,rfl,rfl⟩,⟨bA,⟨bA,trivial⟩⟩,trivial⟩⟩,?_⟩
         rintro s0 m0 ⟨k1,q,a1,F0,hq,hI,rfl,hmeas⟩
         have hkp := hI.kp
         have hal1 := hI.len
         by_cases hlt2 : k + q < a.length
         ·have hv2 := sp_veq (a1.getD (0 + (k : Int).toNat + (q : Int).toNat) q0) (a1.getD (0 + (k : Int).toNat + ((q : Int) - 1).toNat) q0)
          have ep : 0 + (k : Int).toNat + ((q : Int) - 1).toNat = k + q - 1 := by omega
          have eq0 : 0 + (k : Int).toNat + (q : Int).toNat = k + q := by omega
          by_cases he2 : a1.getD (k + q) q0 = a1.getD (k + q - 1) q0
          ·rw [decide_eq_true (by rw [ep,eq0]; exact he2)] at hv2
           conv=>whnf
           conv=>whnf
           conv=>whnf
           conv=>whnf
           (conv=>whnf); refine ifB_dec (fun w6=>?_) (fun w6=>?_)
           ·conv=>whnf
            conv=>whnf
            conv=>whnf
            conv=>whnf
            (conv=>whnf); refine ⟨[],by kernel_rfl,?_⟩
            conv=>whnf
            conv=>whnf
            conv=>whnf
            conv=>whnf
            (conv=>whnf); refine ⟨⟨(by omega),(by omega)⟩,?_⟩
            conv=>whnf
            conv=>whnf
            conv=>whnf
            conv=>whnf
            (conv=>whnf); refine ⟨inK64 (by omega) (by omega),?_⟩
            conv=>whnf
            conv=>whnf
            conv=>whnf
            conv=>whnf
            (conv=>whnf); refine ⟨⟨(by omega),(by omega)⟩,?_⟩
            conv=>whnf
            conv=>whnf
            conv=>whnf
            conv=>whnf
            (conv=>whnf); refine ifB_not ?_
            conv=>whnf
            conv=>whnf
            conv=>whnf
            conv=>whnf
            (conv=>whnf); refine ifB_intro (fun w7=>?_) (fun w7=>?_)
            ·conv=>whnf
             conv=>whnf
             conv=>whnf
             conv=>whnf
             (conv=>whnf); refine ⟨inK64 (by omega) (by omega),?_⟩
             conv=>whnf
             conv=>whnf
             conv=>whnf
             conv=>whnf
             (conv=>whnf); refine ⟨_,_,⟨⟨k1,q + 1,a1,_,by omega,hI.same hlt2 he2,rfl,rfl⟩,by omega⟩,⟨⟨.inl rfl,rfl,rfl,rfl⟩,⟨bA,⟨bA,trivial⟩⟩,trivial⟩⟩
            ·exact absurd (hv2.symm.trans w7) nofun
           ·(exfalso; omega)
          ·rw [decide_eq_false (by rw [ep,eq0]; exact he2)] at hv2
           have hrow := fun i : Nat=>rowG (n := 6) (fun e=>spC (fr3 e)) (fun _=>rfl) q0 a1 (k1 : Int).toNat i (a1.getD (0 + (k : Int).toNat + (q : Int).toNat) q0) (by omega)
           conv=>whnf
           conv=>whnf
           conv=>whnf
           conv=>whnf
           (conv=>whnf); refine ifB_dec (fun w6=>?_) (fun w6=>?_)
           ·conv=>whnf
            conv=>whnf
            conv=>whnf
            conv=>whnf
            (conv=>whnf); refine ⟨[],by kernel_rfl,?_⟩
            conv=>whnf
            conv=>whnf
            conv=>whnf
            conv=>whnf
            (conv=>whnf); refine ⟨⟨(by omega),(by omega)⟩,?_⟩
            conv=>whnf
            conv=>whnf
            conv=>whnf
            conv=>whnf
            (conv=>whnf); refine ⟨inK64 (by omega) (by omega),?_⟩
            conv=>whnf
            conv=>whnf
            conv=>whnf
            conv=>whnf
            (conv=>whnf); refine ⟨⟨(by omega),(by omega)⟩,?_⟩
            conv=>whnf
            conv=>whnf
            conv=>whnf
            conv=>whnf
            (conv=>whnf); refine ifB_not ?_
            conv=>whnf
            conv=>whnf
            conv=>whnf
            conv=>whnf
            (conv=>whnf); refine ifB_intro (fun w7=>?_) (fun w7=>?_)
            ·exact absurd (hv2.symm.trans w7) nofun
            ·conv=>whnf
             conv=>whnf
             conv=>whnf
             conv=>whnf
             (conv=>whnf); refine ⟨⟨(by omega),(by omega)⟩,?_⟩
             conv=>whnf
             conv=>whnf
             conv=>whnf
             conv=>whnf
             (conv=>whnf); refine ⟨⟨(by omega),(by omega)⟩,?_⟩
             refine ⟨_,fun i _=>hrow i,?_⟩
             conv=>whnf
             conv=>whnf
             conv=>whnf
             conv=>whnf
             (conv=>whnf); refine ⟨inK64 (by omega) (by omega),?_⟩
             conv=>whnf
             conv=>whnf
             conv=>whnf
             conv=>whnf
             (conv=>whnf); refine ⟨inK64 (by omega) (by omega),?_⟩
             conv=>whnf
             conv=>whnf
             conv=>whnf
             conv=>whnf
             (conv=>whnf); refine ⟨_,_,⟨⟨k1 + 1,q + 1,a1.set k1 (a1.getD (0 + (k : Int).toNat + (q : Int).toNat) q0),_,by omega,(by rw [eq0]; exact hI.put hlt2 he2),rfl,rfl⟩,by omega⟩,⟨⟨.inl rfl,rfl,rfl,rfl⟩,⟨bA,⟨bA,trivial⟩⟩,trivial⟩⟩
           ·(exfalso; omega)
         ·have hf := hI.fin hlt2
          have hz2 : 0 ≤ (k1 : Int) ∧ (k1 : Int) ≤ (a.length : Int) ∧ ((0 : Nat) : Int) + (a.length : Int) ≤ (a.length : Int) := ⟨by omega,by omega,by omega⟩
          have hz3 : 0 ≤ (0 : Int) ∧ (0 : Int) ≤ (k1 : Int) ∧ ((0 : Nat) : Int) + (k1 : Int) ≤ (a.length : Int) := ⟨by omega,by omega,by omega⟩
          conv=>whnf
          conv=>whnf
          conv=>whnf
          conv=>whnf
          (conv=>whnf); refine ifB_dec (fun w6=>?_) (fun w6=>?_)
          ·(exfalso; omega)
          ·conv=>whnf
           conv=>whnf
           conv=>whnf
           conv=>whnf
           (conv=>whnf); refine ⟨by assumption,?_⟩
           conv=>whnf
           conv=>whnf
           conv=>whnf
           conv=>whnf
           (conv=>whnf); refine ⟨by assumption,?_⟩
           conv=>whnf
           conv=>whnf
           conv=>whnf
           conv=>whnf
           (conv=>whnf); refine ⟨?_,nofun⟩
           exact (ave_tup2 ⟨rfl,(by have := hf.1; omega),fun i hi=>(if_neg (by omega)).trans (congrArg (fun e=>spC (fr3 e)) (hf.2 i (by omega)))⟩ rfl)
        ·exact absurd (hv.symm.trans w5) nofun
       ·(exfalso; omega)
      ·rw [decide_eq_false (by rw [ek,Nat.zero_add,Nat.zero_add]; exact he)] at hv
       conv=>whnf
       conv=>whnf
       conv=>whnf
       (conv=>whnf); refine ifB_dec (fun w4=>?_) (fun w4=>?_)
       ·conv=>whnf
        conv=>whnf
        conv=>whnf
        (conv=>whnf); refine ⟨[],by kernel_rfl,?_⟩
        conv=>whnf
        conv=>whnf
        conv=>whnf
        (conv=>whnf); refine ⟨⟨(by omega),(by omega)⟩,?_⟩
        conv=>whnf
        conv=>whnf
        conv=>whnf
        (conv=>whnf); refine ⟨inK64 (by omega) (by omega),?_⟩
        conv=>whnf
        conv=>whnf
        conv=>whnf
        (conv=>whnf); refine ⟨⟨(by omega),(by omega)⟩,?_⟩
        conv=>whnf
        conv=>whnf
        conv=>whnf
        (conv=>whnf); refine ifB_intro (fun w5=>?_) (fun w5=>?_)
        ·exact absurd (hv.symm.trans w5) nofun
        ·conv=>whnf
         conv=>whnf
         conv=>whnf
         (conv=>whnf); refine ⟨inK64 (by omega) (by omega),?_⟩
         conv=>whnf
         conv=>whnf
         conv=>whnf
         (conv=>whnf); refine ⟨_,_,⟨⟨k + 1,_,by omega,by omega,comp_go hk1 hlt hc he,rfl,rfl⟩,by omega⟩,⟨⟨.inl rfl,rfl,rfl,rfl⟩,⟨bA,⟨bA,trivial⟩⟩,trivial⟩⟩
       ·(exfalso; omega)
     ·obtain rfl : k = a.length := by omega
      rw [List.take_length] at hc
      rw [hc]
      conv=>whnf
      conv=>whnf
      conv=>whnf
      (conv=>whnf); refine ifB_dec (fun w4=>?_) (fun w4=>?_)
      ·(exfalso; omega)
      ·conv=>whnf
       conv=>whnf
       conv=>whnf
       (conv=>whnf); refine ⟨?_,nofun⟩
       exact (ave_tup2 ⟨rfl,rfl,fun _ _=>rfl⟩ rfl)
 ·(exfalso; omega)
end Go.Tr

/- Contracts of chapter 5: lines; the reference's spots on a line. Conditions: none. -/
-- seat YtgbdlkajmmjahaaGreat
namespace Go.Tr
open Go Go.Proofs
set_option maxRecDepth 20000
set_option maxHeartbeats 8000000

def lnE (l : Ln) : Int := if (-100 ≤ l.1 ∧ l.1 ≤ 100) ∧ (-100 ≤ l.2.1 ∧ l.2.1 ≤ 100) ∧ (-100 ≤ l.2.2.1 ∧ l.2.2.1 ≤ 100) ∧ -1000000 ≤ l.2.2.2 ∧ l.2.2.2 ≤ 1000000 then (if l.1 = 0 ∧ l.2.1 = 0 ∧ l.2.2.1 = 0 then 11 else 0) else 2
theorem lnE_ok {l : Ln} (h : lnE l = 0) : LnOk l := by
 unfold lnE at h
 split at h
 ·assumption
 ·exact absurd h (by decide)
set_option maxHeartbeats 4000000 in
theorem S96 (l : Ln) : SP 96 [lnA l] (i64 (lnE l)) false := by
 have h1 := S140 l.1 100 (by decide)
 have h2 := S140 l.2.1 100 (by decide)
 have h3 := S140 l.2.2.1 100 (by decide)
 have h4 := S140 l.2.2.2 1000000 (by decide)
 have h78 := S78
 have h76 := fun a b=>@S76_2 a b
 unfold lnE
 by_cases g : (-100 ≤ l.1 ∧ l.1 ≤ 100) ∧ (-100 ≤ l.2.1 ∧ l.2.1 ≤ 100) ∧ (-100 ≤ l.2.2.1 ∧ l.2.2.1 ≤ 100) ∧ -1000000 ≤ l.2.2.2 ∧ l.2.2.2 ≤ 1000000
 ·rw [if_pos g]
  obtain ⟨g1,g2,g3,g4⟩ := g
  rw [show win l.2.2.2 (-1000000) 1000000 = true from decide_eq_true g4] at h4
  by_cases z : l.1 = 0 ∧ l.2.1 = 0 ∧ l.2.2.1 = 0
  ·rw [if_pos z]
   obtain ⟨z1,z2,z3⟩ := z
   refine sound (d := 2) tok2 mixed2 Tryz.func96 (by kernel_rfl) (by kernel_rfl) ?_
   (conv=>whnf); refine .inl ⟨_,_,byX rfl (Sound1.pl (h1) rfl),?_⟩
   (conv=>whnf); refine ifB_dec (fun w1=>?_) (fun w1=>?_)
   ·(conv=>whnf); refine .inl ⟨_,_,byX rfl (Sound1.pl (h2) rfl),?_⟩
    (conv=>whnf); refine ifB_dec (fun w2=>?_) (fun w2=>?_)
    ·(conv=>whnf); refine .inl ⟨_,_,byX rfl (Sound1.pl (h3) rfl),?_⟩
     (conv=>whnf); refine ifB_dec (fun w3=>?_) (fun w3=>?_)
     ·(conv=>whnf); refine .inl ⟨_,_,byX rfl (Sound1.pl (h4) rfl),?_⟩
      (conv=>whnf); refine ⟨[],by kernel_rfl,?_⟩
      (conv=>whnf); refine .inl ⟨_,_,byX rfl (Sound1.pl (h78 _ _) rfl),?_⟩
      (conv=>whnf); refine ifB_bne (fun w4=>?_) (fun w4=>?_)
      ·(exfalso; omega)
      ·(conv=>whnf); refine ifB_bne (fun w5=>?_) (fun w5=>?_)
       ·(exfalso; omega)
       ·(conv=>whnf); refine .inl ⟨_,_,byX rfl (Sound1.pl (h78 _ _) rfl),?_⟩
        (conv=>whnf); refine .inl ⟨_,_,byX rfl (Sound1.pl (h76 _ _ ⟨rfl,rfl⟩) rfl),?_⟩
        (conv=>whnf); refine ⟨?_,nofun⟩
        (first | contradiction | rfl | exact endi (by rw [show (l.2.2.1 != 0) = false from bne_eq_false_iff_eq.2 z3]; rfl))
     ·(exfalso; omega)
    ·(exfalso; omega)
   ·(exfalso; omega)
  ·rw [if_neg z]
   refine sound (d := 2) tok2 mixed2 Tryz.func96 (by kernel_rfl) (by kernel_rfl) ?_
   (conv=>whnf); refine .inl ⟨_,_,byX rfl (Sound1.pl (h1) rfl),?_⟩
   (conv=>whnf); refine ifB_dec (fun w1=>?_) (fun w1=>?_)
   ·(conv=>whnf); refine .inl ⟨_,_,byX rfl (Sound1.pl (h2) rfl),?_⟩
    (conv=>whnf); refine ifB_dec (fun w2=>?_) (fun w2=>?_)
    ·(conv=>whnf); refine .inl ⟨_,_,byX rfl (Sound1.pl (h3) rfl),?_⟩
     (conv=>whnf); refine ifB_dec (fun w3=>?_) (fun w3=>?_)
     ·(conv=>whnf); refine .inl ⟨_,_,byX rfl (Sound1.pl (h4) rfl),?_⟩
      (conv=>whnf); refine ⟨[],by kernel_rfl,?_⟩
      (conv=>whnf); refine .inl ⟨_,_,byX rfl (Sound1.pl (h78 _ _) rfl),?_⟩
      (conv=>whnf); refine ifB_bne (fun w4=>?_) (fun w4=>?_)
      ·(conv=>whnf); refine .inl ⟨_,_,byX rfl (Sound1.pl (h78 _ _) rfl),?_⟩
       (conv=>whnf); refine .inl ⟨_,_,byX rfl (Sound1.pl (h76 _ _ ⟨rfl,rfl⟩) rfl),?_⟩
       (conv=>whnf); refine ⟨?_,nofun⟩
       (first | contradiction | rfl | exact endi (by rw [show (l.2.2.1 != 0) = true from bne_iff_ne.2 (by omega)]; rfl))
      ·(conv=>whnf); refine ifB_bne (fun w5=>?_) (fun w5=>?_)
       ·(conv=>whnf); refine .inl ⟨_,_,byX rfl (Sound1.pl (h78 _ _) rfl),?_⟩
        (conv=>whnf); refine .inl ⟨_,_,byX rfl (Sound1.pl (h76 _ _ ⟨rfl,rfl⟩) rfl),?_⟩
        (conv=>whnf); refine ⟨?_,nofun⟩
        (first | contradiction | rfl | exact endi (by rw [show (l.2.2.1 != 0) = true from bne_iff_ne.2 (by omega)]; rfl))
       ·(conv=>whnf); refine .inl ⟨_,_,byX rfl (Sound1.pl (h78 _ _) rfl),?_⟩
        (conv=>whnf); refine .inl ⟨_,_,byX rfl (Sound1.pl (h76 _ _ ⟨rfl,rfl⟩) rfl),?_⟩
        (conv=>whnf); refine ⟨?_,nofun⟩
        (first | contradiction | rfl | exact endi (by rw [show (l.2.2.1 != 0) = true from bne_iff_ne.2 (by omega)]; rfl))
     ·(exfalso; omega)
    ·(exfalso; omega)
   ·(exfalso; omega)
 ·rw [if_neg g]
  refine sound (d := 2) tok2 mixed2 Tryz.func96 (by kernel_rfl) (by kernel_rfl) ?_
  (conv=>whnf); refine .inl ⟨_,_,byX rfl (Sound1.pl (h1) rfl),?_⟩
  (conv=>whnf); refine ifB_dec (fun w1=>?_) (fun w1=>?_)
  ·(conv=>whnf); refine .inl ⟨_,_,byX rfl (Sound1.pl (h2) rfl),?_⟩
   (conv=>whnf); refine ifB_dec (fun w2=>?_) (fun w2=>?_)
   ·(conv=>whnf); refine .inl ⟨_,_,byX rfl (Sound1.pl (h3) rfl),?_⟩
    (conv=>whnf); refine ifB_dec (fun w3=>?_) (fun w3=>?_)
    ·(conv=>whnf); refine .inl ⟨_,_,byX rfl (Sound1.pl (h4) rfl),?_⟩
     (conv=>whnf); refine ⟨[],by kernel_rfl,?_⟩
     (conv=>whnf); refine .inl ⟨_,_,byX rfl (Sound1.pl (h78 _ _) rfl),?_⟩
     (conv=>whnf); refine ifB_bne (fun w4=>?_) (fun w4=>?_)
     ·(conv=>whnf); refine .inl ⟨_,_,byX rfl (Sound1.pl (h78 _ _) rfl),?_⟩
      (conv=>whnf); refine .inl ⟨_,_,byX rfl (Sound1.pl (h76 _ _ ⟨rfl,rfl⟩) rfl),?_⟩
      (conv=>whnf); refine ⟨?_,nofun⟩
      (first | contradiction | rfl | exact endi (by rw [show win l.2.2.2 (-1000000) 1000000 = false from decide_eq_false (by omega)]; rfl))
     ·(conv=>whnf); refine ifB_bne (fun w5=>?_) (fun w5=>?_)
      ·(conv=>whnf); refine .inl ⟨_,_,byX rfl (Sound1.pl (h78 _ _) rfl),?_⟩
       (conv=>whnf); refine .inl ⟨_,_,byX rfl (Sound1.pl (h76 _ _ ⟨rfl,rfl⟩) rfl),?_⟩
       (conv=>whnf); refine ⟨?_,nofun⟩
       (first | contradiction | rfl | exact endi (by rw [show win l.2.2.2 (-1000000) 1000000 = false from decide_eq_false (by omega)]; rfl))
      ·(conv=>whnf); refine .inl ⟨_,_,byX rfl (Sound1.pl (h78 _ _) rfl),?_⟩
       (conv=>whnf); refine .inl ⟨_,_,byX rfl (Sound1.pl (h76 _ _ ⟨rfl,rfl⟩) rfl),?_⟩
       (conv=>whnf); refine ⟨?_,nofun⟩
       (first | contradiction | rfl | exact endi (by rw [show win l.2.2.2 (-1000000) 1000000 = false from decide_eq_false (by omega)]; rfl))
    ·(conv=>whnf); refine ⟨[],by kernel_rfl,?_⟩
     (conv=>whnf); refine .inl ⟨_,_,byX rfl (Sound1.pl (h78 _ _) rfl),?_⟩
     (conv=>whnf); refine ifB_bne (fun w4=>?_) (fun w4=>?_)
     ·(conv=>whnf); refine .inl ⟨_,_,byX rfl (Sound1.pl (h78 _ _) rfl),?_⟩
      (conv=>whnf); refine .inl ⟨_,_,byX rfl (Sound1.pl (h76 _ _ ⟨rfl,rfl⟩) rfl),?_⟩
      (conv=>whnf); refine ⟨?_,nofun⟩
      (first | contradiction | rfl | exact endi (by rw [show win l.2.2.2 (-1000000) 1000000 = false from decide_eq_false (by omega)]; rfl))
     ·(conv=>whnf); refine ifB_bne (fun w5=>?_) (fun w5=>?_)
      ·(conv=>whnf); refine .inl ⟨_,_,byX rfl (Sound1.pl (h78 _ _) rfl),?_⟩
       (conv=>whnf); refine .inl ⟨_,_,byX rfl (Sound1.pl (h76 _ _ ⟨rfl,rfl⟩) rfl),?_⟩
       (conv=>whnf); refine ⟨?_,nofun⟩
       (first | contradiction | rfl | exact endi (by rw [show win l.2.2.2 (-1000000) 1000000 = false from decide_eq_false (by omega)]; rfl))
      ·(conv=>whnf); refine .inl ⟨_,_,byX rfl (Sound1.pl (h78 _ _) rfl),?_⟩
       (conv=>whnf); refine .inl ⟨_,_,byX rfl (Sound1.pl (h76 _ _ ⟨rfl,rfl⟩) rfl),?_⟩
       (conv=>whnf); refine ⟨?_,nofun⟩
       (first | contradiction | rfl | exact endi (by rw [show win l.2.2.2 (-1000000) 1000000 = false from decide_eq_false (by omega)]; rfl))
   ·(conv=>whnf); refine ⟨[],by kernel_rfl,?_⟩
    (conv=>whnf); refine .inl ⟨_,_,byX rfl (Sound1.pl (h78 _ _) rfl),?_⟩
    (conv=>whnf); refine ifB_bne (fun w3=>?_) (fun w3=>?_)
    ·(conv=>whnf); refine .inl ⟨_,_,byX rfl (Sound1.pl (h78 _ _) rfl),?_⟩
     (conv=>whnf); refine .inl ⟨_,_,byX rfl (Sound1.pl (h76 _ _ ⟨rfl,rfl⟩) rfl),?_⟩
     (conv=>whnf); refine ⟨?_,nofun⟩
     (first | contradiction | rfl | exact endi (by rw [show win l.2.2.2 (-1000000) 1000000 = false from decide_eq_false (by omega)]; rfl))
    ·(conv=>whnf); refine ifB_bne (fun w4=>?_) (fun w4=>?_)
     ·(conv=>whnf); refine .inl ⟨_,_,byX rfl (Sound1.pl (h78 _ _) rfl),?_⟩
      (conv=>whnf); refine .inl ⟨_,_,byX rfl (Sound1.pl (h76 _ _ ⟨rfl,rfl⟩) rfl),?_⟩
      (conv=>whnf); refine ⟨?_,nofun⟩
      (first | contradiction | rfl | exact endi (by rw [show win l.2.2.2 (-1000000) 1000000 = false from decide_eq_false (by omega)]; rfl))
     ·(exfalso; omega)
  ·(conv=>whnf); refine ⟨[],by kernel_rfl,?_⟩
   (conv=>whnf); refine .inl ⟨_,_,byX rfl (Sound1.pl (h78 _ _) rfl),?_⟩
   (conv=>whnf); refine ifB_bne (fun w2=>?_) (fun w2=>?_)
   ·(conv=>whnf); refine .inl ⟨_,_,byX rfl (Sound1.pl (h78 _ _) rfl),?_⟩
    (conv=>whnf); refine .inl ⟨_,_,byX rfl (Sound1.pl (h76 _ _ ⟨rfl,rfl⟩) rfl),?_⟩
    (conv=>whnf); refine ⟨?_,nofun⟩
    (first | contradiction | rfl | exact endi (by rw [show win l.2.2.2 (-1000000) 1000000 = false from decide_eq_false (by omega)]; rfl))
   ·(exfalso; omega)
theorem rk_mil {x : Int} (hx : x.natAbs ≤ 1000000) : Rk 1 (x : Rat) := ⟨by rw [Rat.num_intCast]; exact digs_len 1 _ (Nat.lt_of_le_of_lt hx (by decide)),by rw [Rat.den_intCast]; exact digs_len 1 _ (by decide)⟩
end Go.Tr

/- Contracts of chapter 5: the reference's spots on a line; the law of lines. Conditions: none. -/
-- seat YtgbdlkajmmjahaaGreat
namespace Go.Tr
open Go Go.Proofs
set_option maxRecDepth 20000
set_option maxHeartbeats 8000000

structure QOk (Q : List Q3) (l : Ln) : Prop where
 len : Q.length ≤ 12
 rk : ∀ k,k < Q.length → R3k 1 (Q.getD k q0)
 side : ∀ k,k < Q.length → Rk 1 (sideQ l (Q.getD k q0))
 ne : ∀ k,k + 1 < Q.length → sgR (sideQ l (Q.getD k q0)) * sgR (sideQ l (Q.getD (k + 1) q0)) < 0 → sideQ l (Q.getD k q0) - sideQ l (Q.getD (k + 1) q0) ≠ 0
 part : ∀ k,k + 1 < Q.length → Rk 1 (sideQ l (Q.getD k q0) / (sideQ l (Q.getD k q0) - sideQ l (Q.getD (k + 1) q0)))
 on : ∀ k,k ≤ Q.length → ∀ q ∈ onQ Q l k,R3k 2 q
theorem sgR_mul {a b : Rat} (h : sgR a * sgR b < 0) : a - b ≠ 0 := fun e=>by
 have e : a = b := by grind
 subst e
 rcases sgR_cases a with ⟨_,g⟩ | ⟨_,g⟩ | ⟨_,g⟩ <;> rw [g] at h <;> exact absurd h (by decide)
theorem CvOk.q {N : List Nm} (hN : CvOk N) {l : Ln} (hl : LnOk l) : QOk (N.map nmQ) l := by
  have hg : ∀ k,k < N.length → (N.map nmQ).getD k q0 = nmQ (N.getD k n0) := fun k hk=>getD_mapG nmQ N k n0 q0 hk
  have hb : ∀ k,k < N.length → NmB 200 (N.getD k n0) := fun k hk=>hN.b _ (getD_memG hk)
  have z : ∀ x : Int,x.natAbs ≤ 880000000 → Zk 1 x := fun x hx=>Zk.small (Nat.lt_of_le_of_lt hx (by decide))
  have hs : ∀ k,k < N.length → sideQ l ((N.map nmQ).getD k q0) = Rat.divInt (sideN l (N.getD k n0)) (N.getD k n0).2 := fun k hk=>by
    rw [hg k hk,side_eq l (by have := (hb k hk).d; omega)]
  refine ⟨by rw [List.length_map]; exact hN.len,fun k hk=>?_,fun k hk=>?_,fun k hk h=>sgR_mul h,fun k hk=>?_,fun k hk q hq=>?_⟩
  · rw [List.length_map] at hk
    rw [hg k hk]
    exact (hb k hk).rk (Nat.lt_of_le_of_lt (show _ ≤ 2000000 by omega) (by decide))
  · rw [List.length_map] at hk
    have hbk := hb k hk
    rw [hs k hk]
    exact Rk.divI (by have := hbk.d; omega) (z _ (by have := (side_b hl hbk).2; omega)) (z _ (by have := hbk.d; omega))
  · rw [List.length_map] at hk
    have hb1 := hb k (by omega)
    have hb2 := hb (k + 1) hk
    have hd : (N.getD k n0).2 = (N.getD (k + 1) n0).2 := hN.d _ (getD_memG (by omega)) _ (getD_memG hk)
    rw [hs k (by omega),hs (k + 1) hk,← hd,frac_of_parts (by have := hb1.d; omega)]
    have s1 := (side_b hl hb1).2
    have s2 := (side_b hl hb2).2
    by_cases e : sideN l (N.getD k n0) - sideN l (N.getD (k + 1) n0) = 0
    · rw [e,Rat.divInt_zero]
      exact rk_mil (x := 0) (by decide)
    · exact Rk.divI e (z _ (by omega)) (z _ (by omega))
  · rw [List.length_map] at hk
    cases h : N with
    | nil => rw [h] at hk; have : k = 0 := by simpa using hk
             rw [this] at hq; cases hq
    | cons y r =>
      have hy : y ∈ N := by rw [h]; simp
      rw [← on_map N l (hN.b y hy).d.1 (fun n hn=>hN.d n hn y hy) k hk] at hq
      obtain ⟨n,hn,e⟩ := List.mem_map.1 hq
      rw [← e]
      exact (onN_ok hN hl k hk n hn).rk (Nat.lt_of_le_of_lt (show _ ≤ 1760000000000000 by decide) (by decide))
theorem onQ_len (Q : List Q3) (l : Ln) : ∀ k,(onQ Q l k).length ≤ 2 * k
 | 0=>Nat.le_refl _
 | k + 1=>by
  unfold onQ
  have := onQ_len Q l k
  rw [List.length_append,List.length_append]
  have h1 : (if sideQ l (Q.getD k q0) = 0 then [Q.getD k q0] else []).length ≤ 1 := by split <;> simp
  have h2 : (if k + 1 < Q.length ∧ sgR (sideQ l (Q.getD k q0)) * sgR (sideQ l (Q.getD (k + 1) q0)) < 0 then [mixQ (Q.getD k q0) (Q.getD (k + 1) q0) (sideQ l (Q.getD k q0) / (sideQ l (Q.getD k q0) - sideQ l (Q.getD (k + 1) q0)))] else []).length ≤ 1 := by split <;> simp
  omega
theorem putL_len (l : List Q3) (x : Q3) : (putL lt3 l x).length ≤ l.length + 1 := by
 induction l with
 | nil=>simp [putL]
 | cons y l ih =>
  unfold putL
  split
  ·simpa using ih
  ·split <;> simp
theorem putAll_len (l : List Q3) : (putAll lt3 l).length ≤ l.length := by
 induction l using snoc_ind with
 | h0=>exact Nat.le_refl _
 | hs l x ih =>
  rw [putAll_snoc]
  have := putL_len (putAll lt3 l) x
  rw [List.length_append]
  simp
  omega
end Go.Tr

/- Contracts of chapter 5: spots on lines, operating points, runaway. Conditions: none. -/
-- seat YtgbdlkajmmjahaaGreat
namespace Go.Tr
open Go Go.Proofs
set_option maxRecDepth 20000
set_option maxHeartbeats 8000000

def soE (t : List MRow) (f : Int × Int) (l : Ln) : Int := if ocE t f ≠ 0 then ocE t f else lnE l
theorem soE_ok {t : List MRow} {f : Int × Int} {l : Ln} (h : soE t f l = 0) : ocE t f = 0 ∧ lnE l = 0 := by
 unfold soE at h
 by_cases h1 : ocE t f = 0
 ·rw [if_neg (not_not_intro h1)] at h; exact ⟨h1,h⟩
 ·rw [if_pos h1] at h; exact absurd h h1
theorem S79c {t : List MRow} {f : Int × Int} (hT : TblOk t) (hO : OpOk t f) {l : Ln} (hl : LnOk l) : SP 79 [nms (crvN t f),lnA l] (.tuple [sps (slL (crvQ t f) l),i64 (slE (crvQ t f) l)]) false := by
  have h := S79 (crvN t f) l (crv_ok hT hO) hl
  rwa [crv_map hT hO] at h
theorem S33 (t : List MRow) (ht : Fit t) (f : Int × Int) (hf : FrI f) (l : Ln) : SP 33 [tblA t,gaF f,lnA l] (.tuple [sps (if soE t f l = 0 then slL (crvQ t f) l else []),i64 (if soE t f l = 0 then slE (crvQ t f) l else soE t f l)]) false := by
 have h74 := S74 t ht f hf
 have h96 := S96 l
 have h76 := @S76_2 (ocE t f) (lnE l)
 rw [first2] at h76
 change ∀ {f' : Nat → List AV},_ → SP 76 _ (i64 (soE t f l)) false at h76
 by_cases h0 : soE t f l = 0
 ·obtain ⟨h1,h2⟩ := soE_ok h0
  obtain ⟨hT,_,hO⟩ := ocE_ok h1
  have h79 := S79c hT hO (lnE_ok h2)
  rw [h0] at h76
  unfold ocL at h74
  rw [if_pos h1] at h74
  rw [if_pos h0,if_pos h0]
  refine sound (d := 2) tok2 mixed2 Tryz.func33 (by kernel_rfl) (by kernel_rfl) ?_
  (conv=>whnf); refine .inl ⟨_,_,byX rfl (h74),?_⟩
  (conv=>whnf); refine .inl ⟨_,_,byX rfl (Sound1.pl (h96) rfl),?_⟩
  (conv=>whnf); refine .inl ⟨_,_,byX rfl (Sound1.pl (h76 ⟨rfl,rfl⟩) rfl),?_⟩
  (conv=>whnf); refine .inl ⟨_,_,byX rfl (h79),?_⟩
  (conv=>whnf); refine ⟨?_,nofun⟩
  exact ave_tup2 ⟨rfl,rfl,fun _ _=>rfl⟩ rfl
 ·rw [if_neg h0,if_neg h0]
  refine sound (d := 2) tok2 mixed2 Tryz.func33 (by kernel_rfl) (by kernel_rfl) ?_
  (conv=>whnf); refine .inl ⟨_,_,byX rfl (h74),?_⟩
  (conv=>whnf); refine .inl ⟨_,_,byX rfl (Sound1.pl (h96) rfl),?_⟩
  (conv=>whnf); refine .inl ⟨_,_,byX rfl (Sound1.pl (h76 ⟨rfl,rfl⟩) rfl),?_⟩
  (conv=>whnf); refine ifB_bne (fun w1=>?_) (fun w1=>?_)
  ·(conv=>whnf); refine ⟨?_,nofun⟩
   exact ave_tup2 rfl rfl
  ·(exfalso; omega)
def szE (n : Int) : Int := if -1000 ≤ n ∧ n ≤ 1000 then 0 else 2
def badI : List Int → Nat → Int
  | [],_=>-1
  | x :: r,k=>if -1000 ≤ x ∧ x ≤ 1000 then badI r (k + 1) else (k : Int)
theorem badI_drop (l : List Int) (k : Nat) (h : k < l.length) : badI (l.drop k) k = if -1000 ≤ l.getD k 0 ∧ l.getD k 0 ≤ 1000 then badI (l.drop (k + 1)) (k + 1) else (k : Int) := by
  rw [List.drop_eq_getElem_cons h]
  simp [badI,List.getD_eq_getElem?_getD,h]
theorem S139 (n : Int) : SP 139 [i64 n] (vb (!win n (-1000) 1000)) false := by
 have h := S140 n 1000 (by decide)
 refine sound (d := 2) tok2 mixed2 Tryz.func139 (by kernel_rfl) (by kernel_rfl) ?_
 (conv=>whnf); refine .inl ⟨_,_,byX rfl (Sound1.pl (h) rfl),?_⟩
 (conv=>whnf); refine ⟨?_,nofun⟩
 (first | contradiction | rfl)
theorem S170 (l : List Int) (hl : l.length ≤ 1000) : SP 170 [ints l,.func (.func 139) 0 []] (i64 (badI l 0)) false := by
 refine sound (d := 2) tok2 mixed2 Tryz.func170 (by kernel_rfl) (by kernel_rfl) ?_
 (conv=>whnf); refine ⟨[],[0,1,7,8],fun st mq=>∃ (k : Nat),(k ≤ l.length) ∧ (badI (l.drop k) k = badI l 0) ∧ st = ⟨[(0,ints l),(1,.func (.func 139) 0 []),(7,i64 l.length),(8,i64 k)],⟨[],[],none,0⟩,[]⟩ ∧ mq = l.length - k,
  ⟨_,_,⟨0,by omega,rfl,rfl,rfl⟩,⟨⟨.inl rfl,rfl,rfl,rfl⟩,trivial,trivial⟩⟩,?_⟩
 rintro s0 m0 ⟨k,hk,he,rfl,hmeas⟩
 by_cases hlt : k < l.length
 ·have hd := badI_drop l k hlt
  have c1 := S139 (l.getD k 0)
  unfold win at c1
  by_cases g : -1000 ≤ l.getD k 0 ∧ l.getD k 0 ≤ 1000
  ·rw [if_pos g] at hd
   rw [decide_eq_true g] at c1
   conv=>whnf
   (conv=>whnf); refine ifB_dec (fun w1=>?_) (fun w1=>?_)
   ·conv=>whnf
    (conv=>whnf); refine ⟨⟨(by omega),(by omega)⟩,?_⟩
    conv=>whnf
    (conv=>whnf); refine .inl ⟨_,_,byX rfl (Sound1.pl (c1) rfl),?_⟩
    conv=>whnf
    (conv=>whnf); refine ⟨inK64 (by omega) (by omega),?_⟩
    conv=>whnf
    (conv=>whnf); refine ⟨_,_,⟨⟨k + 1,by omega,hd.symm.trans he,rfl,rfl⟩,by omega⟩,⟨⟨.inl rfl,rfl,rfl,rfl⟩,trivial,trivial⟩⟩
   ·(exfalso; omega)
  ·rw [if_neg g] at hd
   rw [decide_eq_false g] at c1
   conv=>whnf
   (conv=>whnf); refine ifB_dec (fun w1=>?_) (fun w1=>?_)
   ·conv=>whnf
    (conv=>whnf); refine ⟨⟨(by omega),(by omega)⟩,?_⟩
    conv=>whnf
    (conv=>whnf); refine .inl ⟨_,_,byX rfl (Sound1.pl (c1) rfl),?_⟩
    conv=>whnf
    (conv=>whnf); refine ⟨?_,nofun⟩
    exact endi (hd.symm.trans he)
   ·(exfalso; omega)
 ·obtain rfl : k = l.length := by omega
  rw [List.drop_length] at he
  conv=>whnf
  (conv=>whnf); refine ifB_dec (fun w1=>?_) (fun w1=>?_)
  ·(exfalso; omega)
  ·conv=>whnf
   (conv=>whnf); refine ⟨?_,nofun⟩
   exact endi he
theorem S138 (l : List Int) (hl : l.length ≤ 1000) : SP 138 [ints l,.func (.func 139) 0 []] (vb (decide (badI l 0 ≥ 0))) false := by
 have h := S170 l hl
 refine sound (d := 2) tok2 mixed2 Tryz.func138 (by kernel_rfl) (by kernel_rfl) ?_
 (conv=>whnf); refine .inl ⟨_,_,byX rfl (Sound1.pl (h) rfl),?_⟩
 (conv=>whnf); refine ⟨?_,nofun⟩
 (first | contradiction | rfl)
theorem S77 (l : List Int) (hl : l.length ≤ 1000) : SP 77 [ints l] (i64 (if badI l 0 ≥ 0 then 2 else 0)) false := by
 have h := S138 l hl
 have h78 := S78
 by_cases g : badI l 0 ≥ 0
 ·rw [decide_eq_true g] at h
  rw [if_pos g]
  refine sound (d := 2) tok2 mixed2 Tryz.func77 (by kernel_rfl) (by kernel_rfl) ?_
  (conv=>whnf); refine .inl ⟨_,_,byX rfl (Sound1.pl (h) rfl),?_⟩
  (conv=>whnf); refine .inl ⟨_,_,byX rfl (Sound1.pl (h78 _ _) rfl),?_⟩
  (conv=>whnf); refine ⟨?_,nofun⟩
  (first | contradiction | rfl)
 ·rw [decide_eq_false g] at h
  rw [if_neg g]
  refine sound (d := 2) tok2 mixed2 Tryz.func77 (by kernel_rfl) (by kernel_rfl) ?_
  (conv=>whnf); refine .inl ⟨_,_,byX rfl (Sound1.pl (h) rfl),?_⟩
  (conv=>whnf); refine .inl ⟨_,_,byX rfl (Sound1.pl (h78 _ _) rfl),?_⟩
  (conv=>whnf); refine ⟨?_,nofun⟩
  (first | contradiction | rfl)
theorem S77_1 (a : Int) {f : Nat → List AV} (h : f 0 = [i64 a]) : SP 77 [.rslice 1 1 f] (i64 (szE a)) false := by
 have key : ∀ i,i < 1 → f i = [i64 (([a] : List Int).getD i 0)] := fun i hi=>by
  match i,hi with
  | 0,_=>exact h
 have e : (if badI [a] 0 ≥ 0 then (2 : Int) else 0) = szE a := by
  unfold szE badI badI
  by_cases g : -1000 ≤ a ∧ a ≤ 1000
  ·rw [if_pos g,if_pos g]; rfl
  ·rw [if_neg g,if_neg g]; rfl
 have h77 := S77 [a] (by simp)
 rw [e] at h77
 refine h77.argsD rfl fun i y x hy hx=>?_
 match i,hy,hx with
 | 0,hy,hx=>cases hy; cases hx; exact .inr ⟨1,AVF_rows rfl key 0⟩
theorem S77_2 (a b : Int) {f : Nat → List AV} (h : f 0 = [i64 a] ∧ f 1 = [i64 b]) : SP 77 [.rslice 1 2 f] (i64 (if szE a ≠ 0 then szE a else szE b)) false := by
 have key : ∀ i,i < 2 → f i = [i64 (([a,b] : List Int).getD i 0)] := fun i hi=>by
  match i,hi with
  | 0,_=>exact h.1
  | 1,_=>exact h.2
 have e : (if badI [a,b] 0 ≥ 0 then (2 : Int) else 0) = if szE a ≠ 0 then szE a else szE b := by
  unfold szE badI badI badI
  by_cases g : -1000 ≤ a ∧ a ≤ 1000
  ·rw [if_pos g,if_pos g]
   by_cases g2 : -1000 ≤ b ∧ b ≤ 1000
   ·rw [if_pos g2,if_pos g2]; rfl
   ·rw [if_neg g2,if_neg g2]; rfl
  ·rw [if_neg g,if_neg g]; rfl
 have h77 := S77 [a,b] (by simp)
 rw [e] at h77
 refine h77.argsD rfl fun i y x hy hx=>?_
 match i,hy,hx with
 | 0,hy,hx=>cases hy; cases hx; exact .inr ⟨1,AVF_rows rfl key 0⟩
theorem ave_ln {k : Nat} {l : Ln} : AVE (k + 2) (lnA l) (lnA l) := ave_aggR (by simp [AV.atom])
end Go.Tr

/- Plain laws of chapter 5: what lies on a line; flows at a head. Conditions: none. -/
-- seat YtgbdlkajmmjahaaGreat
namespace Go.Tr
open Go Go.Proofs
set_option maxRecDepth 20000
set_option maxHeartbeats 8000000

theorem side_mix (l : Ln) (a b : Q3) (t : Rat) : sideQ l (mixQ a b t) = sideQ l a + t * (sideQ l b - sideQ l a) := by
  unfold sideQ mixQ mix1
  grind
theorem on_side {Q : List Q3} {l : Ln} : ∀ k,∀ q ∈ onQ Q l k,sideQ l q = 0
 | 0,q,h=>by cases h
 | k + 1, q, h => by
  unfold onQ at h
  rcases List.mem_append.1 h with h | h
  ·exact on_side k q h
  ·rcases List.mem_append.1 h with h | h
   ·split at h
    ·rename_i hz
     rw [List.mem_singleton.1 h]; exact hz
    ·cases h
   ·split at h
    ·rename_i hz
     have hne := sgR_mul hz.2
     rw [List.mem_singleton.1 h,side_mix]
     generalize sideQ l (Q.getD k q0) = x at *
     generalize sideQ l (Q.getD (k + 1) q0) = y at *
     have h1 := Rat.mul_inv_cancel (x - y) hne
     rw [Rat.div_def]
     grind
    ·cases h
def hdL (h : Int) : Ln := (1,0,0,h)
theorem hdL_side {h : Int} {q : Q3} (hz : sideQ (hdL h) q = 0) : q.1 = (h : Rat) := by
 unfold sideQ hdL at hz
 dsimp only at hz
 simp only [Rat.intCast_zero,Rat.mul_zero,Rat.add_zero] at hz
 grind
theorem hdL_ok {h : Int} (hs : szE h = 0) : LnOk (hdL h) := by
 unfold szE at hs
 unfold LnOk hdL
 dsimp only
 split at hs
 ·omega
 ·exact absurd hs (by decide)
abbrev ltR (a b : Rat) : Prop := a < b
instance : DecidableRel ltR := fun a b=>inferInstanceAs (Decidable (a < b))
abbrev leR (a b : Rat) : Prop := ¬ b < a
theorem lt3_flow {a b : Q3} (h : lt3 a b) (he : a.1 = b.1) : leR a.2.1 b.2.1 := fun g=>by
 unfold lt3 lt2 at h
 rcases h with h | ⟨_,h | ⟨h,_⟩⟩
 ·rw [he] at h; exact rlt_irr _ h
 ·exact rlt_irr _ (rlt_tr g h)
 ·rw [h] at g; exact rlt_irr _ g
end Go.Tr

/- Plain laws of chapter 5: the powers around a triangle; the greatest of numbers. Conditions: none. -/
-- seat YtgbdlkajmmjahaaGreat
namespace Go.Tr
open Go Go.Proofs
set_option maxRecDepth 20000
set_option maxHeartbeats 8000000

def stO (o : Option Rat) (p : Rat) : Option Rat := match o with | none=>some p | some b=>if b < p then some p else some b
def mxO (o : Option Rat) (L : List Rat) : Option Rat := L.foldl stO o
theorem mxO_take (o : Option Rat) (L : List Rat) (j : Nat) (h : j < L.length) : mxO o (L.take (j + 1)) = stO (mxO o (L.take j)) (L.getD j 0) := by
  unfold mxO
  rw [take_succG (d := (0 : Rat)) h,List.foldl_append]; rfl
theorem mxO_app (o : Option Rat) (L M : List Rat) : mxO o (L ++ M) = mxO (mxO o L) M := by unfold mxO; rw [List.foldl_append]
structure IsMx (o : Option Rat) (L : List Rat) : Prop where
 none : o = none ↔ L = []
 mem : ∀ m,o = some m → m ∈ L
 top : ∀ m,o = some m → ∀ x ∈ L,¬ m < x
theorem IsMx.uniq {o o' : Option Rat} {L M : List Rat} (h : IsMx o L) (h' : IsMx o' M) (hm : ∀ x,x ∈ L ↔ x ∈ M) : o = o' := by
 cases o with
 | none =>
  have hL := h.none.1 rfl
  have hM : M = [] := List.eq_nil_iff_forall_not_mem.2 fun x hx=>by
   have := (hm x).2 hx
   rw [hL] at this; cases this
  exact (h'.none.2 hM).symm
 | some m =>
  cases o' with
  | none =>
   have hM := h'.none.1 rfl
   have := (hm m).1 (h.mem m rfl)
   rw [hM] at this; cases this
  | some m' =>
   have h1 := h.top m rfl m' ((hm m').2 (h'.mem m' rfl))
   have h2 := h'.top m' rfl m ((hm m).1 (h.mem m rfl))
   rcases rlt_tri m m' with g | g | g
   ·exact absurd g h1
   ·rw [g]
   ·exact absurd g h2
theorem mx_is (L : List Rat) : IsMx (mxO none L) L := by
 induction L using snoc_ind with
 | h0=>exact ⟨⟨fun _=>rfl,fun _=>rfl⟩,(fun m h=>by cases h),(fun m h=>by cases h)⟩
 | hs l x ih =>
  have e : mxO none (l ++ [x]) = stO (mxO none l) x := by rw [mxO_app]; rfl
  rw [e]
  cases ho : mxO none l with
  | none =>
   have hl := ih.none.1 ho
   subst hl
   refine ⟨⟨(fun h=>by cases h),(fun h=>by simp at h)⟩,fun m h=>?_,fun m h y hy=>?_⟩
   ·cases h; simp
   ·cases h
    have : y = x := by simpa using hy
    rw [this]; exact rlt_irr _
  | some b =>
   have hb := ih.mem b ho
   have ht := ih.top b ho
   have e2 : stO (some b) x = if b < x then some x else some b := rfl
   rw [e2]
   by_cases g : b < x
   ·rw [if_pos g]
    refine ⟨⟨(fun h=>by cases h),(fun h=>by simp at h)⟩,fun m h=>?_,fun m h y hy=>?_⟩
    ·cases h; simp
    ·cases h
     rcases List.mem_append.1 hy with hy | hy
     ·intro h2; exact ht y hy (rlt_tr g h2)
     ·rw [List.mem_singleton.1 hy]; exact rlt_irr _
   ·rw [if_neg g]
    refine ⟨⟨(fun h=>by cases h),(fun h=>by simp at h)⟩,fun m h=>?_,fun m h y hy=>?_⟩
    ·cases h; exact List.mem_append_left _ hb
    ·cases h
     rcases List.mem_append.1 hy with hy | hy
     ·exact ht y hy
     ·rw [List.mem_singleton.1 hy]; exact g
def arnd (x : Tri) : List Nm := [(x.1.1,1),(x.2.1.1,1),(x.2.2.1,1),(x.1.1,1)]
def TriP (x : Tri) : Prop := PtOk x.1.1 ∧ PtOk x.2.1.1 ∧ PtOk x.2.2.1
theorem nm1_ok {p : P3} (h : PtOk p) : NmB 200 (p,1) := by
  unfold PtOk at h
  exact ⟨⟨by show (0 : Int) < 1; decide,by show (1 : Int) ≤ 200; decide⟩,by show -(1000 * 1) ≤ p.1 ∧ p.1 ≤ 1000 * 1; omega,by show -(1000 * 1) ≤ p.2.1 ∧ p.2.1 ≤ 1000 * 1; omega,by show -(10000 * 1) ≤ p.2.2 ∧ p.2.2 ≤ 10000 * 1; omega⟩
theorem arnd_ok {x : Tri} (h : TriP x) : CvOk (arnd x) := by
 refine ⟨by show 4 ≤ 12; decide,fun n hn=>?_,fun n hn m hm=>?_⟩
 ·simp only [arnd,List.mem_cons,List.not_mem_nil,or_false] at hn
  rcases hn with e | e | e | e <;> rw [e]
  ·exact nm1_ok h.1
  ·exact nm1_ok h.2.1
  ·exact nm1_ok h.2.2
  ·exact nm1_ok h.1
 ·simp only [arnd,List.mem_cons,List.not_mem_nil,or_false] at hn hm
  rcases hn with e | e | e | e <;> rcases hm with g | g | g | g <;> rw [e,g]
def One (L : List Nm) : Prop := ∀ n ∈ L,n.2 = 1 ∧ NmB 200 n
theorem one_on {L : List Nm} (hL : One L) {h : Int} (hs : -1000 ≤ h ∧ h ≤ 1000) : ∀ k,k ≤ L.length → ∀ n ∈ onN L (hdL h) k,NmB 4000 n
 | 0,_,n,hn=>by cases hn
 | k + 1, hk, n, hn => by
  have g1 := hL _ (getD_memG (d := n0) (show k < L.length by omega))
  unfold onN at hn
  rcases List.mem_append.1 hn with hn | hn
  ·exact one_on hL hs k (by omega) n hn
  ·rcases List.mem_append.1 hn with hn | hn
   ·split at hn
    ·rw [List.mem_singleton.1 hn]; exact g1.2.mono (by decide)
    ·cases hn
   ·split at hn
    ·rename_i hc
     have g2 := hL _ (getD_memG (d := n0) hc.1)
     rw [List.mem_singleton.1 hn]
     have b1 := g1.2.h
     have b2 := g2.2.h
     rw [g1.1] at b1
     rw [g2.1] at b2
     refine crsN_b g1.2 g2.2 (g1.1.trans g2.1.symm) hc.2 ?_
     rw [g1.1,Int.one_mul]
     unfold sideN hdL
     dsimp only
     rw [g1.1,g2.1]
     omega
    ·cases hn
theorem arnd_one {x : Tri} (h : TriP x) : One (arnd x) := fun n hn=>by
 refine ⟨?_,(arnd_ok h).b n hn⟩
 simp only [arnd,List.mem_cons,List.not_mem_nil,or_false] at hn
 rcases hn with e | e | e | e <;> rw [e]
theorem smR_of {a b : Int} (ha : -1000000000 ≤ a ∧ a ≤ 1000000000) (hb : 0 < b ∧ b ≤ 1000000000) : smR (Rat.divInt a b) := by
 have hf := frac_eq (a := a) hb.1
 have h1 : a.tdiv (gcdI a b) = (Rat.divInt a b).num := congrArg Prod.fst hf
 have h2 : b.tdiv (gcdI a b) = ((Rat.divInt a b).den : Nat) := congrArg Prod.snd hf
 have b1 : ((a.tdiv (gcdI a b)).natAbs) ≤ a.natAbs := Int.natAbs_tdiv_le_natAbs _ _
 have b2 : ((b.tdiv (gcdI a b)).natAbs) ≤ b.natAbs := Int.natAbs_tdiv_le_natAbs _ _
 unfold smR
 omega
theorem nm_pow {n : Nm} (h : NmB 4000 n) : smR (nmQ n).2.2 := by
 have := h.d
 have := h.w
 exact smR_of (by omega) (by omega)
def pws (h : Int) (x : Tri) : List Rat := (onL (arnd x) (hdL h)).map fun n=>(nmQ n).2.2
theorem pws_sm {h : Int} (hs : -1000 ≤ h ∧ h ≤ 1000) {x : Tri} (hx : TriP x) : ∀ p ∈ pws h x,smR p := fun p hp=>by
 obtain ⟨n,hn,e⟩ := List.mem_map.1 hp
 rw [← e]
 exact nm_pow (one_on (arnd_one hx) hs _ (Nat.le_refl _) n hn)
def mxT (h : Int) (o : Option Rat) (L : List Tri) : Option Rat := L.foldl (fun o x=>mxO o (pws h x)) o
theorem mxT_app (h : Int) (o : Option Rat) (L M : List Tri) : mxT h o (L ++ M) = mxT h (mxT h o L) M := by unfold mxT; rw [List.foldl_append]
theorem mxT_flat (h : Int) : ∀ (L : List Tri) (o : Option Rat),mxT h o L = mxO o (L.flatMap (pws h))
 | [],_=>rfl
 | x :: r,o=>by
  show mxT h (mxO o (pws h x)) r = _
  rw [mxT_flat h r,List.flatMap_cons,mxO_app]
theorem mx_sm {o : Option Rat} {L : List Rat} (ho : ∀ m,o = some m → smR m) (hL : ∀ p ∈ L,smR p) : ∀ m,mxO o L = some m → smR m := by
 induction L using snoc_ind with
 | h0=>exact ho
 | hs l x ih =>
  intro m hm
  rw [mxO_app] at hm
  have ih := ih fun p hp=>hL p (by simp [hp])
  have hx := hL x (by simp)
  have hm : stO (mxO o l) x = some m := hm
  cases hq : mxO o l with
  | none=>rw [hq] at hm; cases hm; exact hx
  | some b =>
   rw [hq] at hm
   have e2 : stO (some b) x = if b < x then some x else some b := rfl
   rw [e2] at hm
   split at hm
   ·cases hm; exact hx
   ·cases hm; exact ih _ hq
def frO (o : Option Rat) : Int × Int := match o with | none=>(0,0) | some q=>frI q
end Go.Tr

/- Contracts of chapter 5: flows at a head, points of runaway. Conditions: none. -/
-- seat YtgbdlkajmmjahaaGreat
namespace Go.Tr
open Go Go.Proofs
set_option maxRecDepth 20000
set_option maxHeartbeats 8000000

theorem S91 (h : Int) : SP 91 [i64 h] (lnA (hdL h)) false := by
 refine sound (d := 2) tok2 mixed2 Tryz.func91 (by kernel_rfl) (by kernel_rfl) ?_
 (conv=>whnf); refine ⟨?_,nofun⟩
 (first | contradiction | exact ave_ln (l := hdL h))
theorem S31 (h : Int) : SP 31 [i64 h] (lnA (hdL h)) false := by
 refine sound (d := 2) tok2 mixed2 Tryz.func31 (by kernel_rfl) (by kernel_rfl) ?_
 (conv=>whnf); refine ⟨?_,nofun⟩
 (first | contradiction | exact ave_ln (l := hdL h))
end Go.Tr

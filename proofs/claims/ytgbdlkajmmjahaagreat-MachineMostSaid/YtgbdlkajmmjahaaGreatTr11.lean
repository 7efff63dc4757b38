/- Contracts of chapter 5: spots compared and sorted; spots on a line. Conditions: none. -/
import Derived.Test.YtgbdlkajmmjahaaGreatTr10
set_option linter.unusedSectionVars false
set_option linter.unnecessarySimpa false
set_option linter.unusedVariables false
set_option linter.unusedSimpArgs false

-- seat YtgbdlkajmmjahaaGreat
namespace Go.Tr
open Go Go.Proofs
set_option maxRecDepth 20000
set_option maxHeartbeats 8000000

theorem S157 (x : Int) : SP 157 [i64 x] (vb false) false := by
 refine sound (d := 2) tok2 mixed2 Tryz.func157 (by kernel_rfl) (by kernel_rfl) ?_
 (conv=>whnf); refine ⟨?_,nofun⟩
 exact endb (by simp)
theorem S105 (a b : Int) : SP 105 [i64 a,i64 b] (i64 (sgI (a - b))) false := by
 have h1 := S157 a
 have h2 := S157 b
 refine sound (d := 2) tok2 mixed2 Tryz.func105 (by kernel_rfl) (by kernel_rfl) ?_
 (conv=>whnf); refine .inl ⟨_,_,byX rfl (Sound1.pl (h1) rfl),?_⟩
 (conv=>whnf); refine .inl ⟨_,_,byX rfl (Sound1.pl (h2) rfl),?_⟩
 (conv=>whnf); refine ifB_dec (fun w1=>?_) (fun w1=>?_)
 ·(conv=>whnf); refine ⟨?_,nofun⟩
  exact endi (sg_neg (by omega)).symm
 ·(conv=>whnf); refine ifB_dec (fun w2=>?_) (fun w2=>?_)
  ·(conv=>whnf); refine ⟨?_,nofun⟩
   exact endi (sg_pos (by omega)).symm
  ·(conv=>whnf); refine ⟨?_,nofun⟩
   exact endi (by rw [show a - b = 0 by omega]; rfl)
theorem S94 (p q : Rat) (hp : smR p) (hq : smR q) : SP 94 [gaF (frI p),gaF (frI q)] (i64 (cmpR p q)) false := by
 have h := S105 (p.num * (q.den : Nat)) (q.num * (p.den : Nat))
 unfold smR at hp hq
 have e0 : cmpR p q = sgI ((frI p).1 * (frI q).2 - (frI q).1 * (frI p).2) := rfl
 have m1 := absM (a := p.num) (b := (q.den : Nat)) (A := 1000000000) (B := 1000000000) (by omega) (by omega)
 have m2 := absM (a := q.num) (b := (p.den : Nat)) (A := 1000000000) (B := 1000000000) (by omega) (by omega)
 have i1 : inK .i64 ((frI p).1 * (frI q).2) := inK_of (by show _ ≤ p.num * (q.den : Nat) ∧ p.num * (q.den : Nat) ≤ _; omega)
 have i2 : inK .i64 ((frI q).1 * (frI p).2) := inK_of (by show _ ≤ q.num * (p.den : Nat) ∧ q.num * (p.den : Nat) ≤ _; omega)
 rw [e0]
 refine sound (d := 2) tok2 mixed2 Tryz.func94 (by kernel_rfl) (by kernel_rfl) ?_
 (conv=>whnf); refine ⟨by assumption,?_⟩
 (conv=>whnf); refine ⟨by assumption,?_⟩
 (conv=>whnf); refine .inl ⟨_,_,byX rfl (Sound1.pl (h) rfl),?_⟩
 (conv=>whnf); refine ⟨?_,nofun⟩
 (first | contradiction | rfl)
theorem S153 (n : Nat) (h : n ≤ 12) : ∃ r,SP 153 [.val (.int .u64 n)] (i64 r) false := by
 have : n = 0 ∨ n = 1 ∨ n = 2 ∨ n = 3 ∨ n = 4 ∨ n = 5 ∨ n = 6 ∨ n = 7 ∨ n = 8 ∨ n = 9 ∨ n = 10 ∨ n = 11 ∨ n = 12 := by omega
 rcases this with rfl | rfl | rfl | rfl | rfl | rfl | rfl | rfl | rfl | rfl | rfl | rfl | rfl
 ·exact ⟨_,run_ok mixed2 (l := []) (by simp) 1000 60 (y := i64 0) (by kernel_rfl)⟩
 ·exact ⟨_,run_ok mixed2 (l := []) (by simp) 1000 60 (y := i64 1) (by kernel_rfl)⟩
 ·exact ⟨_,run_ok mixed2 (l := []) (by simp) 1000 60 (y := i64 2) (by kernel_rfl)⟩
 ·exact ⟨_,run_ok mixed2 (l := []) (by simp) 1000 60 (y := i64 2) (by kernel_rfl)⟩
 ·exact ⟨_,run_ok mixed2 (l := []) (by simp) 1000 60 (y := i64 3) (by kernel_rfl)⟩
 ·exact ⟨_,run_ok mixed2 (l := []) (by simp) 1000 60 (y := i64 3) (by kernel_rfl)⟩
 ·exact ⟨_,run_ok mixed2 (l := []) (by simp) 1000 60 (y := i64 3) (by kernel_rfl)⟩
 ·exact ⟨_,run_ok mixed2 (l := []) (by simp) 1000 60 (y := i64 3) (by kernel_rfl)⟩
 ·exact ⟨_,run_ok mixed2 (l := []) (by simp) 1000 60 (y := i64 4) (by kernel_rfl)⟩
 ·exact ⟨_,run_ok mixed2 (l := []) (by simp) 1000 60 (y := i64 4) (by kernel_rfl)⟩
 ·exact ⟨_,run_ok mixed2 (l := []) (by simp) 1000 60 (y := i64 4) (by kernel_rfl)⟩
 ·exact ⟨_,run_ok mixed2 (l := []) (by simp) 1000 60 (y := i64 4) (by kernel_rfl)⟩
 ·exact ⟨_,run_ok mixed2 (l := []) (by simp) 1000 60 (y := i64 4) (by kernel_rfl)⟩
theorem u64_in {n : Nat} (h : n ≤ 12) : inK .u64 (n : Int) := ⟨by
 have : IntKind.min .u64 = 0 := by decide
 omega,by
 have : IntKind.max .u64 = 18446744073709551615 := by decide
 omega⟩
end Go.Tr

/- Contracts of chapter 5: lines; the reference's spots on a line. Conditions: none. -/
-- seat YtgbdlkajmmjahaaGreat
namespace Go.Tr
open Go Go.Proofs
set_option maxRecDepth 20000
set_option maxHeartbeats 8000000

theorem rk_mil {x : Int} (hx : x.natAbs ≤ 1000000) : Rk 1 (x : Rat) := ⟨by rw [Rat.num_intCast]; exact digs_len 1 _ (Nat.lt_of_le_of_lt hx (by decide)),by rw [Rat.den_intCast]; exact digs_len 1 _ (by decide)⟩
theorem S49 (q : Q3) (l : Ln) (hq : R3k 1 q) (hl : LnOk l) : SP 49 [bgA q,lnA l] (rA (sideQ l q)) false := by
 unfold LnOk at hl
 have a1 := S86 l.1 (by omega)
 have a2 := S86 l.2.1 (by omega)
 have a3 := S86 l.2.2.1 (by omega)
 have a4 := S86 l.2.2.2 (by omega)
 have r1 := rk_mil (x := l.1) (by omega)
 have r2 := rk_mil (x := l.2.1) (by omega)
 have r3 := rk_mil (x := l.2.2.1) (by omega)
 have r4 := rk_mil (x := l.2.2.2) (by omega)
 have m1 := S121 q.1 l.1 hq.1 r1 (by omega)
 have m2 := S121 q.2.1 l.2.1 hq.2.1 r2 (by omega)
 have m3 := S121 q.2.2 l.2.2.1 hq.2.2 r3 (by omega)
 have k1 := hq.1.mul r1
 have k2 := hq.2.1.mul r2
 have k3 := hq.2.2.mul r3
 have s1 := S122 _ _ k1 k2 (by omega)
 have s2 := S122 _ _ (k1.add k2) k3 (by omega)
 have s3 := S84 _ _ ((k1.add k2).add k3) r4 (by omega)
 unfold sideQ
 refine sound (d := 2) tok2 mixed2 Tryz.func49 (by kernel_rfl) (by kernel_rfl) ?_
 (conv=>whnf); refine ⟨[],by kernel_rfl,?_⟩
 (conv=>whnf); refine .inl ⟨_,_,byX rfl (a1),?_⟩
 (conv=>whnf); refine .inl ⟨_,_,byX rfl (m1),?_⟩
 (conv=>whnf); refine ⟨[],by kernel_rfl,?_⟩
 (conv=>whnf); refine .inl ⟨_,_,byX rfl (a2),?_⟩
 (conv=>whnf); refine .inl ⟨_,_,byX rfl (m2),?_⟩
 (conv=>whnf); refine .inl ⟨_,_,byX rfl (s1),?_⟩
 (conv=>whnf); refine ⟨[],by kernel_rfl,?_⟩
 (conv=>whnf); refine .inl ⟨_,_,byX rfl (a3),?_⟩
 (conv=>whnf); refine .inl ⟨_,_,byX rfl (m3),?_⟩
 (conv=>whnf); refine .inl ⟨_,_,byX rfl (s2),?_⟩
 (conv=>whnf); refine ⟨[],by kernel_rfl,?_⟩
 (conv=>whnf); refine .inl ⟨_,_,byX rfl (a4),?_⟩
 (conv=>whnf); refine .inl ⟨_,_,byX rfl (s3),?_⟩
 (conv=>whnf); refine ⟨?_,nofun⟩
 (first | contradiction | exact ave_rA)
theorem putL_at {L : List Q3} {x : Q3} : ∀ {k : Nat},(∀ j,j < k → lt3 (L.getD j q0) x) → k ≤ L.length → (k < L.length → ¬ lt3 (L.getD k q0) x) → putL lt3 L x = if k < L.length ∧ L.getD k q0 = x then L else L.take k ++ [x] ++ L.drop k := by
 induction L with
 | nil =>
  intro k h1 h2 h3
  have : k = 0 := by simpa using h2
  subst this
  rfl
 | cons y L ih =>
  intro k h1 h2 h3
  cases k with
  | zero =>
   have h : ¬ lt3 y x := h3 (by simp)
   unfold putL
   rw [if_neg h]
   by_cases e : y = x
   ·rw [if_pos e,if_pos ⟨by simp,e⟩]
   ·rw [if_neg e,if_neg (fun g=>e g.2)]; rfl
  | succ k =>
   have h0 : lt3 y x := h1 0 (by omega)
   have ih := ih (k := k) (fun j hj=>h1 (j + 1) (by omega)) (by simpa using h2) (fun hk=>h3 (by simpa using hk))
   unfold putL
   rw [if_pos h0,ih]
   have e : (y :: L).getD (k + 1) q0 = L.getD k q0 := rfl
   rw [e,List.length_cons]
   by_cases g : k < L.length ∧ L.getD k q0 = x
   ·rw [if_pos g,if_pos ⟨by omega,g.2⟩]
   ·rw [if_neg g,if_neg (fun h=>g ⟨by omega,h.2⟩)]; rfl
theorem put_get {α : Type} (g : α → List AV) {m : Nat} (hg : ∀ a,(g a).length = m) (d : α) (L : List α) (x : α) (k i : Nat) (hk : k ≤ L.length) :
  g ((L.take k ++ [x] ++ L.drop k).getD i d) = if i < k then g (L.getD i d) else if i = k then g x else g (L.getD (i - 1) d) := by
 have h1 : (L.take k).length = k := by rw [List.length_take]; omega
 by_cases h : i < k
 ·rw [if_pos h,List.getD_eq_getElem?_getD,List.append_assoc,List.getElem?_append_left (by omega),List.getElem?_take,if_pos h,List.getD_eq_getElem?_getD]
 ·rw [if_neg h]
  by_cases e : i = k
  ·rw [if_pos e,List.getD_eq_getElem?_getD,List.append_assoc,List.getElem?_append_right (by omega),h1,e,Nat.sub_self]; rfl
  ·rw [if_neg e,List.getD_eq_getElem?_getD,List.append_assoc,List.getElem?_append_right (by omega),h1,List.singleton_append,show i - k = (i - k - 1) + 1 by omega,List.getElem?_cons_succ,List.getElem?_drop,List.getD_eq_getElem?_getD,show k + (i - k - 1) = i - 1 by omega]
theorem take_row {α : Type} (g : α → List AV) {m : Nat} (hg : ∀ a,(g a).length = m) (a : α) : List.take m (g a) = g a := List.take_of_length_le (by rw [hg]; exact Nat.le_refl _)
theorem put_rows {L : List Q3} {x : Q3} {k : Nat} (hk : k ≤ L.length) {i : Nat} {f : List AV} (h1 : i < k → f = bgC (L.getD (0 + (0 + i) - 0) q0)) (h2 : i = k → f = List.take 12 (List.drop ((0 + i - (0 + ((k : Int) - 0).toNat)) * 12) (bgC x)))
  (h3 : k < i → f = shiftF (k : Int).toNat (fun j=>bgC (L.getD j q0)) (i - (0 + ((k : Int) - 0).toNat + 1))) : f = bgC ((L.take k ++ [x] ++ L.drop k).getD i q0) := by
 rw [put_get bgC (m := 12) (fun _=>rfl) q0 L x k i hk]
 by_cases g : i < k
 ·rw [if_pos g,h1 g,show 0 + (0 + i) - 0 = i by omega]
 ·rw [if_neg g]
  by_cases e : i = k
  ·rw [if_pos e,h2 e,show 0 + i - (0 + ((k : Int) - 0).toNat) = 0 by omega,Nat.zero_mul,List.drop_zero]
   exact take_row bgC (fun _=>rfl) x
  ·rw [if_neg e,h3 (by omega),shiftF_eq]
   show bgC (L.getD ((k : Int).toNat + (i - (0 + ((k : Int) - 0).toNat + 1))) q0) = _
   rw [show (k : Int).toNat + (i - (0 + ((k : Int) - 0).toNat + 1)) = i - 1 by omega]
set_option maxHeartbeats 4000000 in
theorem S81 (L : List Q3) (x : Q3) (hl : L.length ≤ 1000000) (hL : ∀ i, R3k 2 (L.getD i q0)) (hx : R3k 2 x) : SP 81 [bgs L, bgA x] (bgs (putL lt3 L x)) false := by
 have hc := fun i=>S144 (L.getD i q0) x (hL i) hx (by decide)
 have hneg := fun i=>cmp3_neg (L.getD i q0) x
 have hzer := fun i=>cmp3_zero (L.getD i q0) x
 refine sound (d := 2) tok2 mixed2 Tryz.func81 (by kernel_rfl) (by kernel_rfl) ?_
 (conv=>whnf); refine ⟨[],[0,3,5],fun st mq=>∃ (k : Nat),(k ≤ L.length) ∧ (∀ j,j < k → lt3 (L.getD j q0) x) ∧ st = ⟨[(0,bgs L),(3,.optr 0 0 0 0),(5,i64 k)],⟨[⟨12,1,fun _=>bgC x,0,false,true,true⟩],[],none,0⟩,[]⟩ ∧ mq = L.length - k,
  ⟨_,_,⟨0,by omega,fun j h=>absurd h (Nat.not_lt_zero j),rfl,rfl⟩,⟨⟨.inl rfl,rfl,rfl,rfl⟩,⟨⟨rfl,rfl,rfl,rfl,fun _=>rfl,fun _ _=>.inl rfl⟩,trivial⟩,trivial⟩⟩,?_⟩
 rintro s0 m0 ⟨k,hk,hs,rfl,hmeas⟩
 by_cases hlt : k < L.length
 ·have hn := hneg k
  have hz := hzer k
  have c1 := hc k
  by_cases g1 : lt3 (L.getD k q0) x
  ·have g1' := hn.2 g1
   generalize cmp3 (L.getD k q0) x = z at *
   conv=>whnf
   (conv=>whnf); refine ⟨[],by kernel_rfl,?_⟩
   conv=>whnf
   (conv=>whnf); refine ifB_dec (fun w1=>?_) (fun w1=>?_)
   ·conv=>whnf
    (conv=>whnf); refine ⟨⟨(by omega),(by omega)⟩,?_⟩
    conv=>whnf
    (conv=>whnf); refine .inl ⟨_,_,byX rfl (Sound1.pl (c1) rfl),?_⟩
    conv=>whnf
    (conv=>whnf); refine ifB_dec (fun w2=>?_) (fun w2=>?_)
    ·conv=>whnf
     (conv=>whnf); refine ⟨inK64 (by omega) (by omega),?_⟩
     conv=>whnf
     (conv=>whnf); refine ⟨_,_,⟨⟨k + 1,by omega,(fun j hj=>by by_cases e : j = k; (rw [e]; exact g1); exact hs j (by omega)),rfl,rfl⟩,by omega⟩,⟨⟨.inl rfl,rfl,rfl,rfl⟩,⟨⟨rfl,rfl,rfl,rfl,fun _=>rfl,fun _ _=>.inl rfl⟩,trivial⟩,trivial⟩⟩
    ·(exfalso; omega)
   ·(exfalso; omega)
  ·have g1' : ¬ cmp3 (L.getD k q0) x < 0 := fun e => g1 (hn.1 e)
   have hp := putL_at hs (by omega) (fun _=>g1)
   by_cases g2 : L.getD k q0 = x
   ·rw [if_pos ⟨hlt, g2⟩] at hp
    have g2' := hz.2 g2
    rw [hp]
    generalize cmp3 (L.getD k q0) x = z at *
    conv=>whnf
    (conv=>whnf); refine ⟨[],by kernel_rfl,?_⟩
    conv=>whnf
    (conv=>whnf); refine ifB_dec (fun w1=>?_) (fun w1=>?_)
    ·conv=>whnf
     (conv=>whnf); refine ⟨⟨(by omega),(by omega)⟩,?_⟩
     conv=>whnf
     (conv=>whnf); refine .inl ⟨_,_,byX rfl (Sound1.pl (c1) rfl),?_⟩
     conv=>whnf
     (conv=>whnf); refine ifB_dec (fun w2=>?_) (fun w2=>?_)
     ·(exfalso; omega)
     ·conv=>whnf
      (conv=>whnf); refine ⟨[],by kernel_rfl,?_⟩
      conv=>whnf
      (conv=>whnf); refine ifB_dec (fun w3=>?_) (fun w3=>?_)
      ·conv=>whnf
       (conv=>whnf); refine ⟨⟨(by omega),(by omega)⟩,?_⟩
       conv=>whnf
       (conv=>whnf); refine .inl ⟨_,_,byX rfl (Sound1.pl (c1) rfl),?_⟩
       conv=>whnf
       (conv=>whnf); refine ifB_beq (fun w4=>?_) (fun w4=>?_)
       ·conv=>whnf
        (conv=>whnf); refine ⟨?_,nofun⟩
        exact ⟨rfl,rfl,fun _ _=>rfl⟩
       ·(exfalso; omega)
      ·(exfalso; omega)
    ·(exfalso; omega)
   ·rw [if_neg (fun e => g2 e.2)] at hp
    have g2' : ¬ cmp3 (L.getD k q0) x = 0 := fun e=>g2 (hz.1 e)
    rw [hp]
    generalize cmp3 (L.getD k q0) x = z at *
    conv=>whnf
    (conv=>whnf); refine ⟨[],by kernel_rfl,?_⟩
    conv=>whnf
    (conv=>whnf); refine ifB_dec (fun w1=>?_) (fun w1=>?_)
    ·conv=>whnf
     (conv=>whnf); refine ⟨⟨(by omega),(by omega)⟩,?_⟩
     conv=>whnf
     (conv=>whnf); refine .inl ⟨_,_,byX rfl (Sound1.pl (c1) rfl),?_⟩
     conv=>whnf
     (conv=>whnf); refine ifB_dec (fun w2=>?_) (fun w2=>?_)
     ·(exfalso; omega)
     ·conv=>whnf
      (conv=>whnf); refine ⟨[],by kernel_rfl,?_⟩
      conv=>whnf
      (conv=>whnf); refine ifB_dec (fun w3=>?_) (fun w3=>?_)
      ·conv=>whnf
       (conv=>whnf); refine ⟨⟨(by omega),(by omega)⟩,?_⟩
       conv=>whnf
       (conv=>whnf); refine .inl ⟨_,_,byX rfl (Sound1.pl (c1) rfl),?_⟩
       conv=>whnf
       (conv=>whnf); refine ifB_beq (fun w4=>?_) (fun w4=>?_)
       ·(exfalso; omega)
       ·conv=>whnf
        (conv=>whnf); refine ⟨⟨(by omega),⟨(by omega),(by omega)⟩⟩,?_⟩
        conv=>whnf
        (conv=>whnf); refine .inl ?_
        conv=>whnf
        (conv=>whnf); refine ⟨⟨(by omega),(by show _ * (192 + 1) ≤ _; omega)⟩,?_⟩
        conv=>whnf
        (conv=>whnf); refine .inl ?_
        conv=>whnf
        (conv=>whnf); refine ⟨(by show _ * (192 + 1) ≤ _; omega),?_⟩
        conv=>whnf
        (conv=>whnf); refine ⟨⟨(by omega),⟨(by omega),(by omega)⟩⟩,?_⟩
        conv=>whnf
        (conv=>whnf); refine .inl ?_
        conv=>whnf
        (conv=>whnf); refine ⟨(by show _ * (192 + 1) ≤ _; omega),?_⟩
        conv=>whnf
        (conv=>whnf); refine ⟨?_,nofun⟩
        exact ⟨rfl,(by simp; omega),fun i hi=>put_rows hk (fun g=>(if_pos (by omega)).trans ((if_pos (by omega)).trans (if_neg (by omega)))) (fun g=>(if_pos (by omega)).trans (if_neg (by omega))) (fun g=>if_neg (by omega))⟩
      ·(exfalso; omega)
    ·(exfalso; omega)
 ·have hp := putL_at hs (by omega) (fun e=>absurd e hlt)
  rw [if_neg (fun e=>hlt e.1)] at hp
  rw [hp]
  conv=>whnf
  (conv=>whnf); refine ⟨[],by kernel_rfl,?_⟩
  conv=>whnf
  (conv=>whnf); refine ifB_dec (fun w1=>?_) (fun w1=>?_)
  ·(exfalso; omega)
  ·conv=>whnf
   (conv=>whnf); refine ⟨[],by kernel_rfl,?_⟩
   conv=>whnf
   (conv=>whnf); refine ifB_dec (fun w2=>?_) (fun w2=>?_)
   ·(exfalso; omega)
   ·conv=>whnf
    (conv=>whnf); refine ⟨⟨(by omega),⟨(by omega),(by omega)⟩⟩,?_⟩
    conv=>whnf
    (conv=>whnf); refine .inl ?_
    conv=>whnf
    (conv=>whnf); refine ⟨⟨(by omega),(by show _ * (192 + 1) ≤ _; omega)⟩,?_⟩
    conv=>whnf
    (conv=>whnf); refine .inl ?_
    conv=>whnf
    (conv=>whnf); refine ⟨(by show _ * (192 + 1) ≤ _; omega),?_⟩
    conv=>whnf
    (conv=>whnf); refine ⟨⟨(by omega),⟨(by omega),(by omega)⟩⟩,?_⟩
    conv=>whnf
    (conv=>whnf); refine .inl ?_
    conv=>whnf
    (conv=>whnf); refine ⟨(by show _ * (192 + 1) ≤ _; omega),?_⟩
    conv=>whnf
    (conv=>whnf); refine ⟨?_,nofun⟩
    exact ⟨rfl,(by simp; omega),fun i hi=>put_rows hk (fun g=>(if_pos (by omega)).trans ((if_pos (by omega)).trans (if_neg (by omega)))) (fun g=>(if_pos (by omega)).trans (if_neg (by omega))) (fun g=>if_neg (by omega))⟩
end Go.Tr

/- Contracts of chapter 5: the reference's spots on a line; the law of lines. Conditions: none. -/
-- seat YtgbdlkajmmjahaaGreat
namespace Go.Tr
open Go Go.Proofs
set_option maxRecDepth 20000
set_option maxHeartbeats 8000000

structure QOk (Q : List Q3) (l : Ln) : Prop where
 len : Q.length ≤ 12
 rk : ∀ k,k < Q.length → R3k 1 (Q.getD k q0)
 side : ∀ k,k < Q.length → Rk 1 (sideQ l (Q.getD k q0))
 ne : ∀ k,k + 1 < Q.length → sgR (sideQ l (Q.getD k q0)) * sgR (sideQ l (Q.getD (k + 1) q0)) < 0 → sideQ l (Q.getD k q0) - sideQ l (Q.getD (k + 1) q0) ≠ 0
 part : ∀ k,k + 1 < Q.length → Rk 1 (sideQ l (Q.getD k q0) / (sideQ l (Q.getD k q0) - sideQ l (Q.getD (k + 1) q0)))
 on : ∀ k,k ≤ Q.length → ∀ q ∈ onQ Q l k,R3k 2 q
theorem sgR_mul {a b : Rat} (h : sgR a * sgR b < 0) : a - b ≠ 0 := fun e=>by
 have e : a = b := by grind
 subst e
 rcases sgR_cases a with ⟨_,g⟩ | ⟨_,g⟩ | ⟨_,g⟩ <;> rw [g] at h <;> exact absurd h (by decide)
theorem CvOk.q {N : List Nm} (hN : CvOk N) {l : Ln} (hl : LnOk l) : QOk (N.map nmQ) l := by
  have hg : ∀ k,k < N.length → (N.map nmQ).getD k q0 = nmQ (N.getD k n0) := fun k hk=>getD_mapG nmQ N k n0 q0 hk
  have hb : ∀ k,k < N.length → NmB 200 (N.getD k n0) := fun k hk=>hN.b _ (getD_memG hk)
  have z : ∀ x : Int,x.natAbs ≤ 880000000 → Zk 1 x := fun x hx=>Zk.small (Nat.lt_of_le_of_lt hx (by decide))
  have hs : ∀ k,k < N.length → sideQ l ((N.map nmQ).getD k q0) = Rat.divInt (sideN l (N.getD k n0)) (N.getD k n0).2 := fun k hk=>by
    rw [hg k hk,side_eq l (by have := (hb k hk).d; omega)]
  refine ⟨by rw [List.length_map]; exact hN.len,fun k hk=>?_,fun k hk=>?_,fun k hk h=>sgR_mul h,fun k hk=>?_,fun k hk q hq=>?_⟩
  · rw [List.length_map] at hk
    rw [hg k hk]
    exact (hb k hk).rk (Nat.lt_of_le_of_lt (show _ ≤ 2000000 by omega) (by decide))
  · rw [List.length_map] at hk
    have hbk := hb k hk
    rw [hs k hk]
    exact Rk.divI (by have := hbk.d; omega) (z _ (by have := (side_b hl hbk).2; omega)) (z _ (by have := hbk.d; omega))
  · rw [List.length_map] at hk
    have hb1 := hb k (by omega)
    have hb2 := hb (k + 1) hk
    have hd : (N.getD k n0).2 = (N.getD (k + 1) n0).2 := hN.d _ (getD_memG (by omega)) _ (getD_memG hk)
    rw [hs k (by omega),hs (k + 1) hk,← hd,frac_of_parts (by have := hb1.d; omega)]
    have s1 := (side_b hl hb1).2
    have s2 := (side_b hl hb2).2
    by_cases e : sideN l (N.getD k n0) - sideN l (N.getD (k + 1) n0) = 0
    · rw [e,Rat.divInt_zero]
      exact rk_mil (x := 0) (by decide)
    · exact Rk.divI e (z _ (by omega)) (z _ (by omega))
  · rw [List.length_map] at hk
    cases h : N with
    | nil => rw [h] at hk; have : k = 0 := by simpa using hk
             rw [this] at hq; cases hq
    | cons y r =>
      have hy : y ∈ N := by rw [h]; simp
      rw [← on_map N l (hN.b y hy).d.1 (fun n hn=>hN.d n hn y hy) k hk] at hq
      obtain ⟨n,hn,e⟩ := List.mem_map.1 hq
      rw [← e]
      exact (onN_ok hN hl k hk n hn).rk (Nat.lt_of_le_of_lt (show _ ≤ 1760000000000000 by decide) (by decide))
theorem onQ_1 {Q : List Q3} {l : Ln} {k : Nat} (h : sideQ l (Q.getD k q0) = 0) : onQ Q l (k + 1) = onQ Q l k ++ [Q.getD k q0] := by
 rw [onQ,if_pos h,if_neg (fun e=>by
  have := e.2
  rcases sgR_cases (sideQ l (Q.getD k q0)) with ⟨g,_⟩ | ⟨_,g⟩ | ⟨g,_⟩
  ·rw [h] at g; exact rlt_irr _ g
  ·rw [g,Int.zero_mul] at this; exact absurd this (by decide)
  ·rw [h] at g; exact rlt_irr _ g)]; rfl
theorem onQ_2 {Q : List Q3} {l : Ln} {k : Nat} (h : ¬ sideQ l (Q.getD k q0) = 0) (h2 : k + 1 < Q.length ∧ sgR (sideQ l (Q.getD k q0)) * sgR (sideQ l (Q.getD (k + 1) q0)) < 0) :
    onQ Q l (k + 1) = onQ Q l k ++ [mixQ (Q.getD k q0) (Q.getD (k + 1) q0) (sideQ l (Q.getD k q0) / (sideQ l (Q.getD k q0) - sideQ l (Q.getD (k + 1) q0)))] := by
  rw [onQ,if_neg h,if_pos h2]; rfl
theorem onQ_3 {Q : List Q3} {l : Ln} {k : Nat} (h : ¬ sideQ l (Q.getD k q0) = 0) (h2 : ¬ (k + 1 < Q.length ∧ sgR (sideQ l (Q.getD k q0)) * sgR (sideQ l (Q.getD (k + 1) q0)) < 0)) : onQ Q l (k + 1) = onQ Q l k := by
  rw [onQ,if_neg h,if_neg h2]; simp
theorem onQ_len (Q : List Q3) (l : Ln) : ∀ k,(onQ Q l k).length ≤ 2 * k
 | 0=>Nat.le_refl _
 | k + 1=>by
  unfold onQ
  have := onQ_len Q l k
  rw [List.length_append,List.length_append]
  have h1 : (if sideQ l (Q.getD k q0) = 0 then [Q.getD k q0] else []).length ≤ 1 := by split <;> simp
  have h2 : (if k + 1 < Q.length ∧ sgR (sideQ l (Q.getD k q0)) * sgR (sideQ l (Q.getD (k + 1) q0)) < 0 then [mixQ (Q.getD k q0) (Q.getD (k + 1) q0) (sideQ l (Q.getD k q0) / (sideQ l (Q.getD k q0) - sideQ l (Q.getD (k + 1) q0)))] else []).length ≤ 1 := by split <;> simp
  omega
theorem putL_len (l : List Q3) (x : Q3) : (putL lt3 l x).length ≤ l.length + 1 := by
 induction l with
 | nil=>simp [putL]
 | cons y l ih =>
  unfold putL
  split
  ·simpa using ih
  ·split <;> simp
theorem putAll_len (l : List Q3) : (putAll lt3 l).length ≤ l.length := by
 induction l using snoc_ind with
 | h0=>exact Nat.le_refl _
 | hs l x ih =>
  rw [putAll_snoc]
  have := putL_len (putAll lt3 l) x
  rw [List.length_append]
  simp
  omega
set_option maxHeartbeats 8000000 in
theorem S21 (Q : List Q3) (l : Ln) (hQ : QOk Q l) (hl : LnOk l) : SP 21 [bgs Q, lnA l] (bgs (spL Q l)) false := by
 have hlen := hQ.len
 refine sound (d := 2) tok2 mixed2 Tryz.func21 (by kernel_rfl) (by kernel_rfl) ?_
 (conv=>whnf); refine ⟨[],[0,3,5,6],fun st mq=>∃ (k : Nat) (O : List Q3),(k ≤ Q.length) ∧ (O = putAll lt3 (onQ Q l k)) ∧ st = ⟨[(0,bgs Q),(3,.optr 0 0 0 0),(5,bgs O),(6,i64 k)],⟨[⟨4,1,fun _=>lnC l,0,false,true,true⟩],[],none,0⟩,[]⟩ ∧ mq = Q.length - k,
  ⟨_,_,⟨0,[],by omega,rfl,rfl,rfl⟩,⟨⟨.inr ⟨rfl,.inl rfl,⟨rfl,.inl rfl,⟨rfl,.inr (rfl),⟨rfl,.inl rfl,trivial⟩⟩⟩⟩,rfl,rfl,rfl⟩,⟨⟨rfl,rfl,rfl,rfl,fun _=>rfl,fun _ _=>.inl rfl⟩,trivial⟩,trivial⟩⟩,?_⟩
 rintro s0 m0 ⟨k,O,hk,hO,rfl,hmeas⟩
 have hOl : O.length ≤ 1000000 := by
  rw [hO]
  have h1 := putAll_len (onQ Q l k)
  have h2 := onQ_len Q l k
  omega
 have hOr : ∀ i,R3k 2 (O.getD i q0) := fun i=>by
  by_cases hi : i < O.length
  ·have hm := getD_memG (d := q0) hi
   rw [hO,putAll_mem,← hO] at hm
   exact hQ.on k hk _ hm
  ·rw [List.getD_eq_getElem?_getD,List.getElem?_eq_none (by omega)]
   exact (rk_pt (p := p0) ptOk_0).mono (by decide)
 have c49 := fun q hq=>S49 q l hq hl
 have c81 := fun x hx=>S81 O x hOl hOr hx
 by_cases hlt : k < Q.length
 ·have rk0 := hQ.rk k hlt
  have rk02 := rk0.mono (l := 2) (by decide)
  have hsg := sgR_cases (sideQ l (Q.getD k q0))
  by_cases hz : sideQ l (Q.getD k q0) = 0
  ·have eO := onQ_1 hz
   have eP : putAll lt3 (onQ Q l (k + 1)) = putL lt3 O (Q.getD k q0) := by rw [eO,putAll_snoc,← hO]
   have hA : sgR (sideQ l (Q.getD (k : Int).toNat q0)) = 0 := by
    rcases hsg with ⟨g,_⟩ | ⟨_,g⟩ | ⟨g,_⟩
    ·rw [hz] at g; exact absurd g (rlt_irr _)
    ·exact g
    ·rw [hz] at g; exact absurd g (rlt_irr _)
   by_cases hlt2 : k + 1 < Q.length
   ·have rk1 := hQ.rk (k + 1) hlt2
    have r0' : sgR (sideQ l (Q.getD (k : Int).toNat q0)) * sgR (sideQ l (Q.getD ((k : Int) + 1).toNat q0)) = 0 := by rw [hA,Int.zero_mul]
    have r1' : inK .i64 (sgR (sideQ l (Q.getD (k : Int).toNat q0)) * sgR (sideQ l (Q.getD ((k : Int) + 1).toNat q0))) := inK_of (by rw [r0']; decide)
    conv=>whnf
    (conv=>whnf); refine ifB_dec (fun w1=>?_) (fun w1=>?_)
    ·conv=>whnf
     (conv=>whnf); refine ⟨[],by kernel_rfl,?_⟩
     conv=>whnf
     (conv=>whnf); refine ⟨⟨(by omega),(by omega)⟩,?_⟩
     conv=>whnf
     (conv=>whnf); refine .inl ⟨_,_,byX rfl (c49 _ (by first | omega | assumption | simp)),?_⟩
     conv=>whnf
     (conv=>whnf); refine .inl ⟨_,_,byX rfl (Sound1.pl (S48 _) rfl),?_⟩
     conv=>whnf
     (conv=>whnf); refine ifB_beq (fun w2=>?_) (fun w2=>?_)
     ·conv=>whnf
      (conv=>whnf); refine ⟨⟨(by omega),(by omega)⟩,?_⟩
      conv=>whnf
      (conv=>whnf); refine .inl ⟨_,_,byX rfl (c81 _ (by first | omega | assumption | simp)),?_⟩
      conv=>whnf
      (conv=>whnf); refine ⟨inK64 (by omega) (by omega),?_⟩
      conv=>whnf
      (conv=>whnf); refine ifB_beq (fun w3=>?_) (fun w3=>?_)
      ·(exfalso; omega)
      ·conv=>whnf
       (conv=>whnf); refine ⟨[],by kernel_rfl,?_⟩
       conv=>whnf
       (conv=>whnf); refine ⟨inK64 (by omega) (by omega),?_⟩
       conv=>whnf
       (conv=>whnf); refine ⟨⟨(by omega),(by omega)⟩,?_⟩
       conv=>whnf
       (conv=>whnf); refine .inl ⟨_,_,byX rfl (c49 _ (by first | omega | assumption | simp)),?_⟩
       conv=>whnf
       (conv=>whnf); refine ⟨[],by kernel_rfl,?_⟩
       conv=>whnf
       (conv=>whnf); refine .inl ⟨_,_,byX rfl (Sound1.pl (S48 _) rfl),?_⟩
       conv=>whnf
       (conv=>whnf); refine .inl ⟨_,_,byX rfl (Sound1.pl (S48 _) rfl),?_⟩
       conv=>whnf
       (conv=>whnf); refine ⟨inK64 (by omega) (by omega),?_⟩
       conv=>whnf
       (conv=>whnf); refine ifB_dec (fun w4=>?_) (fun w4=>?_)
       ·(exfalso; omega)
       ·conv=>whnf
        (conv=>whnf); refine ⟨inK64 (by omega) (by omega),?_⟩
        conv=>whnf
        (conv=>whnf); refine ⟨_,_,⟨⟨k + 1,putL lt3 O (Q.getD k q0),by omega,eP.symm,rfl,rfl⟩,by omega⟩,⟨⟨.inl rfl,rfl,rfl,rfl⟩,⟨⟨rfl,rfl,rfl,rfl,fun _=>rfl,fun _ _=>.inl rfl⟩,trivial⟩,trivial⟩⟩
     ·(exfalso; omega)
    ·(exfalso; omega)
   ·have hsp : spL Q l = putL lt3 O (Q.getD k q0) := by
     rw [← eP,show k + 1 = Q.length by omega]; rfl
    rw [hsp]
    conv=>whnf
    (conv=>whnf); refine ifB_dec (fun w1=>?_) (fun w1=>?_)
    ·conv=>whnf
     (conv=>whnf); refine ⟨[],by kernel_rfl,?_⟩
     conv=>whnf
     (conv=>whnf); refine ⟨⟨(by omega),(by omega)⟩,?_⟩
     conv=>whnf
     (conv=>whnf); refine .inl ⟨_,_,byX rfl (c49 _ (by first | omega | assumption | simp)),?_⟩
     conv=>whnf
     (conv=>whnf); refine .inl ⟨_,_,byX rfl (Sound1.pl (S48 _) rfl),?_⟩
     conv=>whnf
     (conv=>whnf); refine ifB_beq (fun w2=>?_) (fun w2=>?_)
     ·conv=>whnf
      (conv=>whnf); refine ⟨⟨(by omega),(by omega)⟩,?_⟩
      conv=>whnf
      (conv=>whnf); refine .inl ⟨_,_,byX rfl (c81 _ (by first | omega | assumption | simp)),?_⟩
      conv=>whnf
      (conv=>whnf); refine ⟨inK64 (by omega) (by omega),?_⟩
      conv=>whnf
      (conv=>whnf); refine ifB_beq (fun w3=>?_) (fun w3=>?_)
      ·conv=>whnf
       (conv=>whnf); refine ⟨?_,nofun⟩
       exact ⟨rfl,rfl,fun _ _=>rfl⟩
      ·(exfalso; omega)
     ·(exfalso; omega)
    ·(exfalso; omega)
  ·have hA : ¬ sgR (sideQ l (Q.getD (k : Int).toNat q0)) = 0 := by
    rcases hsg with ⟨_,g⟩ | ⟨g,_⟩ | ⟨_,g⟩
    ·exact fun e=>absurd (g.symm.trans e) (by decide)
    ·exact absurd g hz
    ·exact fun e=>absurd (g.symm.trans e) (by decide)
   by_cases hlt2 : k + 1 < Q.length
   ·have rk1 := hQ.rk (k + 1) hlt2
    have hsg2 := sgR_cases (sideQ l (Q.getD (k + 1) q0))
    have r1' : inK .i64 (sgR (sideQ l (Q.getD (k : Int).toNat q0)) * sgR (sideQ l (Q.getD ((k : Int) + 1).toNat q0))) := by
     show inK .i64 (sgR (sideQ l (Q.getD k q0)) * sgR (sideQ l (Q.getD (k + 1) q0)))
     rcases hsg with ⟨_,g⟩ | ⟨_,g⟩ | ⟨_,g⟩ <;> rcases hsg2 with ⟨_,g2⟩ | ⟨_,g2⟩ | ⟨_,g2⟩ <;> rw [g,g2] <;> exact inK_of (by decide)
    by_cases hc : sgR (sideQ l (Q.getD k q0)) * sgR (sideQ l (Q.getD (k + 1) q0)) < 0
    ·have hc' : sgR (sideQ l (Q.getD (k : Int).toNat q0)) * sgR (sideQ l (Q.getD ((k : Int) + 1).toNat q0)) < 0 := hc
     have eO := onQ_2 hz ⟨hlt2,hc⟩
     have hm : R3k 2 (mixQ (Q.getD k q0) (Q.getD (k + 1) q0) (sideQ l (Q.getD k q0) / (sideQ l (Q.getD k q0) - sideQ l (Q.getD (k + 1) q0)))) := hQ.on (k + 1) (by omega) _ (by rw [eO]; simp)
     have eP : putAll lt3 (onQ Q l (k + 1)) = putL lt3 O (mixQ (Q.getD k q0) (Q.getD (k + 1) q0) (sideQ l (Q.getD k q0) / (sideQ l (Q.getD k q0) - sideQ l (Q.getD (k + 1) q0)))) := by rw [eO,putAll_snoc,← hO]
     have c84 := S84 (sideQ l (Q.getD k q0)) (sideQ l (Q.getD (k + 1) q0)) (hQ.side k hlt) (hQ.side (k + 1) hlt2) (by decide)
     have c83 := S83 (sideQ l (Q.getD k q0)) (sideQ l (Q.getD k q0) - sideQ l (Q.getD (k + 1) q0)) (hQ.side k hlt) ((hQ.side k hlt).sub (hQ.side (k + 1) hlt2)) (by decide) (hQ.ne k hlt2 hc)
     have c82 := S82 (Q.getD k q0) (Q.getD (k + 1) q0) (sideQ l (Q.getD k q0) / (sideQ l (Q.getD k q0) - sideQ l (Q.getD (k + 1) q0))) rk0 rk1 (hQ.part k hlt2) (by decide)
     conv=>whnf
     (conv=>whnf); refine ifB_dec (fun w1=>?_) (fun w1=>?_)
     ·conv=>whnf
      (conv=>whnf); refine ⟨[],by kernel_rfl,?_⟩
      conv=>whnf
      (conv=>whnf); refine ⟨⟨(by omega),(by omega)⟩,?_⟩
      conv=>whnf
      (conv=>whnf); refine .inl ⟨_,_,byX rfl (c49 _ (by first | omega | assumption | simp)),?_⟩
      conv=>whnf
      (conv=>whnf); refine .inl ⟨_,_,byX rfl (Sound1.pl (S48 _) rfl),?_⟩
      conv=>whnf
      (conv=>whnf); refine ifB_beq (fun w2=>?_) (fun w2=>?_)
      ·(exfalso; omega)
      ·conv=>whnf
       (conv=>whnf); refine ⟨inK64 (by omega) (by omega),?_⟩
       conv=>whnf
       (conv=>whnf); refine ifB_beq (fun w3=>?_) (fun w3=>?_)
       ·(exfalso; omega)
       ·conv=>whnf
        (conv=>whnf); refine ⟨[],by kernel_rfl,?_⟩
        conv=>whnf
        (conv=>whnf); refine ⟨inK64 (by omega) (by omega),?_⟩
        conv=>whnf
        (conv=>whnf); refine ⟨⟨(by omega),(by omega)⟩,?_⟩
        conv=>whnf
        (conv=>whnf); refine .inl ⟨_,_,byX rfl (c49 _ (by first | omega | assumption | simp)),?_⟩
        conv=>whnf
        (conv=>whnf); refine ⟨[],by kernel_rfl,?_⟩
        conv=>whnf
        (conv=>whnf); refine .inl ⟨_,_,byX rfl (Sound1.pl (S48 _) rfl),?_⟩
        conv=>whnf
        (conv=>whnf); refine .inl ⟨_,_,byX rfl (Sound1.pl (S48 _) rfl),?_⟩
        conv=>whnf
        (conv=>whnf); refine ⟨by assumption,?_⟩
        conv=>whnf
        (conv=>whnf); refine ifB_dec (fun w4=>?_) (fun w4=>?_)
        ·conv=>whnf
         (conv=>whnf); refine ⟨[],by kernel_rfl,?_⟩
         conv=>whnf
         (conv=>whnf); refine ⟨⟨(by omega),(by omega)⟩,?_⟩
         conv=>whnf
         (conv=>whnf); refine ⟨inK64 (by omega) (by omega),?_⟩
         conv=>whnf
         (conv=>whnf); refine ⟨⟨(by omega),(by omega)⟩,?_⟩
         conv=>whnf
         (conv=>whnf); refine .inl ⟨_,_,byX rfl (c84),?_⟩
         conv=>whnf
         (conv=>whnf); refine .inl ⟨_,_,byX rfl (c83),?_⟩
         conv=>whnf
         (conv=>whnf); refine .inl ⟨_,_,byX rfl (c82),?_⟩
         conv=>whnf
         (conv=>whnf); refine .inl ⟨_,_,byX rfl (c81 _ (by omega)),?_⟩
         conv=>whnf
         (conv=>whnf); refine ⟨inK64 (by omega) (by omega),?_⟩
         conv=>whnf
         (conv=>whnf); refine ⟨_,_,⟨⟨k + 1,putL lt3 O (mixQ (Q.getD k q0) (Q.getD (k + 1) q0) (sideQ l (Q.getD k q0) / (sideQ l (Q.getD k q0) - sideQ l (Q.getD (k + 1) q0)))),by omega,eP.symm,rfl,rfl⟩,by omega⟩,⟨⟨.inl rfl,rfl,rfl,rfl⟩,⟨⟨rfl,rfl,rfl,rfl,fun _=>rfl,fun _ _=>.inl rfl⟩,trivial⟩,trivial⟩⟩
        ·(exfalso; omega)
     ·(exfalso; omega)
    ·have hc' : ¬ sgR (sideQ l (Q.getD (k : Int).toNat q0)) * sgR (sideQ l (Q.getD ((k : Int) + 1).toNat q0)) < 0 := hc
     have eO := onQ_3 hz (fun e=>hc e.2)
     conv=>whnf
     (conv=>whnf); refine ifB_dec (fun w1=>?_) (fun w1=>?_)
     ·conv=>whnf
      (conv=>whnf); refine ⟨[],by kernel_rfl,?_⟩
      conv=>whnf
      (conv=>whnf); refine ⟨⟨(by omega),(by omega)⟩,?_⟩
      conv=>whnf
      (conv=>whnf); refine .inl ⟨_,_,byX rfl (c49 _ (by first | omega | assumption | simp)),?_⟩
      conv=>whnf
      (conv=>whnf); refine .inl ⟨_,_,byX rfl (Sound1.pl (S48 _) rfl),?_⟩
      conv=>whnf
      (conv=>whnf); refine ifB_beq (fun w2=>?_) (fun w2=>?_)
      ·(exfalso; omega)
      ·conv=>whnf
       (conv=>whnf); refine ⟨inK64 (by omega) (by omega),?_⟩
       conv=>whnf
       (conv=>whnf); refine ifB_beq (fun w3=>?_) (fun w3=>?_)
       ·(exfalso; omega)
       ·conv=>whnf
        (conv=>whnf); refine ⟨[],by kernel_rfl,?_⟩
        conv=>whnf
        (conv=>whnf); refine ⟨inK64 (by omega) (by omega),?_⟩
        conv=>whnf
        (conv=>whnf); refine ⟨⟨(by omega),(by omega)⟩,?_⟩
        conv=>whnf
        (conv=>whnf); refine .inl ⟨_,_,byX rfl (c49 _ (by first | omega | assumption | simp)),?_⟩
        conv=>whnf
        (conv=>whnf); refine ⟨[],by kernel_rfl,?_⟩
        conv=>whnf
        (conv=>whnf); refine .inl ⟨_,_,byX rfl (Sound1.pl (S48 _) rfl),?_⟩
        conv=>whnf
        (conv=>whnf); refine .inl ⟨_,_,byX rfl (Sound1.pl (S48 _) rfl),?_⟩
        conv=>whnf
        (conv=>whnf); refine ⟨by assumption,?_⟩
        conv=>whnf
        (conv=>whnf); refine ifB_dec (fun w4=>?_) (fun w4=>?_)
        ·(exfalso; omega)
        ·conv=>whnf
         (conv=>whnf); refine ⟨inK64 (by omega) (by omega),?_⟩
         conv=>whnf
         (conv=>whnf); refine ⟨_,_,⟨⟨k + 1,O,by omega,(by rw [eO]; exact hO),rfl,rfl⟩,by omega⟩,⟨⟨.inl rfl,rfl,rfl,rfl⟩,⟨⟨rfl,rfl,rfl,rfl,fun _=>rfl,fun _ _=>.inl rfl⟩,trivial⟩,trivial⟩⟩
     ·(exfalso; omega)
   ·have eO := onQ_3 hz (fun e=>hlt2 e.1)
    have hsp : spL Q l = O := by
     rw [hO,← eO,show k + 1 = Q.length by omega]; rfl
    rw [hsp]
    conv=>whnf
    (conv=>whnf); refine ifB_dec (fun w1=>?_) (fun w1=>?_)
    ·conv=>whnf
     (conv=>whnf); refine ⟨[],by kernel_rfl,?_⟩
     conv=>whnf
     (conv=>whnf); refine ⟨⟨(by omega),(by omega)⟩,?_⟩
     conv=>whnf
     (conv=>whnf); refine .inl ⟨_,_,byX rfl (c49 _ (by first | omega | assumption | simp)),?_⟩
     conv=>whnf
     (conv=>whnf); refine .inl ⟨_,_,byX rfl (Sound1.pl (S48 _) rfl),?_⟩
     conv=>whnf
     (conv=>whnf); refine ifB_beq (fun w2=>?_) (fun w2=>?_)
     ·(exfalso; omega)
     ·conv=>whnf
      (conv=>whnf); refine ⟨inK64 (by omega) (by omega),?_⟩
      conv=>whnf
      (conv=>whnf); refine ifB_beq (fun w3=>?_) (fun w3=>?_)
      ·conv=>whnf
       (conv=>whnf); refine ⟨?_,nofun⟩
       exact ⟨rfl,rfl,fun _ _=>rfl⟩
      ·(exfalso; omega)
    ·(exfalso; omega)
 ·obtain rfl : k = Q.length := by omega
  have hO : O = spL Q l := hO
  rw [← hO]
  conv=>whnf
  (conv=>whnf); refine ifB_dec (fun w1=>?_) (fun w1=>?_)
  ·(exfalso; omega)
  ·conv=>whnf
   (conv=>whnf); refine ⟨?_,nofun⟩
   exact ⟨rfl,rfl,fun _ _=>rfl⟩
end Go.Tr

/- Contracts of chapter 5: spots on lines, operating points, runaway. Conditions: none. -/
-- seat YtgbdlkajmmjahaaGreat
namespace Go.Tr
open Go Go.Proofs
set_option maxRecDepth 20000
set_option maxHeartbeats 8000000

def szE (n : Int) : Int := if -1000 ≤ n ∧ n ≤ 1000 then 0 else 2
def badI : List Int → Nat → Int
  | [],_=>-1
  | x :: r,k=>if -1000 ≤ x ∧ x ≤ 1000 then badI r (k + 1) else (k : Int)
theorem badI_drop (l : List Int) (k : Nat) (h : k < l.length) : badI (l.drop k) k = if -1000 ≤ l.getD k 0 ∧ l.getD k 0 ≤ 1000 then badI (l.drop (k + 1)) (k + 1) else (k : Int) := by
  rw [List.drop_eq_getElem_cons h]
  simp [badI,List.getD_eq_getElem?_getD,h]
theorem S139 (n : Int) : SP 139 [i64 n] (vb (!win n (-1000) 1000)) false := by
 have h := S140 n 1000 (by decide)
 refine sound (d := 2) tok2 mixed2 Tryz.func139 (by kernel_rfl) (by kernel_rfl) ?_
 (conv=>whnf); refine .inl ⟨_,_,byX rfl (Sound1.pl (h) rfl),?_⟩
 (conv=>whnf); refine ⟨?_,nofun⟩
 (first | contradiction | rfl)
theorem S170 (l : List Int) (hl : l.length ≤ 1000) : SP 170 [ints l,.func (.func 139) 0 []] (i64 (badI l 0)) false := by
 refine sound (d := 2) tok2 mixed2 Tryz.func170 (by kernel_rfl) (by kernel_rfl) ?_
 (conv=>whnf); refine ⟨[],[0,1,7,8],fun st mq=>∃ (k : Nat),(k ≤ l.length) ∧ (badI (l.drop k) k = badI l 0) ∧ st = ⟨[(0,ints l),(1,.func (.func 139) 0 []),(7,i64 l.length),(8,i64 k)],⟨[],[],none,0⟩,[]⟩ ∧ mq = l.length - k,
  ⟨_,_,⟨0,by omega,rfl,rfl,rfl⟩,⟨⟨.inl rfl,rfl,rfl,rfl⟩,trivial,trivial⟩⟩,?_⟩
 rintro s0 m0 ⟨k,hk,he,rfl,hmeas⟩
 by_cases hlt : k < l.length
 ·have hd := badI_drop l k hlt
  have c1 := S139 (l.getD k 0)
  unfold win at c1
  by_cases g : -1000 ≤ l.getD k 0 ∧ l.getD k 0 ≤ 1000
  ·rw [if_pos g] at hd
   rw [decide_eq_true g] at c1
   conv=>whnf
   (conv=>whnf); refine ifB_dec (fun w1=>?_) (fun w1=>?_)
   ·conv=>whnf
    (conv=>whnf); refine ⟨⟨(by omega),(by omega)⟩,?_⟩
    conv=>whnf
    (conv=>whnf); refine .inl ⟨_,_,byX rfl (Sound1.pl (c1) rfl),?_⟩
    conv=>whnf
    (conv=>whnf); refine ⟨inK64 (by omega) (by omega),?_⟩
    conv=>whnf
    (conv=>whnf); refine ⟨_,_,⟨⟨k + 1,by omega,hd.symm.trans he,rfl,rfl⟩,by omega⟩,⟨⟨.inl rfl,rfl,rfl,rfl⟩,trivial,trivial⟩⟩
   ·(exfalso; omega)
  ·rw [if_neg g] at hd
   rw [decide_eq_false g] at c1
   conv=>whnf
   (conv=>whnf); refine ifB_dec (fun w1=>?_) (fun w1=>?_)
   ·conv=>whnf
    (conv=>whnf); refine ⟨⟨(by omega),(by omega)⟩,?_⟩
    conv=>whnf
    (conv=>whnf); refine .inl ⟨_,_,byX rfl (Sound1.pl (c1) rfl),?_⟩
    conv=>whnf
    (conv=>whnf); refine ⟨?_,nofun⟩
    exact endi (hd.symm.trans he)
   ·(exfalso; omega)
 ·obtain rfl : k = l.length := by omega
  rw [List.drop_length] at he
  conv=>whnf
  (conv=>whnf); refine ifB_dec (fun w1=>?_) (fun w1=>?_)
  ·(exfalso; omega)
  ·conv=>whnf
   (conv=>whnf); refine ⟨?_,nofun⟩
   exact endi he
theorem S138 (l : List Int) (hl : l.length ≤ 1000) : SP 138 [ints l,.func (.func 139) 0 []] (vb (decide (badI l 0 ≥ 0))) false := by
 have h := S170 l hl
 refine sound (d := 2) tok2 mixed2 Tryz.func138 (by kernel_rfl) (by kernel_rfl) ?_
 (conv=>whnf); refine .inl ⟨_,_,byX rfl (Sound1.pl (h) rfl),?_⟩
 (conv=>whnf); refine ⟨?_,nofun⟩
 (first | contradiction | rfl)
theorem S77 (l : List Int) (hl : l.length ≤ 1000) : SP 77 [ints l] (i64 (if badI l 0 ≥ 0 then 2 else 0)) false := by
 have h := S138 l hl
 have h78 := S78
 by_cases g : badI l 0 ≥ 0
 ·rw [decide_eq_true g] at h
  rw [if_pos g]
  refine sound (d := 2) tok2 mixed2 Tryz.func77 (by kernel_rfl) (by kernel_rfl) ?_
  (conv=>whnf); refine .inl ⟨_,_,byX rfl (Sound1.pl (h) rfl),?_⟩
  (conv=>whnf); refine .inl ⟨_,_,byX rfl (Sound1.pl (h78 _ _) rfl),?_⟩
  (conv=>whnf); refine ⟨?_,nofun⟩
  (first | contradiction | rfl)
 ·rw [decide_eq_false g] at h
  rw [if_neg g]
  refine sound (d := 2) tok2 mixed2 Tryz.func77 (by kernel_rfl) (by kernel_rfl) ?_
  (conv=>whnf); refine .inl ⟨_,_,byX rfl (Sound1.pl (h) rfl),?_⟩
  (conv=>whnf); refine .inl ⟨_,_,byX rfl (Sound1.pl (h78 _ _) rfl),?_⟩
  (conv=>whnf); refine ⟨?_,nofun⟩
  (first | contradiction | rfl)
theorem S77_1 (a : Int) {f : Nat → List AV} (h : f 0 = [i64 a]) : SP 77 [.rslice 1 1 f] (i64 (szE a)) false := by
 have key : ∀ i,i < 1 → f i = [i64 (([a] : List Int).getD i 0)] := fun i hi=>by
  match i,hi with
  | 0,_=>exact h
 have e : (if badI [a] 0 ≥ 0 then (2 : Int) else 0) = szE a := by
  unfold szE badI badI
  by_cases g : -1000 ≤ a ∧ a ≤ 1000
  ·rw [if_pos g,if_pos g]; rfl
  ·rw [if_neg g,if_neg g]; rfl
 have h77 := S77 [a] (by simp)
 rw [e] at h77
 refine h77.argsD rfl fun i y x hy hx=>?_
 match i,hy,hx with
 | 0,hy,hx=>cases hy; cases hx; exact .inr ⟨1,AVF_rows rfl key 0⟩
theorem ave_ln {k : Nat} {l : Ln} : AVE (k + 2) (lnA l) (lnA l) := ave_aggR (by simp [AV.atom])
theorem crvQ_ok {t : List MRow} {f : Int × Int} (hT : TblOk t) (hO : OpOk t f) {l : Ln} (hl : LnOk l) : QOk (crvQ t f) l := by
  have h := (crv_ok hT hO).q hl
  rwa [crv_map hT hO] at h
theorem spL_len {Q : List Q3} {l : Ln} (h : Q.length ≤ 12) : (spL Q l).length ≤ 24 := by
 have h1 := putAll_len (onQ Q l Q.length)
 have h2 := onQ_len Q l Q.length
 show (putAll lt3 (onQ Q l Q.length)).length ≤ 24
 omega
end Go.Tr

/- Plain laws of chapter 5: what lies on a line; flows at a head. Conditions: none. -/
-- seat YtgbdlkajmmjahaaGreat
namespace Go.Tr
open Go Go.Proofs
set_option maxRecDepth 20000
set_option maxHeartbeats 8000000

theorem side_mix (l : Ln) (a b : Q3) (t : Rat) : sideQ l (mixQ a b t) = sideQ l a + t * (sideQ l b - sideQ l a) := by
  unfold sideQ mixQ mix1
  grind
theorem on_side {Q : List Q3} {l : Ln} : ∀ k,∀ q ∈ onQ Q l k,sideQ l q = 0
 | 0,q,h=>by cases h
 | k + 1, q, h => by
  unfold onQ at h
  rcases List.mem_append.1 h with h | h
  ·exact on_side k q h
  ·rcases List.mem_append.1 h with h | h
   ·split at h
    ·rename_i hz
     rw [List.mem_singleton.1 h]; exact hz
    ·cases h
   ·split at h
    ·rename_i hz
     have hne := sgR_mul hz.2
     rw [List.mem_singleton.1 h,side_mix]
     generalize sideQ l (Q.getD k q0) = x at *
     generalize sideQ l (Q.getD (k + 1) q0) = y at *
     have h1 := Rat.mul_inv_cancel (x - y) hne
     rw [Rat.div_def]
     grind
    ·cases h
def hdL (h : Int) : Ln := (1,0,0,h)
theorem hdL_side {h : Int} {q : Q3} (hz : sideQ (hdL h) q = 0) : q.1 = (h : Rat) := by
 unfold sideQ hdL at hz
 dsimp only at hz
 simp only [Rat.intCast_zero,Rat.mul_zero,Rat.add_zero] at hz
 grind
theorem hdL_ok {h : Int} (hs : szE h = 0) : LnOk (hdL h) := by
 unfold szE at hs
 unfold LnOk hdL
 dsimp only
 split at hs
 ·omega
 ·exact absurd hs (by decide)
abbrev ltR (a b : Rat) : Prop := a < b
instance : DecidableRel ltR := fun a b=>inferInstanceAs (Decidable (a < b))
abbrev leR (a b : Rat) : Prop := ¬ b < a
theorem lt3_flow {a b : Q3} (h : lt3 a b) (he : a.1 = b.1) : leR a.2.1 b.2.1 := fun g=>by
 unfold lt3 lt2 at h
 rcases h with h | ⟨_,h | ⟨h,_⟩⟩
 ·rw [he] at h; exact rlt_irr _ h
 ·exact rlt_irr _ (rlt_tr g h)
 ·rw [h] at g; exact rlt_irr _ g
theorem leR_tr (a b c : Rat) (h1 : leR a b) (h2 : leR b c) : leR a c := fun h3=>by
 rcases rlt_tri a b with g | g | g
 ·exact h2 (rlt_tr h3 g)
 ·subst g; exact h2 h3
 ·exact h1 g
end Go.Tr

/- Plain laws of chapter 5: the powers around a triangle; the greatest of numbers. Conditions: none. -/
-- seat YtgbdlkajmmjahaaGreat
namespace Go.Tr
open Go Go.Proofs
set_option maxRecDepth 20000
set_option maxHeartbeats 8000000

def stO (o : Option Rat) (p : Rat) : Option Rat := match o with | none=>some p | some b=>if b < p then some p else some b
def mxO (o : Option Rat) (L : List Rat) : Option Rat := L.foldl stO o
theorem mxO_take (o : Option Rat) (L : List Rat) (j : Nat) (h : j < L.length) : mxO o (L.take (j + 1)) = stO (mxO o (L.take j)) (L.getD j 0) := by
  unfold mxO
  rw [take_succG (d := (0 : Rat)) h,List.foldl_append]; rfl
theorem mxO_app (o : Option Rat) (L M : List Rat) : mxO o (L ++ M) = mxO (mxO o L) M := by unfold mxO; rw [List.foldl_append]
structure IsMx (o : Option Rat) (L : List Rat) : Prop where
 none : o = none ↔ L = []
 mem : ∀ m,o = some m → m ∈ L
 top : ∀ m,o = some m → ∀ x ∈ L,¬ m < x
theorem IsMx.uniq {o o' : Option Rat} {L M : List Rat} (h : IsMx o L) (h' : IsMx o' M) (hm : ∀ x,x ∈ L ↔ x ∈ M) : o = o' := by
 cases o with
 | none =>
  have hL := h.none.1 rfl
  have hM : M = [] := List.eq_nil_iff_forall_not_mem.2 fun x hx=>by
   have := (hm x).2 hx
   rw [hL] at this; cases this
  exact (h'.none.2 hM).symm
 | some m =>
  cases o' with
  | none =>
   have hM := h'.none.1 rfl
   have := (hm m).1 (h.mem m rfl)
   rw [hM] at this; cases this
  | some m' =>
   have h1 := h.top m rfl m' ((hm m').2 (h'.mem m' rfl))
   have h2 := h'.top m' rfl m ((hm m).1 (h.mem m rfl))
   rcases rlt_tri m m' with g | g | g
   ·exact absurd g h1
   ·rw [g]
   ·exact absurd g h2
theorem mx_is (L : List Rat) : IsMx (mxO none L) L := by
 induction L using snoc_ind with
 | h0=>exact ⟨⟨fun _=>rfl,fun _=>rfl⟩,(fun m h=>by cases h),(fun m h=>by cases h)⟩
 | hs l x ih =>
  have e : mxO none (l ++ [x]) = stO (mxO none l) x := by rw [mxO_app]; rfl
  rw [e]
  cases ho : mxO none l with
  | none =>
   have hl := ih.none.1 ho
   subst hl
   refine ⟨⟨(fun h=>by cases h),(fun h=>by simp at h)⟩,fun m h=>?_,fun m h y hy=>?_⟩
   ·cases h; simp
   ·cases h
    have : y = x := by simpa using hy
    rw [this]; exact rlt_irr _
  | some b =>
   have hb := ih.mem b ho
   have ht := ih.top b ho
   have e2 : stO (some b) x = if b < x then some x else some b := rfl
   rw [e2]
   by_cases g : b < x
   ·rw [if_pos g]
    refine ⟨⟨(fun h=>by cases h),(fun h=>by simp at h)⟩,fun m h=>?_,fun m h y hy=>?_⟩
    ·cases h; simp
    ·cases h
     rcases List.mem_append.1 hy with hy | hy
     ·intro h2; exact ht y hy (rlt_tr g h2)
     ·rw [List.mem_singleton.1 hy]; exact rlt_irr _
   ·rw [if_neg g]
    refine ⟨⟨(fun h=>by cases h),(fun h=>by simp at h)⟩,fun m h=>?_,fun m h y hy=>?_⟩
    ·cases h; exact List.mem_append_left _ hb
    ·cases h
     rcases List.mem_append.1 hy with hy | hy
     ·exact ht y hy
     ·rw [List.mem_singleton.1 hy]; exact g
def arnd (x : Tri) : List Nm := [(x.1.1,1),(x.2.1.1,1),(x.2.2.1,1),(x.1.1,1)]
def TriP (x : Tri) : Prop := PtOk x.1.1 ∧ PtOk x.2.1.1 ∧ PtOk x.2.2.1
theorem nm1_ok {p : P3} (h : PtOk p) : NmB 200 (p,1) := by
  unfold PtOk at h
  exact ⟨⟨by show (0 : Int) < 1; decide,by show (1 : Int) ≤ 200; decide⟩,by show -(1000 * 1) ≤ p.1 ∧ p.1 ≤ 1000 * 1; omega,by show -(1000 * 1) ≤ p.2.1 ∧ p.2.1 ≤ 1000 * 1; omega,by show -(10000 * 1) ≤ p.2.2 ∧ p.2.2 ≤ 10000 * 1; omega⟩
theorem arnd_ok {x : Tri} (h : TriP x) : CvOk (arnd x) := by
 refine ⟨by show 4 ≤ 12; decide,fun n hn=>?_,fun n hn m hm=>?_⟩
 ·simp only [arnd,List.mem_cons,List.not_mem_nil,or_false] at hn
  rcases hn with e | e | e | e <;> rw [e]
  ·exact nm1_ok h.1
  ·exact nm1_ok h.2.1
  ·exact nm1_ok h.2.2
  ·exact nm1_ok h.1
 ·simp only [arnd,List.mem_cons,List.not_mem_nil,or_false] at hn hm
  rcases hn with e | e | e | e <;> rcases hm with g | g | g | g <;> rw [e,g]
def One (L : List Nm) : Prop := ∀ n ∈ L,n.2 = 1 ∧ NmB 200 n
theorem one_on {L : List Nm} (hL : One L) {h : Int} (hs : -1000 ≤ h ∧ h ≤ 1000) : ∀ k,k ≤ L.length → ∀ n ∈ onN L (hdL h) k,NmB 4000 n
 | 0,_,n,hn=>by cases hn
 | k + 1, hk, n, hn => by
  have g1 := hL _ (getD_memG (d := n0) (show k < L.length by omega))
  unfold onN at hn
  rcases List.mem_append.1 hn with hn | hn
  ·exact one_on hL hs k (by omega) n hn
  ·rcases List.mem_append.1 hn with hn | hn
   ·split at hn
    ·rw [List.mem_singleton.1 hn]; exact g1.2.mono (by decide)
    ·cases hn
   ·split at hn
    ·rename_i hc
     have g2 := hL _ (getD_memG (d := n0) hc.1)
     rw [List.mem_singleton.1 hn]
     have b1 := g1.2.h
     have b2 := g2.2.h
     rw [g1.1] at b1
     rw [g2.1] at b2
     refine crsN_b g1.2 g2.2 (g1.1.trans g2.1.symm) hc.2 ?_
     rw [g1.1,Int.one_mul]
     unfold sideN hdL
     dsimp only
     rw [g1.1,g2.1]
     omega
    ·cases hn
theorem arnd_one {x : Tri} (h : TriP x) : One (arnd x) := fun n hn=>by
 refine ⟨?_,(arnd_ok h).b n hn⟩
 simp only [arnd,List.mem_cons,List.not_mem_nil,or_false] at hn
 rcases hn with e | e | e | e <;> rw [e]
theorem smR_of {a b : Int} (ha : -1000000000 ≤ a ∧ a ≤ 1000000000) (hb : 0 < b ∧ b ≤ 1000000000) : smR (Rat.divInt a b) := by
 have hf := frac_eq (a := a) hb.1
 have h1 : a.tdiv (gcdI a b) = (Rat.divInt a b).num := congrArg Prod.fst hf
 have h2 : b.tdiv (gcdI a b) = ((Rat.divInt a b).den : Nat) := congrArg Prod.snd hf
 have b1 : ((a.tdiv (gcdI a b)).natAbs) ≤ a.natAbs := Int.natAbs_tdiv_le_natAbs _ _
 have b2 : ((b.tdiv (gcdI a b)).natAbs) ≤ b.natAbs := Int.natAbs_tdiv_le_natAbs _ _
 unfold smR
 omega
theorem nm_pow {n : Nm} (h : NmB 4000 n) : smR (nmQ n).2.2 := by
 have := h.d
 have := h.w
 exact smR_of (by omega) (by omega)
def pws (h : Int) (x : Tri) : List Rat := (onL (arnd x) (hdL h)).map fun n=>(nmQ n).2.2
theorem pws_sm {h : Int} (hs : -1000 ≤ h ∧ h ≤ 1000) {x : Tri} (hx : TriP x) : ∀ p ∈ pws h x,smR p := fun p hp=>by
 obtain ⟨n,hn,e⟩ := List.mem_map.1 hp
 rw [← e]
 exact nm_pow (one_on (arnd_one hx) hs _ (Nat.le_refl _) n hn)
def mxT (h : Int) (o : Option Rat) (L : List Tri) : Option Rat := L.foldl (fun o x=>mxO o (pws h x)) o
theorem mxT_app (h : Int) (o : Option Rat) (L M : List Tri) : mxT h o (L ++ M) = mxT h (mxT h o L) M := by unfold mxT; rw [List.foldl_append]
theorem mxT_flat (h : Int) : ∀ (L : List Tri) (o : Option Rat),mxT h o L = mxO o (L.flatMap (pws h))
 | [],_=>rfl
 | x :: r,o=>by
  show mxT h (mxO o (pws h x)) r = _
  rw [mxT_flat h r,List.flatMap_cons,mxO_app]
theorem mx_sm {o : Option Rat} {L : List Rat} (ho : ∀ m,o = some m → smR m) (hL : ∀ p ∈ L,smR p) : ∀ m,mxO o L = some m → smR m := by
 induction L using snoc_ind with
 | h0=>exact ho
 | hs l x ih =>
  intro m hm
  rw [mxO_app] at hm
  have ih := ih fun p hp=>hL p (by simp [hp])
  have hx := hL x (by simp)
  have hm : stO (mxO o l) x = some m := hm
  cases hq : mxO o l with
  | none=>rw [hq] at hm; cases hm; exact hx
  | some b =>
   rw [hq] at hm
   have e2 : stO (some b) x = if b < x then some x else some b := rfl
   rw [e2] at hm
   split at hm
   ·cases hm; exact hx
   ·cases hm; exact ih _ hq
def frO (o : Option Rat) : Int × Int := match o with | none=>(0,0) | some q=>frI q
end Go.Tr

/- Contracts of chapter 5: flows at a head, points of runaway. Conditions: none. -/
-- seat YtgbdlkajmmjahaaGreat
namespace Go.Tr
open Go Go.Proofs
set_option maxRecDepth 20000
set_option maxHeartbeats 8000000

theorem S91 (h : Int) : SP 91 [i64 h] (lnA (hdL h)) false := by
 refine sound (d := 2) tok2 mixed2 Tryz.func91 (by kernel_rfl) (by kernel_rfl) ?_
 (conv=>whnf); refine ⟨?_,nofun⟩
 (first | contradiction | exact ave_ln (l := hdL h))
theorem S31 (h : Int) : SP 31 [i64 h] (lnA (hdL h)) false := by
 refine sound (d := 2) tok2 mixed2 Tryz.func31 (by kernel_rfl) (by kernel_rfl) ?_
 (conv=>whnf); refine ⟨?_,nofun⟩
 (first | contradiction | exact ave_ln (l := hdL h))
end Go.Tr

/- Contracts of chapter 5: the maximum power at a head. Conditions: none. -/
-- seat YtgbdlkajmmjahaaGreat
namespace Go.Tr
open Go Go.Proofs
set_option maxRecDepth 20000
set_option maxHeartbeats 8000000

def mpE (t : List MRow) (h : Int) : Int := if (chkM t).2 ≠ 0 then (chkM t).2 else szE h
def mpO (t : List MRow) (h : Int) : Option Rat := mxT h none (triT t (t.length - 1))
theorem mpE_ok {t : List MRow} {h : Int} (g : mpE t h = 0) : TblOk t ∧ szE h = 0 := by
 unfold mpE at g
 by_cases h1 : (chkM t).2 = 0
 ·rw [if_neg (not_not_intro h1)] at g; exact ⟨TblOk.of h1,g⟩
 ·rw [if_pos h1] at g; exact absurd g h1
def mpR1 (t : List MRow) (h : Int) : Int := if mpE t h = 0 then (if (mpO t h).isSome = true then 0 else 12) else mpE t h
theorem extE {α : Type} (g : α → List AV) {m : Nat} (hg : ∀ a,(g a).length = m) (f : Nat → α) (k i : Nat) (hi : i < k + 1) (r : List AV) (e : r = g (f k)) : g (f i) = if i < k then g (f (0 + i)) else List.take m (List.drop ((i - k) * m) r) := by
  rw [e]; exact extG g hg f k i hi
def crO (x : Tri) (j : Nat) : Int := [x.1.2,x.2.1.2,x.2.2.2,x.1.2].getD j 0
def crR (x : Tri) (A : List Nm) (j : Nat) : List AV := [i64 (A.getD j n0).1.1,i64 (A.getD j n0).1.2.1,i64 (A.getD j n0).1.2.2,i64 (crO x j)]
theorem crn4 {x : Tri} {A : List Nm} (hA : A = arnd x) {f : Nat → List AV} (h0 : crR x (arnd x) 0 = f 0) (h1 : crR x (arnd x) 1 = f 1) (h2 : crR x (arnd x) 2 = f 2) (h3 : crR x (arnd x) 3 = f 3) : ∀ i,i < 4 → [i64 (A.getD i n0).1.1,i64 (A.getD i n0).1.2.1,i64 (A.getD i n0).1.2.2,i64 (crO x i)] = f i := fun i h=>by
 subst hA
 show crR x (arnd x) i = f i
 rcases (show i = 0 ∨ i = 1 ∨ i = 2 ∨ i = 3 by omega) with e | e | e | e <;> rw [e] <;> assumption
theorem arn_row {x : Tri} {A : List Nm} (hA : A = arnd x) {k : Nat} (hk : k < 4) {j : Nat} (hj : j = k) : [i64 (A.getD j n0).1.1,i64 (A.getD j n0).1.2.1,i64 (A.getD j n0).1.2.2,i64 1] = nmC (A.getD k n0) := by
 subst hA
 subst hj
 rcases (show j = 0 ∨ j = 1 ∨ j = 2 ∨ j = 3 by omega) with e | e | e | e <;> rw [e] <;> rfl
theorem st_none {o : Option Rat} (p : Rat) (h : ¬ o.isSome = true) : stO o p = some p := by
 cases o with
 | none=>rfl
 | some b=>exact absurd rfl h
theorem st_gt {o : Option Rat} {p : Rat} (h : o.isSome = true) (g : 0 < cmpR p (o.getD 0)) : stO o p = some p := by
 cases o with
 | none=>cases h
 | some b=>exact if_pos ((cmpR_pos p b).1 g)
theorem st_le {o : Option Rat} {p : Rat} (h : o.isSome = true) (g : ¬ 0 < cmpR p (o.getD 0)) : stO o p = o := by
 cases o with
 | none=>cases h
 | some b=>exact if_neg (fun e=>g ((cmpR_pos p b).2 e))
theorem c94_o {o : Option Rat} {p : Rat} (h : o.isSome = true) (ho : ∀ m,o = some m → smR m) (hp : smR p) : SP 94 [gaF (frI p),gaF (frO o)] (i64 (cmpR p (o.getD 0))) false := by
 cases o with
 | none=>cases h
 | some b=>exact S94 p b hp (ho b rfl)
theorem mp_end {o o' : Option Rat} {P : List Rat} {b : Nat} (h : o' = mxO o (P.take b)) (hb : P.length ≤ b) : o' = mxO o P := by
  rw [h,List.take_of_length_le hb]
theorem mp_step {h : Int} {o u d : Option Rat} {T K : List Tri} {x y : Tri} {P R : List Rat} (ho : o = mxT h none (T ++ K)) (hP : P = pws h x) (hR : R = pws h y) (hu : u = mxO o P) (hd : d = mxO u R) : d = mxT h none (T ++ (K ++ [x] ++ [y])) := by
 subst hP hR
 rw [hd,hu,ho]
 show mxT h (mxT h (mxT h none (T ++ K)) [x]) [y] = _
 rw [← mxT_app,← mxT_app]
 simp only [List.append_assoc]
theorem mp_x (h : Int) (hl : LnOk (hdL h)) (hs : -1000 ≤ h ∧ h ≤ 1000) (x : Tri) (hx : TriP x) : ∃ (A L : List Nm) (P : List Rat),A = arnd x ∧ P = pws h x ∧ L.length ≤ 12 ∧ P.length = L.length ∧ (∀ k,k < L.length → smR (P.getD k 0)) ∧
  (∀ n,n = 4 → SP 90 [.rslice 4 n fun j=>nmC (A.getD j n0),lnA (hdL h)] (nms L) false) ∧
  ∀ k,k < L.length → SP 92 [i64 (L.getD k n0).1.2.2,i64 (L.getD k n0).2] (.tuple [gaF (frI (P.getD k 0)),i64 0]) false := by
 have hc := arnd_ok hx
 have hPl : (pws h x).length = (onL (arnd x) (hdL h)).length := List.length_map _
 refine ⟨arnd x,onL (arnd x) (hdL h),pws h x,rfl,rfl,onL_len hc _,hPl,fun k hk=>pws_sm hs hx _ (getD_memG (d := (0 : Rat)) (by omega)),(fun n e=>by subst e; exact S90 _ _ hc hl),fun k hk=>?_⟩
 have hb := onL_ok hc hl _ (getD_memG (d := n0) hk)
 have b1 := hb.d
 have b2 := hb.w
 have c := S92p ((onL (arnd x) (hdL h)).getD k n0).1.2.2 ((onL (arnd x) (hdL h)).getD k n0).2 (by omega) (by omega)
 have e : (pws h x).getD k 0 = Rat.divInt ((onL (arnd x) (hdL h)).getD k n0).1.2.2 ((onL (arnd x) (hdL h)).getD k n0).2 := getD_mapG _ _ k n0 0 hk
 have g : smR (Rat.divInt ((onL (arnd x) (hdL h)).getD k n0).1.2.2 ((onL (arnd x) (hdL h)).getD k n0).2) := by
  rw [← e]; exact pws_sm hs hx _ (getD_memG (d := (0 : Rat)) (by omega))
 unfold okR at c
 rw [if_pos g,if_pos g,← e] at c
 exact c
set_option maxHeartbeats 16000000 in
theorem S37 (t : List MRow) (ht : Fit t) (h : Int) : SP 37 [tblA t, i64 h] (.tuple [gaF (if mpE t h = 0 then frO (mpO t h) else (0, 0)), i64 (mpR1 t h)]) false := by
 have h97 := S97 t ht
 have h77 := fun a=>@S77_1 a
 have h76 := @S76_2 (chkM t).2 (szE h)
 rw [first2] at h76
 change ∀ {f' : Nat → List AV},_ → SP 76 _ (i64 (mpE t h)) false at h76
 unfold mpR1
 by_cases h0 : mpE t h = 0
 ·obtain ⟨hT, hs⟩ := mpE_ok h0
  have hR := RwOk.ofT hT
  have hn := hR.n
  have hnp := hR.np
  have hhb : -1000 ≤ h ∧ h ≤ 1000 := by
   unfold szE at hs
   split at hs
   ·assumption
   ·exact absurd hs (by decide)
  rw [h0] at h76
  rw [if_pos h0,if_pos h0]
  refine sound (d := 2) tok2 mixed2 Tryz.func37 (by kernel_rfl) (by kernel_rfl) ?_
  have hln := hdL_ok hs
  have h91 := S91 h
  (conv=>whnf); refine ⟨[],by kernel_rfl,?_⟩
  (conv=>whnf); refine .inl ⟨_,_,byX rfl (Sound1.pl (h97) rfl),?_⟩
  (conv=>whnf); refine .inl ⟨_,_,byX rfl (Sound1.pl (h77 _ rfl) rfl),?_⟩
  (conv=>whnf); refine .inl ⟨_,_,byX rfl (Sound1.pl (h76 ⟨rfl,rfl⟩) rfl),?_⟩
  (conv=>whnf); refine .inr (.inl ⟨[],?_⟩)
  (conv=>whnf); refine ⟨(by first | rfl | assumption),?_⟩
  refine ⟨_,keep_ok [2,3,4,5,7,8,30] _,?_⟩
  (conv=>whnf); refine ⟨inK64 (by omega) (by omega),?_⟩
  (conv=>whnf); refine ⟨[],[0,1,14,15],fun st mq=>∃ (i : Nat) (o : Option Rat) (F4 : Nat → List AV) (F5 : Nat → List AV),(i ≤ t.length - 1) ∧ (o = mxT h none (triT t i)) ∧ (∀ m,o = some m → smR m) ∧ st = ⟨[(0,.yld 0),(1,.optr 8 0 0 0),(14,i64 ((t.length : Int) - 1)),(15,i64 i)],⟨[⟨1,1,fun _=>[rowsA t],0,false,true,true⟩,⟨1,1,fun _=>[i64 h],0,false,true,true⟩,⟨2,1,fun _=>[i64 0,i64 0],0,false,true,true⟩,⟨1,1,fun _=>[i64 0],0,false,true,true⟩,⟨1,1,F4,0,false,true,false⟩,⟨1,2,F5,0,false,true,false⟩,⟨2,1,fun _=>[i64 (frO o).1,i64 (frO o).2],0,false,true,true⟩,⟨1,1,fun _=>[vb o.isSome],0,false,true,true⟩,⟨1,1,fun _=>[rowsA t],0,false,true,true⟩],[],none,1⟩,[(2,.optr 0 0 0 0),(3,.optr 1 0 0 0),(4,.optr 2 0 0 0),(5,.optr 3 0 0 0),(7,.optr 6 0 0 0),(8,.optr 7 0 0 0),(30,.func (.func 155) 0 [.optr 8 0 0 0])]⟩ ∧ mq = t.length - 1 - i,
   ⟨_,_,⟨0,none,_,_,by omega,rfl,nofun,rfl,rfl⟩,⟨⟨.inl rfl,rfl,rfl,rfl⟩,⟨⟨rfl,rfl,rfl,rfl,fun _=>rfl,fun _ _=>.inl rfl⟩,⟨⟨rfl,rfl,rfl,rfl,fun _=>rfl,fun _ _=>.inl rfl⟩,⟨⟨rfl,rfl,rfl,rfl,fun _=>rfl,fun _ _=>.inl rfl⟩,⟨⟨rfl,rfl,rfl,rfl,fun _=>rfl,fun _ _=>.inl rfl⟩,⟨⟨rfl,rfl,rfl,rfl,fun _=>rfl,fun _ _=>.inl rfl⟩,⟨⟨rfl,rfl,rfl,rfl,fun _=>rfl,fun _ _=>.inl rfl⟩,⟨⟨rfl,rfl,rfl,rfl,fun _=>rfl,fun _ _=>.inl rfl⟩,⟨⟨rfl,rfl,rfl,rfl,fun _=>rfl,fun _ _=>.inl rfl⟩,⟨⟨rfl,rfl,rfl,rfl,fun _=>rfl,fun _ _=>.inl rfl⟩,trivial⟩⟩⟩⟩⟩⟩⟩⟩⟩,trivial⟩⟩,?_⟩
  rintro s0 m0 ⟨i,o,F4,F5,hi,ho,hom,rfl,hmeas⟩
  by_cases hlt2 : i < t.length - 1
  ·have hl1 : (t.getD i r0).ps.length = npT t := hR.len i (by omega)
   have hl2 : (t.getD (i + 1) r0).ps.length = npT t := hR.len (i + 1) (by omega)
   have q1 : inK .i64 (((t.getD i r0).ps.length : Int) - 1) := inK_of (by omega)
   conv=>whnf
   (conv=>whnf); refine ifB_dec (fun w1=>?_) (fun w1=>?_)
   ·conv => whnf
    (conv=>whnf); refine ⟨[(6,13),(10,13)],by kernel_rfl,?_⟩
    conv=>whnf
    (conv=>whnf); refine ⟨⟨(by omega),(by omega)⟩,?_⟩
    conv=>whnf
    (conv=>whnf); refine ⟨inK64 (by omega) (by omega),?_⟩
    conv=>whnf
    (conv=>whnf); refine ⟨⟨(by omega),(by omega)⟩,?_⟩
    conv=>whnf
    (conv=>whnf); refine ⟨by assumption,?_⟩
    conv=>whnf
    (conv=>whnf); refine ⟨[],[0,1,3,4,5,14,15,32,33],fun st mq=>∃ (k : Nat) (o : Option Rat) (F4 : Nat → List AV) (F5 : Nat → List AV),(k ≤ npT t - 1) ∧ (o = mxT h none (triT t i ++ triK t i k)) ∧ (∀ m,o = some m → smR m) ∧ st = ⟨[(0,.yld 0),(1,.optr 8 0 0 0),(3,i64 i),(4,.optr 9 0 0 0),(5,.optr 10 0 0 0),(14,i64 ((t.length : Int) - 1)),(15,i64 i),(32,i64 (((t.getD i r0).ps.length : Int) - 1)),(33,i64 k)],⟨[⟨1,1,fun _=>[rowsA t],0,false,true,true⟩,⟨1,1,fun _=>[i64 h],0,false,true,true⟩,⟨2,1,fun _=>[i64 0,i64 0],0,false,true,true⟩,⟨1,1,fun _=>[i64 0],0,false,true,true⟩,⟨1,1,F4,0,false,true,false⟩,⟨1,2,F5,0,false,true,false⟩,⟨2,1,fun _=>[i64 (frO o).1,i64 (frO o).2],0,false,true,true⟩,⟨1,1,fun _=>[vb o.isSome],0,false,true,true⟩,⟨1,1,fun _=>[rowsA t],0,false,true,true⟩,⟨2,1,fun _=>[i64 (t.getD i r0).o,ptsA (t.getD i r0).ps],0,false,true,true⟩,⟨2,1,fun _=>[i64 (t.getD (i + 1) r0).o,ptsA (t.getD (i + 1) r0).ps],0,false,true,true⟩],[],none,1⟩,[(2,.optr 0 0 0 0),(3,.optr 1 0 0 0),(4,.optr 2 0 0 0),(5,.optr 3 0 0 0),(7,.optr 6 0 0 0),(8,.optr 7 0 0 0),(30,.func (.func 155) 0 [.optr 8 0 0 0])]⟩ ∧ mq = npT t - 1 - k,
     ⟨_,_,⟨0,o,_,_,by omega,(by rw [ho]; congr 1; exact (List.append_nil _).symm),hom,rfl,rfl⟩,⟨⟨.inl rfl,rfl,rfl,rfl⟩,⟨⟨rfl,rfl,rfl,rfl,fun _=>rfl,fun _ _=>.inl rfl⟩,⟨⟨rfl,rfl,rfl,rfl,fun _=>rfl,fun _ _=>.inl rfl⟩,⟨⟨rfl,rfl,rfl,rfl,fun _=>rfl,fun _ _=>.inl rfl⟩,⟨⟨rfl,rfl,rfl,rfl,fun _=>rfl,fun _ _=>.inl rfl⟩,⟨⟨rfl,rfl,rfl,rfl,fun _=>rfl,fun _ _=>.inl rfl⟩,⟨⟨rfl,rfl,rfl,rfl,fun _=>rfl,fun _ _=>.inl rfl⟩,⟨⟨rfl,rfl,rfl,rfl,fun _=>rfl,fun _ _=>.inl rfl⟩,⟨⟨rfl,rfl,rfl,rfl,fun _=>rfl,fun _ _=>.inl rfl⟩,⟨⟨rfl,rfl,rfl,rfl,fun _=>rfl,fun _ _=>.inl rfl⟩,⟨⟨rfl,rfl,rfl,rfl,fun _=>rfl,fun _ _=>.inl rfl⟩,⟨⟨rfl,rfl,rfl,rfl,fun _=>rfl,fun _ _=>.inl rfl⟩,trivial⟩⟩⟩⟩⟩⟩⟩⟩⟩⟩⟩,trivial⟩⟩,?_⟩
    rintro s0 m0 ⟨k,o,F4,F5,hk,ho,hom,rfl,hmeas⟩
    by_cases hlt3 : k < npT t - 1
    ·have p1 := hR.pts i k (by omega) (by omega)
     have p2 := hR.pts i (k + 1) (by omega) (by omega)
     have p3 := hR.pts (i + 1) k (by omega) (by omega)
     have p4 := hR.pts (i + 1) (k + 1) (by omega) (by omega)
     obtain ⟨AU,LU,PU,hAU,hPU,hLU,hPlU,hPsU,h90U,h92U⟩ := mp_x h hln hhb (triU t i k) ⟨p1,p2,p3⟩
     obtain ⟨AD,LD,PD,hAD,hPD,hLD,hPlD,hPsD,h90D,h92D⟩ := mp_x h hln hhb (triD t i k) ⟨p2,p4,p3⟩
     conv=>whnf
     conv=>whnf
     (conv=>whnf); refine ifB_dec (fun w2=>?_) (fun w2=>?_)
     ·conv => whnf
      conv=>whnf
      (conv=>whnf); refine ⟨[(9,19),(13,19),(15,19)],by kernel_rfl,?_⟩
      conv=>whnf
      conv=>whnf
      (conv=>whnf); refine ⟨⟨(by omega),(by omega)⟩,?_⟩
      conv=>whnf
      conv=>whnf
      (conv=>whnf); refine ⟨inK64 (by omega) (by omega),?_⟩
      conv=>whnf
      conv=>whnf
      (conv=>whnf); refine ⟨⟨(by omega),(by omega)⟩,?_⟩
      conv=>whnf
      conv=>whnf
      (conv=>whnf); refine ⟨[(9,19),(13,19),(15,19)],by kernel_rfl,?_⟩
      conv=>whnf
      conv=>whnf
      (conv=>whnf); refine ⟨⟨(by omega),(by omega)⟩,?_⟩
      conv=>whnf
      conv=>whnf
      (conv=>whnf); refine ⟨inK64 (by omega) (by omega),?_⟩
      conv=>whnf
      conv=>whnf
      (conv=>whnf); refine ⟨⟨(by omega),(by omega)⟩,?_⟩
      conv=>whnf
      conv=>whnf
      (conv=>whnf); refine ⟨(by first | rfl | assumption),?_⟩
      conv=>whnf
      conv=>whnf
      (conv=>whnf); refine ⟨[],by kernel_rfl,?_⟩
      conv=>whnf
      conv=>whnf
      (conv=>whnf); refine ⟨⟨(by omega),(by omega)⟩,?_⟩
      conv=>whnf
      conv=>whnf
      (conv=>whnf); refine ⟨⟨(by omega),(by show _ * (32 + 1) ≤ _; omega)⟩,?_⟩
      conv=>whnf
      conv=>whnf
      (conv=>whnf); refine ⟨[.slot 11 4,.forget [2,6,11,12,13,16,17,18,19,20,21,22,23,24,25,26,27,28,29,30,31,34,35,36,37,38,39,40,41,42,43,44,45,46,47,48,49,50,51,52,53,54,55,56,57,58,59,60,61,62,63,64,65,66,67,68,69,70,71,72,73,74,75,76,77,78,79,80,81,82,83,84,85,86,87,88,89,90,91,96,99,100,101,102,103,104,105,106,107,108,109,110,111,112,113,114,115,116,117,118,119,121,122,123,124,125,126,127,128,129,130,131,132,133,134,135,136,137,138,139,140,141,142,143,144,145,146,147,148,149,150,151,152,153,154,155,156,157,158,159,160,161,162,163,164,165,166,167,168,169,170,171,172,173,174,175,176,177,178,179,180,181,182,183,184,185,186,187,188,189,190,191,192,193,194,195,196,197,198,199,200,201,202,203,204,205,206,207,208,209,210,211,212,213,214,215,216,217,218,219,220,221,222,223,224,225,226,227,228,229]],[39,38,37,11,3,4,5,7,8],fun st mq=>∃ (aU : Nat) (F4 : Nat → List AV) (F5 : Nat → List AV) (F15 : Nat → List AV) (F16 : Nat → List AV),(aU ≤ 4) ∧ st = ⟨[(39,i64 aU),(38,i64 4),(37,.oslice 17 0 0 4 none),(11,.oslice 18 0 0 aU none),(3,.optr 1 0 0 0),(4,.optr 2 0 0 0),(5,.optr 3 0 0 0),(7,.optr 6 0 0 0),(8,.optr 7 0 0 0)],⟨[⟨1,1,fun _=>[rowsA t],0,false,true,true⟩,⟨1,1,fun _=>[i64 h],0,false,true,true⟩,⟨2,1,fun _=>[i64 0,i64 0],0,false,true,true⟩,⟨1,1,fun _=>[i64 0],0,false,true,true⟩,⟨1,1,F4,0,false,true,false⟩,⟨1,2,F5,0,false,true,false⟩,⟨2,1,fun _=>[i64 (frO o).1,i64 (frO o).2],0,false,true,true⟩,⟨1,1,fun _=>[vb o.isSome],0,false,true,true⟩,⟨1,1,fun _=>[rowsA t],0,false,true,true⟩,⟨2,1,fun _=>[i64 (t.getD i r0).o,ptsA (t.getD i r0).ps],0,false,true,true⟩,⟨2,1,fun _=>[i64 (t.getD (i + 1) r0).o,ptsA (t.getD (i + 1) r0).ps],0,false,true,true⟩,⟨4,1,fun _=>[i64 (ptT t (i) (k)).1,i64 (ptT t (i) (k)).2.1,i64 (ptT t (i) (k)).2.2,i64 (t.getD (i) r0).o],0,false,true,true⟩,⟨4,1,fun _=>[i64 (ptT t (i) (k + 1)).1,i64 (ptT t (i) (k + 1)).2.1,i64 (ptT t (i) (k + 1)).2.2,i64 (t.getD (i) r0).o],0,false,true,true⟩,⟨4,1,fun _=>[i64 (ptT t (i + 1) (k)).1,i64 (ptT t (i + 1) (k)).2.1,i64 (ptT t (i + 1) (k)).2.2,i64 (t.getD (i + 1) r0).o],0,false,true,true⟩,⟨4,1,fun _=>[i64 (ptT t (i + 1) (k + 1)).1,i64 (ptT t (i + 1) (k + 1)).2.1,i64 (ptT t (i + 1) (k + 1)).2.2,i64 (t.getD (i + 1) r0).o],0,false,true,true⟩,⟨12,1,F15,0,false,true,false⟩,⟨4,1,F16,0,false,true,false⟩,⟨4,4,fun j=>[i64 (AU.getD j n0).1.1,i64 (AU.getD j n0).1.2.1,i64 (AU.getD j n0).1.2.2,i64 (crO (triU t i k) j)],0,false,true,false⟩,⟨4,aU,fun j=>nmC (AU.getD j n0),0,false,true,false⟩],[],none,1⟩,[(10,.optr 14 0 0 0),(9,.optr 13 0 0 0),(8,.optr 12 0 0 0),(7,.optr 11 0 0 0),(0,.yld 0),(1,.optr 8 0 0 0),(3,i64 i),(4,.optr 9 0 0 0),(5,.optr 10 0 0 0),(14,i64 ((t.length : Int) - 1)),(15,i64 i),(32,i64 (((t.getD i r0).ps.length : Int) - 1)),(33,i64 k),(92,.optr 0 0 0 0),(93,.optr 1 0 0 0),(94,.optr 2 0 0 0),(95,.optr 3 0 0 0),(97,.optr 6 0 0 0),(98,.optr 7 0 0 0),(120,.func (.func 155) 0 [.optr 8 0 0 0])]⟩ ∧ mq = 4 - aU,
       ⟨_,_,⟨0,_,_,_,_,by omega,rfl,rfl⟩,⟨⟨.inl rfl,rfl,rfl,rfl⟩,⟨⟨rfl,rfl,rfl,rfl,fun _=>rfl,fun _ _=>.inl rfl⟩,⟨⟨rfl,rfl,rfl,rfl,fun _=>rfl,fun _ _=>.inl rfl⟩,⟨⟨rfl,rfl,rfl,rfl,fun _=>rfl,fun _ _=>.inl rfl⟩,⟨⟨rfl,rfl,rfl,rfl,fun _=>rfl,fun _ _=>.inl rfl⟩,⟨⟨rfl,rfl,rfl,rfl,fun _=>rfl,fun _ _=>.inl rfl⟩,⟨⟨rfl,rfl,rfl,rfl,fun _=>rfl,fun _ _=>.inl rfl⟩,⟨⟨rfl,rfl,rfl,rfl,fun _=>rfl,fun _ _=>.inl rfl⟩,⟨⟨rfl,rfl,rfl,rfl,fun _=>rfl,fun _ _=>.inl rfl⟩,⟨⟨rfl,rfl,rfl,rfl,fun _=>rfl,fun _ _=>.inl rfl⟩,⟨⟨rfl,rfl,rfl,rfl,fun _=>rfl,fun _ _=>.inl rfl⟩,⟨⟨rfl,rfl,rfl,rfl,fun _=>rfl,fun _ _=>.inl rfl⟩,⟨⟨rfl,rfl,rfl,rfl,fun _=>rfl,fun _ _=>.inl rfl⟩,⟨⟨rfl,rfl,rfl,rfl,fun _=>rfl,fun _ _=>.inl rfl⟩,⟨⟨rfl,rfl,rfl,rfl,fun _=>rfl,fun _ _=>.inl rfl⟩,⟨⟨rfl,rfl,rfl,rfl,fun _=>rfl,fun _ _=>.inl rfl⟩,⟨⟨rfl,rfl,rfl,rfl,fun _=>rfl,fun _ _=>.inl rfl⟩,⟨⟨rfl,rfl,rfl,rfl,fun _=>rfl,fun _ _=>.inl rfl⟩,⟨⟨rfl,rfl,rfl,rfl,fun _=>rfl,fun i hi=>.inl (crn4 hAU (by rfl) (by rfl) (by rfl) (by rfl) i hi)⟩,⟨⟨rfl,rfl,rfl,rfl,fun _=>rfl,fun i h=>.inl (absurd h (Nat.not_lt_zero i))⟩,trivial⟩⟩⟩⟩⟩⟩⟩⟩⟩⟩⟩⟩⟩⟩⟩⟩⟩⟩⟩,trivial⟩⟩,?_⟩
      rintro s0 m0 ⟨aU,F4,F5,F15,F16,haU,rfl,hmeas⟩
      by_cases hltU : aU < 4
      ·have c101 := S101 (AU.getD aU n0).1
       conv=>whnf
       conv=>whnf
       conv=>whnf
       (conv=>whnf); refine ifB_dec (fun w3=>?_) (fun w3=>?_)
       ·conv=>whnf
        conv=>whnf
        conv=>whnf
        (conv=>whnf); refine ⟨⟨(by omega),(by omega)⟩,?_⟩
        conv=>whnf
        conv=>whnf
        conv=>whnf
        (conv=>whnf); refine .inl ⟨_,_,byX rfl (Sound1.pl (S101 _) rfl),?_⟩
        conv=>whnf
        conv=>whnf
        conv=>whnf
        (conv=>whnf); refine .inl ?_
        conv=>whnf
        conv=>whnf
        conv=>whnf
        (conv=>whnf); refine ⟨(by show _ * (32 + 1) ≤ _; omega),?_⟩
        conv=>whnf
        conv=>whnf
        conv=>whnf
        (conv=>whnf); refine ⟨inK64 (by omega) (by omega),?_⟩
        conv=>whnf
        conv=>whnf
        conv=>whnf
        (conv=>whnf); refine ⟨_,_,⟨⟨aU + 1,_,_,_,_,by omega,rfl,rfl⟩,by omega⟩,⟨⟨.inl rfl,rfl,rfl,rfl⟩,⟨⟨rfl,rfl,rfl,rfl,fun _=>rfl,fun _ _=>.inl rfl⟩,⟨⟨rfl,rfl,rfl,rfl,fun _=>rfl,fun _ _=>.inl rfl⟩,⟨⟨rfl,rfl,rfl,rfl,fun _=>rfl,fun _ _=>.inl rfl⟩,⟨⟨rfl,rfl,rfl,rfl,fun _=>rfl,fun _ _=>.inl rfl⟩,⟨⟨rfl,rfl,rfl,rfl,fun _=>rfl,fun _ _=>.inl rfl⟩,⟨⟨rfl,rfl,rfl,rfl,fun _=>rfl,fun _ _=>.inl rfl⟩,⟨⟨rfl,rfl,rfl,rfl,fun _=>rfl,fun _ _=>.inl rfl⟩,⟨⟨rfl,rfl,rfl,rfl,fun _=>rfl,fun _ _=>.inl rfl⟩,⟨⟨rfl,rfl,rfl,rfl,fun _=>rfl,fun _ _=>.inl rfl⟩,⟨⟨rfl,rfl,rfl,rfl,fun _=>rfl,fun _ _=>.inl rfl⟩,⟨⟨rfl,rfl,rfl,rfl,fun _=>rfl,fun _ _=>.inl rfl⟩,⟨⟨rfl,rfl,rfl,rfl,fun _=>rfl,fun _ _=>.inl rfl⟩,⟨⟨rfl,rfl,rfl,rfl,fun _=>rfl,fun _ _=>.inl rfl⟩,⟨⟨rfl,rfl,rfl,rfl,fun _=>rfl,fun _ _=>.inl rfl⟩,⟨⟨rfl,rfl,rfl,rfl,fun _=>rfl,fun _ _=>.inl rfl⟩,⟨⟨rfl,rfl,rfl,rfl,fun _=>rfl,fun _ _=>.inl rfl⟩,⟨⟨rfl,rfl,rfl,rfl,fun _=>rfl,fun _ _=>.inl rfl⟩,⟨⟨rfl,rfl,rfl,rfl,fun _=>rfl,fun _ _=>.inl rfl⟩,⟨⟨rfl,rfl,rfl,rfl,fun _=>rfl,fun i hi=>.inl (extE nmC (m := 4) (fun _=>rfl) (fun i=>AU.getD i n0) aU i hi _ (arn_row hAU hltU (Nat.zero_add aU)))⟩,trivial⟩⟩⟩⟩⟩⟩⟩⟩⟩⟩⟩⟩⟩⟩⟩⟩⟩⟩⟩,trivial⟩⟩
       ·(exfalso; omega)
      ·have h90 := h90U aU (by omega)
       conv=>whnf
       conv=>whnf
       conv=>whnf
       (conv=>whnf); refine ifB_dec (fun w3=>?_) (fun w3=>?_)
       ·(exfalso; omega)
       ·conv => whnf
        conv=>whnf
        conv=>whnf
        (conv=>whnf); refine .inl ⟨_,_,byX rfl (Sound1.pl (h91) rfl),?_⟩
        conv=>whnf
        conv=>whnf
        conv=>whnf
        (conv=>whnf); refine .inl ⟨_,_,byX rfl (h90),?_⟩
        conv=>whnf
        conv=>whnf
        conv=>whnf
        (conv=>whnf); refine ⟨[],[56,55,54,3,4,5,7,8],fun st mq=>∃ (bU : Nat) (oU : Option Rat) (F4 : Nat → List AV) (F5 : Nat → List AV) (F15 : Nat → List AV) (F16 : Nat → List AV) (F17 : Nat → List AV),(bU ≤ LU.length) ∧ (oU = mxO o (PU.take bU)) ∧ (∀ m,oU = some m → smR m) ∧ st = ⟨[(56,i64 bU),(55,i64 LU.length),(54,nms LU),(3,.optr 1 0 0 0),(4,.optr 2 0 0 0),(5,.optr 3 0 0 0),(7,.optr 6 0 0 0),(8,.optr 7 0 0 0)],⟨[⟨1,1,fun _=>[rowsA t],0,false,true,true⟩,⟨1,1,fun _=>[i64 h],0,false,true,true⟩,⟨2,1,fun _=>[i64 0,i64 0],0,false,true,true⟩,⟨1,1,fun _=>[i64 0],0,false,true,true⟩,⟨1,1,F4,0,false,true,false⟩,⟨1,2,F5,0,false,true,false⟩,⟨2,1,fun _=>[i64 (frO oU).1,i64 (frO oU).2],0,false,true,true⟩,⟨1,1,fun _=>[vb oU.isSome],0,false,true,true⟩,⟨1,1,fun _=>[rowsA t],0,false,true,true⟩,⟨2,1,fun _=>[i64 (t.getD i r0).o,ptsA (t.getD i r0).ps],0,false,true,true⟩,⟨2,1,fun _=>[i64 (t.getD (i + 1) r0).o,ptsA (t.getD (i + 1) r0).ps],0,false,true,true⟩,⟨4,1,fun _=>[i64 (ptT t (i) (k)).1,i64 (ptT t (i) (k)).2.1,i64 (ptT t (i) (k)).2.2,i64 (t.getD (i) r0).o],0,false,true,true⟩,⟨4,1,fun _=>[i64 (ptT t (i) (k + 1)).1,i64 (ptT t (i) (k + 1)).2.1,i64 (ptT t (i) (k + 1)).2.2,i64 (t.getD (i) r0).o],0,false,true,true⟩,⟨4,1,fun _=>[i64 (ptT t (i + 1) (k)).1,i64 (ptT t (i + 1) (k)).2.1,i64 (ptT t (i + 1) (k)).2.2,i64 (t.getD (i + 1) r0).o],0,false,true,true⟩,⟨4,1,fun _=>[i64 (ptT t (i + 1) (k + 1)).1,i64 (ptT t (i + 1) (k + 1)).2.1,i64 (ptT t (i + 1) (k + 1)).2.2,i64 (t.getD (i + 1) r0).o],0,false,true,true⟩,⟨12,1,F15,0,false,true,false⟩,⟨4,1,F16,0,false,true,false⟩,⟨4,4,F17,0,false,true,false⟩,⟨4,aU,fun j=>nmC (AU.getD j n0),0,true,true,false⟩],[],none,1⟩,[(10,.optr 14 0 0 0),(9,.optr 13 0 0 0),(8,.optr 12 0 0 0),(7,.optr 11 0 0 0),(0,.yld 0),(1,.optr 8 0 0 0),(3,i64 i),(4,.optr 9 0 0 0),(5,.optr 10 0 0 0),(14,i64 ((t.length : Int) - 1)),(15,i64 i),(32,i64 (((t.getD i r0).ps.length : Int) - 1)),(33,i64 k),(92,.optr 0 0 0 0),(93,.optr 1 0 0 0),(94,.optr 2 0 0 0),(95,.optr 3 0 0 0),(97,.optr 6 0 0 0),(98,.optr 7 0 0 0),(120,.func (.func 155) 0 [.optr 8 0 0 0])]⟩ ∧ mq = LU.length - bU,
         ⟨_,_,⟨0,o,_,_,_,_,_,by omega,rfl,hom,rfl,rfl⟩,⟨⟨.inl rfl,rfl,rfl,rfl⟩,⟨⟨rfl,rfl,rfl,rfl,fun _=>rfl,fun _ _=>.inl rfl⟩,⟨⟨rfl,rfl,rfl,rfl,fun _=>rfl,fun _ _=>.inl rfl⟩,⟨⟨rfl,rfl,rfl,rfl,fun _=>rfl,fun _ _=>.inl rfl⟩,⟨⟨rfl,rfl,rfl,rfl,fun _=>rfl,fun _ _=>.inl rfl⟩,⟨⟨rfl,rfl,rfl,rfl,fun _=>rfl,fun _ _=>.inl rfl⟩,⟨⟨rfl,rfl,rfl,rfl,fun _=>rfl,fun _ _=>.inl rfl⟩,⟨⟨rfl,rfl,rfl,rfl,fun _=>rfl,fun _ _=>.inl rfl⟩,⟨⟨rfl,rfl,rfl,rfl,fun _=>rfl,fun _ _=>.inl rfl⟩,⟨⟨rfl,rfl,rfl,rfl,fun _=>rfl,fun _ _=>.inl rfl⟩,⟨⟨rfl,rfl,rfl,rfl,fun _=>rfl,fun _ _=>.inl rfl⟩,⟨⟨rfl,rfl,rfl,rfl,fun _=>rfl,fun _ _=>.inl rfl⟩,⟨⟨rfl,rfl,rfl,rfl,fun _=>rfl,fun _ _=>.inl rfl⟩,⟨⟨rfl,rfl,rfl,rfl,fun _=>rfl,fun _ _=>.inl rfl⟩,⟨⟨rfl,rfl,rfl,rfl,fun _=>rfl,fun _ _=>.inl rfl⟩,⟨⟨rfl,rfl,rfl,rfl,fun _=>rfl,fun _ _=>.inl rfl⟩,⟨⟨rfl,rfl,rfl,rfl,fun _=>rfl,fun _ _=>.inl rfl⟩,⟨⟨rfl,rfl,rfl,rfl,fun _=>rfl,fun _ _=>.inl rfl⟩,⟨⟨rfl,rfl,rfl,rfl,fun _=>rfl,fun _ _=>.inl rfl⟩,⟨⟨rfl,rfl,rfl,rfl,fun _=>rfl,fun _ _=>.inl rfl⟩,trivial⟩⟩⟩⟩⟩⟩⟩⟩⟩⟩⟩⟩⟩⟩⟩⟩⟩⟩⟩,trivial⟩⟩,?_⟩
        rintro s0 m0 ⟨bU,oU,F4,F5,F15,F16,F17,hbU,hoU,hmU,rfl,hmeas⟩
        by_cases hlU : bU < LU.length
        ·have c92 := h92U bU hlU
         have hps := hPsU bU hlU
         have e1 : mxO o (PU.take (bU + 1)) = stO oU (PU.getD bU 0) := by rw [mxO_take _ _ _ (by omega),← hoU]
         by_cases g1 : oU.isSome = true
         ·have c94 := c94_o g1 hmU hps
          by_cases g2 : 0 < cmpR (PU.getD bU 0) (oU.getD 0)
          ·conv=>whnf
           conv=>whnf
           conv=>whnf
           conv=>whnf
           (conv=>whnf); refine ifB_dec (fun w4=>?_) (fun w4=>?_)
           ·conv=>whnf
            conv=>whnf
            conv=>whnf
            conv=>whnf
            (conv=>whnf); refine ⟨⟨(by omega),(by omega)⟩,?_⟩
            conv=>whnf
            conv=>whnf
            conv=>whnf
            conv=>whnf
            (conv=>whnf); refine ⟨⟨(by omega),(by omega)⟩,?_⟩
            conv=>whnf
            conv=>whnf
            conv=>whnf
            conv=>whnf
            (conv=>whnf); refine .inl ⟨_,_,byX rfl (Sound1.pl (c92) rfl),?_⟩
            conv=>whnf
            conv=>whnf
            conv=>whnf
            conv=>whnf
            (conv=>whnf); refine ifB_not ?_
            conv=>whnf
            conv=>whnf
            conv=>whnf
            conv=>whnf
            (conv=>whnf); refine ifB_intro (fun w5=>?_) (fun w5=>?_)
            ·conv=>whnf
             conv=>whnf
             conv=>whnf
             conv=>whnf
             (conv=>whnf); refine .inl ⟨_,_,byX rfl (Sound1.pl (c94) rfl),?_⟩
             conv=>whnf
             conv=>whnf
             conv=>whnf
             conv=>whnf
             (conv=>whnf); refine ifB_dec (fun w6=>?_) (fun w6=>?_)
             ·conv=>whnf
              conv=>whnf
              conv=>whnf
              conv=>whnf
              (conv=>whnf); refine ⟨inK64 (by omega) (by omega),?_⟩
              conv=>whnf
              conv=>whnf
              conv=>whnf
              conv=>whnf
              (conv=>whnf); refine ⟨_,_,⟨⟨bU + 1,some (PU.getD bU 0),_,_,_,_,_,by omega,(by rw [e1,st_gt g1 g2]),(fun m e=>by cases e; exact hps),rfl,rfl⟩,by omega⟩,⟨⟨.inl rfl,rfl,rfl,rfl⟩,⟨⟨rfl,rfl,rfl,rfl,fun _=>rfl,fun _ _=>.inl rfl⟩,⟨⟨rfl,rfl,rfl,rfl,fun _=>rfl,fun _ _=>.inl rfl⟩,⟨⟨rfl,rfl,rfl,rfl,fun _=>rfl,fun _ _=>.inl rfl⟩,⟨⟨rfl,rfl,rfl,rfl,fun _=>rfl,fun _ _=>.inl rfl⟩,⟨⟨rfl,rfl,rfl,rfl,fun _=>rfl,fun _ _=>.inl rfl⟩,⟨⟨rfl,rfl,rfl,rfl,fun _=>rfl,fun _ _=>.inl rfl⟩,⟨⟨rfl,rfl,rfl,rfl,fun _=>rfl,fun _ _=>.inl rfl⟩,⟨⟨rfl,rfl,rfl,rfl,fun _=>rfl,fun _ _=>.inl rfl⟩,⟨⟨rfl,rfl,rfl,rfl,fun _=>rfl,fun _ _=>.inl rfl⟩,⟨⟨rfl,rfl,rfl,rfl,fun _=>rfl,fun _ _=>.inl rfl⟩,⟨⟨rfl,rfl,rfl,rfl,fun _=>rfl,fun _ _=>.inl rfl⟩,⟨⟨rfl,rfl,rfl,rfl,fun _=>rfl,fun _ _=>.inl rfl⟩,⟨⟨rfl,rfl,rfl,rfl,fun _=>rfl,fun _ _=>.inl rfl⟩,⟨⟨rfl,rfl,rfl,rfl,fun _=>rfl,fun _ _=>.inl rfl⟩,⟨⟨rfl,rfl,rfl,rfl,fun _=>rfl,fun _ _=>.inl rfl⟩,⟨⟨rfl,rfl,rfl,rfl,fun _=>rfl,fun _ _=>.inl rfl⟩,⟨⟨rfl,rfl,rfl,rfl,fun _=>rfl,fun _ _=>.inl rfl⟩,⟨⟨rfl,rfl,rfl,rfl,fun _=>rfl,fun _ _=>.inl rfl⟩,⟨⟨rfl,rfl,rfl,rfl,fun _=>rfl,fun _ _=>.inl rfl⟩,trivial⟩⟩⟩⟩⟩⟩⟩⟩⟩⟩⟩⟩⟩⟩⟩⟩⟩⟩⟩,trivial⟩⟩
             ·(exfalso; omega)
            ·exact absurd (g1.symm.trans w5) nofun
           ·(exfalso; omega)
          ·conv=>whnf
           conv=>whnf
           conv=>whnf
           conv=>whnf
           (conv=>whnf); refine ifB_dec (fun w4=>?_) (fun w4=>?_)
           ·conv=>whnf
            conv=>whnf
            conv=>whnf
            conv=>whnf
            (conv=>whnf); refine ⟨⟨(by omega),(by omega)⟩,?_⟩
            conv=>whnf
            conv=>whnf
            conv=>whnf
            conv=>whnf
            (conv=>whnf); refine ⟨⟨(by omega),(by omega)⟩,?_⟩
            conv=>whnf
            conv=>whnf
            conv=>whnf
            conv=>whnf
            (conv=>whnf); refine .inl ⟨_,_,byX rfl (Sound1.pl (c92) rfl),?_⟩
            conv=>whnf
            conv=>whnf
            conv=>whnf
            conv=>whnf
            (conv=>whnf); refine ifB_not ?_
            conv=>whnf
            conv=>whnf
            conv=>whnf
            conv=>whnf
            (conv=>whnf); refine ifB_intro (fun w5=>?_) (fun w5=>?_)
            ·conv=>whnf
             conv=>whnf
             conv=>whnf
             conv=>whnf
             (conv=>whnf); refine .inl ⟨_,_,byX rfl (Sound1.pl (c94) rfl),?_⟩
             conv=>whnf
             conv=>whnf
             conv=>whnf
             conv=>whnf
             (conv=>whnf); refine ifB_dec (fun w6=>?_) (fun w6=>?_)
             ·(exfalso; omega)
             ·conv=>whnf
              conv=>whnf
              conv=>whnf
              conv=>whnf
              (conv=>whnf); refine ⟨inK64 (by omega) (by omega),?_⟩
              conv=>whnf
              conv=>whnf
              conv=>whnf
              conv=>whnf
              (conv=>whnf); refine ⟨_,_,⟨⟨bU + 1,oU,_,_,_,_,_,by omega,(by rw [e1,st_le g1 g2]),hmU,rfl,rfl⟩,by omega⟩,⟨⟨.inl rfl,rfl,rfl,rfl⟩,⟨⟨rfl,rfl,rfl,rfl,fun _=>rfl,fun _ _=>.inl rfl⟩,⟨⟨rfl,rfl,rfl,rfl,fun _=>rfl,fun _ _=>.inl rfl⟩,⟨⟨rfl,rfl,rfl,rfl,fun _=>rfl,fun _ _=>.inl rfl⟩,⟨⟨rfl,rfl,rfl,rfl,fun _=>rfl,fun _ _=>.inl rfl⟩,⟨⟨rfl,rfl,rfl,rfl,fun _=>rfl,fun _ _=>.inl rfl⟩,⟨⟨rfl,rfl,rfl,rfl,fun _=>rfl,fun _ _=>.inl rfl⟩,⟨⟨rfl,rfl,rfl,rfl,fun _=>rfl,fun _ _=>.inl rfl⟩,⟨⟨rfl,rfl,rfl,rfl,fun _=>rfl,fun _ _=>.inl rfl⟩,⟨⟨rfl,rfl,rfl,rfl,fun _=>rfl,fun _ _=>.inl rfl⟩,⟨⟨rfl,rfl,rfl,rfl,fun _=>rfl,fun _ _=>.inl rfl⟩,⟨⟨rfl,rfl,rfl,rfl,fun _=>rfl,fun _ _=>.inl rfl⟩,⟨⟨rfl,rfl,rfl,rfl,fun _=>rfl,fun _ _=>.inl rfl⟩,⟨⟨rfl,rfl,rfl,rfl,fun _=>rfl,fun _ _=>.inl rfl⟩,⟨⟨rfl,rfl,rfl,rfl,fun _=>rfl,fun _ _=>.inl rfl⟩,⟨⟨rfl,rfl,rfl,rfl,fun _=>rfl,fun _ _=>.inl rfl⟩,⟨⟨rfl,rfl,rfl,rfl,fun _=>rfl,fun _ _=>.inl rfl⟩,⟨⟨rfl,rfl,rfl,rfl,fun _=>rfl,fun _ _=>.inl rfl⟩,⟨⟨rfl,rfl,rfl,rfl,fun _=>rfl,fun _ _=>.inl rfl⟩,⟨⟨rfl,rfl,rfl,rfl,fun _=>rfl,fun _ _=>.inl rfl⟩,trivial⟩⟩⟩⟩⟩⟩⟩⟩⟩⟩⟩⟩⟩⟩⟩⟩⟩⟩⟩,trivial⟩⟩
            ·exact absurd (g1.symm.trans w5) nofun
           ·(exfalso; omega)
         ·conv=>whnf
          conv=>whnf
          conv=>whnf
          conv=>whnf
          (conv=>whnf); refine ifB_dec (fun w4=>?_) (fun w4=>?_)
          ·conv=>whnf
           conv=>whnf
           conv=>whnf
           conv=>whnf
           (conv=>whnf); refine ⟨⟨(by omega),(by omega)⟩,?_⟩
           conv=>whnf
           conv=>whnf
           conv=>whnf
           conv=>whnf
           (conv=>whnf); refine ⟨⟨(by omega),(by omega)⟩,?_⟩
           conv=>whnf
           conv=>whnf
           conv=>whnf
           conv=>whnf
           (conv=>whnf); refine .inl ⟨_,_,byX rfl (Sound1.pl (c92) rfl),?_⟩
           conv=>whnf
           conv=>whnf
           conv=>whnf
           conv=>whnf
           (conv=>whnf); refine ifB_not ?_
           conv=>whnf
           conv=>whnf
           conv=>whnf
           conv=>whnf
           (conv=>whnf); refine ifB_intro (fun w5=>?_) (fun w5=>?_)
           ·(first | contradiction | omega)
           ·conv=>whnf
            conv=>whnf
            conv=>whnf
            conv=>whnf
            (conv=>whnf); refine ⟨inK64 (by omega) (by omega),?_⟩
            conv=>whnf
            conv=>whnf
            conv=>whnf
            conv=>whnf
            (conv=>whnf); refine ⟨_,_,⟨⟨bU + 1,some (PU.getD bU 0),_,_,_,_,_,by omega,(by rw [e1,st_none _ g1]),(fun m e=>by cases e; exact hps),rfl,rfl⟩,by omega⟩,⟨⟨.inl rfl,rfl,rfl,rfl⟩,⟨⟨rfl,rfl,rfl,rfl,fun _=>rfl,fun _ _=>.inl rfl⟩,⟨⟨rfl,rfl,rfl,rfl,fun _=>rfl,fun _ _=>.inl rfl⟩,⟨⟨rfl,rfl,rfl,rfl,fun _=>rfl,fun _ _=>.inl rfl⟩,⟨⟨rfl,rfl,rfl,rfl,fun _=>rfl,fun _ _=>.inl rfl⟩,⟨⟨rfl,rfl,rfl,rfl,fun _=>rfl,fun _ _=>.inl rfl⟩,⟨⟨rfl,rfl,rfl,rfl,fun _=>rfl,fun _ _=>.inl rfl⟩,⟨⟨rfl,rfl,rfl,rfl,fun _=>rfl,fun _ _=>.inl rfl⟩,⟨⟨rfl,rfl,rfl,rfl,fun _=>rfl,fun _ _=>.inl rfl⟩,⟨⟨rfl,rfl,rfl,rfl,fun _=>rfl,fun _ _=>.inl rfl⟩,⟨⟨rfl,rfl,rfl,rfl,fun _=>rfl,fun _ _=>.inl rfl⟩,⟨⟨rfl,rfl,rfl,rfl,fun _=>rfl,fun _ _=>.inl rfl⟩,⟨⟨rfl,rfl,rfl,rfl,fun _=>rfl,fun _ _=>.inl rfl⟩,⟨⟨rfl,rfl,rfl,rfl,fun _=>rfl,fun _ _=>.inl rfl⟩,⟨⟨rfl,rfl,rfl,rfl,fun _=>rfl,fun _ _=>.inl rfl⟩,⟨⟨rfl,rfl,rfl,rfl,fun _=>rfl,fun _ _=>.inl rfl⟩,⟨⟨rfl,rfl,rfl,rfl,fun _=>rfl,fun _ _=>.inl rfl⟩,⟨⟨rfl,rfl,rfl,rfl,fun _=>rfl,fun _ _=>.inl rfl⟩,⟨⟨rfl,rfl,rfl,rfl,fun _=>rfl,fun _ _=>.inl rfl⟩,⟨⟨rfl,rfl,rfl,rfl,fun _=>rfl,fun _ _=>.inl rfl⟩,trivial⟩⟩⟩⟩⟩⟩⟩⟩⟩⟩⟩⟩⟩⟩⟩⟩⟩⟩⟩,trivial⟩⟩
          ·(exfalso; omega)
        ·have heU := mp_end hoU (by omega)
         conv=>whnf
         conv=>whnf
         conv=>whnf
         conv=>whnf
         (conv=>whnf); refine ifB_dec (fun w4=>?_) (fun w4=>?_)
         ·(exfalso; omega)
         ·conv => whnf
          conv=>whnf
          conv=>whnf
          conv=>whnf
          (conv=>whnf); refine ⟨(by first | rfl | assumption),?_⟩
          conv=>whnf
          conv=>whnf
          conv=>whnf
          conv=>whnf
          (conv=>whnf); refine ⟨[],by kernel_rfl,?_⟩
          conv=>whnf
          conv=>whnf
          conv=>whnf
          conv=>whnf
          (conv=>whnf); refine ⟨⟨(by omega),(by omega)⟩,?_⟩
          conv=>whnf
          conv=>whnf
          conv=>whnf
          conv=>whnf
          (conv=>whnf); refine ⟨⟨(by omega),(by show _ * (32 + 1) ≤ _; omega)⟩,?_⟩
          conv=>whnf
          conv=>whnf
          conv=>whnf
          conv=>whnf
          (conv=>whnf); refine ⟨[.slot 11 4,.forget [2,6,11,12,13,16,17,18,19,20,21,22,23,24,25,26,27,28,29,30,31,34,35,36,37,38,39,40,41,42,43,44,45,46,47,48,49,50,51,52,53,54,55,56,57,58,59,60,61,62,63,64,65,66,67,68,69,70,71,72,73,74,75,76,77,79,80,81,82,83,84,85,86,87,88,89,90,91,96,99,100,101,102,103,104,105,106,107,108,109,110,111,112,113,114,115,116,117,118,119,121,122,123,124,125,126,127,128,129,130,131,132,133,134,135,136,137,138,139,140,141,142,143,144,145,146,147,148,149,150,151,152,153,154,155,156,157,158,159,160,161,162,163,164,165,166,167,168,169,170,171,172,173,174,175,176,177,178,179,180,181,182,183,184,185,186,187,188,189,190,191,192,193,194,195,196,197,198,199,200,201,202,203,204,205,206,207,208,209,210,211,212,213,214,215,216,217,218,219,220,221,222,223,224,225,226,227,228,229]],[39,38,37,11,3,4,5,7,8],fun st mq=>∃ (aD : Nat) (F4 : Nat → List AV) (F5 : Nat → List AV) (F15 : Nat → List AV) (F16 : Nat → List AV) (F17 : Nat → List AV) (F19 : Nat → List AV) (F20 : Nat → List AV),(aD ≤ 4) ∧ st = ⟨[(39,i64 aD),(38,i64 4),(37,.oslice 21 0 0 4 none),(11,.oslice 22 0 0 aD none),(3,.optr 1 0 0 0),(4,.optr 2 0 0 0),(5,.optr 3 0 0 0),(7,.optr 6 0 0 0),(8,.optr 7 0 0 0)],⟨[⟨1,1,fun _=>[rowsA t],0,false,true,true⟩,⟨1,1,fun _=>[i64 h],0,false,true,true⟩,⟨2,1,fun _=>[i64 0,i64 0],0,false,true,true⟩,⟨1,1,fun _=>[i64 0],0,false,true,true⟩,⟨1,1,F4,0,false,true,false⟩,⟨1,2,F5,0,false,true,false⟩,⟨2,1,fun _=>[i64 (frO oU).1,i64 (frO oU).2],0,false,true,true⟩,⟨1,1,fun _=>[vb oU.isSome],0,false,true,true⟩,⟨1,1,fun _=>[rowsA t],0,false,true,true⟩,⟨2,1,fun _=>[i64 (t.getD i r0).o,ptsA (t.getD i r0).ps],0,false,true,true⟩,⟨2,1,fun _=>[i64 (t.getD (i + 1) r0).o,ptsA (t.getD (i + 1) r0).ps],0,false,true,true⟩,⟨4,1,fun _=>[i64 (ptT t (i) (k)).1,i64 (ptT t (i) (k)).2.1,i64 (ptT t (i) (k)).2.2,i64 (t.getD (i) r0).o],0,false,true,true⟩,⟨4,1,fun _=>[i64 (ptT t (i) (k + 1)).1,i64 (ptT t (i) (k + 1)).2.1,i64 (ptT t (i) (k + 1)).2.2,i64 (t.getD (i) r0).o],0,false,true,true⟩,⟨4,1,fun _=>[i64 (ptT t (i + 1) (k)).1,i64 (ptT t (i + 1) (k)).2.1,i64 (ptT t (i + 1) (k)).2.2,i64 (t.getD (i + 1) r0).o],0,false,true,true⟩,⟨4,1,fun _=>[i64 (ptT t (i + 1) (k + 1)).1,i64 (ptT t (i + 1) (k + 1)).2.1,i64 (ptT t (i + 1) (k + 1)).2.2,i64 (t.getD (i + 1) r0).o],0,false,true,true⟩,⟨12,1,F15,0,false,true,false⟩,⟨4,1,F16,0,false,true,false⟩,⟨4,4,F17,0,false,true,false⟩,⟨4,aU,fun j=>nmC (AU.getD j n0),0,true,true,false⟩,⟨12,1,F19,0,false,true,false⟩,⟨4,1,F20,0,false,true,false⟩,⟨4,4,fun j=>[i64 (AD.getD j n0).1.1,i64 (AD.getD j n0).1.2.1,i64 (AD.getD j n0).1.2.2,i64 (crO (triD t i k) j)],0,false,true,false⟩,⟨4,aD,fun j=>nmC (AD.getD j n0),0,false,true,false⟩],[],none,1⟩,[(78,vb false),(78,vb false),(78,vb false),(78,vb false),(78,vb false),(78,vb false),(78,vb false),(78,vb false),(10,.optr 14 0 0 0),(9,.optr 13 0 0 0),(8,.optr 12 0 0 0),(7,.optr 11 0 0 0),(0,.yld 0),(1,.optr 8 0 0 0),(3,i64 i),(4,.optr 9 0 0 0),(5,.optr 10 0 0 0),(14,i64 ((t.length : Int) - 1)),(15,i64 i),(32,i64 (((t.getD i r0).ps.length : Int) - 1)),(33,i64 k),(92,.optr 0 0 0 0),(93,.optr 1 0 0 0),(94,.optr 2 0 0 0),(95,.optr 3 0 0 0),(97,.optr 6 0 0 0),(98,.optr 7 0 0 0),(120,.func (.func 155) 0 [.optr 8 0 0 0])]⟩ ∧ mq = 4 - aD,
           ⟨_,_,⟨0,_,_,_,_,_,_,_,by omega,rfl,rfl⟩,⟨⟨.inl rfl,rfl,rfl,rfl⟩,⟨⟨rfl,rfl,rfl,rfl,fun _=>rfl,fun _ _=>.inl rfl⟩,⟨⟨rfl,rfl,rfl,rfl,fun _=>rfl,fun _ _=>.inl rfl⟩,⟨⟨rfl,rfl,rfl,rfl,fun _=>rfl,fun _ _=>.inl rfl⟩,⟨⟨rfl,rfl,rfl,rfl,fun _=>rfl,fun _ _=>.inl rfl⟩,⟨⟨rfl,rfl,rfl,rfl,fun _=>rfl,fun _ _=>.inl rfl⟩,⟨⟨rfl,rfl,rfl,rfl,fun _=>rfl,fun _ _=>.inl rfl⟩,⟨⟨rfl,rfl,rfl,rfl,fun _=>rfl,fun _ _=>.inl rfl⟩,⟨⟨rfl,rfl,rfl,rfl,fun _=>rfl,fun _ _=>.inl rfl⟩,⟨⟨rfl,rfl,rfl,rfl,fun _=>rfl,fun _ _=>.inl rfl⟩,⟨⟨rfl,rfl,rfl,rfl,fun _=>rfl,fun _ _=>.inl rfl⟩,⟨⟨rfl,rfl,rfl,rfl,fun _=>rfl,fun _ _=>.inl rfl⟩,⟨⟨rfl,rfl,rfl,rfl,fun _=>rfl,fun _ _=>.inl rfl⟩,⟨⟨rfl,rfl,rfl,rfl,fun _=>rfl,fun _ _=>.inl rfl⟩,⟨⟨rfl,rfl,rfl,rfl,fun _=>rfl,fun _ _=>.inl rfl⟩,⟨⟨rfl,rfl,rfl,rfl,fun _=>rfl,fun _ _=>.inl rfl⟩,⟨⟨rfl,rfl,rfl,rfl,fun _=>rfl,fun _ _=>.inl rfl⟩,⟨⟨rfl,rfl,rfl,rfl,fun _=>rfl,fun _ _=>.inl rfl⟩,⟨⟨rfl,rfl,rfl,rfl,fun _=>rfl,fun _ _=>.inl rfl⟩,⟨⟨rfl,rfl,rfl,rfl,fun _=>rfl,fun _ _=>.inl rfl⟩,⟨⟨rfl,rfl,rfl,rfl,fun _=>rfl,fun _ _=>.inl rfl⟩,⟨⟨rfl,rfl,rfl,rfl,fun _=>rfl,fun _ _=>.inl rfl⟩,⟨⟨rfl,rfl,rfl,rfl,fun _=>rfl,fun i hi=>.inl (crn4 hAD (by rfl) (by rfl) (by rfl) (by rfl) i hi)⟩,⟨⟨rfl,rfl,rfl,rfl,fun _=>rfl,fun i h=>.inl (absurd h (Nat.not_lt_zero i))⟩,trivial⟩⟩⟩⟩⟩⟩⟩⟩⟩⟩⟩⟩⟩⟩⟩⟩⟩⟩⟩⟩⟩⟩⟩,trivial⟩⟩,?_⟩
          rintro s0 m0 ⟨aD,F4,F5,F15,F16,F17,F19,F20,haD,rfl,hmeas⟩
          by_cases hltD : aD < 4
          ·have c101 := S101 (AD.getD aD n0).1
           conv=>whnf
           conv=>whnf
           conv=>whnf
           conv=>whnf
           conv=>whnf
           (conv=>whnf); refine ifB_dec (fun w5=>?_) (fun w5=>?_)
           ·conv=>whnf
            conv=>whnf
            conv=>whnf
            conv=>whnf
            conv=>whnf
            (conv=>whnf); refine ⟨⟨(by omega),(by omega)⟩,?_⟩
            conv=>whnf
            conv=>whnf
            conv=>whnf
            conv=>whnf
            conv=>whnf
            (conv=>whnf); refine .inl ⟨_,_,byX rfl (Sound1.pl (S101 _) rfl),?_⟩
            conv=>whnf
            conv=>whnf
            conv=>whnf
            conv=>whnf
            conv=>whnf
            (conv=>whnf); refine .inl ?_
            conv=>whnf
            conv=>whnf
            conv=>whnf
            conv=>whnf
            conv=>whnf
            (conv=>whnf); refine ⟨(by show _ * (32 + 1) ≤ _; omega),?_⟩
            conv=>whnf
            conv=>whnf
            conv=>whnf
            conv=>whnf
            conv=>whnf
            (conv=>whnf); refine ⟨inK64 (by omega) (by omega),?_⟩
            conv=>whnf
            conv=>whnf
            conv=>whnf
            conv=>whnf
            conv=>whnf
            (conv=>whnf); refine ⟨_,_,⟨⟨aD + 1,_,_,_,_,_,_,_,by omega,rfl,rfl⟩,by omega⟩,⟨⟨.inl rfl,rfl,rfl,rfl⟩,⟨⟨rfl,rfl,rfl,rfl,fun _=>rfl,fun _ _=>.inl rfl⟩,⟨⟨rfl,rfl,rfl,rfl,fun _=>rfl,fun _ _=>.inl rfl⟩,⟨⟨rfl,rfl,rfl,rfl,fun _=>rfl,fun _ _=>.inl rfl⟩,⟨⟨rfl,rfl,rfl,rfl,fun _=>rfl,fun _ _=>.inl rfl⟩,⟨⟨rfl,rfl,rfl,rfl,fun _=>rfl,fun _ _=>.inl rfl⟩,⟨⟨rfl,rfl,rfl,rfl,fun _=>rfl,fun _ _=>.inl rfl⟩,⟨⟨rfl,rfl,rfl,rfl,fun _=>rfl,fun _ _=>.inl rfl⟩,⟨⟨rfl,rfl,rfl,rfl,fun _=>rfl,fun _ _=>.inl rfl⟩,⟨⟨rfl,rfl,rfl,rfl,fun _=>rfl,fun _ _=>.inl rfl⟩,⟨⟨rfl,rfl,rfl,rfl,fun _=>rfl,fun _ _=>.inl rfl⟩,⟨⟨rfl,rfl,rfl,rfl,fun _=>rfl,fun _ _=>.inl rfl⟩,⟨⟨rfl,rfl,rfl,rfl,fun _=>rfl,fun _ _=>.inl rfl⟩,⟨⟨rfl,rfl,rfl,rfl,fun _=>rfl,fun _ _=>.inl rfl⟩,⟨⟨rfl,rfl,rfl,rfl,fun _=>rfl,fun _ _=>.inl rfl⟩,⟨⟨rfl,rfl,rfl,rfl,fun _=>rfl,fun _ _=>.inl rfl⟩,⟨⟨rfl,rfl,rfl,rfl,fun _=>rfl,fun _ _=>.inl rfl⟩,⟨⟨rfl,rfl,rfl,rfl,fun _=>rfl,fun _ _=>.inl rfl⟩,⟨⟨rfl,rfl,rfl,rfl,fun _=>rfl,fun _ _=>.inl rfl⟩,⟨⟨rfl,rfl,rfl,rfl,fun _=>rfl,fun _ _=>.inl rfl⟩,⟨⟨rfl,rfl,rfl,rfl,fun _=>rfl,fun _ _=>.inl rfl⟩,⟨⟨rfl,rfl,rfl,rfl,fun _=>rfl,fun _ _=>.inl rfl⟩,⟨⟨rfl,rfl,rfl,rfl,fun _=>rfl,fun _ _=>.inl rfl⟩,⟨⟨rfl,rfl,rfl,rfl,fun _=>rfl,fun i hi=>.inl (extE nmC (m := 4) (fun _=>rfl) (fun i=>AD.getD i n0) aD i hi _ (arn_row hAD hltD (Nat.zero_add aD)))⟩,trivial⟩⟩⟩⟩⟩⟩⟩⟩⟩⟩⟩⟩⟩⟩⟩⟩⟩⟩⟩⟩⟩⟩⟩,trivial⟩⟩
           ·(exfalso; omega)
          ·have h90 := h90D aD (by omega)
           conv=>whnf
           conv=>whnf
           conv=>whnf
           conv=>whnf
           conv=>whnf
           (conv=>whnf); refine ifB_dec (fun w5=>?_) (fun w5=>?_)
           ·(exfalso; omega)
           ·conv => whnf
            conv=>whnf
            conv=>whnf
            conv=>whnf
            conv=>whnf
            (conv=>whnf); refine .inl ⟨_,_,byX rfl (Sound1.pl (h91) rfl),?_⟩
            conv=>whnf
            conv=>whnf
            conv=>whnf
            conv=>whnf
            conv=>whnf
            (conv=>whnf); refine .inl ⟨_,_,byX rfl (h90),?_⟩
            conv=>whnf
            conv=>whnf
            conv=>whnf
            conv=>whnf
            conv=>whnf
            (conv=>whnf); refine ⟨[],[56,55,54,3,4,5,7,8],fun st mq=>∃ (bD : Nat) (oD : Option Rat) (F4 : Nat → List AV) (F5 : Nat → List AV) (F15 : Nat → List AV) (F16 : Nat → List AV) (F17 : Nat → List AV) (F19 : Nat → List AV) (F20 : Nat → List AV) (F21 : Nat → List AV),(bD ≤ LD.length) ∧ (oD = mxO oU (PD.take bD)) ∧ (∀ m,oD = some m → smR m) ∧ st = ⟨[(56,i64 bD),(55,i64 LD.length),(54,nms LD),(3,.optr 1 0 0 0),(4,.optr 2 0 0 0),(5,.optr 3 0 0 0),(7,.optr 6 0 0 0),(8,.optr 7 0 0 0)],⟨[⟨1,1,fun _=>[rowsA t],0,false,true,true⟩,⟨1,1,fun _=>[i64 h],0,false,true,true⟩,⟨2,1,fun _=>[i64 0,i64 0],0,false,true,true⟩,⟨1,1,fun _=>[i64 0],0,false,true,true⟩,⟨1,1,F4,0,false,true,false⟩,⟨1,2,F5,0,false,true,false⟩,⟨2,1,fun _=>[i64 (frO oD).1,i64 (frO oD).2],0,false,true,true⟩,⟨1,1,fun _=>[vb oD.isSome],0,false,true,true⟩,⟨1,1,fun _=>[rowsA t],0,false,true,true⟩,⟨2,1,fun _=>[i64 (t.getD i r0).o,ptsA (t.getD i r0).ps],0,false,true,true⟩,⟨2,1,fun _=>[i64 (t.getD (i + 1) r0).o,ptsA (t.getD (i + 1) r0).ps],0,false,true,true⟩,⟨4,1,fun _=>[i64 (ptT t (i) (k)).1,i64 (ptT t (i) (k)).2.1,i64 (ptT t (i) (k)).2.2,i64 (t.getD (i) r0).o],0,false,true,true⟩,⟨4,1,fun _=>[i64 (ptT t (i) (k + 1)).1,i64 (ptT t (i) (k + 1)).2.1,i64 (ptT t (i) (k + 1)).2.2,i64 (t.getD (i) r0).o],0,false,true,true⟩,⟨4,1,fun _=>[i64 (ptT t (i + 1) (k)).1,i64 (ptT t (i + 1) (k)).2.1,i64 (ptT t (i + 1) (k)).2.2,i64 (t.getD (i + 1) r0).o],0,false,true,true⟩,⟨4,1,fun _=>[i64 (ptT t (i + 1) (k + 1)).1,i64 (ptT t (i + 1) (k + 1)).2.1,i64 (ptT t (i + 1) (k + 1)).2.2,i64 (t.getD (i + 1) r0).o],0,false,true,true⟩,⟨12,1,F15,0,false,true,false⟩,⟨4,1,F16,0,false,true,false⟩,⟨4,4,F17,0,false,true,false⟩,⟨4,aU,fun j=>nmC (AU.getD j n0),0,true,true,false⟩,⟨12,1,F19,0,false,true,false⟩,⟨4,1,F20,0,false,true,false⟩,⟨4,4,F21,0,false,true,false⟩,⟨4,aD,fun j=>nmC (AD.getD j n0),0,true,true,false⟩],[],none,1⟩,[(78,vb false),(78,vb false),(78,vb false),(78,vb false),(78,vb false),(78,vb false),(78,vb false),(78,vb false),(10,.optr 14 0 0 0),(9,.optr 13 0 0 0),(8,.optr 12 0 0 0),(7,.optr 11 0 0 0),(0,.yld 0),(1,.optr 8 0 0 0),(3,i64 i),(4,.optr 9 0 0 0),(5,.optr 10 0 0 0),(14,i64 ((t.length : Int) - 1)),(15,i64 i),(32,i64 (((t.getD i r0).ps.length : Int) - 1)),(33,i64 k),(92,.optr 0 0 0 0),(93,.optr 1 0 0 0),(94,.optr 2 0 0 0),(95,.optr 3 0 0 0),(97,.optr 6 0 0 0),(98,.optr 7 0 0 0),(120,.func (.func 155) 0 [.optr 8 0 0 0])]⟩ ∧ mq = LD.length - bD,
             ⟨_,_,⟨0,oU,_,_,_,_,_,_,_,_,by omega,rfl,hmU,rfl,rfl⟩,⟨⟨.inl rfl,rfl,rfl,rfl⟩,⟨⟨rfl,rfl,rfl,rfl,fun _=>rfl,fun _ _=>.inl rfl⟩,⟨⟨rfl,rfl,rfl,rfl,fun _=>rfl,fun _ _=>.inl rfl⟩,⟨⟨rfl,rfl,rfl,rfl,fun _=>rfl,fun _ _=>.inl rfl⟩,⟨⟨rfl,rfl,rfl,rfl,fun _=>rfl,fun _ _=>.inl rfl⟩,⟨⟨rfl,rfl,rfl,rfl,fun _=>rfl,fun _ _=>.inl rfl⟩,⟨⟨rfl,rfl,rfl,rfl,fun _=>rfl,fun _ _=>.inl rfl⟩,⟨⟨rfl,rfl,rfl,rfl,fun _=>rfl,fun _ _=>.inl rfl⟩,⟨⟨rfl,rfl,rfl,rfl,fun _=>rfl,fun _ _=>.inl rfl⟩,⟨⟨rfl,rfl,rfl,rfl,fun _=>rfl,fun _ _=>.inl rfl⟩,⟨⟨rfl,rfl,rfl,rfl,fun _=>rfl,fun _ _=>.inl rfl⟩,⟨⟨rfl,rfl,rfl,rfl,fun _=>rfl,fun _ _=>.inl rfl⟩,⟨⟨rfl,rfl,rfl,rfl,fun _=>rfl,fun _ _=>.inl rfl⟩,⟨⟨rfl,rfl,rfl,rfl,fun _=>rfl,fun _ _=>.inl rfl⟩,⟨⟨rfl,rfl,rfl,rfl,fun _=>rfl,fun _ _=>.inl rfl⟩,⟨⟨rfl,rfl,rfl,rfl,fun _=>rfl,fun _ _=>.inl rfl⟩,⟨⟨rfl,rfl,rfl,rfl,fun _=>rfl,fun _ _=>.inl rfl⟩,⟨⟨rfl,rfl,rfl,rfl,fun _=>rfl,fun _ _=>.inl rfl⟩,⟨⟨rfl,rfl,rfl,rfl,fun _=>rfl,fun _ _=>.inl rfl⟩,⟨⟨rfl,rfl,rfl,rfl,fun _=>rfl,fun _ _=>.inl rfl⟩,⟨⟨rfl,rfl,rfl,rfl,fun _=>rfl,fun _ _=>.inl rfl⟩,⟨⟨rfl,rfl,rfl,rfl,fun _=>rfl,fun _ _=>.inl rfl⟩,⟨⟨rfl,rfl,rfl,rfl,fun _=>rfl,fun _ _=>.inl rfl⟩,⟨⟨rfl,rfl,rfl,rfl,fun _=>rfl,fun _ _=>.inl rfl⟩,trivial⟩⟩⟩⟩⟩⟩⟩⟩⟩⟩⟩⟩⟩⟩⟩⟩⟩⟩⟩⟩⟩⟩⟩,trivial⟩⟩,?_⟩
            rintro s0 m0 ⟨bD,oD,F4,F5,F15,F16,F17,F19,F20,F21,hbD,hoD,hmD,rfl,hmeas⟩
            by_cases hlD : bD < LD.length
            ·have c92 := h92D bD hlD
             have hps := hPsD bD hlD
             have e1 : mxO oU (PD.take (bD + 1)) = stO oD (PD.getD bD 0) := by rw [mxO_take _ _ _ (by omega),← hoD]
             by_cases g1 : oD.isSome = true
             ·have c94 := c94_o g1 hmD hps
              by_cases g2 : 0 < cmpR (PD.getD bD 0) (oD.getD 0)
              ·conv=>whnf
               conv=>whnf
               conv=>whnf
               conv=>whnf
               conv=>whnf
               conv=>whnf
               (conv=>whnf); refine ifB_dec (fun w6=>?_) (fun w6=>?_)
               ·conv=>whnf
                conv=>whnf
                conv=>whnf
                conv=>whnf
                conv=>whnf
                conv=>whnf
                (conv=>whnf); refine ⟨⟨(by omega),(by omega)⟩,?_⟩
                conv=>whnf
                conv=>whnf
                conv=>whnf
                conv=>whnf
                conv=>whnf
                conv=>whnf
                (conv=>whnf); refine ⟨⟨(by omega),(by omega)⟩,?_⟩
                conv=>whnf
                conv=>whnf
                conv=>whnf
                conv=>whnf
                conv=>whnf
                conv=>whnf
                (conv=>whnf); refine .inl ⟨_,_,byX rfl (Sound1.pl (c92) rfl),?_⟩
                conv=>whnf
                conv=>whnf
                conv=>whnf
                conv=>whnf
                conv=>whnf
                conv=>whnf
                (conv=>whnf); refine ifB_not ?_
                conv=>whnf
                conv=>whnf
                conv=>whnf
                conv=>whnf
                conv=>whnf
                conv=>whnf
                (conv=>whnf); refine ifB_intro (fun w7=>?_) (fun w7=>?_)
                ·conv=>whnf
                 conv=>whnf
                 conv=>whnf
                 conv=>whnf
                 conv=>whnf
                 conv=>whnf
                 (conv=>whnf); refine .inl ⟨_,_,byX rfl (Sound1.pl (c94) rfl),?_⟩
                 conv=>whnf
                 conv=>whnf
                 conv=>whnf
                 conv=>whnf
                 conv=>whnf
                 conv=>whnf
                 (conv=>whnf); refine ifB_dec (fun w8=>?_) (fun w8=>?_)
                 ·conv=>whnf
                  conv=>whnf
                  conv=>whnf
                  conv=>whnf
                  conv=>whnf
                  conv=>whnf
                  (conv=>whnf); refine ⟨inK64 (by omega) (by omega),?_⟩
                  conv=>whnf
                  conv=>whnf
                  conv=>whnf
                  conv=>whnf
                  conv=>whnf
                  conv=>whnf
                  (conv=>whnf); refine ⟨_,_,⟨⟨bD + 1,some (PD.getD bD 0),_,_,_,_,_,_,_,_,by omega,(by rw [e1,st_gt g1 g2]),(fun m e=>by cases e; exact hps),rfl,rfl⟩,by omega⟩,⟨⟨.inl rfl,rfl,rfl,rfl⟩,⟨⟨rfl,rfl,rfl,rfl,fun _=>rfl,fun _ _=>.inl rfl⟩,⟨⟨rfl,rfl,rfl,rfl,fun _=>rfl,fun _ _=>.inl rfl⟩,⟨⟨rfl,rfl,rfl,rfl,fun _=>rfl,fun _ _=>.inl rfl⟩,⟨⟨rfl,rfl,rfl,rfl,fun _=>rfl,fun _ _=>.inl rfl⟩,⟨⟨rfl,rfl,rfl,rfl,fun _=>rfl,fun _ _=>.inl rfl⟩,⟨⟨rfl,rfl,rfl,rfl,fun _=>rfl,fun _ _=>.inl rfl⟩,⟨⟨rfl,rfl,rfl,rfl,fun _=>rfl,fun _ _=>.inl rfl⟩,⟨⟨rfl,rfl,rfl,rfl,fun _=>rfl,fun _ _=>.inl rfl⟩,⟨⟨rfl,rfl,rfl,rfl,fun _=>rfl,fun _ _=>.inl rfl⟩,⟨⟨rfl,rfl,rfl,rfl,fun _=>rfl,fun _ _=>.inl rfl⟩,⟨⟨rfl,rfl,rfl,rfl,fun _=>rfl,fun _ _=>.inl rfl⟩,⟨⟨rfl,rfl,rfl,rfl,fun _=>rfl,fun _ _=>.inl rfl⟩,⟨⟨rfl,rfl,rfl,rfl,fun _=>rfl,fun _ _=>.inl rfl⟩,⟨⟨rfl,rfl,rfl,rfl,fun _=>rfl,fun _ _=>.inl rfl⟩,⟨⟨rfl,rfl,rfl,rfl,fun _=>rfl,fun _ _=>.inl rfl⟩,⟨⟨rfl,rfl,rfl,rfl,fun _=>rfl,fun _ _=>.inl rfl⟩,⟨⟨rfl,rfl,rfl,rfl,fun _=>rfl,fun _ _=>.inl rfl⟩,⟨⟨rfl,rfl,rfl,rfl,fun _=>rfl,fun _ _=>.inl rfl⟩,⟨⟨rfl,rfl,rfl,rfl,fun _=>rfl,fun _ _=>.inl rfl⟩,⟨⟨rfl,rfl,rfl,rfl,fun _=>rfl,fun _ _=>.inl rfl⟩,⟨⟨rfl,rfl,rfl,rfl,fun _=>rfl,fun _ _=>.inl rfl⟩,⟨⟨rfl,rfl,rfl,rfl,fun _=>rfl,fun _ _=>.inl rfl⟩,⟨⟨rfl,rfl,rfl,rfl,fun _=>rfl,fun _ _=>.inl rfl⟩,trivial⟩⟩⟩⟩⟩⟩⟩⟩⟩⟩⟩⟩⟩⟩⟩⟩⟩⟩⟩⟩⟩⟩⟩,trivial⟩⟩
                 ·(exfalso; omega)
                ·exact absurd (g1.symm.trans w7) nofun
               ·(exfalso; omega)
              ·conv=>whnf
               conv=>whnf
               conv=>whnf
               conv=>whnf
               conv=>whnf
               conv=>whnf
               (conv=>whnf); refine ifB_dec (fun w6=>?_) (fun w6=>?_)
               ·conv=>whnf
                conv=>whnf
                conv=>whnf
                conv=>whnf
                conv=>whnf
                conv=>whnf
                (conv=>whnf); refine ⟨⟨(by omega),(by omega)⟩,?_⟩
                conv=>whnf
                conv=>whnf
                conv=>whnf
                conv=>whnf
                conv=>whnf
                conv=>whnf
                (conv=>whnf); refine ⟨⟨(by omega),(by omega)⟩,?_⟩
                conv=>whnf
                conv=>whnf
                conv=>whnf
                conv=>whnf
                conv=>whnf
                conv=>whnf
                (conv=>whnf); refine .inl ⟨_,_,byX rfl (Sound1.pl (c92) rfl),?_⟩
                conv=>whnf
                conv=>whnf
                conv=>whnf
                conv=>whnf
                conv=>whnf
                conv=>whnf
                (conv=>whnf); refine ifB_not ?_
                conv=>whnf
                conv=>whnf
                conv=>whnf
                conv=>whnf
                conv=>whnf
                conv=>whnf
                (conv=>whnf); refine ifB_intro (fun w7=>?_) (fun w7=>?_)
                ·conv=>whnf
                 conv=>whnf
                 conv=>whnf
                 conv=>whnf
                 conv=>whnf
                 conv=>whnf
                 (conv=>whnf); refine .inl ⟨_,_,byX rfl (Sound1.pl (c94) rfl),?_⟩
                 conv=>whnf
                 conv=>whnf
                 conv=>whnf
                 conv=>whnf
                 conv=>whnf
                 conv=>whnf
                 (conv=>whnf); refine ifB_dec (fun w8=>?_) (fun w8=>?_)
                 ·(exfalso; omega)
                 ·conv=>whnf
                  conv=>whnf
                  conv=>whnf
                  conv=>whnf
                  conv=>whnf
                  conv=>whnf
                  (conv=>whnf); refine ⟨inK64 (by omega) (by omega),?_⟩
                  conv=>whnf
                  conv=>whnf
                  conv=>whnf
                  conv=>whnf
                  conv=>whnf
                  conv=>whnf
                  (conv=>whnf); refine ⟨_,_,⟨⟨bD + 1,oD,_,_,_,_,_,_,_,_,by omega,(by rw [e1,st_le g1 g2]),hmD,rfl,rfl⟩,by omega⟩,⟨⟨.inl rfl,rfl,rfl,rfl⟩,⟨⟨rfl,rfl,rfl,rfl,fun _=>rfl,fun _ _=>.inl rfl⟩,⟨⟨rfl,rfl,rfl,rfl,fun _=>rfl,fun _ _=>.inl rfl⟩,⟨⟨rfl,rfl,rfl,rfl,fun _=>rfl,fun _ _=>.inl rfl⟩,⟨⟨rfl,rfl,rfl,rfl,fun _=>rfl,fun _ _=>.inl rfl⟩,⟨⟨rfl,rfl,rfl,rfl,fun _=>rfl,fun _ _=>.inl rfl⟩,⟨⟨rfl,rfl,rfl,rfl,fun _=>rfl,fun _ _=>.inl rfl⟩,⟨⟨rfl,rfl,rfl,rfl,fun _=>rfl,fun _ _=>.inl rfl⟩,⟨⟨rfl,rfl,rfl,rfl,fun _=>rfl,fun _ _=>.inl rfl⟩,⟨⟨rfl,rfl,rfl,rfl,fun _=>rfl,fun _ _=>.inl rfl⟩,⟨⟨rfl,rfl,rfl,rfl,fun _=>rfl,fun _ _=>.inl rfl⟩,⟨⟨rfl,rfl,rfl,rfl,fun _=>rfl,fun _ _=>.inl rfl⟩,⟨⟨rfl,rfl,rfl,rfl,fun _=>rfl,fun _ _=>.inl rfl⟩,⟨⟨rfl,rfl,rfl,rfl,fun _=>rfl,fun _ _=>.inl rfl⟩,⟨⟨rfl,rfl,rfl,rfl,fun _=>rfl,fun _ _=>.inl rfl⟩,⟨⟨rfl,rfl,rfl,rfl,fun _=>rfl,fun _ _=>.inl rfl⟩,⟨⟨rfl,rfl,rfl,rfl,fun _=>rfl,fun _ _=>.inl rfl⟩,⟨⟨rfl,rfl,rfl,rfl,fun _=>rfl,fun _ _=>.inl rfl⟩,⟨⟨rfl,rfl,rfl,rfl,fun _=>rfl,fun _ _=>.inl rfl⟩,⟨⟨rfl,rfl,rfl,rfl,fun _=>rfl,fun _ _=>.inl rfl⟩,⟨⟨rfl,rfl,rfl,rfl,fun _=>rfl,fun _ _=>.inl rfl⟩,⟨⟨rfl,rfl,rfl,rfl,fun _=>rfl,fun _ _=>.inl rfl⟩,⟨⟨rfl,rfl,rfl,rfl,fun _=>rfl,fun _ _=>.inl rfl⟩,⟨⟨rfl,rfl,rfl,rfl,fun _=>rfl,fun _ _=>.inl rfl⟩,trivial⟩⟩⟩⟩⟩⟩⟩⟩⟩⟩⟩⟩⟩⟩⟩⟩⟩⟩⟩⟩⟩⟩⟩,trivial⟩⟩
                ·exact absurd (g1.symm.trans w7) nofun
               ·(exfalso; omega)
             ·conv=>whnf
              conv=>whnf
              conv=>whnf
              conv=>whnf
              conv=>whnf
              conv=>whnf
              (conv=>whnf); refine ifB_dec (fun w6=>?_) (fun w6=>?_)
              ·conv=>whnf
               conv=>whnf
               conv=>whnf
               conv=>whnf
               conv=>whnf
               conv=>whnf
               (conv=>whnf); refine ⟨⟨(by omega),(by omega)⟩,?_⟩
               conv=>whnf
               conv=>whnf
               conv=>whnf
               conv=>whnf
               conv=>whnf
               conv=>whnf
               (conv=>whnf); refine ⟨⟨(by omega),(by omega)⟩,?_⟩
               conv=>whnf
               conv=>whnf
               conv=>whnf
               conv=>whnf
               conv=>whnf
               conv=>whnf
               (conv=>whnf); refine .inl ⟨_,_,byX rfl (Sound1.pl (c92) rfl),?_⟩
               conv=>whnf
               conv=>whnf
               conv=>whnf
               conv=>whnf
               conv=>whnf
               conv=>whnf
               (conv=>whnf); refine ifB_not ?_
               conv=>whnf
               conv=>whnf
               conv=>whnf
               conv=>whnf
               conv=>whnf
               conv=>whnf
               (conv=>whnf); refine ifB_intro (fun w7=>?_) (fun w7=>?_)
               ·(first | contradiction | omega)
               ·conv=>whnf
                conv=>whnf
                conv=>whnf
                conv=>whnf
                conv=>whnf
                conv=>whnf
                (conv=>whnf); refine ⟨inK64 (by omega) (by omega),?_⟩
                conv=>whnf
                conv=>whnf
                conv=>whnf
                conv=>whnf
                conv=>whnf
                conv=>whnf
                (conv=>whnf); refine ⟨_,_,⟨⟨bD + 1,some (PD.getD bD 0),_,_,_,_,_,_,_,_,by omega,(by rw [e1,st_none _ g1]),(fun m e=>by cases e; exact hps),rfl,rfl⟩,by omega⟩,⟨⟨.inl rfl,rfl,rfl,rfl⟩,⟨⟨rfl,rfl,rfl,rfl,fun _=>rfl,fun _ _=>.inl rfl⟩,⟨⟨rfl,rfl,rfl,rfl,fun _=>rfl,fun _ _=>.inl rfl⟩,⟨⟨rfl,rfl,rfl,rfl,fun _=>rfl,fun _ _=>.inl rfl⟩,⟨⟨rfl,rfl,rfl,rfl,fun _=>rfl,fun _ _=>.inl rfl⟩,⟨⟨rfl,rfl,rfl,rfl,fun _=>rfl,fun _ _=>.inl rfl⟩,⟨⟨rfl,rfl,rfl,rfl,fun _=>rfl,fun _ _=>.inl rfl⟩,⟨⟨rfl,rfl,rfl,rfl,fun _=>rfl,fun _ _=>.inl rfl⟩,⟨⟨rfl,rfl,rfl,rfl,fun _=>rfl,fun _ _=>.inl rfl⟩,⟨⟨rfl,rfl,rfl,rfl,fun _=>rfl,fun _ _=>.inl rfl⟩,⟨⟨rfl,rfl,rfl,rfl,fun _=>rfl,fun _ _=>.inl rfl⟩,⟨⟨rfl,rfl,rfl,rfl,fun _=>rfl,fun _ _=>.inl rfl⟩,⟨⟨rfl,rfl,rfl,rfl,fun _=>rfl,fun _ _=>.inl rfl⟩,⟨⟨rfl,rfl,rfl,rfl,fun _=>rfl,fun _ _=>.inl rfl⟩,⟨⟨rfl,rfl,rfl,rfl,fun _=>rfl,fun _ _=>.inl rfl⟩,⟨⟨rfl,rfl,rfl,rfl,fun _=>rfl,fun _ _=>.inl rfl⟩,⟨⟨rfl,rfl,rfl,rfl,fun _=>rfl,fun _ _=>.inl rfl⟩,⟨⟨rfl,rfl,rfl,rfl,fun _=>rfl,fun _ _=>.inl rfl⟩,⟨⟨rfl,rfl,rfl,rfl,fun _=>rfl,fun _ _=>.inl rfl⟩,⟨⟨rfl,rfl,rfl,rfl,fun _=>rfl,fun _ _=>.inl rfl⟩,⟨⟨rfl,rfl,rfl,rfl,fun _=>rfl,fun _ _=>.inl rfl⟩,⟨⟨rfl,rfl,rfl,rfl,fun _=>rfl,fun _ _=>.inl rfl⟩,⟨⟨rfl,rfl,rfl,rfl,fun _=>rfl,fun _ _=>.inl rfl⟩,⟨⟨rfl,rfl,rfl,rfl,fun _=>rfl,fun _ _=>.inl rfl⟩,trivial⟩⟩⟩⟩⟩⟩⟩⟩⟩⟩⟩⟩⟩⟩⟩⟩⟩⟩⟩⟩⟩⟩⟩,trivial⟩⟩
              ·(exfalso; omega)
            ·have heD := mp_end hoD (by omega)
             conv=>whnf
             conv=>whnf
             conv=>whnf
             conv=>whnf
             conv=>whnf
             conv=>whnf
             (conv=>whnf); refine ifB_dec (fun w6=>?_) (fun w6=>?_)
             ·(exfalso; omega)
             ·conv=>whnf
              conv=>whnf
              conv=>whnf
              conv=>whnf
              conv=>whnf
              conv=>whnf
              (conv=>whnf); refine ⟨inK64 (by omega) (by omega),?_⟩
              conv=>whnf
              conv=>whnf
              conv=>whnf
              conv=>whnf
              conv=>whnf
              conv=>whnf
              (conv=>whnf); refine ⟨_,_,⟨⟨k + 1,oD,_,_,by omega,mp_step ho hPU hPD heU heD,hmD,rfl,rfl⟩,by omega⟩,⟨⟨.inl rfl,rfl,rfl,rfl⟩,⟨⟨rfl,rfl,rfl,rfl,fun _=>rfl,fun _ _=>.inl rfl⟩,⟨⟨rfl,rfl,rfl,rfl,fun _=>rfl,fun _ _=>.inl rfl⟩,⟨⟨rfl,rfl,rfl,rfl,fun _=>rfl,fun _ _=>.inl rfl⟩,⟨⟨rfl,rfl,rfl,rfl,fun _=>rfl,fun _ _=>.inl rfl⟩,⟨⟨rfl,rfl,rfl,rfl,fun _=>rfl,fun _ _=>.inl rfl⟩,⟨⟨rfl,rfl,rfl,rfl,fun _=>rfl,fun _ _=>.inl rfl⟩,⟨⟨rfl,rfl,rfl,rfl,fun _=>rfl,fun _ _=>.inl rfl⟩,⟨⟨rfl,rfl,rfl,rfl,fun _=>rfl,fun _ _=>.inl rfl⟩,⟨⟨rfl,rfl,rfl,rfl,fun _=>rfl,fun _ _=>.inl rfl⟩,⟨⟨rfl,rfl,rfl,rfl,fun _=>rfl,fun _ _=>.inl rfl⟩,⟨⟨rfl,rfl,rfl,rfl,fun _=>rfl,fun _ _=>.inl rfl⟩,trivial⟩⟩⟩⟩⟩⟩⟩⟩⟩⟩⟩,trivial⟩⟩
     ·(exfalso; omega)
    ·conv=>whnf
     conv=>whnf
     (conv=>whnf); refine ifB_dec (fun w2=>?_) (fun w2=>?_)
     ·(exfalso; omega)
     ·conv=>whnf
      conv=>whnf
      (conv=>whnf); refine ⟨inK64 (by omega) (by omega),?_⟩
      conv=>whnf
      conv=>whnf
      (conv=>whnf); refine ⟨_,_,⟨⟨i + 1,o,_,_,by omega,(by rw [ho,show k = npT t - 1 by omega]; rfl),hom,rfl,rfl⟩,by omega⟩,⟨⟨.inl rfl,rfl,rfl,rfl⟩,⟨⟨rfl,rfl,rfl,rfl,fun _=>rfl,fun _ _=>.inl rfl⟩,⟨⟨rfl,rfl,rfl,rfl,fun _=>rfl,fun _ _=>.inl rfl⟩,⟨⟨rfl,rfl,rfl,rfl,fun _=>rfl,fun _ _=>.inl rfl⟩,⟨⟨rfl,rfl,rfl,rfl,fun _=>rfl,fun _ _=>.inl rfl⟩,⟨⟨rfl,rfl,rfl,rfl,fun _=>rfl,fun _ _=>.inl rfl⟩,⟨⟨rfl,rfl,rfl,rfl,fun _=>rfl,fun _ _=>.inl rfl⟩,⟨⟨rfl,rfl,rfl,rfl,fun _=>rfl,fun _ _=>.inl rfl⟩,⟨⟨rfl,rfl,rfl,rfl,fun _=>rfl,fun _ _=>.inl rfl⟩,⟨⟨rfl,rfl,rfl,rfl,fun _=>rfl,fun _ _=>.inl rfl⟩,trivial⟩⟩⟩⟩⟩⟩⟩⟩⟩,trivial⟩⟩
   ·(exfalso; omega)
  ·have e : o = mpO t h := by rw [ho,show i = t.length - 1 by omega]; rfl
   conv=>whnf
   (conv=>whnf); refine ifB_dec (fun w1=>?_) (fun w1=>?_)
   ·(exfalso; omega)
   ·conv=>whnf
    (conv=>whnf); refine ⟨[],by kernel_rfl,?_⟩
    conv=>whnf
    (conv=>whnf); refine .inl ⟨_,_,byX rfl (Sound1.pl (S78 _ _) rfl),?_⟩
    conv=>whnf
    (conv=>whnf); refine ⟨?_,nofun⟩
    exact ave_tup2 (ave_agg2 (congrArg (fun q : Option Rat=>i64 (frO q).1) e) (congrArg (fun q : Option Rat=>i64 (frO q).2) e)) (congrArg (fun q : Option Rat=>i64 (if q.isSome = true then 0 else 12)) e)
 ·rw [if_neg h0,if_neg h0]
  refine sound (d := 2) tok2 mixed2 Tryz.func37 (by kernel_rfl) (by kernel_rfl) ?_
  (conv=>whnf); refine ⟨[],by kernel_rfl,?_⟩
  (conv=>whnf); refine .inl ⟨_,_,byX rfl (Sound1.pl (h97) rfl),?_⟩
  (conv=>whnf); refine .inl ⟨_,_,byX rfl (Sound1.pl (h77 _ rfl) rfl),?_⟩
  (conv=>whnf); refine .inl ⟨_,_,byX rfl (Sound1.pl (h76 ⟨rfl,rfl⟩) rfl),?_⟩
  (conv=>whnf); refine ifB_bne (fun w1=>?_) (fun w1=>?_)
  ·(conv=>whnf); refine ⟨?_,nofun⟩
   exact ave_tup2 (ave_agg2 rfl rfl) rfl
  ·(exfalso; omega)
end Go.Tr

/- Contracts of chapter 5: the best point for a head and a flow; numbers in order. Conditions: none. -/
-- seat YtgbdlkajmmjahaaGreat
namespace Go.Tr
open Go Go.Proofs
set_option maxRecDepth 20000
set_option maxHeartbeats 8000000

theorem mulAb {x y X Y : Int} (hx : -X ≤ x ∧ x ≤ X) (hy : 0 ≤ y ∧ y ≤ Y) : -(X * Y) ≤ x * y ∧ x * y ≤ X * Y := by
 have h1 := Int.mul_nonneg (a := X - x) (b := y) (by omega) (by omega)
 have h2 := Int.mul_nonneg (a := X + x) (b := y) (by omega) (by omega)
 have h3 := Int.mul_nonneg (a := X) (b := Y - y) (by omega) (by omega)
 rw [Int.sub_mul] at h1
 rw [Int.add_mul] at h2
 rw [Int.mul_sub] at h3
 omega
def cmpF (a b : Nm) : Int := sgI (a.1.2.1 * b.2 - b.1.2.1 * a.2)
theorem nm_prod {a b : Nm} (ha : NmB 4000 a) (hb : NmB 4000 b) : inK .i64 (a.1.2.1 * b.2) := by
 have h1 := ha.d
 have h2 := ha.q
 have h3 := hb.d
 have h := mulAb (x := a.1.2.1) (X := 4000000) (y := b.2) (Y := 4000) (by omega) (by omega)
 exact inK_of (by omega)
theorem S104 (a b : Nm) (ha : NmB 4000 a) (hb : NmB 4000 b) : SP 104 [.agg (nmC a),.agg (nmC b)] (i64 (cmpF a b)) false := by
 have p1 := nm_prod ha hb
 have p2 := nm_prod hb ha
 have h105 := S105 (a.1.2.1 * b.2) (b.1.2.1 * a.2)
 refine sound (d := 2) tok2 mixed2 Tryz.func104 (by kernel_rfl) (by kernel_rfl) ?_
 (conv=>whnf); refine ⟨⟨(by omega),(by omega)⟩,?_⟩
 (conv=>whnf); refine ⟨by assumption,?_⟩
 (conv=>whnf); refine ⟨⟨(by omega),(by omega)⟩,?_⟩
 (conv=>whnf); refine ⟨by assumption,?_⟩
 (conv=>whnf); refine .inl ⟨_,_,byX rfl (Sound1.pl (h105) rfl),?_⟩
 (conv=>whnf); refine ⟨?_,nofun⟩
 (first | contradiction | exact p1 | exact p2 | exact ⟨p1,p2⟩ | rfl)
theorem divInt_lt_iff {a b c d : Int} (hb : 0 < b) (hd : 0 < d) : Rat.divInt a b < Rat.divInt c d ↔ a * d < c * b := by
  rw [Rat.lt_iff_sub_pos,Rat.divInt_sub_divInt _ _ (by omega) (by omega),divInt_pos_iff (Int.mul_pos hd hb)]
  omega
theorem sgI_neg (z : Int) : sgI z < 0 ↔ z < 0 := by
 unfold sgI
 split
 ·omega
 ·split <;> omega
theorem cmpF_neg {a b : Nm} (ha : 0 < a.2) (hb : 0 < b.2) : cmpF a b < 0 ↔ (nmQ a).2.1 < (nmQ b).2.1 := by
 have e1 : (nmQ a).2.1 = Rat.divInt a.1.2.1 a.2 := rfl
 have e2 : (nmQ b).2.1 = Rat.divInt b.1.2.1 b.2 := rfl
 rw [e1,e2,divInt_lt_iff ha hb]
 unfold cmpF
 rw [sgI_neg]
 omega
def okB (f : Int) (n : Nm) : Bool := decide (0 < n.1.2.1) && decide (f * n.2 ≤ n.1.2.2)
theorem okB_q {f : Int} {n : Nm} (hd : 0 < n.2) : okB f n = true ↔ 0 < (nmQ n).2.1 ∧ (f : Rat) ≤ (nmQ n).2.2 := by
 have e1 : (nmQ n).2.1 = Rat.divInt n.1.2.1 n.2 := rfl
 have e2 : (nmQ n).2.2 = Rat.divInt n.1.2.2 n.2 := rfl
 have e3 : (f : Rat) = Rat.divInt f 1 := by
  have := divInt_int f (d := 1) (by decide)
  rw [Int.mul_one] at this; exact this.symm
 rw [e1,e2,divInt_pos_iff hd,e3,← Rat.not_lt,divInt_lt_iff hd (by decide)]
 unfold okB
 rw [Bool.and_eq_true,decide_eq_true_iff,decide_eq_true_iff,Int.mul_one]
 omega
end Go.Tr

/- Plain laws of chapter 5: the reference's greatest power is the package's. Conditions: none. -/
-- seat YtgbdlkajmmjahaaGreat
namespace Go.Tr
open Go Go.Proofs
set_option maxRecDepth 20000
set_option maxHeartbeats 8000000

def arQ (x : Tri) : List Q3 := (arnd x).map nmQ
theorem arQ_ok {x : Tri} (hx : TriP x) {l : Ln} (hl : LnOk l) : QOk (arQ x) l := (arnd_ok hx).q hl
def rws (h : Int) (x : Tri) : List Rat := (spL (arQ x) (hdL h)).map fun q=>q.2.2
theorem rws_mem {h : Int} {x : Tri} (hx : TriP x) (y : Rat) : y ∈ rws h x ↔ y ∈ pws h x := by
 have e : pws h x = (onS (arQ x) (hdL h)).map fun q=>q.2.2 := by
  unfold pws arQ
  rw [← onL_map (arnd_ok hx),List.map_map]; rfl
 rw [e]
 unfold rws
 simp only [List.mem_map]
 constructor
 ·rintro ⟨q,hq,rfl⟩
  exact ⟨q,(putAll_mem _ _).1 hq,rfl⟩
 ·rintro ⟨q,hq,rfl⟩
  exact ⟨q,(putAll_mem _ _).2 hq,rfl⟩
def rxT (h : Int) (o : Option Rat) (L : List Tri) : Option Rat := L.foldl (fun o x=>mxO o (rws h x)) o
theorem rxT_app (h : Int) (o : Option Rat) (L M : List Tri) : rxT h o (L ++ M) = rxT h (rxT h o L) M := by unfold rxT; rw [List.foldl_append]
theorem rxT_take {h : Int} {L : List Tri} {k : Nat} (hk : k < L.length) : rxT h none (L.take (k + 1)) = mxO (rxT h none (L.take k)) (rws h (L.getD k tri0)) := by
  rw [take_succG (d := tri0) hk,rxT_app]; rfl
theorem rxT_flat (h : Int) : ∀ (L : List Tri) (o : Option Rat),rxT h o L = mxO o (L.flatMap (rws h))
 | [],_=>rfl
 | x :: r,o=>by
  show rxT h (mxO o (rws h x)) r = _
  rw [rxT_flat h r,List.flatMap_cons,mxO_app]
theorem rx_mx {h : Int} {L : List Tri} (hL : ∀ x ∈ L,TriP x) : rxT h none L = mxT h none L := by
 rw [rxT_flat,mxT_flat]
 refine (mx_is _).uniq (mx_is _) fun y=>?_
 simp only [List.mem_flatMap]
 constructor
 ·rintro ⟨x,hx,hy⟩
  exact ⟨x,hx,(rws_mem (hL x hx) y).1 hy⟩
 ·rintro ⟨x,hx,hy⟩
  exact ⟨x,hx,(rws_mem (hL x hx) y).2 hy⟩
end Go.Tr

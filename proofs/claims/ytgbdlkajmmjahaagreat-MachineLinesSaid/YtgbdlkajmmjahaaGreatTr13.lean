/- Contracts of chapter 5: spots compared and sorted; spots on a line. Conditions: none. -/
import Derived.Test.YtgbdlkajmmjahaaGreatTr12
import Derived.Test.YtgbdlkajmmjahaaGreatTr06
import Derived.ProofKit
set_option linter.unusedSectionVars false
set_option linter.unnecessarySimpa false
set_option linter.unusedVariables false
set_option linter.unusedSimpArgs false

-- seat YtgbdlkajmmjahaaGreat
namespace Go.Tr
open Go Go.Proofs
set_option maxRecDepth 20000
set_option maxHeartbeats 8000000

theorem S157 (x : Int) : SP 157 [i64 x] (vb false) false := by
 refine sound (d := 2) tok2 mixed2 Tryz.func157 (by kernel_rfl) (by kernel_rfl) ?_
 (conv => whnf); refine ⟨?_, nofun⟩
 exact endb (by simp)
theorem S105 (a b : Int) : SP 105 [i64 a, i64 b] (i64 (sgI (a - b))) false := by
 have h1 := S157 a
 have h2 := S157 b
 refine sound (d := 2) tok2 mixed2 Tryz.func105 (by kernel_rfl) (by kernel_rfl) ?_
 (conv => whnf); refine .inl ⟨_, _, byX rfl (Sound1.pl (h1) rfl), ?_⟩
 (conv => whnf); refine .inl ⟨_, _, byX rfl (Sound1.pl (h2) rfl), ?_⟩
 (conv => whnf); refine ifB_dec (fun w1 => ?_) (fun w1 => ?_)
 ·(conv => whnf); refine ⟨?_, nofun⟩
  exact endi (sg_neg (by omega)).symm
 ·(conv => whnf); refine ifB_dec (fun w2 => ?_) (fun w2 => ?_)
  ·(conv => whnf); refine ⟨?_, nofun⟩
   exact endi (sg_pos (by omega)).symm
  ·(conv => whnf); refine ⟨?_, nofun⟩
   exact endi (by rw [show a - b = 0 by omega]; rfl)
theorem S94 (p q : Rat) (hp : smR p) (hq : smR q) : SP 94 [gaF (frI p), gaF (frI q)] (i64 (cmpR p q)) false := by
 have h := S105 (p.num * (q.den : Nat)) (q.num * (p.den : Nat))
 unfold smR at hp hq
 have e0 : cmpR p q = sgI ((frI p).1 * (frI q).2 - (frI q).1 * (frI p).2) := rfl
 have m1 := absM (a := p.num) (b := (q.den : Nat)) (A := 1000000000) (B := 1000000000) (by omega) (by omega)
 have m2 := absM (a := q.num) (b := (p.den : Nat)) (A := 1000000000) (B := 1000000000) (by omega) (by omega)
 have i1 : inK .i64 ((frI p).1 * (frI q).2) := inK_of (by show _ ≤ p.num * (q.den : Nat) ∧ p.num * (q.den : Nat) ≤ _; omega)
 have i2 : inK .i64 ((frI q).1 * (frI p).2) := inK_of (by show _ ≤ q.num * (p.den : Nat) ∧ q.num * (p.den : Nat) ≤ _; omega)
 rw [e0]
 refine sound (d := 2) tok2 mixed2 Tryz.func94 (by kernel_rfl) (by kernel_rfl) ?_
 (conv => whnf); refine ⟨by assumption, ?_⟩
 (conv => whnf); refine ⟨by assumption, ?_⟩
 (conv => whnf); refine .inl ⟨_, _, byX rfl (Sound1.pl (h) rfl), ?_⟩
 (conv => whnf); refine ⟨?_, nofun⟩
 (first | contradiction | rfl)
theorem S115 (l : List Int) (hl : l.length ≤ 1000000000) : SP 115 [ints l] (i64 (firstOf l)) false := by
 refine sound (d := 2) tok2 mixed2 Tryz.func115 (by kernel_rfl) (by kernel_rfl) ?_
 (conv => whnf); refine ⟨[], [3, 6, 7, 8], fun st mq => ∃ (k : Nat), (k ≤ l.length) ∧ (firstOf (l.drop k) = firstOf l) ∧ st = ⟨[(3, i64 0), (6, ints l), (7, i64 l.length), (8, i64 k)], ⟨[], [], none, 0⟩, []⟩ ∧ mq = l.length - k,
  ⟨_, _, ⟨0, by omega, rfl, rfl, rfl⟩, ⟨⟨.inl rfl, rfl, rfl, rfl⟩, trivial, trivial⟩⟩, ?_⟩
 rintro s0 m0 ⟨k, hk, hf, rfl, hmeas⟩
 by_cases hlt : k < l.length
 ·have hd := firstOf_drop l k hlt
  conv => whnf
  (conv => whnf); refine ifB_dec (fun w1 => ?_) (fun w1 => ?_)
  ·conv => whnf
   (conv => whnf); refine ⟨⟨(by omega), (by omega)⟩, ?_⟩
   conv => whnf
   (conv => whnf); refine ifB_bne (fun w2 => ?_) (fun w2 => ?_)
   ·conv => whnf
    (conv => whnf); refine ⟨?_, nofun⟩
    rw [if_neg (show ¬ l.getD k 0 = 0 from w2)] at hd
    show i64 _ = i64 _
    rw [← hf, hd]; rfl
   ·conv => whnf
    (conv => whnf); refine ⟨inK64 (by omega) (by omega), ?_⟩
    rw [if_pos (show l.getD k 0 = 0 from w2)] at hd
    conv => whnf
    (conv => whnf); refine ⟨_, _, ⟨⟨k + 1, by omega, hd.symm.trans hf, rfl, rfl⟩, by omega⟩, ⟨⟨.inl rfl, rfl, rfl, rfl⟩, trivial, trivial⟩⟩
  ·(exfalso; omega)
 ·have e : k = l.length := by omega
  subst e
  conv => whnf
  (conv => whnf); refine ifB_dec (fun w1 => ?_) (fun w1 => ?_)
  ·(exfalso; omega)
  ·conv => whnf
   (conv => whnf); refine ⟨?_, nofun⟩
   simp [firstOf] at hf
   show i64 _ = i64 _
   rw [← hf]
theorem S115_3 (a b c : Int) {f : Nat → List AV} (h : f 0 = [i64 a] ∧ f 1 = [i64 b] ∧ f 2 = [i64 c]) : SP 115 [.rslice 1 3 f] (i64 (firstOf [a, b, c])) false := by
 have key : ∀ i, i < 3 → f i = [i64 (([a, b, c] : List Int).getD i 0)] := fun i hi => by
  match i, hi with
  | 0, _ => exact h.1
  | 1, _ => exact h.2.1
  | 2, _ => exact h.2.2
 refine (S115 [a, b, c] (by simp)).argsD rfl fun i y x hy hx => ?_
 match i, hy, hx with
 | 0, hy, hx => cases hy; cases hx; exact .inr ⟨1, AVF_rows rfl key 0⟩
theorem S142 (p q : Q3) (hp : sm3 p) (hq : sm3 q) : SP 142 [spA (fr3 p), spA (fr3 q)] (i64 (cmp3 p q)) false := by
 have h1 := S94 p.1 q.1 hp.1 hq.1
 have h2 := S94 p.2.1 q.2.1 hp.2.1 hq.2.1
 have h3 := S94 p.2.2 q.2.2 hp.2.2 hq.2.2
 have h4 := @S115_3 (cmpR p.1 q.1) (cmpR p.2.1 q.2.1) (cmpR p.2.2 q.2.2)
 have e : firstOf [cmpR p.1 q.1, cmpR p.2.1 q.2.1, cmpR p.2.2 q.2.2] = cmp3 p q := by rw [first3]; rfl
 rw [e] at h4
 refine sound (d := 2) tok2 mixed2 Tryz.func142 (by kernel_rfl) (by kernel_rfl) ?_
 (conv => whnf); refine ⟨[], by kernel_rfl, ?_⟩
 (conv => whnf); refine .inl ⟨_, _, byX rfl (Sound1.pl (h1) rfl), ?_⟩
 (conv => whnf); refine .inl ⟨_, _, byX rfl (Sound1.pl (h2) rfl), ?_⟩
 (conv => whnf); refine .inl ⟨_, _, byX rfl (Sound1.pl (h3) rfl), ?_⟩
 (conv => whnf); refine .inl ⟨_, _, byX rfl (Sound1.pl (h4 ⟨rfl, rfl, rfl⟩) rfl), ?_⟩
 (conv => whnf); refine ⟨?_, nofun⟩
 (first | contradiction | rfl)
theorem S153 (n : Nat) (h : n ≤ 12) : ∃ r, SP 153 [.val (.int .u64 n)] (i64 r) false := by
 have : n = 0 ∨ n = 1 ∨ n = 2 ∨ n = 3 ∨ n = 4 ∨ n = 5 ∨ n = 6 ∨ n = 7 ∨ n = 8 ∨ n = 9 ∨ n = 10 ∨ n = 11 ∨ n = 12 := by omega
 rcases this with rfl | rfl | rfl | rfl | rfl | rfl | rfl | rfl | rfl | rfl | rfl | rfl | rfl
 ·exact ⟨_, run_ok mixed2 (l := []) (by simp) 1000 60 (y := i64 0) (by kernel_rfl)⟩
 ·exact ⟨_, run_ok mixed2 (l := []) (by simp) 1000 60 (y := i64 1) (by kernel_rfl)⟩
 ·exact ⟨_, run_ok mixed2 (l := []) (by simp) 1000 60 (y := i64 2) (by kernel_rfl)⟩
 ·exact ⟨_, run_ok mixed2 (l := []) (by simp) 1000 60 (y := i64 2) (by kernel_rfl)⟩
 ·exact ⟨_, run_ok mixed2 (l := []) (by simp) 1000 60 (y := i64 3) (by kernel_rfl)⟩
 ·exact ⟨_, run_ok mixed2 (l := []) (by simp) 1000 60 (y := i64 3) (by kernel_rfl)⟩
 ·exact ⟨_, run_ok mixed2 (l := []) (by simp) 1000 60 (y := i64 3) (by kernel_rfl)⟩
 ·exact ⟨_, run_ok mixed2 (l := []) (by simp) 1000 60 (y := i64 3) (by kernel_rfl)⟩
 ·exact ⟨_, run_ok mixed2 (l := []) (by simp) 1000 60 (y := i64 4) (by kernel_rfl)⟩
 ·exact ⟨_, run_ok mixed2 (l := []) (by simp) 1000 60 (y := i64 4) (by kernel_rfl)⟩
 ·exact ⟨_, run_ok mixed2 (l := []) (by simp) 1000 60 (y := i64 4) (by kernel_rfl)⟩
 ·exact ⟨_, run_ok mixed2 (l := []) (by simp) 1000 60 (y := i64 4) (by kernel_rfl)⟩
 ·exact ⟨_, run_ok mixed2 (l := []) (by simp) 1000 60 (y := i64 4) (by kernel_rfl)⟩
theorem u64_in {n : Nat} (h : n ≤ 12) : inK .u64 (n : Int) := ⟨by
 have : IntKind.min .u64 = 0 := by decide
 omega, by
 have : IntKind.max .u64 = 18446744073709551615 := by decide
 omega⟩
abbrev le3 (a b : Q3) : Prop := ¬ lt3 b a
theorem le3_tr (a b c : Q3) (h1 : le3 a b) (h2 : le3 b c) : le3 a c := fun h => by
 rcases lt3_tri b c with g | g | g
 ·exact h1 (lt3_tr _ _ _ g h)
 ·subst g; exact h1 h
 ·exact h2 g
theorem le3_of {a b : Q3} (h : cmp3 a b < 0) : le3 a b := fun g => lt3_irr _ (lt3_tr _ _ _ g ((cmp3_neg _ _).1 h))
theorem ge3_of {a b : Q3} (h : ¬ cmp3 a b < 0) : le3 b a := fun g => h ((cmp3_neg _ _).2 g)
theorem sm3_0 : sm3 q0 := by unfold sm3 smR q0; decide
theorem sp_veq (a b : Q3) : vEqL [.int .i64 (fr3 a).1.1, .int .i64 (fr3 a).1.2, .int .i64 (fr3 a).2.1.1, .int .i64 (fr3 a).2.1.2, .int .i64 (fr3 a).2.2.1, .int .i64 (fr3 a).2.2.2]
  [.int .i64 (fr3 b).1.1, .int .i64 (fr3 b).1.2, .int .i64 (fr3 b).2.1.1, .int .i64 (fr3 b).2.1.2, .int .i64 (fr3 b).2.2.1, .int .i64 (fr3 b).2.2.2] = decide (a = b) := by
 rw [Bool.eq_iff_iff, decide_eq_true_iff]
 constructor
 ·intro h
  refine fr3_inj ?_
  simp only [vEqL, Bool.and_eq_true, beq_iff_eq, and_true, true_and] at h
  exact Prod.ext (Prod.ext h.1 h.2.1) (Prod.ext (Prod.ext h.2.2.1 h.2.2.2.1) (Prod.ext h.2.2.2.2.1 h.2.2.2.2.2))
 ·intro h
  subst h
  exact vEq6 _ _ _ _ _ _
def slL (L : List Q3) (l : Ln) : List Q3 := smL (spL L l)
def slE (L : List Q3) (l : Ln) : Int := smE (spL L l)
set_option maxHeartbeats 16000000 in
theorem S79 (L : List Nm) (l : Ln) (hL : CvOk L) (hl : LnOk l) : SP 79 [nms L, lnA l] (.tuple [sps (slL (L.map nmQ) l), i64 (slE (L.map nmQ) l)]) false := by
 have h90 := S90 L l hL hl
 have h89 := S89 (onL L l) (Nat.le_trans (onL_len hL l) (by decide)) (onL_ok hL hl)
 rw [onL_map hL] at h89
 have hlen : (onS (L.map nmQ) l).length ≤ 12 := by rw [← onL_map hL, List.length_map]; exact onL_len hL l
 have hfin : ∀ s : List Q3, s.Perm (smL (onS (L.map nmQ) l)) → s.Pairwise le3 → compL s = slL (L.map nmQ) l := fun s hp hs => by
  unfold slL
  unfold smL at hp ⊢
  rw [spL_all]
  by_cases g : allS (onS (L.map nmQ) l) = true
  ·rw [if_pos g] at hp ⊢
   exact spL_sort hp hs
  ·rw [if_neg g] at hp ⊢
   rw [List.perm_nil.1 hp]; rfl
 have hE : slE (L.map nmQ) l = smE (onS (L.map nmQ) l) := by unfold slE smE; rw [spL_all]
 have hsm : ∀ x ∈ smL (onS (L.map nmQ) l), sm3 x := fun x hx => by
  unfold smL at hx
  by_cases g : allS (onS (L.map nmQ) l) = true
  ·rw [if_pos g] at hx
   exact of_decide_eq_true (List.all_eq_true.1 g x hx)
  ·rw [if_neg g] at hx; cases hx
 have hO : (smL (onS (L.map nmQ) l)).length ≤ 12 := by
  unfold smL
  split
  ·exact hlen
  ·exact Nat.zero_le _
 rw [hE]
 generalize smL (onS (L.map nmQ) l) = O at *
 generalize smE (onS (L.map nmQ) l) = E at *
 generalize slL (L.map nmQ) l = G at *
 have hcmp : ∀ b : List Q3, b.Perm O → ∀ i j, SP 142 [spA (fr3 (b.getD i q0)), spA (fr3 (b.getD j q0))] (i64 (cmp3 (b.getD i q0) (b.getD j q0))) false := fun b hb i j => by
  have h1 : ∀ i, sm3 (b.getD i q0) := fun i => by
   by_cases hi : i < b.length
   ·exact hsm _ (hb.subset (getD_memG hi))
   ·rw [List.getD_eq_getElem?_getD, List.getElem?_eq_none (by omega)]; exact sm3_0
  exact S142 _ _ (h1 i) (h1 j)
 obtain ⟨n, hON⟩ : ∃ n, O.length = n := ⟨_, rfl⟩
 rw [hON] at hO
 unfold sps at h89
 rw [hON] at h89
 have hu := u64_in hO
 obtain ⟨rl, h153⟩ := S153 n hO
 refine sound (d := 5) tok2 mixed2 Tryz.func79 (by kernel_rfl) (by kernel_rfl) ?_
 (conv => whnf); refine .inl ⟨_, _, byX rfl (h90), ?_⟩
 (conv => whnf); refine .inl ⟨_, _, byX rfl (h89), ?_⟩
 (conv => whnf); refine .inr (.inl ⟨[], ?_⟩)
 (conv => whnf); refine ⟨by assumption, ?_⟩
 (conv => whnf); refine .inl ⟨_, _, byX rfl (Sound1.pl (h153) rfl), ?_⟩
 (conv => whnf); refine .inr (.inl ⟨[], ?_⟩)
 (conv => whnf); refine ⟨[.forget [0, 1, 2, 3, 4, 5, 6, 7, 8, 9, 10, 11, 12, 13, 14, 15, 16, 17, 18, 19, 22, 23, 24, 25, 26, 27, 28, 29, 30, 31, 32, 33, 34, 35, 36, 37, 38, 39, 40, 41, 42, 43, 44, 45, 46, 47, 48, 49, 50, 51, 52, 53, 54, 55, 56, 57, 58, 59, 60, 61, 62, 63]], [0, 1, 2, 3, 4], fun st mq => ∃ (F0 : Nat → List AV), st = ⟨[(0, .oslice 1 0 0 n none), (1, i64 0), (2, i64 n), (3, i64 rl), (4, .func (.func 142) 0 [])], ⟨[⟨4, 1, F0, 0, false, true, false⟩, ⟨6, n, fun i => spC (fr3 (O.getD i q0)), 0, false, true, false⟩], [], none, 0⟩, [(21, i64 E), (20, .oslice 1 0 0 n none)]⟩ ∧ mq = 0,
  ⟨_, _, ⟨_, rfl, rfl⟩, ⟨⟨.inl rfl, rfl, rfl, rfl⟩, ⟨⟨rfl, rfl, rfl, rfl, fun _ => rfl, fun _ _ => .inl rfl⟩, ⟨⟨rfl, rfl, rfl, rfl, fun _ => rfl, fun _ _ => .inl rfl⟩, trivial⟩⟩, trivial⟩⟩, ?_⟩
 rintro s0 m0 ⟨F0, rfl, hmeas⟩
 conv => whnf
 (conv => whnf); refine ⟨inK64 (by omega) (by omega), ?_⟩
 conv => whnf
 (conv => whnf); refine ifB_dec (fun w1 => ?_) (fun w1 => ?_)
 ·conv => whnf
  (conv => whnf); refine .inr (.inl ⟨[], ?_⟩)
  conv => whnf
  (conv => whnf); refine ⟨inK64 (by omega) (by omega), ?_⟩
  conv => whnf
  (conv => whnf); refine ⟨[.forget [0, 1, 2, 3, 4, 5, 6, 7, 8, 9, 10, 11, 12, 13, 14, 15, 16, 17, 18, 19, 20, 21, 22, 23, 24, 25, 26, 27, 28, 29, 30, 31, 32, 33, 34, 35, 36, 37, 38, 39, 40, 41, 42, 43, 44, 45, 46, 47, 48, 49, 50, 51, 52, 53, 54, 55, 56, 57, 58, 59, 60, 61, 62, 63]], [0, 1, 2, 3, 8], fun st mq => ∃ (i : Nat) (a : List Q3) (F0 : Nat → List AV), (1 ≤ i) ∧ (i ≤ n ∨ i = 1) ∧ (a.length = n) ∧ (a.Perm O) ∧ (SortG le3 q0 a i) ∧ st = ⟨[(0, .oslice 1 0 0 n none), (1, i64 0), (2, i64 n), (3, .func (.func 142) 0 []), (8, i64 i)], ⟨[⟨4, 1, F0, 0, false, true, false⟩, ⟨6, n, fun i => spC (fr3 (a.getD i q0)), 0, false, true, false⟩], [], none, 0⟩, [(169, i64 E), (168, .oslice 1 0 0 n none)]⟩ ∧ mq = n - i,
   ⟨_, _, ⟨1, O, _, by omega, by omega, hON, List.Perm.refl _, fun p q h1 h2 => by omega, rfl, rfl⟩, ⟨⟨.inl rfl, rfl, rfl, rfl⟩, ⟨⟨rfl, rfl, rfl, rfl, fun _ => rfl, fun _ _ => .inl rfl⟩, ⟨⟨rfl, rfl, rfl, rfl, fun _ => rfl, fun _ _ => .inl rfl⟩, trivial⟩⟩, trivial⟩⟩, ?_⟩
  rintro s0 m0 ⟨i, a, F0, hi1, hi2, hal, hp, hs, rfl, hmeas⟩
  by_cases hil : i < n
  ·conv => whnf
   conv => whnf
   (conv => whnf); refine ifB_dec (fun w2 => ?_) (fun w2 => ?_)
   ·conv => whnf
    conv => whnf
    (conv => whnf); refine ⟨[], [0, 1, 2, 3, 8, 9], fun st mq => ∃ (j : Nat) (z : Int) (b : List Q3) (F0 : Nat → List AV), (z = (j : Int)) ∧ (j ≤ i) ∧ (b.length = n) ∧ (b.Perm O) ∧ (SinkG le3 q0 b j (i + 1)) ∧ st = ⟨[(0, .oslice 1 0 0 n none), (1, i64 0), (2, i64 n), (3, .func (.func 142) 0 []), (8, i64 i), (9, i64 z)], ⟨[⟨4, 1, F0, 0, false, true, false⟩, ⟨6, n, fun i => spC (fr3 (b.getD i q0)), 0, false, true, false⟩], [], none, 0⟩, [(169, i64 E), (168, .oslice 1 0 0 n none)]⟩ ∧ mq = j,
     ⟨_, _, ⟨i, (i : Int), a, _, rfl, by omega, hal, hp, sinkG_start hs, rfl, rfl⟩, ⟨⟨.inl rfl, rfl, rfl, rfl⟩, ⟨⟨rfl, rfl, rfl, rfl, fun _ => rfl, fun _ _ => .inl rfl⟩, ⟨⟨rfl, rfl, rfl, rfl, fun _ => rfl, fun _ _ => .inl rfl⟩, trivial⟩⟩, trivial⟩⟩, ?_⟩
    rintro s0 m0 ⟨j, z, b, F0, hz, hj, hbl, hpb, hsb, rfl, hmeas⟩
    subst hz
    have hcm := hcmp b hpb
    by_cases hj0 : j = 0
    ·subst hj0
     conv => whnf
     conv => whnf
     conv => whnf
     (conv => whnf); refine ⟨[], by kernel_rfl, ?_⟩
     conv => whnf
     conv => whnf
     conv => whnf
     (conv => whnf); refine ⟨inK64 (by omega) (by omega), ?_⟩
     conv => whnf
     conv => whnf
     conv => whnf
     (conv => whnf); refine ⟨_, _, ⟨⟨i + 1, b, _, by omega, by omega, hbl, hpb, sinkG_end le3_tr hsb (.inl rfl), rfl, rfl⟩, by omega⟩, ⟨⟨.inl rfl, rfl, rfl, rfl⟩, ⟨⟨rfl, rfl, rfl, rfl, fun _ => rfl, fun _ _ => .inl rfl⟩, ⟨⟨rfl, rfl, rfl, rfl, fun _ => rfl, fun _ _ => .inl rfl⟩, trivial⟩⟩, trivial⟩⟩
    ·obtain ⟨j, rfl⟩ : ∃ k, j = k + 1 := ⟨j - 1, by omega⟩
     have e1 : (((j + 1 : Nat) : Int) - 1).toNat = j := by omega
     have hr1 := fun x : Nat => rowG (n := 6) (fun e => spC (fr3 e)) (fun _ => rfl) q0 b ((j + 1 : Nat) : Int).toNat x (b.getD (0 + (((j + 1 : Nat) : Int) - 1).toNat) q0) (by omega)
     have hr2 := fun x : Nat => rowG (n := 6) (fun e => spC (fr3 e)) (fun _ => rfl) q0 (b.set ((j + 1 : Nat) : Int).toNat (b.getD (0 + (((j + 1 : Nat) : Int) - 1).toNat) q0)) (((j + 1 : Nat) : Int) - 1).toNat x (b.getD (0 + ((j + 1 : Nat) : Int).toNat) q0) (by rw [List.length_set]; omega)
     have hsw : ∀ x, spC (fr3 ((swapG q0 b (j + 1)).getD x q0)) = spC (fr3 (((b.set ((j + 1 : Nat) : Int).toNat (b.getD (0 + (((j + 1 : Nat) : Int) - 1).toNat) q0)).set (((j + 1 : Nat) : Int) - 1).toNat (b.getD (0 + ((j + 1 : Nat) : Int).toNat) q0)).getD x q0)) := fun x => by
      rw [e1, Nat.zero_add, Nat.zero_add]; rfl
     conv => whnf
     conv => whnf
     conv => whnf
     (conv => whnf); refine ⟨[], by kernel_rfl, ?_⟩
     conv => whnf
     conv => whnf
     conv => whnf
     (conv => whnf); refine ifB_dec (fun w3 => ?_) (fun w3 => ?_)
     ·conv => whnf
      conv => whnf
      conv => whnf
      (conv => whnf); refine ⟨⟨(by omega), (by omega)⟩, ?_⟩
      conv => whnf
      conv => whnf
      conv => whnf
      (conv => whnf); refine ⟨inK64 (by omega) (by omega), ?_⟩
      conv => whnf
      conv => whnf
      conv => whnf
      (conv => whnf); refine ⟨⟨(by omega), (by omega)⟩, ?_⟩
      conv => whnf
      conv => whnf
      conv => whnf
      (conv => whnf); refine .inl ⟨_, _, byX rfl (Sound1.pl (hcm _ _) rfl), ?_⟩
      conv => whnf
      conv => whnf
      conv => whnf
      (conv => whnf); refine ifB_dec (fun w4 => ?_) (fun w4 => ?_)
      ·conv => whnf
       conv => whnf
       conv => whnf
       (conv => whnf); refine ⟨[], by kernel_rfl, ?_⟩
       conv => whnf
       conv => whnf
       conv => whnf
       (conv => whnf); refine ⟨inK64 (by omega) (by omega), ?_⟩
       conv => whnf
       conv => whnf
       conv => whnf
       (conv => whnf); refine ⟨inK64 (by omega) (by omega), ?_⟩
       conv => whnf
       conv => whnf
       conv => whnf
       (conv => whnf); refine ⟨⟨(by omega), (by omega)⟩, ?_⟩
       conv => whnf
       conv => whnf
       conv => whnf
       (conv => whnf); refine ⟨⟨(by omega), (by omega)⟩, ?_⟩
       conv => whnf
       conv => whnf
       conv => whnf
       (conv => whnf); refine ⟨⟨(by omega), (by omega)⟩, ?_⟩
       refine ⟨_, fun i _ => hr1 i, ?_⟩
       conv => whnf
       conv => whnf
       conv => whnf
       (conv => whnf); refine ⟨⟨(by omega), (by omega)⟩, ?_⟩
       refine ⟨_, fun i _ => hr2 i, ?_⟩
       conv => whnf
       conv => whnf
       conv => whnf
       (conv => whnf); refine ⟨inK64 (by omega) (by omega), ?_⟩
       have hlt : cmp3 (b.getD (j + 1) q0) (b.getD (j + 1 - 1) q0) < 0 := by
        have e : cmp3 (b.getD (0 + ((j + 1 : Nat) : Int).toNat) q0) (b.getD (0 + (((j + 1 : Nat) : Int) - 1).toNat) q0) < 0 := by assumption
        rw [e1, Nat.zero_add, Nat.zero_add] at e
        exact e
       conv => whnf
       conv => whnf
       conv => whnf
       (conv => whnf); refine ⟨_, _, ⟨⟨j, ((j + 1 : Nat) : Int) - 1, swapG q0 b (j + 1), _, by omega, by omega, (by rw [swapG_len]; exact hbl), (swapG_perm (by omega)).trans hpb, sinkG_swap (by omega) (by omega) hsb (le3_of hlt), rfl, rfl⟩, by omega⟩, ⟨⟨.inl rfl, rfl, rfl, rfl⟩, ⟨⟨rfl, rfl, rfl, rfl, fun _ => rfl, fun _ _ => .inl rfl⟩, ⟨⟨rfl, rfl, rfl, rfl, fun _ => rfl, fun x _ => .inl (hsw x)⟩, trivial⟩⟩, trivial⟩⟩
      ·conv => whnf
       conv => whnf
       conv => whnf
       (conv => whnf); refine ⟨inK64 (by omega) (by omega), ?_⟩
       have hge : ¬ cmp3 (b.getD (j + 1) q0) (b.getD (j + 1 - 1) q0) < 0 := by
        have e : ¬ cmp3 (b.getD (0 + ((j + 1 : Nat) : Int).toNat) q0) (b.getD (0 + (((j + 1 : Nat) : Int) - 1).toNat) q0) < 0 := by assumption
        rw [e1, Nat.zero_add, Nat.zero_add] at e
        exact e
       conv => whnf
       conv => whnf
       conv => whnf
       (conv => whnf); refine ⟨_, _, ⟨⟨i + 1, b, _, by omega, by omega, hbl, hpb, sinkG_end le3_tr hsb (.inr (ge3_of hge)), rfl, rfl⟩, by omega⟩, ⟨⟨.inl rfl, rfl, rfl, rfl⟩, ⟨⟨rfl, rfl, rfl, rfl, fun _ => rfl, fun _ _ => .inl rfl⟩, ⟨⟨rfl, rfl, rfl, rfl, fun _ => rfl, fun _ _ => .inl rfl⟩, trivial⟩⟩, trivial⟩⟩
     ·(exfalso; omega)
   ·(exfalso; omega)
  ·have hsa : SortG le3 q0 a a.length := fun p q h1 h2 => hs p q h1 (by omega)
   have hG := hfin a hp (sortG_pair hsa)
   rw [← hG]
   subst hal
   conv => whnf
   conv => whnf
   (conv => whnf); refine ifB_dec (fun w2 => ?_) (fun w2 => ?_)
   ·(exfalso; omega)
   ·conv => whnf
    conv => whnf
    (conv => whnf); refine .inr (.inl ⟨[], ?_⟩)
    conv => whnf
    conv => whnf
    (conv => whnf); refine ifB_dec (fun w3 => ?_) (fun w3 => ?_)
    ·conv => whnf
     conv => whnf
     (conv => whnf); refine ⟨?_, nofun⟩
     rw [compL_one (by omega)]
     exact ave_tup2 ⟨rfl, rfl, fun _ _ => rfl⟩ rfl
    ·conv => whnf
     conv => whnf
     (conv => whnf); refine ⟨[.forget [0, 1, 2, 3, 4, 5, 6, 8, 9, 10, 11, 12, 13, 14, 15, 16, 17, 18, 19, 20, 21, 22, 23, 24, 25, 26, 27, 28, 29, 30, 31, 32, 33, 34, 35, 36, 37, 38, 39, 40, 41, 42, 43, 44, 45, 46, 47, 48, 49, 50, 51, 52, 53, 54, 55, 56, 57, 58, 59, 60, 61, 62, 63]], [0, 3], fun st mq => ∃ (k : Nat) (F0 : Nat → List AV), (1 ≤ k) ∧ (k ≤ a.length) ∧ (compL (a.take k) = a.take k) ∧ st = ⟨[(0, .oslice 1 0 0 a.length none), (3, i64 k)], ⟨[⟨4, 1, F0, 0, false, true, false⟩, ⟨6, a.length, fun i => spC (fr3 (a.getD i q0)), 0, false, true, false⟩], [], none, 0⟩, [(7, i64 E)]⟩ ∧ mq = a.length - k,
      ⟨_, _, ⟨1, _, by omega, by omega, compL_one (by rw [List.length_take]; omega), rfl, rfl⟩, ⟨⟨.inl rfl, rfl, rfl, rfl⟩, ⟨⟨rfl, rfl, rfl, rfl, fun _ => rfl, fun _ _ => .inl rfl⟩, ⟨⟨rfl, rfl, rfl, rfl, fun _ => rfl, fun _ _ => .inl rfl⟩, trivial⟩⟩, trivial⟩⟩, ?_⟩
     rintro s0 m0 ⟨k, F0, hk1, hk2, hc, rfl, hmeas⟩
     have ek : ((k : Int) - 1).toNat = k - 1 := by omega
     by_cases hlt : k < a.length
     ·have hv := sp_veq (a.getD (0 + (k : Int).toNat) q0) (a.getD (0 + ((k : Int) - 1).toNat) q0)
      have hz : 0 ≤ (k : Int) ∧ (k : Int) ≤ (a.length : Int) ∧ ((0 : Nat) : Int) + (a.length : Int) ≤ (a.length : Int) := ⟨by omega, by omega, by omega⟩
      by_cases he : a.getD k q0 = a.getD (k - 1) q0
      ·rw [decide_eq_true (by rw [ek, Nat.zero_add, Nat.zero_add]; exact he)] at hv
       conv => whnf
       conv => whnf
       conv => whnf
       (conv => whnf); refine ifB_dec (fun w4 => ?_) (fun w4 => ?_)
       ·conv => whnf
        conv => whnf
        conv => whnf
        (conv => whnf); refine ⟨[], by kernel_rfl, ?_⟩
        conv => whnf
        conv => whnf
        conv => whnf
        (conv => whnf); refine ⟨⟨(by omega), (by omega)⟩, ?_⟩
        conv => whnf
        conv => whnf
        conv => whnf
        (conv => whnf); refine ⟨inK64 (by omega) (by omega), ?_⟩
        conv => whnf
        conv => whnf
        conv => whnf
        (conv => whnf); refine ⟨⟨(by omega), (by omega)⟩, ?_⟩
        conv => whnf
        conv => whnf
        conv => whnf
        (conv => whnf); refine ifB_intro (fun w5 => ?_) (fun w5 => ?_)
        ·conv => whnf
         conv => whnf
         conv => whnf
         (conv => whnf); refine ⟨by assumption, ?_⟩
         conv => whnf
         conv => whnf
         conv => whnf
         (conv => whnf); refine ⟨[], [0, 3, 4, 5], fun st mq => ∃ (k1 : Nat) (q : Nat) (a1 : List Q3) (F0 : Nat → List AV), (1 ≤ q) ∧ (CmpI q0 a a1 k1 (k + q)) ∧ st = ⟨[(0, .oslice 1 0 0 a.length none), (3, i64 k1), (4, .oslice 1 0 (0 + (k : Int).toNat) ((a.length : Int) - (k : Int)).toNat none), (5, i64 q)], ⟨[⟨4, 1, F0, 0, false, true, false⟩, ⟨6, a.length, fun i => spC (fr3 (a1.getD i q0)), 0, false, true, false⟩], [], none, 0⟩, [(7, i64 E)]⟩ ∧ mq = a.length - k - q,
          ⟨_, _, ⟨k, 1, a, _, by omega, cmpI_start hk1 hlt hc he, rfl, rfl⟩, ⟨⟨.inl rfl, rfl, rfl, rfl⟩, ⟨⟨rfl, rfl, rfl, rfl, fun _ => rfl, fun _ _ => .inl rfl⟩, ⟨⟨rfl, rfl, rfl, rfl, fun _ => rfl, fun _ _ => .inl rfl⟩, trivial⟩⟩, trivial⟩⟩, ?_⟩
         rintro s0 m0 ⟨k1, q, a1, F0, hq, hI, rfl, hmeas⟩
         have hkp := hI.kp
         have hal1 := hI.len
         by_cases hlt2 : k + q < a.length
         ·have hv2 := sp_veq (a1.getD (0 + (k : Int).toNat + (q : Int).toNat) q0) (a1.getD (0 + (k : Int).toNat + ((q : Int) - 1).toNat) q0)
          have ep : 0 + (k : Int).toNat + ((q : Int) - 1).toNat = k + q - 1 := by omega
          have eq0 : 0 + (k : Int).toNat + (q : Int).toNat = k + q := by omega
          by_cases he2 : a1.getD (k + q) q0 = a1.getD (k + q - 1) q0
          ·rw [decide_eq_true (by rw [ep, eq0]; exact he2)] at hv2
           conv => whnf
           conv => whnf
           conv => whnf
           conv => whnf
           (conv => whnf); refine ifB_dec (fun w6 => ?_) (fun w6 => ?_)
           ·conv => whnf
            conv => whnf
            conv => whnf
            conv => whnf
            (conv => whnf); refine ⟨[], by kernel_rfl, ?_⟩
            conv => whnf
            conv => whnf
            conv => whnf
            conv => whnf
            (conv => whnf); refine ⟨⟨(by omega), (by omega)⟩, ?_⟩
            conv => whnf
            conv => whnf
            conv => whnf
            conv => whnf
            (conv => whnf); refine ⟨inK64 (by omega) (by omega), ?_⟩
            conv => whnf
            conv => whnf
            conv => whnf
            conv => whnf
            (conv => whnf); refine ⟨⟨(by omega), (by omega)⟩, ?_⟩
            conv => whnf
            conv => whnf
            conv => whnf
            conv => whnf
            (conv => whnf); refine ifB_not ?_
            conv => whnf
            conv => whnf
            conv => whnf
            conv => whnf
            (conv => whnf); refine ifB_intro (fun w7 => ?_) (fun w7 => ?_)
            ·conv => whnf
             conv => whnf
             conv => whnf
             conv => whnf
             (conv => whnf); refine ⟨inK64 (by omega) (by omega), ?_⟩
             conv => whnf
             conv => whnf
             conv => whnf
             conv => whnf
             (conv => whnf); refine ⟨_, _, ⟨⟨k1, q + 1, a1, _, by omega, hI.same hlt2 he2, rfl, rfl⟩, by omega⟩, ⟨⟨.inl rfl, rfl, rfl, rfl⟩, ⟨⟨rfl, rfl, rfl, rfl, fun _ => rfl, fun _ _ => .inl rfl⟩, ⟨⟨rfl, rfl, rfl, rfl, fun _ => rfl, fun _ _ => .inl rfl⟩, trivial⟩⟩, trivial⟩⟩
            ·exact absurd (hv2.symm.trans w7) nofun
           ·(exfalso; omega)
          ·rw [decide_eq_false (by rw [ep, eq0]; exact he2)] at hv2
           have hrow := fun i : Nat => rowG (n := 6) (fun e => spC (fr3 e)) (fun _ => rfl) q0 a1 (k1 : Int).toNat i (a1.getD (0 + (k : Int).toNat + (q : Int).toNat) q0) (by omega)
           conv => whnf
           conv => whnf
           conv => whnf
           conv => whnf
           (conv => whnf); refine ifB_dec (fun w6 => ?_) (fun w6 => ?_)
           ·conv => whnf
            conv => whnf
            conv => whnf
            conv => whnf
            (conv => whnf); refine ⟨[], by kernel_rfl, ?_⟩
            conv => whnf
            conv => whnf
            conv => whnf
            conv => whnf
            (conv => whnf); refine ⟨⟨(by omega), (by omega)⟩, ?_⟩
            conv => whnf
            conv => whnf
            conv => whnf
            conv => whnf
            (conv => whnf); refine ⟨inK64 (by omega) (by omega), ?_⟩
            conv => whnf
            conv => whnf
            conv => whnf
            conv => whnf
            (conv => whnf); refine ⟨⟨(by omega), (by omega)⟩, ?_⟩
            conv => whnf
            conv => whnf
            conv => whnf
            conv => whnf
            (conv => whnf); refine ifB_not ?_
            conv => whnf
            conv => whnf
            conv => whnf
            conv => whnf
            (conv => whnf); refine ifB_intro (fun w7 => ?_) (fun w7 => ?_)
            ·exact absurd (hv2.symm.trans w7) nofun
            ·conv => whnf
             conv => whnf
             conv => whnf
             conv => whnf
             (conv => whnf); refine ⟨⟨(by omega), (by omega)⟩, ?_⟩
             conv => whnf
             conv => whnf
             conv => whnf
             conv => whnf
             (conv => whnf); refine ⟨⟨(by omega), (by omega)⟩, ?_⟩
             refine ⟨_, fun i _ => hrow i, ?_⟩
             conv => whnf
             conv => whnf
             conv => whnf
             conv => whnf
             (conv => whnf); refine ⟨inK64 (by omega) (by omega), ?_⟩
             conv => whnf
             conv => whnf
             conv => whnf
             conv => whnf
             (conv => whnf); refine ⟨inK64 (by omega) (by omega), ?_⟩
             conv => whnf
             conv => whnf
             conv => whnf
             conv => whnf
             (conv => whnf); refine ⟨_, _, ⟨⟨k1 + 1, q + 1, a1.set k1 (a1.getD (0 + (k : Int).toNat + (q : Int).toNat) q0), _, by omega, (by rw [eq0]; exact hI.put hlt2 he2), rfl, rfl⟩, by omega⟩, ⟨⟨.inl rfl, rfl, rfl, rfl⟩, ⟨⟨rfl, rfl, rfl, rfl, fun _ => rfl, fun _ _ => .inl rfl⟩, ⟨⟨rfl, rfl, rfl, rfl, fun _ => rfl, fun _ _ => .inl rfl⟩, trivial⟩⟩, trivial⟩⟩
           ·(exfalso; omega)
         ·have hf := hI.fin hlt2
          have hz2 : 0 ≤ (k1 : Int) ∧ (k1 : Int) ≤ (a.length : Int) ∧ ((0 : Nat) : Int) + (a.length : Int) ≤ (a.length : Int) := ⟨by omega, by omega, by omega⟩
          have hz3 : 0 ≤ (0 : Int) ∧ (0 : Int) ≤ (k1 : Int) ∧ ((0 : Nat) : Int) + (k1 : Int) ≤ (a.length : Int) := ⟨by omega, by omega, by omega⟩
          conv => whnf
          conv => whnf
          conv => whnf
          conv => whnf
          (conv => whnf); refine ifB_dec (fun w6 => ?_) (fun w6 => ?_)
          ·(exfalso; omega)
          ·conv => whnf
           conv => whnf
           conv => whnf
           conv => whnf
           (conv => whnf); refine ⟨by assumption, ?_⟩
           conv => whnf
           conv => whnf
           conv => whnf
           conv => whnf
           (conv => whnf); refine ⟨by assumption, ?_⟩
           conv => whnf
           conv => whnf
           conv => whnf
           conv => whnf
           (conv => whnf); refine ⟨?_, nofun⟩
           exact (ave_tup2 ⟨rfl, (by have := hf.1; omega), fun i hi => (if_neg (by omega)).trans (congrArg (fun e => spC (fr3 e)) (hf.2 i (by omega)))⟩ rfl)
        ·exact absurd (hv.symm.trans w5) nofun
       ·(exfalso; omega)
      ·rw [decide_eq_false (by rw [ek, Nat.zero_add, Nat.zero_add]; exact he)] at hv
       conv => whnf
       conv => whnf
       conv => whnf
       (conv => whnf); refine ifB_dec (fun w4 => ?_) (fun w4 => ?_)
       ·conv => whnf
        conv => whnf
        conv => whnf
        (conv => whnf); refine ⟨[], by kernel_rfl, ?_⟩
        conv => whnf
        conv => whnf
        conv => whnf
        (conv => whnf); refine ⟨⟨(by omega), (by omega)⟩, ?_⟩
        conv => whnf
        conv => whnf
        conv => whnf
        (conv => whnf); refine ⟨inK64 (by omega) (by omega), ?_⟩
        conv => whnf
        conv => whnf
        conv => whnf
        (conv => whnf); refine ⟨⟨(by omega), (by omega)⟩, ?_⟩
        conv => whnf
        conv => whnf
        conv => whnf
        (conv => whnf); refine ifB_intro (fun w5 => ?_) (fun w5 => ?_)
        ·exact absurd (hv.symm.trans w5) nofun
        ·conv => whnf
         conv => whnf
         conv => whnf
         (conv => whnf); refine ⟨inK64 (by omega) (by omega), ?_⟩
         conv => whnf
         conv => whnf
         conv => whnf
         (conv => whnf); refine ⟨_, _, ⟨⟨k + 1, _, by omega, by omega, comp_go hk1 hlt hc he, rfl, rfl⟩, by omega⟩, ⟨⟨.inl rfl, rfl, rfl, rfl⟩, ⟨⟨rfl, rfl, rfl, rfl, fun _ => rfl, fun _ _ => .inl rfl⟩, ⟨⟨rfl, rfl, rfl, rfl, fun _ => rfl, fun _ _ => .inl rfl⟩, trivial⟩⟩, trivial⟩⟩
       ·(exfalso; omega)
     ·obtain rfl : k = a.length := by omega
      rw [List.take_length] at hc
      rw [hc]
      conv => whnf
      conv => whnf
      conv => whnf
      (conv => whnf); refine ifB_dec (fun w4 => ?_) (fun w4 => ?_)
      ·(exfalso; omega)
      ·conv => whnf
       conv => whnf
       conv => whnf
       (conv => whnf); refine ⟨?_, nofun⟩
       exact (ave_tup2 ⟨rfl, rfl, fun _ _ => rfl⟩ rfl)
 ·(exfalso; omega)
end Go.Tr

/- Contracts of chapter 5: lines; the reference's spots on a line. Conditions: none. -/
-- seat YtgbdlkajmmjahaaGreat
namespace Go.Tr
open Go Go.Proofs
set_option maxRecDepth 20000
set_option maxHeartbeats 8000000

def lnE (l : Ln) : Int := if (-100 ≤ l.1 ∧ l.1 ≤ 100) ∧ (-100 ≤ l.2.1 ∧ l.2.1 ≤ 100) ∧ (-100 ≤ l.2.2.1 ∧ l.2.2.1 ≤ 100) ∧ -1000000 ≤ l.2.2.2 ∧ l.2.2.2 ≤ 1000000 then (if l.1 = 0 ∧ l.2.1 = 0 ∧ l.2.2.1 = 0 then 11 else 0) else 2
theorem lnE_ok {l : Ln} (h : lnE l = 0) : LnOk l := by
 unfold lnE at h
 split at h
 ·assumption
 ·exact absurd h (by decide)
set_option maxHeartbeats 4000000 in
theorem S96 (l : Ln) : SP 96 [lnA l] (i64 (lnE l)) false := by
 have h1 := S140 l.1 100 (by decide)
 have h2 := S140 l.2.1 100 (by decide)
 have h3 := S140 l.2.2.1 100 (by decide)
 have h4 := S140 l.2.2.2 1000000 (by decide)
 have h78 := S78
 have h76 := fun a b => @S76_2 a b
 unfold lnE
 by_cases g : (-100 ≤ l.1 ∧ l.1 ≤ 100) ∧ (-100 ≤ l.2.1 ∧ l.2.1 ≤ 100) ∧ (-100 ≤ l.2.2.1 ∧ l.2.2.1 ≤ 100) ∧ -1000000 ≤ l.2.2.2 ∧ l.2.2.2 ≤ 1000000
 ·rw [if_pos g]
  obtain ⟨g1, g2, g3, g4⟩ := g
  rw [show win l.2.2.2 (-1000000) 1000000 = true from decide_eq_true g4] at h4
  by_cases z : l.1 = 0 ∧ l.2.1 = 0 ∧ l.2.2.1 = 0
  ·rw [if_pos z]
   obtain ⟨z1, z2, z3⟩ := z
   refine sound (d := 2) tok2 mixed2 Tryz.func96 (by kernel_rfl) (by kernel_rfl) ?_
   (conv => whnf); refine .inl ⟨_, _, byX rfl (Sound1.pl (h1) rfl), ?_⟩
   (conv => whnf); refine ifB_dec (fun w1 => ?_) (fun w1 => ?_)
   ·(conv => whnf); refine .inl ⟨_, _, byX rfl (Sound1.pl (h2) rfl), ?_⟩
    (conv => whnf); refine ifB_dec (fun w2 => ?_) (fun w2 => ?_)
    ·(conv => whnf); refine .inl ⟨_, _, byX rfl (Sound1.pl (h3) rfl), ?_⟩
     (conv => whnf); refine ifB_dec (fun w3 => ?_) (fun w3 => ?_)
     ·(conv => whnf); refine .inl ⟨_, _, byX rfl (Sound1.pl (h4) rfl), ?_⟩
      (conv => whnf); refine ⟨[], by kernel_rfl, ?_⟩
      (conv => whnf); refine .inl ⟨_, _, byX rfl (Sound1.pl (h78 _ _) rfl), ?_⟩
      (conv => whnf); refine ifB_bne (fun w4 => ?_) (fun w4 => ?_)
      ·(exfalso; omega)
      ·(conv => whnf); refine ifB_bne (fun w5 => ?_) (fun w5 => ?_)
       ·(exfalso; omega)
       ·(conv => whnf); refine .inl ⟨_, _, byX rfl (Sound1.pl (h78 _ _) rfl), ?_⟩
        (conv => whnf); refine .inl ⟨_, _, byX rfl (Sound1.pl (h76 _ _ ⟨rfl, rfl⟩) rfl), ?_⟩
        (conv => whnf); refine ⟨?_, nofun⟩
        (first | contradiction | rfl | exact endi (by rw [show (l.2.2.1 != 0) = false from bne_eq_false_iff_eq.2 z3]; rfl))
     ·(exfalso; omega)
    ·(exfalso; omega)
   ·(exfalso; omega)
  ·rw [if_neg z]
   refine sound (d := 2) tok2 mixed2 Tryz.func96 (by kernel_rfl) (by kernel_rfl) ?_
   (conv => whnf); refine .inl ⟨_, _, byX rfl (Sound1.pl (h1) rfl), ?_⟩
   (conv => whnf); refine ifB_dec (fun w1 => ?_) (fun w1 => ?_)
   ·(conv => whnf); refine .inl ⟨_, _, byX rfl (Sound1.pl (h2) rfl), ?_⟩
    (conv => whnf); refine ifB_dec (fun w2 => ?_) (fun w2 => ?_)
    ·(conv => whnf); refine .inl ⟨_, _, byX rfl (Sound1.pl (h3) rfl), ?_⟩
     (conv => whnf); refine ifB_dec (fun w3 => ?_) (fun w3 => ?_)
     ·(conv => whnf); refine .inl ⟨_, _, byX rfl (Sound1.pl (h4) rfl), ?_⟩
      (conv => whnf); refine ⟨[], by kernel_rfl, ?_⟩
      (conv => whnf); refine .inl ⟨_, _, byX rfl (Sound1.pl (h78 _ _) rfl), ?_⟩
      (conv => whnf); refine ifB_bne (fun w4 => ?_) (fun w4 => ?_)
      ·(conv => whnf); refine .inl ⟨_, _, byX rfl (Sound1.pl (h78 _ _) rfl), ?_⟩
       (conv => whnf); refine .inl ⟨_, _, byX rfl (Sound1.pl (h76 _ _ ⟨rfl, rfl⟩) rfl), ?_⟩
       (conv => whnf); refine ⟨?_, nofun⟩
       (first | contradiction | rfl | exact endi (by rw [show (l.2.2.1 != 0) = true from bne_iff_ne.2 (by omega)]; rfl))
      ·(conv => whnf); refine ifB_bne (fun w5 => ?_) (fun w5 => ?_)
       ·(conv => whnf); refine .inl ⟨_, _, byX rfl (Sound1.pl (h78 _ _) rfl), ?_⟩
        (conv => whnf); refine .inl ⟨_, _, byX rfl (Sound1.pl (h76 _ _ ⟨rfl, rfl⟩) rfl), ?_⟩
        (conv => whnf); refine ⟨?_, nofun⟩
        (first | contradiction | rfl | exact endi (by rw [show (l.2.2.1 != 0) = true from bne_iff_ne.2 (by omega)]; rfl))
       ·(conv => whnf); refine .inl ⟨_, _, byX rfl (Sound1.pl (h78 _ _) rfl), ?_⟩
        (conv => whnf); refine .inl ⟨_, _, byX rfl (Sound1.pl (h76 _ _ ⟨rfl, rfl⟩) rfl), ?_⟩
        (conv => whnf); refine ⟨?_, nofun⟩
        (first | contradiction | rfl | exact endi (by rw [show (l.2.2.1 != 0) = true from bne_iff_ne.2 (by omega)]; rfl))
     ·(exfalso; omega)
    ·(exfalso; omega)
   ·(exfalso; omega)
 ·rw [if_neg g]
  refine sound (d := 2) tok2 mixed2 Tryz.func96 (by kernel_rfl) (by kernel_rfl) ?_
  (conv => whnf); refine .inl ⟨_, _, byX rfl (Sound1.pl (h1) rfl), ?_⟩
  (conv => whnf); refine ifB_dec (fun w1 => ?_) (fun w1 => ?_)
  ·(conv => whnf); refine .inl ⟨_, _, byX rfl (Sound1.pl (h2) rfl), ?_⟩
   (conv => whnf); refine ifB_dec (fun w2 => ?_) (fun w2 => ?_)
   ·(conv => whnf); refine .inl ⟨_, _, byX rfl (Sound1.pl (h3) rfl), ?_⟩
    (conv => whnf); refine ifB_dec (fun w3 => ?_) (fun w3 => ?_)
    ·(conv => whnf); refine .inl ⟨_, _, byX rfl (Sound1.pl (h4) rfl), ?_⟩
     (conv => whnf); refine ⟨[], by kernel_rfl, ?_⟩
     (conv => whnf); refine .inl ⟨_, _, byX rfl (Sound1.pl (h78 _ _) rfl), ?_⟩
     (conv => whnf); refine ifB_bne (fun w4 => ?_) (fun w4 => ?_)
     ·(conv => whnf); refine .inl ⟨_, _, byX rfl (Sound1.pl (h78 _ _) rfl), ?_⟩
      (conv => whnf); refine .inl ⟨_, _, byX rfl (Sound1.pl (h76 _ _ ⟨rfl, rfl⟩) rfl), ?_⟩
      (conv => whnf); refine ⟨?_, nofun⟩
      (first | contradiction | rfl | exact endi (by rw [show win l.2.2.2 (-1000000) 1000000 = false from decide_eq_false (by omega)]; rfl))
     ·(conv => whnf); refine ifB_bne (fun w5 => ?_) (fun w5 => ?_)
      ·(conv => whnf); refine .inl ⟨_, _, byX rfl (Sound1.pl (h78 _ _) rfl), ?_⟩
       (conv => whnf); refine .inl ⟨_, _, byX rfl (Sound1.pl (h76 _ _ ⟨rfl, rfl⟩) rfl), ?_⟩
       (conv => whnf); refine ⟨?_, nofun⟩
       (first | contradiction | rfl | exact endi (by rw [show win l.2.2.2 (-1000000) 1000000 = false from decide_eq_false (by omega)]; rfl))
      ·(conv => whnf); refine .inl ⟨_, _, byX rfl (Sound1.pl (h78 _ _) rfl), ?_⟩
       (conv => whnf); refine .inl ⟨_, _, byX rfl (Sound1.pl (h76 _ _ ⟨rfl, rfl⟩) rfl), ?_⟩
       (conv => whnf); refine ⟨?_, nofun⟩
       (first | contradiction | rfl | exact endi (by rw [show win l.2.2.2 (-1000000) 1000000 = false from decide_eq_false (by omega)]; rfl))
    ·(conv => whnf); refine ⟨[], by kernel_rfl, ?_⟩
     (conv => whnf); refine .inl ⟨_, _, byX rfl (Sound1.pl (h78 _ _) rfl), ?_⟩
     (conv => whnf); refine ifB_bne (fun w4 => ?_) (fun w4 => ?_)
     ·(conv => whnf); refine .inl ⟨_, _, byX rfl (Sound1.pl (h78 _ _) rfl), ?_⟩
      (conv => whnf); refine .inl ⟨_, _, byX rfl (Sound1.pl (h76 _ _ ⟨rfl, rfl⟩) rfl), ?_⟩
      (conv => whnf); refine ⟨?_, nofun⟩
      (first | contradiction | rfl | exact endi (by rw [show win l.2.2.2 (-1000000) 1000000 = false from decide_eq_false (by omega)]; rfl))
     ·(conv => whnf); refine ifB_bne (fun w5 => ?_) (fun w5 => ?_)
      ·(conv => whnf); refine .inl ⟨_, _, byX rfl (Sound1.pl (h78 _ _) rfl), ?_⟩
       (conv => whnf); refine .inl ⟨_, _, byX rfl (Sound1.pl (h76 _ _ ⟨rfl, rfl⟩) rfl), ?_⟩
       (conv => whnf); refine ⟨?_, nofun⟩
       (first | contradiction | rfl | exact endi (by rw [show win l.2.2.2 (-1000000) 1000000 = false from decide_eq_false (by omega)]; rfl))
      ·(conv => whnf); refine .inl ⟨_, _, byX rfl (Sound1.pl (h78 _ _) rfl), ?_⟩
       (conv => whnf); refine .inl ⟨_, _, byX rfl (Sound1.pl (h76 _ _ ⟨rfl, rfl⟩) rfl), ?_⟩
       (conv => whnf); refine ⟨?_, nofun⟩
       (first | contradiction | rfl | exact endi (by rw [show win l.2.2.2 (-1000000) 1000000 = false from decide_eq_false (by omega)]; rfl))
   ·(conv => whnf); refine ⟨[], by kernel_rfl, ?_⟩
    (conv => whnf); refine .inl ⟨_, _, byX rfl (Sound1.pl (h78 _ _) rfl), ?_⟩
    (conv => whnf); refine ifB_bne (fun w3 => ?_) (fun w3 => ?_)
    ·(conv => whnf); refine .inl ⟨_, _, byX rfl (Sound1.pl (h78 _ _) rfl), ?_⟩
     (conv => whnf); refine .inl ⟨_, _, byX rfl (Sound1.pl (h76 _ _ ⟨rfl, rfl⟩) rfl), ?_⟩
     (conv => whnf); refine ⟨?_, nofun⟩
     (first | contradiction | rfl | exact endi (by rw [show win l.2.2.2 (-1000000) 1000000 = false from decide_eq_false (by omega)]; rfl))
    ·(conv => whnf); refine ifB_bne (fun w4 => ?_) (fun w4 => ?_)
     ·(conv => whnf); refine .inl ⟨_, _, byX rfl (Sound1.pl (h78 _ _) rfl), ?_⟩
      (conv => whnf); refine .inl ⟨_, _, byX rfl (Sound1.pl (h76 _ _ ⟨rfl, rfl⟩) rfl), ?_⟩
      (conv => whnf); refine ⟨?_, nofun⟩
      (first | contradiction | rfl | exact endi (by rw [show win l.2.2.2 (-1000000) 1000000 = false from decide_eq_false (by omega)]; rfl))
     ·(exfalso; omega)
  ·(conv => whnf); refine ⟨[], by kernel_rfl, ?_⟩
   (conv => whnf); refine .inl ⟨_, _, byX rfl (Sound1.pl (h78 _ _) rfl), ?_⟩
   (conv => whnf); refine ifB_bne (fun w2 => ?_) (fun w2 => ?_)
   ·(conv => whnf); refine .inl ⟨_, _, byX rfl (Sound1.pl (h78 _ _) rfl), ?_⟩
    (conv => whnf); refine .inl ⟨_, _, byX rfl (Sound1.pl (h76 _ _ ⟨rfl, rfl⟩) rfl), ?_⟩
    (conv => whnf); refine ⟨?_, nofun⟩
    (first | contradiction | rfl | exact endi (by rw [show win l.2.2.2 (-1000000) 1000000 = false from decide_eq_false (by omega)]; rfl))
   ·(exfalso; omega)
theorem S34 (l : Ln) : SP 34 [lnA l] (i64 (lnE l)) false := by
 have h1 := S36 l.1 (-100) 100
 have h2 := S36 l.2.1 (-100) 100
 have h3 := S36 l.2.2.1 (-100) 100
 have h4 := S36 l.2.2.2 (-1000000) 1000000
 unfold lnE
 by_cases g : (-100 ≤ l.1 ∧ l.1 ≤ 100) ∧ (-100 ≤ l.2.1 ∧ l.2.1 ≤ 100) ∧ (-100 ≤ l.2.2.1 ∧ l.2.2.1 ≤ 100) ∧ -1000000 ≤ l.2.2.2 ∧ l.2.2.2 ≤ 1000000
 ·rw [if_pos g]
  obtain ⟨g1, g2, g3, g4⟩ := g
  by_cases z : l.1 = 0 ∧ l.2.1 = 0 ∧ l.2.2.1 = 0
  ·rw [if_pos z]
   obtain ⟨z1, z2, z3⟩ := z
   refine sound (d := 2) tok2 mixed2 Tryz.func34 (by kernel_rfl) (by kernel_rfl) ?_
   (conv => whnf); refine ⟨inK64 (by omega) (by omega), ?_⟩
   (conv => whnf); refine .inl ⟨_, _, byX rfl (Sound1.pl (h1) rfl), ?_⟩
   (conv => whnf); refine ifB_not ?_
   (conv => whnf); refine ifB_dec (fun w1 => ?_) (fun w1 => ?_)
   ·(conv => whnf); refine ⟨inK64 (by omega) (by omega), ?_⟩
    (conv => whnf); refine .inl ⟨_, _, byX rfl (Sound1.pl (h2) rfl), ?_⟩
    (conv => whnf); refine ifB_not ?_
    (conv => whnf); refine ifB_dec (fun w2 => ?_) (fun w2 => ?_)
    ·(conv => whnf); refine ⟨inK64 (by omega) (by omega), ?_⟩
     (conv => whnf); refine .inl ⟨_, _, byX rfl (Sound1.pl (h3) rfl), ?_⟩
     (conv => whnf); refine ifB_not ?_
     (conv => whnf); refine ifB_dec (fun w3 => ?_) (fun w3 => ?_)
     ·(conv => whnf); refine .inl ⟨_, _, byX rfl (Sound1.pl (h4) rfl), ?_⟩
      (conv => whnf); refine ifB_not ?_
      (conv => whnf); refine ifB_dec (fun w4 => ?_) (fun w4 => ?_)
      ·(conv => whnf); refine ifB_beq (fun w5 => ?_) (fun w5 => ?_)
       ·(conv => whnf); refine ifB_beq (fun w6 => ?_) (fun w6 => ?_)
        ·(conv => whnf); refine ifB_beq (fun w7 => ?_) (fun w7 => ?_)
         ·(conv => whnf); refine ⟨?_, nofun⟩
          (first | contradiction | rfl)
         ·(exfalso; omega)
        ·(exfalso; omega)
       ·(exfalso; omega)
      ·(exfalso; omega)
     ·(exfalso; omega)
    ·(exfalso; omega)
   ·(exfalso; omega)
  ·rw [if_neg z]
   refine sound (d := 2) tok2 mixed2 Tryz.func34 (by kernel_rfl) (by kernel_rfl) ?_
   (conv => whnf); refine ⟨inK64 (by omega) (by omega), ?_⟩
   (conv => whnf); refine .inl ⟨_, _, byX rfl (Sound1.pl (h1) rfl), ?_⟩
   (conv => whnf); refine ifB_not ?_
   (conv => whnf); refine ifB_dec (fun w1 => ?_) (fun w1 => ?_)
   ·(conv => whnf); refine ⟨inK64 (by omega) (by omega), ?_⟩
    (conv => whnf); refine .inl ⟨_, _, byX rfl (Sound1.pl (h2) rfl), ?_⟩
    (conv => whnf); refine ifB_not ?_
    (conv => whnf); refine ifB_dec (fun w2 => ?_) (fun w2 => ?_)
    ·(conv => whnf); refine ⟨inK64 (by omega) (by omega), ?_⟩
     (conv => whnf); refine .inl ⟨_, _, byX rfl (Sound1.pl (h3) rfl), ?_⟩
     (conv => whnf); refine ifB_not ?_
     (conv => whnf); refine ifB_dec (fun w3 => ?_) (fun w3 => ?_)
     ·(conv => whnf); refine .inl ⟨_, _, byX rfl (Sound1.pl (h4) rfl), ?_⟩
      (conv => whnf); refine ifB_not ?_
      (conv => whnf); refine ifB_dec (fun w4 => ?_) (fun w4 => ?_)
      ·(conv => whnf); refine ifB_beq (fun w5 => ?_) (fun w5 => ?_)
       ·(conv => whnf); refine ifB_beq (fun w6 => ?_) (fun w6 => ?_)
        ·(conv => whnf); refine ifB_beq (fun w7 => ?_) (fun w7 => ?_)
         ·(exfalso; omega)
         ·(conv => whnf); refine ⟨?_, nofun⟩
          (first | contradiction | rfl)
        ·(conv => whnf); refine ⟨?_, nofun⟩
         (first | contradiction | rfl)
       ·(conv => whnf); refine ⟨?_, nofun⟩
        (first | contradiction | rfl)
      ·(exfalso; omega)
     ·(exfalso; omega)
    ·(exfalso; omega)
   ·(exfalso; omega)
 ·rw [if_neg g]
  refine sound (d := 2) tok2 mixed2 Tryz.func34 (by kernel_rfl) (by kernel_rfl) ?_
  (conv => whnf); refine ⟨inK64 (by omega) (by omega), ?_⟩
  (conv => whnf); refine .inl ⟨_, _, byX rfl (Sound1.pl (h1) rfl), ?_⟩
  (conv => whnf); refine ifB_not ?_
  (conv => whnf); refine ifB_dec (fun w1 => ?_) (fun w1 => ?_)
  ·(conv => whnf); refine ⟨inK64 (by omega) (by omega), ?_⟩
   (conv => whnf); refine .inl ⟨_, _, byX rfl (Sound1.pl (h2) rfl), ?_⟩
   (conv => whnf); refine ifB_not ?_
   (conv => whnf); refine ifB_dec (fun w2 => ?_) (fun w2 => ?_)
   ·(conv => whnf); refine ⟨inK64 (by omega) (by omega), ?_⟩
    (conv => whnf); refine .inl ⟨_, _, byX rfl (Sound1.pl (h3) rfl), ?_⟩
    (conv => whnf); refine ifB_not ?_
    (conv => whnf); refine ifB_dec (fun w3 => ?_) (fun w3 => ?_)
    ·(conv => whnf); refine .inl ⟨_, _, byX rfl (Sound1.pl (h4) rfl), ?_⟩
     (conv => whnf); refine ifB_not ?_
     (conv => whnf); refine ifB_dec (fun w4 => ?_) (fun w4 => ?_)
     ·(exfalso; omega)
     ·(conv => whnf); refine ⟨?_, nofun⟩
      (first | contradiction | rfl)
    ·(conv => whnf); refine ⟨?_, nofun⟩
     (first | contradiction | rfl)
   ·(conv => whnf); refine ⟨?_, nofun⟩
    (first | contradiction | rfl)
  ·(conv => whnf); refine ⟨?_, nofun⟩
   (first | contradiction | rfl)
theorem rk_mil {x : Int} (hx : x.natAbs ≤ 1000000) : Rk 1 (x : Rat) := ⟨by rw [Rat.num_intCast]; exact digs_len 1 _ (Nat.lt_of_le_of_lt hx (by decide)), by rw [Rat.den_intCast]; exact digs_len 1 _ (by decide)⟩
theorem S49 (q : Q3) (l : Ln) (hq : R3k 1 q) (hl : LnOk l) : SP 49 [bgA q, lnA l] (rA (sideQ l q)) false := by
 unfold LnOk at hl
 have a1 := S86 l.1 (by omega)
 have a2 := S86 l.2.1 (by omega)
 have a3 := S86 l.2.2.1 (by omega)
 have a4 := S86 l.2.2.2 (by omega)
 have r1 := rk_mil (x := l.1) (by omega)
 have r2 := rk_mil (x := l.2.1) (by omega)
 have r3 := rk_mil (x := l.2.2.1) (by omega)
 have r4 := rk_mil (x := l.2.2.2) (by omega)
 have m1 := S121 q.1 l.1 hq.1 r1 (by omega)
 have m2 := S121 q.2.1 l.2.1 hq.2.1 r2 (by omega)
 have m3 := S121 q.2.2 l.2.2.1 hq.2.2 r3 (by omega)
 have k1 := hq.1.mul r1
 have k2 := hq.2.1.mul r2
 have k3 := hq.2.2.mul r3
 have s1 := S122 _ _ k1 k2 (by omega)
 have s2 := S122 _ _ (k1.add k2) k3 (by omega)
 have s3 := S84 _ _ ((k1.add k2).add k3) r4 (by omega)
 unfold sideQ
 refine sound (d := 2) tok2 mixed2 Tryz.func49 (by kernel_rfl) (by kernel_rfl) ?_
 (conv => whnf); refine ⟨[], by kernel_rfl, ?_⟩
 (conv => whnf); refine .inl ⟨_, _, byX rfl (a1), ?_⟩
 (conv => whnf); refine .inl ⟨_, _, byX rfl (m1), ?_⟩
 (conv => whnf); refine ⟨[], by kernel_rfl, ?_⟩
 (conv => whnf); refine .inl ⟨_, _, byX rfl (a2), ?_⟩
 (conv => whnf); refine .inl ⟨_, _, byX rfl (m2), ?_⟩
 (conv => whnf); refine .inl ⟨_, _, byX rfl (s1), ?_⟩
 (conv => whnf); refine ⟨[], by kernel_rfl, ?_⟩
 (conv => whnf); refine .inl ⟨_, _, byX rfl (a3), ?_⟩
 (conv => whnf); refine .inl ⟨_, _, byX rfl (m3), ?_⟩
 (conv => whnf); refine .inl ⟨_, _, byX rfl (s2), ?_⟩
 (conv => whnf); refine ⟨[], by kernel_rfl, ?_⟩
 (conv => whnf); refine .inl ⟨_, _, byX rfl (a4), ?_⟩
 (conv => whnf); refine .inl ⟨_, _, byX rfl (s3), ?_⟩
 (conv => whnf); refine ⟨?_, nofun⟩
 (first | contradiction | exact ave_rA)
theorem putL_at {L : List Q3} {x : Q3} : ∀ {k : Nat}, (∀ j, j < k → lt3 (L.getD j q0) x) → k ≤ L.length → (k < L.length → ¬ lt3 (L.getD k q0) x) → putL lt3 L x = if k < L.length ∧ L.getD k q0 = x then L else L.take k ++ [x] ++ L.drop k := by
 induction L with
 | nil =>
  intro k h1 h2 h3
  have : k = 0 := by simpa using h2
  subst this
  rfl
 | cons y L ih =>
  intro k h1 h2 h3
  cases k with
  | zero =>
   have h : ¬ lt3 y x := h3 (by simp)
   unfold putL
   rw [if_neg h]
   by_cases e : y = x
   ·rw [if_pos e, if_pos ⟨by simp, e⟩]
   ·rw [if_neg e, if_neg (fun g => e g.2)]; rfl
  | succ k =>
   have h0 : lt3 y x := h1 0 (by omega)
   have ih := ih (k := k) (fun j hj => h1 (j + 1) (by omega)) (by simpa using h2) (fun hk => h3 (by simpa using hk))
   unfold putL
   rw [if_pos h0, ih]
   have e : (y :: L).getD (k + 1) q0 = L.getD k q0 := rfl
   rw [e, List.length_cons]
   by_cases g : k < L.length ∧ L.getD k q0 = x
   ·rw [if_pos g, if_pos ⟨by omega, g.2⟩]
   ·rw [if_neg g, if_neg (fun h => g ⟨by omega, h.2⟩)]; rfl
theorem put_get {α : Type} (g : α → List AV) {m : Nat} (hg : ∀ a, (g a).length = m) (d : α) (L : List α) (x : α) (k i : Nat) (hk : k ≤ L.length) :
  g ((L.take k ++ [x] ++ L.drop k).getD i d) = if i < k then g (L.getD i d) else if i = k then g x else g (L.getD (i - 1) d) := by
 have h1 : (L.take k).length = k := by rw [List.length_take]; omega
 by_cases h : i < k
 ·rw [if_pos h, List.getD_eq_getElem?_getD, List.append_assoc, List.getElem?_append_left (by omega), List.getElem?_take, if_pos h, List.getD_eq_getElem?_getD]
 ·rw [if_neg h]
  by_cases e : i = k
  ·rw [if_pos e, List.getD_eq_getElem?_getD, List.append_assoc, List.getElem?_append_right (by omega), h1, e, Nat.sub_self]; rfl
  ·rw [if_neg e, List.getD_eq_getElem?_getD, List.append_assoc, List.getElem?_append_right (by omega), h1, List.singleton_append, show i - k = (i - k - 1) + 1 by omega, List.getElem?_cons_succ, List.getElem?_drop, List.getD_eq_getElem?_getD, show k + (i - k - 1) = i - 1 by omega]
theorem take_row {α : Type} (g : α → List AV) {m : Nat} (hg : ∀ a, (g a).length = m) (a : α) : List.take m (g a) = g a := List.take_of_length_le (by rw [hg]; exact Nat.le_refl _)
theorem put_rows {L : List Q3} {x : Q3} {k : Nat} (hk : k ≤ L.length) {i : Nat} {f : List AV} (h1 : i < k → f = bgC (L.getD (0 + (0 + i) - 0) q0)) (h2 : i = k → f = List.take 12 (List.drop ((0 + i - (0 + ((k : Int) - 0).toNat)) * 12) (bgC x)))
  (h3 : k < i → f = shiftF (k : Int).toNat (fun j => bgC (L.getD j q0)) (i - (0 + ((k : Int) - 0).toNat + 1))) : f = bgC ((L.take k ++ [x] ++ L.drop k).getD i q0) := by
 rw [put_get bgC (m := 12) (fun _ => rfl) q0 L x k i hk]
 by_cases g : i < k
 ·rw [if_pos g, h1 g, show 0 + (0 + i) - 0 = i by omega]
 ·rw [if_neg g]
  by_cases e : i = k
  ·rw [if_pos e, h2 e, show 0 + i - (0 + ((k : Int) - 0).toNat) = 0 by omega, Nat.zero_mul, List.drop_zero]
   exact take_row bgC (fun _ => rfl) x
  ·rw [if_neg e, h3 (by omega), shiftF_eq]
   show bgC (L.getD ((k : Int).toNat + (i - (0 + ((k : Int) - 0).toNat + 1))) q0) = _
   rw [show (k : Int).toNat + (i - (0 + ((k : Int) - 0).toNat + 1)) = i - 1 by omega]
set_option maxHeartbeats 4000000 in
theorem S81 (L : List Q3) (x : Q3) (hl : L.length ≤ 1000000) (hL : ∀ i, R3k 2 (L.getD i q0)) (hx : R3k 2 x) : SP 81 [bgs L, bgA x] (bgs (putL lt3 L x)) false := by
 have hc := fun i => S144 (L.getD i q0) x (hL i) hx (by decide)
 have hneg := fun i => cmp3_neg (L.getD i q0) x
 have hzer := fun i => cmp3_zero (L.getD i q0) x
 refine sound (d := 2) tok2 mixed2 Tryz.func81 (by kernel_rfl) (by kernel_rfl) ?_
 (conv => whnf); refine ⟨[], [0, 3, 5], fun st mq => ∃ (k : Nat), (k ≤ L.length) ∧ (∀ j, j < k → lt3 (L.getD j q0) x) ∧ st = ⟨[(0, bgs L), (3, .optr 0 0 0 0), (5, i64 k)], ⟨[⟨12, 1, fun _ => bgC x, 0, false, true, true⟩], [], none, 0⟩, []⟩ ∧ mq = L.length - k,
  ⟨_, _, ⟨0, by omega, fun j h => absurd h (Nat.not_lt_zero j), rfl, rfl⟩, ⟨⟨.inl rfl, rfl, rfl, rfl⟩, ⟨⟨rfl, rfl, rfl, rfl, fun _ => rfl, fun _ _ => .inl rfl⟩, trivial⟩, trivial⟩⟩, ?_⟩
 rintro s0 m0 ⟨k, hk, hs, rfl, hmeas⟩
 by_cases hlt : k < L.length
 ·have hn := hneg k
  have hz := hzer k
  have c1 := hc k
  by_cases g1 : lt3 (L.getD k q0) x
  ·have g1' := hn.2 g1
   generalize cmp3 (L.getD k q0) x = z at *
   conv => whnf
   (conv => whnf); refine ⟨[], by kernel_rfl, ?_⟩
   conv => whnf
   (conv => whnf); refine ifB_dec (fun w1 => ?_) (fun w1 => ?_)
   ·conv => whnf
    (conv => whnf); refine ⟨⟨(by omega), (by omega)⟩, ?_⟩
    conv => whnf
    (conv => whnf); refine .inl ⟨_, _, byX rfl (Sound1.pl (c1) rfl), ?_⟩
    conv => whnf
    (conv => whnf); refine ifB_dec (fun w2 => ?_) (fun w2 => ?_)
    ·conv => whnf
     (conv => whnf); refine ⟨inK64 (by omega) (by omega), ?_⟩
     conv => whnf
     (conv => whnf); refine ⟨_, _, ⟨⟨k + 1, by omega, (fun j hj => by by_cases e : j = k; (rw [e]; exact g1); exact hs j (by omega)), rfl, rfl⟩, by omega⟩, ⟨⟨.inl rfl, rfl, rfl, rfl⟩, ⟨⟨rfl, rfl, rfl, rfl, fun _ => rfl, fun _ _ => .inl rfl⟩, trivial⟩, trivial⟩⟩
    ·(exfalso; omega)
   ·(exfalso; omega)
  ·have g1' : ¬ cmp3 (L.getD k q0) x < 0 := fun e => g1 (hn.1 e)
   have hp := putL_at hs (by omega) (fun _ => g1)
   by_cases g2 : L.getD k q0 = x
   ·rw [if_pos ⟨hlt, g2⟩] at hp
    have g2' := hz.2 g2
    rw [hp]
    generalize cmp3 (L.getD k q0) x = z at *
    conv => whnf
    (conv => whnf); refine ⟨[], by kernel_rfl, ?_⟩
    conv => whnf
    (conv => whnf); refine ifB_dec (fun w1 => ?_) (fun w1 => ?_)
    ·conv => whnf
     (conv => whnf); refine ⟨⟨(by omega), (by omega)⟩, ?_⟩
     conv => whnf
     (conv => whnf); refine .inl ⟨_, _, byX rfl (Sound1.pl (c1) rfl), ?_⟩
     conv => whnf
     (conv => whnf); refine ifB_dec (fun w2 => ?_) (fun w2 => ?_)
     ·(exfalso; omega)
     ·conv => whnf
      (conv => whnf); refine ⟨[], by kernel_rfl, ?_⟩
      conv => whnf
      (conv => whnf); refine ifB_dec (fun w3 => ?_) (fun w3 => ?_)
      ·conv => whnf
       (conv => whnf); refine ⟨⟨(by omega), (by omega)⟩, ?_⟩
       conv => whnf
       (conv => whnf); refine .inl ⟨_, _, byX rfl (Sound1.pl (c1) rfl), ?_⟩
       conv => whnf
       (conv => whnf); refine ifB_beq (fun w4 => ?_) (fun w4 => ?_)
       ·conv => whnf
        (conv => whnf); refine ⟨?_, nofun⟩
        exact ⟨rfl, rfl, fun _ _ => rfl⟩
       ·(exfalso; omega)
      ·(exfalso; omega)
    ·(exfalso; omega)
   ·rw [if_neg (fun e => g2 e.2)] at hp
    have g2' : ¬ cmp3 (L.getD k q0) x = 0 := fun e => g2 (hz.1 e)
    rw [hp]
    generalize cmp3 (L.getD k q0) x = z at *
    conv => whnf
    (conv => whnf); refine ⟨[], by kernel_rfl, ?_⟩
    conv => whnf
    (conv => whnf); refine ifB_dec (fun w1 => ?_) (fun w1 => ?_)
    ·conv => whnf
     (conv => whnf); refine ⟨⟨(by omega), (by omega)⟩, ?_⟩
     conv => whnf
     (conv => whnf); refine .inl ⟨_, _, byX rfl (Sound1.pl (c1) rfl), ?_⟩
     conv => whnf
     (conv => whnf); refine ifB_dec (fun w2 => ?_) (fun w2 => ?_)
     ·(exfalso; omega)
     ·conv => whnf
      (conv => whnf); refine ⟨[], by kernel_rfl, ?_⟩
      conv => whnf
      (conv => whnf); refine ifB_dec (fun w3 => ?_) (fun w3 => ?_)
      ·conv => whnf
       (conv => whnf); refine ⟨⟨(by omega), (by omega)⟩, ?_⟩
       conv => whnf
       (conv => whnf); refine .inl ⟨_, _, byX rfl (Sound1.pl (c1) rfl), ?_⟩
       conv => whnf
       (conv => whnf); refine ifB_beq (fun w4 => ?_) (fun w4 => ?_)
       ·(exfalso; omega)
       ·conv => whnf
        (conv => whnf); refine ⟨⟨(by omega), ⟨(by omega), (by omega)⟩⟩, ?_⟩
        conv => whnf
        (conv => whnf); refine .inl ?_
        conv => whnf
        (conv => whnf); refine ⟨⟨(by omega), (by show _ * (192 + 1) ≤ _; omega)⟩, ?_⟩
        conv => whnf
        (conv => whnf); refine .inl ?_
        conv => whnf
        (conv => whnf); refine ⟨(by show _ * (192 + 1) ≤ _; omega), ?_⟩
        conv => whnf
        (conv => whnf); refine ⟨⟨(by omega), ⟨(by omega), (by omega)⟩⟩, ?_⟩
        conv => whnf
        (conv => whnf); refine .inl ?_
        conv => whnf
        (conv => whnf); refine ⟨(by show _ * (192 + 1) ≤ _; omega), ?_⟩
        conv => whnf
        (conv => whnf); refine ⟨?_, nofun⟩
        exact ⟨rfl, (by simp; omega), fun i hi => put_rows hk (fun g => (if_pos (by omega)).trans ((if_pos (by omega)).trans (if_neg (by omega)))) (fun g => (if_pos (by omega)).trans (if_neg (by omega))) (fun g => if_neg (by omega))⟩
      ·(exfalso; omega)
    ·(exfalso; omega)
 ·have hp := putL_at hs (by omega) (fun e => absurd e hlt)
  rw [if_neg (fun e => hlt e.1)] at hp
  rw [hp]
  conv => whnf
  (conv => whnf); refine ⟨[], by kernel_rfl, ?_⟩
  conv => whnf
  (conv => whnf); refine ifB_dec (fun w1 => ?_) (fun w1 => ?_)
  ·(exfalso; omega)
  ·conv => whnf
   (conv => whnf); refine ⟨[], by kernel_rfl, ?_⟩
   conv => whnf
   (conv => whnf); refine ifB_dec (fun w2 => ?_) (fun w2 => ?_)
   ·(exfalso; omega)
   ·conv => whnf
    (conv => whnf); refine ⟨⟨(by omega), ⟨(by omega), (by omega)⟩⟩, ?_⟩
    conv => whnf
    (conv => whnf); refine .inl ?_
    conv => whnf
    (conv => whnf); refine ⟨⟨(by omega), (by show _ * (192 + 1) ≤ _; omega)⟩, ?_⟩
    conv => whnf
    (conv => whnf); refine .inl ?_
    conv => whnf
    (conv => whnf); refine ⟨(by show _ * (192 + 1) ≤ _; omega), ?_⟩
    conv => whnf
    (conv => whnf); refine ⟨⟨(by omega), ⟨(by omega), (by omega)⟩⟩, ?_⟩
    conv => whnf
    (conv => whnf); refine .inl ?_
    conv => whnf
    (conv => whnf); refine ⟨(by show _ * (192 + 1) ≤ _; omega), ?_⟩
    conv => whnf
    (conv => whnf); refine ⟨?_, nofun⟩
    exact ⟨rfl, (by simp; omega), fun i hi => put_rows hk (fun g => (if_pos (by omega)).trans ((if_pos (by omega)).trans (if_neg (by omega)))) (fun g => (if_pos (by omega)).trans (if_neg (by omega))) (fun g => if_neg (by omega))⟩
end Go.Tr

/- Contracts of chapter 5: the reference's spots on a line; the law of lines. Conditions: none. -/
-- seat YtgbdlkajmmjahaaGreat
namespace Go.Tr
open Go Go.Proofs
set_option maxRecDepth 20000
set_option maxHeartbeats 8000000

structure QOk (Q : List Q3) (l : Ln) : Prop where
 len : Q.length ≤ 12
 rk : ∀ k, k < Q.length → R3k 1 (Q.getD k q0)
 side : ∀ k, k < Q.length → Rk 1 (sideQ l (Q.getD k q0))
 ne : ∀ k, k + 1 < Q.length → sgR (sideQ l (Q.getD k q0)) * sgR (sideQ l (Q.getD (k + 1) q0)) < 0 → sideQ l (Q.getD k q0) - sideQ l (Q.getD (k + 1) q0) ≠ 0
 part : ∀ k, k + 1 < Q.length → Rk 1 (sideQ l (Q.getD k q0) / (sideQ l (Q.getD k q0) - sideQ l (Q.getD (k + 1) q0)))
 on : ∀ k, k ≤ Q.length → ∀ q ∈ onQ Q l k, R3k 2 q
theorem sgR_mul {a b : Rat} (h : sgR a * sgR b < 0) : a - b ≠ 0 := fun e => by
 have e : a = b := by grind
 subst e
 rcases sgR_cases a with ⟨_, g⟩ | ⟨_, g⟩ | ⟨_, g⟩ <;> rw [g] at h <;> exact absurd h (by decide)
theorem CvOk.q {N : List Nm} (hN : CvOk N) {l : Ln} (hl : LnOk l) : QOk (N.map nmQ) l := by
  have hg : ∀ k, k < N.length → (N.map nmQ).getD k q0 = nmQ (N.getD k n0) := fun k hk => getD_mapG nmQ N k n0 q0 hk
  have hb : ∀ k, k < N.length → NmB 200 (N.getD k n0) := fun k hk => hN.b _ (getD_memG hk)
  have z : ∀ x : Int, x.natAbs ≤ 880000000 → Zk 1 x := fun x hx => Zk.small (Nat.lt_of_le_of_lt hx (by decide))
  have hs : ∀ k, k < N.length → sideQ l ((N.map nmQ).getD k q0) = Rat.divInt (sideN l (N.getD k n0)) (N.getD k n0).2 := fun k hk => by
    rw [hg k hk, side_eq l (by have := (hb k hk).d; omega)]
  refine ⟨by rw [List.length_map]; exact hN.len, fun k hk => ?_, fun k hk => ?_, fun k hk h => sgR_mul h, fun k hk => ?_, fun k hk q hq => ?_⟩
  · rw [List.length_map] at hk
    rw [hg k hk]
    exact (hb k hk).rk (Nat.lt_of_le_of_lt (show _ ≤ 2000000 by omega) (by decide))
  · rw [List.length_map] at hk
    have hbk := hb k hk
    rw [hs k hk]
    exact Rk.divI (by have := hbk.d; omega) (z _ (by have := (side_b hl hbk).2; omega)) (z _ (by have := hbk.d; omega))
  · rw [List.length_map] at hk
    have hb1 := hb k (by omega)
    have hb2 := hb (k + 1) hk
    have hd : (N.getD k n0).2 = (N.getD (k + 1) n0).2 := hN.d _ (getD_memG (by omega)) _ (getD_memG hk)
    rw [hs k (by omega), hs (k + 1) hk, ← hd, frac_of_parts (by have := hb1.d; omega)]
    have s1 := (side_b hl hb1).2
    have s2 := (side_b hl hb2).2
    by_cases e : sideN l (N.getD k n0) - sideN l (N.getD (k + 1) n0) = 0
    · rw [e, Rat.divInt_zero]
      exact rk_mil (x := 0) (by decide)
    · exact Rk.divI e (z _ (by omega)) (z _ (by omega))
  · rw [List.length_map] at hk
    cases h : N with
    | nil => rw [h] at hk; have : k = 0 := by simpa using hk
             rw [this] at hq; cases hq
    | cons y r =>
      have hy : y ∈ N := by rw [h]; simp
      rw [← on_map N l (hN.b y hy).d.1 (fun n hn => hN.d n hn y hy) k hk] at hq
      obtain ⟨n, hn, e⟩ := List.mem_map.1 hq
      rw [← e]
      exact (onN_ok hN hl k hk n hn).rk (Nat.lt_of_le_of_lt (show _ ≤ 1760000000000000 by decide) (by decide))
theorem onQ_1 {Q : List Q3} {l : Ln} {k : Nat} (h : sideQ l (Q.getD k q0) = 0) : onQ Q l (k + 1) = onQ Q l k ++ [Q.getD k q0] := by
 rw [onQ, if_pos h, if_neg (fun e => by
  have := e.2
  rcases sgR_cases (sideQ l (Q.getD k q0)) with ⟨g, _⟩ | ⟨_, g⟩ | ⟨g, _⟩
  ·rw [h] at g; exact rlt_irr _ g
  ·rw [g, Int.zero_mul] at this; exact absurd this (by decide)
  ·rw [h] at g; exact rlt_irr _ g)]; rfl
theorem onQ_2 {Q : List Q3} {l : Ln} {k : Nat} (h : ¬ sideQ l (Q.getD k q0) = 0) (h2 : k + 1 < Q.length ∧ sgR (sideQ l (Q.getD k q0)) * sgR (sideQ l (Q.getD (k + 1) q0)) < 0) :
    onQ Q l (k + 1) = onQ Q l k ++ [mixQ (Q.getD k q0) (Q.getD (k + 1) q0) (sideQ l (Q.getD k q0) / (sideQ l (Q.getD k q0) - sideQ l (Q.getD (k + 1) q0)))] := by
  rw [onQ, if_neg h, if_pos h2]; rfl
theorem onQ_3 {Q : List Q3} {l : Ln} {k : Nat} (h : ¬ sideQ l (Q.getD k q0) = 0) (h2 : ¬ (k + 1 < Q.length ∧ sgR (sideQ l (Q.getD k q0)) * sgR (sideQ l (Q.getD (k + 1) q0)) < 0)) : onQ Q l (k + 1) = onQ Q l k := by
  rw [onQ, if_neg h, if_neg h2]; simp
theorem onQ_len (Q : List Q3) (l : Ln) : ∀ k, (onQ Q l k).length ≤ 2 * k
 | 0 => Nat.le_refl _
 | k + 1 => by
  unfold onQ
  have := onQ_len Q l k
  rw [List.length_append, List.length_append]
  have h1 : (if sideQ l (Q.getD k q0) = 0 then [Q.getD k q0] else []).length ≤ 1 := by split <;> simp
  have h2 : (if k + 1 < Q.length ∧ sgR (sideQ l (Q.getD k q0)) * sgR (sideQ l (Q.getD (k + 1) q0)) < 0 then [mixQ (Q.getD k q0) (Q.getD (k + 1) q0) (sideQ l (Q.getD k q0) / (sideQ l (Q.getD k q0) - sideQ l (Q.getD (k + 1) q0)))] else []).length ≤ 1 := by split <;> simp
  omega
theorem putL_len (l : List Q3) (x : Q3) : (putL lt3 l x).length ≤ l.length + 1 := by
 induction l with
 | nil => simp [putL]
 | cons y l ih =>
  unfold putL
  split
  ·simpa using ih
  ·split <;> simp
theorem putAll_len (l : List Q3) : (putAll lt3 l).length ≤ l.length := by
 induction l using snoc_ind with
 | h0 => exact Nat.le_refl _
 | hs l x ih =>
  rw [putAll_snoc]
  have := putL_len (putAll lt3 l) x
  rw [List.length_append]
  simp
  omega
set_option maxHeartbeats 8000000 in
theorem S21 (Q : List Q3) (l : Ln) (hQ : QOk Q l) (hl : LnOk l) : SP 21 [bgs Q, lnA l] (bgs (spL Q l)) false := by
 have hlen := hQ.len
 refine sound (d := 2) tok2 mixed2 Tryz.func21 (by kernel_rfl) (by kernel_rfl) ?_
 (conv => whnf); refine ⟨[], [0, 3, 5, 6], fun st mq => ∃ (k : Nat) (O : List Q3), (k ≤ Q.length) ∧ (O = putAll lt3 (onQ Q l k)) ∧ st = ⟨[(0, bgs Q), (3, .optr 0 0 0 0), (5, bgs O), (6, i64 k)], ⟨[⟨4, 1, fun _ => lnC l, 0, false, true, true⟩], [], none, 0⟩, []⟩ ∧ mq = Q.length - k,
  ⟨_, _, ⟨0, [], by omega, rfl, rfl, rfl⟩, ⟨⟨.inr ⟨rfl, .inl rfl, ⟨rfl, .inl rfl, ⟨rfl, .inr (rfl), ⟨rfl, .inl rfl, trivial⟩⟩⟩⟩, rfl, rfl, rfl⟩, ⟨⟨rfl, rfl, rfl, rfl, fun _ => rfl, fun _ _ => .inl rfl⟩, trivial⟩, trivial⟩⟩, ?_⟩
 rintro s0 m0 ⟨k, O, hk, hO, rfl, hmeas⟩
 have hOl : O.length ≤ 1000000 := by
  rw [hO]
  have h1 := putAll_len (onQ Q l k)
  have h2 := onQ_len Q l k
  omega
 have hOr : ∀ i, R3k 2 (O.getD i q0) := fun i => by
  by_cases hi : i < O.length
  ·have hm := getD_memG (d := q0) hi
   rw [hO, putAll_mem, ← hO] at hm
   exact hQ.on k hk _ hm
  ·rw [List.getD_eq_getElem?_getD, List.getElem?_eq_none (by omega)]
   exact (rk_pt (p := p0) ptOk_0).mono (by decide)
 have c49 := fun q hq => S49 q l hq hl
 have c81 := fun x hx => S81 O x hOl hOr hx
 by_cases hlt : k < Q.length
 ·have rk0 := hQ.rk k hlt
  have rk02 := rk0.mono (l := 2) (by decide)
  have hsg := sgR_cases (sideQ l (Q.getD k q0))
  by_cases hz : sideQ l (Q.getD k q0) = 0
  ·have eO := onQ_1 hz
   have eP : putAll lt3 (onQ Q l (k + 1)) = putL lt3 O (Q.getD k q0) := by rw [eO, putAll_snoc, ← hO]
   have hA : sgR (sideQ l (Q.getD (k : Int).toNat q0)) = 0 := by
    rcases hsg with ⟨g, _⟩ | ⟨_, g⟩ | ⟨g, _⟩
    ·rw [hz] at g; exact absurd g (rlt_irr _)
    ·exact g
    ·rw [hz] at g; exact absurd g (rlt_irr _)
   by_cases hlt2 : k + 1 < Q.length
   ·have rk1 := hQ.rk (k + 1) hlt2
    have r0' : sgR (sideQ l (Q.getD (k : Int).toNat q0)) * sgR (sideQ l (Q.getD ((k : Int) + 1).toNat q0)) = 0 := by rw [hA, Int.zero_mul]
    have r1' : inK .i64 (sgR (sideQ l (Q.getD (k : Int).toNat q0)) * sgR (sideQ l (Q.getD ((k : Int) + 1).toNat q0))) := inK_of (by rw [r0']; decide)
    conv => whnf
    (conv => whnf); refine ifB_dec (fun w1 => ?_) (fun w1 => ?_)
    ·conv => whnf
     (conv => whnf); refine ⟨[], by kernel_rfl, ?_⟩
     conv => whnf
     (conv => whnf); refine ⟨⟨(by omega), (by omega)⟩, ?_⟩
     conv => whnf
     (conv => whnf); refine .inl ⟨_, _, byX rfl (c49 _ (by first | omega | assumption | simp)), ?_⟩
     conv => whnf
     (conv => whnf); refine .inl ⟨_, _, byX rfl (Sound1.pl (S48 _) rfl), ?_⟩
     conv => whnf
     (conv => whnf); refine ifB_beq (fun w2 => ?_) (fun w2 => ?_)
     ·conv => whnf
      (conv => whnf); refine ⟨⟨(by omega), (by omega)⟩, ?_⟩
      conv => whnf
      (conv => whnf); refine .inl ⟨_, _, byX rfl (c81 _ (by first | omega | assumption | simp)), ?_⟩
      conv => whnf
      (conv => whnf); refine ⟨inK64 (by omega) (by omega), ?_⟩
      conv => whnf
      (conv => whnf); refine ifB_beq (fun w3 => ?_) (fun w3 => ?_)
      ·(exfalso; omega)
      ·conv => whnf
       (conv => whnf); refine ⟨[], by kernel_rfl, ?_⟩
       conv => whnf
       (conv => whnf); refine ⟨inK64 (by omega) (by omega), ?_⟩
       conv => whnf
       (conv => whnf); refine ⟨⟨(by omega), (by omega)⟩, ?_⟩
       conv => whnf
       (conv => whnf); refine .inl ⟨_, _, byX rfl (c49 _ (by first | omega | assumption | simp)), ?_⟩
       conv => whnf
       (conv => whnf); refine ⟨[], by kernel_rfl, ?_⟩
       conv => whnf
       (conv => whnf); refine .inl ⟨_, _, byX rfl (Sound1.pl (S48 _) rfl), ?_⟩
       conv => whnf
       (conv => whnf); refine .inl ⟨_, _, byX rfl (Sound1.pl (S48 _) rfl), ?_⟩
       conv => whnf
       (conv => whnf); refine ⟨inK64 (by omega) (by omega), ?_⟩
       conv => whnf
       (conv => whnf); refine ifB_dec (fun w4 => ?_) (fun w4 => ?_)
       ·(exfalso; omega)
       ·conv => whnf
        (conv => whnf); refine ⟨inK64 (by omega) (by omega), ?_⟩
        conv => whnf
        (conv => whnf); refine ⟨_, _, ⟨⟨k + 1, putL lt3 O (Q.getD k q0), by omega, eP.symm, rfl, rfl⟩, by omega⟩, ⟨⟨.inl rfl, rfl, rfl, rfl⟩, ⟨⟨rfl, rfl, rfl, rfl, fun _ => rfl, fun _ _ => .inl rfl⟩, trivial⟩, trivial⟩⟩
     ·(exfalso; omega)
    ·(exfalso; omega)
   ·have hsp : spL Q l = putL lt3 O (Q.getD k q0) := by
     rw [← eP, show k + 1 = Q.length by omega]; rfl
    rw [hsp]
    conv => whnf
    (conv => whnf); refine ifB_dec (fun w1 => ?_) (fun w1 => ?_)
    ·conv => whnf
     (conv => whnf); refine ⟨[], by kernel_rfl, ?_⟩
     conv => whnf
     (conv => whnf); refine ⟨⟨(by omega), (by omega)⟩, ?_⟩
     conv => whnf
     (conv => whnf); refine .inl ⟨_, _, byX rfl (c49 _ (by first | omega | assumption | simp)), ?_⟩
     conv => whnf
     (conv => whnf); refine .inl ⟨_, _, byX rfl (Sound1.pl (S48 _) rfl), ?_⟩
     conv => whnf
     (conv => whnf); refine ifB_beq (fun w2 => ?_) (fun w2 => ?_)
     ·conv => whnf
      (conv => whnf); refine ⟨⟨(by omega), (by omega)⟩, ?_⟩
      conv => whnf
      (conv => whnf); refine .inl ⟨_, _, byX rfl (c81 _ (by first | omega | assumption | simp)), ?_⟩
      conv => whnf
      (conv => whnf); refine ⟨inK64 (by omega) (by omega), ?_⟩
      conv => whnf
      (conv => whnf); refine ifB_beq (fun w3 => ?_) (fun w3 => ?_)
      ·conv => whnf
       (conv => whnf); refine ⟨?_, nofun⟩
       exact ⟨rfl, rfl, fun _ _ => rfl⟩
      ·(exfalso; omega)
     ·(exfalso; omega)
    ·(exfalso; omega)
  ·have hA : ¬ sgR (sideQ l (Q.getD (k : Int).toNat q0)) = 0 := by
    rcases hsg with ⟨_, g⟩ | ⟨g, _⟩ | ⟨_, g⟩
    ·exact fun e => absurd (g.symm.trans e) (by decide)
    ·exact absurd g hz
    ·exact fun e => absurd (g.symm.trans e) (by decide)
   by_cases hlt2 : k + 1 < Q.length
   ·have rk1 := hQ.rk (k + 1) hlt2
    have hsg2 := sgR_cases (sideQ l (Q.getD (k + 1) q0))
    have r1' : inK .i64 (sgR (sideQ l (Q.getD (k : Int).toNat q0)) * sgR (sideQ l (Q.getD ((k : Int) + 1).toNat q0))) := by
     show inK .i64 (sgR (sideQ l (Q.getD k q0)) * sgR (sideQ l (Q.getD (k + 1) q0)))
     rcases hsg with ⟨_, g⟩ | ⟨_, g⟩ | ⟨_, g⟩ <;> rcases hsg2 with ⟨_, g2⟩ | ⟨_, g2⟩ | ⟨_, g2⟩ <;> rw [g, g2] <;> exact inK_of (by decide)
    by_cases hc : sgR (sideQ l (Q.getD k q0)) * sgR (sideQ l (Q.getD (k + 1) q0)) < 0
    ·have hc' : sgR (sideQ l (Q.getD (k : Int).toNat q0)) * sgR (sideQ l (Q.getD ((k : Int) + 1).toNat q0)) < 0 := hc
     have eO := onQ_2 hz ⟨hlt2, hc⟩
     have hm : R3k 2 (mixQ (Q.getD k q0) (Q.getD (k + 1) q0) (sideQ l (Q.getD k q0) / (sideQ l (Q.getD k q0) - sideQ l (Q.getD (k + 1) q0)))) := hQ.on (k + 1) (by omega) _ (by rw [eO]; simp)
     have eP : putAll lt3 (onQ Q l (k + 1)) = putL lt3 O (mixQ (Q.getD k q0) (Q.getD (k + 1) q0) (sideQ l (Q.getD k q0) / (sideQ l (Q.getD k q0) - sideQ l (Q.getD (k + 1) q0)))) := by rw [eO, putAll_snoc, ← hO]
     have c84 := S84 (sideQ l (Q.getD k q0)) (sideQ l (Q.getD (k + 1) q0)) (hQ.side k hlt) (hQ.side (k + 1) hlt2) (by decide)
     have c83 := S83 (sideQ l (Q.getD k q0)) (sideQ l (Q.getD k q0) - sideQ l (Q.getD (k + 1) q0)) (hQ.side k hlt) ((hQ.side k hlt).sub (hQ.side (k + 1) hlt2)) (by decide) (hQ.ne k hlt2 hc)
     have c82 := S82 (Q.getD k q0) (Q.getD (k + 1) q0) (sideQ l (Q.getD k q0) / (sideQ l (Q.getD k q0) - sideQ l (Q.getD (k + 1) q0))) rk0 rk1 (hQ.part k hlt2) (by decide)
     conv => whnf
     (conv => whnf); refine ifB_dec (fun w1 => ?_) (fun w1 => ?_)
     ·conv => whnf
      (conv => whnf); refine ⟨[], by kernel_rfl, ?_⟩
      conv => whnf
      (conv => whnf); refine ⟨⟨(by omega), (by omega)⟩, ?_⟩
      conv => whnf
      (conv => whnf); refine .inl ⟨_, _, byX rfl (c49 _ (by first | omega | assumption | simp)), ?_⟩
      conv => whnf
      (conv => whnf); refine .inl ⟨_, _, byX rfl (Sound1.pl (S48 _) rfl), ?_⟩
      conv => whnf
      (conv => whnf); refine ifB_beq (fun w2 => ?_) (fun w2 => ?_)
      ·(exfalso; omega)
      ·conv => whnf
       (conv => whnf); refine ⟨inK64 (by omega) (by omega), ?_⟩
       conv => whnf
       (conv => whnf); refine ifB_beq (fun w3 => ?_) (fun w3 => ?_)
       ·(exfalso; omega)
       ·conv => whnf
        (conv => whnf); refine ⟨[], by kernel_rfl, ?_⟩
        conv => whnf
        (conv => whnf); refine ⟨inK64 (by omega) (by omega), ?_⟩
        conv => whnf
        (conv => whnf); refine ⟨⟨(by omega), (by omega)⟩, ?_⟩
        conv => whnf
        (conv => whnf); refine .inl ⟨_, _, byX rfl (c49 _ (by first | omega | assumption | simp)), ?_⟩
        conv => whnf
        (conv => whnf); refine ⟨[], by kernel_rfl, ?_⟩
        conv => whnf
        (conv => whnf); refine .inl ⟨_, _, byX rfl (Sound1.pl (S48 _) rfl), ?_⟩
        conv => whnf
        (conv => whnf); refine .inl ⟨_, _, byX rfl (Sound1.pl (S48 _) rfl), ?_⟩
        conv => whnf
        (conv => whnf); refine ⟨by assumption, ?_⟩
        conv => whnf
        (conv => whnf); refine ifB_dec (fun w4 => ?_) (fun w4 => ?_)
        ·conv => whnf
         (conv => whnf); refine ⟨[], by kernel_rfl, ?_⟩
         conv => whnf
         (conv => whnf); refine ⟨⟨(by omega), (by omega)⟩, ?_⟩
         conv => whnf
         (conv => whnf); refine ⟨inK64 (by omega) (by omega), ?_⟩
         conv => whnf
         (conv => whnf); refine ⟨⟨(by omega), (by omega)⟩, ?_⟩
         conv => whnf
         (conv => whnf); refine .inl ⟨_, _, byX rfl (c84), ?_⟩
         conv => whnf
         (conv => whnf); refine .inl ⟨_, _, byX rfl (c83), ?_⟩
         conv => whnf
         (conv => whnf); refine .inl ⟨_, _, byX rfl (c82), ?_⟩
         conv => whnf
         (conv => whnf); refine .inl ⟨_, _, byX rfl (c81 _ (by omega)), ?_⟩
         conv => whnf
         (conv => whnf); refine ⟨inK64 (by omega) (by omega), ?_⟩
         conv => whnf
         (conv => whnf); refine ⟨_, _, ⟨⟨k + 1, putL lt3 O (mixQ (Q.getD k q0) (Q.getD (k + 1) q0) (sideQ l (Q.getD k q0) / (sideQ l (Q.getD k q0) - sideQ l (Q.getD (k + 1) q0)))), by omega, eP.symm, rfl, rfl⟩, by omega⟩, ⟨⟨.inl rfl, rfl, rfl, rfl⟩, ⟨⟨rfl, rfl, rfl, rfl, fun _ => rfl, fun _ _ => .inl rfl⟩, trivial⟩, trivial⟩⟩
        ·(exfalso; omega)
     ·(exfalso; omega)
    ·have hc' : ¬ sgR (sideQ l (Q.getD (k : Int).toNat q0)) * sgR (sideQ l (Q.getD ((k : Int) + 1).toNat q0)) < 0 := hc
     have eO := onQ_3 hz (fun e => hc e.2)
     conv => whnf
     (conv => whnf); refine ifB_dec (fun w1 => ?_) (fun w1 => ?_)
     ·conv => whnf
      (conv => whnf); refine ⟨[], by kernel_rfl, ?_⟩
      conv => whnf
      (conv => whnf); refine ⟨⟨(by omega), (by omega)⟩, ?_⟩
      conv => whnf
      (conv => whnf); refine .inl ⟨_, _, byX rfl (c49 _ (by first | omega | assumption | simp)), ?_⟩
      conv => whnf
      (conv => whnf); refine .inl ⟨_, _, byX rfl (Sound1.pl (S48 _) rfl), ?_⟩
      conv => whnf
      (conv => whnf); refine ifB_beq (fun w2 => ?_) (fun w2 => ?_)
      ·(exfalso; omega)
      ·conv => whnf
       (conv => whnf); refine ⟨inK64 (by omega) (by omega), ?_⟩
       conv => whnf
       (conv => whnf); refine ifB_beq (fun w3 => ?_) (fun w3 => ?_)
       ·(exfalso; omega)
       ·conv => whnf
        (conv => whnf); refine ⟨[], by kernel_rfl, ?_⟩
        conv => whnf
        (conv => whnf); refine ⟨inK64 (by omega) (by omega), ?_⟩
        conv => whnf
        (conv => whnf); refine ⟨⟨(by omega), (by omega)⟩, ?_⟩
        conv => whnf
        (conv => whnf); refine .inl ⟨_, _, byX rfl (c49 _ (by first | omega | assumption | simp)), ?_⟩
        conv => whnf
        (conv => whnf); refine ⟨[], by kernel_rfl, ?_⟩
        conv => whnf
        (conv => whnf); refine .inl ⟨_, _, byX rfl (Sound1.pl (S48 _) rfl), ?_⟩
        conv => whnf
        (conv => whnf); refine .inl ⟨_, _, byX rfl (Sound1.pl (S48 _) rfl), ?_⟩
        conv => whnf
        (conv => whnf); refine ⟨by assumption, ?_⟩
        conv => whnf
        (conv => whnf); refine ifB_dec (fun w4 => ?_) (fun w4 => ?_)
        ·(exfalso; omega)
        ·conv => whnf
         (conv => whnf); refine ⟨inK64 (by omega) (by omega), ?_⟩
         conv => whnf
         (conv => whnf); refine ⟨_, _, ⟨⟨k + 1, O, by omega, (by rw [eO]; exact hO), rfl, rfl⟩, by omega⟩, ⟨⟨.inl rfl, rfl, rfl, rfl⟩, ⟨⟨rfl, rfl, rfl, rfl, fun _ => rfl, fun _ _ => .inl rfl⟩, trivial⟩, trivial⟩⟩
     ·(exfalso; omega)
   ·have eO := onQ_3 hz (fun e => hlt2 e.1)
    have hsp : spL Q l = O := by
     rw [hO, ← eO, show k + 1 = Q.length by omega]; rfl
    rw [hsp]
    conv => whnf
    (conv => whnf); refine ifB_dec (fun w1 => ?_) (fun w1 => ?_)
    ·conv => whnf
     (conv => whnf); refine ⟨[], by kernel_rfl, ?_⟩
     conv => whnf
     (conv => whnf); refine ⟨⟨(by omega), (by omega)⟩, ?_⟩
     conv => whnf
     (conv => whnf); refine .inl ⟨_, _, byX rfl (c49 _ (by first | omega | assumption | simp)), ?_⟩
     conv => whnf
     (conv => whnf); refine .inl ⟨_, _, byX rfl (Sound1.pl (S48 _) rfl), ?_⟩
     conv => whnf
     (conv => whnf); refine ifB_beq (fun w2 => ?_) (fun w2 => ?_)
     ·(exfalso; omega)
     ·conv => whnf
      (conv => whnf); refine ⟨inK64 (by omega) (by omega), ?_⟩
      conv => whnf
      (conv => whnf); refine ifB_beq (fun w3 => ?_) (fun w3 => ?_)
      ·conv => whnf
       (conv => whnf); refine ⟨?_, nofun⟩
       exact ⟨rfl, rfl, fun _ _ => rfl⟩
      ·(exfalso; omega)
    ·(exfalso; omega)
 ·obtain rfl : k = Q.length := by omega
  have hO : O = spL Q l := hO
  rw [← hO]
  conv => whnf
  (conv => whnf); refine ifB_dec (fun w1 => ?_) (fun w1 => ?_)
  ·(exfalso; omega)
  ·conv => whnf
   (conv => whnf); refine ⟨?_, nofun⟩
   exact ⟨rfl, rfl, fun _ _ => rfl⟩
end Go.Tr

/- Contracts of chapter 5: spots on lines, operating points, runaway. Conditions: none. -/
-- seat YtgbdlkajmmjahaaGreat
namespace Go.Tr
open Go Go.Proofs
set_option maxRecDepth 20000
set_option maxHeartbeats 8000000

theorem crvQ_len {t : List MRow} {f : Int × Int} (hT : TblOk t) (hO : OpOk t f) : (crvQ t f).length ≤ 12 := by
  rw [← crv_map hT hO, List.length_map]; exact crvN_len hT hO
theorem smL_len (L : List Q3) : (smL L).length ≤ L.length := by
 unfold smL
 split
 ·exact Nat.le_refl _
 ·exact Nat.zero_le _
def soE (t : List MRow) (f : Int × Int) (l : Ln) : Int := if ocE t f ≠ 0 then ocE t f else lnE l
theorem soE_ok {t : List MRow} {f : Int × Int} {l : Ln} (h : soE t f l = 0) : ocE t f = 0 ∧ lnE l = 0 := by
 unfold soE at h
 by_cases h1 : ocE t f = 0
 ·rw [if_neg (not_not_intro h1)] at h; exact ⟨h1, h⟩
 ·rw [if_pos h1] at h; exact absurd h h1
theorem S79c {t : List MRow} {f : Int × Int} (hT : TblOk t) (hO : OpOk t f) {l : Ln} (hl : LnOk l) : SP 79 [nms (crvN t f), lnA l] (.tuple [sps (slL (crvQ t f) l), i64 (slE (crvQ t f) l)]) false := by
  have h := S79 (crvN t f) l (crv_ok hT hO) hl
  rwa [crv_map hT hO] at h
theorem S33 (t : List MRow) (ht : Fit t) (f : Int × Int) (hf : FrI f) (l : Ln) : SP 33 [tblA t, gaF f, lnA l] (.tuple [sps (if soE t f l = 0 then slL (crvQ t f) l else []), i64 (if soE t f l = 0 then slE (crvQ t f) l else soE t f l)]) false := by
 have h74 := S74 t ht f hf
 have h96 := S96 l
 have h76 := @S76_2 (ocE t f) (lnE l)
 rw [first2] at h76
 change ∀ {f' : Nat → List AV}, _ → SP 76 _ (i64 (soE t f l)) false at h76
 by_cases h0 : soE t f l = 0
 ·obtain ⟨h1, h2⟩ := soE_ok h0
  obtain ⟨hT, _, hO⟩ := ocE_ok h1
  have h79 := S79c hT hO (lnE_ok h2)
  rw [h0] at h76
  unfold ocL at h74
  rw [if_pos h1] at h74
  rw [if_pos h0, if_pos h0]
  refine sound (d := 2) tok2 mixed2 Tryz.func33 (by kernel_rfl) (by kernel_rfl) ?_
  (conv => whnf); refine .inl ⟨_, _, byX rfl (h74), ?_⟩
  (conv => whnf); refine .inl ⟨_, _, byX rfl (Sound1.pl (h96) rfl), ?_⟩
  (conv => whnf); refine .inl ⟨_, _, byX rfl (Sound1.pl (h76 ⟨rfl, rfl⟩) rfl), ?_⟩
  (conv => whnf); refine .inl ⟨_, _, byX rfl (h79), ?_⟩
  (conv => whnf); refine ⟨?_, nofun⟩
  exact ave_tup2 ⟨rfl, rfl, fun _ _ => rfl⟩ rfl
 ·rw [if_neg h0, if_neg h0]
  refine sound (d := 2) tok2 mixed2 Tryz.func33 (by kernel_rfl) (by kernel_rfl) ?_
  (conv => whnf); refine .inl ⟨_, _, byX rfl (h74), ?_⟩
  (conv => whnf); refine .inl ⟨_, _, byX rfl (Sound1.pl (h96) rfl), ?_⟩
  (conv => whnf); refine .inl ⟨_, _, byX rfl (Sound1.pl (h76 ⟨rfl, rfl⟩) rfl), ?_⟩
  (conv => whnf); refine ifB_bne (fun w1 => ?_) (fun w1 => ?_)
  ·(conv => whnf); refine ⟨?_, nofun⟩
   exact ave_tup2 rfl rfl
  ·(exfalso; omega)
theorem crvQ_ok {t : List MRow} {f : Int × Int} (hT : TblOk t) (hO : OpOk t f) {l : Ln} (hl : LnOk l) : QOk (crvQ t f) l := by
  have h := (crv_ok hT hO).q hl
  rwa [crv_map hT hO] at h
theorem spL_len {Q : List Q3} {l : Ln} (h : Q.length ≤ 12) : (spL Q l).length ≤ 24 := by
 have h1 := putAll_len (onQ Q l Q.length)
 have h2 := onQ_len Q l Q.length
 show (putAll lt3 (onQ Q l Q.length)).length ≤ 24
 omega
end Go.Tr

/- The laws of lines and of waterways: MachineLines, MachineWaters. Conditions: none. -/
-- seat YtgbdlkajmmjahaaGreat
namespace Go.Tr
open Go Go.Proofs
set_option maxRecDepth 20000
set_option maxHeartbeats 8000000

set_option maxHeartbeats 8000000 in
theorem S6 (t : List MRow) (h1 : t.length ≤ 9223372036854775807) (f : Int × Int) (hf : FrI f) (l : Ln) : SP 6 [tblA t, gaF f, lnA l] (vb true) false := by
 have h14 := S14
 have h15 := S15 t h1
 by_cases hw : fewT t = true
 ·rw [hw] at h15
  have ht := few_fit hw
  have h17 := S17 t ht
  have h33 := S33 t ht f hf l
  have h18 := S18 t ht f hf
  have h34 := S34 l
  by_cases h0 : soE t f l = 0
  ·obtain ⟨h1, h2⟩ := soE_ok h0
   obtain ⟨hT, hl, hO⟩ := ocE_ok h1
   have h22 := S22 t ht hT f hO
   have h21 := S21 (crvQ t f) l (crvQ_ok hT hO (lnE_ok h2)) (lnE_ok h2)
   have hln := spL_len (l := l) (crvQ_len hT hO)
   have h20 := S20 (spL (crvQ t f) l) (by omega)
   have hl2 := smL_len (spL (crvQ t f) l)
   have h24 := S24 (smL (spL (crvQ t f) l)) (by omega)
   rw [if_pos h0, if_pos h0] at h33
   unfold slL slE at h33
   rw [h1] at h18
   rw [h2] at h34
   refine sound (d := 2) tok2 mixed2 Tryz.func6 (by kernel_rfl) (by kernel_rfl) ?_
   (conv => whnf); refine .inl ⟨_, _, byX rfl (Sound1.pl (h14) rfl), ?_⟩
   (conv => whnf); refine .inl ⟨_, _, byX rfl (Sound1.pl (h15) rfl), ?_⟩
   (conv => whnf); refine ⟨[], by kernel_rfl, ?_⟩
   (conv => whnf); refine .inl ⟨_, _, byX rfl (h17), ?_⟩
   (conv => whnf); refine .inl ⟨_, _, byX rfl (h33), ?_⟩
   (conv => whnf); refine .inl ⟨_, _, byX rfl (Sound1.pl (h18) rfl), ?_⟩
   (conv => whnf); refine .inl ⟨_, _, byX rfl (Sound1.pl (h34) rfl), ?_⟩
   (conv => whnf); refine ⟨[], by kernel_rfl, ?_⟩
   (conv => whnf); refine .inl ⟨_, _, byX rfl (h22), ?_⟩
   (conv => whnf); refine .inl ⟨_, _, byX rfl (h21), ?_⟩
   (conv => whnf); refine .inl ⟨_, _, byX rfl (h20), ?_⟩
   (conv => whnf); refine ifB_beq (fun w1 => ?_) (fun w1 => ?_)
   ·(conv => whnf); refine .inl ⟨_, _, byX rfl (Sound1.pl (h24) rfl), ?_⟩
    (conv => whnf); refine ⟨?_, nofun⟩
    (first | contradiction | rfl | omega)
   ·(exfalso; omega)
  ·rw [if_neg h0, if_neg h0] at h33
   by_cases h2 : ocE t f = 0
   ·have e : soE t f l = lnE l := if_neg (not_not_intro h2)
    rw [e] at h33 h0
    rw [h2] at h18
    refine sound (d := 2) tok2 mixed2 Tryz.func6 (by kernel_rfl) (by kernel_rfl) ?_
    (conv => whnf); refine .inl ⟨_, _, byX rfl (Sound1.pl (h14) rfl), ?_⟩
    (conv => whnf); refine .inl ⟨_, _, byX rfl (Sound1.pl (h15) rfl), ?_⟩
    (conv => whnf); refine ⟨[], by kernel_rfl, ?_⟩
    (conv => whnf); refine .inl ⟨_, _, byX rfl (h17), ?_⟩
    (conv => whnf); refine .inl ⟨_, _, byX rfl (h33), ?_⟩
    (conv => whnf); refine .inl ⟨_, _, byX rfl (Sound1.pl (h18) rfl), ?_⟩
    (conv => whnf); refine .inl ⟨_, _, byX rfl (Sound1.pl (h34) rfl), ?_⟩
    (conv => whnf); refine ifB_bne (fun w1 => ?_) (fun w1 => ?_)
    ·(conv => whnf); refine ifB_beq (fun w2 => ?_) (fun w2 => ?_)
     ·(conv => whnf); refine ⟨?_, nofun⟩
      (first | contradiction | rfl | omega)
     ·(exfalso; omega)
    ·(exfalso; omega)
   ·have e : soE t f l = ocE t f := if_pos h2
    rw [e] at h33
    refine sound (d := 2) tok2 mixed2 Tryz.func6 (by kernel_rfl) (by kernel_rfl) ?_
    (conv => whnf); refine .inl ⟨_, _, byX rfl (Sound1.pl (h14) rfl), ?_⟩
    (conv => whnf); refine .inl ⟨_, _, byX rfl (Sound1.pl (h15) rfl), ?_⟩
    (conv => whnf); refine ⟨[], by kernel_rfl, ?_⟩
    (conv => whnf); refine .inl ⟨_, _, byX rfl (h17), ?_⟩
    (conv => whnf); refine .inl ⟨_, _, byX rfl (h33), ?_⟩
    (conv => whnf); refine .inl ⟨_, _, byX rfl (Sound1.pl (h18) rfl), ?_⟩
    (conv => whnf); refine ifB_beq (fun w1 => ?_) (fun w1 => ?_)
    ·(exfalso; omega)
    ·(conv => whnf); refine ifB_bne (fun w2 => ?_) (fun w2 => ?_)
     ·(conv => whnf); refine ifB_beq (fun w3 => ?_) (fun w3 => ?_)
      ·(conv => whnf); refine ⟨?_, nofun⟩
       (first | contradiction | rfl | omega)
      ·(exfalso; omega)
     ·(exfalso; omega)
 ·have hw2 : fewT t = false := by cases h : fewT t <;> simp_all
  rw [hw2] at h15
  refine sound (d := 2) tok2 mixed2 Tryz.func6 (by kernel_rfl) (by kernel_rfl) ?_
  (conv => whnf); refine .inl ⟨_, _, byX rfl (Sound1.pl (h14) rfl), ?_⟩
  (conv => whnf); refine .inl ⟨_, _, byX rfl (Sound1.pl (h15) rfl), ?_⟩
  (conv => whnf); refine ⟨?_, nofun⟩
  (first | contradiction | rfl | omega)
end Go.Tr

/- The opening of a law: what an argument reads as, as abstract values, with its shape. Conditions: types of numbers, truth values, strings, slices, structs and arrays. -/
namespace Go.Tr
open Go Go.RowKit

def V2 (P : Program) (w : World) (q : Nat → Prop) : List AV → List Value → Prop
 | [], [] => True
 | x :: xs, v :: vs => (VT P w q x v ∧ v.oneCell' = true) ∧ V2 P w q xs vs
 | _, _ => False

def All2 {α β : Type} (p : α → β → Prop) : List α → List β → Prop
 | [], [] => True
 | x :: xs, y :: ys => p x y ∧ All2 p xs ys
 | _, _ => False

def TyC (P : Program) : Nat → TypeId → List AV → Prop
 | 0, _, _ => True
 | m + 1, t, xs => match P.underlying t with
  | some .bool => ∃ b, xs = [.val (.bool b)]
  | some (.int k) => ∃ n, xs = [.val (.int k n)] ∧ inK k n
  | some .string => ∃ s : ByteArray, xs = [.val (.string s)] ∧ s.size ≤ 9223372036854775807
  | some (.slice e) => ∃ len f, xs = [.rslice (P.cellsOf e) len f] ∧ len ≤ 9223372036854775807 ∧ ∀ i, i < len → TyC P m e (f i)
  | some (.struct fs) => ∃ ps : List (List AV), xs = ps.flatten ∧ All2 (fun f p => TyC P m f.type p) fs.toList ps
  | some (.array n e) => ∃ ps : List (List AV), xs = ps.flatten ∧ ps.length = n ∧ ∀ p ∈ ps, TyC P m e p
  | _ => False

def layF (P : Program) (g : TypeId → Bool) : List Field → Nat → Nat → Bool
 | [], off, tot => Nat.beq off tot
 | f :: r, off, tot => Nat.beq f.offset off && g f.type && layF P g r (off + P.cellsOf f.type) tot

def lay (P : Program) : Nat → TypeId → Bool
 | 0, _ => false
 | m + 1, t => match P.underlying t with
  | some .bool | some (.int _) | some .string => true
  | some (.slice e) => Nat.blt 0 (P.cellsOf e) && lay P m e
  | some (.struct fs) => layF P (lay P m) fs.toList 0 (P.cellsOf t)
  | some (.array n e) => Nat.beq (P.cellsOf t) (n * P.cellsOf e) && lay P m e
  | _ => false

section
variable {H : Type} {enc : TypeId × Value → H} {P : Program} {w : World} {spare : Nat → Bool} {held : Bool} {q : Nat → Prop}

theorem V2_len : ∀ {xs : List AV} {vs : List Value}, V2 P w q xs vs → xs.length = vs.length
 | [], [], _ => rfl
 | x :: xs, v :: vs, h => by simp [V2_len h.2]
 | [], _ :: _, h => h.elim
 | _ :: _, [], h => h.elim

theorem V2_append : ∀ {xs : List AV} {vs : List Value} {ys : List AV} {us : List Value}, V2 P w q xs vs → V2 P w q ys us → V2 P w q (xs ++ ys) (vs ++ us)
 | [], [], _, _, _, h => h
 | _ :: _, _ :: _, _, _, h, h' => ⟨h.1, V2_append h.2 h'⟩
 | [], _ :: _, _, _, h, _ => h.elim
 | _ :: _, [], _, _, h, _ => h.elim

theorem V2_get : ∀ {xs : List AV} {vs : List Value}, V2 P w q xs vs → ∀ (i : Nat) x, xs[i]? = some x → VT P w q x (vs.getD i undef) ∧ (vs.getD i undef).oneCell' = true
 | [], [], _, i, x, hx => by simp at hx
 | y :: ys, v :: vs, h, 0, x, hx => by
  simp at hx
  subst hx
  simpa using h.1
 | y :: ys, v :: vs, h, i + 1, x, hx => by
  have := V2_get h.2 i x (by simpa using hx)
  simpa using this
 | [], _ :: _, h, _, _, _ => h.elim
 | _ :: _, [], h, _, _, _ => h.elim

theorem mapM_cons_some {α β : Type} {f : α → Option β} {a : α} {l : List α} {r : List β} (h : (a :: l).mapM f = some r) : ∃ b bs, f a = some b ∧ l.mapM f = some bs ∧ r = b :: bs := by
 rw [List.mapM_cons] at h
 cases ha : f a with
 | none => simp [ha] at h
 | some b =>
  cases hl : l.mapM f with
  | none => simp [ha, hl] at h
  | some bs => simp [ha, hl] at h; exact ⟨b, bs, rfl, rfl, h.symm⟩

theorem mapM_get {α β : Type} {f : α → Option β} : ∀ {l : List α} {r : List β}, l.mapM f = some r → r.length = l.length ∧ ∀ (i : Nat) x, l[i]? = some x → ∃ y, f x = some y ∧ r[i]? = some y
 | [], r, h => by simp at h; subst h; exact ⟨rfl, fun i x hx => by simp at hx⟩
 | a :: l, r, h => by
  obtain ⟨b, bs, h1, h2, rfl⟩ := mapM_cons_some h
  obtain ⟨g1, g2⟩ := mapM_get h2
  refine ⟨by simp [g1], fun i x hx => ?_⟩
  cases i with
  | zero => simp at hx; subst hx; exact ⟨b, h1, rfl⟩
  | succ i => simpa using g2 i x (by simpa using hx)

theorem cells_some {a : Addr} {n : Nat} {cs : List Value} (h : w.cells? 0 a n = some cs) : cs.length = n ∧ ∀ j, j < n → w.cell? (a.add j) = some (cs.getD j undef) := by
 unfold World.cells? at h
 rw [if_pos (Nat.zero_le _)] at h
 obtain ⟨h1, h2⟩ := mapM_get h
 refine ⟨by simpa using h1, fun j hj => ?_⟩
 obtain ⟨y, h3, h4⟩ := h2 j j (by simp [hj])
 rw [h3, List.getD_eq_getElem?_getD, h4]
 rfl

theorem cell_spot {a : Addr} {v : Value} (h : w.cell? a = some v) : a.spot = none ∧ a.block < w.heap.size := by
 unfold World.cell? at h
 split at h
 ·rename_i c t fr hb
  refine ⟨?_, ?_⟩
  ·cases hs : a.spot with
   | none => rfl
   | some s => simp [hs] at h
  ·exact (Array.getElem?_eq_some_iff.1 hb).1
 ·cases h

theorem addr_add2 (blk off u j : Nat) : ((⟨blk, off, none⟩ : Addr).add u).add j = ⟨blk, off + (u + j), none⟩ := by
 unfold Addr.add
 by_cases h1 : u = 0
 ·subst h1
  by_cases h2 : j = 0
  ·subst h2; rfl
  ·simp [h2]
 ·by_cases h2 : j = 0
  ·subst h2; simp [h1]
  ·simp [h1, h2, Nat.add_assoc]

theorem fields_av {g : TypeId → List Value → Option (DataW H × List MemPlace)} {T : TypeId → List AV → Prop} {ly : TypeId → Bool}
  (ih : ∀ t, ly t = true → ∀ cs x, g t cs = some x → ∃ xs, V2 P w q xs cs ∧ T t xs) (cs : List Value) : ∀ (fs : List Field) (off : Nat) (r : List (DataW H × List MemPlace)), layF P ly fs off cs.length = true →
  (fs.mapM fun f => g f.type ((cs.drop f.offset).take (P.cellsOf f.type))) = some r → ∃ ps : List (List AV), V2 P w q ps.flatten (cs.drop off) ∧ All2 (fun f p => T f.type p) fs ps
 | [], off, r, hl, h => by
  have := Nat.eq_of_beq_eq_true hl
  subst this
  exact ⟨[], by simp [V2], trivial⟩
 | f :: fs, off, r, hl, h => by
  simp only [layF, Bool.and_eq_true] at hl
  obtain ⟨⟨h1, h2⟩, h3⟩ := hl
  have e := Nat.eq_of_beq_eq_true h1
  obtain ⟨b, bs, g1, g2, rfl⟩ := mapM_cons_some h
  obtain ⟨p, p1, p2⟩ := ih _ h2 _ _ g1
  obtain ⟨ps, r1, r2⟩ := fields_av ih cs fs _ _ h3 g2
  refine ⟨p :: ps, ?_, p2, r2⟩
  rw [List.flatten_cons]
  have : cs.drop off = (cs.drop f.offset).take (P.cellsOf f.type) ++ cs.drop (off + P.cellsOf f.type) := by
   rw [e, ← List.drop_drop]
   exact (List.take_append_drop _ _).symm
  rw [this]
  exact V2_append p1 r1

theorem items_av {g : List Value → Option (DataW H × List MemPlace)} {T : List AV → Prop} (ih : ∀ cs x, g cs = some x → ∃ xs, V2 P w q xs cs ∧ T xs) (cs : List Value) (s n : Nat) (hn : cs.length = n * s)
  (h : ∀ i, i < n → ∃ x, g ((cs.drop (i * s)).take s) = some x) : ∀ (k i : Nat), i + k = n → ∃ ps : List (List AV), V2 P w q ps.flatten (cs.drop (i * s)) ∧ ps.length = k ∧ ∀ p ∈ ps, T p
 | 0, i, hi => by
  have : i = n := by omega
  subst this
  refine ⟨[], ?_, rfl, nofun⟩
  rw [List.drop_eq_nil_of_le (by omega)]
  exact trivial
 | k + 1, i, hi => by
  obtain ⟨x, hx⟩ := h i (by omega)
  obtain ⟨p, p1, p2⟩ := ih _ _ hx
  obtain ⟨ps, r1, r2, r3⟩ := items_av ih cs s n hn h k (i + 1) (by omega)
  refine ⟨p :: ps, ?_, by simp [r2], fun y hy => ?_⟩
  ·rw [List.flatten_cons]
   have : cs.drop (i * s) = (cs.drop (i * s)).take s ++ cs.drop ((i + 1) * s) := by
    rw [Nat.succ_mul, ← List.drop_drop]
    exact (List.take_append_drop _ _).symm
   rw [this]
   exact V2_append p1 r1
  ·rcases List.mem_cons.1 hy with rfl | hy
   ·exact p2
   ·exact r3 y hy

theorem trod_av (hq : ∀ b, b < w.heap.size → q b) : ∀ (m : Nat) (t : TypeId), lay P m t = true → ∀ (fuel : Nat) (cs : List Value) (x : DataW H × List MemPlace), DataW.trod enc P w 0 spare held fuel t cs = some x → ∃ xs, V2 P w q xs cs ∧ TyC P m t xs
 | 0, t, hl, _, _, _, _ => by simp [lay] at hl
 | m + 1, t, hl, 0, cs, x, h => by simp [DataW.trod] at h
 | m + 1, t, hl, fuel + 1, cs, x, h => by
  unfold lay at hl
  unfold TyC
  unfold DataW.trod at h
  cases hu : P.underlying t with
  | none => simp [hu] at hl
  | some d =>
   simp only [hu] at hl h ⊢
   cases d with
   | bool =>
    split at h <;> first | (cases h; done) | (rename_i e; cases e; done) | skip
    cases h
    exact ⟨[.val (.bool _)], ⟨⟨.val _, rfl⟩, trivial⟩, _, rfl⟩
   | int k =>
    split at h <;> first | (cases h; done) | (rename_i e; cases e; done) | skip
    rename_i e
    cases e
    split at h
    ·rename_i hk
     obtain ⟨rfl, hw⟩ := hk
     simp only [Lit.wf, Bool.and_eq_true, decide_eq_true_eq] at hw
     exact ⟨[.val (.int _ _)], ⟨⟨.val _, rfl⟩, trivial⟩, _, rfl, hw⟩
    ·cases h
   | string =>
    split at h <;> first | (cases h; done) | (rename_i e; cases e; done) | skip
    split at h
    ·rename_i hs
     exact ⟨[.val (.string _)], ⟨⟨.val _, rfl⟩, trivial⟩, _, rfl, hs⟩
    ·cases h
   | slice e =>
    simp only [Bool.and_eq_true] at hl
    split at h <;> first | (cases h; done) | (rename_i e; cases e; done) | skip
    ·exact ⟨[.rslice (P.cellsOf e) 0 fun _ => []], ⟨⟨.rslice0 _ _ _ _, rfl⟩, trivial⟩, _, _, rfl, by omega, fun i hi => absurd hi (Nat.not_lt_zero i)⟩
    ·rename_i e0 a len cap e1
     cases e1
     split at h
     case isFalse => cases h
     rename_i hb
     have hes : 0 < P.cellsOf e := Nat.le_of_ble_eq_true hl.1
     cases hM : (List.range len).mapM fun i => (w.cells? 0 (a.add (i * P.cellsOf e)) (P.cellsOf e)).bind (DataW.trod enc P w 0 spare held fuel e) with
     | none => rw [hM] at h; cases h
     | some elems =>
      obtain ⟨_, g2⟩ := mapM_get hM
      have hx : ∀ i, ∃ xs : List AV, i < len → ∃ cs, (cs.length = P.cellsOf e ∧ ∀ j, j < P.cellsOf e → w.cell? ((a.add (i * P.cellsOf e)).add j) = some (cs.getD j undef)) ∧ V2 P w q xs cs ∧ TyC P m e xs := fun i => by
       by_cases hi : i < len
       ·obtain ⟨y, y1, _⟩ := g2 i i (by simp [hi])
        cases hc : w.cells? 0 (a.add (i * P.cellsOf e)) (P.cellsOf e) with
        | none => rw [hc] at y1; cases y1
        | some cs1 =>
         rw [hc] at y1
         obtain ⟨xs, x1, x2⟩ := trod_av hq m e hl.2 _ _ _ y1
         exact ⟨xs, fun _ => ⟨cs1, cells_some hc, x1, x2⟩⟩
       ·exact ⟨[], fun h => absurd h hi⟩
      have hf := fun i => (Classical.choose_spec (hx i))
      generalize hF : (fun i => Classical.choose (hx i)) = F
      have hf : ∀ i, i < len → ∃ cs, (cs.length = P.cellsOf e ∧ ∀ j, j < P.cellsOf e → w.cell? ((a.add (i * P.cellsOf e)).add j) = some (cs.getD j undef)) ∧ V2 P w q (F i) cs ∧ TyC P m e (F i) := fun i hi => by
       have := Classical.choose_spec (hx i) hi
       rw [← hF]
       exact this
      refine ⟨[.rslice (P.cellsOf e) len F], ⟨⟨?_, rfl⟩, trivial⟩, len, F, rfl, ?_, fun i hi => ?_⟩
      ·rcases Nat.eq_zero_or_pos len with rfl | hp
       ·exact .rslice0 _ _ _ _
       ·obtain ⟨cs0, c1, _, _⟩ := hf 0 hp
        have hc0 := c1.2 0 hes
        have e0 : ((a.add (0 * P.cellsOf e)).add 0) = a := by simp [Addr.add]
        rw [e0] at hc0
        obtain ⟨s1, s2⟩ := cell_spot hc0
        obtain ⟨blk, off, spot⟩ := a
        simp only at s1 s2
        subst s1
        have hG : ∀ i, ∃ cs : List Value, i < len → (cs.length = P.cellsOf e ∧ ∀ j, j < P.cellsOf e → w.cell? (((⟨blk, off, none⟩ : Addr).add (i * P.cellsOf e)).add j) = some (cs.getD j undef)) ∧ V2 P w q (F i) cs := fun i => by
         by_cases hi : i < len
         ·obtain ⟨cs, c1, c2, _⟩ := hf i hi
          exact ⟨cs, fun _ => ⟨c1, c2⟩⟩
         ·exact ⟨[], fun h => absurd h hi⟩
        refine .rslice _ _ _ blk off cap (fun i j => (Classical.choose (hG i)).getD j undef) hb.2.1 (hq _ s2) (fun i hi => ?_) (fun i j hi hj => ?_) (fun i j x hi hx => ?_)
        ·obtain ⟨c1, c2⟩ := Classical.choose_spec (hG i) hi
         rw [V2_len c2, c1.1]
        ·obtain ⟨c1, c2⟩ := Classical.choose_spec (hG i) hi
         have hc := c1.2 j hj
         have ea : ((⟨blk, off, none⟩ : Addr).add (i * P.cellsOf e)).add j = ⟨blk, off + (i * P.cellsOf e + j), none⟩ := by
          exact addr_add2 blk off _ j
         rw [ea] at hc
         refine ⟨hc, ?_⟩
         have hlt : j < (F i).length := by rw [V2_len c2, c1.1]; exact hj
         exact (V2_get c2 j _ (List.getElem?_eq_getElem hlt)).2
        ·obtain ⟨c1, c2⟩ := Classical.choose_spec (hG i) hi
         exact (V2_get c2 j x hx).1
      ·have := hb.2.2
       unfold maxLen at this
       omega
      ·obtain ⟨_, _, _, h3⟩ := hf i hi
       exact h3
   | struct fs =>
    replace h : (if cs.length = P.cellsOf t then (fs.toList.mapM fun f => DataW.trod enc P w 0 spare held fuel f.type ((cs.drop f.offset).take (P.cellsOf f.type))).map fun xs => (.agg (xs.map (·.1)), xs.flatMap (·.2)) else none) = some x := h
    split at h
    case isFalse => cases h
    rename_i hc
    cases hM : fs.toList.mapM fun f => DataW.trod enc P w 0 spare held fuel f.type ((cs.drop f.offset).take (P.cellsOf f.type)) with
    | none => rw [hM] at h; cases h
    | some r =>
     obtain ⟨ps, p1, p2⟩ := fields_av (T := TyC P m) (ly := lay P m) (fun t ht cs x hx => trod_av hq m t ht fuel cs x hx) cs fs.toList 0 r (by rw [hc]; exact hl) hM
     exact ⟨ps.flatten, by simpa using p1, ps, rfl, p2⟩
   | array n e =>
    simp only [Bool.and_eq_true] at hl
    replace h : (if cs.length = P.cellsOf t then ((List.range n).mapM fun i => DataW.trod enc P w 0 spare held fuel e ((cs.drop (i * P.cellsOf e)).take (P.cellsOf e))).map fun xs => (.agg (xs.map (·.1)), xs.flatMap (·.2)) else none) = some x := h
    split at h
    case isFalse => cases h
    rename_i hc
    cases hM : (List.range n).mapM fun i => DataW.trod enc P w 0 spare held fuel e ((cs.drop (i * P.cellsOf e)).take (P.cellsOf e)) with
    | none => rw [hM] at h; cases h
    | some r =>
     obtain ⟨_, g2⟩ := mapM_get hM
     obtain ⟨ps, p1, p2, p3⟩ := items_av (T := TyC P m e) (fun cs x hx => trod_av hq m e hl.2 fuel cs x hx) cs (P.cellsOf e) n (by rw [hc]; exact Nat.eq_of_beq_eq_true hl.1)
      (fun i hi => by obtain ⟨y, y1, _⟩ := g2 i i (by simp [hi]); exact ⟨y, y1⟩) n 0 (by omega)
     exact ⟨ps.flatten, by simpa using p1, ps, rfl, p2, p3⟩
   | _ => simp at hl

def TyA (P : Program) (m : Nat) (t : TypeId) (x : AV) : Prop :=
 match P.underlying t with
 | some (.struct _) | some (.array _ _) => ∃ xs, x = .agg xs ∧ TyC P m t xs
 | _ => TyC P m t [x]

theorem open_av {r : Reach} {b0 : Nat} {t : TypeId} {v : Value} {d : DataW H} {ps : List MemPlace} {m : Nat} (hl : lay P m t = true) (hq : ∀ b, b < w.heap.size → q b)
  (hv : Value.okWide P w r b0 t v) (hd : DataW.Trod enc P w 0 spare held t v d ps) : ∃ x, VT P w q x v ∧ TyA P m t x := by
 obtain ⟨fuel, hf⟩ := hd
 obtain ⟨xs, h1, h2⟩ := trod_av hq m t hl fuel _ _ hf
 have agg : ∀ cs, v = .agg cs → VT P w q (.agg xs) v := by
  rintro cs rfl
  have hlen := V2_len h1
  refine .agg xs cs (by rw [hlen]; simp [Value.cells]) (fun u hu => ?_) (fun i x hx => ?_)
  ·obtain ⟨i, hi, rfl⟩ := List.getElem_of_mem hu
   have hx : i < xs.length := by rw [hlen]; simpa [Value.cells] using hi
   have := (V2_get h1 i _ (List.getElem?_eq_getElem hx)).2
   have hi' : i < cs.size := by simpa using hi
   simpa [Value.cells, List.getD_eq_getElem?_getD, hi'] using this
  ·have := (V2_get h1 i x hx).1
   simpa [Value.cells, List.getD_eq_getElem?_getD, Array.getD_eq_getD_getElem?] using this
 have one : ∀ u, v.cells.toList = [u] → v = u → ∃ x, VT P w q x v ∧ TyC P m t [x] := by
  rintro u e rfl
  rw [e] at h1
  match xs, h1, h2 with
  | [x], h1, h2 => exact ⟨x, h1.1.1, h2⟩
 unfold TyA
 unfold Value.okWide at hv
 split
 ·rename_i fs hu
  simp only [hu] at hv
  obtain ⟨cs, e, _, _⟩ := hv
  exact ⟨_, agg cs e, xs, rfl, h2⟩
 ·rename_i n e hu
  simp only [hu] at hv
  obtain ⟨cs, e, _, _⟩ := hv
  exact ⟨_, agg cs e, xs, rfl, h2⟩
 ·rename_i n1 n2
  have hc : Cell.okWide P w r b0 t v := by
   split at hv
   ·rename_i hu; exact absurd hu (n1 _)
   ·rename_i hu; exact absurd hu (n2 _ _)
   ·exact hv
  cases v with
  | agg cs =>
   simp only [Cell.okWide] at hc
   split at hc <;> first | (rename_i e _; cases e; done) | (rename_i e; cases e; done) | (simp [Cell.ok] at hc)
  | tuple cs =>
   simp only [Cell.okWide] at hc
   split at hc <;> first | (rename_i e _; cases e; done) | (rename_i e; cases e; done) | (simp [Cell.ok] at hc)
  | _ => exact one _ rfl rfl
end
end Go.Tr

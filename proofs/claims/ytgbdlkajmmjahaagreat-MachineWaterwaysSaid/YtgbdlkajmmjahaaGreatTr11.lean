/- Contracts of chapter 5: spots compared and sorted; spots on a line. Conditions: none. -/
import Derived.Test.YtgbdlkajmmjahaaGreatTr10
set_option linter.unusedSectionVars false
set_option linter.unnecessarySimpa false
set_option linter.unusedVariables false
set_option linter.unusedSimpArgs false

-- seat YtgbdlkajmmjahaaGreat
namespace Go.Tr
open Go Go.Proofs
set_option maxRecDepth 20000
set_option maxHeartbeats 8000000

theorem S157 (x : Int) : SP 157 [i64 x] (vb false) false := by
 refine sound (d := 2) tok2 mixed2 Tryz.func157 (by kernel_rfl) (by kernel_rfl) ?_
 (conv => whnf); refine ⟨?_, nofun⟩
 exact endb (by simp)
theorem S105 (a b : Int) : SP 105 [i64 a, i64 b] (i64 (sgI (a - b))) false := by
 have h1 := S157 a
 have h2 := S157 b
 refine sound (d := 2) tok2 mixed2 Tryz.func105 (by kernel_rfl) (by kernel_rfl) ?_
 (conv => whnf); refine .inl ⟨_, _, byX rfl (Sound1.pl (h1) rfl), ?_⟩
 (conv => whnf); refine .inl ⟨_, _, byX rfl (Sound1.pl (h2) rfl), ?_⟩
 (conv => whnf); refine ifB_dec (fun w1 => ?_) (fun w1 => ?_)
 ·(conv => whnf); refine ⟨?_, nofun⟩
  exact endi (sg_neg (by omega)).symm
 ·(conv => whnf); refine ifB_dec (fun w2 => ?_) (fun w2 => ?_)
  ·(conv => whnf); refine ⟨?_, nofun⟩
   exact endi (sg_pos (by omega)).symm
  ·(conv => whnf); refine ⟨?_, nofun⟩
   exact endi (by rw [show a - b = 0 by omega]; rfl)
theorem S94 (p q : Rat) (hp : smR p) (hq : smR q) : SP 94 [gaF (frI p), gaF (frI q)] (i64 (cmpR p q)) false := by
 have h := S105 (p.num * (q.den : Nat)) (q.num * (p.den : Nat))
 unfold smR at hp hq
 have e0 : cmpR p q = sgI ((frI p).1 * (frI q).2 - (frI q).1 * (frI p).2) := rfl
 have m1 := absM (a := p.num) (b := (q.den : Nat)) (A := 1000000000) (B := 1000000000) (by omega) (by omega)
 have m2 := absM (a := q.num) (b := (p.den : Nat)) (A := 1000000000) (B := 1000000000) (by omega) (by omega)
 have i1 : inK .i64 ((frI p).1 * (frI q).2) := inK_of (by show _ ≤ p.num * (q.den : Nat) ∧ p.num * (q.den : Nat) ≤ _; omega)
 have i2 : inK .i64 ((frI q).1 * (frI p).2) := inK_of (by show _ ≤ q.num * (p.den : Nat) ∧ q.num * (p.den : Nat) ≤ _; omega)
 rw [e0]
 refine sound (d := 2) tok2 mixed2 Tryz.func94 (by kernel_rfl) (by kernel_rfl) ?_
 (conv => whnf); refine ⟨by assumption, ?_⟩
 (conv => whnf); refine ⟨by assumption, ?_⟩
 (conv => whnf); refine .inl ⟨_, _, byX rfl (Sound1.pl (h) rfl), ?_⟩
 (conv => whnf); refine ⟨?_, nofun⟩
 (first | contradiction | rfl)
theorem S115 (l : List Int) (hl : l.length ≤ 1000000000) : SP 115 [ints l] (i64 (firstOf l)) false := by
 refine sound (d := 2) tok2 mixed2 Tryz.func115 (by kernel_rfl) (by kernel_rfl) ?_
 (conv => whnf); refine ⟨[], [3, 6, 7, 8], fun st mq => ∃ (k : Nat), (k ≤ l.length) ∧ (firstOf (l.drop k) = firstOf l) ∧ st = ⟨[(3, i64 0), (6, ints l), (7, i64 l.length), (8, i64 k)], ⟨[], [], none, 0⟩, []⟩ ∧ mq = l.length - k,
  ⟨_, _, ⟨0, by omega, rfl, rfl, rfl⟩, ⟨⟨.inl rfl, rfl, rfl, rfl⟩, trivial, trivial⟩⟩, ?_⟩
 rintro s0 m0 ⟨k, hk, hf, rfl, hmeas⟩
 by_cases hlt : k < l.length
 ·have hd := firstOf_drop l k hlt
  conv => whnf
  (conv => whnf); refine ifB_dec (fun w1 => ?_) (fun w1 => ?_)
  ·conv => whnf
   (conv => whnf); refine ⟨⟨(by omega), (by omega)⟩, ?_⟩
   conv => whnf
   (conv => whnf); refine ifB_bne (fun w2 => ?_) (fun w2 => ?_)
   ·conv => whnf
    (conv => whnf); refine ⟨?_, nofun⟩
    rw [if_neg (show ¬ l.getD k 0 = 0 from w2)] at hd
    show i64 _ = i64 _
    rw [← hf, hd]; rfl
   ·conv => whnf
    (conv => whnf); refine ⟨inK64 (by omega) (by omega), ?_⟩
    rw [if_pos (show l.getD k 0 = 0 from w2)] at hd
    conv => whnf
    (conv => whnf); refine ⟨_, _, ⟨⟨k + 1, by omega, hd.symm.trans hf, rfl, rfl⟩, by omega⟩, ⟨⟨.inl rfl, rfl, rfl, rfl⟩, trivial, trivial⟩⟩
  ·(exfalso; omega)
 ·have e : k = l.length := by omega
  subst e
  conv => whnf
  (conv => whnf); refine ifB_dec (fun w1 => ?_) (fun w1 => ?_)
  ·(exfalso; omega)
  ·conv => whnf
   (conv => whnf); refine ⟨?_, nofun⟩
   simp [firstOf] at hf
   show i64 _ = i64 _
   rw [← hf]
theorem S115_3 (a b c : Int) {f : Nat → List AV} (h : f 0 = [i64 a] ∧ f 1 = [i64 b] ∧ f 2 = [i64 c]) : SP 115 [.rslice 1 3 f] (i64 (firstOf [a, b, c])) false := by
 have key : ∀ i, i < 3 → f i = [i64 (([a, b, c] : List Int).getD i 0)] := fun i hi => by
  match i, hi with
  | 0, _ => exact h.1
  | 1, _ => exact h.2.1
  | 2, _ => exact h.2.2
 refine (S115 [a, b, c] (by simp)).argsD rfl fun i y x hy hx => ?_
 match i, hy, hx with
 | 0, hy, hx => cases hy; cases hx; exact .inr ⟨1, AVF_rows rfl key 0⟩
theorem S142 (p q : Q3) (hp : sm3 p) (hq : sm3 q) : SP 142 [spA (fr3 p), spA (fr3 q)] (i64 (cmp3 p q)) false := by
 have h1 := S94 p.1 q.1 hp.1 hq.1
 have h2 := S94 p.2.1 q.2.1 hp.2.1 hq.2.1
 have h3 := S94 p.2.2 q.2.2 hp.2.2 hq.2.2
 have h4 := @S115_3 (cmpR p.1 q.1) (cmpR p.2.1 q.2.1) (cmpR p.2.2 q.2.2)
 have e : firstOf [cmpR p.1 q.1, cmpR p.2.1 q.2.1, cmpR p.2.2 q.2.2] = cmp3 p q := by rw [first3]; rfl
 rw [e] at h4
 refine sound (d := 2) tok2 mixed2 Tryz.func142 (by kernel_rfl) (by kernel_rfl) ?_
 (conv => whnf); refine ⟨[], by kernel_rfl, ?_⟩
 (conv => whnf); refine .inl ⟨_, _, byX rfl (Sound1.pl (h1) rfl), ?_⟩
 (conv => whnf); refine .inl ⟨_, _, byX rfl (Sound1.pl (h2) rfl), ?_⟩
 (conv => whnf); refine .inl ⟨_, _, byX rfl (Sound1.pl (h3) rfl), ?_⟩
 (conv => whnf); refine .inl ⟨_, _, byX rfl (Sound1.pl (h4 ⟨rfl, rfl, rfl⟩) rfl), ?_⟩
 (conv => whnf); refine ⟨?_, nofun⟩
 (first | contradiction | rfl)
theorem S153 (n : Nat) (h : n ≤ 12) : ∃ r, SP 153 [.val (.int .u64 n)] (i64 r) false := by
 have : n = 0 ∨ n = 1 ∨ n = 2 ∨ n = 3 ∨ n = 4 ∨ n = 5 ∨ n = 6 ∨ n = 7 ∨ n = 8 ∨ n = 9 ∨ n = 10 ∨ n = 11 ∨ n = 12 := by omega
 rcases this with rfl | rfl | rfl | rfl | rfl | rfl | rfl | rfl | rfl | rfl | rfl | rfl | rfl
 ·exact ⟨_, run_ok mixed2 (l := []) (by simp) 1000 60 (y := i64 0) (by kernel_rfl)⟩
 ·exact ⟨_, run_ok mixed2 (l := []) (by simp) 1000 60 (y := i64 1) (by kernel_rfl)⟩
 ·exact ⟨_, run_ok mixed2 (l := []) (by simp) 1000 60 (y := i64 2) (by kernel_rfl)⟩
 ·exact ⟨_, run_ok mixed2 (l := []) (by simp) 1000 60 (y := i64 2) (by kernel_rfl)⟩
 ·exact ⟨_, run_ok mixed2 (l := []) (by simp) 1000 60 (y := i64 3) (by kernel_rfl)⟩
 ·exact ⟨_, run_ok mixed2 (l := []) (by simp) 1000 60 (y := i64 3) (by kernel_rfl)⟩
 ·exact ⟨_, run_ok mixed2 (l := []) (by simp) 1000 60 (y := i64 3) (by kernel_rfl)⟩
 ·exact ⟨_, run_ok mixed2 (l := []) (by simp) 1000 60 (y := i64 3) (by kernel_rfl)⟩
 ·exact ⟨_, run_ok mixed2 (l := []) (by simp) 1000 60 (y := i64 4) (by kernel_rfl)⟩
 ·exact ⟨_, run_ok mixed2 (l := []) (by simp) 1000 60 (y := i64 4) (by kernel_rfl)⟩
 ·exact ⟨_, run_ok mixed2 (l := []) (by simp) 1000 60 (y := i64 4) (by kernel_rfl)⟩
 ·exact ⟨_, run_ok mixed2 (l := []) (by simp) 1000 60 (y := i64 4) (by kernel_rfl)⟩
 ·exact ⟨_, run_ok mixed2 (l := []) (by simp) 1000 60 (y := i64 4) (by kernel_rfl)⟩
theorem u64_in {n : Nat} (h : n ≤ 12) : inK .u64 (n : Int) := ⟨by
 have : IntKind.min .u64 = 0 := by decide
 omega, by
 have : IntKind.max .u64 = 18446744073709551615 := by decide
 omega⟩
abbrev le3 (a b : Q3) : Prop := ¬ lt3 b a
theorem le3_tr (a b c : Q3) (h1 : le3 a b) (h2 : le3 b c) : le3 a c := fun h => by
 rcases lt3_tri b c with g | g | g
 ·exact h1 (lt3_tr _ _ _ g h)
 ·subst g; exact h1 h
 ·exact h2 g
theorem le3_of {a b : Q3} (h : cmp3 a b < 0) : le3 a b := fun g => lt3_irr _ (lt3_tr _ _ _ g ((cmp3_neg _ _).1 h))
theorem ge3_of {a b : Q3} (h : ¬ cmp3 a b < 0) : le3 b a := fun g => h ((cmp3_neg _ _).2 g)
theorem sm3_0 : sm3 q0 := by unfold sm3 smR q0; decide
theorem sp_veq (a b : Q3) : vEqL [.int .i64 (fr3 a).1.1, .int .i64 (fr3 a).1.2, .int .i64 (fr3 a).2.1.1, .int .i64 (fr3 a).2.1.2, .int .i64 (fr3 a).2.2.1, .int .i64 (fr3 a).2.2.2]
  [.int .i64 (fr3 b).1.1, .int .i64 (fr3 b).1.2, .int .i64 (fr3 b).2.1.1, .int .i64 (fr3 b).2.1.2, .int .i64 (fr3 b).2.2.1, .int .i64 (fr3 b).2.2.2] = decide (a = b) := by
 rw [Bool.eq_iff_iff, decide_eq_true_iff]
 constructor
 ·intro h
  refine fr3_inj ?_
  simp only [vEqL, Bool.and_eq_true, beq_iff_eq, and_true, true_and] at h
  exact Prod.ext (Prod.ext h.1 h.2.1) (Prod.ext (Prod.ext h.2.2.1 h.2.2.2.1) (Prod.ext h.2.2.2.2.1 h.2.2.2.2.2))
 ·intro h
  subst h
  exact vEq6 _ _ _ _ _ _
def slL (L : List Q3) (l : Ln) : List Q3 := smL (spL L l)
def slE (L : List Q3) (l : Ln) : Int := smE (spL L l)
set_option maxHeartbeats 16000000 in
theorem S79 (L : List Nm) (l : Ln) (hL : CvOk L) (hl : LnOk l) : SP 79 [nms L, lnA l] (.tuple [sps (slL (L.map nmQ) l), i64 (slE (L.map nmQ) l)]) false := by
 have h90 := S90 L l hL hl
 have h89 := S89 (onL L l) (Nat.le_trans (onL_len hL l) (by decide)) (onL_ok hL hl)
 rw [onL_map hL] at h89
 have hlen : (onS (L.map nmQ) l).length ≤ 12 := by rw [← onL_map hL, List.length_map]; exact onL_len hL l
 have hfin : ∀ s : List Q3, s.Perm (smL (onS (L.map nmQ) l)) → s.Pairwise le3 → compL s = slL (L.map nmQ) l := fun s hp hs => by
  unfold slL
  unfold smL at hp ⊢
  rw [spL_all]
  by_cases g : allS (onS (L.map nmQ) l) = true
  ·rw [if_pos g] at hp ⊢
   exact spL_sort hp hs
  ·rw [if_neg g] at hp ⊢
   rw [List.perm_nil.1 hp]; rfl
 have hE : slE (L.map nmQ) l = smE (onS (L.map nmQ) l) := by unfold slE smE; rw [spL_all]
 have hsm : ∀ x ∈ smL (onS (L.map nmQ) l), sm3 x := fun x hx => by
  unfold smL at hx
  by_cases g : allS (onS (L.map nmQ) l) = true
  ·rw [if_pos g] at hx
   exact of_decide_eq_true (List.all_eq_true.1 g x hx)
  ·rw [if_neg g] at hx; cases hx
 have hO : (smL (onS (L.map nmQ) l)).length ≤ 12 := by
  unfold smL
  split
  ·exact hlen
  ·exact Nat.zero_le _
 rw [hE]
 generalize smL (onS (L.map nmQ) l) = O at *
 generalize smE (onS (L.map nmQ) l) = E at *
 generalize slL (L.map nmQ) l = G at *
 have hcmp : ∀ b : List Q3, b.Perm O → ∀ i j, SP 142 [spA (fr3 (b.getD i q0)), spA (fr3 (b.getD j q0))] (i64 (cmp3 (b.getD i q0) (b.getD j q0))) false := fun b hb i j => by
  have h1 : ∀ i, sm3 (b.getD i q0) := fun i => by
   by_cases hi : i < b.length
   ·exact hsm _ (hb.subset (getD_memG hi))
   ·rw [List.getD_eq_getElem?_getD, List.getElem?_eq_none (by omega)]; exact sm3_0
  exact S142 _ _ (h1 i) (h1 j)
 obtain ⟨n, hON⟩ : ∃ n, O.length = n := ⟨_, rfl⟩
 rw [hON] at hO
 unfold sps at h89
 rw [hON] at h89
 have hu := u64_in hO
 obtain ⟨rl, h153⟩ := S153 n hO
 refine sound (d := 5) tok2 mixed2 Tryz.func79 (by kernel_rfl) (by kernel_rfl) ?_
 (conv => whnf); refine .inl ⟨_, _, byX rfl (h90), ?_⟩
 (conv => whnf); refine .inl ⟨_, _, byX rfl (h89), ?_⟩
 (conv => whnf); refine .inr (.inl ⟨[], ?_⟩)
 (conv => whnf); refine ⟨by assumption, ?_⟩
 (conv => whnf); refine .inl ⟨_, _, byX rfl (Sound1.pl (h153) rfl), ?_⟩
 (conv => whnf); refine .inr (.inl ⟨[], ?_⟩)
 (conv => whnf); refine ⟨[.forget [0, 1, 2, 3, 4, 5, 6, 7, 8, 9, 10, 11, 12, 13, 14, 15, 16, 17, 18, 19, 22, 23, 24, 25, 26, 27, 28, 29, 30, 31, 32, 33, 34, 35, 36, 37, 38, 39, 40, 41, 42, 43, 44, 45, 46, 47, 48, 49, 50, 51, 52, 53, 54, 55, 56, 57, 58, 59, 60, 61, 62, 63]], [0, 1, 2, 3, 4], fun st mq => ∃ (F0 : Nat → List AV), st = ⟨[(0, .oslice 1 0 0 n none), (1, i64 0), (2, i64 n), (3, i64 rl), (4, .func (.func 142) 0 [])], ⟨[⟨4, 1, F0, 0, false, true, false⟩, ⟨6, n, fun i => spC (fr3 (O.getD i q0)), 0, false, true, false⟩], [], none, 0⟩, [(21, i64 E), (20, .oslice 1 0 0 n none)]⟩ ∧ mq = 0,
  ⟨_, _, ⟨_, rfl, rfl⟩, ⟨⟨.inl rfl, rfl, rfl, rfl⟩, ⟨⟨rfl, rfl, rfl, rfl, fun _ => rfl, fun _ _ => .inl rfl⟩, ⟨⟨rfl, rfl, rfl, rfl, fun _ => rfl, fun _ _ => .inl rfl⟩, trivial⟩⟩, trivial⟩⟩, ?_⟩
 rintro s0 m0 ⟨F0, rfl, hmeas⟩
 conv => whnf
 (conv => whnf); refine ⟨inK64 (by omega) (by omega), ?_⟩
 conv => whnf
 (conv => whnf); refine ifB_dec (fun w1 => ?_) (fun w1 => ?_)
 ·conv => whnf
  (conv => whnf); refine .inr (.inl ⟨[], ?_⟩)
  conv => whnf
  (conv => whnf); refine ⟨inK64 (by omega) (by omega), ?_⟩
  conv => whnf
  (conv => whnf); refine ⟨[.forget [0, 1, 2, 3, 4, 5, 6, 7, 8, 9, 10, 11, 12, 13, 14, 15, 16, 17, 18, 19, 20, 21, 22, 23, 24, 25, 26, 27, 28, 29, 30, 31, 32, 33, 34, 35, 36, 37, 38, 39, 40, 41, 42, 43, 44, 45, 46, 47, 48, 49, 50, 51, 52, 53, 54, 55, 56, 57, 58, 59, 60, 61, 62, 63]], [0, 1, 2, 3, 8], fun st mq => ∃ (i : Nat) (a : List Q3) (F0 : Nat → List AV), (1 ≤ i) ∧ (i ≤ n ∨ i = 1) ∧ (a.length = n) ∧ (a.Perm O) ∧ (SortG le3 q0 a i) ∧ st = ⟨[(0, .oslice 1 0 0 n none), (1, i64 0), (2, i64 n), (3, .func (.func 142) 0 []), (8, i64 i)], ⟨[⟨4, 1, F0, 0, false, true, false⟩, ⟨6, n, fun i => spC (fr3 (a.getD i q0)), 0, false, true, false⟩], [], none, 0⟩, [(169, i64 E), (168, .oslice 1 0 0 n none)]⟩ ∧ mq = n - i,
   ⟨_, _, ⟨1, O, _, by omega, by omega, hON, List.Perm.refl _, fun p q h1 h2 => by omega, rfl, rfl⟩, ⟨⟨.inl rfl, rfl, rfl, rfl⟩, ⟨⟨rfl, rfl, rfl, rfl, fun _ => rfl, fun _ _ => .inl rfl⟩, ⟨⟨rfl, rfl, rfl, rfl, fun _ => rfl, fun _ _ => .inl rfl⟩, trivial⟩⟩, trivial⟩⟩, ?_⟩
  rintro s0 m0 ⟨i, a, F0, hi1, hi2, hal, hp, hs, rfl, hmeas⟩
  by_cases hil : i < n
  ·conv => whnf
   conv => whnf
   (conv => whnf); refine ifB_dec (fun w2 => ?_) (fun w2 => ?_)
   ·conv => whnf
    conv => whnf
    (conv => whnf); refine ⟨[], [0, 1, 2, 3, 8, 9], fun st mq => ∃ (j : Nat) (z : Int) (b : List Q3) (F0 : Nat → List AV), (z = (j : Int)) ∧ (j ≤ i) ∧ (b.length = n) ∧ (b.Perm O) ∧ (SinkG le3 q0 b j (i + 1)) ∧ st = ⟨[(0, .oslice 1 0 0 n none), (1, i64 0), (2, i64 n), (3, .func (.func 142) 0 []), (8, i64 i), (9, i64 z)], ⟨[⟨4, 1, F0, 0, false, true, false⟩, ⟨6, n, fun i => spC (fr3 (b.getD i q0)), 0, false, true, false⟩], [], none, 0⟩, [(169, i64 E), (168, .oslice 1 0 0 n none)]⟩ ∧ mq = j,
     ⟨_, _, ⟨i, (i : Int), a, _, rfl, by omega, hal, hp, sinkG_start hs, rfl, rfl⟩, ⟨⟨.inl rfl, rfl, rfl, rfl⟩, ⟨⟨rfl, rfl, rfl, rfl, fun _ => rfl, fun _ _ => .inl rfl⟩, ⟨⟨rfl, rfl, rfl, rfl, fun _ => rfl, fun _ _ => .inl rfl⟩, trivial⟩⟩, trivial⟩⟩, ?_⟩
    rintro s0 m0 ⟨j, z, b, F0, hz, hj, hbl, hpb, hsb, rfl, hmeas⟩
    subst hz
    have hcm := hcmp b hpb
    by_cases hj0 : j = 0
    ·subst hj0
     conv => whnf
     conv => whnf
     conv => whnf
     (conv => whnf); refine ⟨[], by kernel_rfl, ?_⟩
     conv => whnf
     conv => whnf
     conv => whnf
     (conv => whnf); refine ⟨inK64 (by omega) (by omega), ?_⟩
     conv => whnf
     conv => whnf
     conv => whnf
     (conv => whnf); refine ⟨_, _, ⟨⟨i + 1, b, _, by omega, by omega, hbl, hpb, sinkG_end le3_tr hsb (.inl rfl), rfl, rfl⟩, by omega⟩, ⟨⟨.inl rfl, rfl, rfl, rfl⟩, ⟨⟨rfl, rfl, rfl, rfl, fun _ => rfl, fun _ _ => .inl rfl⟩, ⟨⟨rfl, rfl, rfl, rfl, fun _ => rfl, fun _ _ => .inl rfl⟩, trivial⟩⟩, trivial⟩⟩
    ·obtain ⟨j, rfl⟩ : ∃ k, j = k + 1 := ⟨j - 1, by omega⟩
     have e1 : (((j + 1 : Nat) : Int) - 1).toNat = j := by omega
     have hr1 := fun x : Nat => rowG (n := 6) (fun e => spC (fr3 e)) (fun _ => rfl) q0 b ((j + 1 : Nat) : Int).toNat x (b.getD (0 + (((j + 1 : Nat) : Int) - 1).toNat) q0) (by omega)
     have hr2 := fun x : Nat => rowG (n := 6) (fun e => spC (fr3 e)) (fun _ => rfl) q0 (b.set ((j + 1 : Nat) : Int).toNat (b.getD (0 + (((j + 1 : Nat) : Int) - 1).toNat) q0)) (((j + 1 : Nat) : Int) - 1).toNat x (b.getD (0 + ((j + 1 : Nat) : Int).toNat) q0) (by rw [List.length_set]; omega)
     have hsw : ∀ x, spC (fr3 ((swapG q0 b (j + 1)).getD x q0)) = spC (fr3 (((b.set ((j + 1 : Nat) : Int).toNat (b.getD (0 + (((j + 1 : Nat) : Int) - 1).toNat) q0)).set (((j + 1 : Nat) : Int) - 1).toNat (b.getD (0 + ((j + 1 : Nat) : Int).toNat) q0)).getD x q0)) := fun x => by
      rw [e1, Nat.zero_add, Nat.zero_add]; rfl
     conv => whnf
     conv => whnf
     conv => whnf
     (conv => whnf); refine ⟨[], by kernel_rfl, ?_⟩
     conv => whnf
     conv => whnf
     conv => whnf
     (conv => whnf); refine ifB_dec (fun w3 => ?_) (fun w3 => ?_)
     ·conv => whnf
      conv => whnf
      conv => whnf
      (conv => whnf); refine ⟨⟨(by omega), (by omega)⟩, ?_⟩
      conv => whnf
      conv => whnf
      conv => whnf
      (conv => whnf); refine ⟨inK64 (by omega) (by omega), ?_⟩
      conv => whnf
      conv => whnf
      conv => whnf
      (conv => whnf); refine ⟨⟨(by omega), (by omega)⟩, ?_⟩
      conv => whnf
      conv => whnf
      conv => whnf
      (conv => whnf); refine .inl ⟨_, _, byX rfl (Sound1.pl (hcm _ _) rfl), ?_⟩
      conv => whnf
      conv => whnf
      conv => whnf
      (conv => whnf); refine ifB_dec (fun w4 => ?_) (fun w4 => ?_)
      ·conv => whnf
       conv => whnf
       conv => whnf
       (conv => whnf); refine ⟨[], by kernel_rfl, ?_⟩
       conv => whnf
       conv => whnf
       conv => whnf
       (conv => whnf); refine ⟨inK64 (by omega) (by omega), ?_⟩
       conv => whnf
       conv => whnf
       conv => whnf
       (conv => whnf); refine ⟨inK64 (by omega) (by omega), ?_⟩
       conv => whnf
       conv => whnf
       conv => whnf
       (conv => whnf); refine ⟨⟨(by omega), (by omega)⟩, ?_⟩
       conv => whnf
       conv => whnf
       conv => whnf
       (conv => whnf); refine ⟨⟨(by omega), (by omega)⟩, ?_⟩
       conv => whnf
       conv => whnf
       conv => whnf
       (conv => whnf); refine ⟨⟨(by omega), (by omega)⟩, ?_⟩
       refine ⟨_, fun i _ => hr1 i, ?_⟩
       conv => whnf
       conv => whnf
       conv => whnf
       (conv => whnf); refine ⟨⟨(by omega), (by omega)⟩, ?_⟩
       refine ⟨_, fun i _ => hr2 i, ?_⟩
       conv => whnf
       conv => whnf
       conv => whnf
       (conv => whnf); refine ⟨inK64 (by omega) (by omega), ?_⟩
       have hlt : cmp3 (b.getD (j + 1) q0) (b.getD (j + 1 - 1) q0) < 0 := by
        have e : cmp3 (b.getD (0 + ((j + 1 : Nat) : Int).toNat) q0) (b.getD (0 + (((j + 1 : Nat) : Int) - 1).toNat) q0) < 0 := by assumption
        rw [e1, Nat.zero_add, Nat.zero_add] at e
        exact e
       conv => whnf
       conv => whnf
       conv => whnf
       (conv => whnf); refine ⟨_, _, ⟨⟨j, ((j + 1 : Nat) : Int) - 1, swapG q0 b (j + 1), _, by omega, by omega, (by rw [swapG_len]; exact hbl), (swapG_perm (by omega)).trans hpb, sinkG_swap (by omega) (by omega) hsb (le3_of hlt), rfl, rfl⟩, by omega⟩, ⟨⟨.inl rfl, rfl, rfl, rfl⟩, ⟨⟨rfl, rfl, rfl, rfl, fun _ => rfl, fun _ _ => .inl rfl⟩, ⟨⟨rfl, rfl, rfl, rfl, fun _ => rfl, fun x _ => .inl (hsw x)⟩, trivial⟩⟩, trivial⟩⟩
      ·conv => whnf
       conv => whnf
       conv => whnf
       (conv => whnf); refine ⟨inK64 (by omega) (by omega), ?_⟩
       have hge : ¬ cmp3 (b.getD (j + 1) q0) (b.getD (j + 1 - 1) q0) < 0 := by
        have e : ¬ cmp3 (b.getD (0 + ((j + 1 : Nat) : Int).toNat) q0) (b.getD (0 + (((j + 1 : Nat) : Int) - 1).toNat) q0) < 0 := by assumption
        rw [e1, Nat.zero_add, Nat.zero_add] at e
        exact e
       conv => whnf
       conv => whnf
       conv => whnf
       (conv => whnf); refine ⟨_, _, ⟨⟨i + 1, b, _, by omega, by omega, hbl, hpb, sinkG_end le3_tr hsb (.inr (ge3_of hge)), rfl, rfl⟩, by omega⟩, ⟨⟨.inl rfl, rfl, rfl, rfl⟩, ⟨⟨rfl, rfl, rfl, rfl, fun _ => rfl, fun _ _ => .inl rfl⟩, ⟨⟨rfl, rfl, rfl, rfl, fun _ => rfl, fun _ _ => .inl rfl⟩, trivial⟩⟩, trivial⟩⟩
     ·(exfalso; omega)
   ·(exfalso; omega)
  ·have hsa : SortG le3 q0 a a.length := fun p q h1 h2 => hs p q h1 (by omega)
   have hG := hfin a hp (sortG_pair hsa)
   rw [← hG]
   subst hal
   conv => whnf
   conv => whnf
   (conv => whnf); refine ifB_dec (fun w2 => ?_) (fun w2 => ?_)
   ·(exfalso; omega)
   ·conv => whnf
    conv => whnf
    (conv => whnf); refine .inr (.inl ⟨[], ?_⟩)
    conv => whnf
    conv => whnf
    (conv => whnf); refine ifB_dec (fun w3 => ?_) (fun w3 => ?_)
    ·conv => whnf
     conv => whnf
     (conv => whnf); refine ⟨?_, nofun⟩
     rw [compL_one (by omega)]
     exact ave_tup2 ⟨rfl, rfl, fun _ _ => rfl⟩ rfl
    ·conv => whnf
     conv => whnf
     (conv => whnf); refine ⟨[.forget [0, 1, 2, 3, 4, 5, 6, 8, 9, 10, 11, 12, 13, 14, 15, 16, 17, 18, 19, 20, 21, 22, 23, 24, 25, 26, 27, 28, 29, 30, 31, 32, 33, 34, 35, 36, 37, 38, 39, 40, 41, 42, 43, 44, 45, 46, 47, 48, 49, 50, 51, 52, 53, 54, 55, 56, 57, 58, 59, 60, 61, 62, 63]], [0, 3], fun st mq => ∃ (k : Nat) (F0 : Nat → List AV), (1 ≤ k) ∧ (k ≤ a.length) ∧ (compL (a.take k) = a.take k) ∧ st = ⟨[(0, .oslice 1 0 0 a.length none), (3, i64 k)], ⟨[⟨4, 1, F0, 0, false, true, false⟩, ⟨6, a.length, fun i => spC (fr3 (a.getD i q0)), 0, false, true, false⟩], [], none, 0⟩, [(7, i64 E)]⟩ ∧ mq = a.length - k,
      ⟨_, _, ⟨1, _, by omega, by omega, compL_one (by rw [List.length_take]; omega), rfl, rfl⟩, ⟨⟨.inl rfl, rfl, rfl, rfl⟩, ⟨⟨rfl, rfl, rfl, rfl, fun _ => rfl, fun _ _ => .inl rfl⟩, ⟨⟨rfl, rfl, rfl, rfl, fun _ => rfl, fun _ _ => .inl rfl⟩, trivial⟩⟩, trivial⟩⟩, ?_⟩
     rintro s0 m0 ⟨k, F0, hk1, hk2, hc, rfl, hmeas⟩
     have ek : ((k : Int) - 1).toNat = k - 1 := by omega
     by_cases hlt : k < a.length
     ·have hv := sp_veq (a.getD (0 + (k : Int).toNat) q0) (a.getD (0 + ((k : Int) - 1).toNat) q0)
      have hz : 0 ≤ (k : Int) ∧ (k : Int) ≤ (a.length : Int) ∧ ((0 : Nat) : Int) + (a.length : Int) ≤ (a.length : Int) := ⟨by omega, by omega, by omega⟩
      by_cases he : a.getD k q0 = a.getD (k - 1) q0
      ·rw [decide_eq_true (by rw [ek, Nat.zero_add, Nat.zero_add]; exact he)] at hv
       conv => whnf
       conv => whnf
       conv => whnf
       (conv => whnf); refine ifB_dec (fun w4 => ?_) (fun w4 => ?_)
       ·conv => whnf
        conv => whnf
        conv => whnf
        (conv => whnf); refine ⟨[], by kernel_rfl, ?_⟩
        conv => whnf
        conv => whnf
        conv => whnf
        (conv => whnf); refine ⟨⟨(by omega), (by omega)⟩, ?_⟩
        conv => whnf
        conv => whnf
        conv => whnf
        (conv => whnf); refine ⟨inK64 (by omega) (by omega), ?_⟩
        conv => whnf
        conv => whnf
        conv => whnf
        (conv => whnf); refine ⟨⟨(by omega), (by omega)⟩, ?_⟩
        conv => whnf
        conv => whnf
        conv => whnf
        (conv => whnf); refine ifB_intro (fun w5 => ?_) (fun w5 => ?_)
        ·conv => whnf
         conv => whnf
         conv => whnf
         (conv => whnf); refine ⟨by assumption, ?_⟩
         conv => whnf
         conv => whnf
         conv => whnf
         (conv => whnf); refine ⟨[], [0, 3, 4, 5], fun st mq => ∃ (k1 : Nat) (q : Nat) (a1 : List Q3) (F0 : Nat → List AV), (1 ≤ q) ∧ (CmpI q0 a a1 k1 (k + q)) ∧ st = ⟨[(0, .oslice 1 0 0 a.length none), (3, i64 k1), (4, .oslice 1 0 (0 + (k : Int).toNat) ((a.length : Int) - (k : Int)).toNat none), (5, i64 q)], ⟨[⟨4, 1, F0, 0, false, true, false⟩, ⟨6, a.length, fun i => spC (fr3 (a1.getD i q0)), 0, false, true, false⟩], [], none, 0⟩, [(7, i64 E)]⟩ ∧ mq = a.length - k - q,
          ⟨_, _, ⟨k, 1, a, _, by omega, cmpI_start hk1 hlt hc he, rfl, rfl⟩, ⟨⟨.inl rfl, rfl, rfl, rfl⟩, ⟨⟨rfl, rfl, rfl, rfl, fun _ => rfl, fun _ _ => .inl rfl⟩, ⟨⟨rfl, rfl, rfl, rfl, fun _ => rfl, fun _ _ => .inl rfl⟩, trivial⟩⟩, trivial⟩⟩, ?_⟩
         rintro s0 m0 ⟨k1, q, a1, F0, hq, hI, rfl, hmeas⟩
         have hkp := hI.kp
         have hal1 := hI.len
         by_cases hlt2 : k + q < a.length
         ·have hv2 := sp_veq (a1.getD (0 + (k : Int).toNat + (q : Int).toNat) q0) (a1.getD (0 + (k : Int).toNat + ((q : Int) - 1).toNat) q0)
          have ep : 0 + (k : Int).toNat + ((q : Int) - 1).toNat = k + q - 1 := by omega
          have eq0 : 0 + (k : Int).toNat + (q : Int).toNat = k + q := by omega
          by_cases he2 : a1.getD (k + q) q0 = a1.getD (k + q - 1) q0
          ·rw [decide_eq_true (by rw [ep, eq0]; exact he2)] at hv2
           conv => whnf
           conv => whnf
           conv => whnf
           conv => whnf
           (conv => whnf); refine ifB_dec (fun w6 => ?_) (fun w6 => ?_)
           ·conv => whnf
            conv => whnf
            conv => whnf
            conv => whnf
            (conv => whnf); refine ⟨[], by kernel_rfl, ?_⟩
            conv => whnf
            conv => whnf
            conv => whnf
            conv => whnf
            (conv => whnf); refine ⟨⟨(by omega), (by omega)⟩, ?_⟩
            conv => whnf
            conv => whnf
            conv => whnf
            conv => whnf
            (conv => whnf); refine ⟨inK64 (by omega) (by omega), ?_⟩
            conv => whnf
            conv => whnf
            conv => whnf
            conv => whnf
            (conv => whnf); refine ⟨⟨(by omega), (by omega)⟩, ?_⟩
            conv => whnf
            conv => whnf
            conv => whnf
            conv => whnf
            (conv => whnf); refine ifB_not ?_
            conv => whnf
            conv => whnf
            conv => whnf
            conv => whnf
            (conv => whnf); refine ifB_intro (fun w7 => ?_) (fun w7 => ?_)
            ·conv => whnf
             conv => whnf
             conv => whnf
             conv => whnf
             (conv => whnf); refine ⟨inK64 (by omega) (by omega), ?_⟩
             conv => whnf
             conv => whnf
             conv => whnf
             conv => whnf
             (conv => whnf); refine ⟨_, _, ⟨⟨k1, q + 1, a1, _, by omega, hI.same hlt2 he2, rfl, rfl⟩, by omega⟩, ⟨⟨.inl rfl, rfl, rfl, rfl⟩, ⟨⟨rfl, rfl, rfl, rfl, fun _ => rfl, fun _ _ => .inl rfl⟩, ⟨⟨rfl, rfl, rfl, rfl, fun _ => rfl, fun _ _ => .inl rfl⟩, trivial⟩⟩, trivial⟩⟩
            ·exact absurd (hv2.symm.trans w7) nofun
           ·(exfalso; omega)
          ·rw [decide_eq_false (by rw [ep, eq0]; exact he2)] at hv2
           have hrow := fun i : Nat => rowG (n := 6) (fun e => spC (fr3 e)) (fun _ => rfl) q0 a1 (k1 : Int).toNat i (a1.getD (0 + (k : Int).toNat + (q : Int).toNat) q0) (by omega)
           conv => whnf
           conv => whnf
           conv => whnf
           conv => whnf
           (conv => whnf); refine ifB_dec (fun w6 => ?_) (fun w6 => ?_)
           ·conv => whnf
            conv => whnf
            conv => whnf
            conv => whnf
            (conv => whnf); refine ⟨[], by kernel_rfl, ?_⟩
            conv => whnf
            conv => whnf
            conv => whnf
            conv => whnf
            (conv => whnf); refine ⟨⟨(by omega), (by omega)⟩, ?_⟩
            conv => whnf
            conv => whnf
            conv => whnf
            conv => whnf
            (conv => whnf); refine ⟨inK64 (by omega) (by omega), ?_⟩
            conv => whnf
            conv => whnf
            conv => whnf
            conv => whnf
            (conv => whnf); refine ⟨⟨(by omega), (by omega)⟩, ?_⟩
            conv => whnf
            conv => whnf
            conv => whnf
            conv => whnf
            (conv => whnf); refine ifB_not ?_
            conv => whnf
            conv => whnf
            conv => whnf
            conv => whnf
            (conv => whnf); refine ifB_intro (fun w7 => ?_) (fun w7 => ?_)
            ·exact absurd (hv2.symm.trans w7) nofun
            ·conv => whnf
             conv => whnf
             conv => whnf
             conv => whnf
             (conv => whnf); refine ⟨⟨(by omega), (by omega)⟩, ?_⟩
             conv => whnf
             conv => whnf
             conv => whnf
             conv => whnf
             (conv => whnf); refine ⟨⟨(by omega), (by omega)⟩, ?_⟩
             refine ⟨_, fun i _ => hrow i, ?_⟩
             conv => whnf
             conv => whnf
             conv => whnf
             conv => whnf
             (conv => whnf); refine ⟨inK64 (by omega) (by omega), ?_⟩
             conv => whnf
             conv => whnf
             conv => whnf
             conv => whnf
             (conv => whnf); refine ⟨inK64 (by omega) (by omega), ?_⟩
             conv => whnf
             conv => whnf
             conv => whnf
             conv => whnf
             (conv => whnf); refine ⟨_, _, ⟨⟨k1 + 1, q + 1, a1.set k1 (a1.getD (0 + (k : Int).toNat + (q : Int).toNat) q0), _, by omega, (by rw [eq0]; exact hI.put hlt2 he2), rfl, rfl⟩, by omega⟩, ⟨⟨.inl rfl, rfl, rfl, rfl⟩, ⟨⟨rfl, rfl, rfl, rfl, fun _ => rfl, fun _ _ => .inl rfl⟩, ⟨⟨rfl, rfl, rfl, rfl, fun _ => rfl, fun _ _ => .inl rfl⟩, trivial⟩⟩, trivial⟩⟩
           ·(exfalso; omega)
         ·have hf := hI.fin hlt2
          have hz2 : 0 ≤ (k1 : Int) ∧ (k1 : Int) ≤ (a.length : Int) ∧ ((0 : Nat) : Int) + (a.length : Int) ≤ (a.length : Int) := ⟨by omega, by omega, by omega⟩
          have hz3 : 0 ≤ (0 : Int) ∧ (0 : Int) ≤ (k1 : Int) ∧ ((0 : Nat) : Int) + (k1 : Int) ≤ (a.length : Int) := ⟨by omega, by omega, by omega⟩
          conv => whnf
          conv => whnf
          conv => whnf
          conv => whnf
          (conv => whnf); refine ifB_dec (fun w6 => ?_) (fun w6 => ?_)
          ·(exfalso; omega)
          ·conv => whnf
           conv => whnf
           conv => whnf
           conv => whnf
           (conv => whnf); refine ⟨by assumption, ?_⟩
           conv => whnf
           conv => whnf
           conv => whnf
           conv => whnf
           (conv => whnf); refine ⟨by assumption, ?_⟩
           conv => whnf
           conv => whnf
           conv => whnf
           conv => whnf
           (conv => whnf); refine ⟨?_, nofun⟩
           exact (ave_tup2 ⟨rfl, (by have := hf.1; omega), fun i hi => (if_neg (by omega)).trans (congrArg (fun e => spC (fr3 e)) (hf.2 i (by omega)))⟩ rfl)
        ·exact absurd (hv.symm.trans w5) nofun
       ·(exfalso; omega)
      ·rw [decide_eq_false (by rw [ek, Nat.zero_add, Nat.zero_add]; exact he)] at hv
       conv => whnf
       conv => whnf
       conv => whnf
       (conv => whnf); refine ifB_dec (fun w4 => ?_) (fun w4 => ?_)
       ·conv => whnf
        conv => whnf
        conv => whnf
        (conv => whnf); refine ⟨[], by kernel_rfl, ?_⟩
        conv => whnf
        conv => whnf
        conv => whnf
        (conv => whnf); refine ⟨⟨(by omega), (by omega)⟩, ?_⟩
        conv => whnf
        conv => whnf
        conv => whnf
        (conv => whnf); refine ⟨inK64 (by omega) (by omega), ?_⟩
        conv => whnf
        conv => whnf
        conv => whnf
        (conv => whnf); refine ⟨⟨(by omega), (by omega)⟩, ?_⟩
        conv => whnf
        conv => whnf
        conv => whnf
        (conv => whnf); refine ifB_intro (fun w5 => ?_) (fun w5 => ?_)
        ·exact absurd (hv.symm.trans w5) nofun
        ·conv => whnf
         conv => whnf
         conv => whnf
         (conv => whnf); refine ⟨inK64 (by omega) (by omega), ?_⟩
         conv => whnf
         conv => whnf
         conv => whnf
         (conv => whnf); refine ⟨_, _, ⟨⟨k + 1, _, by omega, by omega, comp_go hk1 hlt hc he, rfl, rfl⟩, by omega⟩, ⟨⟨.inl rfl, rfl, rfl, rfl⟩, ⟨⟨rfl, rfl, rfl, rfl, fun _ => rfl, fun _ _ => .inl rfl⟩, ⟨⟨rfl, rfl, rfl, rfl, fun _ => rfl, fun _ _ => .inl rfl⟩, trivial⟩⟩, trivial⟩⟩
       ·(exfalso; omega)
     ·obtain rfl : k = a.length := by omega
      rw [List.take_length] at hc
      rw [hc]
      conv => whnf
      conv => whnf
      conv => whnf
      (conv => whnf); refine ifB_dec (fun w4 => ?_) (fun w4 => ?_)
      ·(exfalso; omega)
      ·conv => whnf
       conv => whnf
       conv => whnf
       (conv => whnf); refine ⟨?_, nofun⟩
       exact (ave_tup2 ⟨rfl, rfl, fun _ _ => rfl⟩ rfl)
 ·(exfalso; omega)
end Go.Tr

/- Contracts of chapter 5: lines; the reference's spots on a line. Conditions: none. -/
-- seat YtgbdlkajmmjahaaGreat
namespace Go.Tr
open Go Go.Proofs
set_option maxRecDepth 20000
set_option maxHeartbeats 8000000

def lnE (l : Ln) : Int := if (-100 ≤ l.1 ∧ l.1 ≤ 100) ∧ (-100 ≤ l.2.1 ∧ l.2.1 ≤ 100) ∧ (-100 ≤ l.2.2.1 ∧ l.2.2.1 ≤ 100) ∧ -1000000 ≤ l.2.2.2 ∧ l.2.2.2 ≤ 1000000 then (if l.1 = 0 ∧ l.2.1 = 0 ∧ l.2.2.1 = 0 then 11 else 0) else 2
theorem lnE_ok {l : Ln} (h : lnE l = 0) : LnOk l := by
 unfold lnE at h
 split at h
 ·assumption
 ·exact absurd h (by decide)
set_option maxHeartbeats 4000000 in
theorem S96 (l : Ln) : SP 96 [lnA l] (i64 (lnE l)) false := by
 have h1 := S140 l.1 100 (by decide)
 have h2 := S140 l.2.1 100 (by decide)
 have h3 := S140 l.2.2.1 100 (by decide)
 have h4 := S140 l.2.2.2 1000000 (by decide)
 have h78 := S78
 have h76 := fun a b => @S76_2 a b
 unfold lnE
 by_cases g : (-100 ≤ l.1 ∧ l.1 ≤ 100) ∧ (-100 ≤ l.2.1 ∧ l.2.1 ≤ 100) ∧ (-100 ≤ l.2.2.1 ∧ l.2.2.1 ≤ 100) ∧ -1000000 ≤ l.2.2.2 ∧ l.2.2.2 ≤ 1000000
 ·rw [if_pos g]
  obtain ⟨g1, g2, g3, g4⟩ := g
  rw [show win l.2.2.2 (-1000000) 1000000 = true from decide_eq_true g4] at h4
  by_cases z : l.1 = 0 ∧ l.2.1 = 0 ∧ l.2.2.1 = 0
  ·rw [if_pos z]
   obtain ⟨z1, z2, z3⟩ := z
   refine sound (d := 2) tok2 mixed2 Tryz.func96 (by kernel_rfl) (by kernel_rfl) ?_
   (conv => whnf); refine .inl ⟨_, _, byX rfl (Sound1.pl (h1) rfl), ?_⟩
   (conv => whnf); refine ifB_dec (fun w1 => ?_) (fun w1 => ?_)
   ·(conv => whnf); refine .inl ⟨_, _, byX rfl (Sound1.pl (h2) rfl), ?_⟩
    (conv => whnf); refine ifB_dec (fun w2 => ?_) (fun w2 => ?_)
    ·(conv => whnf); refine .inl ⟨_, _, byX rfl (Sound1.pl (h3) rfl), ?_⟩
     (conv => whnf); refine ifB_dec (fun w3 => ?_) (fun w3 => ?_)
     ·(conv => whnf); refine .inl ⟨_, _, byX rfl (Sound1.pl (h4) rfl), ?_⟩
      (conv => whnf); refine ⟨[], by kernel_rfl, ?_⟩
      (conv => whnf); refine .inl ⟨_, _, byX rfl (Sound1.pl (h78 _ _) rfl), ?_⟩
      (conv => whnf); refine ifB_bne (fun w4 => ?_) (fun w4 => ?_)
      ·(exfalso; omega)
      ·(conv => whnf); refine ifB_bne (fun w5 => ?_) (fun w5 => ?_)
       ·(exfalso; omega)
       ·(conv => whnf); refine .inl ⟨_, _, byX rfl (Sound1.pl (h78 _ _) rfl), ?_⟩
        (conv => whnf); refine .inl ⟨_, _, byX rfl (Sound1.pl (h76 _ _ ⟨rfl, rfl⟩) rfl), ?_⟩
        (conv => whnf); refine ⟨?_, nofun⟩
        (first | contradiction | rfl | exact endi (by rw [show (l.2.2.1 != 0) = false from bne_eq_false_iff_eq.2 z3]; rfl))
     ·(exfalso; omega)
    ·(exfalso; omega)
   ·(exfalso; omega)
  ·rw [if_neg z]
   refine sound (d := 2) tok2 mixed2 Tryz.func96 (by kernel_rfl) (by kernel_rfl) ?_
   (conv => whnf); refine .inl ⟨_, _, byX rfl (Sound1.pl (h1) rfl), ?_⟩
   (conv => whnf); refine ifB_dec (fun w1 => ?_) (fun w1 => ?_)
   ·(conv => whnf); refine .inl ⟨_, _, byX rfl (Sound1.pl (h2) rfl), ?_⟩
    (conv => whnf); refine ifB_dec (fun w2 => ?_) (fun w2 => ?_)
    ·(conv => whnf); refine .inl ⟨_, _, byX rfl (Sound1.pl (h3) rfl), ?_⟩
     (conv => whnf); refine ifB_dec (fun w3 => ?_) (fun w3 => ?_)
     ·(conv => whnf); refine .inl ⟨_, _, byX rfl (Sound1.pl (h4) rfl), ?_⟩
      (conv => whnf); refine ⟨[], by kernel_rfl, ?_⟩
      (conv => whnf); refine .inl ⟨_, _, byX rfl (Sound1.pl (h78 _ _) rfl), ?_⟩
      (conv => whnf); refine ifB_bne (fun w4 => ?_) (fun w4 => ?_)
      ·(conv => whnf); refine .inl ⟨_, _, byX rfl (Sound1.pl (h78 _ _) rfl), ?_⟩
       (conv => whnf); refine .inl ⟨_, _, byX rfl (Sound1.pl (h76 _ _ ⟨rfl, rfl⟩) rfl), ?_⟩
       (conv => whnf); refine ⟨?_, nofun⟩
       (first | contradiction | rfl | exact endi (by rw [show (l.2.2.1 != 0) = true from bne_iff_ne.2 (by omega)]; rfl))
      ·(conv => whnf); refine ifB_bne (fun w5 => ?_) (fun w5 => ?_)
       ·(conv => whnf); refine .inl ⟨_, _, byX rfl (Sound1.pl (h78 _ _) rfl), ?_⟩
        (conv => whnf); refine .inl ⟨_, _, byX rfl (Sound1.pl (h76 _ _ ⟨rfl, rfl⟩) rfl), ?_⟩
        (conv => whnf); refine ⟨?_, nofun⟩
        (first | contradiction | rfl | exact endi (by rw [show (l.2.2.1 != 0) = true from bne_iff_ne.2 (by omega)]; rfl))
       ·(conv => whnf); refine .inl ⟨_, _, byX rfl (Sound1.pl (h78 _ _) rfl), ?_⟩
        (conv => whnf); refine .inl ⟨_, _, byX rfl (Sound1.pl (h76 _ _ ⟨rfl, rfl⟩) rfl), ?_⟩
        (conv => whnf); refine ⟨?_, nofun⟩
        (first | contradiction | rfl | exact endi (by rw [show (l.2.2.1 != 0) = true from bne_iff_ne.2 (by omega)]; rfl))
     ·(exfalso; omega)
    ·(exfalso; omega)
   ·(exfalso; omega)
 ·rw [if_neg g]
  refine sound (d := 2) tok2 mixed2 Tryz.func96 (by kernel_rfl) (by kernel_rfl) ?_
  (conv => whnf); refine .inl ⟨_, _, byX rfl (Sound1.pl (h1) rfl), ?_⟩
  (conv => whnf); refine ifB_dec (fun w1 => ?_) (fun w1 => ?_)
  ·(conv => whnf); refine .inl ⟨_, _, byX rfl (Sound1.pl (h2) rfl), ?_⟩
   (conv => whnf); refine ifB_dec (fun w2 => ?_) (fun w2 => ?_)
   ·(conv => whnf); refine .inl ⟨_, _, byX rfl (Sound1.pl (h3) rfl), ?_⟩
    (conv => whnf); refine ifB_dec (fun w3 => ?_) (fun w3 => ?_)
    ·(conv => whnf); refine .inl ⟨_, _, byX rfl (Sound1.pl (h4) rfl), ?_⟩
     (conv => whnf); refine ⟨[], by kernel_rfl, ?_⟩
     (conv => whnf); refine .inl ⟨_, _, byX rfl (Sound1.pl (h78 _ _) rfl), ?_⟩
     (conv => whnf); refine ifB_bne (fun w4 => ?_) (fun w4 => ?_)
     ·(conv => whnf); refine .inl ⟨_, _, byX rfl (Sound1.pl (h78 _ _) rfl), ?_⟩
      (conv => whnf); refine .inl ⟨_, _, byX rfl (Sound1.pl (h76 _ _ ⟨rfl, rfl⟩) rfl), ?_⟩
      (conv => whnf); refine ⟨?_, nofun⟩
      (first | contradiction | rfl | exact endi (by rw [show win l.2.2.2 (-1000000) 1000000 = false from decide_eq_false (by omega)]; rfl))
     ·(conv => whnf); refine ifB_bne (fun w5 => ?_) (fun w5 => ?_)
      ·(conv => whnf); refine .inl ⟨_, _, byX rfl (Sound1.pl (h78 _ _) rfl), ?_⟩
       (conv => whnf); refine .inl ⟨_, _, byX rfl (Sound1.pl (h76 _ _ ⟨rfl, rfl⟩) rfl), ?_⟩
       (conv => whnf); refine ⟨?_, nofun⟩
       (first | contradiction | rfl | exact endi (by rw [show win l.2.2.2 (-1000000) 1000000 = false from decide_eq_false (by omega)]; rfl))
      ·(conv => whnf); refine .inl ⟨_, _, byX rfl (Sound1.pl (h78 _ _) rfl), ?_⟩
       (conv => whnf); refine .inl ⟨_, _, byX rfl (Sound1.pl (h76 _ _ ⟨rfl, rfl⟩) rfl), ?_⟩
       (conv => whnf); refine ⟨?_, nofun⟩
       (first | contradiction | rfl | exact endi (by rw [show win l.2.2.2 (-1000000) 1000000 = false from decide_eq_false (by omega)]; rfl))
    ·(conv => whnf); refine ⟨[], by kernel_rfl, ?_⟩
     (conv => whnf); refine .inl ⟨_, _, byX rfl (Sound1.pl (h78 _ _) rfl), ?_⟩
     (conv => whnf); refine ifB_bne (fun w4 => ?_) (fun w4 => ?_)
     ·(conv => whnf); refine .inl ⟨_, _, byX rfl (Sound1.pl (h78 _ _) rfl), ?_⟩
      (conv => whnf); refine .inl ⟨_, _, byX rfl (Sound1.pl (h76 _ _ ⟨rfl, rfl⟩) rfl), ?_⟩
      (conv => whnf); refine ⟨?_, nofun⟩
      (first | contradiction | rfl | exact endi (by rw [show win l.2.2.2 (-1000000) 1000000 = false from decide_eq_false (by omega)]; rfl))
     ·(conv => whnf); refine ifB_bne (fun w5 => ?_) (fun w5 => ?_)
      ·(conv => whnf); refine .inl ⟨_, _, byX rfl (Sound1.pl (h78 _ _) rfl), ?_⟩
       (conv => whnf); refine .inl ⟨_, _, byX rfl (Sound1.pl (h76 _ _ ⟨rfl, rfl⟩) rfl), ?_⟩
       (conv => whnf); refine ⟨?_, nofun⟩
       (first | contradiction | rfl | exact endi (by rw [show win l.2.2.2 (-1000000) 1000000 = false from decide_eq_false (by omega)]; rfl))
      ·(conv => whnf); refine .inl ⟨_, _, byX rfl (Sound1.pl (h78 _ _) rfl), ?_⟩
       (conv => whnf); refine .inl ⟨_, _, byX rfl (Sound1.pl (h76 _ _ ⟨rfl, rfl⟩) rfl), ?_⟩
       (conv => whnf); refine ⟨?_, nofun⟩
       (first | contradiction | rfl | exact endi (by rw [show win l.2.2.2 (-1000000) 1000000 = false from decide_eq_false (by omega)]; rfl))
   ·(conv => whnf); refine ⟨[], by kernel_rfl, ?_⟩
    (conv => whnf); refine .inl ⟨_, _, byX rfl (Sound1.pl (h78 _ _) rfl), ?_⟩
    (conv => whnf); refine ifB_bne (fun w3 => ?_) (fun w3 => ?_)
    ·(conv => whnf); refine .inl ⟨_, _, byX rfl (Sound1.pl (h78 _ _) rfl), ?_⟩
     (conv => whnf); refine .inl ⟨_, _, byX rfl (Sound1.pl (h76 _ _ ⟨rfl, rfl⟩) rfl), ?_⟩
     (conv => whnf); refine ⟨?_, nofun⟩
     (first | contradiction | rfl | exact endi (by rw [show win l.2.2.2 (-1000000) 1000000 = false from decide_eq_false (by omega)]; rfl))
    ·(conv => whnf); refine ifB_bne (fun w4 => ?_) (fun w4 => ?_)
     ·(conv => whnf); refine .inl ⟨_, _, byX rfl (Sound1.pl (h78 _ _) rfl), ?_⟩
      (conv => whnf); refine .inl ⟨_, _, byX rfl (Sound1.pl (h76 _ _ ⟨rfl, rfl⟩) rfl), ?_⟩
      (conv => whnf); refine ⟨?_, nofun⟩
      (first | contradiction | rfl | exact endi (by rw [show win l.2.2.2 (-1000000) 1000000 = false from decide_eq_false (by omega)]; rfl))
     ·(exfalso; omega)
  ·(conv => whnf); refine ⟨[], by kernel_rfl, ?_⟩
   (conv => whnf); refine .inl ⟨_, _, byX rfl (Sound1.pl (h78 _ _) rfl), ?_⟩
   (conv => whnf); refine ifB_bne (fun w2 => ?_) (fun w2 => ?_)
   ·(conv => whnf); refine .inl ⟨_, _, byX rfl (Sound1.pl (h78 _ _) rfl), ?_⟩
    (conv => whnf); refine .inl ⟨_, _, byX rfl (Sound1.pl (h76 _ _ ⟨rfl, rfl⟩) rfl), ?_⟩
    (conv => whnf); refine ⟨?_, nofun⟩
    (first | contradiction | rfl | exact endi (by rw [show win l.2.2.2 (-1000000) 1000000 = false from decide_eq_false (by omega)]; rfl))
   ·(exfalso; omega)
theorem rk_mil {x : Int} (hx : x.natAbs ≤ 1000000) : Rk 1 (x : Rat) := ⟨by rw [Rat.num_intCast]; exact digs_len 1 _ (Nat.lt_of_le_of_lt hx (by decide)), by rw [Rat.den_intCast]; exact digs_len 1 _ (by decide)⟩
end Go.Tr

/- Contracts of chapter 5: the reference's spots on a line; the law of lines. Conditions: none. -/
-- seat YtgbdlkajmmjahaaGreat
namespace Go.Tr
open Go Go.Proofs
set_option maxRecDepth 20000
set_option maxHeartbeats 8000000

structure QOk (Q : List Q3) (l : Ln) : Prop where
 len : Q.length ≤ 12
 rk : ∀ k, k < Q.length → R3k 1 (Q.getD k q0)
 side : ∀ k, k < Q.length → Rk 1 (sideQ l (Q.getD k q0))
 ne : ∀ k, k + 1 < Q.length → sgR (sideQ l (Q.getD k q0)) * sgR (sideQ l (Q.getD (k + 1) q0)) < 0 → sideQ l (Q.getD k q0) - sideQ l (Q.getD (k + 1) q0) ≠ 0
 part : ∀ k, k + 1 < Q.length → Rk 1 (sideQ l (Q.getD k q0) / (sideQ l (Q.getD k q0) - sideQ l (Q.getD (k + 1) q0)))
 on : ∀ k, k ≤ Q.length → ∀ q ∈ onQ Q l k, R3k 2 q
theorem sgR_mul {a b : Rat} (h : sgR a * sgR b < 0) : a - b ≠ 0 := fun e => by
 have e : a = b := by grind
 subst e
 rcases sgR_cases a with ⟨_, g⟩ | ⟨_, g⟩ | ⟨_, g⟩ <;> rw [g] at h <;> exact absurd h (by decide)
theorem CvOk.q {N : List Nm} (hN : CvOk N) {l : Ln} (hl : LnOk l) : QOk (N.map nmQ) l := by
  have hg : ∀ k, k < N.length → (N.map nmQ).getD k q0 = nmQ (N.getD k n0) := fun k hk => getD_mapG nmQ N k n0 q0 hk
  have hb : ∀ k, k < N.length → NmB 200 (N.getD k n0) := fun k hk => hN.b _ (getD_memG hk)
  have z : ∀ x : Int, x.natAbs ≤ 880000000 → Zk 1 x := fun x hx => Zk.small (Nat.lt_of_le_of_lt hx (by decide))
  have hs : ∀ k, k < N.length → sideQ l ((N.map nmQ).getD k q0) = Rat.divInt (sideN l (N.getD k n0)) (N.getD k n0).2 := fun k hk => by
    rw [hg k hk, side_eq l (by have := (hb k hk).d; omega)]
  refine ⟨by rw [List.length_map]; exact hN.len, fun k hk => ?_, fun k hk => ?_, fun k hk h => sgR_mul h, fun k hk => ?_, fun k hk q hq => ?_⟩
  · rw [List.length_map] at hk
    rw [hg k hk]
    exact (hb k hk).rk (Nat.lt_of_le_of_lt (show _ ≤ 2000000 by omega) (by decide))
  · rw [List.length_map] at hk
    have hbk := hb k hk
    rw [hs k hk]
    exact Rk.divI (by have := hbk.d; omega) (z _ (by have := (side_b hl hbk).2; omega)) (z _ (by have := hbk.d; omega))
  · rw [List.length_map] at hk
    have hb1 := hb k (by omega)
    have hb2 := hb (k + 1) hk
    have hd : (N.getD k n0).2 = (N.getD (k + 1) n0).2 := hN.d _ (getD_memG (by omega)) _ (getD_memG hk)
    rw [hs k (by omega), hs (k + 1) hk, ← hd, frac_of_parts (by have := hb1.d; omega)]
    have s1 := (side_b hl hb1).2
    have s2 := (side_b hl hb2).2
    by_cases e : sideN l (N.getD k n0) - sideN l (N.getD (k + 1) n0) = 0
    · rw [e, Rat.divInt_zero]
      exact rk_mil (x := 0) (by decide)
    · exact Rk.divI e (z _ (by omega)) (z _ (by omega))
  · rw [List.length_map] at hk
    cases h : N with
    | nil => rw [h] at hk; have : k = 0 := by simpa using hk
             rw [this] at hq; cases hq
    | cons y r =>
      have hy : y ∈ N := by rw [h]; simp
      rw [← on_map N l (hN.b y hy).d.1 (fun n hn => hN.d n hn y hy) k hk] at hq
      obtain ⟨n, hn, e⟩ := List.mem_map.1 hq
      rw [← e]
      exact (onN_ok hN hl k hk n hn).rk (Nat.lt_of_le_of_lt (show _ ≤ 1760000000000000 by decide) (by decide))
theorem onQ_len (Q : List Q3) (l : Ln) : ∀ k, (onQ Q l k).length ≤ 2 * k
 | 0 => Nat.le_refl _
 | k + 1 => by
  unfold onQ
  have := onQ_len Q l k
  rw [List.length_append, List.length_append]
  have h1 : (if sideQ l (Q.getD k q0) = 0 then [Q.getD k q0] else []).length ≤ 1 := by split <;> simp
  have h2 : (if k + 1 < Q.length ∧ sgR (sideQ l (Q.getD k q0)) * sgR (sideQ l (Q.getD (k + 1) q0)) < 0 then [mixQ (Q.getD k q0) (Q.getD (k + 1) q0) (sideQ l (Q.getD k q0) / (sideQ l (Q.getD k q0) - sideQ l (Q.getD (k + 1) q0)))] else []).length ≤ 1 := by split <;> simp
  omega
theorem putL_len (l : List Q3) (x : Q3) : (putL lt3 l x).length ≤ l.length + 1 := by
 induction l with
 | nil => simp [putL]
 | cons y l ih =>
  unfold putL
  split
  ·simpa using ih
  ·split <;> simp
theorem putAll_len (l : List Q3) : (putAll lt3 l).length ≤ l.length := by
 induction l using snoc_ind with
 | h0 => exact Nat.le_refl _
 | hs l x ih =>
  rw [putAll_snoc]
  have := putL_len (putAll lt3 l) x
  rw [List.length_append]
  simp
  omega
end Go.Tr

/- Contracts of chapter 5: spots on lines, operating points, runaway. Conditions: none. -/
-- seat YtgbdlkajmmjahaaGreat
namespace Go.Tr
open Go Go.Proofs
set_option maxRecDepth 20000
set_option maxHeartbeats 8000000

theorem crvQ_len {t : List MRow} {f : Int × Int} (hT : TblOk t) (hO : OpOk t f) : (crvQ t f).length ≤ 12 := by
  rw [← crv_map hT hO, List.length_map]; exact crvN_len hT hO
theorem smL_len (L : List Q3) : (smL L).length ≤ L.length := by
 unfold smL
 split
 ·exact Nat.le_refl _
 ·exact Nat.zero_le _
def soE (t : List MRow) (f : Int × Int) (l : Ln) : Int := if ocE t f ≠ 0 then ocE t f else lnE l
theorem soE_ok {t : List MRow} {f : Int × Int} {l : Ln} (h : soE t f l = 0) : ocE t f = 0 ∧ lnE l = 0 := by
 unfold soE at h
 by_cases h1 : ocE t f = 0
 ·rw [if_neg (not_not_intro h1)] at h; exact ⟨h1, h⟩
 ·rw [if_pos h1] at h; exact absurd h h1
theorem S79c {t : List MRow} {f : Int × Int} (hT : TblOk t) (hO : OpOk t f) {l : Ln} (hl : LnOk l) : SP 79 [nms (crvN t f), lnA l] (.tuple [sps (slL (crvQ t f) l), i64 (slE (crvQ t f) l)]) false := by
  have h := S79 (crvN t f) l (crv_ok hT hO) hl
  rwa [crv_map hT hO] at h
theorem S33 (t : List MRow) (ht : Fit t) (f : Int × Int) (hf : FrI f) (l : Ln) : SP 33 [tblA t, gaF f, lnA l] (.tuple [sps (if soE t f l = 0 then slL (crvQ t f) l else []), i64 (if soE t f l = 0 then slE (crvQ t f) l else soE t f l)]) false := by
 have h74 := S74 t ht f hf
 have h96 := S96 l
 have h76 := @S76_2 (ocE t f) (lnE l)
 rw [first2] at h76
 change ∀ {f' : Nat → List AV}, _ → SP 76 _ (i64 (soE t f l)) false at h76
 by_cases h0 : soE t f l = 0
 ·obtain ⟨h1, h2⟩ := soE_ok h0
  obtain ⟨hT, _, hO⟩ := ocE_ok h1
  have h79 := S79c hT hO (lnE_ok h2)
  rw [h0] at h76
  unfold ocL at h74
  rw [if_pos h1] at h74
  rw [if_pos h0, if_pos h0]
  refine sound (d := 2) tok2 mixed2 Tryz.func33 (by kernel_rfl) (by kernel_rfl) ?_
  (conv => whnf); refine .inl ⟨_, _, byX rfl (h74), ?_⟩
  (conv => whnf); refine .inl ⟨_, _, byX rfl (Sound1.pl (h96) rfl), ?_⟩
  (conv => whnf); refine .inl ⟨_, _, byX rfl (Sound1.pl (h76 ⟨rfl, rfl⟩) rfl), ?_⟩
  (conv => whnf); refine .inl ⟨_, _, byX rfl (h79), ?_⟩
  (conv => whnf); refine ⟨?_, nofun⟩
  exact ave_tup2 ⟨rfl, rfl, fun _ _ => rfl⟩ rfl
 ·rw [if_neg h0, if_neg h0]
  refine sound (d := 2) tok2 mixed2 Tryz.func33 (by kernel_rfl) (by kernel_rfl) ?_
  (conv => whnf); refine .inl ⟨_, _, byX rfl (h74), ?_⟩
  (conv => whnf); refine .inl ⟨_, _, byX rfl (Sound1.pl (h96) rfl), ?_⟩
  (conv => whnf); refine .inl ⟨_, _, byX rfl (Sound1.pl (h76 ⟨rfl, rfl⟩) rfl), ?_⟩
  (conv => whnf); refine ifB_bne (fun w1 => ?_) (fun w1 => ?_)
  ·(conv => whnf); refine ⟨?_, nofun⟩
   exact ave_tup2 rfl rfl
  ·(exfalso; omega)
def szE (n : Int) : Int := if -1000 ≤ n ∧ n ≤ 1000 then 0 else 2
def badI : List Int → Nat → Int
  | [], _ => -1
  | x :: r, k => if -1000 ≤ x ∧ x ≤ 1000 then badI r (k + 1) else (k : Int)
theorem badI_drop (l : List Int) (k : Nat) (h : k < l.length) : badI (l.drop k) k = if -1000 ≤ l.getD k 0 ∧ l.getD k 0 ≤ 1000 then badI (l.drop (k + 1)) (k + 1) else (k : Int) := by
  rw [List.drop_eq_getElem_cons h]
  simp [badI, List.getD_eq_getElem?_getD, h]
theorem S139 (n : Int) : SP 139 [i64 n] (vb (!win n (-1000) 1000)) false := by
 have h := S140 n 1000 (by decide)
 refine sound (d := 2) tok2 mixed2 Tryz.func139 (by kernel_rfl) (by kernel_rfl) ?_
 (conv => whnf); refine .inl ⟨_, _, byX rfl (Sound1.pl (h) rfl), ?_⟩
 (conv => whnf); refine ⟨?_, nofun⟩
 (first | contradiction | rfl)
theorem S170 (l : List Int) (hl : l.length ≤ 1000) : SP 170 [ints l, .func (.func 139) 0 []] (i64 (badI l 0)) false := by
 refine sound (d := 2) tok2 mixed2 Tryz.func170 (by kernel_rfl) (by kernel_rfl) ?_
 (conv => whnf); refine ⟨[], [0, 1, 7, 8], fun st mq => ∃ (k : Nat), (k ≤ l.length) ∧ (badI (l.drop k) k = badI l 0) ∧ st = ⟨[(0, ints l), (1, .func (.func 139) 0 []), (7, i64 l.length), (8, i64 k)], ⟨[], [], none, 0⟩, []⟩ ∧ mq = l.length - k,
  ⟨_, _, ⟨0, by omega, rfl, rfl, rfl⟩, ⟨⟨.inl rfl, rfl, rfl, rfl⟩, trivial, trivial⟩⟩, ?_⟩
 rintro s0 m0 ⟨k, hk, he, rfl, hmeas⟩
 by_cases hlt : k < l.length
 ·have hd := badI_drop l k hlt
  have c1 := S139 (l.getD k 0)
  unfold win at c1
  by_cases g : -1000 ≤ l.getD k 0 ∧ l.getD k 0 ≤ 1000
  ·rw [if_pos g] at hd
   rw [decide_eq_true g] at c1
   conv => whnf
   (conv => whnf); refine ifB_dec (fun w1 => ?_) (fun w1 => ?_)
   ·conv => whnf
    (conv => whnf); refine ⟨⟨(by omega), (by omega)⟩, ?_⟩
    conv => whnf
    (conv => whnf); refine .inl ⟨_, _, byX rfl (Sound1.pl (c1) rfl), ?_⟩
    conv => whnf
    (conv => whnf); refine ⟨inK64 (by omega) (by omega), ?_⟩
    conv => whnf
    (conv => whnf); refine ⟨_, _, ⟨⟨k + 1, by omega, hd.symm.trans he, rfl, rfl⟩, by omega⟩, ⟨⟨.inl rfl, rfl, rfl, rfl⟩, trivial, trivial⟩⟩
   ·(exfalso; omega)
  ·rw [if_neg g] at hd
   rw [decide_eq_false g] at c1
   conv => whnf
   (conv => whnf); refine ifB_dec (fun w1 => ?_) (fun w1 => ?_)
   ·conv => whnf
    (conv => whnf); refine ⟨⟨(by omega), (by omega)⟩, ?_⟩
    conv => whnf
    (conv => whnf); refine .inl ⟨_, _, byX rfl (Sound1.pl (c1) rfl), ?_⟩
    conv => whnf
    (conv => whnf); refine ⟨?_, nofun⟩
    exact endi (hd.symm.trans he)
   ·(exfalso; omega)
 ·obtain rfl : k = l.length := by omega
  rw [List.drop_length] at he
  conv => whnf
  (conv => whnf); refine ifB_dec (fun w1 => ?_) (fun w1 => ?_)
  ·(exfalso; omega)
  ·conv => whnf
   (conv => whnf); refine ⟨?_, nofun⟩
   exact endi he
theorem S138 (l : List Int) (hl : l.length ≤ 1000) : SP 138 [ints l, .func (.func 139) 0 []] (vb (decide (badI l 0 ≥ 0))) false := by
 have h := S170 l hl
 refine sound (d := 2) tok2 mixed2 Tryz.func138 (by kernel_rfl) (by kernel_rfl) ?_
 (conv => whnf); refine .inl ⟨_, _, byX rfl (Sound1.pl (h) rfl), ?_⟩
 (conv => whnf); refine ⟨?_, nofun⟩
 (first | contradiction | rfl)
theorem S77 (l : List Int) (hl : l.length ≤ 1000) : SP 77 [ints l] (i64 (if badI l 0 ≥ 0 then 2 else 0)) false := by
 have h := S138 l hl
 have h78 := S78
 by_cases g : badI l 0 ≥ 0
 ·rw [decide_eq_true g] at h
  rw [if_pos g]
  refine sound (d := 2) tok2 mixed2 Tryz.func77 (by kernel_rfl) (by kernel_rfl) ?_
  (conv => whnf); refine .inl ⟨_, _, byX rfl (Sound1.pl (h) rfl), ?_⟩
  (conv => whnf); refine .inl ⟨_, _, byX rfl (Sound1.pl (h78 _ _) rfl), ?_⟩
  (conv => whnf); refine ⟨?_, nofun⟩
  (first | contradiction | rfl)
 ·rw [decide_eq_false g] at h
  rw [if_neg g]
  refine sound (d := 2) tok2 mixed2 Tryz.func77 (by kernel_rfl) (by kernel_rfl) ?_
  (conv => whnf); refine .inl ⟨_, _, byX rfl (Sound1.pl (h) rfl), ?_⟩
  (conv => whnf); refine .inl ⟨_, _, byX rfl (Sound1.pl (h78 _ _) rfl), ?_⟩
  (conv => whnf); refine ⟨?_, nofun⟩
  (first | contradiction | rfl)
theorem S77_1 (a : Int) {f : Nat → List AV} (h : f 0 = [i64 a]) : SP 77 [.rslice 1 1 f] (i64 (szE a)) false := by
 have key : ∀ i, i < 1 → f i = [i64 (([a] : List Int).getD i 0)] := fun i hi => by
  match i, hi with
  | 0, _ => exact h
 have e : (if badI [a] 0 ≥ 0 then (2 : Int) else 0) = szE a := by
  unfold szE badI badI
  by_cases g : -1000 ≤ a ∧ a ≤ 1000
  ·rw [if_pos g, if_pos g]; rfl
  ·rw [if_neg g, if_neg g]; rfl
 have h77 := S77 [a] (by simp)
 rw [e] at h77
 refine h77.argsD rfl fun i y x hy hx => ?_
 match i, hy, hx with
 | 0, hy, hx => cases hy; cases hx; exact .inr ⟨1, AVF_rows rfl key 0⟩
abbrev wtA (w : Int × Int × Int) : AV := .agg [i64 w.1, i64 w.2.1, i64 w.2.2]
def waE (w : Int × Int × Int) : Int := if (-1000 ≤ w.1 ∧ w.1 ≤ 1000) ∧ (0 ≤ w.2.1 ∧ w.2.1 ≤ 20) ∧ 1 ≤ w.2.2 ∧ w.2.2 ≤ 5 then 0 else 2
def wlE (t : List MRow) (f : Int × Int) (w : Int × Int × Int) : Int := if ocE t f ≠ 0 then ocE t f else waE w
def wtL (w : Int × Int × Int) : Ln := (100, w.2.1 * w.2.2, 0, 100 * w.1)
theorem waE_ok {w : Int × Int × Int} (h : waE w = 0) : (-1000 ≤ w.1 ∧ w.1 ≤ 1000) ∧ (0 ≤ w.2.1 ∧ w.2.1 ≤ 20) ∧ 1 ≤ w.2.2 ∧ w.2.2 ≤ 5 := by
 unfold waE at h
 split at h
 ·assumption
 ·exact absurd h (by decide)
theorem wtL_ok {w : Int × Int × Int} (h : waE w = 0) : LnOk (wtL w) ∧ (w.2.1 * w.2.2).natAbs ≤ 20 * 5 := by
 have h := waE_ok h
 have h1 := absM (a := w.2.1) (b := w.2.2) (A := 20) (B := 5) (by omega) (by omega)
 refine ⟨?_, h1⟩
 unfold LnOk wtL
 dsimp only
 omega
theorem wlE_ok {t : List MRow} {f : Int × Int} {w : Int × Int × Int} (h : wlE t f w = 0) : ocE t f = 0 ∧ waE w = 0 := by
 unfold wlE at h
 by_cases h1 : ocE t f = 0
 ·rw [if_neg (not_not_intro h1)] at h; exact ⟨h1, h⟩
 ·rw [if_pos h1] at h; exact absurd h h1
set_option maxHeartbeats 4000000 in
theorem S16 (t : List MRow) (ht : Fit t) (f : Int × Int) (hf : FrI f) (w : Int × Int × Int) : SP 16 [tblA t, gaF f, wtA w] (.tuple [sps (if wlE t f w = 0 then slL (crvQ t f) (wtL w) else []), i64 (if wlE t f w = 0 then slE (crvQ t f) (wtL w) else wlE t f w)]) false := by
 have h74 := S74 t ht f hf
 have h75a := S75 w.2.1 0 20
 have h75b := S75 w.2.2 1 5
 have h77 := fun a => @S77_1 a
 have h78 := S78
 have key : ∀ b : Int, b = (if (0 ≤ w.2.1 ∧ w.2.1 ≤ 20) ∧ 1 ≤ w.2.2 ∧ w.2.2 ≤ 5 then 0 else 2) → firstOf [ocE t f, szE w.1, b] = wlE t f w := fun b hb => by
  rw [first3, hb]
  unfold wlE
  by_cases g : ocE t f = 0
  ·rw [if_neg (not_not_intro g), if_neg (not_not_intro g)]
   unfold szE waE
   by_cases g1 : -1000 ≤ w.1 ∧ w.1 ≤ 1000
   ·rw [if_pos g1, if_neg (by decide)]
    by_cases g2 : (0 ≤ w.2.1 ∧ w.2.1 ≤ 20) ∧ 1 ≤ w.2.2 ∧ w.2.2 ≤ 5
    ·rw [if_pos g2, if_pos ⟨g1, g2⟩]
    ·rw [if_neg g2, if_neg (fun e => g2 e.2)]
   ·rw [if_neg g1, if_pos (by decide), if_neg (fun e => g1 e.1)]
  ·rw [if_pos g, if_pos g]
 by_cases g : 0 ≤ w.2.1 ∧ w.2.1 ≤ 20
 ·rw [show win w.2.1 0 20 = true from decide_eq_true g] at h75a
  have k1 := @S76_3 (ocE t f) (szE w.1) (if win w.2.2 1 5 = true then 0 else 2)
  rw [key _ (by unfold win; by_cases g2 : 1 ≤ w.2.2 ∧ w.2.2 ≤ 5; (rw [if_pos (decide_eq_true g2), if_pos ⟨g, g2⟩]); (rw [if_neg (by simpa using g2), if_neg (fun e => g2 e.2)]))] at k1
  by_cases h0 : wlE t f w = 0
  ·obtain ⟨h1, h2⟩ := wlE_ok h0
   obtain ⟨hT, _, hO⟩ := ocE_ok h1
   have hl := wtL_ok h2
   have hw := waE_ok h2
   have h79 := S79c hT hO hl.1
   rw [h0] at k1
   unfold ocL at h74
   rw [if_pos h1] at h74
   rw [if_pos h0, if_pos h0]
   refine sound (d := 2) tok2 mixed2 Tryz.func16 (by kernel_rfl) (by kernel_rfl) ?_
   (conv => whnf); refine .inl ⟨_, _, byX rfl (h74), ?_⟩
   (conv => whnf); refine .inl ⟨_, _, byX rfl (Sound1.pl (h75a) rfl), ?_⟩
   (conv => whnf); refine .inl ⟨_, _, byX rfl (Sound1.pl (h75b) rfl), ?_⟩
   (conv => whnf); refine .inl ⟨_, _, byX rfl (Sound1.pl (h77 _ rfl) rfl), ?_⟩
   (conv => whnf); refine .inl ⟨_, _, byX rfl (Sound1.pl (h78 _ _) rfl), ?_⟩
   (conv => whnf); refine .inl ⟨_, _, byX rfl (Sound1.pl (k1 ⟨rfl, rfl, rfl⟩) rfl), ?_⟩
   (conv => whnf); refine ⟨inK64 (by omega) (by omega), ?_⟩
   (conv => whnf); refine ⟨inK64 (by omega) (by omega), ?_⟩
   (conv => whnf); refine .inl ⟨_, _, byX rfl (h79), ?_⟩
   (conv => whnf); refine ⟨?_, nofun⟩
   exact ave_tup2 ⟨rfl, rfl, fun _ _ => rfl⟩ rfl
  ·rw [if_neg h0, if_neg h0]
   refine sound (d := 2) tok2 mixed2 Tryz.func16 (by kernel_rfl) (by kernel_rfl) ?_
   (conv => whnf); refine .inl ⟨_, _, byX rfl (h74), ?_⟩
   (conv => whnf); refine .inl ⟨_, _, byX rfl (Sound1.pl (h75a) rfl), ?_⟩
   (conv => whnf); refine .inl ⟨_, _, byX rfl (Sound1.pl (h75b) rfl), ?_⟩
   (conv => whnf); refine .inl ⟨_, _, byX rfl (Sound1.pl (h77 _ rfl) rfl), ?_⟩
   (conv => whnf); refine .inl ⟨_, _, byX rfl (Sound1.pl (h78 _ _) rfl), ?_⟩
   (conv => whnf); refine .inl ⟨_, _, byX rfl (Sound1.pl (k1 ⟨rfl, rfl, rfl⟩) rfl), ?_⟩
   (conv => whnf); refine ifB_bne (fun w1 => ?_) (fun w1 => ?_)
   ·(conv => whnf); refine ⟨?_, nofun⟩
    exact ave_tup2 rfl rfl
   ·(exfalso; omega)
 ·rw [show win w.2.1 0 20 = false from decide_eq_false g] at h75a
  have k1 := @S76_3 (ocE t f) (szE w.1) (if false = true then 0 else 2)
  rw [key _ (by rw [if_neg (by decide), if_neg (fun e => g e.1)])] at k1
  have h0 : ¬ wlE t f w = 0 := fun e => g (waE_ok (wlE_ok e).2).2.1
  rw [if_neg h0, if_neg h0]
  refine sound (d := 2) tok2 mixed2 Tryz.func16 (by kernel_rfl) (by kernel_rfl) ?_
  (conv => whnf); refine .inl ⟨_, _, byX rfl (h74), ?_⟩
  (conv => whnf); refine .inl ⟨_, _, byX rfl (Sound1.pl (h75a) rfl), ?_⟩
  (conv => whnf); refine .inl ⟨_, _, byX rfl (Sound1.pl (h77 _ rfl) rfl), ?_⟩
  (conv => whnf); refine .inl ⟨_, _, byX rfl (Sound1.pl (h78 _ _) rfl), ?_⟩
  (conv => whnf); refine .inl ⟨_, _, byX rfl (Sound1.pl (k1 ⟨rfl, rfl, rfl⟩) rfl), ?_⟩
  (conv => whnf); refine ifB_bne (fun w1 => ?_) (fun w1 => ?_)
  ·(conv => whnf); refine ⟨?_, nofun⟩
   exact ave_tup2 rfl rfl
  ·(exfalso; omega)
theorem S19 (w : Int × Int × Int) : SP 19 [wtA w] (i64 (waE w)) false := by
 have h29 := S29 w.1
 have h1 := S36 w.2.1 0 20
 have h2 := S36 w.2.2 1 5
 unfold waE
 by_cases g : -1000 ≤ w.1 ∧ w.1 ≤ 1000
 ·rw [if_pos g] at h29
  refine sound (d := 2) tok2 mixed2 Tryz.func19 (by kernel_rfl) (by kernel_rfl) ?_
  (conv => whnf); refine .inl ⟨_, _, byX rfl (Sound1.pl (h29) rfl), ?_⟩
  (conv => whnf); refine .inl ⟨_, _, byX rfl (Sound1.pl (h1) rfl), ?_⟩
  (conv => whnf); refine ifB_not ?_
  (conv => whnf); refine ifB_dec (fun w1 => ?_) (fun w1 => ?_)
  ·(conv => whnf); refine .inl ⟨_, _, byX rfl (Sound1.pl (h2) rfl), ?_⟩
   (conv => whnf); refine ifB_not ?_
   (conv => whnf); refine ifB_dec (fun w2 => ?_) (fun w2 => ?_)
   ·(conv => whnf); refine ⟨?_, nofun⟩
    (first | contradiction | exact endi (if_pos (by omega)).symm | exact endi (if_neg (by omega)).symm)
   ·(conv => whnf); refine ⟨?_, nofun⟩
    (first | contradiction | exact endi (if_pos (by omega)).symm | exact endi (if_neg (by omega)).symm)
  ·(conv => whnf); refine ⟨?_, nofun⟩
   (first | contradiction | exact endi (if_pos (by omega)).symm | exact endi (if_neg (by omega)).symm)
 ·rw [if_neg g] at h29
  rw [if_neg (fun e => g e.1)]
  refine sound (d := 2) tok2 mixed2 Tryz.func19 (by kernel_rfl) (by kernel_rfl) ?_
  (conv => whnf); refine .inl ⟨_, _, byX rfl (Sound1.pl (h29) rfl), ?_⟩
  (conv => whnf); refine ⟨?_, nofun⟩
  (first | contradiction | rfl)
theorem ave_ln {k : Nat} {l : Ln} : AVE (k + 2) (lnA l) (lnA l) := ave_aggR (by simp [AV.atom])
theorem spL_len {Q : List Q3} {l : Ln} (h : Q.length ≤ 12) : (spL Q l).length ≤ 24 := by
 have h1 := putAll_len (onQ Q l Q.length)
 have h2 := onQ_len Q l Q.length
 show (putAll lt3 (onQ Q l Q.length)).length ≤ 24
 omega
end Go.Tr

/- Plain laws of chapter 5: what lies on a line; flows at a head. Conditions: none. -/
-- seat YtgbdlkajmmjahaaGreat
namespace Go.Tr
open Go Go.Proofs
set_option maxRecDepth 20000
set_option maxHeartbeats 8000000

def hdL (h : Int) : Ln := (1, 0, 0, h)
theorem hdL_ok {h : Int} (hs : szE h = 0) : LnOk (hdL h) := by
 unfold szE at hs
 unfold LnOk hdL
 dsimp only
 split at hs
 ·omega
 ·exact absurd hs (by decide)
abbrev ltR (a b : Rat) : Prop := a < b
instance : DecidableRel ltR := fun a b => inferInstanceAs (Decidable (a < b))
abbrev leR (a b : Rat) : Prop := ¬ b < a
def allR (L : List Rat) : Bool := L.all fun q => decide (smR q)
theorem allR_no {L : List Rat} {k : Nat} (hk : k < L.length) (h : ¬ smR (L.getD k 0)) : allR L = false := by
 unfold allR
 rw [List.all_eq_false]
 exact ⟨_, getD_memG hk, by simpa using h⟩
theorem allR_yes {L : List Rat} (h : ∀ k, k < L.length → smR (L.getD k 0)) : allR L = true := by
 unfold allR
 rw [List.all_eq_true]
 intro x hx
 obtain ⟨j, hj, e⟩ := List.getElem_of_mem hx
 have := h j hj
 rw [List.getD_eq_getElem?_getD, List.getElem?_eq_getElem hj] at this
 rw [← e]
 exact decide_eq_true this
def fls (L : List Q3) : List Rat := L.map fun q => q.2.1
def flo1 (L : List Rat) : List Rat := putAll ltR L
theorem flo1_sort {L s : List Rat} (hp : s.Perm L) (hs : s.Pairwise leR) : compL s = flo1 L :=
  sort_put (lt := ltR) rlt_irr (fun _ _ _ => rlt_tr) rlt_tri hp hs
theorem flo1_mem (L : List Rat) (x : Rat) : x ∈ flo1 L ↔ x ∈ L := putAll_mem _ _
theorem leR_tr (a b c : Rat) (h1 : leR a b) (h2 : leR b c) : leR a c := fun h3 => by
 rcases rlt_tri a b with g | g | g
 ·exact h2 (rlt_tr h3 g)
 ·subst g; exact h2 h3
 ·exact h1 g
theorem leR_of {a b : Rat} (h : cmpR a b < 0) : leR a b := fun g => rlt_irr _ (rlt_tr g ((cmpR_neg _ _).1 h))
theorem geR_of {a b : Rat} (h : ¬ cmpR a b < 0) : leR b a := fun g => h ((cmpR_neg _ _).2 g)
def smRE (L : List Rat) : Int := if allR L = true then 0 else 8
abbrev fqC (q : Rat) : List AV := [i64 (frI q).1, i64 (frI q).2]
def frs (L : List Rat) : AV := .rslice 2 L.length fun i => fqC (L.getD i 0)
theorem fq_veq (a b : Rat) : ((frI a).1 = (frI b).1 ∧ (frI a).2 = (frI b).2) ↔ a = b := by
 constructor
 ·intro h; exact frI_inj (Prod.ext h.1 h.2)
 ·intro h; rw [h]; exact ⟨rfl, rfl⟩
end Go.Tr

/- Contracts of chapter 5: copies of rows by a function; turned tables. Conditions: none. -/
-- seat YtgbdlkajmmjahaaGreat
namespace Go.Tr
open Go Go.Proofs
set_option maxRecDepth 20000
set_option maxHeartbeats 8000000

def ngP (p : P3) : P3 := (-p.1, -p.2.1, p.2.2)
theorem ave_pt {k : Nat} {p : P3} : AVE (k + 2) (.agg (ptC p)) (.agg (ptC p)) := ave_aggR (by simp [AV.atom])
theorem S98 (p : P3) (h : PtOk p) : SP 98 [.agg (ptC p)] (.agg (ptC (ngP p))) false := by
 unfold PtOk at h
 refine sound (d := 2) tok2 mixed2 Tryz.func98 (by kernel_rfl) (by kernel_rfl) ?_
 (conv => whnf); refine ⟨inK64 (by omega) (by omega), ?_⟩
 (conv => whnf); refine ⟨inK64 (by omega) (by omega), ?_⟩
 (conv => whnf); refine ⟨?_, nofun⟩
 (first | contradiction | exact ave_pt (p := ngP p) | omega)
def mpR (G : P3 → P3) (r : MRow) : MRow := ⟨r.o, r.ps.map G⟩
set_option maxHeartbeats 4000000 in
theorem S99 (g : FuncId) (G : P3 → P3) (hg : ∀ p, PtOk p → SP g [.agg (ptC p)] (.agg (ptC (G p))) false) (t : List MRow) (ht : Fit t) (hp : ∀ i k, PtOk ((t.getD i r0).ps.getD k p0)) :
  SP 99 [rowsA t, .func (.func g) 0 []] (rowsA (t.map (mpR G))) false := by
 have h1 := ht.1
 refine sound (d := 2) tok2 mixed2 Tryz.func99 (by kernel_rfl) (by kernel_rfl) ?_
 (conv => whnf); refine ⟨[.slot 5 2, .fzl 0 [1, 2, 3, 4]], [1, 5, 11, 12, 13], fun st mq => ∃ (k : Nat), (k ≤ t.length) ∧ st = ⟨[(1, .func (.func g) 0 []), (5, .oslice 0 0 0 k none), (11, rowsA t), (12, i64 t.length), (13, i64 k)], ⟨[⟨2, k, fun i => [i64 (t.getD i r0).o, ptsA ((t.getD i r0).ps.map G)], 0, false, true, false⟩], [], none, 0⟩, []⟩ ∧ mq = t.length - k,
  ⟨_, _, ⟨0, by omega, rfl, rfl⟩, ⟨⟨.inl rfl, rfl, rfl, rfl⟩, ⟨⟨rfl, rfl, rfl, rfl, fun _ => rfl, fun i h => .inl (absurd h (Nat.not_lt_zero i))⟩, trivial⟩, trivial⟩⟩, ?_⟩
 rintro s0 m0 ⟨k, hk, rfl, hmeas⟩
 by_cases hlt : k < t.length
 ·have hl := ht.2 k
  conv => whnf
  (conv => whnf); refine ifB_dec (fun w1 => ?_) (fun w1 => ?_)
  ·conv => whnf
   (conv => whnf); refine ⟨⟨(by omega), (by omega)⟩, ?_⟩
   conv => whnf
   (conv => whnf); refine ⟨[.cell 2 1 3], [1, 5, 8, 11, 12, 13, 21, 22, 23], fun st mq => ∃ (m : Nat) (F1 : Nat → List AV), (m ≤ (t.getD k r0).ps.length) ∧ st = ⟨[(1, .func (.func g) 0 []), (5, .oslice 0 0 0 k none), (8, .optr 2 0 0 0), (11, rowsA t), (12, i64 t.length), (13, i64 k), (21, ptsA (t.getD k r0).ps), (22, i64 (t.getD k r0).ps.length), (23, i64 m)], ⟨[⟨2, k, fun i => [i64 (t.getD i r0).o, ptsA ((t.getD i r0).ps.map G)], 0, false, true, false⟩, ⟨2, 1, F1, 0, false, true, false⟩, ⟨2, 1, fun _ => [i64 (t.getD k r0).o, .oslice 3 0 0 m none], 0, false, false, true⟩, ⟨3, m, fun j => ptC (G ((t.getD k r0).ps.getD j p0)), 0, false, true, false⟩], [], none, 0⟩, []⟩ ∧ mq = (t.getD k r0).ps.length - m,
    ⟨_, _, ⟨0, _, by omega, rfl, rfl⟩, ⟨⟨.inl rfl, rfl, rfl, rfl⟩, ⟨⟨rfl, rfl, rfl, rfl, fun _ => rfl, fun _ _ => .inl rfl⟩, ⟨⟨rfl, rfl, rfl, rfl, fun _ => rfl, fun _ _ => .inl rfl⟩, ⟨⟨rfl, rfl, rfl, rfl, nofun, fun _ _ => .inl rfl⟩, ⟨⟨rfl, rfl, rfl, rfl, fun _ => rfl, fun i h => .inl (absurd h (Nat.not_lt_zero i))⟩, trivial⟩⟩⟩⟩, trivial⟩⟩, ?_⟩
   rintro s0 m0 ⟨m, F1, hm, rfl, hmeas⟩
   by_cases hlt2 : m < (t.getD k r0).ps.length
   ·have c1 := hg _ (hp k m)
    conv => whnf
    conv => whnf
    (conv => whnf); refine ifB_dec (fun w2 => ?_) (fun w2 => ?_)
    ·conv => whnf
     conv => whnf
     (conv => whnf); refine ⟨⟨(by omega), (by omega)⟩, ?_⟩
     conv => whnf
     conv => whnf
     (conv => whnf); refine ⟨[], by kernel_rfl, ?_⟩
     conv => whnf
     conv => whnf
     (conv => whnf); refine .inl ⟨_, _, byX rfl (Sound1.pl (c1) rfl), ?_⟩
     conv => whnf
     conv => whnf
     (conv => whnf); refine .inl ?_
     conv => whnf
     conv => whnf
     (conv => whnf); refine ⟨(by show _ * (24 + 1) ≤ _; omega), ?_⟩
     conv => whnf
     conv => whnf
     (conv => whnf); refine ⟨inK64 (by omega) (by omega), ?_⟩
     conv => whnf
     conv => whnf
     (conv => whnf); refine ⟨_, _, ⟨⟨m + 1, _, by omega, rfl, rfl⟩, by omega⟩, ⟨⟨.inl rfl, rfl, rfl, rfl⟩, ⟨⟨rfl, rfl, rfl, rfl, fun _ => rfl, fun _ _ => .inl rfl⟩, ⟨⟨rfl, rfl, rfl, rfl, fun _ => rfl, fun _ _ => .inl rfl⟩, ⟨⟨rfl, rfl, rfl, rfl, nofun, fun _ _ => .inl rfl⟩, ⟨⟨rfl, rfl, rfl, rfl, fun _ => rfl, fun j hj => .inl (extG (fun q => ptC q) (m := 3) (fun _ => rfl) (fun j => G ((t.getD k r0).ps.getD j p0)) m j hj)⟩, trivial⟩⟩⟩⟩, trivial⟩⟩
    ·(exfalso; omega)
   ·obtain rfl : m = (t.getD k r0).ps.length := by omega
    conv => whnf
    conv => whnf
    (conv => whnf); refine ifB_dec (fun w2 => ?_) (fun w2 => ?_)
    ·(exfalso; omega)
    ·conv => whnf
     conv => whnf
     (conv => whnf); refine .inl ?_
     conv => whnf
     conv => whnf
     (conv => whnf); refine ⟨(by show _ * (32 + 1) ≤ _; omega), ?_⟩
     conv => whnf
     conv => whnf
     (conv => whnf); refine ⟨inK64 (by omega) (by omega), ?_⟩
     conv => whnf
     conv => whnf
     (conv => whnf); refine ⟨_, _, ⟨⟨k + 1, by omega, rfl, rfl⟩, by omega⟩, ⟨⟨.inl rfl, rfl, rfl, rfl⟩, ⟨⟨rfl, rfl, rfl, rfl, fun _ => rfl, fun i hi => .inr (cp_row (o := fun i => (t.getD i r0).o) (P := fun i => (t.getD i r0).ps.map G) hi ⟨rfl, (List.length_map ..).symm, fun j hj => (by show ptC (G ((t.getD k r0).ps.getD j p0)) = ptC (((t.getD k r0).ps.map G).getD j p0); rw [getD_mapG G _ j p0 p0 hj])⟩)⟩, trivial⟩, trivial⟩⟩
  ·(exfalso; omega)
 ·have e : k = t.length := by omega
  subst e
  conv => whnf
  (conv => whnf); refine ifB_dec (fun w1 => ?_) (fun w1 => ?_)
  ·(exfalso; omega)
  ·conv => whnf
   (conv => whnf); refine ⟨?_, nofun⟩
   exact ⟨rfl, (List.length_map ..).symm, fun i hi => (by show [i64 (t.getD i r0).o, ptsA ((t.getD i r0).ps.map G)] = [i64 ((t.map (mpR G)).getD i r0).o, ptsA ((t.map (mpR G)).getD i r0).ps]; rw [getD_mapG (mpR G) t i r0 r0 hi]; rfl)⟩
def trn (t : List MRow) : List MRow := t.map (mpR ngP)
theorem S35 (t : List MRow) (ht : Fit t) (hc : (chkM t).2 = 0) : SP 35 [tblA t] (.tuple [tblA (trn t), i64 0]) false := by
 have h97 := S97 t ht
 rw [hc] at h97
 have hT := TblOk.of hc
 have h99 := S99 98 ngP S98 t ht (fun i k => by
  by_cases hi : i < t.length
  ·exact hT.pt i k hi
  ·have e : t.getD i r0 = r0 := by rw [List.getD_eq_getElem?_getD, List.getElem?_eq_none (by omega)]; rfl
   rw [e]; exact ptOk_0)
 refine sound (d := 2) tok2 mixed2 Tryz.func35 (by kernel_rfl) (by kernel_rfl) ?_
 (conv => whnf); refine .inl ⟨_, _, byX rfl (Sound1.pl (h97) rfl), ?_⟩
 (conv => whnf); refine .inl ⟨_, _, byX rfl (h99), ?_⟩
 (conv => whnf); refine ⟨?_, nofun⟩
 exact ave_tup2 (ave_aggR (l := [rowsA (trn t)]) (by simp [AV.atom, rowsA])) rfl
end Go.Tr

/- Contracts of chapter 5: flows at a head, points of runaway. Conditions: none. -/
-- seat YtgbdlkajmmjahaaGreat
namespace Go.Tr
open Go Go.Proofs
set_option maxRecDepth 20000
set_option maxHeartbeats 8000000

theorem S91 (h : Int) : SP 91 [i64 h] (lnA (hdL h)) false := by
 refine sound (d := 2) tok2 mixed2 Tryz.func91 (by kernel_rfl) (by kernel_rfl) ?_
 (conv => whnf); refine ⟨?_, nofun⟩
 (first | contradiction | exact ave_ln (l := hdL h))
theorem S31 (h : Int) : SP 31 [i64 h] (lnA (hdL h)) false := by
 refine sound (d := 2) tok2 mixed2 Tryz.func31 (by kernel_rfl) (by kernel_rfl) ?_
 (conv => whnf); refine ⟨?_, nofun⟩
 (first | contradiction | exact ave_ln (l := hdL h))
def flE (t : List MRow) (f : Int × Int) (h : Int) : Int := if ocE t f ≠ 0 then ocE t f else szE h
theorem flE_ok {t : List MRow} {f : Int × Int} {h : Int} (g : flE t f h = 0) : ocE t f = 0 ∧ szE h = 0 := by
 unfold flE at g
 by_cases h1 : ocE t f = 0
 ·rw [if_neg (not_not_intro h1)] at g; exact ⟨h1, g⟩
 ·rw [if_pos h1] at g; exact absurd g h1
def flQ (t : List MRow) (f : Int × Int) (h : Int) : List Rat := fls (onS (crvQ t f) (hdL h))
def flR (L : List Rat) : List Rat := if allR L = true then flo1 L else []
set_option maxHeartbeats 16000000 in
theorem S26 (t : List MRow) (ht : Fit t) (f : Int × Int) (hf : FrI f) (h : Int) : SP 26 [tblA t, gaF f, i64 h] (.tuple [frs (if flE t f h = 0 then flR (flQ t f h) else []), i64 (if flE t f h = 0 then smRE (flQ t f h) else flE t f h)]) false := by
 have h74 := S74 t ht f hf
 have h77 := fun a => @S77_1 a
 have h76 := @S76_2 (ocE t f) (szE h)
 rw [first2] at h76
 change ∀ {f' : Nat → List AV}, _ → SP 76 _ (i64 (flE t f h)) false at h76
 by_cases h0 : flE t f h = 0
 ·obtain ⟨h1, h2⟩ := flE_ok h0
  obtain ⟨hT, _, hO⟩ := ocE_ok h1
  have hl := hdL_ok h2
  have hcv := crv_ok hT hO
  have h91 := S91 h
  have h90 := S90 (crvN t f) (hdL h) hcv hl
  have hLn := onL_len hcv (hdL h)
  have hLb := onL_ok hcv hl
  have hQ : (onL (crvN t f) (hdL h)).map (fun n => (nmQ n).2.1) = flQ t f h := by
   unfold flQ fls
   rw [← crv_map hT hO, ← onL_map hcv, List.map_map]; rfl
  generalize onL (crvN t f) (hdL h) = L at *
  generalize flQ t f h = Q at *
  have hQl : Q.length = L.length := by rw [← hQ, List.length_map]
  have hQg : ∀ k, k < L.length → Q.getD k 0 = (nmQ (L.getD k n0)).2.1 := fun k hk => by rw [← hQ]; exact getD_mapG _ L k n0 0 hk
  have c92 := fun (k : Nat) (hk : k < L.length) => S92p (L.getD k n0).1.2.1 (L.getD k n0).2 (by have := (hLb _ (getD_memG (d := n0) hk)); have := this.d; have := (hLb _ (getD_memG (d := n0) hk)).q; omega) (by have := (hLb _ (getD_memG (d := n0) hk)).d; omega)
  rw [h0] at h76
  unfold ocL at h74
  rw [if_pos h1] at h74
  rw [if_pos h0, if_pos h0]
  refine sound (d := 5) tok2 mixed2 Tryz.func26 (by kernel_rfl) (by kernel_rfl) ?_
  (conv => whnf); refine .inl ⟨_, _, byX rfl (h74), ?_⟩
  (conv => whnf); refine .inl ⟨_, _, byX rfl (Sound1.pl (h77 _ rfl) rfl), ?_⟩
  (conv => whnf); refine .inl ⟨_, _, byX rfl (Sound1.pl (h76 ⟨rfl, rfl⟩) rfl), ?_⟩
  (conv => whnf); refine .inl ⟨_, _, byX rfl (Sound1.pl (h91) rfl), ?_⟩
  (conv => whnf); refine .inl ⟨_, _, byX rfl (h90), ?_⟩
  (conv => whnf); refine ⟨[.slot 10 2], [10, 33, 34, 35], fun st mq => ∃ (k : Nat) (F0 : Nat → List AV) (F1 : Nat → List AV) (F2 : Nat → List AV) (F3 : Nat → List AV), (k ≤ L.length) ∧ (∀ j, j < k → smR (Q.getD j 0)) ∧ st = ⟨[(10, .oslice 4 0 0 k none), (33, nms L), (34, i64 L.length), (35, i64 k)], ⟨[⟨1, 1, F0, 0, false, true, false⟩, ⟨2, 1, F1, 0, false, true, false⟩, ⟨1, 1, F2, 0, false, true, false⟩, ⟨1, 2, F3, 0, false, true, false⟩, ⟨2, k, fun i => fqC (Q.getD i 0), 0, false, true, false⟩], [], none, 0⟩, []⟩ ∧ mq = L.length - k,
   ⟨_, _, ⟨0, _, _, _, _, by omega, fun j h => absurd h (Nat.not_lt_zero j), rfl, rfl⟩, ⟨⟨.inl rfl, rfl, rfl, rfl⟩, ⟨⟨rfl, rfl, rfl, rfl, fun _ => rfl, fun _ _ => .inl rfl⟩, ⟨⟨rfl, rfl, rfl, rfl, fun _ => rfl, fun _ _ => .inl rfl⟩, ⟨⟨rfl, rfl, rfl, rfl, fun _ => rfl, fun _ _ => .inl rfl⟩, ⟨⟨rfl, rfl, rfl, rfl, fun _ => rfl, fun _ _ => .inl rfl⟩, ⟨⟨rfl, rfl, rfl, rfl, fun _ => rfl, fun i h => .inl (absurd h (Nat.not_lt_zero i))⟩, trivial⟩⟩⟩⟩⟩, trivial⟩⟩, ?_⟩
  rintro s0 m0 ⟨k, F0, F1, F2, F3, hk, hs, rfl, hmeas⟩
  by_cases hlt : k < L.length
  ·have c1 := c92 k hlt
   change SP 92 _ (.tuple [gaF (okR (nmQ (L.getD k n0)).2.1), i64 (if smR (nmQ (L.getD k n0)).2.1 then 0 else 8)]) false at c1
   rw [← hQg k hlt] at c1
   by_cases g : smR (Q.getD k 0)
   ·unfold okR at c1
    rw [if_pos g, if_pos g] at c1
    conv => whnf
    (conv => whnf); refine ifB_dec (fun w1 => ?_) (fun w1 => ?_)
    ·conv => whnf
     (conv => whnf); refine ⟨⟨(by omega), (by omega)⟩, ?_⟩
     conv => whnf
     (conv => whnf); refine ⟨⟨(by omega), (by omega)⟩, ?_⟩
     conv => whnf
     (conv => whnf); refine .inl ⟨_, _, byX rfl (Sound1.pl (c1) rfl), ?_⟩
     conv => whnf
     (conv => whnf); refine .inl ?_
     conv => whnf
     (conv => whnf); refine ⟨(by show _ * (16 + 1) ≤ _; omega), ?_⟩
     conv => whnf
     (conv => whnf); refine ⟨inK64 (by omega) (by omega), ?_⟩
     conv => whnf
     (conv => whnf); refine ⟨_, _, ⟨⟨k + 1, _, _, _, _, by omega, (fun j hj => by by_cases e : j = k; (rw [e]; exact g); exact hs j (by omega)), rfl, rfl⟩, by omega⟩, ⟨⟨.inl rfl, rfl, rfl, rfl⟩, ⟨⟨rfl, rfl, rfl, rfl, fun _ => rfl, fun _ _ => .inl rfl⟩, ⟨⟨rfl, rfl, rfl, rfl, fun _ => rfl, fun _ _ => .inl rfl⟩, ⟨⟨rfl, rfl, rfl, rfl, fun _ => rfl, fun _ _ => .inl rfl⟩, ⟨⟨rfl, rfl, rfl, rfl, fun _ => rfl, fun _ _ => .inl rfl⟩, ⟨⟨rfl, rfl, rfl, rfl, fun _ => rfl, fun i hi => .inl (extG fqC (m := 2) (fun _ => rfl) (fun i => Q.getD i 0) k i hi)⟩, trivial⟩⟩⟩⟩⟩, trivial⟩⟩
    ·(exfalso; omega)
   ·rw [if_neg g] at c1
    have ha := allR_no (L := Q) (by omega) g
    unfold flR smRE
    rw [ha]
    conv => whnf
    (conv => whnf); refine ifB_dec (fun w1 => ?_) (fun w1 => ?_)
    ·conv => whnf
     (conv => whnf); refine ⟨⟨(by omega), (by omega)⟩, ?_⟩
     conv => whnf
     (conv => whnf); refine ⟨⟨(by omega), (by omega)⟩, ?_⟩
     conv => whnf
     (conv => whnf); refine .inl ⟨_, _, byX rfl (Sound1.pl (c1) rfl), ?_⟩
     conv => whnf
     (conv => whnf); refine ⟨?_, nofun⟩
     exact ave_tup2 rfl rfl
    ·(exfalso; omega)
  ·obtain rfl : k = L.length := by omega
   have ha := allR_yes (L := Q) (by rw [hQl]; exact hs)
   have hcmp : ∀ b : List Rat, b.Perm Q → ∀ i j, SP 94 [gaF (frI (b.getD i 0)), gaF (frI (b.getD j 0))] (i64 (cmpR (b.getD i 0) (b.getD j 0))) false := fun b hb i j => by
    have h1 : ∀ i, smR (b.getD i 0) := fun i => by
     by_cases hi : i < b.length
     ·exact of_decide_eq_true (List.all_eq_true.1 ha _ (hb.subset (getD_memG hi)))
     ·rw [List.getD_eq_getElem?_getD, List.getElem?_eq_none (by omega)]; show smR 0; unfold smR; decide
    exact S94 _ _ (h1 i) (h1 j)
   unfold flR smRE
   rw [ha, if_pos rfl, if_pos rfl]
   have hON := hQl
   generalize L.length = n at *
   have hu := u64_in hLn
   obtain ⟨rl, h153⟩ := S153 n hLn
   conv => whnf
   (conv => whnf); refine ifB_dec (fun w1 => ?_) (fun w1 => ?_)
   ·(exfalso; omega)
   ·conv => whnf
    (conv => whnf); refine .inr (.inl ⟨[], ?_⟩)
    conv => whnf
    (conv => whnf); refine ⟨by assumption, ?_⟩
    conv => whnf
    (conv => whnf); refine .inl ⟨_, _, byX rfl (Sound1.pl (h153) rfl), ?_⟩
    conv => whnf
    (conv => whnf); refine .inr (.inl ⟨[], ?_⟩)
    conv => whnf
    (conv => whnf); refine ⟨[.forget [0, 1, 2, 3, 4, 5, 6, 7, 8, 9, 10, 11, 12, 13, 14, 15, 16, 17, 18, 19, 20, 21, 22, 23, 25, 26, 27, 28, 29, 30, 31, 32, 33, 34, 35, 36, 37, 38, 39, 40, 41, 42, 43, 44, 45, 46, 47, 48, 49, 50, 51, 52, 53, 54, 55, 56, 57, 58, 59, 60, 61, 62, 63, 64, 65, 66, 67, 68, 69, 70, 71, 72, 73, 74, 75, 76, 77, 78, 79, 80, 81, 82, 83, 84, 85, 86, 87, 88, 89, 90, 91, 92, 93, 94, 95, 96, 97, 98, 99, 100, 101, 102, 103, 104, 105, 106, 107, 108, 109, 110, 111, 112, 113, 114, 115, 116, 117, 118, 119, 120, 121, 122, 123, 124, 125, 126, 127, 128, 129, 130, 131, 132, 133, 134, 135, 136, 137, 138, 139, 140, 141, 142, 143, 144, 145, 146, 147, 148, 149, 150, 151, 152, 153, 154, 155, 156, 157, 158, 159, 160, 161, 162, 163, 164, 165, 166, 167, 168, 169, 170, 171, 172, 173, 174, 175, 176, 177, 178, 179, 180, 181, 182, 183, 184, 185, 186, 187, 188, 189, 190, 191, 192, 193, 194, 195, 196, 197, 198, 199, 200, 201, 202, 203, 204, 205, 206, 207, 208, 209, 210, 211, 212, 213, 214, 215, 216, 217, 218, 219, 220, 221, 222, 223, 224, 225, 226, 227, 228, 229, 230, 231, 232, 233, 234, 235, 236, 237, 238, 239, 240, 241, 242, 243, 244, 245, 246, 247, 248, 249, 250, 251, 252, 253, 254, 255, 256, 257, 258, 259, 260, 261, 262, 263, 264, 265, 266, 267, 268, 269, 270, 271, 272, 273, 274, 275, 276, 277, 278, 279, 280, 281, 282, 283, 284, 285, 286, 287, 288, 289, 290, 291, 292, 293, 294, 295, 296, 297, 298, 299]], [0, 1, 2, 3, 4], fun st mq => ∃ (F0 : Nat → List AV) (F1 : Nat → List AV) (F2 : Nat → List AV) (F3 : Nat → List AV), st = ⟨[(0, .oslice 4 0 0 n none), (1, i64 0), (2, i64 n), (3, i64 rl), (4, .func (.func 94) 0 [])], ⟨[⟨1, 1, F0, 0, false, true, false⟩, ⟨2, 1, F1, 0, false, true, false⟩, ⟨1, 1, F2, 0, false, true, false⟩, ⟨1, 2, F3, 0, false, true, false⟩, ⟨2, n, fun i => fqC (Q.getD i (0 : Rat)), 0, false, true, false⟩], [], none, 0⟩, [(24, .oslice 4 0 0 n none)]⟩ ∧ mq = 0,
     ⟨_, _, ⟨_, _, _, _, rfl, rfl⟩, ⟨⟨.inl rfl, rfl, rfl, rfl⟩, ⟨⟨rfl, rfl, rfl, rfl, fun _ => rfl, fun _ _ => .inl rfl⟩, ⟨⟨rfl, rfl, rfl, rfl, fun _ => rfl, fun _ _ => .inl rfl⟩, ⟨⟨rfl, rfl, rfl, rfl, fun _ => rfl, fun _ _ => .inl rfl⟩, ⟨⟨rfl, rfl, rfl, rfl, fun _ => rfl, fun _ _ => .inl rfl⟩, ⟨⟨rfl, rfl, rfl, rfl, fun _ => rfl, fun _ _ => .inl rfl⟩, trivial⟩⟩⟩⟩⟩, trivial⟩⟩, ?_⟩
    rintro s0 m0 ⟨F0, F1, F2, F3, rfl, hmeas⟩
    conv => whnf
    conv => whnf
    (conv => whnf); refine ⟨inK64 (by omega) (by omega), ?_⟩
    conv => whnf
    conv => whnf
    (conv => whnf); refine ifB_dec (fun w2 => ?_) (fun w2 => ?_)
    ·conv => whnf
     conv => whnf
     (conv => whnf); refine .inr (.inl ⟨[], ?_⟩)
     conv => whnf
     conv => whnf
     (conv => whnf); refine ⟨inK64 (by omega) (by omega), ?_⟩
     conv => whnf
     conv => whnf
     (conv => whnf); refine ⟨[.forget [0, 1, 2, 3, 4, 5, 6, 7, 8, 9, 10, 11, 12, 13, 14, 15, 16, 17, 18, 19, 20, 21, 22, 23, 24, 25, 26, 27, 28, 29, 30, 31, 32, 33, 34, 35, 36, 37, 38, 39, 40, 41, 42, 43, 44, 45, 46, 47, 48, 49, 50, 51, 52, 53, 54, 55, 56, 57, 58, 59, 60, 61, 62, 63, 64, 65, 66, 67, 68, 69, 70, 71, 72, 73, 74, 75, 76, 77, 78, 79, 80, 81, 82, 83, 84, 85, 86, 87, 88, 89, 90, 91, 92, 93, 94, 95, 96, 97, 98, 99, 100, 101, 102, 103, 104, 105, 106, 107, 108, 109, 110, 111, 112, 113, 114, 115, 116, 117, 118, 119, 120, 121, 122, 123, 124, 125, 126, 127, 128, 129, 130, 131, 132, 133, 134, 135, 136, 137, 138, 139, 140, 141, 142, 143, 144, 145, 146, 147, 148, 149, 150, 151, 152, 153, 154, 155, 156, 157, 158, 159, 160, 161, 162, 163, 164, 165, 166, 167, 168, 169, 170, 171, 173, 174, 175, 176, 177, 178, 179, 180, 181, 182, 183, 184, 185, 186, 187, 188, 189, 190, 191, 192, 193, 194, 195, 196, 197, 198, 199, 200, 201, 202, 203, 204, 205, 206, 207, 208, 209, 210, 211, 212, 213, 214, 215, 216, 217, 218, 219, 220, 221, 222, 223, 224, 225, 226, 227, 228, 229, 230, 231, 232, 233, 234, 235, 236, 237, 238, 239, 240, 241, 242, 243, 244, 245, 246, 247, 248, 249, 250, 251, 252, 253, 254, 255, 256, 257, 258, 259, 260, 261, 262, 263, 264, 265, 266, 267, 268, 269, 270, 271, 272, 273, 274, 275, 276, 277, 278, 279, 280, 281, 282, 283, 284, 285, 286, 287, 288, 289, 290, 291, 292, 293, 294, 295, 296, 297, 298, 299]], [0, 1, 2, 3, 8], fun st mq => ∃ (i : Nat) (a : List Rat) (F0 : Nat → List AV) (F1 : Nat → List AV) (F2 : Nat → List AV) (F3 : Nat → List AV), (1 ≤ i) ∧ (i ≤ n ∨ i = 1) ∧ (a.length = n) ∧ (a.Perm Q) ∧ (SortG leR (0 : Rat) a i) ∧ st = ⟨[(0, .oslice 4 0 0 n none), (1, i64 0), (2, i64 n), (3, .func (.func 94) 0 []), (8, i64 i)], ⟨[⟨1, 1, F0, 0, false, true, false⟩, ⟨2, 1, F1, 0, false, true, false⟩, ⟨1, 1, F2, 0, false, true, false⟩, ⟨1, 2, F3, 0, false, true, false⟩, ⟨2, n, fun i => fqC (a.getD i (0 : Rat)), 0, false, true, false⟩], [], none, 0⟩, [(172, .oslice 4 0 0 n none)]⟩ ∧ mq = n - i,
      ⟨_, _, ⟨1, Q, _, _, _, _, by omega, by omega, hON, List.Perm.refl _, fun p q h1 h2 => by omega, rfl, rfl⟩, ⟨⟨.inl rfl, rfl, rfl, rfl⟩, ⟨⟨rfl, rfl, rfl, rfl, fun _ => rfl, fun _ _ => .inl rfl⟩, ⟨⟨rfl, rfl, rfl, rfl, fun _ => rfl, fun _ _ => .inl rfl⟩, ⟨⟨rfl, rfl, rfl, rfl, fun _ => rfl, fun _ _ => .inl rfl⟩, ⟨⟨rfl, rfl, rfl, rfl, fun _ => rfl, fun _ _ => .inl rfl⟩, ⟨⟨rfl, rfl, rfl, rfl, fun _ => rfl, fun _ _ => .inl rfl⟩, trivial⟩⟩⟩⟩⟩, trivial⟩⟩, ?_⟩
     rintro s0 m0 ⟨i, a, F0, F1, F2, F3, hi1, hi2, hal, hp, hs, rfl, hmeas⟩
     by_cases hil : i < n
     ·conv => whnf
      conv => whnf
      conv => whnf
      (conv => whnf); refine ifB_dec (fun w3 => ?_) (fun w3 => ?_)
      ·conv => whnf
       conv => whnf
       conv => whnf
       (conv => whnf); refine ⟨[], [0, 1, 2, 3, 8, 9], fun st mq => ∃ (j : Nat) (z : Int) (b : List Rat) (F0 : Nat → List AV) (F1 : Nat → List AV) (F2 : Nat → List AV) (F3 : Nat → List AV), (z = (j : Int)) ∧ (j ≤ i) ∧ (b.length = n) ∧ (b.Perm Q) ∧ (SinkG leR (0 : Rat) b j (i + 1)) ∧ st = ⟨[(0, .oslice 4 0 0 n none), (1, i64 0), (2, i64 n), (3, .func (.func 94) 0 []), (8, i64 i), (9, i64 z)], ⟨[⟨1, 1, F0, 0, false, true, false⟩, ⟨2, 1, F1, 0, false, true, false⟩, ⟨1, 1, F2, 0, false, true, false⟩, ⟨1, 2, F3, 0, false, true, false⟩, ⟨2, n, fun i => fqC (b.getD i (0 : Rat)), 0, false, true, false⟩], [], none, 0⟩, [(172, .oslice 4 0 0 n none)]⟩ ∧ mq = j,
        ⟨_, _, ⟨i, (i : Int), a, _, _, _, _, rfl, by omega, hal, hp, sinkG_start hs, rfl, rfl⟩, ⟨⟨.inl rfl, rfl, rfl, rfl⟩, ⟨⟨rfl, rfl, rfl, rfl, fun _ => rfl, fun _ _ => .inl rfl⟩, ⟨⟨rfl, rfl, rfl, rfl, fun _ => rfl, fun _ _ => .inl rfl⟩, ⟨⟨rfl, rfl, rfl, rfl, fun _ => rfl, fun _ _ => .inl rfl⟩, ⟨⟨rfl, rfl, rfl, rfl, fun _ => rfl, fun _ _ => .inl rfl⟩, ⟨⟨rfl, rfl, rfl, rfl, fun _ => rfl, fun _ _ => .inl rfl⟩, trivial⟩⟩⟩⟩⟩, trivial⟩⟩, ?_⟩
       rintro s0 m0 ⟨j, z, b, F0, F1, F2, F3, hz, hj, hbl, hpb, hsb, rfl, hmeas⟩
       subst hz
       have hcm := hcmp b hpb
       by_cases hj0 : j = 0
       ·subst hj0
        conv => whnf
        conv => whnf
        conv => whnf
        conv => whnf
        (conv => whnf); refine ⟨[], by kernel_rfl, ?_⟩
        conv => whnf
        conv => whnf
        conv => whnf
        conv => whnf
        (conv => whnf); refine ⟨inK64 (by omega) (by omega), ?_⟩
        conv => whnf
        conv => whnf
        conv => whnf
        conv => whnf
        (conv => whnf); refine ⟨_, _, ⟨⟨i + 1, b, _, _, _, _, by omega, by omega, hbl, hpb, sinkG_end leR_tr hsb (.inl rfl), rfl, rfl⟩, by omega⟩, ⟨⟨.inl rfl, rfl, rfl, rfl⟩, ⟨⟨rfl, rfl, rfl, rfl, fun _ => rfl, fun _ _ => .inl rfl⟩, ⟨⟨rfl, rfl, rfl, rfl, fun _ => rfl, fun _ _ => .inl rfl⟩, ⟨⟨rfl, rfl, rfl, rfl, fun _ => rfl, fun _ _ => .inl rfl⟩, ⟨⟨rfl, rfl, rfl, rfl, fun _ => rfl, fun _ _ => .inl rfl⟩, ⟨⟨rfl, rfl, rfl, rfl, fun _ => rfl, fun _ _ => .inl rfl⟩, trivial⟩⟩⟩⟩⟩, trivial⟩⟩
       ·obtain ⟨j, rfl⟩ : ∃ k, j = k + 1 := ⟨j - 1, by omega⟩
        have e1 : (((j + 1 : Nat) : Int) - 1).toNat = j := by omega
        have hr1 := fun x : Nat => rowG (n := 2) (fun e => fqC e) (fun _ => rfl) (0 : Rat) b ((j + 1 : Nat) : Int).toNat x (b.getD (0 + (((j + 1 : Nat) : Int) - 1).toNat) (0 : Rat)) (by omega)
        have hr2 := fun x : Nat => rowG (n := 2) (fun e => fqC e) (fun _ => rfl) (0 : Rat) (b.set ((j + 1 : Nat) : Int).toNat (b.getD (0 + (((j + 1 : Nat) : Int) - 1).toNat) (0 : Rat))) (((j + 1 : Nat) : Int) - 1).toNat x (b.getD (0 + ((j + 1 : Nat) : Int).toNat) (0 : Rat)) (by rw [List.length_set]; omega)
        have hsw : ∀ x, fqC ((swapG (0 : Rat) b (j + 1)).getD x (0 : Rat)) = fqC (((b.set ((j + 1 : Nat) : Int).toNat (b.getD (0 + (((j + 1 : Nat) : Int) - 1).toNat) (0 : Rat))).set (((j + 1 : Nat) : Int) - 1).toNat (b.getD (0 + ((j + 1 : Nat) : Int).toNat) (0 : Rat))).getD x (0 : Rat)) := fun x => by
         rw [e1, Nat.zero_add, Nat.zero_add]; rfl
        conv => whnf
        conv => whnf
        conv => whnf
        conv => whnf
        (conv => whnf); refine ⟨[], by kernel_rfl, ?_⟩
        conv => whnf
        conv => whnf
        conv => whnf
        conv => whnf
        (conv => whnf); refine ifB_dec (fun w4 => ?_) (fun w4 => ?_)
        ·conv => whnf
         conv => whnf
         conv => whnf
         conv => whnf
         (conv => whnf); refine ⟨⟨(by omega), (by omega)⟩, ?_⟩
         conv => whnf
         conv => whnf
         conv => whnf
         conv => whnf
         (conv => whnf); refine ⟨inK64 (by omega) (by omega), ?_⟩
         conv => whnf
         conv => whnf
         conv => whnf
         conv => whnf
         (conv => whnf); refine ⟨⟨(by omega), (by omega)⟩, ?_⟩
         conv => whnf
         conv => whnf
         conv => whnf
         conv => whnf
         (conv => whnf); refine .inl ⟨_, _, byX rfl (Sound1.pl (hcm _ _) rfl), ?_⟩
         conv => whnf
         conv => whnf
         conv => whnf
         conv => whnf
         (conv => whnf); refine ifB_dec (fun w5 => ?_) (fun w5 => ?_)
         ·conv => whnf
          conv => whnf
          conv => whnf
          conv => whnf
          (conv => whnf); refine ⟨[], by kernel_rfl, ?_⟩
          conv => whnf
          conv => whnf
          conv => whnf
          conv => whnf
          (conv => whnf); refine ⟨inK64 (by omega) (by omega), ?_⟩
          conv => whnf
          conv => whnf
          conv => whnf
          conv => whnf
          (conv => whnf); refine ⟨inK64 (by omega) (by omega), ?_⟩
          conv => whnf
          conv => whnf
          conv => whnf
          conv => whnf
          (conv => whnf); refine ⟨⟨(by omega), (by omega)⟩, ?_⟩
          conv => whnf
          conv => whnf
          conv => whnf
          conv => whnf
          (conv => whnf); refine ⟨⟨(by omega), (by omega)⟩, ?_⟩
          conv => whnf
          conv => whnf
          conv => whnf
          conv => whnf
          (conv => whnf); refine ⟨⟨(by omega), (by omega)⟩, ?_⟩
          refine ⟨_, fun i _ => hr1 i, ?_⟩
          conv => whnf
          conv => whnf
          conv => whnf
          conv => whnf
          (conv => whnf); refine ⟨⟨(by omega), (by omega)⟩, ?_⟩
          refine ⟨_, fun i _ => hr2 i, ?_⟩
          conv => whnf
          conv => whnf
          conv => whnf
          conv => whnf
          (conv => whnf); refine ⟨inK64 (by omega) (by omega), ?_⟩
          have hlt : cmpR (b.getD (j + 1) (0 : Rat)) (b.getD (j + 1 - 1) (0 : Rat)) < 0 := by
           have e : cmpR (b.getD (0 + ((j + 1 : Nat) : Int).toNat) (0 : Rat)) (b.getD (0 + (((j + 1 : Nat) : Int) - 1).toNat) (0 : Rat)) < 0 := by assumption
           rw [e1, Nat.zero_add, Nat.zero_add] at e
           exact e
          conv => whnf
          conv => whnf
          conv => whnf
          conv => whnf
          (conv => whnf); refine ⟨_, _, ⟨⟨j, ((j + 1 : Nat) : Int) - 1, swapG (0 : Rat) b (j + 1), _, _, _, _, by omega, by omega, (by rw [swapG_len]; exact hbl), (swapG_perm (by omega)).trans hpb, sinkG_swap (by omega) (by omega) hsb (leR_of hlt), rfl, rfl⟩, by omega⟩, ⟨⟨.inl rfl, rfl, rfl, rfl⟩, ⟨⟨rfl, rfl, rfl, rfl, fun _ => rfl, fun _ _ => .inl rfl⟩, ⟨⟨rfl, rfl, rfl, rfl, fun _ => rfl, fun _ _ => .inl rfl⟩, ⟨⟨rfl, rfl, rfl, rfl, fun _ => rfl, fun _ _ => .inl rfl⟩, ⟨⟨rfl, rfl, rfl, rfl, fun _ => rfl, fun _ _ => .inl rfl⟩, ⟨⟨rfl, rfl, rfl, rfl, fun _ => rfl, fun x _ => .inl (hsw x)⟩, trivial⟩⟩⟩⟩⟩, trivial⟩⟩
         ·conv => whnf
          conv => whnf
          conv => whnf
          conv => whnf
          (conv => whnf); refine ⟨inK64 (by omega) (by omega), ?_⟩
          have hge : ¬ cmpR (b.getD (j + 1) (0 : Rat)) (b.getD (j + 1 - 1) (0 : Rat)) < 0 := by
           have e : ¬ cmpR (b.getD (0 + ((j + 1 : Nat) : Int).toNat) (0 : Rat)) (b.getD (0 + (((j + 1 : Nat) : Int) - 1).toNat) (0 : Rat)) < 0 := by assumption
           rw [e1, Nat.zero_add, Nat.zero_add] at e
           exact e
          conv => whnf
          conv => whnf
          conv => whnf
          conv => whnf
          (conv => whnf); refine ⟨_, _, ⟨⟨i + 1, b, _, _, _, _, by omega, by omega, hbl, hpb, sinkG_end leR_tr hsb (.inr (geR_of hge)), rfl, rfl⟩, by omega⟩, ⟨⟨.inl rfl, rfl, rfl, rfl⟩, ⟨⟨rfl, rfl, rfl, rfl, fun _ => rfl, fun _ _ => .inl rfl⟩, ⟨⟨rfl, rfl, rfl, rfl, fun _ => rfl, fun _ _ => .inl rfl⟩, ⟨⟨rfl, rfl, rfl, rfl, fun _ => rfl, fun _ _ => .inl rfl⟩, ⟨⟨rfl, rfl, rfl, rfl, fun _ => rfl, fun _ _ => .inl rfl⟩, ⟨⟨rfl, rfl, rfl, rfl, fun _ => rfl, fun _ _ => .inl rfl⟩, trivial⟩⟩⟩⟩⟩, trivial⟩⟩
        ·(exfalso; omega)
      ·(exfalso; omega)
     ·have hsa : SortG leR (0 : Rat) a a.length := fun p q h1 h2 => hs p q h1 (by omega)
      have hG := flo1_sort hp (sortG_pair hsa)
      rw [← hG]
      subst hal
      conv => whnf
      conv => whnf
      conv => whnf
      (conv => whnf); refine ifB_dec (fun w3 => ?_) (fun w3 => ?_)
      ·(exfalso; omega)
      ·conv => whnf
       conv => whnf
       conv => whnf
       (conv => whnf); refine .inr (.inl ⟨[], ?_⟩)
       conv => whnf
       conv => whnf
       conv => whnf
       (conv => whnf); refine ifB_dec (fun w4 => ?_) (fun w4 => ?_)
       ·conv => whnf
        conv => whnf
        conv => whnf
        (conv => whnf); refine ⟨?_, nofun⟩
        rw [compL_one (by omega)]
        exact ave_tup2 ⟨rfl, rfl, fun _ _ => rfl⟩ rfl
       ·conv => whnf
        conv => whnf
        conv => whnf
        (conv => whnf); refine ⟨[.forget [0, 1, 2, 3, 4, 5, 6, 7, 8, 9, 10, 11, 12, 13, 14, 15, 16, 17, 18, 19, 20, 21, 22, 23, 24, 25, 26, 27, 28, 29, 30, 31, 32, 33, 34, 35, 36, 37, 38, 39, 40, 41, 42, 43, 44, 45, 46, 47, 48, 49, 50, 51, 52, 53, 54, 55, 56, 57, 58, 59, 60, 61, 62, 63, 64, 65, 66, 67, 68, 69, 70, 71, 72, 73, 74, 75, 76, 77, 78, 79, 80, 81, 82, 83, 84, 85, 86, 87, 88, 89, 90, 91, 92, 93, 94, 95, 96, 97, 98, 99, 100, 101, 102, 103, 104, 105, 106, 107, 108, 109, 110, 111, 112, 113, 114, 115, 116, 117, 118, 119, 120, 121, 122, 123, 124, 125, 126, 127, 128, 129, 130, 131, 132, 133, 134, 135, 136, 137, 138, 139, 140, 141, 142, 143, 144, 145, 146, 147, 148, 149, 150, 151, 152, 153, 154, 155, 156, 157, 158, 159, 160, 161, 162, 163, 164, 165, 166, 167, 168, 169, 170, 171, 172, 173, 174, 175, 176, 177, 178, 179, 180, 181, 182, 183, 184, 185, 186, 187, 188, 189, 190, 191, 192, 193, 194, 195, 196, 197, 198, 199, 200, 201, 202, 203, 204, 205, 206, 207, 208, 209, 210, 211, 212, 213, 214, 215, 216, 217, 218, 219, 220, 221, 222, 223, 224, 225, 226, 227, 228, 229, 230, 231, 232, 233, 234, 235, 236, 237, 238, 239, 240, 241, 242, 243, 244, 245, 246, 247, 248, 249, 250, 251, 252, 253, 254, 255, 256, 257, 258, 259, 260, 261, 262, 263, 264, 265, 266, 267, 268, 269, 270, 271, 272, 273, 274, 275, 276, 277, 278, 279, 280, 281, 282, 283, 284, 285, 286, 287, 288, 289, 290, 291, 292, 293, 294, 295, 296, 297, 298, 299]], [0, 3], fun st mq => ∃ (k : Nat) (F0 : Nat → List AV) (F1 : Nat → List AV) (F2 : Nat → List AV) (F3 : Nat → List AV), (1 ≤ k) ∧ (k ≤ a.length) ∧ (compL (a.take k) = a.take k) ∧ st = ⟨[(0, .oslice 4 0 0 a.length none), (3, i64 k)], ⟨[⟨1, 1, F0, 0, false, true, false⟩, ⟨2, 1, F1, 0, false, true, false⟩, ⟨1, 1, F2, 0, false, true, false⟩, ⟨1, 2, F3, 0, false, true, false⟩, ⟨2, a.length, fun i => fqC (a.getD i (0 : Rat)), 0, false, true, false⟩], [], none, 0⟩, []⟩ ∧ mq = a.length - k,
         ⟨_, _, ⟨1, _, _, _, _, by omega, by omega, compL_one (by rw [List.length_take]; omega), rfl, rfl⟩, ⟨⟨.inl rfl, rfl, rfl, rfl⟩, ⟨⟨rfl, rfl, rfl, rfl, fun _ => rfl, fun _ _ => .inl rfl⟩, ⟨⟨rfl, rfl, rfl, rfl, fun _ => rfl, fun _ _ => .inl rfl⟩, ⟨⟨rfl, rfl, rfl, rfl, fun _ => rfl, fun _ _ => .inl rfl⟩, ⟨⟨rfl, rfl, rfl, rfl, fun _ => rfl, fun _ _ => .inl rfl⟩, ⟨⟨rfl, rfl, rfl, rfl, fun _ => rfl, fun _ _ => .inl rfl⟩, trivial⟩⟩⟩⟩⟩, trivial⟩⟩, ?_⟩
        rintro s0 m0 ⟨k, F0, F1, F2, F3, hk1, hk2, hc, rfl, hmeas⟩
        have ek : ((k : Int) - 1).toNat = k - 1 := by omega
        by_cases hlt : k < a.length
        ·have hv0 := fq_veq (a.getD (0 + (k : Int).toNat) (0 : Rat)) (a.getD (0 + ((k : Int) - 1).toNat) (0 : Rat))
         have hz : 0 ≤ (k : Int) ∧ (k : Int) ≤ (a.length : Int) ∧ ((0 : Nat) : Int) + (a.length : Int) ≤ (a.length : Int) := ⟨by omega, by omega, by omega⟩
         by_cases he : a.getD k (0 : Rat) = a.getD (k - 1) (0 : Rat)
         ·have hv := hv0.2 (by rw [ek, Nat.zero_add, Nat.zero_add]; exact he)
          conv => whnf
          conv => whnf
          conv => whnf
          conv => whnf
          (conv => whnf); refine ifB_dec (fun w5 => ?_) (fun w5 => ?_)
          ·conv => whnf
           conv => whnf
           conv => whnf
           conv => whnf
           (conv => whnf); refine ⟨[], by kernel_rfl, ?_⟩
           conv => whnf
           conv => whnf
           conv => whnf
           conv => whnf
           (conv => whnf); refine ⟨⟨(by omega), (by omega)⟩, ?_⟩
           conv => whnf
           conv => whnf
           conv => whnf
           conv => whnf
           (conv => whnf); refine ⟨inK64 (by omega) (by omega), ?_⟩
           conv => whnf
           conv => whnf
           conv => whnf
           conv => whnf
           (conv => whnf); refine ⟨⟨(by omega), (by omega)⟩, ?_⟩
           conv => whnf
           conv => whnf
           conv => whnf
           conv => whnf
           (conv => whnf); refine ifB_veq2 (fun w6 => ?_) (fun w6 => ?_)
           ·conv => whnf
            conv => whnf
            conv => whnf
            conv => whnf
            (conv => whnf); refine ⟨by assumption, ?_⟩
            conv => whnf
            conv => whnf
            conv => whnf
            conv => whnf
            (conv => whnf); refine ⟨[], [0, 3, 4, 5], fun st mq => ∃ (k1 : Nat) (q : Nat) (a1 : List Rat) (F0 : Nat → List AV) (F1 : Nat → List AV) (F2 : Nat → List AV) (F3 : Nat → List AV), (1 ≤ q) ∧ (CmpI (0 : Rat) a a1 k1 (k + q)) ∧ st = ⟨[(0, .oslice 4 0 0 a.length none), (3, i64 k1), (4, .oslice 4 0 (0 + (k : Int).toNat) ((a.length : Int) - (k : Int)).toNat none), (5, i64 q)], ⟨[⟨1, 1, F0, 0, false, true, false⟩, ⟨2, 1, F1, 0, false, true, false⟩, ⟨1, 1, F2, 0, false, true, false⟩, ⟨1, 2, F3, 0, false, true, false⟩, ⟨2, a.length, fun i => fqC (a1.getD i (0 : Rat)), 0, false, true, false⟩], [], none, 0⟩, []⟩ ∧ mq = a.length - k - q,
             ⟨_, _, ⟨k, 1, a, _, _, _, _, by omega, cmpI_start hk1 hlt hc he, rfl, rfl⟩, ⟨⟨.inl rfl, rfl, rfl, rfl⟩, ⟨⟨rfl, rfl, rfl, rfl, fun _ => rfl, fun _ _ => .inl rfl⟩, ⟨⟨rfl, rfl, rfl, rfl, fun _ => rfl, fun _ _ => .inl rfl⟩, ⟨⟨rfl, rfl, rfl, rfl, fun _ => rfl, fun _ _ => .inl rfl⟩, ⟨⟨rfl, rfl, rfl, rfl, fun _ => rfl, fun _ _ => .inl rfl⟩, ⟨⟨rfl, rfl, rfl, rfl, fun _ => rfl, fun _ _ => .inl rfl⟩, trivial⟩⟩⟩⟩⟩, trivial⟩⟩, ?_⟩
            rintro s0 m0 ⟨k1, q, a1, F0, F1, F2, F3, hq, hI, rfl, hmeas⟩
            have hkp := hI.kp
            have hal1 := hI.len
            by_cases hlt2 : k + q < a.length
            ·have hv20 := fq_veq (a1.getD (0 + (k : Int).toNat + (q : Int).toNat) (0 : Rat)) (a1.getD (0 + (k : Int).toNat + ((q : Int) - 1).toNat) (0 : Rat))
             have ep : 0 + (k : Int).toNat + ((q : Int) - 1).toNat = k + q - 1 := by omega
             have eq0 : 0 + (k : Int).toNat + (q : Int).toNat = k + q := by omega
             by_cases he2 : a1.getD (k + q) (0 : Rat) = a1.getD (k + q - 1) (0 : Rat)
             ·have hv2 := hv20.2 (by rw [ep, eq0]; exact he2)
              conv => whnf
              conv => whnf
              conv => whnf
              conv => whnf
              conv => whnf
              (conv => whnf); refine ifB_dec (fun w7 => ?_) (fun w7 => ?_)
              ·conv => whnf
               conv => whnf
               conv => whnf
               conv => whnf
               conv => whnf
               (conv => whnf); refine ⟨[], by kernel_rfl, ?_⟩
               conv => whnf
               conv => whnf
               conv => whnf
               conv => whnf
               conv => whnf
               (conv => whnf); refine ⟨⟨(by omega), (by omega)⟩, ?_⟩
               conv => whnf
               conv => whnf
               conv => whnf
               conv => whnf
               conv => whnf
               (conv => whnf); refine ⟨inK64 (by omega) (by omega), ?_⟩
               conv => whnf
               conv => whnf
               conv => whnf
               conv => whnf
               conv => whnf
               (conv => whnf); refine ⟨⟨(by omega), (by omega)⟩, ?_⟩
               conv => whnf
               conv => whnf
               conv => whnf
               conv => whnf
               conv => whnf
               (conv => whnf); refine ifB_not ?_
               conv => whnf
               conv => whnf
               conv => whnf
               conv => whnf
               conv => whnf
               (conv => whnf); refine ifB_veq2 (fun w8 => ?_) (fun w8 => ?_)
               ·conv => whnf
                conv => whnf
                conv => whnf
                conv => whnf
                conv => whnf
                (conv => whnf); refine ⟨inK64 (by omega) (by omega), ?_⟩
                conv => whnf
                conv => whnf
                conv => whnf
                conv => whnf
                conv => whnf
                (conv => whnf); refine ⟨_, _, ⟨⟨k1, q + 1, a1, _, _, _, _, by omega, hI.same hlt2 he2, rfl, rfl⟩, by omega⟩, ⟨⟨.inl rfl, rfl, rfl, rfl⟩, ⟨⟨rfl, rfl, rfl, rfl, fun _ => rfl, fun _ _ => .inl rfl⟩, ⟨⟨rfl, rfl, rfl, rfl, fun _ => rfl, fun _ _ => .inl rfl⟩, ⟨⟨rfl, rfl, rfl, rfl, fun _ => rfl, fun _ _ => .inl rfl⟩, ⟨⟨rfl, rfl, rfl, rfl, fun _ => rfl, fun _ _ => .inl rfl⟩, ⟨⟨rfl, rfl, rfl, rfl, fun _ => rfl, fun _ _ => .inl rfl⟩, trivial⟩⟩⟩⟩⟩, trivial⟩⟩
               ·(exfalso; omega)
              ·(exfalso; omega)
             ·have hv2 := mt hv20.1 (by rw [ep, eq0]; exact he2)
              have hrow := fun i : Nat => rowG (n := 2) (fun e => fqC e) (fun _ => rfl) (0 : Rat) a1 (k1 : Int).toNat i (a1.getD (0 + (k : Int).toNat + (q : Int).toNat) (0 : Rat)) (by omega)
              conv => whnf
              conv => whnf
              conv => whnf
              conv => whnf
              conv => whnf
              (conv => whnf); refine ifB_dec (fun w7 => ?_) (fun w7 => ?_)
              ·conv => whnf
               conv => whnf
               conv => whnf
               conv => whnf
               conv => whnf
               (conv => whnf); refine ⟨[], by kernel_rfl, ?_⟩
               conv => whnf
               conv => whnf
               conv => whnf
               conv => whnf
               conv => whnf
               (conv => whnf); refine ⟨⟨(by omega), (by omega)⟩, ?_⟩
               conv => whnf
               conv => whnf
               conv => whnf
               conv => whnf
               conv => whnf
               (conv => whnf); refine ⟨inK64 (by omega) (by omega), ?_⟩
               conv => whnf
               conv => whnf
               conv => whnf
               conv => whnf
               conv => whnf
               (conv => whnf); refine ⟨⟨(by omega), (by omega)⟩, ?_⟩
               conv => whnf
               conv => whnf
               conv => whnf
               conv => whnf
               conv => whnf
               (conv => whnf); refine ifB_not ?_
               conv => whnf
               conv => whnf
               conv => whnf
               conv => whnf
               conv => whnf
               (conv => whnf); refine ifB_veq2 (fun w8 => ?_) (fun w8 => ?_)
               ·(exfalso; omega)
               ·conv => whnf
                conv => whnf
                conv => whnf
                conv => whnf
                conv => whnf
                (conv => whnf); refine ⟨⟨(by omega), (by omega)⟩, ?_⟩
                conv => whnf
                conv => whnf
                conv => whnf
                conv => whnf
                conv => whnf
                (conv => whnf); refine ⟨⟨(by omega), (by omega)⟩, ?_⟩
                refine ⟨_, fun i _ => hrow i, ?_⟩
                conv => whnf
                conv => whnf
                conv => whnf
                conv => whnf
                conv => whnf
                (conv => whnf); refine ⟨inK64 (by omega) (by omega), ?_⟩
                conv => whnf
                conv => whnf
                conv => whnf
                conv => whnf
                conv => whnf
                (conv => whnf); refine ⟨inK64 (by omega) (by omega), ?_⟩
                conv => whnf
                conv => whnf
                conv => whnf
                conv => whnf
                conv => whnf
                (conv => whnf); refine ⟨_, _, ⟨⟨k1 + 1, q + 1, a1.set k1 (a1.getD (0 + (k : Int).toNat + (q : Int).toNat) (0 : Rat)), _, _, _, _, by omega, (by rw [eq0]; exact hI.put hlt2 he2), rfl, rfl⟩, by omega⟩, ⟨⟨.inl rfl, rfl, rfl, rfl⟩, ⟨⟨rfl, rfl, rfl, rfl, fun _ => rfl, fun _ _ => .inl rfl⟩, ⟨⟨rfl, rfl, rfl, rfl, fun _ => rfl, fun _ _ => .inl rfl⟩, ⟨⟨rfl, rfl, rfl, rfl, fun _ => rfl, fun _ _ => .inl rfl⟩, ⟨⟨rfl, rfl, rfl, rfl, fun _ => rfl, fun _ _ => .inl rfl⟩, ⟨⟨rfl, rfl, rfl, rfl, fun _ => rfl, fun _ _ => .inl rfl⟩, trivial⟩⟩⟩⟩⟩, trivial⟩⟩
              ·(exfalso; omega)
            ·have hf := hI.fin hlt2
             have hz2 : 0 ≤ (k1 : Int) ∧ (k1 : Int) ≤ (a.length : Int) ∧ ((0 : Nat) : Int) + (a.length : Int) ≤ (a.length : Int) := ⟨by omega, by omega, by omega⟩
             have hz3 : 0 ≤ (0 : Int) ∧ (0 : Int) ≤ (k1 : Int) ∧ ((0 : Nat) : Int) + (k1 : Int) ≤ (a.length : Int) := ⟨by omega, by omega, by omega⟩
             conv => whnf
             conv => whnf
             conv => whnf
             conv => whnf
             conv => whnf
             (conv => whnf); refine ifB_dec (fun w7 => ?_) (fun w7 => ?_)
             ·(exfalso; omega)
             ·conv => whnf
              conv => whnf
              conv => whnf
              conv => whnf
              conv => whnf
              (conv => whnf); refine ⟨by assumption, ?_⟩
              conv => whnf
              conv => whnf
              conv => whnf
              conv => whnf
              conv => whnf
              (conv => whnf); refine ⟨by assumption, ?_⟩
              conv => whnf
              conv => whnf
              conv => whnf
              conv => whnf
              conv => whnf
              (conv => whnf); refine ⟨?_, nofun⟩
              exact (ave_tup2 ⟨rfl, (by have := hf.1; omega), fun i hi => (if_neg (by omega)).trans (congrArg (fun e => fqC e) (hf.2 i (by omega)))⟩ rfl)
           ·(exfalso; omega)
          ·(exfalso; omega)
         ·have hv := mt hv0.1 (by rw [ek, Nat.zero_add, Nat.zero_add]; exact he)
          conv => whnf
          conv => whnf
          conv => whnf
          conv => whnf
          (conv => whnf); refine ifB_dec (fun w5 => ?_) (fun w5 => ?_)
          ·conv => whnf
           conv => whnf
           conv => whnf
           conv => whnf
           (conv => whnf); refine ⟨[], by kernel_rfl, ?_⟩
           conv => whnf
           conv => whnf
           conv => whnf
           conv => whnf
           (conv => whnf); refine ⟨⟨(by omega), (by omega)⟩, ?_⟩
           conv => whnf
           conv => whnf
           conv => whnf
           conv => whnf
           (conv => whnf); refine ⟨inK64 (by omega) (by omega), ?_⟩
           conv => whnf
           conv => whnf
           conv => whnf
           conv => whnf
           (conv => whnf); refine ⟨⟨(by omega), (by omega)⟩, ?_⟩
           conv => whnf
           conv => whnf
           conv => whnf
           conv => whnf
           (conv => whnf); refine ifB_veq2 (fun w6 => ?_) (fun w6 => ?_)
           ·(exfalso; omega)
           ·conv => whnf
            conv => whnf
            conv => whnf
            conv => whnf
            (conv => whnf); refine ⟨inK64 (by omega) (by omega), ?_⟩
            conv => whnf
            conv => whnf
            conv => whnf
            conv => whnf
            (conv => whnf); refine ⟨_, _, ⟨⟨k + 1, _, _, _, _, by omega, by omega, comp_go hk1 hlt hc he, rfl, rfl⟩, by omega⟩, ⟨⟨.inl rfl, rfl, rfl, rfl⟩, ⟨⟨rfl, rfl, rfl, rfl, fun _ => rfl, fun _ _ => .inl rfl⟩, ⟨⟨rfl, rfl, rfl, rfl, fun _ => rfl, fun _ _ => .inl rfl⟩, ⟨⟨rfl, rfl, rfl, rfl, fun _ => rfl, fun _ _ => .inl rfl⟩, ⟨⟨rfl, rfl, rfl, rfl, fun _ => rfl, fun _ _ => .inl rfl⟩, ⟨⟨rfl, rfl, rfl, rfl, fun _ => rfl, fun _ _ => .inl rfl⟩, trivial⟩⟩⟩⟩⟩, trivial⟩⟩
          ·(exfalso; omega)
        ·obtain rfl : k = a.length := by omega
         rw [List.take_length] at hc
         rw [hc]
         conv => whnf
         conv => whnf
         conv => whnf
         conv => whnf
         (conv => whnf); refine ifB_dec (fun w5 => ?_) (fun w5 => ?_)
         ·(exfalso; omega)
         ·conv => whnf
          conv => whnf
          conv => whnf
          conv => whnf
          (conv => whnf); refine ⟨?_, nofun⟩
          exact (ave_tup2 ⟨rfl, rfl, fun _ _ => rfl⟩ rfl)
    ·(exfalso; omega)
 ·rw [if_neg h0, if_neg h0]
  refine sound (d := 2) tok2 mixed2 Tryz.func26 (by kernel_rfl) (by kernel_rfl) ?_
  (conv => whnf); refine .inl ⟨_, _, byX rfl (h74), ?_⟩
  (conv => whnf); refine .inl ⟨_, _, byX rfl (Sound1.pl (h77 _ rfl) rfl), ?_⟩
  (conv => whnf); refine .inl ⟨_, _, byX rfl (Sound1.pl (h76 ⟨rfl, rfl⟩) rfl), ?_⟩
  (conv => whnf); refine ifB_bne (fun w1 => ?_) (fun w1 => ?_)
  ·(conv => whnf); refine ⟨?_, nofun⟩
   exact ave_tup2 rfl rfl
  ·(exfalso; omega)
end Go.Tr

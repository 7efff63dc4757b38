/- Contracts of chapter 5: the reference's curve; spots compared; the law of curves. Conditions: none. -/
import Derived.Test.YtgbdlkajmmjahaaGreatTr11
set_option linter.unusedSectionVars false
set_option linter.unnecessarySimpa false
set_option linter.unusedVariables false
set_option linter.unusedSimpArgs false

-- seat YtgbdlkajmmjahaaGreat
namespace Go.Tr
open Go Go.Proofs
set_option maxRecDepth 20000
set_option maxHeartbeats 8000000

theorem S43 (q : Q3) : SP 43 [bgA q] (.tuple [spA (okR q.1, okR q.2.1, okR q.2.2), vb (decide (sm3 q))]) false := by
 have h1 := S41 q.1
 have h2 := S41 q.2.1
 have h3 := S41 q.2.2
 have ht : ∀ {k : Nat} {s : F3} {b : Bool}, AVE (k + 3) (.tuple [spA s, vb b]) (.tuple [spA s, vb b]) := ave_ok2 (by simp [AV.atom]) trivial
 by_cases g1 : smR q.1
 ·rw [decide_eq_true g1] at h1
  by_cases g2 : smR q.2.1
  ·rw [decide_eq_true g2] at h2
   by_cases g3 : smR q.2.2
   ·rw [decide_eq_true g3] at h3
    rw [decide_eq_true (show sm3 q from ⟨g1, g2, g3⟩)]
    refine sound (d := 2) tok2 mixed2 Tryz.func43 (by kernel_rfl) (by kernel_rfl) ?_
    (conv => whnf); refine .inl ⟨_, _, byX rfl (Sound1.pl (h1) rfl), ?_⟩
    (conv => whnf); refine .inl ⟨_, _, byX rfl (Sound1.pl (h2) rfl), ?_⟩
    (conv => whnf); refine .inl ⟨_, _, byX rfl (Sound1.pl (h3) rfl), ?_⟩
    (conv => whnf); refine ⟨?_, nofun⟩
    (first | contradiction | exact ht (s := (okR q.1, okR q.2.1, okR q.2.2)))
   ·rw [decide_eq_false g3] at h3
    rw [decide_eq_false (show ¬ sm3 q from fun e => g3 e.2.2)]
    refine sound (d := 2) tok2 mixed2 Tryz.func43 (by kernel_rfl) (by kernel_rfl) ?_
    (conv => whnf); refine .inl ⟨_, _, byX rfl (Sound1.pl (h1) rfl), ?_⟩
    (conv => whnf); refine .inl ⟨_, _, byX rfl (Sound1.pl (h2) rfl), ?_⟩
    (conv => whnf); refine .inl ⟨_, _, byX rfl (Sound1.pl (h3) rfl), ?_⟩
    (conv => whnf); refine ⟨?_, nofun⟩
    (first | contradiction | exact ht (s := (okR q.1, okR q.2.1, okR q.2.2)))
  ·rw [decide_eq_false g2] at h2
   rw [decide_eq_false (show ¬ sm3 q from fun e => g2 e.2.1)]
   refine sound (d := 2) tok2 mixed2 Tryz.func43 (by kernel_rfl) (by kernel_rfl) ?_
   (conv => whnf); refine .inl ⟨_, _, byX rfl (Sound1.pl (h1) rfl), ?_⟩
   (conv => whnf); refine .inl ⟨_, _, byX rfl (Sound1.pl (h2) rfl), ?_⟩
   (conv => whnf); refine .inl ⟨_, _, byX rfl (Sound1.pl (h3) rfl), ?_⟩
   (conv => whnf); refine ⟨?_, nofun⟩
   (first | contradiction | exact ht (s := (okR q.1, okR q.2.1, okR q.2.2)))
 ·rw [decide_eq_false g1] at h1
  rw [decide_eq_false (show ¬ sm3 q from fun e => g1 e.1)]
  refine sound (d := 2) tok2 mixed2 Tryz.func43 (by kernel_rfl) (by kernel_rfl) ?_
  (conv => whnf); refine .inl ⟨_, _, byX rfl (Sound1.pl (h1) rfl), ?_⟩
  (conv => whnf); refine .inl ⟨_, _, byX rfl (Sound1.pl (h2) rfl), ?_⟩
  (conv => whnf); refine .inl ⟨_, _, byX rfl (Sound1.pl (h3) rfl), ?_⟩
  (conv => whnf); refine ⟨?_, nofun⟩
  (first | contradiction | exact ht (s := (okR q.1, okR q.2.1, okR q.2.2)))
theorem okR_sm {q : Q3} (h : sm3 q) : (okR q.1, okR q.2.1, okR q.2.2) = fr3 q := by
  unfold okR fr3
  rw [if_pos h.1, if_pos h.2.1, if_pos h.2.2]
def bgs (L : List Q3) : AV := .rslice 12 L.length fun i => bgC (L.getD i q0)
theorem S20 (L : List Q3) (hn : L.length ≤ 1000000) : SP 20 [bgs L] (.tuple [sps (smL L), i64 (smE L)]) false := by
 refine sound (d := 2) tok2 mixed2 Tryz.func20 (by kernel_rfl) (by kernel_rfl) ?_
 (conv => whnf); refine ⟨[.slot 4 6], [0, 4, 5], fun st mq => ∃ (k : Nat), (k ≤ L.length) ∧ (∀ j, j < k → sm3 (L.getD j q0)) ∧ st = ⟨[(0, bgs L), (4, .oslice 0 0 0 k none), (5, i64 k)], ⟨[⟨6, k, fun i => spC (fr3 (L.getD i q0)), 0, false, true, false⟩], [], none, 0⟩, []⟩ ∧ mq = L.length - k,
  ⟨_, _, ⟨0, by omega, fun j h => absurd h (Nat.not_lt_zero j), rfl, rfl⟩, ⟨⟨.inl rfl, rfl, rfl, rfl⟩, ⟨⟨rfl, rfl, rfl, rfl, fun _ => rfl, fun i h => .inl (absurd h (Nat.not_lt_zero i))⟩, trivial⟩, trivial⟩⟩, ?_⟩
 rintro s0 m0 ⟨k, hk, hs, rfl, hmeas⟩
 by_cases hlt : k < L.length
 ·have c1 := S43 (L.getD k q0)
  by_cases g : sm3 (L.getD k q0)
  ·rw [decide_eq_true g, okR_sm g] at c1
   conv => whnf
   (conv => whnf); refine ifB_dec (fun w1 => ?_) (fun w1 => ?_)
   ·conv => whnf
    (conv => whnf); refine ⟨⟨(by omega), (by omega)⟩, ?_⟩
    conv => whnf
    (conv => whnf); refine .inl ⟨_, _, byX rfl (Sound1.pl (c1) rfl), ?_⟩
    conv => whnf
    (conv => whnf); refine .inl ?_
    conv => whnf
    (conv => whnf); refine ⟨(by show _ * (48 + 1) ≤ _; omega), ?_⟩
    conv => whnf
    (conv => whnf); refine ⟨inK64 (by omega) (by omega), ?_⟩
    conv => whnf
    (conv => whnf); refine ⟨_, _, ⟨⟨k + 1, by omega, (fun j hj => by by_cases e : j = k; (rw [e]; exact g); exact hs j (by omega)), rfl, rfl⟩, by omega⟩, ⟨⟨.inl rfl, rfl, rfl, rfl⟩, ⟨⟨rfl, rfl, rfl, rfl, fun _ => rfl, fun i hi => .inl (extG (fun q => spC (fr3 q)) (m := 6) (fun _ => rfl) (fun i => L.getD i q0) k i hi)⟩, trivial⟩, trivial⟩⟩
   ·(exfalso; omega)
  ·rw [decide_eq_false g] at c1
   have ha := allS_no hlt g
   unfold smL smE
   rw [ha]
   conv => whnf
   (conv => whnf); refine ifB_dec (fun w1 => ?_) (fun w1 => ?_)
   ·conv => whnf
    (conv => whnf); refine ⟨⟨(by omega), (by omega)⟩, ?_⟩
    conv => whnf
    (conv => whnf); refine .inl ⟨_, _, byX rfl (Sound1.pl (c1) rfl), ?_⟩
    conv => whnf
    (conv => whnf); refine ⟨?_, nofun⟩
    exact ave_tup2 rfl rfl
   ·(exfalso; omega)
 ·obtain rfl : k = L.length := by omega
  have ha := allS_yes hs
  unfold smL smE
  rw [ha]
  conv => whnf
  (conv => whnf); refine ifB_dec (fun w1 => ?_) (fun w1 => ?_)
  ·(exfalso; omega)
  ·conv => whnf
   (conv => whnf); refine ⟨?_, nofun⟩
   exact ave_tup2 ⟨rfl, rfl, fun _ _ => rfl⟩ rfl
theorem vEq6 (a b c d e f : Int) : vEqL [.int .i64 a, .int .i64 b, .int .i64 c, .int .i64 d, .int .i64 e, .int .i64 f] [.int .i64 a, .int .i64 b, .int .i64 c, .int .i64 d, .int .i64 e, .int .i64 f] = true := by
  simp [vEqL]
theorem S24 (L : List Q3) (hn : L.length ≤ 1000000) : SP 24 [sps L, sps L] (vb true) false := by
 refine sound (d := 2) tok2 mixed2 Tryz.func24 (by kernel_rfl) (by kernel_rfl) ?_
 (conv => whnf); refine ifB_bne (fun w1 => ?_) (fun w1 => ?_)
 ·(exfalso; omega)
 ·(conv => whnf); refine ⟨[], [0, 1, 5], fun st mq => ∃ (k : Nat), (k ≤ L.length) ∧ st = ⟨[(0, sps L), (1, sps L), (5, i64 k)], ⟨[], [], none, 0⟩, []⟩ ∧ mq = L.length - k,
   ⟨_, _, ⟨0, by omega, rfl, rfl⟩, ⟨⟨.inl rfl, rfl, rfl, rfl⟩, trivial, trivial⟩⟩, ?_⟩
  rintro s0 m0 ⟨k, hk, rfl, hmeas⟩
  by_cases hlt : k < L.length
  ·have hv := vEq6 (fr3 (L.getD (k : Int).toNat q0)).1.1 (fr3 (L.getD (k : Int).toNat q0)).1.2 (fr3 (L.getD (k : Int).toNat q0)).2.1.1 (fr3 (L.getD (k : Int).toNat q0)).2.1.2 (fr3 (L.getD (k : Int).toNat q0)).2.2.1 (fr3 (L.getD (k : Int).toNat q0)).2.2.2
   conv => whnf
   (conv => whnf); refine ifB_dec (fun w2 => ?_) (fun w2 => ?_)
   ·conv => whnf
    (conv => whnf); refine ⟨[], by kernel_rfl, ?_⟩
    conv => whnf
    (conv => whnf); refine ⟨⟨(by omega), (by omega)⟩, ?_⟩
    conv => whnf
    (conv => whnf); refine ⟨⟨(by omega), (by omega)⟩, ?_⟩
    conv => whnf
    (conv => whnf); refine ifB_not ?_
    conv => whnf
    (conv => whnf); refine ifB_intro (fun w3 => ?_) (fun w3 => ?_)
    ·conv => whnf
     (conv => whnf); refine ⟨inK64 (by omega) (by omega), ?_⟩
     conv => whnf
     (conv => whnf); refine ⟨_, _, ⟨⟨k + 1, by omega, rfl, rfl⟩, by omega⟩, ⟨⟨.inl rfl, rfl, rfl, rfl⟩, trivial, trivial⟩⟩
    ·exact absurd (hv.symm.trans w3) nofun
   ·(exfalso; omega)
  ·conv => whnf
   (conv => whnf); refine ifB_dec (fun w2 => ?_) (fun w2 => ?_)
   ·(exfalso; omega)
   ·conv => whnf
    (conv => whnf); refine ⟨?_, nofun⟩
    (first | contradiction | omega | rfl)
theorem compS_0 (R : List Q3) (x : Q3) (h : R.length = 0) : compS R x = R ++ [x] := by
  rw [List.length_eq_zero_iff.1 h]; rfl
theorem last_getD {R : List Q3} (h : 0 < R.length) : R.getLast? = some (R.getD (R.length - 1) q0) := by
  rw [List.getLast?_eq_getElem?, List.getD_eq_getElem?_getD, List.getElem?_eq_getElem (by omega)]; rfl
theorem compS_y {R : List Q3} {x : Q3} (h : 0 < R.length) (e : R.getD (R.length - 1) q0 = x) : compS R x = R := by
  unfold compS; rw [last_getD h, e, if_pos rfl]
theorem compS_n {R : List Q3} {x : Q3} (e : 0 < R.length → ¬ R.getD (R.length - 1) q0 = x) : compS R x = R ++ [x] := by
 by_cases h : 0 < R.length
 ·unfold compS
  rw [last_getD h, if_neg (fun g => e h (Option.some.inj g))]
 ·exact compS_0 R x (by omega)
theorem rawQ_2 {A B : List P3} {part : Rat} {k : Nat} (h : k + 1 < A.length) : rawQ A B part (k + 1) = rawQ A B part k ++ [mixQ (ptQ (A.getD k p0)) (ptQ (B.getD k p0)) part] ++ [mixQ (ptQ (A.getD (k + 1) p0)) (ptQ (B.getD k p0)) part] := by
  rw [rawQ, if_pos h, List.append_assoc]; rfl
theorem rawQ_1 {A B : List P3} {part : Rat} {k : Nat} (h : ¬ k + 1 < A.length) : rawQ A B part (k + 1) = rawQ A B part k ++ [mixQ (ptQ (A.getD k p0)) (ptQ (B.getD k p0)) part] := by
  rw [rawQ, if_neg h]
theorem rk_pt {p : P3} (h : PtOk p) : R3k 1 (ptQ p) := by
 unfold PtOk at h
 have z : ∀ x : Int, x.natAbs ≤ 10000 → Rk 1 (x : Rat) := fun x hx => ⟨by rw [Rat.num_intCast]; exact digs_len 1 _ (Nat.lt_of_le_of_lt hx (by decide)), by rw [Rat.den_intCast]; exact digs_len 1 _ (by decide)⟩
 exact ⟨z _ (by omega), z _ (by omega), z _ (by omega)⟩
theorem rawQ_rk {t : List MRow} {f : Int × Int} (hT : TblOk t) (hO : OpOk t f) (k : Nat) : ∀ q ∈ rawQ (crvA t f) (crvB t f) (Rat.divInt (crvP t f) (crvD t f)) k, R3k 1 q := fun q hq => by
 have hd := crv_den hT hO
 rw [← raw_map _ _ _ (show crvD t f ≠ 0 by omega)] at hq
 obtain ⟨n, hn, e⟩ := List.mem_map.1 hq
 have hb := rawN_ok (fun k => (crv_pts hT hO k).1) (fun k => (crv_pts hT hO k).2) (crv_part hT hO) hd _ n hn
 rw [← e]
 exact hb.rk (Nat.lt_of_le_of_lt (show _ ≤ 2000000 by omega) (by decide))
end Go.Tr

/- Contracts of chapter 5: spots compared and sorted; spots on a line. Conditions: none. -/
-- seat YtgbdlkajmmjahaaGreat
namespace Go.Tr
open Go Go.Proofs
set_option maxRecDepth 20000
set_option maxHeartbeats 8000000

theorem S157 (x : Int) : SP 157 [i64 x] (vb false) false := by
 refine sound (d := 2) tok2 mixed2 Tryz.func157 (by kernel_rfl) (by kernel_rfl) ?_
 (conv => whnf); refine ⟨?_, nofun⟩
 exact endb (by simp)
theorem S105 (a b : Int) : SP 105 [i64 a, i64 b] (i64 (sgI (a - b))) false := by
 have h1 := S157 a
 have h2 := S157 b
 refine sound (d := 2) tok2 mixed2 Tryz.func105 (by kernel_rfl) (by kernel_rfl) ?_
 (conv => whnf); refine .inl ⟨_, _, byX rfl (Sound1.pl (h1) rfl), ?_⟩
 (conv => whnf); refine .inl ⟨_, _, byX rfl (Sound1.pl (h2) rfl), ?_⟩
 (conv => whnf); refine ifB_dec (fun w1 => ?_) (fun w1 => ?_)
 ·(conv => whnf); refine ⟨?_, nofun⟩
  exact endi (sg_neg (by omega)).symm
 ·(conv => whnf); refine ifB_dec (fun w2 => ?_) (fun w2 => ?_)
  ·(conv => whnf); refine ⟨?_, nofun⟩
   exact endi (sg_pos (by omega)).symm
  ·(conv => whnf); refine ⟨?_, nofun⟩
   exact endi (by rw [show a - b = 0 by omega]; rfl)
theorem S94 (p q : Rat) (hp : smR p) (hq : smR q) : SP 94 [gaF (frI p), gaF (frI q)] (i64 (cmpR p q)) false := by
 have h := S105 (p.num * (q.den : Nat)) (q.num * (p.den : Nat))
 unfold smR at hp hq
 have e0 : cmpR p q = sgI ((frI p).1 * (frI q).2 - (frI q).1 * (frI p).2) := rfl
 have m1 := absM (a := p.num) (b := (q.den : Nat)) (A := 1000000000) (B := 1000000000) (by omega) (by omega)
 have m2 := absM (a := q.num) (b := (p.den : Nat)) (A := 1000000000) (B := 1000000000) (by omega) (by omega)
 have i1 : inK .i64 ((frI p).1 * (frI q).2) := inK_of (by show _ ≤ p.num * (q.den : Nat) ∧ p.num * (q.den : Nat) ≤ _; omega)
 have i2 : inK .i64 ((frI q).1 * (frI p).2) := inK_of (by show _ ≤ q.num * (p.den : Nat) ∧ q.num * (p.den : Nat) ≤ _; omega)
 rw [e0]
 refine sound (d := 2) tok2 mixed2 Tryz.func94 (by kernel_rfl) (by kernel_rfl) ?_
 (conv => whnf); refine ⟨by assumption, ?_⟩
 (conv => whnf); refine ⟨by assumption, ?_⟩
 (conv => whnf); refine .inl ⟨_, _, byX rfl (Sound1.pl (h) rfl), ?_⟩
 (conv => whnf); refine ⟨?_, nofun⟩
 (first | contradiction | rfl)
theorem S115 (l : List Int) (hl : l.length ≤ 1000000000) : SP 115 [ints l] (i64 (firstOf l)) false := by
 refine sound (d := 2) tok2 mixed2 Tryz.func115 (by kernel_rfl) (by kernel_rfl) ?_
 (conv => whnf); refine ⟨[], [3, 6, 7, 8], fun st mq => ∃ (k : Nat), (k ≤ l.length) ∧ (firstOf (l.drop k) = firstOf l) ∧ st = ⟨[(3, i64 0), (6, ints l), (7, i64 l.length), (8, i64 k)], ⟨[], [], none, 0⟩, []⟩ ∧ mq = l.length - k,
  ⟨_, _, ⟨0, by omega, rfl, rfl, rfl⟩, ⟨⟨.inl rfl, rfl, rfl, rfl⟩, trivial, trivial⟩⟩, ?_⟩
 rintro s0 m0 ⟨k, hk, hf, rfl, hmeas⟩
 by_cases hlt : k < l.length
 ·have hd := firstOf_drop l k hlt
  conv => whnf
  (conv => whnf); refine ifB_dec (fun w1 => ?_) (fun w1 => ?_)
  ·conv => whnf
   (conv => whnf); refine ⟨⟨(by omega), (by omega)⟩, ?_⟩
   conv => whnf
   (conv => whnf); refine ifB_bne (fun w2 => ?_) (fun w2 => ?_)
   ·conv => whnf
    (conv => whnf); refine ⟨?_, nofun⟩
    rw [if_neg (show ¬ l.getD k 0 = 0 from w2)] at hd
    show i64 _ = i64 _
    rw [← hf, hd]; rfl
   ·conv => whnf
    (conv => whnf); refine ⟨inK64 (by omega) (by omega), ?_⟩
    rw [if_pos (show l.getD k 0 = 0 from w2)] at hd
    conv => whnf
    (conv => whnf); refine ⟨_, _, ⟨⟨k + 1, by omega, hd.symm.trans hf, rfl, rfl⟩, by omega⟩, ⟨⟨.inl rfl, rfl, rfl, rfl⟩, trivial, trivial⟩⟩
  ·(exfalso; omega)
 ·have e : k = l.length := by omega
  subst e
  conv => whnf
  (conv => whnf); refine ifB_dec (fun w1 => ?_) (fun w1 => ?_)
  ·(exfalso; omega)
  ·conv => whnf
   (conv => whnf); refine ⟨?_, nofun⟩
   simp [firstOf] at hf
   show i64 _ = i64 _
   rw [← hf]
theorem S115_3 (a b c : Int) {f : Nat → List AV} (h : f 0 = [i64 a] ∧ f 1 = [i64 b] ∧ f 2 = [i64 c]) : SP 115 [.rslice 1 3 f] (i64 (firstOf [a, b, c])) false := by
 have key : ∀ i, i < 3 → f i = [i64 (([a, b, c] : List Int).getD i 0)] := fun i hi => by
  match i, hi with
  | 0, _ => exact h.1
  | 1, _ => exact h.2.1
  | 2, _ => exact h.2.2
 refine (S115 [a, b, c] (by simp)).argsD rfl fun i y x hy hx => ?_
 match i, hy, hx with
 | 0, hy, hx => cases hy; cases hx; exact .inr ⟨1, AVF_rows rfl key 0⟩
theorem S142 (p q : Q3) (hp : sm3 p) (hq : sm3 q) : SP 142 [spA (fr3 p), spA (fr3 q)] (i64 (cmp3 p q)) false := by
 have h1 := S94 p.1 q.1 hp.1 hq.1
 have h2 := S94 p.2.1 q.2.1 hp.2.1 hq.2.1
 have h3 := S94 p.2.2 q.2.2 hp.2.2 hq.2.2
 have h4 := @S115_3 (cmpR p.1 q.1) (cmpR p.2.1 q.2.1) (cmpR p.2.2 q.2.2)
 have e : firstOf [cmpR p.1 q.1, cmpR p.2.1 q.2.1, cmpR p.2.2 q.2.2] = cmp3 p q := by rw [first3]; rfl
 rw [e] at h4
 refine sound (d := 2) tok2 mixed2 Tryz.func142 (by kernel_rfl) (by kernel_rfl) ?_
 (conv => whnf); refine ⟨[], by kernel_rfl, ?_⟩
 (conv => whnf); refine .inl ⟨_, _, byX rfl (Sound1.pl (h1) rfl), ?_⟩
 (conv => whnf); refine .inl ⟨_, _, byX rfl (Sound1.pl (h2) rfl), ?_⟩
 (conv => whnf); refine .inl ⟨_, _, byX rfl (Sound1.pl (h3) rfl), ?_⟩
 (conv => whnf); refine .inl ⟨_, _, byX rfl (Sound1.pl (h4 ⟨rfl, rfl, rfl⟩) rfl), ?_⟩
 (conv => whnf); refine ⟨?_, nofun⟩
 (first | contradiction | rfl)
theorem S153 (n : Nat) (h : n ≤ 12) : ∃ r, SP 153 [.val (.int .u64 n)] (i64 r) false := by
 have : n = 0 ∨ n = 1 ∨ n = 2 ∨ n = 3 ∨ n = 4 ∨ n = 5 ∨ n = 6 ∨ n = 7 ∨ n = 8 ∨ n = 9 ∨ n = 10 ∨ n = 11 ∨ n = 12 := by omega
 rcases this with rfl | rfl | rfl | rfl | rfl | rfl | rfl | rfl | rfl | rfl | rfl | rfl | rfl
 ·exact ⟨_, run_ok mixed2 (l := []) (by simp) 1000 60 (y := i64 0) (by kernel_rfl)⟩
 ·exact ⟨_, run_ok mixed2 (l := []) (by simp) 1000 60 (y := i64 1) (by kernel_rfl)⟩
 ·exact ⟨_, run_ok mixed2 (l := []) (by simp) 1000 60 (y := i64 2) (by kernel_rfl)⟩
 ·exact ⟨_, run_ok mixed2 (l := []) (by simp) 1000 60 (y := i64 2) (by kernel_rfl)⟩
 ·exact ⟨_, run_ok mixed2 (l := []) (by simp) 1000 60 (y := i64 3) (by kernel_rfl)⟩
 ·exact ⟨_, run_ok mixed2 (l := []) (by simp) 1000 60 (y := i64 3) (by kernel_rfl)⟩
 ·exact ⟨_, run_ok mixed2 (l := []) (by simp) 1000 60 (y := i64 3) (by kernel_rfl)⟩
 ·exact ⟨_, run_ok mixed2 (l := []) (by simp) 1000 60 (y := i64 3) (by kernel_rfl)⟩
 ·exact ⟨_, run_ok mixed2 (l := []) (by simp) 1000 60 (y := i64 4) (by kernel_rfl)⟩
 ·exact ⟨_, run_ok mixed2 (l := []) (by simp) 1000 60 (y := i64 4) (by kernel_rfl)⟩
 ·exact ⟨_, run_ok mixed2 (l := []) (by simp) 1000 60 (y := i64 4) (by kernel_rfl)⟩
 ·exact ⟨_, run_ok mixed2 (l := []) (by simp) 1000 60 (y := i64 4) (by kernel_rfl)⟩
 ·exact ⟨_, run_ok mixed2 (l := []) (by simp) 1000 60 (y := i64 4) (by kernel_rfl)⟩
theorem u64_in {n : Nat} (h : n ≤ 12) : inK .u64 (n : Int) := ⟨by
 have : IntKind.min .u64 = 0 := by decide
 omega, by
 have : IntKind.max .u64 = 18446744073709551615 := by decide
 omega⟩
abbrev le3 (a b : Q3) : Prop := ¬ lt3 b a
theorem le3_tr (a b c : Q3) (h1 : le3 a b) (h2 : le3 b c) : le3 a c := fun h => by
 rcases lt3_tri b c with g | g | g
 ·exact h1 (lt3_tr _ _ _ g h)
 ·subst g; exact h1 h
 ·exact h2 g
theorem le3_of {a b : Q3} (h : cmp3 a b < 0) : le3 a b := fun g => lt3_irr _ (lt3_tr _ _ _ g ((cmp3_neg _ _).1 h))
theorem ge3_of {a b : Q3} (h : ¬ cmp3 a b < 0) : le3 b a := fun g => h ((cmp3_neg _ _).2 g)
theorem sm3_0 : sm3 q0 := by unfold sm3 smR q0; decide
theorem sp_veq (a b : Q3) : vEqL [.int .i64 (fr3 a).1.1, .int .i64 (fr3 a).1.2, .int .i64 (fr3 a).2.1.1, .int .i64 (fr3 a).2.1.2, .int .i64 (fr3 a).2.2.1, .int .i64 (fr3 a).2.2.2]
  [.int .i64 (fr3 b).1.1, .int .i64 (fr3 b).1.2, .int .i64 (fr3 b).2.1.1, .int .i64 (fr3 b).2.1.2, .int .i64 (fr3 b).2.2.1, .int .i64 (fr3 b).2.2.2] = decide (a = b) := by
 rw [Bool.eq_iff_iff, decide_eq_true_iff]
 constructor
 ·intro h
  refine fr3_inj ?_
  simp only [vEqL, Bool.and_eq_true, beq_iff_eq, and_true, true_and] at h
  exact Prod.ext (Prod.ext h.1 h.2.1) (Prod.ext (Prod.ext h.2.2.1 h.2.2.2.1) (Prod.ext h.2.2.2.2.1 h.2.2.2.2.2))
 ·intro h
  subst h
  exact vEq6 _ _ _ _ _ _
def slL (L : List Q3) (l : Ln) : List Q3 := smL (spL L l)
def slE (L : List Q3) (l : Ln) : Int := smE (spL L l)
set_option maxHeartbeats 16000000 in
theorem S79 (L : List Nm) (l : Ln) (hL : CvOk L) (hl : LnOk l) : SP 79 [nms L, lnA l] (.tuple [sps (slL (L.map nmQ) l), i64 (slE (L.map nmQ) l)]) false := by
 have h90 := S90 L l hL hl
 have h89 := S89 (onL L l) (Nat.le_trans (onL_len hL l) (by decide)) (onL_ok hL hl)
 rw [onL_map hL] at h89
 have hlen : (onS (L.map nmQ) l).length ≤ 12 := by rw [← onL_map hL, List.length_map]; exact onL_len hL l
 have hfin : ∀ s : List Q3, s.Perm (smL (onS (L.map nmQ) l)) → s.Pairwise le3 → compL s = slL (L.map nmQ) l := fun s hp hs => by
  unfold slL
  unfold smL at hp ⊢
  rw [spL_all]
  by_cases g : allS (onS (L.map nmQ) l) = true
  ·rw [if_pos g] at hp ⊢
   exact spL_sort hp hs
  ·rw [if_neg g] at hp ⊢
   rw [List.perm_nil.1 hp]; rfl
 have hE : slE (L.map nmQ) l = smE (onS (L.map nmQ) l) := by unfold slE smE; rw [spL_all]
 have hsm : ∀ x ∈ smL (onS (L.map nmQ) l), sm3 x := fun x hx => by
  unfold smL at hx
  by_cases g : allS (onS (L.map nmQ) l) = true
  ·rw [if_pos g] at hx
   exact of_decide_eq_true (List.all_eq_true.1 g x hx)
  ·rw [if_neg g] at hx; cases hx
 have hO : (smL (onS (L.map nmQ) l)).length ≤ 12 := by
  unfold smL
  split
  ·exact hlen
  ·exact Nat.zero_le _
 rw [hE]
 generalize smL (onS (L.map nmQ) l) = O at *
 generalize smE (onS (L.map nmQ) l) = E at *
 generalize slL (L.map nmQ) l = G at *
 have hcmp : ∀ b : List Q3, b.Perm O → ∀ i j, SP 142 [spA (fr3 (b.getD i q0)), spA (fr3 (b.getD j q0))] (i64 (cmp3 (b.getD i q0) (b.getD j q0))) false := fun b hb i j => by
  have h1 : ∀ i, sm3 (b.getD i q0) := fun i => by
   by_cases hi : i < b.length
   ·exact hsm _ (hb.subset (getD_memG hi))
   ·rw [List.getD_eq_getElem?_getD, List.getElem?_eq_none (by omega)]; exact sm3_0
  exact S142 _ _ (h1 i) (h1 j)
 obtain ⟨n, hON⟩ : ∃ n, O.length = n := ⟨_, rfl⟩
 rw [hON] at hO
 unfold sps at h89
 rw [hON] at h89
 have hu := u64_in hO
 obtain ⟨rl, h153⟩ := S153 n hO
 refine sound (d := 5) tok2 mixed2 Tryz.func79 (by kernel_rfl) (by kernel_rfl) ?_
 (conv => whnf); refine .inl ⟨_, _, byX rfl (h90), ?_⟩
 (conv => whnf); refine .inl ⟨_, _, byX rfl (h89), ?_⟩
 (conv => whnf); refine .inr (.inl ⟨[], ?_⟩)
 (conv => whnf); refine ⟨by assumption, ?_⟩
 (conv => whnf); refine .inl ⟨_, _, byX rfl (Sound1.pl (h153) rfl), ?_⟩
 (conv => whnf); refine .inr (.inl ⟨[], ?_⟩)
 (conv => whnf); refine ⟨[.forget [0, 1, 2, 3, 4, 5, 6, 7, 8, 9, 10, 11, 12, 13, 14, 15, 16, 17, 18, 19, 22, 23, 24, 25, 26, 27, 28, 29, 30, 31, 32, 33, 34, 35, 36, 37, 38, 39, 40, 41, 42, 43, 44, 45, 46, 47, 48, 49, 50, 51, 52, 53, 54, 55, 56, 57, 58, 59, 60, 61, 62, 63]], [0, 1, 2, 3, 4], fun st mq => ∃ (F0 : Nat → List AV), st = ⟨[(0, .oslice 1 0 0 n none), (1, i64 0), (2, i64 n), (3, i64 rl), (4, .func (.func 142) 0 [])], ⟨[⟨4, 1, F0, 0, false, true, false⟩, ⟨6, n, fun i => spC (fr3 (O.getD i q0)), 0, false, true, false⟩], [], none, 0⟩, [(21, i64 E), (20, .oslice 1 0 0 n none)]⟩ ∧ mq = 0,
  ⟨_, _, ⟨_, rfl, rfl⟩, ⟨⟨.inl rfl, rfl, rfl, rfl⟩, ⟨⟨rfl, rfl, rfl, rfl, fun _ => rfl, fun _ _ => .inl rfl⟩, ⟨⟨rfl, rfl, rfl, rfl, fun _ => rfl, fun _ _ => .inl rfl⟩, trivial⟩⟩, trivial⟩⟩, ?_⟩
 rintro s0 m0 ⟨F0, rfl, hmeas⟩
 conv => whnf
 (conv => whnf); refine ⟨inK64 (by omega) (by omega), ?_⟩
 conv => whnf
 (conv => whnf); refine ifB_dec (fun w1 => ?_) (fun w1 => ?_)
 ·conv => whnf
  (conv => whnf); refine .inr (.inl ⟨[], ?_⟩)
  conv => whnf
  (conv => whnf); refine ⟨inK64 (by omega) (by omega), ?_⟩
  conv => whnf
  (conv => whnf); refine ⟨[.forget [0, 1, 2, 3, 4, 5, 6, 7, 8, 9, 10, 11, 12, 13, 14, 15, 16, 17, 18, 19, 20, 21, 22, 23, 24, 25, 26, 27, 28, 29, 30, 31, 32, 33, 34, 35, 36, 37, 38, 39, 40, 41, 42, 43, 44, 45, 46, 47, 48, 49, 50, 51, 52, 53, 54, 55, 56, 57, 58, 59, 60, 61, 62, 63]], [0, 1, 2, 3, 8], fun st mq => ∃ (i : Nat) (a : List Q3) (F0 : Nat → List AV), (1 ≤ i) ∧ (i ≤ n ∨ i = 1) ∧ (a.length = n) ∧ (a.Perm O) ∧ (SortG le3 q0 a i) ∧ st = ⟨[(0, .oslice 1 0 0 n none), (1, i64 0), (2, i64 n), (3, .func (.func 142) 0 []), (8, i64 i)], ⟨[⟨4, 1, F0, 0, false, true, false⟩, ⟨6, n, fun i => spC (fr3 (a.getD i q0)), 0, false, true, false⟩], [], none, 0⟩, [(169, i64 E), (168, .oslice 1 0 0 n none)]⟩ ∧ mq = n - i,
   ⟨_, _, ⟨1, O, _, by omega, by omega, hON, List.Perm.refl _, fun p q h1 h2 => by omega, rfl, rfl⟩, ⟨⟨.inl rfl, rfl, rfl, rfl⟩, ⟨⟨rfl, rfl, rfl, rfl, fun _ => rfl, fun _ _ => .inl rfl⟩, ⟨⟨rfl, rfl, rfl, rfl, fun _ => rfl, fun _ _ => .inl rfl⟩, trivial⟩⟩, trivial⟩⟩, ?_⟩
  rintro s0 m0 ⟨i, a, F0, hi1, hi2, hal, hp, hs, rfl, hmeas⟩
  by_cases hil : i < n
  ·conv => whnf
   conv => whnf
   (conv => whnf); refine ifB_dec (fun w2 => ?_) (fun w2 => ?_)
   ·conv => whnf
    conv => whnf
    (conv => whnf); refine ⟨[], [0, 1, 2, 3, 8, 9], fun st mq => ∃ (j : Nat) (z : Int) (b : List Q3) (F0 : Nat → List AV), (z = (j : Int)) ∧ (j ≤ i) ∧ (b.length = n) ∧ (b.Perm O) ∧ (SinkG le3 q0 b j (i + 1)) ∧ st = ⟨[(0, .oslice 1 0 0 n none), (1, i64 0), (2, i64 n), (3, .func (.func 142) 0 []), (8, i64 i), (9, i64 z)], ⟨[⟨4, 1, F0, 0, false, true, false⟩, ⟨6, n, fun i => spC (fr3 (b.getD i q0)), 0, false, true, false⟩], [], none, 0⟩, [(169, i64 E), (168, .oslice 1 0 0 n none)]⟩ ∧ mq = j,
     ⟨_, _, ⟨i, (i : Int), a, _, rfl, by omega, hal, hp, sinkG_start hs, rfl, rfl⟩, ⟨⟨.inl rfl, rfl, rfl, rfl⟩, ⟨⟨rfl, rfl, rfl, rfl, fun _ => rfl, fun _ _ => .inl rfl⟩, ⟨⟨rfl, rfl, rfl, rfl, fun _ => rfl, fun _ _ => .inl rfl⟩, trivial⟩⟩, trivial⟩⟩, ?_⟩
    rintro s0 m0 ⟨j, z, b, F0, hz, hj, hbl, hpb, hsb, rfl, hmeas⟩
    subst hz
    have hcm := hcmp b hpb
    by_cases hj0 : j = 0
    ·subst hj0
     conv => whnf
     conv => whnf
     conv => whnf
     (conv => whnf); refine ⟨[], by kernel_rfl, ?_⟩
     conv => whnf
     conv => whnf
     conv => whnf
     (conv => whnf); refine ⟨inK64 (by omega) (by omega), ?_⟩
     conv => whnf
     conv => whnf
     conv => whnf
     (conv => whnf); refine ⟨_, _, ⟨⟨i + 1, b, _, by omega, by omega, hbl, hpb, sinkG_end le3_tr hsb (.inl rfl), rfl, rfl⟩, by omega⟩, ⟨⟨.inl rfl, rfl, rfl, rfl⟩, ⟨⟨rfl, rfl, rfl, rfl, fun _ => rfl, fun _ _ => .inl rfl⟩, ⟨⟨rfl, rfl, rfl, rfl, fun _ => rfl, fun _ _ => .inl rfl⟩, trivial⟩⟩, trivial⟩⟩
    ·obtain ⟨j, rfl⟩ : ∃ k, j = k + 1 := ⟨j - 1, by omega⟩
     have e1 : (((j + 1 : Nat) : Int) - 1).toNat = j := by omega
     have hr1 := fun x : Nat => rowG (n := 6) (fun e => spC (fr3 e)) (fun _ => rfl) q0 b ((j + 1 : Nat) : Int).toNat x (b.getD (0 + (((j + 1 : Nat) : Int) - 1).toNat) q0) (by omega)
     have hr2 := fun x : Nat => rowG (n := 6) (fun e => spC (fr3 e)) (fun _ => rfl) q0 (b.set ((j + 1 : Nat) : Int).toNat (b.getD (0 + (((j + 1 : Nat) : Int) - 1).toNat) q0)) (((j + 1 : Nat) : Int) - 1).toNat x (b.getD (0 + ((j + 1 : Nat) : Int).toNat) q0) (by rw [List.length_set]; omega)
     have hsw : ∀ x, spC (fr3 ((swapG q0 b (j + 1)).getD x q0)) = spC (fr3 (((b.set ((j + 1 : Nat) : Int).toNat (b.getD (0 + (((j + 1 : Nat) : Int) - 1).toNat) q0)).set (((j + 1 : Nat) : Int) - 1).toNat (b.getD (0 + ((j + 1 : Nat) : Int).toNat) q0)).getD x q0)) := fun x => by
      rw [e1, Nat.zero_add, Nat.zero_add]; rfl
     conv => whnf
     conv => whnf
     conv => whnf
     (conv => whnf); refine ⟨[], by kernel_rfl, ?_⟩
     conv => whnf
     conv => whnf
     conv => whnf
     (conv => whnf); refine ifB_dec (fun w3 => ?_) (fun w3 => ?_)
     ·conv => whnf
      conv => whnf
      conv => whnf
      (conv => whnf); refine ⟨⟨(by omega), (by omega)⟩, ?_⟩
      conv => whnf
      conv => whnf
      conv => whnf
      (conv => whnf); refine ⟨inK64 (by omega) (by omega), ?_⟩
      conv => whnf
      conv => whnf
      conv => whnf
      (conv => whnf); refine ⟨⟨(by omega), (by omega)⟩, ?_⟩
      conv => whnf
      conv => whnf
      conv => whnf
      (conv => whnf); refine .inl ⟨_, _, byX rfl (Sound1.pl (hcm _ _) rfl), ?_⟩
      conv => whnf
      conv => whnf
      conv => whnf
      (conv => whnf); refine ifB_dec (fun w4 => ?_) (fun w4 => ?_)
      ·conv => whnf
       conv => whnf
       conv => whnf
       (conv => whnf); refine ⟨[], by kernel_rfl, ?_⟩
       conv => whnf
       conv => whnf
       conv => whnf
       (conv => whnf); refine ⟨inK64 (by omega) (by omega), ?_⟩
       conv => whnf
       conv => whnf
       conv => whnf
       (conv => whnf); refine ⟨inK64 (by omega) (by omega), ?_⟩
       conv => whnf
       conv => whnf
       conv => whnf
       (conv => whnf); refine ⟨⟨(by omega), (by omega)⟩, ?_⟩
       conv => whnf
       conv => whnf
       conv => whnf
       (conv => whnf); refine ⟨⟨(by omega), (by omega)⟩, ?_⟩
       conv => whnf
       conv => whnf
       conv => whnf
       (conv => whnf); refine ⟨⟨(by omega), (by omega)⟩, ?_⟩
       refine ⟨_, fun i _ => hr1 i, ?_⟩
       conv => whnf
       conv => whnf
       conv => whnf
       (conv => whnf); refine ⟨⟨(by omega), (by omega)⟩, ?_⟩
       refine ⟨_, fun i _ => hr2 i, ?_⟩
       conv => whnf
       conv => whnf
       conv => whnf
       (conv => whnf); refine ⟨inK64 (by omega) (by omega), ?_⟩
       have hlt : cmp3 (b.getD (j + 1) q0) (b.getD (j + 1 - 1) q0) < 0 := by
        have e : cmp3 (b.getD (0 + ((j + 1 : Nat) : Int).toNat) q0) (b.getD (0 + (((j + 1 : Nat) : Int) - 1).toNat) q0) < 0 := by assumption
        rw [e1, Nat.zero_add, Nat.zero_add] at e
        exact e
       conv => whnf
       conv => whnf
       conv => whnf
       (conv => whnf); refine ⟨_, _, ⟨⟨j, ((j + 1 : Nat) : Int) - 1, swapG q0 b (j + 1), _, by omega, by omega, (by rw [swapG_len]; exact hbl), (swapG_perm (by omega)).trans hpb, sinkG_swap (by omega) (by omega) hsb (le3_of hlt), rfl, rfl⟩, by omega⟩, ⟨⟨.inl rfl, rfl, rfl, rfl⟩, ⟨⟨rfl, rfl, rfl, rfl, fun _ => rfl, fun _ _ => .inl rfl⟩, ⟨⟨rfl, rfl, rfl, rfl, fun _ => rfl, fun x _ => .inl (hsw x)⟩, trivial⟩⟩, trivial⟩⟩
      ·conv => whnf
       conv => whnf
       conv => whnf
       (conv => whnf); refine ⟨inK64 (by omega) (by omega), ?_⟩
       have hge : ¬ cmp3 (b.getD (j + 1) q0) (b.getD (j + 1 - 1) q0) < 0 := by
        have e : ¬ cmp3 (b.getD (0 + ((j + 1 : Nat) : Int).toNat) q0) (b.getD (0 + (((j + 1 : Nat) : Int) - 1).toNat) q0) < 0 := by assumption
        rw [e1, Nat.zero_add, Nat.zero_add] at e
        exact e
       conv => whnf
       conv => whnf
       conv => whnf
       (conv => whnf); refine ⟨_, _, ⟨⟨i + 1, b, _, by omega, by omega, hbl, hpb, sinkG_end le3_tr hsb (.inr (ge3_of hge)), rfl, rfl⟩, by omega⟩, ⟨⟨.inl rfl, rfl, rfl, rfl⟩, ⟨⟨rfl, rfl, rfl, rfl, fun _ => rfl, fun _ _ => .inl rfl⟩, ⟨⟨rfl, rfl, rfl, rfl, fun _ => rfl, fun _ _ => .inl rfl⟩, trivial⟩⟩, trivial⟩⟩
     ·(exfalso; omega)
   ·(exfalso; omega)
  ·have hsa : SortG le3 q0 a a.length := fun p q h1 h2 => hs p q h1 (by omega)
   have hG := hfin a hp (sortG_pair hsa)
   rw [← hG]
   subst hal
   conv => whnf
   conv => whnf
   (conv => whnf); refine ifB_dec (fun w2 => ?_) (fun w2 => ?_)
   ·(exfalso; omega)
   ·conv => whnf
    conv => whnf
    (conv => whnf); refine .inr (.inl ⟨[], ?_⟩)
    conv => whnf
    conv => whnf
    (conv => whnf); refine ifB_dec (fun w3 => ?_) (fun w3 => ?_)
    ·conv => whnf
     conv => whnf
     (conv => whnf); refine ⟨?_, nofun⟩
     rw [compL_one (by omega)]
     exact ave_tup2 ⟨rfl, rfl, fun _ _ => rfl⟩ rfl
    ·conv => whnf
     conv => whnf
     (conv => whnf); refine ⟨[.forget [0, 1, 2, 3, 4, 5, 6, 8, 9, 10, 11, 12, 13, 14, 15, 16, 17, 18, 19, 20, 21, 22, 23, 24, 25, 26, 27, 28, 29, 30, 31, 32, 33, 34, 35, 36, 37, 38, 39, 40, 41, 42, 43, 44, 45, 46, 47, 48, 49, 50, 51, 52, 53, 54, 55, 56, 57, 58, 59, 60, 61, 62, 63]], [0, 3], fun st mq => ∃ (k : Nat) (F0 : Nat → List AV), (1 ≤ k) ∧ (k ≤ a.length) ∧ (compL (a.take k) = a.take k) ∧ st = ⟨[(0, .oslice 1 0 0 a.length none), (3, i64 k)], ⟨[⟨4, 1, F0, 0, false, true, false⟩, ⟨6, a.length, fun i => spC (fr3 (a.getD i q0)), 0, false, true, false⟩], [], none, 0⟩, [(7, i64 E)]⟩ ∧ mq = a.length - k,
      ⟨_, _, ⟨1, _, by omega, by omega, compL_one (by rw [List.length_take]; omega), rfl, rfl⟩, ⟨⟨.inl rfl, rfl, rfl, rfl⟩, ⟨⟨rfl, rfl, rfl, rfl, fun _ => rfl, fun _ _ => .inl rfl⟩, ⟨⟨rfl, rfl, rfl, rfl, fun _ => rfl, fun _ _ => .inl rfl⟩, trivial⟩⟩, trivial⟩⟩, ?_⟩
     rintro s0 m0 ⟨k, F0, hk1, hk2, hc, rfl, hmeas⟩
     have ek : ((k : Int) - 1).toNat = k - 1 := by omega
     by_cases hlt : k < a.length
     ·have hv := sp_veq (a.getD (0 + (k : Int).toNat) q0) (a.getD (0 + ((k : Int) - 1).toNat) q0)
      have hz : 0 ≤ (k : Int) ∧ (k : Int) ≤ (a.length : Int) ∧ ((0 : Nat) : Int) + (a.length : Int) ≤ (a.length : Int) := ⟨by omega, by omega, by omega⟩
      by_cases he : a.getD k q0 = a.getD (k - 1) q0
      ·rw [decide_eq_true (by rw [ek, Nat.zero_add, Nat.zero_add]; exact he)] at hv
       conv => whnf
       conv => whnf
       conv => whnf
       (conv => whnf); refine ifB_dec (fun w4 => ?_) (fun w4 => ?_)
       ·conv => whnf
        conv => whnf
        conv => whnf
        (conv => whnf); refine ⟨[], by kernel_rfl, ?_⟩
        conv => whnf
        conv => whnf
        conv => whnf
        (conv => whnf); refine ⟨⟨(by omega), (by omega)⟩, ?_⟩
        conv => whnf
        conv => whnf
        conv => whnf
        (conv => whnf); refine ⟨inK64 (by omega) (by omega), ?_⟩
        conv => whnf
        conv => whnf
        conv => whnf
        (conv => whnf); refine ⟨⟨(by omega), (by omega)⟩, ?_⟩
        conv => whnf
        conv => whnf
        conv => whnf
        (conv => whnf); refine ifB_intro (fun w5 => ?_) (fun w5 => ?_)
        ·conv => whnf
         conv => whnf
         conv => whnf
         (conv => whnf); refine ⟨by assumption, ?_⟩
         conv => whnf
         conv => whnf
         conv => whnf
         (conv => whnf); refine ⟨[], [0, 3, 4, 5], fun st mq => ∃ (k1 : Nat) (q : Nat) (a1 : List Q3) (F0 : Nat → List AV), (1 ≤ q) ∧ (CmpI q0 a a1 k1 (k + q)) ∧ st = ⟨[(0, .oslice 1 0 0 a.length none), (3, i64 k1), (4, .oslice 1 0 (0 + (k : Int).toNat) ((a.length : Int) - (k : Int)).toNat none), (5, i64 q)], ⟨[⟨4, 1, F0, 0, false, true, false⟩, ⟨6, a.length, fun i => spC (fr3 (a1.getD i q0)), 0, false, true, false⟩], [], none, 0⟩, [(7, i64 E)]⟩ ∧ mq = a.length - k - q,
          ⟨_, _, ⟨k, 1, a, _, by omega, cmpI_start hk1 hlt hc he, rfl, rfl⟩, ⟨⟨.inl rfl, rfl, rfl, rfl⟩, ⟨⟨rfl, rfl, rfl, rfl, fun _ => rfl, fun _ _ => .inl rfl⟩, ⟨⟨rfl, rfl, rfl, rfl, fun _ => rfl, fun _ _ => .inl rfl⟩, trivial⟩⟩, trivial⟩⟩, ?_⟩
         rintro s0 m0 ⟨k1, q, a1, F0, hq, hI, rfl, hmeas⟩
         have hkp := hI.kp
         have hal1 := hI.len
         by_cases hlt2 : k + q < a.length
         ·have hv2 := sp_veq (a1.getD (0 + (k : Int).toNat + (q : Int).toNat) q0) (a1.getD (0 + (k : Int).toNat + ((q : Int) - 1).toNat) q0)
          have ep : 0 + (k : Int).toNat + ((q : Int) - 1).toNat = k + q - 1 := by omega
          have eq0 : 0 + (k : Int).toNat + (q : Int).toNat = k + q := by omega
          by_cases he2 : a1.getD (k + q) q0 = a1.getD (k + q - 1) q0
          ·rw [decide_eq_true (by rw [ep, eq0]; exact he2)] at hv2
           conv => whnf
           conv => whnf
           conv => whnf
           conv => whnf
           (conv => whnf); refine ifB_dec (fun w6 => ?_) (fun w6 => ?_)
           ·conv => whnf
            conv => whnf
            conv => whnf
            conv => whnf
            (conv => whnf); refine ⟨[], by kernel_rfl, ?_⟩
            conv => whnf
            conv => whnf
            conv => whnf
            conv => whnf
            (conv => whnf); refine ⟨⟨(by omega), (by omega)⟩, ?_⟩
            conv => whnf
            conv => whnf
            conv => whnf
            conv => whnf
            (conv => whnf); refine ⟨inK64 (by omega) (by omega), ?_⟩
            conv => whnf
            conv => whnf
            conv => whnf
            conv => whnf
            (conv => whnf); refine ⟨⟨(by omega), (by omega)⟩, ?_⟩
            conv => whnf
            conv => whnf
            conv => whnf
            conv => whnf
            (conv => whnf); refine ifB_not ?_
            conv => whnf
            conv => whnf
            conv => whnf
            conv => whnf
            (conv => whnf); refine ifB_intro (fun w7 => ?_) (fun w7 => ?_)
            ·conv => whnf
             conv => whnf
             conv => whnf
             conv => whnf
             (conv => whnf); refine ⟨inK64 (by omega) (by omega), ?_⟩
             conv => whnf
             conv => whnf
             conv => whnf
             conv => whnf
             (conv => whnf); refine ⟨_, _, ⟨⟨k1, q + 1, a1, _, by omega, hI.same hlt2 he2, rfl, rfl⟩, by omega⟩, ⟨⟨.inl rfl, rfl, rfl, rfl⟩, ⟨⟨rfl, rfl, rfl, rfl, fun _ => rfl, fun _ _ => .inl rfl⟩, ⟨⟨rfl, rfl, rfl, rfl, fun _ => rfl, fun _ _ => .inl rfl⟩, trivial⟩⟩, trivial⟩⟩
            ·exact absurd (hv2.symm.trans w7) nofun
           ·(exfalso; omega)
          ·rw [decide_eq_false (by rw [ep, eq0]; exact he2)] at hv2
           have hrow := fun i : Nat => rowG (n := 6) (fun e => spC (fr3 e)) (fun _ => rfl) q0 a1 (k1 : Int).toNat i (a1.getD (0 + (k : Int).toNat + (q : Int).toNat) q0) (by omega)
           conv => whnf
           conv => whnf
           conv => whnf
           conv => whnf
           (conv => whnf); refine ifB_dec (fun w6 => ?_) (fun w6 => ?_)
           ·conv => whnf
            conv => whnf
            conv => whnf
            conv => whnf
            (conv => whnf); refine ⟨[], by kernel_rfl, ?_⟩
            conv => whnf
            conv => whnf
            conv => whnf
            conv => whnf
            (conv => whnf); refine ⟨⟨(by omega), (by omega)⟩, ?_⟩
            conv => whnf
            conv => whnf
            conv => whnf
            conv => whnf
            (conv => whnf); refine ⟨inK64 (by omega) (by omega), ?_⟩
            conv => whnf
            conv => whnf
            conv => whnf
            conv => whnf
            (conv => whnf); refine ⟨⟨(by omega), (by omega)⟩, ?_⟩
            conv => whnf
            conv => whnf
            conv => whnf
            conv => whnf
            (conv => whnf); refine ifB_not ?_
            conv => whnf
            conv => whnf
            conv => whnf
            conv => whnf
            (conv => whnf); refine ifB_intro (fun w7 => ?_) (fun w7 => ?_)
            ·exact absurd (hv2.symm.trans w7) nofun
            ·conv => whnf
             conv => whnf
             conv => whnf
             conv => whnf
             (conv => whnf); refine ⟨⟨(by omega), (by omega)⟩, ?_⟩
             conv => whnf
             conv => whnf
             conv => whnf
             conv => whnf
             (conv => whnf); refine ⟨⟨(by omega), (by omega)⟩, ?_⟩
             refine ⟨_, fun i _ => hrow i, ?_⟩
             conv => whnf
             conv => whnf
             conv => whnf
             conv => whnf
             (conv => whnf); refine ⟨inK64 (by omega) (by omega), ?_⟩
             conv => whnf
             conv => whnf
             conv => whnf
             conv => whnf
             (conv => whnf); refine ⟨inK64 (by omega) (by omega), ?_⟩
             conv => whnf
             conv => whnf
             conv => whnf
             conv => whnf
             (conv => whnf); refine ⟨_, _, ⟨⟨k1 + 1, q + 1, a1.set k1 (a1.getD (0 + (k : Int).toNat + (q : Int).toNat) q0), _, by omega, (by rw [eq0]; exact hI.put hlt2 he2), rfl, rfl⟩, by omega⟩, ⟨⟨.inl rfl, rfl, rfl, rfl⟩, ⟨⟨rfl, rfl, rfl, rfl, fun _ => rfl, fun _ _ => .inl rfl⟩, ⟨⟨rfl, rfl, rfl, rfl, fun _ => rfl, fun _ _ => .inl rfl⟩, trivial⟩⟩, trivial⟩⟩
           ·(exfalso; omega)
         ·have hf := hI.fin hlt2
          have hz2 : 0 ≤ (k1 : Int) ∧ (k1 : Int) ≤ (a.length : Int) ∧ ((0 : Nat) : Int) + (a.length : Int) ≤ (a.length : Int) := ⟨by omega, by omega, by omega⟩
          have hz3 : 0 ≤ (0 : Int) ∧ (0 : Int) ≤ (k1 : Int) ∧ ((0 : Nat) : Int) + (k1 : Int) ≤ (a.length : Int) := ⟨by omega, by omega, by omega⟩
          conv => whnf
          conv => whnf
          conv => whnf
          conv => whnf
          (conv => whnf); refine ifB_dec (fun w6 => ?_) (fun w6 => ?_)
          ·(exfalso; omega)
          ·conv => whnf
           conv => whnf
           conv => whnf
           conv => whnf
           (conv => whnf); refine ⟨by assumption, ?_⟩
           conv => whnf
           conv => whnf
           conv => whnf
           conv => whnf
           (conv => whnf); refine ⟨by assumption, ?_⟩
           conv => whnf
           conv => whnf
           conv => whnf
           conv => whnf
           (conv => whnf); refine ⟨?_, nofun⟩
           exact (ave_tup2 ⟨rfl, (by have := hf.1; omega), fun i hi => (if_neg (by omega)).trans (congrArg (fun e => spC (fr3 e)) (hf.2 i (by omega)))⟩ rfl)
        ·exact absurd (hv.symm.trans w5) nofun
       ·(exfalso; omega)
      ·rw [decide_eq_false (by rw [ek, Nat.zero_add, Nat.zero_add]; exact he)] at hv
       conv => whnf
       conv => whnf
       conv => whnf
       (conv => whnf); refine ifB_dec (fun w4 => ?_) (fun w4 => ?_)
       ·conv => whnf
        conv => whnf
        conv => whnf
        (conv => whnf); refine ⟨[], by kernel_rfl, ?_⟩
        conv => whnf
        conv => whnf
        conv => whnf
        (conv => whnf); refine ⟨⟨(by omega), (by omega)⟩, ?_⟩
        conv => whnf
        conv => whnf
        conv => whnf
        (conv => whnf); refine ⟨inK64 (by omega) (by omega), ?_⟩
        conv => whnf
        conv => whnf
        conv => whnf
        (conv => whnf); refine ⟨⟨(by omega), (by omega)⟩, ?_⟩
        conv => whnf
        conv => whnf
        conv => whnf
        (conv => whnf); refine ifB_intro (fun w5 => ?_) (fun w5 => ?_)
        ·exact absurd (hv.symm.trans w5) nofun
        ·conv => whnf
         conv => whnf
         conv => whnf
         (conv => whnf); refine ⟨inK64 (by omega) (by omega), ?_⟩
         conv => whnf
         conv => whnf
         conv => whnf
         (conv => whnf); refine ⟨_, _, ⟨⟨k + 1, _, by omega, by omega, comp_go hk1 hlt hc he, rfl, rfl⟩, by omega⟩, ⟨⟨.inl rfl, rfl, rfl, rfl⟩, ⟨⟨rfl, rfl, rfl, rfl, fun _ => rfl, fun _ _ => .inl rfl⟩, ⟨⟨rfl, rfl, rfl, rfl, fun _ => rfl, fun _ _ => .inl rfl⟩, trivial⟩⟩, trivial⟩⟩
       ·(exfalso; omega)
     ·obtain rfl : k = a.length := by omega
      rw [List.take_length] at hc
      rw [hc]
      conv => whnf
      conv => whnf
      conv => whnf
      (conv => whnf); refine ifB_dec (fun w4 => ?_) (fun w4 => ?_)
      ·(exfalso; omega)
      ·conv => whnf
       conv => whnf
       conv => whnf
       (conv => whnf); refine ⟨?_, nofun⟩
       exact (ave_tup2 ⟨rfl, rfl, fun _ _ => rfl⟩ rfl)
 ·(exfalso; omega)
end Go.Tr

/- Contracts of chapter 5: lines; the reference's spots on a line. Conditions: none. -/
-- seat YtgbdlkajmmjahaaGreat
namespace Go.Tr
open Go Go.Proofs
set_option maxRecDepth 20000
set_option maxHeartbeats 8000000

theorem rk_mil {x : Int} (hx : x.natAbs ≤ 1000000) : Rk 1 (x : Rat) := ⟨by rw [Rat.num_intCast]; exact digs_len 1 _ (Nat.lt_of_le_of_lt hx (by decide)), by rw [Rat.den_intCast]; exact digs_len 1 _ (by decide)⟩
theorem S49 (q : Q3) (l : Ln) (hq : R3k 1 q) (hl : LnOk l) : SP 49 [bgA q, lnA l] (rA (sideQ l q)) false := by
 unfold LnOk at hl
 have a1 := S86 l.1 (by omega)
 have a2 := S86 l.2.1 (by omega)
 have a3 := S86 l.2.2.1 (by omega)
 have a4 := S86 l.2.2.2 (by omega)
 have r1 := rk_mil (x := l.1) (by omega)
 have r2 := rk_mil (x := l.2.1) (by omega)
 have r3 := rk_mil (x := l.2.2.1) (by omega)
 have r4 := rk_mil (x := l.2.2.2) (by omega)
 have m1 := S121 q.1 l.1 hq.1 r1 (by omega)
 have m2 := S121 q.2.1 l.2.1 hq.2.1 r2 (by omega)
 have m3 := S121 q.2.2 l.2.2.1 hq.2.2 r3 (by omega)
 have k1 := hq.1.mul r1
 have k2 := hq.2.1.mul r2
 have k3 := hq.2.2.mul r3
 have s1 := S122 _ _ k1 k2 (by omega)
 have s2 := S122 _ _ (k1.add k2) k3 (by omega)
 have s3 := S84 _ _ ((k1.add k2).add k3) r4 (by omega)
 unfold sideQ
 refine sound (d := 2) tok2 mixed2 Tryz.func49 (by kernel_rfl) (by kernel_rfl) ?_
 (conv => whnf); refine ⟨[], by kernel_rfl, ?_⟩
 (conv => whnf); refine .inl ⟨_, _, byX rfl (a1), ?_⟩
 (conv => whnf); refine .inl ⟨_, _, byX rfl (m1), ?_⟩
 (conv => whnf); refine ⟨[], by kernel_rfl, ?_⟩
 (conv => whnf); refine .inl ⟨_, _, byX rfl (a2), ?_⟩
 (conv => whnf); refine .inl ⟨_, _, byX rfl (m2), ?_⟩
 (conv => whnf); refine .inl ⟨_, _, byX rfl (s1), ?_⟩
 (conv => whnf); refine ⟨[], by kernel_rfl, ?_⟩
 (conv => whnf); refine .inl ⟨_, _, byX rfl (a3), ?_⟩
 (conv => whnf); refine .inl ⟨_, _, byX rfl (m3), ?_⟩
 (conv => whnf); refine .inl ⟨_, _, byX rfl (s2), ?_⟩
 (conv => whnf); refine ⟨[], by kernel_rfl, ?_⟩
 (conv => whnf); refine .inl ⟨_, _, byX rfl (a4), ?_⟩
 (conv => whnf); refine .inl ⟨_, _, byX rfl (s3), ?_⟩
 (conv => whnf); refine ⟨?_, nofun⟩
 (first | contradiction | exact ave_rA)
theorem putL_at {L : List Q3} {x : Q3} : ∀ {k : Nat}, (∀ j, j < k → lt3 (L.getD j q0) x) → k ≤ L.length → (k < L.length → ¬ lt3 (L.getD k q0) x) → putL lt3 L x = if k < L.length ∧ L.getD k q0 = x then L else L.take k ++ [x] ++ L.drop k := by
 induction L with
 | nil =>
  intro k h1 h2 h3
  have : k = 0 := by simpa using h2
  subst this
  rfl
 | cons y L ih =>
  intro k h1 h2 h3
  cases k with
  | zero =>
   have h : ¬ lt3 y x := h3 (by simp)
   unfold putL
   rw [if_neg h]
   by_cases e : y = x
   ·rw [if_pos e, if_pos ⟨by simp, e⟩]
   ·rw [if_neg e, if_neg (fun g => e g.2)]; rfl
  | succ k =>
   have h0 : lt3 y x := h1 0 (by omega)
   have ih := ih (k := k) (fun j hj => h1 (j + 1) (by omega)) (by simpa using h2) (fun hk => h3 (by simpa using hk))
   unfold putL
   rw [if_pos h0, ih]
   have e : (y :: L).getD (k + 1) q0 = L.getD k q0 := rfl
   rw [e, List.length_cons]
   by_cases g : k < L.length ∧ L.getD k q0 = x
   ·rw [if_pos g, if_pos ⟨by omega, g.2⟩]
   ·rw [if_neg g, if_neg (fun h => g ⟨by omega, h.2⟩)]; rfl
theorem put_get {α : Type} (g : α → List AV) {m : Nat} (hg : ∀ a, (g a).length = m) (d : α) (L : List α) (x : α) (k i : Nat) (hk : k ≤ L.length) :
  g ((L.take k ++ [x] ++ L.drop k).getD i d) = if i < k then g (L.getD i d) else if i = k then g x else g (L.getD (i - 1) d) := by
 have h1 : (L.take k).length = k := by rw [List.length_take]; omega
 by_cases h : i < k
 ·rw [if_pos h, List.getD_eq_getElem?_getD, List.append_assoc, List.getElem?_append_left (by omega), List.getElem?_take, if_pos h, List.getD_eq_getElem?_getD]
 ·rw [if_neg h]
  by_cases e : i = k
  ·rw [if_pos e, List.getD_eq_getElem?_getD, List.append_assoc, List.getElem?_append_right (by omega), h1, e, Nat.sub_self]; rfl
  ·rw [if_neg e, List.getD_eq_getElem?_getD, List.append_assoc, List.getElem?_append_right (by omega), h1, List.singleton_append, show i - k = (i - k - 1) + 1 by omega, List.getElem?_cons_succ, List.getElem?_drop, List.getD_eq_getElem?_getD, show k + (i - k - 1) = i - 1 by omega]
theorem take_row {α : Type} (g : α → List AV) {m : Nat} (hg : ∀ a, (g a).length = m) (a : α) : List.take m (g a) = g a := List.take_of_length_le (by rw [hg]; exact Nat.le_refl _)
theorem put_rows {L : List Q3} {x : Q3} {k : Nat} (hk : k ≤ L.length) {i : Nat} {f : List AV} (h1 : i < k → f = bgC (L.getD (0 + (0 + i) - 0) q0)) (h2 : i = k → f = List.take 12 (List.drop ((0 + i - (0 + ((k : Int) - 0).toNat)) * 12) (bgC x)))
  (h3 : k < i → f = shiftF (k : Int).toNat (fun j => bgC (L.getD j q0)) (i - (0 + ((k : Int) - 0).toNat + 1))) : f = bgC ((L.take k ++ [x] ++ L.drop k).getD i q0) := by
 rw [put_get bgC (m := 12) (fun _ => rfl) q0 L x k i hk]
 by_cases g : i < k
 ·rw [if_pos g, h1 g, show 0 + (0 + i) - 0 = i by omega]
 ·rw [if_neg g]
  by_cases e : i = k
  ·rw [if_pos e, h2 e, show 0 + i - (0 + ((k : Int) - 0).toNat) = 0 by omega, Nat.zero_mul, List.drop_zero]
   exact take_row bgC (fun _ => rfl) x
  ·rw [if_neg e, h3 (by omega), shiftF_eq]
   show bgC (L.getD ((k : Int).toNat + (i - (0 + ((k : Int) - 0).toNat + 1))) q0) = _
   rw [show (k : Int).toNat + (i - (0 + ((k : Int) - 0).toNat + 1)) = i - 1 by omega]
set_option maxHeartbeats 4000000 in
theorem S81 (L : List Q3) (x : Q3) (hl : L.length ≤ 1000000) (hL : ∀ i, R3k 2 (L.getD i q0)) (hx : R3k 2 x) : SP 81 [bgs L, bgA x] (bgs (putL lt3 L x)) false := by
 have hc := fun i => S144 (L.getD i q0) x (hL i) hx (by decide)
 have hneg := fun i => cmp3_neg (L.getD i q0) x
 have hzer := fun i => cmp3_zero (L.getD i q0) x
 refine sound (d := 2) tok2 mixed2 Tryz.func81 (by kernel_rfl) (by kernel_rfl) ?_
 (conv => whnf); refine ⟨[], [0, 3, 5], fun st mq => ∃ (k : Nat), (k ≤ L.length) ∧ (∀ j, j < k → lt3 (L.getD j q0) x) ∧ st = ⟨[(0, bgs L), (3, .optr 0 0 0 0), (5, i64 k)], ⟨[⟨12, 1, fun _ => bgC x, 0, false, true, true⟩], [], none, 0⟩, []⟩ ∧ mq = L.length - k,
  ⟨_, _, ⟨0, by omega, fun j h => absurd h (Nat.not_lt_zero j), rfl, rfl⟩, ⟨⟨.inl rfl, rfl, rfl, rfl⟩, ⟨⟨rfl, rfl, rfl, rfl, fun _ => rfl, fun _ _ => .inl rfl⟩, trivial⟩, trivial⟩⟩, ?_⟩
 rintro s0 m0 ⟨k, hk, hs, rfl, hmeas⟩
 by_cases hlt : k < L.length
 ·have hn := hneg k
  have hz := hzer k
  have c1 := hc k
  by_cases g1 : lt3 (L.getD k q0) x
  ·have g1' := hn.2 g1
   generalize cmp3 (L.getD k q0) x = z at *
   conv => whnf
   (conv => whnf); refine ⟨[], by kernel_rfl, ?_⟩
   conv => whnf
   (conv => whnf); refine ifB_dec (fun w1 => ?_) (fun w1 => ?_)
   ·conv => whnf
    (conv => whnf); refine ⟨⟨(by omega), (by omega)⟩, ?_⟩
    conv => whnf
    (conv => whnf); refine .inl ⟨_, _, byX rfl (Sound1.pl (c1) rfl), ?_⟩
    conv => whnf
    (conv => whnf); refine ifB_dec (fun w2 => ?_) (fun w2 => ?_)
    ·conv => whnf
     (conv => whnf); refine ⟨inK64 (by omega) (by omega), ?_⟩
     conv => whnf
     (conv => whnf); refine ⟨_, _, ⟨⟨k + 1, by omega, (fun j hj => by by_cases e : j = k; (rw [e]; exact g1); exact hs j (by omega)), rfl, rfl⟩, by omega⟩, ⟨⟨.inl rfl, rfl, rfl, rfl⟩, ⟨⟨rfl, rfl, rfl, rfl, fun _ => rfl, fun _ _ => .inl rfl⟩, trivial⟩, trivial⟩⟩
    ·(exfalso; omega)
   ·(exfalso; omega)
  ·have g1' : ¬ cmp3 (L.getD k q0) x < 0 := fun e => g1 (hn.1 e)
   have hp := putL_at hs (by omega) (fun _ => g1)
   by_cases g2 : L.getD k q0 = x
   ·rw [if_pos ⟨hlt, g2⟩] at hp
    have g2' := hz.2 g2
    rw [hp]
    generalize cmp3 (L.getD k q0) x = z at *
    conv => whnf
    (conv => whnf); refine ⟨[], by kernel_rfl, ?_⟩
    conv => whnf
    (conv => whnf); refine ifB_dec (fun w1 => ?_) (fun w1 => ?_)
    ·conv => whnf
     (conv => whnf); refine ⟨⟨(by omega), (by omega)⟩, ?_⟩
     conv => whnf
     (conv => whnf); refine .inl ⟨_, _, byX rfl (Sound1.pl (c1) rfl), ?_⟩
     conv => whnf
     (conv => whnf); refine ifB_dec (fun w2 => ?_) (fun w2 => ?_)
     ·(exfalso; omega)
     ·conv => whnf
      (conv => whnf); refine ⟨[], by kernel_rfl, ?_⟩
      conv => whnf
      (conv => whnf); refine ifB_dec (fun w3 => ?_) (fun w3 => ?_)
      ·conv => whnf
       (conv => whnf); refine ⟨⟨(by omega), (by omega)⟩, ?_⟩
       conv => whnf
       (conv => whnf); refine .inl ⟨_, _, byX rfl (Sound1.pl (c1) rfl), ?_⟩
       conv => whnf
       (conv => whnf); refine ifB_beq (fun w4 => ?_) (fun w4 => ?_)
       ·conv => whnf
        (conv => whnf); refine ⟨?_, nofun⟩
        exact ⟨rfl, rfl, fun _ _ => rfl⟩
       ·(exfalso; omega)
      ·(exfalso; omega)
    ·(exfalso; omega)
   ·rw [if_neg (fun e => g2 e.2)] at hp
    have g2' : ¬ cmp3 (L.getD k q0) x = 0 := fun e => g2 (hz.1 e)
    rw [hp]
    generalize cmp3 (L.getD k q0) x = z at *
    conv => whnf
    (conv => whnf); refine ⟨[], by kernel_rfl, ?_⟩
    conv => whnf
    (conv => whnf); refine ifB_dec (fun w1 => ?_) (fun w1 => ?_)
    ·conv => whnf
     (conv => whnf); refine ⟨⟨(by omega), (by omega)⟩, ?_⟩
     conv => whnf
     (conv => whnf); refine .inl ⟨_, _, byX rfl (Sound1.pl (c1) rfl), ?_⟩
     conv => whnf
     (conv => whnf); refine ifB_dec (fun w2 => ?_) (fun w2 => ?_)
     ·(exfalso; omega)
     ·conv => whnf
      (conv => whnf); refine ⟨[], by kernel_rfl, ?_⟩
      conv => whnf
      (conv => whnf); refine ifB_dec (fun w3 => ?_) (fun w3 => ?_)
      ·conv => whnf
       (conv => whnf); refine ⟨⟨(by omega), (by omega)⟩, ?_⟩
       conv => whnf
       (conv => whnf); refine .inl ⟨_, _, byX rfl (Sound1.pl (c1) rfl), ?_⟩
       conv => whnf
       (conv => whnf); refine ifB_beq (fun w4 => ?_) (fun w4 => ?_)
       ·(exfalso; omega)
       ·conv => whnf
        (conv => whnf); refine ⟨⟨(by omega), ⟨(by omega), (by omega)⟩⟩, ?_⟩
        conv => whnf
        (conv => whnf); refine .inl ?_
        conv => whnf
        (conv => whnf); refine ⟨⟨(by omega), (by show _ * (192 + 1) ≤ _; omega)⟩, ?_⟩
        conv => whnf
        (conv => whnf); refine .inl ?_
        conv => whnf
        (conv => whnf); refine ⟨(by show _ * (192 + 1) ≤ _; omega), ?_⟩
        conv => whnf
        (conv => whnf); refine ⟨⟨(by omega), ⟨(by omega), (by omega)⟩⟩, ?_⟩
        conv => whnf
        (conv => whnf); refine .inl ?_
        conv => whnf
        (conv => whnf); refine ⟨(by show _ * (192 + 1) ≤ _; omega), ?_⟩
        conv => whnf
        (conv => whnf); refine ⟨?_, nofun⟩
        exact ⟨rfl, (by simp; omega), fun i hi => put_rows hk (fun g => (if_pos (by omega)).trans ((if_pos (by omega)).trans (if_neg (by omega)))) (fun g => (if_pos (by omega)).trans (if_neg (by omega))) (fun g => if_neg (by omega))⟩
      ·(exfalso; omega)
    ·(exfalso; omega)
 ·have hp := putL_at hs (by omega) (fun e => absurd e hlt)
  rw [if_neg (fun e => hlt e.1)] at hp
  rw [hp]
  conv => whnf
  (conv => whnf); refine ⟨[], by kernel_rfl, ?_⟩
  conv => whnf
  (conv => whnf); refine ifB_dec (fun w1 => ?_) (fun w1 => ?_)
  ·(exfalso; omega)
  ·conv => whnf
   (conv => whnf); refine ⟨[], by kernel_rfl, ?_⟩
   conv => whnf
   (conv => whnf); refine ifB_dec (fun w2 => ?_) (fun w2 => ?_)
   ·(exfalso; omega)
   ·conv => whnf
    (conv => whnf); refine ⟨⟨(by omega), ⟨(by omega), (by omega)⟩⟩, ?_⟩
    conv => whnf
    (conv => whnf); refine .inl ?_
    conv => whnf
    (conv => whnf); refine ⟨⟨(by omega), (by show _ * (192 + 1) ≤ _; omega)⟩, ?_⟩
    conv => whnf
    (conv => whnf); refine .inl ?_
    conv => whnf
    (conv => whnf); refine ⟨(by show _ * (192 + 1) ≤ _; omega), ?_⟩
    conv => whnf
    (conv => whnf); refine ⟨⟨(by omega), ⟨(by omega), (by omega)⟩⟩, ?_⟩
    conv => whnf
    (conv => whnf); refine .inl ?_
    conv => whnf
    (conv => whnf); refine ⟨(by show _ * (192 + 1) ≤ _; omega), ?_⟩
    conv => whnf
    (conv => whnf); refine ⟨?_, nofun⟩
    exact ⟨rfl, (by simp; omega), fun i hi => put_rows hk (fun g => (if_pos (by omega)).trans ((if_pos (by omega)).trans (if_neg (by omega)))) (fun g => (if_pos (by omega)).trans (if_neg (by omega))) (fun g => if_neg (by omega))⟩
end Go.Tr

/- Contracts of chapter 5: the reference's spots on a line; the law of lines. Conditions: none. -/
-- seat YtgbdlkajmmjahaaGreat
namespace Go.Tr
open Go Go.Proofs
set_option maxRecDepth 20000
set_option maxHeartbeats 8000000

structure QOk (Q : List Q3) (l : Ln) : Prop where
 len : Q.length ≤ 12
 rk : ∀ k, k < Q.length → R3k 1 (Q.getD k q0)
 side : ∀ k, k < Q.length → Rk 1 (sideQ l (Q.getD k q0))
 ne : ∀ k, k + 1 < Q.length → sgR (sideQ l (Q.getD k q0)) * sgR (sideQ l (Q.getD (k + 1) q0)) < 0 → sideQ l (Q.getD k q0) - sideQ l (Q.getD (k + 1) q0) ≠ 0
 part : ∀ k, k + 1 < Q.length → Rk 1 (sideQ l (Q.getD k q0) / (sideQ l (Q.getD k q0) - sideQ l (Q.getD (k + 1) q0)))
 on : ∀ k, k ≤ Q.length → ∀ q ∈ onQ Q l k, R3k 2 q
theorem sgR_mul {a b : Rat} (h : sgR a * sgR b < 0) : a - b ≠ 0 := fun e => by
 have e : a = b := by grind
 subst e
 rcases sgR_cases a with ⟨_, g⟩ | ⟨_, g⟩ | ⟨_, g⟩ <;> rw [g] at h <;> exact absurd h (by decide)
theorem CvOk.q {N : List Nm} (hN : CvOk N) {l : Ln} (hl : LnOk l) : QOk (N.map nmQ) l := by
  have hg : ∀ k, k < N.length → (N.map nmQ).getD k q0 = nmQ (N.getD k n0) := fun k hk => getD_mapG nmQ N k n0 q0 hk
  have hb : ∀ k, k < N.length → NmB 200 (N.getD k n0) := fun k hk => hN.b _ (getD_memG hk)
  have z : ∀ x : Int, x.natAbs ≤ 880000000 → Zk 1 x := fun x hx => Zk.small (Nat.lt_of_le_of_lt hx (by decide))
  have hs : ∀ k, k < N.length → sideQ l ((N.map nmQ).getD k q0) = Rat.divInt (sideN l (N.getD k n0)) (N.getD k n0).2 := fun k hk => by
    rw [hg k hk, side_eq l (by have := (hb k hk).d; omega)]
  refine ⟨by rw [List.length_map]; exact hN.len, fun k hk => ?_, fun k hk => ?_, fun k hk h => sgR_mul h, fun k hk => ?_, fun k hk q hq => ?_⟩
  · rw [List.length_map] at hk
    rw [hg k hk]
    exact (hb k hk).rk (Nat.lt_of_le_of_lt (show _ ≤ 2000000 by omega) (by decide))
  · rw [List.length_map] at hk
    have hbk := hb k hk
    rw [hs k hk]
    exact Rk.divI (by have := hbk.d; omega) (z _ (by have := (side_b hl hbk).2; omega)) (z _ (by have := hbk.d; omega))
  · rw [List.length_map] at hk
    have hb1 := hb k (by omega)
    have hb2 := hb (k + 1) hk
    have hd : (N.getD k n0).2 = (N.getD (k + 1) n0).2 := hN.d _ (getD_memG (by omega)) _ (getD_memG hk)
    rw [hs k (by omega), hs (k + 1) hk, ← hd, frac_of_parts (by have := hb1.d; omega)]
    have s1 := (side_b hl hb1).2
    have s2 := (side_b hl hb2).2
    by_cases e : sideN l (N.getD k n0) - sideN l (N.getD (k + 1) n0) = 0
    · rw [e, Rat.divInt_zero]
      exact rk_mil (x := 0) (by decide)
    · exact Rk.divI e (z _ (by omega)) (z _ (by omega))
  · rw [List.length_map] at hk
    cases h : N with
    | nil => rw [h] at hk; have : k = 0 := by simpa using hk
             rw [this] at hq; cases hq
    | cons y r =>
      have hy : y ∈ N := by rw [h]; simp
      rw [← on_map N l (hN.b y hy).d.1 (fun n hn => hN.d n hn y hy) k hk] at hq
      obtain ⟨n, hn, e⟩ := List.mem_map.1 hq
      rw [← e]
      exact (onN_ok hN hl k hk n hn).rk (Nat.lt_of_le_of_lt (show _ ≤ 1760000000000000 by decide) (by decide))
theorem onQ_1 {Q : List Q3} {l : Ln} {k : Nat} (h : sideQ l (Q.getD k q0) = 0) : onQ Q l (k + 1) = onQ Q l k ++ [Q.getD k q0] := by
 rw [onQ, if_pos h, if_neg (fun e => by
  have := e.2
  rcases sgR_cases (sideQ l (Q.getD k q0)) with ⟨g, _⟩ | ⟨_, g⟩ | ⟨g, _⟩
  ·rw [h] at g; exact rlt_irr _ g
  ·rw [g, Int.zero_mul] at this; exact absurd this (by decide)
  ·rw [h] at g; exact rlt_irr _ g)]; rfl
theorem onQ_2 {Q : List Q3} {l : Ln} {k : Nat} (h : ¬ sideQ l (Q.getD k q0) = 0) (h2 : k + 1 < Q.length ∧ sgR (sideQ l (Q.getD k q0)) * sgR (sideQ l (Q.getD (k + 1) q0)) < 0) :
    onQ Q l (k + 1) = onQ Q l k ++ [mixQ (Q.getD k q0) (Q.getD (k + 1) q0) (sideQ l (Q.getD k q0) / (sideQ l (Q.getD k q0) - sideQ l (Q.getD (k + 1) q0)))] := by
  rw [onQ, if_neg h, if_pos h2]; rfl
theorem onQ_3 {Q : List Q3} {l : Ln} {k : Nat} (h : ¬ sideQ l (Q.getD k q0) = 0) (h2 : ¬ (k + 1 < Q.length ∧ sgR (sideQ l (Q.getD k q0)) * sgR (sideQ l (Q.getD (k + 1) q0)) < 0)) : onQ Q l (k + 1) = onQ Q l k := by
  rw [onQ, if_neg h, if_neg h2]; simp
theorem onQ_len (Q : List Q3) (l : Ln) : ∀ k, (onQ Q l k).length ≤ 2 * k
 | 0 => Nat.le_refl _
 | k + 1 => by
  unfold onQ
  have := onQ_len Q l k
  rw [List.length_append, List.length_append]
  have h1 : (if sideQ l (Q.getD k q0) = 0 then [Q.getD k q0] else []).length ≤ 1 := by split <;> simp
  have h2 : (if k + 1 < Q.length ∧ sgR (sideQ l (Q.getD k q0)) * sgR (sideQ l (Q.getD (k + 1) q0)) < 0 then [mixQ (Q.getD k q0) (Q.getD (k + 1) q0) (sideQ l (Q.getD k q0) / (sideQ l (Q.getD k q0) - sideQ l (Q.getD (k + 1) q0)))] else []).length ≤ 1 := by split <;> simp
  omega
theorem putL_len (l : List Q3) (x : Q3) : (putL lt3 l x).length ≤ l.length + 1 := by
 induction l with
 | nil => simp [putL]
 | cons y l ih =>
  unfold putL
  split
  ·simpa using ih
  ·split <;> simp
theorem putAll_len (l : List Q3) : (putAll lt3 l).length ≤ l.length := by
 induction l using snoc_ind with
 | h0 => exact Nat.le_refl _
 | hs l x ih =>
  rw [putAll_snoc]
  have := putL_len (putAll lt3 l) x
  rw [List.length_append]
  simp
  omega
set_option maxHeartbeats 8000000 in
theorem S21 (Q : List Q3) (l : Ln) (hQ : QOk Q l) (hl : LnOk l) : SP 21 [bgs Q, lnA l] (bgs (spL Q l)) false := by
 have hlen := hQ.len
 refine sound (d := 2) tok2 mixed2 Tryz.func21 (by kernel_rfl) (by kernel_rfl) ?_
 (conv => whnf); refine ⟨[], [0, 3, 5, 6], fun st mq => ∃ (k : Nat) (O : List Q3), (k ≤ Q.length) ∧ (O = putAll lt3 (onQ Q l k)) ∧ st = ⟨[(0, bgs Q), (3, .optr 0 0 0 0), (5, bgs O), (6, i64 k)], ⟨[⟨4, 1, fun _ => lnC l, 0, false, true, true⟩], [], none, 0⟩, []⟩ ∧ mq = Q.length - k,
  ⟨_, _, ⟨0, [], by omega, rfl, rfl, rfl⟩, ⟨⟨.inr ⟨rfl, .inl rfl, ⟨rfl, .inl rfl, ⟨rfl, .inr (rfl), ⟨rfl, .inl rfl, trivial⟩⟩⟩⟩, rfl, rfl, rfl⟩, ⟨⟨rfl, rfl, rfl, rfl, fun _ => rfl, fun _ _ => .inl rfl⟩, trivial⟩, trivial⟩⟩, ?_⟩
 rintro s0 m0 ⟨k, O, hk, hO, rfl, hmeas⟩
 have hOl : O.length ≤ 1000000 := by
  rw [hO]
  have h1 := putAll_len (onQ Q l k)
  have h2 := onQ_len Q l k
  omega
 have hOr : ∀ i, R3k 2 (O.getD i q0) := fun i => by
  by_cases hi : i < O.length
  ·have hm := getD_memG (d := q0) hi
   rw [hO, putAll_mem, ← hO] at hm
   exact hQ.on k hk _ hm
  ·rw [List.getD_eq_getElem?_getD, List.getElem?_eq_none (by omega)]
   exact (rk_pt (p := p0) ptOk_0).mono (by decide)
 have c49 := fun q hq => S49 q l hq hl
 have c81 := fun x hx => S81 O x hOl hOr hx
 by_cases hlt : k < Q.length
 ·have rk0 := hQ.rk k hlt
  have rk02 := rk0.mono (l := 2) (by decide)
  have hsg := sgR_cases (sideQ l (Q.getD k q0))
  by_cases hz : sideQ l (Q.getD k q0) = 0
  ·have eO := onQ_1 hz
   have eP : putAll lt3 (onQ Q l (k + 1)) = putL lt3 O (Q.getD k q0) := by rw [eO, putAll_snoc, ← hO]
   have hA : sgR (sideQ l (Q.getD (k : Int).toNat q0)) = 0 := by
    rcases hsg with ⟨g, _⟩ | ⟨_, g⟩ | ⟨g, _⟩
    ·rw [hz] at g; exact absurd g (rlt_irr _)
    ·exact g
    ·rw [hz] at g; exact absurd g (rlt_irr _)
   by_cases hlt2 : k + 1 < Q.length
   ·have rk1 := hQ.rk (k + 1) hlt2
    have r0' : sgR (sideQ l (Q.getD (k : Int).toNat q0)) * sgR (sideQ l (Q.getD ((k : Int) + 1).toNat q0)) = 0 := by rw [hA, Int.zero_mul]
    have r1' : inK .i64 (sgR (sideQ l (Q.getD (k : Int).toNat q0)) * sgR (sideQ l (Q.getD ((k : Int) + 1).toNat q0))) := inK_of (by rw [r0']; decide)
    conv => whnf
    (conv => whnf); refine ifB_dec (fun w1 => ?_) (fun w1 => ?_)
    ·conv => whnf
     (conv => whnf); refine ⟨[], by kernel_rfl, ?_⟩
     conv => whnf
     (conv => whnf); refine ⟨⟨(by omega), (by omega)⟩, ?_⟩
     conv => whnf
     (conv => whnf); refine .inl ⟨_, _, byX rfl (c49 _ (by first | omega | assumption | simp)), ?_⟩
     conv => whnf
     (conv => whnf); refine .inl ⟨_, _, byX rfl (Sound1.pl (S48 _) rfl), ?_⟩
     conv => whnf
     (conv => whnf); refine ifB_beq (fun w2 => ?_) (fun w2 => ?_)
     ·conv => whnf
      (conv => whnf); refine ⟨⟨(by omega), (by omega)⟩, ?_⟩
      conv => whnf
      (conv => whnf); refine .inl ⟨_, _, byX rfl (c81 _ (by first | omega | assumption | simp)), ?_⟩
      conv => whnf
      (conv => whnf); refine ⟨inK64 (by omega) (by omega), ?_⟩
      conv => whnf
      (conv => whnf); refine ifB_beq (fun w3 => ?_) (fun w3 => ?_)
      ·(exfalso; omega)
      ·conv => whnf
       (conv => whnf); refine ⟨[], by kernel_rfl, ?_⟩
       conv => whnf
       (conv => whnf); refine ⟨inK64 (by omega) (by omega), ?_⟩
       conv => whnf
       (conv => whnf); refine ⟨⟨(by omega), (by omega)⟩, ?_⟩
       conv => whnf
       (conv => whnf); refine .inl ⟨_, _, byX rfl (c49 _ (by first | omega | assumption | simp)), ?_⟩
       conv => whnf
       (conv => whnf); refine ⟨[], by kernel_rfl, ?_⟩
       conv => whnf
       (conv => whnf); refine .inl ⟨_, _, byX rfl (Sound1.pl (S48 _) rfl), ?_⟩
       conv => whnf
       (conv => whnf); refine .inl ⟨_, _, byX rfl (Sound1.pl (S48 _) rfl), ?_⟩
       conv => whnf
       (conv => whnf); refine ⟨inK64 (by omega) (by omega), ?_⟩
       conv => whnf
       (conv => whnf); refine ifB_dec (fun w4 => ?_) (fun w4 => ?_)
       ·(exfalso; omega)
       ·conv => whnf
        (conv => whnf); refine ⟨inK64 (by omega) (by omega), ?_⟩
        conv => whnf
        (conv => whnf); refine ⟨_, _, ⟨⟨k + 1, putL lt3 O (Q.getD k q0), by omega, eP.symm, rfl, rfl⟩, by omega⟩, ⟨⟨.inl rfl, rfl, rfl, rfl⟩, ⟨⟨rfl, rfl, rfl, rfl, fun _ => rfl, fun _ _ => .inl rfl⟩, trivial⟩, trivial⟩⟩
     ·(exfalso; omega)
    ·(exfalso; omega)
   ·have hsp : spL Q l = putL lt3 O (Q.getD k q0) := by
     rw [← eP, show k + 1 = Q.length by omega]; rfl
    rw [hsp]
    conv => whnf
    (conv => whnf); refine ifB_dec (fun w1 => ?_) (fun w1 => ?_)
    ·conv => whnf
     (conv => whnf); refine ⟨[], by kernel_rfl, ?_⟩
     conv => whnf
     (conv => whnf); refine ⟨⟨(by omega), (by omega)⟩, ?_⟩
     conv => whnf
     (conv => whnf); refine .inl ⟨_, _, byX rfl (c49 _ (by first | omega | assumption | simp)), ?_⟩
     conv => whnf
     (conv => whnf); refine .inl ⟨_, _, byX rfl (Sound1.pl (S48 _) rfl), ?_⟩
     conv => whnf
     (conv => whnf); refine ifB_beq (fun w2 => ?_) (fun w2 => ?_)
     ·conv => whnf
      (conv => whnf); refine ⟨⟨(by omega), (by omega)⟩, ?_⟩
      conv => whnf
      (conv => whnf); refine .inl ⟨_, _, byX rfl (c81 _ (by first | omega | assumption | simp)), ?_⟩
      conv => whnf
      (conv => whnf); refine ⟨inK64 (by omega) (by omega), ?_⟩
      conv => whnf
      (conv => whnf); refine ifB_beq (fun w3 => ?_) (fun w3 => ?_)
      ·conv => whnf
       (conv => whnf); refine ⟨?_, nofun⟩
       exact ⟨rfl, rfl, fun _ _ => rfl⟩
      ·(exfalso; omega)
     ·(exfalso; omega)
    ·(exfalso; omega)
  ·have hA : ¬ sgR (sideQ l (Q.getD (k : Int).toNat q0)) = 0 := by
    rcases hsg with ⟨_, g⟩ | ⟨g, _⟩ | ⟨_, g⟩
    ·exact fun e => absurd (g.symm.trans e) (by decide)
    ·exact absurd g hz
    ·exact fun e => absurd (g.symm.trans e) (by decide)
   by_cases hlt2 : k + 1 < Q.length
   ·have rk1 := hQ.rk (k + 1) hlt2
    have hsg2 := sgR_cases (sideQ l (Q.getD (k + 1) q0))
    have r1' : inK .i64 (sgR (sideQ l (Q.getD (k : Int).toNat q0)) * sgR (sideQ l (Q.getD ((k : Int) + 1).toNat q0))) := by
     show inK .i64 (sgR (sideQ l (Q.getD k q0)) * sgR (sideQ l (Q.getD (k + 1) q0)))
     rcases hsg with ⟨_, g⟩ | ⟨_, g⟩ | ⟨_, g⟩ <;> rcases hsg2 with ⟨_, g2⟩ | ⟨_, g2⟩ | ⟨_, g2⟩ <;> rw [g, g2] <;> exact inK_of (by decide)
    by_cases hc : sgR (sideQ l (Q.getD k q0)) * sgR (sideQ l (Q.getD (k + 1) q0)) < 0
    ·have hc' : sgR (sideQ l (Q.getD (k : Int).toNat q0)) * sgR (sideQ l (Q.getD ((k : Int) + 1).toNat q0)) < 0 := hc
     have eO := onQ_2 hz ⟨hlt2, hc⟩
     have hm : R3k 2 (mixQ (Q.getD k q0) (Q.getD (k + 1) q0) (sideQ l (Q.getD k q0) / (sideQ l (Q.getD k q0) - sideQ l (Q.getD (k + 1) q0)))) := hQ.on (k + 1) (by omega) _ (by rw [eO]; simp)
     have eP : putAll lt3 (onQ Q l (k + 1)) = putL lt3 O (mixQ (Q.getD k q0) (Q.getD (k + 1) q0) (sideQ l (Q.getD k q0) / (sideQ l (Q.getD k q0) - sideQ l (Q.getD (k + 1) q0)))) := by rw [eO, putAll_snoc, ← hO]
     have c84 := S84 (sideQ l (Q.getD k q0)) (sideQ l (Q.getD (k + 1) q0)) (hQ.side k hlt) (hQ.side (k + 1) hlt2) (by decide)
     have c83 := S83 (sideQ l (Q.getD k q0)) (sideQ l (Q.getD k q0) - sideQ l (Q.getD (k + 1) q0)) (hQ.side k hlt) ((hQ.side k hlt).sub (hQ.side (k + 1) hlt2)) (by decide) (hQ.ne k hlt2 hc)
     have c82 := S82 (Q.getD k q0) (Q.getD (k + 1) q0) (sideQ l (Q.getD k q0) / (sideQ l (Q.getD k q0) - sideQ l (Q.getD (k + 1) q0))) rk0 rk1 (hQ.part k hlt2) (by decide)
     conv => whnf
     (conv => whnf); refine ifB_dec (fun w1 => ?_) (fun w1 => ?_)
     ·conv => whnf
      (conv => whnf); refine ⟨[], by kernel_rfl, ?_⟩
      conv => whnf
      (conv => whnf); refine ⟨⟨(by omega), (by omega)⟩, ?_⟩
      conv => whnf
      (conv => whnf); refine .inl ⟨_, _, byX rfl (c49 _ (by first | omega | assumption | simp)), ?_⟩
      conv => whnf
      (conv => whnf); refine .inl ⟨_, _, byX rfl (Sound1.pl (S48 _) rfl), ?_⟩
      conv => whnf
      (conv => whnf); refine ifB_beq (fun w2 => ?_) (fun w2 => ?_)
      ·(exfalso; omega)
      ·conv => whnf
       (conv => whnf); refine ⟨inK64 (by omega) (by omega), ?_⟩
       conv => whnf
       (conv => whnf); refine ifB_beq (fun w3 => ?_) (fun w3 => ?_)
       ·(exfalso; omega)
       ·conv => whnf
        (conv => whnf); refine ⟨[], by kernel_rfl, ?_⟩
        conv => whnf
        (conv => whnf); refine ⟨inK64 (by omega) (by omega), ?_⟩
        conv => whnf
        (conv => whnf); refine ⟨⟨(by omega), (by omega)⟩, ?_⟩
        conv => whnf
        (conv => whnf); refine .inl ⟨_, _, byX rfl (c49 _ (by first | omega | assumption | simp)), ?_⟩
        conv => whnf
        (conv => whnf); refine ⟨[], by kernel_rfl, ?_⟩
        conv => whnf
        (conv => whnf); refine .inl ⟨_, _, byX rfl (Sound1.pl (S48 _) rfl), ?_⟩
        conv => whnf
        (conv => whnf); refine .inl ⟨_, _, byX rfl (Sound1.pl (S48 _) rfl), ?_⟩
        conv => whnf
        (conv => whnf); refine ⟨by assumption, ?_⟩
        conv => whnf
        (conv => whnf); refine ifB_dec (fun w4 => ?_) (fun w4 => ?_)
        ·conv => whnf
         (conv => whnf); refine ⟨[], by kernel_rfl, ?_⟩
         conv => whnf
         (conv => whnf); refine ⟨⟨(by omega), (by omega)⟩, ?_⟩
         conv => whnf
         (conv => whnf); refine ⟨inK64 (by omega) (by omega), ?_⟩
         conv => whnf
         (conv => whnf); refine ⟨⟨(by omega), (by omega)⟩, ?_⟩
         conv => whnf
         (conv => whnf); refine .inl ⟨_, _, byX rfl (c84), ?_⟩
         conv => whnf
         (conv => whnf); refine .inl ⟨_, _, byX rfl (c83), ?_⟩
         conv => whnf
         (conv => whnf); refine .inl ⟨_, _, byX rfl (c82), ?_⟩
         conv => whnf
         (conv => whnf); refine .inl ⟨_, _, byX rfl (c81 _ (by omega)), ?_⟩
         conv => whnf
         (conv => whnf); refine ⟨inK64 (by omega) (by omega), ?_⟩
         conv => whnf
         (conv => whnf); refine ⟨_, _, ⟨⟨k + 1, putL lt3 O (mixQ (Q.getD k q0) (Q.getD (k + 1) q0) (sideQ l (Q.getD k q0) / (sideQ l (Q.getD k q0) - sideQ l (Q.getD (k + 1) q0)))), by omega, eP.symm, rfl, rfl⟩, by omega⟩, ⟨⟨.inl rfl, rfl, rfl, rfl⟩, ⟨⟨rfl, rfl, rfl, rfl, fun _ => rfl, fun _ _ => .inl rfl⟩, trivial⟩, trivial⟩⟩
        ·(exfalso; omega)
     ·(exfalso; omega)
    ·have hc' : ¬ sgR (sideQ l (Q.getD (k : Int).toNat q0)) * sgR (sideQ l (Q.getD ((k : Int) + 1).toNat q0)) < 0 := hc
     have eO := onQ_3 hz (fun e => hc e.2)
     conv => whnf
     (conv => whnf); refine ifB_dec (fun w1 => ?_) (fun w1 => ?_)
     ·conv => whnf
      (conv => whnf); refine ⟨[], by kernel_rfl, ?_⟩
      conv => whnf
      (conv => whnf); refine ⟨⟨(by omega), (by omega)⟩, ?_⟩
      conv => whnf
      (conv => whnf); refine .inl ⟨_, _, byX rfl (c49 _ (by first | omega | assumption | simp)), ?_⟩
      conv => whnf
      (conv => whnf); refine .inl ⟨_, _, byX rfl (Sound1.pl (S48 _) rfl), ?_⟩
      conv => whnf
      (conv => whnf); refine ifB_beq (fun w2 => ?_) (fun w2 => ?_)
      ·(exfalso; omega)
      ·conv => whnf
       (conv => whnf); refine ⟨inK64 (by omega) (by omega), ?_⟩
       conv => whnf
       (conv => whnf); refine ifB_beq (fun w3 => ?_) (fun w3 => ?_)
       ·(exfalso; omega)
       ·conv => whnf
        (conv => whnf); refine ⟨[], by kernel_rfl, ?_⟩
        conv => whnf
        (conv => whnf); refine ⟨inK64 (by omega) (by omega), ?_⟩
        conv => whnf
        (conv => whnf); refine ⟨⟨(by omega), (by omega)⟩, ?_⟩
        conv => whnf
        (conv => whnf); refine .inl ⟨_, _, byX rfl (c49 _ (by first | omega | assumption | simp)), ?_⟩
        conv => whnf
        (conv => whnf); refine ⟨[], by kernel_rfl, ?_⟩
        conv => whnf
        (conv => whnf); refine .inl ⟨_, _, byX rfl (Sound1.pl (S48 _) rfl), ?_⟩
        conv => whnf
        (conv => whnf); refine .inl ⟨_, _, byX rfl (Sound1.pl (S48 _) rfl), ?_⟩
        conv => whnf
        (conv => whnf); refine ⟨by assumption, ?_⟩
        conv => whnf
        (conv => whnf); refine ifB_dec (fun w4 => ?_) (fun w4 => ?_)
        ·(exfalso; omega)
        ·conv => whnf
         (conv => whnf); refine ⟨inK64 (by omega) (by omega), ?_⟩
         conv => whnf
         (conv => whnf); refine ⟨_, _, ⟨⟨k + 1, O, by omega, (by rw [eO]; exact hO), rfl, rfl⟩, by omega⟩, ⟨⟨.inl rfl, rfl, rfl, rfl⟩, ⟨⟨rfl, rfl, rfl, rfl, fun _ => rfl, fun _ _ => .inl rfl⟩, trivial⟩, trivial⟩⟩
     ·(exfalso; omega)
   ·have eO := onQ_3 hz (fun e => hlt2 e.1)
    have hsp : spL Q l = O := by
     rw [hO, ← eO, show k + 1 = Q.length by omega]; rfl
    rw [hsp]
    conv => whnf
    (conv => whnf); refine ifB_dec (fun w1 => ?_) (fun w1 => ?_)
    ·conv => whnf
     (conv => whnf); refine ⟨[], by kernel_rfl, ?_⟩
     conv => whnf
     (conv => whnf); refine ⟨⟨(by omega), (by omega)⟩, ?_⟩
     conv => whnf
     (conv => whnf); refine .inl ⟨_, _, byX rfl (c49 _ (by first | omega | assumption | simp)), ?_⟩
     conv => whnf
     (conv => whnf); refine .inl ⟨_, _, byX rfl (Sound1.pl (S48 _) rfl), ?_⟩
     conv => whnf
     (conv => whnf); refine ifB_beq (fun w2 => ?_) (fun w2 => ?_)
     ·(exfalso; omega)
     ·conv => whnf
      (conv => whnf); refine ⟨inK64 (by omega) (by omega), ?_⟩
      conv => whnf
      (conv => whnf); refine ifB_beq (fun w3 => ?_) (fun w3 => ?_)
      ·conv => whnf
       (conv => whnf); refine ⟨?_, nofun⟩
       exact ⟨rfl, rfl, fun _ _ => rfl⟩
      ·(exfalso; omega)
    ·(exfalso; omega)
 ·obtain rfl : k = Q.length := by omega
  have hO : O = spL Q l := hO
  rw [← hO]
  conv => whnf
  (conv => whnf); refine ifB_dec (fun w1 => ?_) (fun w1 => ?_)
  ·(exfalso; omega)
  ·conv => whnf
   (conv => whnf); refine ⟨?_, nofun⟩
   exact ⟨rfl, rfl, fun _ _ => rfl⟩
end Go.Tr

/- Contracts of chapter 5: spots on lines, operating points, runaway. Conditions: none. -/
-- seat YtgbdlkajmmjahaaGreat
namespace Go.Tr
open Go Go.Proofs
set_option maxRecDepth 20000
set_option maxHeartbeats 8000000

theorem crvQ_len {t : List MRow} {f : Int × Int} (hT : TblOk t) (hO : OpOk t f) : (crvQ t f).length ≤ 12 := by
  rw [← crv_map hT hO, List.length_map]; exact crvN_len hT hO
theorem smL_len (L : List Q3) : (smL L).length ≤ L.length := by
 unfold smL
 split
 ·exact Nat.le_refl _
 ·exact Nat.zero_le _
theorem S79c {t : List MRow} {f : Int × Int} (hT : TblOk t) (hO : OpOk t f) {l : Ln} (hl : LnOk l) : SP 79 [nms (crvN t f), lnA l] (.tuple [sps (slL (crvQ t f) l), i64 (slE (crvQ t f) l)]) false := by
  have h := S79 (crvN t f) l (crv_ok hT hO) hl
  rwa [crv_map hT hO] at h
def szE (n : Int) : Int := if -1000 ≤ n ∧ n ≤ 1000 then 0 else 2
def badI : List Int → Nat → Int
  | [], _ => -1
  | x :: r, k => if -1000 ≤ x ∧ x ≤ 1000 then badI r (k + 1) else (k : Int)
theorem badI_drop (l : List Int) (k : Nat) (h : k < l.length) : badI (l.drop k) k = if -1000 ≤ l.getD k 0 ∧ l.getD k 0 ≤ 1000 then badI (l.drop (k + 1)) (k + 1) else (k : Int) := by
  rw [List.drop_eq_getElem_cons h]
  simp [badI, List.getD_eq_getElem?_getD, h]
theorem S139 (n : Int) : SP 139 [i64 n] (vb (!win n (-1000) 1000)) false := by
 have h := S140 n 1000 (by decide)
 refine sound (d := 2) tok2 mixed2 Tryz.func139 (by kernel_rfl) (by kernel_rfl) ?_
 (conv => whnf); refine .inl ⟨_, _, byX rfl (Sound1.pl (h) rfl), ?_⟩
 (conv => whnf); refine ⟨?_, nofun⟩
 (first | contradiction | rfl)
theorem S170 (l : List Int) (hl : l.length ≤ 1000) : SP 170 [ints l, .func (.func 139) 0 []] (i64 (badI l 0)) false := by
 refine sound (d := 2) tok2 mixed2 Tryz.func170 (by kernel_rfl) (by kernel_rfl) ?_
 (conv => whnf); refine ⟨[], [0, 1, 7, 8], fun st mq => ∃ (k : Nat), (k ≤ l.length) ∧ (badI (l.drop k) k = badI l 0) ∧ st = ⟨[(0, ints l), (1, .func (.func 139) 0 []), (7, i64 l.length), (8, i64 k)], ⟨[], [], none, 0⟩, []⟩ ∧ mq = l.length - k,
  ⟨_, _, ⟨0, by omega, rfl, rfl, rfl⟩, ⟨⟨.inl rfl, rfl, rfl, rfl⟩, trivial, trivial⟩⟩, ?_⟩
 rintro s0 m0 ⟨k, hk, he, rfl, hmeas⟩
 by_cases hlt : k < l.length
 ·have hd := badI_drop l k hlt
  have c1 := S139 (l.getD k 0)
  unfold win at c1
  by_cases g : -1000 ≤ l.getD k 0 ∧ l.getD k 0 ≤ 1000
  ·rw [if_pos g] at hd
   rw [decide_eq_true g] at c1
   conv => whnf
   (conv => whnf); refine ifB_dec (fun w1 => ?_) (fun w1 => ?_)
   ·conv => whnf
    (conv => whnf); refine ⟨⟨(by omega), (by omega)⟩, ?_⟩
    conv => whnf
    (conv => whnf); refine .inl ⟨_, _, byX rfl (Sound1.pl (c1) rfl), ?_⟩
    conv => whnf
    (conv => whnf); refine ⟨inK64 (by omega) (by omega), ?_⟩
    conv => whnf
    (conv => whnf); refine ⟨_, _, ⟨⟨k + 1, by omega, hd.symm.trans he, rfl, rfl⟩, by omega⟩, ⟨⟨.inl rfl, rfl, rfl, rfl⟩, trivial, trivial⟩⟩
   ·(exfalso; omega)
  ·rw [if_neg g] at hd
   rw [decide_eq_false g] at c1
   conv => whnf
   (conv => whnf); refine ifB_dec (fun w1 => ?_) (fun w1 => ?_)
   ·conv => whnf
    (conv => whnf); refine ⟨⟨(by omega), (by omega)⟩, ?_⟩
    conv => whnf
    (conv => whnf); refine .inl ⟨_, _, byX rfl (Sound1.pl (c1) rfl), ?_⟩
    conv => whnf
    (conv => whnf); refine ⟨?_, nofun⟩
    exact endi (hd.symm.trans he)
   ·(exfalso; omega)
 ·obtain rfl : k = l.length := by omega
  rw [List.drop_length] at he
  conv => whnf
  (conv => whnf); refine ifB_dec (fun w1 => ?_) (fun w1 => ?_)
  ·(exfalso; omega)
  ·conv => whnf
   (conv => whnf); refine ⟨?_, nofun⟩
   exact endi he
theorem S138 (l : List Int) (hl : l.length ≤ 1000) : SP 138 [ints l, .func (.func 139) 0 []] (vb (decide (badI l 0 ≥ 0))) false := by
 have h := S170 l hl
 refine sound (d := 2) tok2 mixed2 Tryz.func138 (by kernel_rfl) (by kernel_rfl) ?_
 (conv => whnf); refine .inl ⟨_, _, byX rfl (Sound1.pl (h) rfl), ?_⟩
 (conv => whnf); refine ⟨?_, nofun⟩
 (first | contradiction | rfl)
theorem S77 (l : List Int) (hl : l.length ≤ 1000) : SP 77 [ints l] (i64 (if badI l 0 ≥ 0 then 2 else 0)) false := by
 have h := S138 l hl
 have h78 := S78
 by_cases g : badI l 0 ≥ 0
 ·rw [decide_eq_true g] at h
  rw [if_pos g]
  refine sound (d := 2) tok2 mixed2 Tryz.func77 (by kernel_rfl) (by kernel_rfl) ?_
  (conv => whnf); refine .inl ⟨_, _, byX rfl (Sound1.pl (h) rfl), ?_⟩
  (conv => whnf); refine .inl ⟨_, _, byX rfl (Sound1.pl (h78 _ _) rfl), ?_⟩
  (conv => whnf); refine ⟨?_, nofun⟩
  (first | contradiction | rfl)
 ·rw [decide_eq_false g] at h
  rw [if_neg g]
  refine sound (d := 2) tok2 mixed2 Tryz.func77 (by kernel_rfl) (by kernel_rfl) ?_
  (conv => whnf); refine .inl ⟨_, _, byX rfl (Sound1.pl (h) rfl), ?_⟩
  (conv => whnf); refine .inl ⟨_, _, byX rfl (Sound1.pl (h78 _ _) rfl), ?_⟩
  (conv => whnf); refine ⟨?_, nofun⟩
  (first | contradiction | rfl)
theorem S77_1 (a : Int) {f : Nat → List AV} (h : f 0 = [i64 a]) : SP 77 [.rslice 1 1 f] (i64 (szE a)) false := by
 have key : ∀ i, i < 1 → f i = [i64 (([a] : List Int).getD i 0)] := fun i hi => by
  match i, hi with
  | 0, _ => exact h
 have e : (if badI [a] 0 ≥ 0 then (2 : Int) else 0) = szE a := by
  unfold szE badI badI
  by_cases g : -1000 ≤ a ∧ a ≤ 1000
  ·rw [if_pos g, if_pos g]; rfl
  ·rw [if_neg g, if_neg g]; rfl
 have h77 := S77 [a] (by simp)
 rw [e] at h77
 refine h77.argsD rfl fun i y x hy hx => ?_
 match i, hy, hx with
 | 0, hy, hx => cases hy; cases hx; exact .inr ⟨1, AVF_rows rfl key 0⟩
theorem ave_ln {k : Nat} {l : Ln} : AVE (k + 2) (lnA l) (lnA l) := ave_aggR (by simp [AV.atom])
theorem crvQ_ok {t : List MRow} {f : Int × Int} (hT : TblOk t) (hO : OpOk t f) {l : Ln} (hl : LnOk l) : QOk (crvQ t f) l := by
  have h := (crv_ok hT hO).q hl
  rwa [crv_map hT hO] at h
theorem spL_len {Q : List Q3} {l : Ln} (h : Q.length ≤ 12) : (spL Q l).length ≤ 24 := by
 have h1 := putAll_len (onQ Q l Q.length)
 have h2 := onQ_len Q l Q.length
 show (putAll lt3 (onQ Q l Q.length)).length ≤ 24
 omega
end Go.Tr

/- Plain laws of chapter 5: what lies on a line; flows at a head. Conditions: none. -/
-- seat YtgbdlkajmmjahaaGreat
namespace Go.Tr
open Go Go.Proofs
set_option maxRecDepth 20000
set_option maxHeartbeats 8000000

theorem side_mix (l : Ln) (a b : Q3) (t : Rat) : sideQ l (mixQ a b t) = sideQ l a + t * (sideQ l b - sideQ l a) := by
  unfold sideQ mixQ mix1
  grind
theorem on_side {Q : List Q3} {l : Ln} : ∀ k, ∀ q ∈ onQ Q l k, sideQ l q = 0
 | 0, q, h => by cases h
 | k + 1, q, h => by
  unfold onQ at h
  rcases List.mem_append.1 h with h | h
  ·exact on_side k q h
  ·rcases List.mem_append.1 h with h | h
   ·split at h
    ·rename_i hz
     rw [List.mem_singleton.1 h]; exact hz
    ·cases h
   ·split at h
    ·rename_i hz
     have hne := sgR_mul hz.2
     rw [List.mem_singleton.1 h, side_mix]
     generalize sideQ l (Q.getD k q0) = x at *
     generalize sideQ l (Q.getD (k + 1) q0) = y at *
     have h1 := Rat.mul_inv_cancel (x - y) hne
     rw [Rat.div_def]
     grind
    ·cases h
def hdL (h : Int) : Ln := (1, 0, 0, h)
theorem hdL_side {h : Int} {q : Q3} (hz : sideQ (hdL h) q = 0) : q.1 = (h : Rat) := by
 unfold sideQ hdL at hz
 dsimp only at hz
 simp only [Rat.intCast_zero, Rat.mul_zero, Rat.add_zero] at hz
 grind
theorem hdL_ok {h : Int} (hs : szE h = 0) : LnOk (hdL h) := by
 unfold szE at hs
 unfold LnOk hdL
 dsimp only
 split at hs
 ·omega
 ·exact absurd hs (by decide)
abbrev ltR (a b : Rat) : Prop := a < b
instance : DecidableRel ltR := fun a b => inferInstanceAs (Decidable (a < b))
abbrev leR (a b : Rat) : Prop := ¬ b < a
def allR (L : List Rat) : Bool := L.all fun q => decide (smR q)
theorem allR_mem {L M : List Rat} (h : ∀ x, x ∈ L ↔ x ∈ M) : allR L = allR M := by
 rw [Bool.eq_iff_iff]
 unfold allR
 rw [List.all_eq_true, List.all_eq_true]
 exact ⟨fun g x hx => g x ((h x).2 hx), fun g x hx => g x ((h x).1 hx)⟩
theorem allR_no {L : List Rat} {k : Nat} (hk : k < L.length) (h : ¬ smR (L.getD k 0)) : allR L = false := by
 unfold allR
 rw [List.all_eq_false]
 exact ⟨_, getD_memG hk, by simpa using h⟩
theorem allR_yes {L : List Rat} (h : ∀ k, k < L.length → smR (L.getD k 0)) : allR L = true := by
 unfold allR
 rw [List.all_eq_true]
 intro x hx
 obtain ⟨j, hj, e⟩ := List.getElem_of_mem hx
 have := h j hj
 rw [List.getD_eq_getElem?_getD, List.getElem?_eq_getElem hj] at this
 rw [← e]
 exact decide_eq_true this
def fls (L : List Q3) : List Rat := L.map fun q => q.2.1
def flo1 (L : List Rat) : List Rat := putAll ltR L
theorem flo1_sort {L s : List Rat} (hp : s.Perm L) (hs : s.Pairwise leR) : compL s = flo1 L :=
  sort_put (lt := ltR) rlt_irr (fun _ _ _ => rlt_tr) rlt_tri hp hs
theorem flo1_mem (L : List Rat) (x : Rat) : x ∈ flo1 L ↔ x ∈ L := putAll_mem _ _
theorem lt3_flow {a b : Q3} (h : lt3 a b) (he : a.1 = b.1) : leR a.2.1 b.2.1 := fun g => by
 unfold lt3 lt2 at h
 rcases h with h | ⟨_, h | ⟨h, _⟩⟩
 ·rw [he] at h; exact rlt_irr _ h
 ·exact rlt_irr _ (rlt_tr g h)
 ·rw [h] at g; exact rlt_irr _ g
theorem flows_eq (Q : List Q3) (h : Int) : compL (fls (spL Q (hdL h))) = flo1 (fls (onS Q (hdL h))) := by
 have hhead : ∀ q ∈ spL Q (hdL h), q.1 = (h : Rat) := fun q hq => hdL_side (on_side _ q ((putAll_mem _ _).1 hq))
 have hs : (spL Q (hdL h)).Pairwise lt3 := putAll_sorted lt3_tr lt3_tri _
 have hs2 : (fls (spL Q (hdL h))).Pairwise leR := by
  unfold fls
  rw [List.pairwise_map]
  refine List.Pairwise.imp_of_mem ?_ hs
  intro a b ha hb hab
  exact lt3_flow hab ((hhead a ha).trans (hhead b hb).symm)
 refine sorted_ext (lt := ltR) rlt_irr (fun _ _ _ => rlt_tr) ?_ (putAll_sorted (lt := ltR) (fun _ _ _ => rlt_tr) rlt_tri _) fun x => ?_
 ·refine List.Pairwise.imp ?_ (compL_sorted (le := leR) ?_ ?_ _ hs2)
  ·rintro a b ⟨h1, h2⟩
   rcases rlt_tri a b with g | g | g
   ·exact g
   ·exact absurd g h2
   ·exact absurd g h1
  ·intro a b h1 h2
   rcases rlt_tri a b with g | g | g
   ·exact absurd g h2
   ·exact g
   ·exact absurd g h1
  ·intro a b c h1 h2 h3
   rcases rlt_tri a b with g | g | g
   ·exact h2 (rlt_tr h3 g)
   ·subst g; exact h2 h3
   ·exact h1 g
 ·show x ∈ compL _ ↔ x ∈ flo1 _
  rw [compL_mem, flo1_mem]
  unfold fls
  rw [List.mem_map, List.mem_map]
  constructor
  ·rintro ⟨q, hq, e⟩; exact ⟨q, (putAll_mem _ _).1 hq, e⟩
  ·rintro ⟨q, hq, e⟩; exact ⟨q, (putAll_mem _ _).2 hq, e⟩
theorem leR_tr (a b c : Rat) (h1 : leR a b) (h2 : leR b c) : leR a c := fun h3 => by
 rcases rlt_tri a b with g | g | g
 ·exact h2 (rlt_tr h3 g)
 ·subst g; exact h2 h3
 ·exact h1 g
theorem leR_of {a b : Rat} (h : cmpR a b < 0) : leR a b := fun g => rlt_irr _ (rlt_tr g ((cmpR_neg _ _).1 h))
theorem geR_of {a b : Rat} (h : ¬ cmpR a b < 0) : leR b a := fun g => h ((cmpR_neg _ _).2 g)
def smRE (L : List Rat) : Int := if allR L = true then 0 else 8
abbrev fqC (q : Rat) : List AV := [i64 (frI q).1, i64 (frI q).2]
def frs (L : List Rat) : AV := .rslice 2 L.length fun i => fqC (L.getD i 0)
theorem fq_veq (a b : Rat) : ((frI a).1 = (frI b).1 ∧ (frI a).2 = (frI b).2) ↔ a = b := by
 constructor
 ·intro h; exact frI_inj (Prod.ext h.1 h.2)
 ·intro h; rw [h]; exact ⟨rfl, rfl⟩
end Go.Tr

/- Contracts of chapter 6: the next row of a table. Conditions: none. -/
import Derived.Test.YtolohdpbgocgkaaGreatTr08
set_option linter.unusedSectionVars false
set_option linter.unnecessarySimpa false
set_option linter.unusedVariables false
set_option linter.unusedSimpArgs false

namespace Go.Tr
open Go Go.Proofs
set_option maxRecDepth 20000
set_option maxHeartbeats 8000000

theorem S158i (l : List Int) (hl : l.length ≤ 1000000) (i : Int) (hi : 0 ≤ i) : SP 158 [ints l, i64 i] (i64 (entL l i.toNat)) false := by
  have h := S158 l hl i.toNat
  rwa [Int.toNat_of_nonneg hi] at h
theorem S134i (l : List Int) (hl : l.length ≤ 1000000) (i : Int) (hi : 0 ≤ i) : SP 134 [ints l, i64 i] (i64 (entL l i.toNat)) false := by
  have h := S134 l hl i.toNat
  rwa [Int.toNat_of_nonneg hi] at h
def listsA (R : List (List Int)) : AV := .rslice 1 R.length fun i => [ints (R.getD i [])]
/-- How long a row is; its entries; the row. -/
abbrev rowN (m k : Nat) : Nat := (((m : Int) - 1 - k).tdiv 2 + 1).toNat
def rowAt (p : List Int) (R : List (List Int)) (j : Nat) : Int :=
  if R.length < 2 then entL p (2 * j + R.length) else (R.getD (R.length - 1) []).getD 0 0 * entL (R.getD (R.length - 2) []) (j + 1) - (R.getD (R.length - 2) []).getD 0 0 * entL (R.getD (R.length - 1) []) (j + 1)
def rawL (p : List Int) (R : List (List Int)) : List Int := (List.range (rowN p.length R.length)).map (rowAt p R)
def nextL (p : List Int) (R : List (List Int)) : List Int := redL (rawL p R)
/-- How great the entries of a row are at most. -/
def bnd : Nat → Nat
  | 0 => 1000
  | 1 => 1000
  | 2 => 2000000
  | 3 => 4000000000
  | _ => 16000000000000000
structure RowsOk (p : List Int) (R : List (List Int)) : Prop where
  p2 : 2 ≤ p.length ∧ p.length ≤ 5
  ps : Sml 1000 p
  lt : R.length < p.length
  ne : ∀ i, i < R.length → 1 ≤ (R.getD i []).length ∧ (R.getD i []).length ≤ 5
  sm : ∀ i, i < R.length → Sml (bnd i) (R.getD i [])
theorem ent_sml {B : Nat} {l : List Int} (h : Sml B l) (i : Nat) : (entL l i).natAbs ≤ B := by
  unfold entL
  by_cases hi : i < l.length
  · exact h _ (getD_memI hi)
  · simp [List.getD_eq_getElem?_getD, show l.length ≤ i by omega]
theorem mul_sml {a b : Int} {A B : Nat} (ha : a.natAbs ≤ A) (hb : b.natAbs ≤ B) : (a * b).natAbs ≤ A * B := by
  rw [Int.natAbs_mul]
  exact Nat.mul_le_mul ha hb
theorem rowAt_sml {p : List Int} {R : List (List Int)} (h : RowsOk p R) (j : Nat) : (rowAt p R j).natAbs ≤ bnd R.length := by
  unfold rowAt
  by_cases hk : R.length < 2
  · rw [if_pos hk]
    have := ent_sml h.ps (2 * j + R.length)
    match e : R.length, hk with
    | 0, _ => rw [e] at this; exact this
    | 1, _ => rw [e] at this; exact this
  · rw [if_neg hk]
    have hb := h.sm (R.length - 1) (by omega)
    have ha := h.sm (R.length - 2) (by omega)
    have e1 := mul_sml (ent_sml hb 0) (ent_sml ha (j + 1))
    have e2 := mul_sml (ent_sml ha 0) (ent_sml hb (j + 1))
    unfold entL at e1 e2 ⊢
    have h3 := h.lt
    have h4 := h.p2
    have h5 : R.length = 2 ∨ R.length = 3 ∨ R.length = 4 := by omega
    rcases h5 with h5 | h5 | h5 <;> rw [h5] at e1 e2 ⊢ <;> simp only [bnd, Nat.reduceSub] at e1 e2 ⊢ <;> omega
theorem bnd_le (k : Nat) : bnd k ≤ 16000000000000000 := by
  unfold bnd
  split <;> decide
theorem row_prods {p : List Int} {R : List (List Int)} (h : RowsOk p R) (hk : ¬ R.length < 2) (j : Nat) :
    ((R.getD (R.length - 1) []).getD 0 0 * entL (R.getD (R.length - 2) []) (j + 1)).natAbs ≤ 8000000000000000 ∧ ((R.getD (R.length - 2) []).getD 0 0 * entL (R.getD (R.length - 1) []) (j + 1)).natAbs ≤ 8000000000000000 := by
  have hb := h.sm (R.length - 1) (by omega)
  have ha := h.sm (R.length - 2) (by omega)
  have e1 := mul_sml (ent_sml hb 0) (ent_sml ha (j + 1))
  have e2 := mul_sml (ent_sml ha 0) (ent_sml hb (j + 1))
  have h3 := h.lt
  have h4 := h.p2
  have h5 : R.length = 2 ∨ R.length = 3 ∨ R.length = 4 := by omega
  unfold entL at e1 e2 ⊢
  rcases h5 with h5 | h5 | h5 <;> rw [h5] at e1 e2 ⊢ <;> simp only [bnd, Nat.reduceSub] at e1 e2 ⊢ <;> omega
theorem set_ok {X : List Int} {j : Nat} {v : Int} {f : Nat → Int} (hj : j < X.length) (hE : ∀ i, i < j → X.getD i 0 = f i) (hv : v = f j) (i : Nat) (hi : i < j + 1) : (X.set j v).getD i 0 = f i := by
  rw [getD_setI]
  by_cases he : i = j
  · rw [if_pos ⟨he, hj⟩, he, hv]
  · rw [if_neg (fun h => he h.1)]
    exact hE i (by omega)
theorem rep_row {n i : Nat} (hi : i < n) : [i64 ((List.replicate n (0 : Int)).getD i 0)] = [i64 0] := by
  simp [List.getD_eq_getElem?_getD, hi]
theorem S131 (p : List Int) (R : List (List Int)) (h : RowsOk p R) : SP 131 [ints p, listsA R] (ints (nextL p R)) true := by
  have h1 := h.p2
  have h2 := h.lt
  have hpl : p.length ≤ 1000000 := by omega
  have htd := tdiv_le (a := (p.length : Int) - 1 - R.length) (b := 2) (by decide)
  have htn : 0 ≤ ((p.length : Int) - 1 - R.length).tdiv 2 := Int.tdiv_nonneg (by omega) (by decide)
  have hN : rowN p.length R.length ≤ 10 := by unfold rowN; omega
  have hb8 : Tryz.prog.types[3].bytes = 8 := by kernel_rfl
  refine sound (d := 2) tok2 mixed2 Tryz.func131 (by kernel_rfl) (by kernel_rfl) ?_
  conv => whnf
  refine ⟨inK64 (by omega) (by omega), ?_⟩
  conv => whnf
  refine ⟨inK64 (by omega) (by omega), ?_⟩
  conv => whnf
  refine ⟨⟨(by omega), inK64 (by omega) (by omega)⟩, ?_⟩
  conv => whnf
  refine ⟨inK64 (by omega) (by omega), ?_⟩
  conv => whnf
  refine ⟨⟨(by omega), ⟨(by omega), ⟨(by omega), (by show _ * ((8 : Nat) : Int) ≤ _; omega)⟩⟩⟩, ?_⟩
  conv => whnf
  refine ⟨[], [0, 1, 5, 6, 21, 22], fun st mq => ∃ (j : Nat) (X : List Int), (j ≤ rowN p.length R.length) ∧ (X.length = rowN p.length R.length) ∧ (∀ i, i < j → X.getD i 0 = rowAt p R i) ∧ st = ⟨[(0, ints p), (1, listsA R), (5, i64 R.length), (6, .oslice 0 0 0 (rowN p.length R.length) (some (rowN p.length R.length))), (21, i64 (rowN p.length R.length : Nat)), (22, i64 j)], ⟨[⟨1, rowN p.length R.length, fun i => [i64 (X.getD i 0)], 0, false, true, false⟩], [], none, 0⟩, []⟩ ∧ mq = rowN p.length R.length - j,
    ⟨_, _, ⟨0, List.replicate (rowN p.length R.length) 0, by omega, by simp, fun i h => absurd h (Nat.not_lt_zero i), rfl, rfl⟩, ⟨⟨.inl rfl, rfl, rfl, rfl⟩, ⟨⟨rfl, rfl, rfl, rfl, fun _ => rfl, fun i hi => .inl ((rep_row hi).trans rfl)⟩, trivial⟩, trivial⟩⟩, ?_⟩
  rintro s0 m0 ⟨j, X, hj, hX, hE, rfl, hmeas⟩
  by_cases hlt : j < rowN p.length R.length
  · by_cases hk : R.length < 2
    · have h158 := fun i hi => S158i p hpl i hi
      conv => whnf
      conv => whnf
      refine ifB_dec (fun w1 => ?_) (fun w1 => ?_)
      · conv => whnf
        conv => whnf
        refine ifB_dec (fun w2 => ?_) (fun w2 => ?_)
        · conv => whnf
          conv => whnf
          refine ⟨inK64 (by omega) (by omega), ?_⟩
          conv => whnf
          conv => whnf
          refine ⟨inK64 (by omega) (by omega), ?_⟩
          conv => whnf
          conv => whnf
          refine .inl ⟨_, _, byX rfl (Sound1.pl (h158 _ (by omega)) rfl), ?_⟩
          conv => whnf
          conv => whnf
          refine ⟨⟨(by omega), (by omega)⟩, ?_⟩
          refine ⟨_, fun i _ => rowI X j i _ (by omega), ?_⟩
          conv => whnf
          conv => whnf
          refine ⟨inK64 (by omega) (by omega), ?_⟩
          conv => whnf
          conv => whnf
          refine ⟨_, _, ⟨⟨j + 1, X.set j (entL p (2 * (j : Int) + R.length).toNat), by omega, (by rw [List.length_set]; exact hX), (set_ok (by omega) hE (by unfold rowAt; rw [if_pos hk, show (2 * (j : Int) + R.length).toNat = 2 * j + R.length by omega])), rfl, rfl⟩, by omega⟩, ⟨⟨.inl rfl, rfl, rfl, rfl⟩, ⟨⟨rfl, rfl, rfl, rfl, fun _ => rfl, fun _ _ => .inl rfl⟩, trivial⟩, trivial⟩⟩
        · (exfalso; omega)
      · (exfalso; omega)
    · have q1 := h.ne (R.length - 2) (by omega)
      have q2 := h.ne (R.length - 1) (by omega)
      have hra := rowAt_sml h j
      have e1 : ((R.length : Int) - 2).toNat = R.length - 2 := by omega
      have e2 : ((R.length : Int) - 1).toNat = R.length - 1 := by omega
      have hj1 : ((j : Int) + 1).toNat = j + 1 := by omega
      have hP := row_prods h hk j
      have hrw : rowAt p R j = (R.getD (R.length - 1) []).getD 0 0 * entL (R.getD (R.length - 2) []) (j + 1) - (R.getD (R.length - 2) []).getD 0 0 * entL (R.getD (R.length - 1) []) (j + 1) := by unfold rowAt; rw [if_neg hk]
      rw [← e1] at q1
      rw [← e2] at q2
      rw [← e1, ← e2, ← hj1] at hP hrw
      have P1 : ((R.getD ((R.length : Int) - 1).toNat []).getD (Int.toNat 0) 0 * entL (R.getD ((R.length : Int) - 2).toNat []) ((j : Int) + 1).toNat).natAbs ≤ 8000000000000000 := hP.1
      have P2 : ((R.getD ((R.length : Int) - 2).toNat []).getD (Int.toNat 0) 0 * entL (R.getD ((R.length : Int) - 1).toNat []) ((j : Int) + 1).toNat).natAbs ≤ 8000000000000000 := hP.2
      have h158 := fun l hl i hi => S158i l hl i hi
      conv => whnf
      conv => whnf
      refine ifB_dec (fun w1 => ?_) (fun w1 => ?_)
      · conv => whnf
        conv => whnf
        refine ifB_dec (fun w2 => ?_) (fun w2 => ?_)
        · (exfalso; omega)
        · conv => whnf
          conv => whnf
          refine ⟨[], by kernel_rfl, ?_⟩
          conv => whnf
          conv => whnf
          refine ⟨inK64 (by omega) (by omega), ?_⟩
          conv => whnf
          conv => whnf
          refine ⟨⟨(by omega), (by omega)⟩, ?_⟩
          conv => whnf
          conv => whnf
          refine ⟨inK64 (by omega) (by omega), ?_⟩
          conv => whnf
          conv => whnf
          refine ⟨⟨(by omega), (by omega)⟩, ?_⟩
          conv => whnf
          conv => whnf
          refine ⟨[], by kernel_rfl, ?_⟩
          conv => whnf
          conv => whnf
          refine ⟨⟨(by omega), (by omega)⟩, ?_⟩
          conv => whnf
          conv => whnf
          refine ⟨inK64 (by omega) (by omega), ?_⟩
          conv => whnf
          conv => whnf
          refine .inl ⟨_, _, byX rfl (Sound1.pl (h158 _ (by omega) _ (by omega)) rfl), ?_⟩
          conv => whnf
          conv => whnf
          refine ⟨inK64 (by omega) (by omega), ?_⟩
          conv => whnf
          conv => whnf
          refine ⟨⟨(by omega), (by omega)⟩, ?_⟩
          conv => whnf
          conv => whnf
          refine ⟨inK64 (by omega) (by omega), ?_⟩
          conv => whnf
          conv => whnf
          refine .inl ⟨_, _, byX rfl (Sound1.pl (h158 _ (by omega) _ (by omega)) rfl), ?_⟩
          conv => whnf
          conv => whnf
          refine ⟨inK64 (by omega) (by omega), ?_⟩
          conv => whnf
          conv => whnf
          refine ⟨inK64 (by omega) (by omega), ?_⟩
          conv => whnf
          conv => whnf
          refine ⟨⟨(by omega), (by omega)⟩, ?_⟩
          refine ⟨_, fun i _ => rowI X j i _ (by omega), ?_⟩
          conv => whnf
          conv => whnf
          refine ⟨inK64 (by omega) (by omega), ?_⟩
          conv => whnf
          conv => whnf
          refine ⟨_, _, ⟨⟨j + 1, X.set j ((R.getD ((R.length : Int) - 1).toNat []).getD (Int.toNat 0) 0 * entL (R.getD ((R.length : Int) - 2).toNat []) ((j : Int) + 1).toNat - (R.getD ((R.length : Int) - 2).toNat []).getD (Int.toNat 0) 0 * entL (R.getD ((R.length : Int) - 1).toNat []) ((j : Int) + 1).toNat), by omega, (by rw [List.length_set]; exact hX), (set_ok (by omega) hE (hrw ▸ rfl)), rfl, rfl⟩, by omega⟩, ⟨⟨.inl rfl, rfl, rfl, rfl⟩, ⟨⟨rfl, rfl, rfl, rfl, fun _ => rfl, fun _ _ => .inl rfl⟩, trivial⟩, trivial⟩⟩
      · (exfalso; omega)
  · have hXe : X = rawL p R := by
      refine List.ext_getElem (by rw [hX]; simp [rawL]) fun i g1 g2 => ?_
      have := hE i (by omega)
      rw [show X.getD i 0 = X[i] by simp [List.getD_eq_getElem?_getD, g1]] at this
      rw [this]; simp [rawL]
    have hXs : Sml 16000000000000000 X := fun x hx => by
      rw [hXe] at hx
      obtain ⟨i, _, rfl⟩ := List.mem_map.1 hx
      exact Nat.le_trans (rowAt_sml h i) (bnd_le _)
    unfold nextL
    rw [← hXe]
    clear hE hXe
    generalize rowN p.length R.length = N at hN hX hlt hj hmeas ⊢
    conv => whnf
    conv => whnf
    refine ifB_dec (fun w1 => ?_) (fun w1 => ?_)
    · (exfalso; omega)
    · conv => whnf
      conv => whnf
      refine .inr (.inl ⟨[], ?_⟩)
      conv => whnf
      conv => whnf
      refine ⟨[.forget [67, 23, 0, 1, 5, 6, 21, 22]], [0, 3, 7, 8, 9], fun st mq => ∃ (i : Nat) (a : Int), (i ≤ N) ∧ (a.natAbs = gcdR (X.take i)) ∧ st = ⟨[(0, .oslice 0 0 0 N (some N)), (3, i64 a), (7, .oslice 0 0 0 N (some N)), (8, i64 N), (9, i64 i)], ⟨[⟨1, N, fun i => [i64 (X.getD i 0)], 0, false, true, false⟩], [], none, 0⟩, []⟩ ∧ mq = N - i,
        ⟨_, _, ⟨0, 0, by omega, rfl, rfl, rfl⟩, ⟨⟨.inl rfl, rfl, rfl, rfl⟩, ⟨⟨rfl, rfl, rfl, rfl, fun _ => rfl, fun _ _ => .inl rfl⟩, trivial⟩, trivial⟩⟩, ?_⟩
      rintro s0 m0 ⟨i, a, hi, ha, rfl, hmeas⟩
      have hgl := gcdR_le (hXs.take i)
      by_cases hlt : i < N
      · have hx := hXs _ (getD_memI (show i < X.length by omega))
        have hi0 : 0 + (i : Int).toNat = i := by omega
        conv => whnf
        conv => whnf
        conv => whnf
        refine ifB_dec (fun w2 => ?_) (fun w2 => ?_)
        · conv => whnf
          conv => whnf
          conv => whnf
          refine ⟨⟨(by omega), (by omega)⟩, ?_⟩
          conv => whnf
          conv => whnf
          conv => whnf
          refine ⟨[], [0, 3, 5, 7, 8, 9], fun st mq => ∃ (c : Int) (b : Int), (c.natAbs ≤ 16000000000000000 ∧ b.natAbs ≤ 16000000000000000) ∧ (Nat.gcd c.natAbs b.natAbs = gcdR (X.take (i + 1))) ∧ st = ⟨[(0, .oslice 0 0 0 N (some N)), (3, i64 c), (5, i64 b), (7, .oslice 0 0 0 N (some N)), (8, i64 N), (9, i64 i)], ⟨[⟨1, N, fun i => [i64 (X.getD i 0)], 0, false, true, false⟩], [], none, 0⟩, []⟩ ∧ mq = b.natAbs,
            ⟨_, _, ⟨a, X.getD (0 + (i : Int).toNat) 0, ⟨by omega, (by rw [hi0]; exact hx)⟩, (by rw [hi0, take_snocI (by omega), gcdR_snoc, ha]), rfl, rfl⟩, ⟨⟨.inl rfl, rfl, rfl, rfl⟩, ⟨⟨rfl, rfl, rfl, rfl, fun _ => rfl, fun _ _ => .inl rfl⟩, trivial⟩, trivial⟩⟩, ?_⟩
          rintro s0 m0 ⟨c, b, hc, hg, rfl, hmeas⟩
          by_cases hb : b = 0
          · subst hb
            conv => whnf
            conv => whnf
            conv => whnf
            conv => whnf
            refine ⟨inK64 (by omega) (by omega), ?_⟩
            conv => whnf
            conv => whnf
            conv => whnf
            conv => whnf
            refine ⟨_, _, ⟨⟨i + 1, c, by omega, (by rw [← hg]; simp), rfl, rfl⟩, by omega⟩, ⟨⟨.inl rfl, rfl, rfl, rfl⟩, ⟨⟨rfl, rfl, rfl, rfl, fun _ => rfl, fun _ _ => .inl rfl⟩, trivial⟩, trivial⟩⟩
          · have ht := tmod_lt (a := c) hb
            conv => whnf
            conv => whnf
            conv => whnf
            conv => whnf
            refine ifB_bne (fun w3 => ?_) (fun w3 => ?_)
            · conv => whnf
              conv => whnf
              conv => whnf
              conv => whnf
              refine ⟨[], by kernel_rfl, ?_⟩
              conv => whnf
              conv => whnf
              conv => whnf
              conv => whnf
              refine ⟨(by omega), ?_⟩
              conv => whnf
              conv => whnf
              conv => whnf
              conv => whnf
              refine ⟨_, _, ⟨⟨b, c.tmod b, ⟨by omega, by omega⟩, (by rw [← hg, Int.natAbs_tmod, Nat.gcd_comm c.natAbs, Nat.gcd_rec b.natAbs c.natAbs, Nat.gcd_comm]), rfl, rfl⟩, by omega⟩, ⟨⟨.inl rfl, rfl, rfl, rfl⟩, ⟨⟨rfl, rfl, rfl, rfl, fun _ => rfl, fun _ _ => .inl rfl⟩, trivial⟩, trivial⟩⟩
            · (exfalso; omega)
        · (exfalso; omega)
      · have e : i = X.length := by omega
        rw [e, List.take_length] at ha
        rw [e, List.take_length] at hgl
        unfold redL
        rw [← ha]
        by_cases ha0 : a = 0
        · subst ha0
          rw [if_pos (show Int.natAbs 0 = 0 from rfl)]
          conv => whnf
          conv => whnf
          conv => whnf
          refine ifB_dec (fun w2 => ?_) (fun w2 => ?_)
          · (exfalso; omega)
          · conv => whnf
            conv => whnf
            conv => whnf
            refine ⟨?_, fun _ => ⟨rfl, ?_⟩⟩
            · exact ⟨rfl, hX.symm, fun i hi => rfl⟩
            · exact ⟨fun i _ x hx => ⟨_, List.mem_singleton.1 hx⟩, trivial⟩
        · rw [if_neg (by omega)]
          have h115 := S115 a (by omega)
          rw [show siz a = (a.natAbs : Nat) by unfold siz; split <;> omega] at h115
          conv => whnf
          conv => whnf
          conv => whnf
          refine ifB_dec (fun w2 => ?_) (fun w2 => ?_)
          · (exfalso; omega)
          · conv => whnf
            conv => whnf
            conv => whnf
            refine ifB_bne (fun w3 => ?_) (fun w3 => ?_)
            · conv => whnf
              conv => whnf
              conv => whnf
              refine ⟨[], [0, 3, 23, 24], fun st mq => ∃ (q : Nat) (Y : List Int), (q ≤ N) ∧ (Y.length = N) ∧ (∀ i, i < q → Y.getD i 0 = (X.getD i 0).tdiv (a.natAbs : Nat)) ∧ (∀ i, q ≤ i → Y.getD i 0 = X.getD i 0) ∧ st = ⟨[(0, .oslice 0 0 0 N (some N)), (3, i64 a), (23, i64 N), (24, i64 q)], ⟨[⟨1, N, fun i => [i64 (Y.getD i 0)], 0, false, true, false⟩], [], none, 0⟩, []⟩ ∧ mq = N - q,
                ⟨_, _, ⟨0, X, by omega, hX, (fun i h => absurd h (Nat.not_lt_zero i)), fun i _ => rfl, rfl, rfl⟩, ⟨⟨.inl rfl, rfl, rfl, rfl⟩, ⟨⟨rfl, rfl, rfl, rfl, fun _ => rfl, fun _ _ => .inl rfl⟩, trivial⟩, trivial⟩⟩, ?_⟩
              rintro s0 m0 ⟨q, Y, hq, hY, hYl, hYr, rfl, hmeas⟩
              by_cases hlq : q < N
              · have hq0 : 0 + (q : Int).toNat = q := by omega
                have hyq := hYr q (Nat.le_refl q)
                have hx := hXs _ (getD_memI (show q < X.length by omega))
                have ht := tdiv_sml (X.getD q 0) a.natAbs
                rw [← hyq] at hx ht
                rw [← hq0] at hx ht
                conv => whnf
                conv => whnf
                conv => whnf
                conv => whnf
                refine ifB_dec (fun w4 => ?_) (fun w4 => ?_)
                · conv => whnf
                  conv => whnf
                  conv => whnf
                  conv => whnf
                  refine ⟨[], by kernel_rfl, ?_⟩
                  conv => whnf
                  conv => whnf
                  conv => whnf
                  conv => whnf
                  refine ⟨⟨(by omega), (by omega)⟩, ?_⟩
                  conv => whnf
                  conv => whnf
                  conv => whnf
                  conv => whnf
                  refine .inl ⟨_, _, byX rfl (Sound1.pl (h115) rfl), ?_⟩
                  conv => whnf
                  conv => whnf
                  conv => whnf
                  conv => whnf
                  refine ⟨⟨(by omega), inK64 (by omega) (by omega)⟩, ?_⟩
                  conv => whnf
                  conv => whnf
                  conv => whnf
                  conv => whnf
                  refine ⟨⟨(by omega), (by omega)⟩, ?_⟩
                  refine ⟨_, fun i _ => rowI Y q i _ (by omega), ?_⟩
                  conv => whnf
                  conv => whnf
                  conv => whnf
                  conv => whnf
                  refine ⟨inK64 (by omega) (by omega), ?_⟩
                  conv => whnf
                  conv => whnf
                  conv => whnf
                  conv => whnf
                  refine ⟨_, _, ⟨⟨q + 1, Y.set q ((Y.getD (0 + (q : Int).toNat) 0).tdiv (a.natAbs : Nat)), by omega, (by rw [List.length_set]; exact hY), (set_ok (f := fun i => (X.getD i 0).tdiv (a.natAbs : Nat)) (by omega) hYl (by rw [hq0, hyq])), (fun i hi => by rw [getD_setI, if_neg (fun h => by omega)]; exact hYr i (by omega)), rfl, rfl⟩, by omega⟩, ⟨⟨.inl rfl, rfl, rfl, rfl⟩, ⟨⟨rfl, rfl, rfl, rfl, fun _ => rfl, fun _ _ => .inl rfl⟩, trivial⟩, trivial⟩⟩
                · (exfalso; omega)
              · have hYe : Y = X.map fun x => x.tdiv (a.natAbs : Nat) := by
                  refine List.ext_getElem (by rw [hY]; simp [hX]) fun i g1 g2 => ?_
                  have := hYl i (by omega)
                  rw [show Y.getD i 0 = Y[i] by simp [List.getD_eq_getElem?_getD, g1], show X.getD i 0 = X[i]'(by omega) by simp [List.getD_eq_getElem?_getD, show i < X.length by omega]] at this
                  rw [this]; simp
                rw [← hYe]
                conv => whnf
                conv => whnf
                conv => whnf
                conv => whnf
                refine ifB_dec (fun w4 => ?_) (fun w4 => ?_)
                · (exfalso; omega)
                · conv => whnf
                  conv => whnf
                  conv => whnf
                  conv => whnf
                  refine ⟨?_, fun _ => ⟨rfl, ?_⟩⟩
                  · exact ⟨rfl, hY.symm, fun i hi => rfl⟩
                  · exact ⟨fun i _ x hx => ⟨_, List.mem_singleton.1 hx⟩, trivial⟩
            · (exfalso; omega)
end Go.Tr

/- Contracts of chapter 6: the table of a polynomial; is it stable? Conditions: none. -/
namespace Go.Tr
open Go Go.Proofs
set_option maxRecDepth 20000
set_option maxHeartbeats 8000000

/-- Row after row, until one does not begin above 0. -/
def tabG (p : List Int) : Nat → List (List Int) → List (List Int)
  | 0, R => R
  | n + 1, R => if (nextL p R).getD 0 0 ≤ 0 then R ++ [nextL p R] else tabG p n (R ++ [nextL p R])
def tabL (p : List Int) : List (List Int) := tabG p p.length []
structure PolyOk (p : List Int) : Prop where
  p2 : 2 ≤ p.length ∧ p.length ≤ 5
  ps : Sml 1000 p
  p0 : 0 < p.getD 0 0
theorem coef_all : ∀ (l : List Int) (k : Nat), (eachI (fun _ x => coefE x) l k).2 = 0 → Sml 1000 l
  | [], _, _, x, hx => by cases hx
  | y :: l, k, h, x, hx => by
    unfold eachI at h
    by_cases hy : coefE y = 0
    · rw [if_pos hy] at h
      rcases List.mem_cons.1 hx with e | hx
      · rw [e]
        unfold coefE at hy
        split at hy
        · omega
        · omega
      · exact coef_all l (k + 1) h x hx
    · rw [if_neg hy] at h; exact absurd h hy
theorem PolyOk.of {p : List Int} (h : polyE p = 0) : PolyOk p := by
  unfold polyE at h
  by_cases h1 : shapeE p.length = 0
  · rw [if_neg (not_not_intro h1)] at h
    by_cases h2 : coefsE p = 0
    · rw [if_neg (not_not_intro h2)] at h
      by_cases h3 : p.getD 0 0 > 0
      · exact ⟨shape_ok h1, coef_all p 0 h2, h3⟩
      · rw [if_neg h3] at h; omega
    · rw [if_pos h2] at h; exact absurd h h2
  · rw [if_pos h1] at h; exact absurd h h1
theorem rowN_in {m k : Nat} (hm : m ≤ 5) (hk : k < m) : 1 ≤ rowN m k ∧ rowN m k ≤ 5 := by
  have h1 : 0 ≤ ((m : Int) - 1 - k).tdiv 2 := Int.tdiv_nonneg (by omega) (by decide)
  have h2 := tdiv_le (a := (m : Int) - 1 - k) (b := 2) (by decide)
  unfold rowN
  omega
theorem nextL_len (p : List Int) (R : List (List Int)) : (nextL p R).length = rowN p.length R.length := by
  unfold nextL
  rw [redL_len]; simp [rawL]
theorem nextL_sml {p : List Int} {R : List (List Int)} (h : RowsOk p R) : Sml (bnd R.length) (nextL p R) := by
  unfold nextL
  refine redL_sml fun x hx => ?_
  obtain ⟨i, _, rfl⟩ := List.mem_map.1 hx
  exact rowAt_sml h i
theorem getD_snoc {α : Type} (l : List α) (x d : α) (i : Nat) (hi : i < l.length + 1) : (l ++ [x]).getD i d = if i < l.length then l.getD i d else x := by
  by_cases h : i < l.length
  · rw [if_pos h]; simp [List.getD_eq_getElem?_getD, h, List.getElem?_append_left h]
  · obtain rfl : i = l.length := by omega
    rw [if_neg h]; simp [List.getD_eq_getElem?_getD]
/-- What holds of the rows so far. -/
structure RowsIn (p : List Int) (R : List (List Int)) : Prop where
  p2 : 2 ≤ p.length ∧ p.length ≤ 5
  ps : Sml 1000 p
  le : R.length ≤ p.length
  ne : ∀ i, i < R.length → 1 ≤ (R.getD i []).length ∧ (R.getD i []).length ≤ 5
  sm : ∀ i, i < R.length → Sml (bnd i) (R.getD i [])
theorem RowsIn.ok {p : List Int} {R : List (List Int)} (h : RowsIn p R) (hl : R.length < p.length) : RowsOk p R := ⟨h.p2, h.ps, hl, h.ne, h.sm⟩
theorem RowsIn.next {p : List Int} {R : List (List Int)} (h : RowsIn p R) (hl : R.length < p.length) : RowsIn p (R ++ [nextL p R]) := by
  have hr := rowN_in h.p2.2 hl
  have hL := nextL_len p R
  refine ⟨h.p2, h.ps, by rw [List.length_append]; show R.length + 1 ≤ _; omega, fun i hi => ?_, fun i hi => ?_⟩
  · rw [List.length_append] at hi
    have hi : i < R.length + 1 := hi
    rw [getD_snoc _ _ _ _ hi]
    by_cases hlt : i < R.length
    · rw [if_pos hlt]; exact h.ne i hlt
    · rw [if_neg hlt, hL]; exact hr
  · rw [List.length_append] at hi
    have hi : i < R.length + 1 := hi
    rw [getD_snoc _ _ _ _ hi]
    by_cases hlt : i < R.length
    · rw [if_pos hlt]; exact h.sm i hlt
    · rw [if_neg hlt, show i = R.length by omega]; exact nextL_sml (h.ok hl)
theorem approw {R : List (List Int)} {x : List Int} {m : Nat} (hm : R.length = m) (i : Nat) (hi : i < m + 1) : [ints ((R ++ [x]).getD i [])] = if i < m then [ints (R.getD (0 + i) [])] else List.take 1 (List.drop ((i - m) * 1) [ints x]) := by
  subst hm
  rw [Nat.zero_add, getD_snoc _ _ _ _ hi]
  by_cases h : i < R.length
  · rw [if_pos h, if_pos h]
  · rw [if_neg h, if_neg h, show i - R.length = 0 by omega]; rfl
theorem S128 (p : List Int) (hp : PolyOk p) : SP 128 [ints p] (listsA (tabL p)) false := by
  have h2 := hp.p2
  unfold tabL
  refine sound (d := 2) tok2 mixed2 Tryz.func128 (by kernel_rfl) (by kernel_rfl) ?_
  conv => whnf
  refine ⟨[.slot 3 1], [0, 3], fun st mq => ∃ (k : Nat) (R : List (List Int)) (n : Nat), (R.length = k) ∧ (k + n = p.length) ∧ (RowsIn p R) ∧ (tabG p n R = tabG p p.length []) ∧ st = ⟨[(0, ints p), (3, .oslice 0 0 0 k none)], ⟨[⟨1, k, fun i => [ints (R.getD i [])], 0, false, true, false⟩], [], none, 0⟩, []⟩ ∧ mq = n,
    ⟨_, _, ⟨0, [], p.length, rfl, by omega, ⟨h2, hp.ps, Nat.zero_le _, (fun i h => absurd h (Nat.not_lt_zero i)), fun i h => absurd h (Nat.not_lt_zero i)⟩, rfl, rfl, rfl⟩, ⟨⟨.inl rfl, rfl, rfl, rfl⟩, ⟨⟨rfl, rfl, rfl, rfl, fun _ => rfl, fun i h => .inl (absurd h (Nat.not_lt_zero i))⟩, trivial⟩, trivial⟩⟩, ?_⟩
  rintro s0 m0 ⟨k, R, n, hk, hn, hR, hT, rfl, hmeas⟩
  subst hk
  by_cases hlt : R.length < p.length
  · have h131 := S131 p R (hR.ok hlt)
    have hl := nextL_len p R
    have hrn := rowN_in h2.2 hlt
    have hT2 : tabG p n R = if (nextL p R).getD 0 0 ≤ 0 then R ++ [nextL p R] else tabG p (n - 1) (R ++ [nextL p R]) := by
      rw [show n = (n - 1) + 1 by omega]; rfl
    rw [hT2] at hT
    conv => whnf
    conv => whnf
    refine ifB_dec (fun w1 => ?_) (fun w1 => ?_)
    · conv => whnf
      conv => whnf
      refine .inr (.inr (.inr ⟨rfl, _, byX rfl (h131), ?_⟩))
      conv => whnf
      conv => whnf
      refine .inl ?_
      conv => whnf
      conv => whnf
      refine ⟨(by show _ * (24 + 1) ≤ _; omega), ?_⟩
      conv => whnf
      conv => whnf
      refine ⟨⟨(by omega), (by omega)⟩, ?_⟩
      conv => whnf
      conv => whnf
      refine ifB_dec (fun w2 => ?_) (fun w2 => ?_)
      · conv => whnf
        conv => whnf
        refine ⟨?_, nofun⟩
        have w2 : (nextL p R).getD 0 0 ≤ 0 := w2
        rw [if_pos w2] at hT
        rw [← hT]
        exact ⟨rfl, by rw [List.length_append]; rfl, fun i hi => (approw rfl i hi).symm⟩
      · have w2 : ¬ (nextL p R).getD 0 0 ≤ 0 := w2
        rw [if_neg w2] at hT
        conv => whnf
        conv => whnf
        refine ⟨_, _, ⟨⟨R.length + 1, R ++ [nextL p R], n - 1, (by rw [List.length_append]; rfl), by omega, hR.next hlt, hT, rfl, rfl⟩, by omega⟩, ⟨⟨.inl rfl, rfl, rfl, rfl⟩, ⟨⟨rfl, rfl, rfl, rfl, fun _ => rfl, fun i hi => .inl (approw rfl i hi)⟩, trivial⟩, trivial⟩⟩
    · (exfalso; omega)
  · have hn0 : n = 0 := by omega
    subst hn0
    rw [← hT]
    conv => whnf
    conv => whnf
    refine ifB_dec (fun w1 => ?_) (fun w1 => ?_)
    · (exfalso; omega)
    · conv => whnf
      conv => whnf
      refine ⟨?_, nofun⟩
      exact ⟨rfl, rfl, fun i hi => rfl⟩
theorem tabG_in {p : List Int} : ∀ (n : Nat) (R : List (List Int)), R.length + n = p.length → RowsIn p R → RowsIn p (tabG p n R) ∧ R.length ≤ (tabG p n R).length
  | 0, R, _, h => ⟨h, Nat.le_refl _⟩
  | n + 1, R, hn, h => by
    have hx := h.next (show R.length < p.length by omega)
    unfold tabG
    split
    · exact ⟨hx, by rw [List.length_append]; omega⟩
    · have := tabG_in n (R ++ [nextL p R]) (by rw [List.length_append]; show R.length + 1 + n = _; omega) hx
      exact ⟨this.1, by have h2 := this.2; rw [List.length_append] at h2; omega⟩
theorem tab_in {p : List Int} (hp : PolyOk p) : RowsIn p (tabL p) := (tabG_in p.length [] (by simp) ⟨hp.p2, hp.ps, Nat.zero_le _, (fun i h => absurd h (Nat.not_lt_zero i)), fun i h => absurd h (Nat.not_lt_zero i)⟩).1
/-- Has the table a row for each coefficient, and does the last one begin above 0? -/
def stabB (p : List Int) : Bool := decide ((tabL p).length = p.length) && decide (((tabL p).getD ((tabL p).length - 1) []).getD 0 0 > 0)
theorem S109 (p : List Int) (hp : PolyOk p) : SP 109 [ints p] (vb (stabB p)) false := by
  have h128 := S128 p hp
  have hi := tab_in hp
  have h2 := hp.p2
  have hle := hi.le
  unfold stabB
  generalize tabL p = R at h128 hi hle ⊢
  by_cases he : R.length = p.length
  · have hne := hi.ne (R.length - 1) (by omega)
    have e1 : ((R.length : Int) - 1).toNat = R.length - 1 := by omega
    rw [← e1] at hne ⊢
    rw [decide_eq_true he, Bool.true_and]
    refine sound (d := 2) tok2 mixed2 Tryz.func109 (by kernel_rfl) (by kernel_rfl) ?_
    conv => whnf
    refine .inl ⟨_, _, byX rfl (h128), ?_⟩
    conv => whnf
    refine ifB_beq (fun w1 => ?_) (fun w1 => ?_)
    · conv => whnf
      refine ⟨inK64 (by omega) (by omega), ?_⟩
      conv => whnf
      refine ⟨⟨(by omega), (by omega)⟩, ?_⟩
      conv => whnf
      refine ⟨⟨(by omega), (by omega)⟩, ?_⟩
      conv => whnf
      refine ⟨?_, nofun⟩
      rfl
    · (exfalso; omega)
  · rw [decide_eq_false he, Bool.false_and]
    refine sound (d := 2) tok2 mixed2 Tryz.func109 (by kernel_rfl) (by kernel_rfl) ?_
    conv => whnf
    refine .inl ⟨_, _, byX rfl (h128), ?_⟩
    conv => whnf
    refine ifB_beq (fun w1 => ?_) (fun w1 => ?_)
    · (exfalso; omega)
    · conv => whnf
      refine ⟨?_, nofun⟩
      rfl
theorem S37 (p : List Int) (hl : p.length ≤ 1000000) : SP 37 [ints p] (.tuple [vb (if polyE p = 0 then stabB p else false), i64 (polyE p)]) false := by
  have h64 := S64 p hl
  by_cases h : polyE p = 0
  · have h109 := S109 p (PolyOk.of h)
    rw [if_pos h]
    refine sound (d := 2) tok2 mixed2 Tryz.func37 (by kernel_rfl) (by kernel_rfl) ?_
    conv => whnf
    refine .inl ⟨_, _, byX rfl (Sound1.pl (h64) rfl), ?_⟩
    conv => whnf
    refine ifB_bne (fun w1 => ?_) (fun w1 => ?_)
    · (exfalso; omega)
    · conv => whnf
      refine .inl ⟨_, _, byX rfl (Sound1.pl (h109) rfl), ?_⟩
      conv => whnf
      refine ⟨?_, nofun⟩
      rw [h]
      exact ave_tup2 rfl rfl
  · rw [if_neg h]
    refine sound (d := 2) tok2 mixed2 Tryz.func37 (by kernel_rfl) (by kernel_rfl) ?_
    conv => whnf
    refine .inl ⟨_, _, byX rfl (Sound1.pl (h64) rfl), ?_⟩
    conv => whnf
    refine ifB_bne (fun w1 => ?_) (fun w1 => ?_)
    · conv => whnf
      refine ⟨?_, nofun⟩
      exact ave_tup2 rfl rfl
    · (exfalso; omega)
theorem S61 (p : List Int) (hl : p.length ≤ 1000000) : SP 61 [ints p] (.tuple [listsA (if polyE p = 0 then tabL p else []), i64 (polyE p)]) false := by
  have h64 := S64 p hl
  by_cases h : polyE p = 0
  · have h128 := S128 p (PolyOk.of h)
    rw [if_pos h]
    refine sound (d := 2) tok2 mixed2 Tryz.func61 (by kernel_rfl) (by kernel_rfl) ?_
    conv => whnf
    refine .inl ⟨_, _, byX rfl (Sound1.pl (h64) rfl), ?_⟩
    conv => whnf
    refine ifB_bne (fun w1 => ?_) (fun w1 => ?_)
    · (exfalso; omega)
    · conv => whnf
      refine .inl ⟨_, _, byX rfl (h128), ?_⟩
      conv => whnf
      refine ⟨?_, nofun⟩
      rw [h]
      exact ave_tup2 ⟨rfl, rfl, fun i hi => rfl⟩ rfl
  · rw [if_neg h]
    refine sound (d := 2) tok2 mixed2 Tryz.func61 (by kernel_rfl) (by kernel_rfl) ?_
    conv => whnf
    refine .inl ⟨_, _, byX rfl (Sound1.pl (h64) rfl), ?_⟩
    conv => whnf
    refine ifB_bne (fun w1 => ?_) (fun w1 => ?_)
    · conv => whnf
      refine ⟨?_, nofun⟩
      exact ave_tup2 rfl rfl
    · (exfalso; omega)
end Go.Tr

/- Contracts of chapter 6: lists of lists; the reference's table. Conditions: none. -/
namespace Go.Tr
open Go Go.Proofs
set_option maxRecDepth 20000
set_option maxHeartbeats 8000000

theorem S17 (l : List Int) (hl : l.length ≤ 9223372036854775807) : SP 17 [ints l] (vb (decide (l.length ≤ 7))) false := by
  refine sound (d := 2) tok2 mixed2 Tryz.func17 (by kernel_rfl) (by kernel_rfl) ?_
  conv => whnf
  refine ⟨?_, nofun⟩
  exact congrArg (fun b => vb b) (by rw [Bool.eq_iff_iff]; simp only [decide_eq_true_eq]; omega)
theorem lists_row {L : List (List Int)} {k i : Nat} (hi : i < k + 1) : [ints (L.getD i [])] = if i < k then [ints (L.getD (0 + i) [])] else List.take 1 (List.drop ((i - k) * 1) [ints (L.getD k [])]) := by
  rw [Nat.zero_add]
  by_cases e : i < k
  · rw [if_pos e]
  · rw [if_neg e, show i = k by omega, Nat.sub_self, Nat.zero_mul]; rfl
theorem getD_memL {L : List (List Int)} {i : Nat} (h : i < L.length) : L.getD i [] ∈ L := by
  simp [List.getD_eq_getElem?_getD, h]
theorem S63 (L : List (List Int)) (hL : L.length ≤ 1000000) (hl : ∀ l ∈ L, l.length ≤ 1000) : SP 63 [listsA L] (listsA L) false := by
  have h19 := fun l (h : l.length ≤ 1000) => S19 l (by omega)
  refine sound (d := 2) tok2 mixed2 Tryz.func63 (by kernel_rfl) (by kernel_rfl) ?_
  conv => whnf
  refine ⟨[.slot 3 1], [0, 3, 4], fun st mq => ∃ (k : Nat), (k ≤ L.length) ∧ st = ⟨[(0, listsA L), (3, .oslice 0 0 0 k none), (4, i64 k)], ⟨[⟨1, k, fun i => [ints (L.getD i [])], 0, false, true, false⟩], [], none, 0⟩, []⟩ ∧ mq = L.length - k,
    ⟨_, _, ⟨0, by omega, rfl, rfl⟩, ⟨⟨.inl rfl, rfl, rfl, rfl⟩, ⟨⟨rfl, rfl, rfl, rfl, fun _ => rfl, fun i h => .inl (absurd h (Nat.not_lt_zero i))⟩, trivial⟩, trivial⟩⟩, ?_⟩
  rintro s0 m0 ⟨k, hk, rfl, hmeas⟩
  by_cases hkl : k < L.length
  · have hm := hl (L.getD (k : Int).toNat []) (getD_memL hkl)
    have h19k := h19 _ hm
    conv => whnf
    conv => whnf
    refine ifB_dec (fun w1 => ?_) (fun w1 => ?_)
    · conv => whnf
      conv => whnf
      refine ⟨⟨(by omega), (by omega)⟩, ?_⟩
      conv => whnf
      conv => whnf
      refine .inl ⟨_, _, byX rfl (h19k), ?_⟩
      conv => whnf
      conv => whnf
      refine .inl ?_
      conv => whnf
      conv => whnf
      refine ⟨(by show _ * (24 + 1) ≤ _; omega), ?_⟩
      conv => whnf
      conv => whnf
      refine ⟨inK64 (by omega) (by omega), ?_⟩
      conv => whnf
      conv => whnf
      refine ⟨_, _, ⟨⟨k + 1, by omega, rfl, rfl⟩, by omega⟩, ⟨⟨.inl rfl, rfl, rfl, rfl⟩, ⟨⟨rfl, rfl, rfl, rfl, fun _ => rfl, fun i h => .inl (lists_row h)⟩, trivial⟩, trivial⟩⟩
    · (exfalso; omega)
  · have e : k = L.length := by omega
    subst e
    conv => whnf
    conv => whnf
    refine ifB_dec (fun w1 => ?_) (fun w1 => ?_)
    · (exfalso; omega)
    · conv => whnf
      conv => whnf
      refine ⟨?_, nofun⟩
      exact ⟨rfl, rfl, fun _ _ => rfl⟩
theorem S32 (A B : List (List Int)) (hA : A.length ≤ 1000000) (hB : B.length ≤ 1000000) (ha : ∀ l ∈ A, l.length ≤ 1000) (hb : ∀ l ∈ B, l.length ≤ 1000) : SP 32 [listsA A, listsA B] (vb (decide (A = B))) false := by
  have h26 := fun a b (h1 : a.length ≤ 1000) (h2 : b.length ≤ 1000) => S26 a b (by omega) (by omega)
  refine sound (d := 2) tok2 mixed2 Tryz.func32 (by kernel_rfl) (by kernel_rfl) ?_
  conv => whnf
  refine ifB_bne (fun w1 => ?_) (fun w1 => ?_)
  · conv => whnf
    refine ⟨?_, nofun⟩
    show vb false = vb _
    rw [decide_eq_false]
    intro e; subst e; exact w1 rfl
  · have hab : A.length = B.length := by omega
    conv => whnf
    refine ⟨[], [0, 1, 5], fun st mq => ∃ (k : Nat), (k ≤ A.length) ∧ (∀ i, i < k → A.getD i [] = B.getD i []) ∧ st = ⟨[(0, listsA A), (1, listsA B), (5, i64 k)], ⟨[], [], none, 0⟩, []⟩ ∧ mq = A.length - k,
      ⟨_, _, ⟨0, by omega, fun i h => absurd h (Nat.not_lt_zero i), rfl, rfl⟩, ⟨⟨.inl rfl, rfl, rfl, rfl⟩, trivial, trivial⟩⟩, ?_⟩
    rintro s0 m0 ⟨k, hk, h1, rfl, hmeas⟩
    by_cases hlt : k < A.length
    · have m1 := ha (A.getD (k : Int).toNat []) (getD_memL hlt)
      have m2 := hb (B.getD (k : Int).toNat []) (getD_memL (by omega))
      have h26k := h26 _ _ m1 m2
      conv => whnf
      conv => whnf
      refine ifB_dec (fun w2 => ?_) (fun w2 => ?_)
      · conv => whnf
        conv => whnf
        refine ⟨[], by kernel_rfl, ?_⟩
        conv => whnf
        conv => whnf
        refine ⟨⟨(by omega), (by omega)⟩, ?_⟩
        conv => whnf
        conv => whnf
        refine ⟨⟨(by omega), (by omega)⟩, ?_⟩
        conv => whnf
        conv => whnf
        refine .inl ⟨_, _, byX rfl (Sound1.pl (h26k) rfl), ?_⟩
        conv => whnf
        conv => whnf
        refine ifB_not ?_
        conv => whnf
        conv => whnf
        refine ifB_dec (fun w3 => ?_) (fun w3 => ?_)
        · conv => whnf
          conv => whnf
          refine ⟨inK64 (by omega) (by omega), ?_⟩
          have e : A.getD k [] = B.getD k [] := w3
          conv => whnf
          conv => whnf
          refine ⟨_, _, ⟨⟨k + 1, by omega, fun i hi => (by rcases Nat.lt_or_ge i k with h | h; exact h1 i h; rw [show i = k by omega]; exact e), rfl, rfl⟩, by omega⟩, ⟨⟨.inl rfl, rfl, rfl, rfl⟩, trivial, trivial⟩⟩
        · conv => whnf
          conv => whnf
          refine ⟨?_, nofun⟩
          have e : ¬ A.getD k [] = B.getD k [] := w3
          show vb false = vb _
          rw [decide_eq_false]
          intro h; subst h; exact e rfl
      · (exfalso; omega)
    · have e : k = A.length := by omega
      subst e
      conv => whnf
      conv => whnf
      refine ifB_dec (fun w2 => ?_) (fun w2 => ?_)
      · (exfalso; omega)
      · conv => whnf
        conv => whnf
        refine ⟨?_, nofun⟩
        show vb true = vb _
        rw [decide_eq_true]
        refine List.ext_getElem hab fun i g1 g2 => ?_
        have := h1 i g1
        simpa [List.getD_eq_getElem?_getD, g1, g2] using this
theorem S130 (a b : List Int) (ha : a.length ≤ 1000000000) (hb : b.length ≤ 1000000000) : SP 130 [ints a, ints b] (vb (decide (a = b))) false := by
  refine sound (d := 2) tok2 mixed2 Tryz.func130 (by kernel_rfl) (by kernel_rfl) ?_
  conv => whnf
  refine ifB_bne (fun w1 => ?_) (fun w1 => ?_)
  · conv => whnf
    refine ⟨?_, nofun⟩
    show vb false = vb _
    rw [decide_eq_false]
    intro e; subst e; exact w1 rfl
  · have hab : a.length = b.length := by omega
    conv => whnf
    refine ⟨[], [0, 1, 12, 13], fun st mq => ∃ (k : Nat), (k ≤ a.length) ∧ (∀ i, i < k → a.getD i 0 = b.getD i 0) ∧ st = ⟨[(0, ints a), (1, ints b), (12, i64 a.length), (13, i64 k)], ⟨[], [], none, 0⟩, []⟩ ∧ mq = a.length - k,
      ⟨_, _, ⟨0, by omega, fun i h => absurd h (Nat.not_lt_zero i), rfl, rfl⟩, ⟨⟨.inl rfl, rfl, rfl, rfl⟩, trivial, trivial⟩⟩, ?_⟩
    rintro s0 m0 ⟨k, hk, h1, rfl, hmeas⟩
    conv => whnf
    conv => whnf
    refine ifB_dec (fun w2 => ?_) (fun w2 => ?_)
    · conv => whnf
      conv => whnf
      refine ⟨[], by kernel_rfl, ?_⟩
      conv => whnf
      conv => whnf
      refine ⟨⟨(by omega), (by omega)⟩, ?_⟩
      conv => whnf
      conv => whnf
      refine ⟨⟨(by omega), (by omega)⟩, ?_⟩
      conv => whnf
      conv => whnf
      refine ifB_bne (fun w3 => ?_) (fun w3 => ?_)
      · conv => whnf
        conv => whnf
        refine ⟨?_, nofun⟩
        have e : ¬ a.getD k 0 = b.getD k 0 := w3
        show vb false = vb _
        rw [decide_eq_false]
        intro h; subst h; exact e rfl
      · conv => whnf
        conv => whnf
        refine ⟨inK64 (by omega) (by omega), ?_⟩
        have e : a.getD k 0 = b.getD k 0 := w3
        conv => whnf
        conv => whnf
        refine ⟨_, _, ⟨⟨k + 1, by omega, fun i hi => (by rcases Nat.lt_or_ge i k with h | h; exact h1 i h; rw [show i = k by omega]; exact e), rfl, rfl⟩, by omega⟩, ⟨⟨.inl rfl, rfl, rfl, rfl⟩, trivial, trivial⟩⟩
    · conv => whnf
      conv => whnf
      refine ⟨?_, nofun⟩
      have e : k = a.length := by omega
      subst e
      show vb true = vb _
      rw [decide_eq_true]
      refine List.ext_getElem hab fun i g1 g2 => ?_
      have := h1 i g1
      simpa [List.getD_eq_getElem?_getD, g1, g2] using this
end Go.Tr

/- Contracts of chapter 6: the reference's table. Conditions: none. -/
namespace Go.Tr
open Go Go.Proofs
set_option maxRecDepth 20000
set_option maxHeartbeats 8000000

def eveL (p : List Int) (n : Nat) : List Int := (List.range n).map fun j => entL p (2 * j)
def odL (p : List Int) (n : Nat) : List Int := (List.range n).map fun j => entL p (2 * j + 1)
theorem range_row {f : Nat → Int} (n i : Nat) (v : Int) (hv : v = f n) (hi : i < n + 1) : [i64 (((List.range (n + 1)).map f).getD i 0)] = if i < n then [i64 (((List.range n).map f).getD (0 + i) 0)] else List.take 1 (List.drop ((i - n) * 1) [i64 v]) := by
  subst hv
  rw [Nat.zero_add]
  by_cases h : i < n
  · rw [if_pos h]; simp [List.getD_eq_getElem?_getD, h, hi]
  · rw [if_neg h, show i = n by omega]; simp [List.getD_eq_getElem?_getD]
theorem rowN0 {m : Nat} (h : 2 ≤ m) : rowN m 0 = (m + 1) / 2 := by
  unfold rowN
  rw [Int.tdiv_eq_ediv_of_nonneg (by omega)]
  omega
theorem rowN1 {m : Nat} (h : 2 ≤ m) : rowN m 1 = m / 2 := by
  unfold rowN
  rw [Int.tdiv_eq_ediv_of_nonneg (by omega)]
  omega
theorem raw0 (p : List Int) (h : 2 ≤ p.length) : rawL p [] = eveL p ((p.length + 1) / 2) := by
  unfold rawL eveL
  rw [show ([] : List (List Int)).length = 0 from rfl, rowN0 h]
  rfl
theorem raw1 (p : List Int) (x : List Int) (h : 2 ≤ p.length) : rawL p [x] = odL p (p.length / 2) := by
  unfold rawL odL
  rw [show [x].length = 1 from rfl, rowN1 h]
  rfl
theorem ev_sml {p : List Int} (h : Sml 1000 p) (n : Nat) : Sml 1000 (eveL p n) := fun x hx => by
  obtain ⟨j, _, rfl⟩ := List.mem_map.1 hx
  exact ent_sml h _
theorem od_sml {p : List Int} (h : Sml 1000 p) (n : Nat) : Sml 1000 (odL p n) := fun x hx => by
  obtain ⟨j, _, rfl⟩ := List.mem_map.1 hx
  exact ent_sml h _
theorem Sml.mono {A B : Nat} {l : List Int} (h : Sml A l) (hab : A ≤ B) : Sml B l := fun x hx => Nat.le_trans (h x hx) hab
theorem tmod2 (i : Nat) : ((i : Int).tmod 2) = ((i % 2 : Nat) : Int) := by
  rw [Int.tmod_eq_emod_of_nonneg (by omega)]
  omega
theorem S133n (l : List Int) (n : Nat) (hn : l.length = n) (hl : n ≤ 1000) (h : Sml 9223372036854775807 l) : SP 133 [.rslice 1 n fun i => [i64 (l.getD i 0)]] (ints (redL l)) false := by
  subst hn
  exact S133 l hl h
theorem S66 (p : List Int) (hp : PolyOk p) : SP 66 [ints p] (listsA (tabL p)) false := by
  have h2 := hp.p2
  refine sound (d := 2) tok2 mixed2 Tryz.func66 (by kernel_rfl) (by kernel_rfl) ?_
  conv => whnf
  refine ⟨[.slot 3 1, .slot 4 1], [0, 3, 4, 5], fun st mq => ∃ (i : Nat) (n : Nat) (m : Nat), (i ≤ p.length) ∧ (n = (i + 1) / 2) ∧ (m = i / 2) ∧ st = ⟨[(0, ints p), (3, .oslice 0 0 0 n none), (4, .oslice 1 0 0 m none), (5, i64 i)], ⟨[⟨1, n, fun k => [i64 ((eveL p n).getD k 0)], 0, false, true, false⟩, ⟨1, m, fun k => [i64 ((odL p m).getD k 0)], 0, false, true, false⟩], [], none, 0⟩, []⟩ ∧ mq = p.length - i,
    ⟨_, _, ⟨0, 0, 0, by omega, rfl, rfl, rfl, rfl⟩, ⟨⟨.inl rfl, rfl, rfl, rfl⟩, ⟨⟨rfl, rfl, rfl, rfl, fun _ => rfl, fun i h => .inl (absurd h (Nat.not_lt_zero i))⟩, ⟨⟨rfl, rfl, rfl, rfl, fun _ => rfl, fun i h => .inl (absurd h (Nat.not_lt_zero i))⟩, trivial⟩⟩, trivial⟩⟩, ?_⟩
  rintro s0 m0 ⟨i, n, m, hi, hn, hm, rfl, hmeas⟩
  have htm := tmod2 i
  by_cases hlt : i < p.length
  · by_cases he : i % 2 = 0
    · rw [he] at htm
      conv => whnf
      conv => whnf
      refine ifB_dec (fun w1 => ?_) (fun w1 => ?_)
      · conv => whnf
        conv => whnf
        refine ⟨(by omega), ?_⟩
        conv => whnf
        conv => whnf
        refine ifB_beq (fun w2 => ?_) (fun w2 => ?_)
        · conv => whnf
          conv => whnf
          refine ⟨⟨(by omega), (by omega)⟩, ?_⟩
          conv => whnf
          conv => whnf
          refine .inl ?_
          conv => whnf
          conv => whnf
          refine ⟨(by show _ * (8 + 1) ≤ _; omega), ?_⟩
          conv => whnf
          conv => whnf
          refine ⟨inK64 (by omega) (by omega), ?_⟩
          conv => whnf
          conv => whnf
          refine ⟨_, _, ⟨⟨i + 1, n + 1, m, by omega, by omega, by omega, rfl, rfl⟩, by omega⟩, ⟨⟨.inl rfl, rfl, rfl, rfl⟩, ⟨⟨rfl, rfl, rfl, rfl, fun _ => rfl, fun k hk => .inl (range_row (f := fun j => entL p (2 * j)) n k _ (by unfold entL; rw [show 2 * n = i by omega]; rfl) hk)⟩, ⟨⟨rfl, rfl, rfl, rfl, fun _ => rfl, fun _ _ => .inl rfl⟩, trivial⟩⟩, trivial⟩⟩
        · (exfalso; omega)
      · (exfalso; omega)
    · rw [show i % 2 = 1 by omega] at htm
      conv => whnf
      conv => whnf
      refine ifB_dec (fun w1 => ?_) (fun w1 => ?_)
      · conv => whnf
        conv => whnf
        refine ⟨(by omega), ?_⟩
        conv => whnf
        conv => whnf
        refine ifB_beq (fun w2 => ?_) (fun w2 => ?_)
        · (exfalso; omega)
        · conv => whnf
          conv => whnf
          refine ⟨⟨(by omega), (by omega)⟩, ?_⟩
          conv => whnf
          conv => whnf
          refine .inl ?_
          conv => whnf
          conv => whnf
          refine ⟨(by show _ * (8 + 1) ≤ _; omega), ?_⟩
          conv => whnf
          conv => whnf
          refine ⟨inK64 (by omega) (by omega), ?_⟩
          conv => whnf
          conv => whnf
          refine ⟨_, _, ⟨⟨i + 1, n, m + 1, by omega, by omega, by omega, rfl, rfl⟩, by omega⟩, ⟨⟨.inl rfl, rfl, rfl, rfl⟩, ⟨⟨rfl, rfl, rfl, rfl, fun _ => rfl, fun _ _ => .inl rfl⟩, ⟨⟨rfl, rfl, rfl, rfl, fun _ => rfl, fun k hk => .inl (range_row (f := fun j => entL p (2 * j + 1)) m k _ (by unfold entL; rw [show 2 * m + 1 = i by omega]; rfl) hk)⟩, trivial⟩⟩, trivial⟩⟩
      · (exfalso; omega)
  · have e : i = p.length := by omega
    subst e
    have h133 := S133n (eveL p n) n (by simp [eveL]) (by omega) ((ev_sml hp.ps n).mono (by decide))
    have hn0 : redL (eveL p n) = nextL p [] := by unfold nextL; rw [raw0 p h2.1, hn]
    have hR0 : RowsIn p [redL (eveL p n)] := by
      rw [hn0]
      exact (show RowsIn p [] from ⟨h2, hp.ps, Nat.zero_le _, (fun i h => absurd h (Nat.not_lt_zero i)), fun i h => absurd h (Nat.not_lt_zero i)⟩).next (by show 0 < p.length; omega)
    have hT0 : (if ([redL (eveL p n)].getD (1 - 1) []).getD 0 0 ≤ 0 then [redL (eveL p n)] else tabG p (p.length - 1) [redL (eveL p n)]) = tabL p := by
      unfold tabL
      rw [hn0]
      obtain ⟨c, hc⟩ : ∃ c, p.length = c + 1 := ⟨p.length - 1, by omega⟩
      rw [hc]
      rfl
    conv => whnf
    conv => whnf
    refine ifB_dec (fun w1 => ?_) (fun w1 => ?_)
    · (exfalso; omega)
    · conv => whnf
      conv => whnf
      refine ⟨inK64 (by omega) (by omega), ?_⟩
      conv => whnf
      conv => whnf
      refine .inl ⟨_, _, byX rfl (h133), ?_⟩
      conv => whnf
      conv => whnf
      refine ⟨[.freeze 4, .uncap 7], [4, 6, 7, 8], fun st mq => ∃ (k : Nat) (R : List (List Int)) (q : Nat), (R.length = k) ∧ (1 ≤ k) ∧ (k + q = p.length) ∧ (RowsIn p R) ∧ ((if (R.getD (k - 1) []).getD 0 0 ≤ 0 then R else tabG p q R) = tabL p) ∧ st = ⟨[(4, .rslice 1 m fun i => [i64 ((odL p m).getD i 0)]), (6, i64 ((p.length : Int) - 1)), (7, .oslice 2 0 0 k none), (8, i64 k)], ⟨[⟨1, n, fun i => [i64 ((eveL p n).getD i 0)], 0, true, true, false⟩, ⟨1, m, fun i => [i64 ((odL p m).getD i 0)], 0, true, true, false⟩, ⟨1, k, fun i => [ints (R.getD i [])], 0, false, true, false⟩], [], none, 0⟩, []⟩ ∧ mq = q,
        ⟨_, _, ⟨1, [redL (eveL p n)], p.length - 1, rfl, Nat.le_refl 1, by omega, hR0, hT0, rfl, rfl⟩, ⟨⟨.inl rfl, rfl, rfl, rfl⟩, ⟨⟨rfl, rfl, rfl, rfl, fun _ => rfl, fun _ _ => .inl rfl⟩, ⟨⟨rfl, rfl, rfl, rfl, fun _ => rfl, fun _ _ => .inl rfl⟩, ⟨⟨rfl, rfl, rfl, rfl, fun _ => rfl, fun i hi => .inl ((by have hi1 : i < 1 := hi; rw [show i = 0 by omega]; rfl))⟩, trivial⟩⟩⟩, trivial⟩⟩, ?_⟩
      rintro s0 m0 ⟨k, R, q, hk, hk1, hq, hR, hT, rfl, hmeas⟩
      subst hk
      have hle := hR.le
      have hne := hR.ne (R.length - 1) (by omega)
      have e1 : 0 + ((R.length : Int) - 1).toNat = R.length - 1 := by omega
      have e2 : 0 + ((R.length : Int) - 2).toNat = R.length - 2 := by omega
      rw [← e1] at hne hT
      by_cases hlt : R.length < p.length
      · by_cases hpos : (R.getD (0 + ((R.length : Int) - 1).toNat) []).getD (Int.toNat 0) 0 ≤ 0
        · rw [if_pos (show (R.getD (0 + ((R.length : Int) - 1).toNat) []).getD 0 0 ≤ 0 from hpos)] at hT
          conv => whnf
          conv => whnf
          conv => whnf
          refine ifB_dec (fun w2 => ?_) (fun w2 => ?_)
          · conv => whnf
            conv => whnf
            conv => whnf
            refine ⟨inK64 (by omega) (by omega), ?_⟩
            conv => whnf
            conv => whnf
            conv => whnf
            refine ⟨⟨(by omega), (by omega)⟩, ?_⟩
            conv => whnf
            conv => whnf
            conv => whnf
            refine ⟨⟨(by omega), (by omega)⟩, ?_⟩
            conv => whnf
            conv => whnf
            conv => whnf
            refine ifB_dec (fun w3 => ?_) (fun w3 => ?_)
            · (exfalso; omega)
            · conv => whnf
              conv => whnf
              conv => whnf
              refine ⟨?_, nofun⟩
              rw [← hT]
              exact ⟨rfl, rfl, fun i hi => rfl⟩
          · (exfalso; omega)
        · rw [if_neg (show ¬ (R.getD (0 + ((R.length : Int) - 1).toNat) []).getD 0 0 ≤ 0 from hpos)] at hT
          have hT2 : tabG p q R = if (nextL p R).getD 0 0 ≤ 0 then R ++ [nextL p R] else tabG p (q - 1) (R ++ [nextL p R]) := by
            rw [show q = (q - 1) + 1 by omega]; rfl
          have hlast : (R ++ [nextL p R]).getD (R.length + 1 - 1) [] = nextL p R := by simp [List.getD_eq_getElem?_getD]
          rw [hT2] at hT
          by_cases hk2 : R.length = 1
          · have hraw : nextL p R = redL (odL p m) := by
              unfold nextL
              match R, hk2 with
              | [x], _ => rw [raw1 p x h2.1, hm]
            have h133o := S133n (odL p m) m (by simp [odL]) (by omega) ((od_sml hp.ps m).mono (by decide))
            rw [← hraw] at h133o
            conv => whnf
            conv => whnf
            conv => whnf
            refine ifB_dec (fun w2 => ?_) (fun w2 => ?_)
            · conv => whnf
              conv => whnf
              conv => whnf
              refine ⟨inK64 (by omega) (by omega), ?_⟩
              conv => whnf
              conv => whnf
              conv => whnf
              refine ⟨⟨(by omega), (by omega)⟩, ?_⟩
              conv => whnf
              conv => whnf
              conv => whnf
              refine ⟨⟨(by omega), (by omega)⟩, ?_⟩
              conv => whnf
              conv => whnf
              conv => whnf
              refine ifB_dec (fun w3 => ?_) (fun w3 => ?_)
              · conv => whnf
                conv => whnf
                conv => whnf
                refine ifB_dec (fun w4 => ?_) (fun w4 => ?_)
                · (exfalso; omega)
                · conv => whnf
                  conv => whnf
                  conv => whnf
                  refine .inl ⟨_, _, byX rfl (h133o), ?_⟩
                  conv => whnf
                  conv => whnf
                  conv => whnf
                  refine .inl ?_
                  conv => whnf
                  conv => whnf
                  conv => whnf
                  refine ⟨(by show _ * (24 + 1) ≤ _; omega), ?_⟩
                  conv => whnf
                  conv => whnf
                  conv => whnf
                  refine ⟨inK64 (by omega) (by omega), ?_⟩
                  conv => whnf
                  conv => whnf
                  conv => whnf
                  refine ⟨_, _, ⟨⟨R.length + 1, R ++ [nextL p R], q - 1, (by rw [List.length_append]; rfl), by omega, by omega, hR.next hlt, (by rw [hlast]; exact hT), rfl, rfl⟩, by omega⟩, ⟨⟨.inl rfl, rfl, rfl, rfl⟩, ⟨⟨rfl, rfl, rfl, rfl, fun _ => rfl, fun _ _ => .inl rfl⟩, ⟨⟨rfl, rfl, rfl, rfl, fun _ => rfl, fun _ _ => .inl rfl⟩, ⟨⟨rfl, rfl, rfl, rfl, fun _ => rfl, fun i hi => .inl (approw rfl i hi)⟩, trivial⟩⟩⟩, trivial⟩⟩
              · (exfalso; omega)
            · (exfalso; omega)
          · have hne2 := hR.ne (R.length - 2) (by omega)
            rw [← e2] at hne2
            have htd := tdiv_le (a := (p.length : Int) - 1 - R.length) (b := 2) (by decide)
            have htn : 0 ≤ ((p.length : Int) - 1 - R.length).tdiv 2 := Int.tdiv_nonneg (by omega) (by decide)
            have hrn := rowN_in h2.2 hlt
            have hrd : (rowN p.length R.length : Int) = ((p.length : Int) - 1 - R.length).tdiv 2 + 1 := by unfold rowN; omega
            conv => whnf
            conv => whnf
            conv => whnf
            refine ifB_dec (fun w2 => ?_) (fun w2 => ?_)
            · conv => whnf
              conv => whnf
              conv => whnf
              refine ⟨inK64 (by omega) (by omega), ?_⟩
              conv => whnf
              conv => whnf
              conv => whnf
              refine ⟨⟨(by omega), (by omega)⟩, ?_⟩
              conv => whnf
              conv => whnf
              conv => whnf
              refine ⟨⟨(by omega), (by omega)⟩, ?_⟩
              conv => whnf
              conv => whnf
              conv => whnf
              refine ifB_dec (fun w3 => ?_) (fun w3 => ?_)
              · conv => whnf
                conv => whnf
                conv => whnf
                refine ifB_dec (fun w4 => ?_) (fun w4 => ?_)
                · conv => whnf
                  conv => whnf
                  conv => whnf
                  refine ⟨[], by kernel_rfl, ?_⟩
                  conv => whnf
                  conv => whnf
                  conv => whnf
                  refine ⟨inK64 (by omega) (by omega), ?_⟩
                  conv => whnf
                  conv => whnf
                  conv => whnf
                  refine ⟨⟨(by omega), (by omega)⟩, ?_⟩
                  conv => whnf
                  conv => whnf
                  conv => whnf
                  refine ⟨inK64 (by omega) (by omega), ?_⟩
                  conv => whnf
                  conv => whnf
                  conv => whnf
                  refine ⟨⟨(by omega), (by omega)⟩, ?_⟩
                  conv => whnf
                  conv => whnf
                  conv => whnf
                  refine ⟨[.slot 9 1], [4, 6, 7, 8, 9, 10, 11, 12], fun st mq => ∃ (j : Nat) (O : List Int), (j ≤ rowN p.length R.length) ∧ (O = (List.range j).map (rowAt p R)) ∧ st = ⟨[(4, .rslice 1 m fun i => [i64 ((odL p m).getD i 0)]), (6, i64 ((p.length : Int) - 1)), (7, .oslice 2 0 0 R.length none), (8, i64 R.length), (9, .oslice 3 0 0 j none), (10, ints (R.getD (0 + ((R.length : Int) - 1).toNat) [])), (11, ints (R.getD (0 + ((R.length : Int) - 2).toNat) [])), (12, i64 j)], ⟨[⟨1, n, fun i => [i64 ((eveL p n).getD i 0)], 0, true, true, false⟩, ⟨1, m, fun i => [i64 ((odL p m).getD i 0)], 0, true, true, false⟩, ⟨1, R.length, fun i => [ints (R.getD i [])], 0, false, true, false⟩, ⟨1, j, fun i => [i64 (O.getD i 0)], 0, false, true, false⟩], [], none, 0⟩, []⟩ ∧ mq = rowN p.length R.length - j,
                    ⟨_, _, ⟨0, [], by omega, rfl, rfl, rfl⟩, ⟨⟨.inl rfl, rfl, rfl, rfl⟩, ⟨⟨rfl, rfl, rfl, rfl, fun _ => rfl, fun _ _ => .inl rfl⟩, ⟨⟨rfl, rfl, rfl, rfl, fun _ => rfl, fun _ _ => .inl rfl⟩, ⟨⟨rfl, rfl, rfl, rfl, fun _ => rfl, fun _ _ => .inl rfl⟩, ⟨⟨rfl, rfl, rfl, rfl, fun _ => rfl, fun i h => .inl (absurd h (Nat.not_lt_zero i))⟩, trivial⟩⟩⟩⟩, trivial⟩⟩, ?_⟩
                  rintro s0 m0 ⟨j, O, hj, hO, rfl, hmeas⟩
                  by_cases hlj : j < rowN p.length R.length
                  · have hra := rowAt_sml (hR.ok hlt) j
                    have hj1 : ((j : Int) + 1).toNat = j + 1 := by omega
                    have hP := row_prods (hR.ok hlt) (by omega) j
                    have hrw : rowAt p R j = (R.getD (R.length - 1) []).getD 0 0 * entL (R.getD (R.length - 2) []) (j + 1) - (R.getD (R.length - 2) []).getD 0 0 * entL (R.getD (R.length - 1) []) (j + 1) := by unfold rowAt; rw [if_neg (by omega)]
                    rw [← e1, ← e2, ← hj1] at hP hrw
                    have h134 := fun l hl i hi => S134i l hl i hi
                    have P1 : ((R.getD (0 + ((R.length : Int) - 1).toNat) []).getD (Int.toNat 0) 0 * entL (R.getD (0 + ((R.length : Int) - 2).toNat) []) ((j : Int) + 1).toNat).natAbs ≤ 8000000000000000 := hP.1
                    have P2 : ((R.getD (0 + ((R.length : Int) - 2).toNat) []).getD (Int.toNat 0) 0 * entL (R.getD (0 + ((R.length : Int) - 1).toNat) []) ((j : Int) + 1).toNat).natAbs ≤ 8000000000000000 := hP.2
                    have hOl : O.length = j := by rw [hO]; simp
                    conv => whnf
                    conv => whnf
                    conv => whnf
                    conv => whnf
                    refine ⟨inK64 (by omega) (by omega), ?_⟩
                    conv => whnf
                    conv => whnf
                    conv => whnf
                    conv => whnf
                    refine ⟨⟨(by omega), inK64 (by omega) (by omega)⟩, ?_⟩
                    conv => whnf
                    conv => whnf
                    conv => whnf
                    conv => whnf
                    refine ⟨inK64 (by omega) (by omega), ?_⟩
                    conv => whnf
                    conv => whnf
                    conv => whnf
                    conv => whnf
                    refine ifB_dec (fun w5 => ?_) (fun w5 => ?_)
                    · conv => whnf
                      conv => whnf
                      conv => whnf
                      conv => whnf
                      refine ⟨[], by kernel_rfl, ?_⟩
                      conv => whnf
                      conv => whnf
                      conv => whnf
                      conv => whnf
                      refine ⟨⟨(by omega), (by omega)⟩, ?_⟩
                      conv => whnf
                      conv => whnf
                      conv => whnf
                      conv => whnf
                      refine ⟨inK64 (by omega) (by omega), ?_⟩
                      conv => whnf
                      conv => whnf
                      conv => whnf
                      conv => whnf
                      refine .inl ⟨_, _, byX rfl (Sound1.pl (h134 _ (by omega) _ (by omega)) rfl), ?_⟩
                      conv => whnf
                      conv => whnf
                      conv => whnf
                      conv => whnf
                      refine ⟨inK64 (by omega) (by omega), ?_⟩
                      conv => whnf
                      conv => whnf
                      conv => whnf
                      conv => whnf
                      refine ⟨⟨(by omega), (by omega)⟩, ?_⟩
                      conv => whnf
                      conv => whnf
                      conv => whnf
                      conv => whnf
                      refine ⟨inK64 (by omega) (by omega), ?_⟩
                      conv => whnf
                      conv => whnf
                      conv => whnf
                      conv => whnf
                      refine .inl ⟨_, _, byX rfl (Sound1.pl (h134 _ (by omega) _ (by omega)) rfl), ?_⟩
                      conv => whnf
                      conv => whnf
                      conv => whnf
                      conv => whnf
                      refine ⟨inK64 (by omega) (by omega), ?_⟩
                      conv => whnf
                      conv => whnf
                      conv => whnf
                      conv => whnf
                      refine ⟨inK64 (by omega) (by omega), ?_⟩
                      conv => whnf
                      conv => whnf
                      conv => whnf
                      conv => whnf
                      refine .inl ?_
                      conv => whnf
                      conv => whnf
                      conv => whnf
                      conv => whnf
                      refine ⟨(by show _ * (8 + 1) ≤ _; omega), ?_⟩
                      conv => whnf
                      conv => whnf
                      conv => whnf
                      conv => whnf
                      refine ⟨inK64 (by omega) (by omega), ?_⟩
                      conv => whnf
                      conv => whnf
                      conv => whnf
                      conv => whnf
                      refine ⟨_, _, ⟨⟨j + 1, O ++ [rowAt p R j], by omega, (by rw [List.range_succ, List.map_append, hO]; rfl), rfl, rfl⟩, by omega⟩, ⟨⟨.inl rfl, rfl, rfl, rfl⟩, ⟨⟨rfl, rfl, rfl, rfl, fun _ => rfl, fun _ _ => .inl rfl⟩, ⟨⟨rfl, rfl, rfl, rfl, fun _ => rfl, fun _ _ => .inl rfl⟩, ⟨⟨rfl, rfl, rfl, rfl, fun _ => rfl, fun _ _ => .inl rfl⟩, ⟨⟨rfl, rfl, rfl, rfl, fun _ => rfl, fun i hi => .inl ((app_row O _ j i hOl hi).trans (by rw [hrw]; rfl))⟩, trivial⟩⟩⟩⟩, trivial⟩⟩
                    · (exfalso; omega)
                  · have e : j = rowN p.length R.length := by omega
                    have hOe : redL O = nextL p R := by unfold nextL rawL; rw [hO, e]
                    have hOs : Sml 9223372036854775807 O := fun x hx => by
                      rw [hO] at hx
                      obtain ⟨i, _, rfl⟩ := List.mem_map.1 hx
                      exact Nat.le_trans (rowAt_sml (hR.ok hlt) i) (Nat.le_trans (bnd_le _) (by decide))
                    have h133p := S133n O j (by rw [hO]; simp) (by omega) hOs
                    rw [hOe] at h133p
                    conv => whnf
                    conv => whnf
                    conv => whnf
                    conv => whnf
                    refine ⟨inK64 (by omega) (by omega), ?_⟩
                    conv => whnf
                    conv => whnf
                    conv => whnf
                    conv => whnf
                    refine ⟨⟨(by omega), inK64 (by omega) (by omega)⟩, ?_⟩
                    conv => whnf
                    conv => whnf
                    conv => whnf
                    conv => whnf
                    refine ⟨inK64 (by omega) (by omega), ?_⟩
                    conv => whnf
                    conv => whnf
                    conv => whnf
                    conv => whnf
                    refine ifB_dec (fun w5 => ?_) (fun w5 => ?_)
                    · (exfalso; omega)
                    · conv => whnf
                      conv => whnf
                      conv => whnf
                      conv => whnf
                      refine .inl ⟨_, _, byX rfl (h133p), ?_⟩
                      conv => whnf
                      conv => whnf
                      conv => whnf
                      conv => whnf
                      refine .inl ?_
                      conv => whnf
                      conv => whnf
                      conv => whnf
                      conv => whnf
                      refine ⟨(by show _ * (24 + 1) ≤ _; omega), ?_⟩
                      conv => whnf
                      conv => whnf
                      conv => whnf
                      conv => whnf
                      refine ⟨inK64 (by omega) (by omega), ?_⟩
                      conv => whnf
                      conv => whnf
                      conv => whnf
                      conv => whnf
                      refine ⟨_, _, ⟨⟨R.length + 1, R ++ [nextL p R], q - 1, (by rw [List.length_append]; rfl), by omega, by omega, hR.next hlt, (by rw [hlast]; exact hT), rfl, rfl⟩, by omega⟩, ⟨⟨.inl rfl, rfl, rfl, rfl⟩, ⟨⟨rfl, rfl, rfl, rfl, fun _ => rfl, fun _ _ => .inl rfl⟩, ⟨⟨rfl, rfl, rfl, rfl, fun _ => rfl, fun _ _ => .inl rfl⟩, ⟨⟨rfl, rfl, rfl, rfl, fun _ => rfl, fun i hi => .inl (approw rfl i hi)⟩, trivial⟩⟩⟩, trivial⟩⟩
                · (exfalso; omega)
              · (exfalso; omega)
            · (exfalso; omega)
      · have hq0 : q = 0 := by omega
        subst hq0
        have hT1 : R = tabL p := by rw [← hT]; split <;> rfl
        conv => whnf
        conv => whnf
        conv => whnf
        refine ifB_dec (fun w2 => ?_) (fun w2 => ?_)
        · (exfalso; omega)
        · conv => whnf
          conv => whnf
          conv => whnf
          refine ⟨?_, nofun⟩
          rw [← hT1]
          exact ⟨rfl, rfl, fun i hi => rfl⟩
end Go.Tr

/- Contracts of chapter 6: is a table accepted? Conditions: none. -/
namespace Go.Tr
open Go Go.Proofs
set_option maxRecDepth 20000
set_option maxHeartbeats 8000000

theorem S67 (p : List Int) (hp : PolyOk p) : SP 67 [ints p] (vb (stabB p)) false := by
  have h66 := S66 p hp
  have hi := tab_in hp
  have h2 := hp.p2
  have hle := hi.le
  unfold stabB
  generalize tabL p = R at h66 hi hle ⊢
  by_cases he : R.length = p.length
  · have hne := hi.ne (R.length - 1) (by omega)
    have e1 : ((R.length : Int) - 1).toNat = R.length - 1 := by omega
    rw [← e1] at hne ⊢
    rw [decide_eq_true he, Bool.true_and]
    refine sound (d := 2) tok2 mixed2 Tryz.func67 (by kernel_rfl) (by kernel_rfl) ?_
    conv => whnf
    refine .inl ⟨_, _, byX rfl (h66), ?_⟩
    conv => whnf
    refine ifB_beq (fun w1 => ?_) (fun w1 => ?_)
    · conv => whnf
      refine ⟨inK64 (by omega) (by omega), ?_⟩
      conv => whnf
      refine ⟨⟨(by omega), (by omega)⟩, ?_⟩
      conv => whnf
      refine ⟨⟨(by omega), (by omega)⟩, ?_⟩
      conv => whnf
      refine ⟨?_, nofun⟩
      rfl
    · (exfalso; omega)
  · rw [decide_eq_false he, Bool.false_and]
    refine sound (d := 2) tok2 mixed2 Tryz.func67 (by kernel_rfl) (by kernel_rfl) ?_
    conv => whnf
    refine .inl ⟨_, _, byX rfl (h66), ?_⟩
    conv => whnf
    refine ifB_beq (fun w1 => ?_) (fun w1 => ?_)
    · (exfalso; omega)
    · conv => whnf
      refine ⟨?_, nofun⟩
      rfl
def eachL (g : Nat → List Int → Int) : List (List Int) → Nat → Int × Int
  | [], _ => (0, 0)
  | x :: l, k => if g k x = 0 then eachL g l (k + 1) else (k, g k x)
theorem eachL_drop (g : Nat → List Int → Int) (l : List (List Int)) (k : Nat) (h : k < l.length) : eachL g (l.drop k) k = if g k (l.getD k []) = 0 then eachL g (l.drop (k + 1)) (k + 1) else ((k : Int), g k (l.getD k [])) := by
  rw [List.drop_eq_getElem_cons h]
  simp [eachL, List.getD_eq_getElem?_getD, h]
theorem S110 (f : Nat) (X Y : List AV) (g : Nat → List Int → Int) (l : List (List Int)) (hl : l.length ≤ 1000000000) (hf : ∀ k : Nat, k < l.length → (∀ i, i < k → g i (l.getD i []) = 0) → SP f [i64 k, ints (l.getD k []), .rptr X, .rptr Y] (i64 (g k (l.getD k []))) false) : SP 110 [listsA l, .func (.func f) 0 [.rptr X, .rptr Y]] (.tuple [i64 (eachL g l 0).1, i64 (eachL g l 0).2]) false := by
  refine sound (d := 2) tok2 mixed2 Tryz.func110 (by kernel_rfl) (by kernel_rfl) ?_
  conv => whnf
  refine ⟨[], [1, 9, 10, 11], fun st mq => ∃ (k : Nat), (k ≤ l.length) ∧ (∀ i, i < k → g i (l.getD i []) = 0) ∧ (eachL g (l.drop k) k = eachL g l 0) ∧ st = ⟨[(1, .func (.func f) 0 [.rptr X, .rptr Y]), (9, listsA l), (10, i64 l.length), (11, i64 k)], ⟨[], [], none, 0⟩, []⟩ ∧ mq = l.length - k,
    ⟨_, _, ⟨0, by omega, (fun i h => absurd h (Nat.not_lt_zero i)), rfl, rfl, rfl⟩, ⟨⟨.inl rfl, rfl, rfl, rfl⟩, trivial, trivial⟩⟩, ?_⟩
  rintro s0 m0 ⟨k, hk, h0, he, rfl, hmeas⟩
  by_cases hlt : k < l.length
  · have hd := eachL_drop g l k hlt
    have hc := hf k hlt h0
    conv => whnf
    conv => whnf
    refine ifB_dec (fun w1 => ?_) (fun w1 => ?_)
    · conv => whnf
      conv => whnf
      refine ⟨⟨(by omega), (by omega)⟩, ?_⟩
      conv => whnf
      conv => whnf
      refine .inl ⟨_, _, byX rfl (Sound1.pl (hc) rfl), ?_⟩
      conv => whnf
      conv => whnf
      refine ifB_bne (fun w2 => ?_) (fun w2 => ?_)
      · conv => whnf
        conv => whnf
        refine ⟨?_, nofun⟩
        rw [if_neg w2] at hd
        exact ave_tup2 (endi (by rw [← he, hd])) (endi (by rw [← he, hd]))
      · conv => whnf
        conv => whnf
        refine ⟨inK64 (by omega) (by omega), ?_⟩
        rw [if_pos w2] at hd
        conv => whnf
        conv => whnf
        refine ⟨_, _, ⟨⟨k + 1, by omega, (fun i hi => by rcases Nat.lt_or_ge i k with h | h; exact h0 i h; rw [show i = k by omega]; exact w2), hd.symm.trans he, rfl, rfl⟩, by omega⟩, ⟨⟨.inl rfl, rfl, rfl, rfl⟩, trivial, trivial⟩⟩
    · (exfalso; omega)
  · have e : k = l.length := by omega
    subst e
    rw [List.drop_length] at he
    conv => whnf
    conv => whnf
    refine ifB_dec (fun w1 => ?_) (fun w1 => ?_)
    · (exfalso; omega)
    · conv => whnf
      conv => whnf
      refine ⟨?_, nofun⟩
      exact ave_tup2 (endi (by rw [← he]; rfl)) (endi (by rw [← he]; rfl))
/-- Is this the row that follows, and does it begin above 0? -/
def rowE (p : List Int) (T : List (List Int)) (k : Nat) (r : List Int) : Int := if r = nextL p (T.take k) ∧ r.getD 0 0 > 0 then 0 else 19
def chkT (p : List Int) (T : List (List Int)) : Int × Int := if T.length = p.length then eachL (rowE p T) T 0 else (0, 10)
theorem tabG_pre {p : List Int} : ∀ (n : Nat) (R : List (List Int)), ∃ E, tabG p n R = R ++ E
  | 0, R => ⟨[], by simp [tabG]⟩
  | n + 1, R => by
    unfold tabG
    split
    · exact ⟨_, rfl⟩
    · obtain ⟨E, hE⟩ := tabG_pre n (R ++ [nextL p R])
      exact ⟨nextL p R :: E, by rw [hE]; simp⟩
/-- Rows that are the beginning of the table: the next one is next in it. -/
theorem tab_at {p : List Int} {R : List (List Int)} {n : Nat} (h : tabG p (n + 1) R = tabL p) : R.length < (tabL p).length ∧ (tabL p).getD R.length [] = nextL p R ∧ (0 < (nextL p R).getD 0 0 → tabG p n (R ++ [nextL p R]) = tabL p) := by
  have hx : ∃ E, tabL p = R ++ (nextL p R :: E) := by
    rw [← h]
    unfold tabG
    split
    · exact ⟨[], rfl⟩
    · obtain ⟨E, hE⟩ := tabG_pre (p := p) n (R ++ [nextL p R])
      exact ⟨E, by rw [hE]; simp⟩
  obtain ⟨E, hE⟩ := hx
  refine ⟨by rw [hE]; simp, by rw [hE]; simp [List.getD_eq_getElem?_getD], fun h0 => ?_⟩
  unfold tabG at h
  rwa [if_neg (by omega)] at h
theorem take_snocL {L : List (List Int)} {k : Nat} (h : k < L.length) : L.take (k + 1) = L.take k ++ [L.getD k []] := by
  rw [List.take_add_one, show L.getD k [] = L[k] by simp [List.getD_eq_getElem?_getD, h]]
  simp [h]
structure Begun (p : List Int) (T : List (List Int)) (k : Nat) : Prop where
  len : (T.take k).length = k
  tab : tabG p (p.length - k) (T.take k) = tabL p
  ok : RowsIn p (T.take k)
theorem Begun.zero {p : List Int} (hp : PolyOk p) (T : List (List Int)) : Begun p T 0 := by
  refine ⟨by simp, rfl, ?_⟩
  exact ⟨hp.p2, hp.ps, Nat.zero_le _, (fun i h => absurd h (by simp)), fun i h => absurd h (by simp)⟩
theorem rowE_zero {p : List Int} {T : List (List Int)} {k : Nat} {r : List Int} (h : rowE p T k r = 0) : r = nextL p (T.take k) ∧ 0 < r.getD 0 0 := by
  unfold rowE at h
  by_cases hx : r = nextL p (T.take k) ∧ r.getD 0 0 > 0
  · exact hx
  · rw [if_neg hx] at h; omega
theorem Begun.next {p : List Int} {T : List (List Int)} {k : Nat} (h : Begun p T k) (hk : k < p.length) (ht : T.length = p.length) (h0 : rowE p T k (T.getD k []) = 0) : Begun p T (k + 1) := by
  have hr := rowE_zero h0
  have hs := take_snocL (show k < T.length by omega)
  have hl := h.len
  have ht1 : tabG p (p.length - (k + 1) + 1) (T.take k) = tabL p := by rw [show p.length - (k + 1) + 1 = p.length - k by omega]; exact h.tab
  refine ⟨?_, ?_, ?_⟩
  · rw [hs, List.length_append, hl]; rfl
  · rw [hs, hr.1]
    exact (tab_at ht1).2.2 (by rw [← hr.1]; exact hr.2)
  · rw [hs, hr.1]
    exact h.ok.next (by omega)
theorem begun_of {p : List Int} (hp : PolyOk p) {T : List (List Int)} (ht : T.length = p.length) : ∀ k, k ≤ p.length → (∀ i, i < k → rowE p T i (T.getD i []) = 0) → Begun p T k
  | 0, _, _ => Begun.zero hp T
  | k + 1, hk, h => (begun_of hp ht k (by omega) fun i hi => h i (by omega)).next (by omega) ht (h k (by omega))
theorem S129 (p : List Int) (T : List (List Int)) (k : Nat) (hk : k < p.length) (ht : T.length = p.length) (hb : Begun p T k) (hl : (T.getD k []).length ≤ 1000) : SP 129 [i64 k, ints (T.getD k []), .rptr [ints p], .rptr [listsA T]] (i64 (rowE p T k (T.getD k []))) false := by
  have h131 := S131 p (T.take k) (hb.ok.ok (by rw [hb.len]; omega))
  have h131s : SP 131 [ints p, .rslice 1 ((k : Int) - 0).toNat fun i => [ints (T.getD i [])]] (ints (nextL p (T.take k))) true := by
    refine h131.argsD rfl fun i y x hy hx => ?_
    match i, hy, hx with
    | 0, hy, hx => exact .inl (Option.some.inj (hy.symm.trans hx))
    | 1, hy, hx =>
      cases hy; cases hx
      refine .inr ⟨3, AVF_rows (by rw [hb.len]; omega) (fun i hi => ?_) 2⟩
      have hi2 : i < k := by omega
      have e : T.getD i [] = (T.take k).getD i [] := by simp [List.getD_eq_getElem?_getD, hi2]
      rw [e]
  have hn := nextL_len p (T.take k)
  have hrn := rowN_in hb.ok.p2.2 (show (T.take k).length < p.length by rw [hb.len]; exact hk)
  have h130 := S130 (T.getD k []) (nextL p (T.take k)) (by omega) (by omega)
  have h93 := fun b c => S93 b c
  refine sound (d := 2) tok2 mixed2 Tryz.func129 (by kernel_rfl) (by kernel_rfl) ?_
  conv => whnf
  refine ⟨[], by kernel_rfl, ?_⟩
  conv => whnf
  refine ⟨⟨(by omega), ⟨(by omega), (by omega)⟩⟩, ?_⟩
  conv => whnf
  refine .inl ⟨_, _, byX rfl (h131s), ?_⟩
  conv => whnf
  refine .inl ⟨_, _, byX rfl (Sound1.pl (h130) rfl), ?_⟩
  conv => whnf
  refine ifB_dec (fun w1 => ?_) (fun w1 => ?_)
  · conv => whnf
    refine ⟨?_, ?_⟩
    · rw [w1, hn]; omega
    · conv => whnf
      refine .inl ⟨_, _, byX rfl (Sound1.pl (h93 _ _) rfl), ?_⟩
      conv => whnf
      refine ⟨?_, nofun⟩
      refine endi ?_
      show (if decide ((T.getD k []).getD 0 0 > 0) = true then (0 : Int) else 19) = rowE p T k (T.getD k [])
      unfold rowE
      by_cases hg : (T.getD k []).getD 0 0 > 0
      · exact (if_pos (decide_eq_true hg)).trans (if_pos ⟨w1, hg⟩).symm
      · exact (if_neg (by rw [decide_eq_false hg]; nofun)).trans (if_neg (fun h => hg h.2)).symm
  · conv => whnf
    refine .inl ⟨_, _, byX rfl (Sound1.pl (h93 _ _) rfl), ?_⟩
    conv => whnf
    refine ⟨?_, nofun⟩
    refine endi ?_
    show (19 : Int) = rowE p T k (T.getD k [])
    unfold rowE
    rw [if_neg (fun h => w1 h.1)]
theorem S65 (p : List Int) (hp : PolyOk p) (T : List (List Int)) (hT : T.length ≤ 1000000) (hl : ∀ l ∈ T, l.length ≤ 1000) : SP 65 [ints p, listsA T] (.tuple [i64 (chkT p T).1, i64 (chkT p T).2]) false := by
  have h66 := S66 p hp
  have h2 := hp.p2
  have hti := tab_in hp
  by_cases ht : T.length = p.length
  · unfold chkT
    rw [if_pos ht]
    refine sound (d := 2) tok2 mixed2 Tryz.func65 (by kernel_rfl) (by kernel_rfl) ?_
    conv => whnf
    refine ifB_bne (fun w1 => ?_) (fun w1 => ?_)
    · (exfalso; omega)
    · conv => whnf
      refine .inl ⟨_, _, byX rfl (h66), ?_⟩
      conv => whnf
      refine ⟨[], [1, 6, 7], fun st mq => ∃ (k : Nat), (k ≤ T.length) ∧ (∀ i, i < k → rowE p T i (T.getD i []) = 0) ∧ (eachL (rowE p T) (T.drop k) k = eachL (rowE p T) T 0) ∧ st = ⟨[(1, listsA T), (6, listsA (tabL p)), (7, i64 k)], ⟨[], [], none, 0⟩, []⟩ ∧ mq = T.length - k,
        ⟨_, _, ⟨0, by omega, (fun i h => absurd h (Nat.not_lt_zero i)), rfl, rfl, rfl⟩, ⟨⟨.inl rfl, rfl, rfl, rfl⟩, trivial, trivial⟩⟩, ?_⟩
      rintro s0 m0 ⟨k, hk, h0, he, rfl, hmeas⟩
      by_cases hlt : k < T.length
      · have hb := begun_of hp ht k (by omega) h0
        have hta := tab_at (p := p) (R := T.take k) (n := p.length - k - 1) (by rw [show p.length - k - 1 + 1 = p.length - k by omega]; exact hb.tab)
        rw [hb.len] at hta
        have hd := eachL_drop (rowE p T) T k hlt
        have hrl := hl _ (getD_memL hlt)
        have htl := hti.ne k hta.1
        have h26 := S26 (T.getD (k : Int).toNat []) ((tabL p).getD (k : Int).toNat []) (by show (T.getD k []).length ≤ _; omega) (by show ((tabL p).getD k []).length ≤ _; omega)
        by_cases hr : T.getD k [] = (tabL p).getD k []
        · have htk : 1 ≤ (T.getD (k : Int).toNat []).length := by rw [show (k : Int).toNat = k from rfl, hr]; exact htl.1
          conv => whnf
          conv => whnf
          refine ifB_dec (fun w2 => ?_) (fun w2 => ?_)
          · conv => whnf
            conv => whnf
            refine ⟨[], by kernel_rfl, ?_⟩
            conv => whnf
            conv => whnf
            refine ifB_dec (fun w3 => ?_) (fun w3 => ?_)
            · (exfalso; omega)
            · conv => whnf
              conv => whnf
              refine ⟨⟨(by omega), (by omega)⟩, ?_⟩
              conv => whnf
              conv => whnf
              refine ⟨⟨(by omega), (by omega)⟩, ?_⟩
              conv => whnf
              conv => whnf
              refine .inl ⟨_, _, byX rfl (Sound1.pl (h26) rfl), ?_⟩
              conv => whnf
              conv => whnf
              refine ifB_not ?_
              conv => whnf
              conv => whnf
              refine ifB_dec (fun w4 => ?_) (fun w4 => ?_)
              · conv => whnf
                conv => whnf
                refine ⟨⟨(by omega), (by omega)⟩, ?_⟩
                conv => whnf
                conv => whnf
                refine ⟨⟨(by omega), (by omega)⟩, ?_⟩
                conv => whnf
                conv => whnf
                refine ifB_dec (fun w5 => ?_) (fun w5 => ?_)
                · conv => whnf
                  conv => whnf
                  refine ⟨?_, nofun⟩
                  have hx : rowE p T k (T.getD k []) = 19 := if_neg (fun h => by have h5 : (T.getD k []).getD 0 0 ≤ 0 := w5; omega)
                  rw [hx, if_neg (by decide)] at hd
                  exact ave_tup2 (endi (by rw [← he, hd])) (endi (by rw [← he, hd]))
                · conv => whnf
                  conv => whnf
                  refine ⟨inK64 (by omega) (by omega), ?_⟩
                  have hx : rowE p T k (T.getD k []) = 0 := if_pos ⟨hr.trans hta.2.1, by have h5 : ¬ (T.getD k []).getD 0 0 ≤ 0 := w5; omega⟩
                  rw [hx, if_pos rfl] at hd
                  conv => whnf
                  conv => whnf
                  refine ⟨_, _, ⟨⟨k + 1, by omega, (fun i hi => by rcases Nat.lt_or_ge i k with h | h; exact h0 i h; rw [show i = k by omega]; exact hx), hd.symm.trans he, rfl, rfl⟩, by omega⟩, ⟨⟨.inl rfl, rfl, rfl, rfl⟩, trivial, trivial⟩⟩
              · conv => whnf
                conv => whnf
                refine ⟨?_, nofun⟩
                exact absurd hr w4
          · (exfalso; omega)
        · have hx : rowE p T k (T.getD k []) = 19 := if_neg (fun h => hr (h.1.trans hta.2.1.symm))
          rw [hx, if_neg (by decide)] at hd
          conv => whnf
          conv => whnf
          refine ifB_dec (fun w2 => ?_) (fun w2 => ?_)
          · conv => whnf
            conv => whnf
            refine ⟨[], by kernel_rfl, ?_⟩
            conv => whnf
            conv => whnf
            refine ifB_dec (fun w3 => ?_) (fun w3 => ?_)
            · (exfalso; omega)
            · conv => whnf
              conv => whnf
              refine ⟨⟨(by omega), (by omega)⟩, ?_⟩
              conv => whnf
              conv => whnf
              refine ⟨⟨(by omega), (by omega)⟩, ?_⟩
              conv => whnf
              conv => whnf
              refine .inl ⟨_, _, byX rfl (Sound1.pl (h26) rfl), ?_⟩
              conv => whnf
              conv => whnf
              refine ifB_not ?_
              conv => whnf
              conv => whnf
              refine ifB_dec (fun w4 => ?_) (fun w4 => ?_)
              · conv => whnf
                conv => whnf
                refine ⟨⟨(by omega), (by omega)⟩, ?_⟩
                conv => whnf
                conv => whnf
                refine ⟨?_, ?_⟩
                · exact absurd w4 hr
                · conv => whnf
                  conv => whnf
                  refine ifB_dec (fun w5 => ?_) (fun w5 => ?_)
                  · conv => whnf
                    conv => whnf
                    refine ⟨?_, nofun⟩
                    (first | exact absurd w4 hr | exact ave_tup2 (endi (by rw [← he, hd])) (endi (by rw [← he, hd])))
                  · conv => whnf
                    conv => whnf
                    refine ⟨inK64 (by omega) (by omega), ?_⟩
                    (first | exact absurd w4 hr | exact ave_tup2 (endi (by rw [← he, hd])) (endi (by rw [← he, hd])))
              · conv => whnf
                conv => whnf
                refine ⟨?_, nofun⟩
                (first | exact absurd w4 hr | exact ave_tup2 (endi (by rw [← he, hd])) (endi (by rw [← he, hd])))
          · (exfalso; omega)
      · have e : k = T.length := by omega
        subst e
        rw [List.drop_length] at he
        conv => whnf
        conv => whnf
        refine ifB_dec (fun w2 => ?_) (fun w2 => ?_)
        · (exfalso; omega)
        · conv => whnf
          conv => whnf
          refine ⟨?_, nofun⟩
          exact ave_tup2 (endi (by rw [← he]; rfl)) (endi (by rw [← he]; rfl))
  · unfold chkT
    rw [if_neg ht]
    refine sound (d := 2) tok2 mixed2 Tryz.func65 (by kernel_rfl) (by kernel_rfl) ?_
    conv => whnf
    refine ifB_bne (fun w1 => ?_) (fun w1 => ?_)
    · conv => whnf
      refine ⟨?_, nofun⟩
      exact ave_tup2 rfl rfl
    · (exfalso; omega)
theorem S62 (p : List Int) (hpl : p.length ≤ 1000000) (T : List (List Int)) (hT : T.length ≤ 1000000) (hl : ∀ l ∈ T, l.length ≤ 1000) : SP 62 [ints p, listsA T] (.tuple [i64 (if polyE p = 0 then (chkT p T).1 else 0), i64 (if polyE p = 0 then (chkT p T).2 else polyE p)]) false := by
  have h64 := S64 p hpl
  by_cases h0 : polyE p = 0
  · have hp := PolyOk.of h0
    rw [if_pos h0, if_pos h0]
    rw [h0] at h64
    unfold chkT
    by_cases ht : T.length = p.length
    · rw [if_pos ht]
      have hb : ((T.length : Int) == (p.length : Int)) = true := by rw [ht]; simp
      have h93 : SP 93 [vb ((T.length : Int) == (p.length : Int)), i64 10] (i64 0) false := by
        have h := S93 ((T.length : Int) == (p.length : Int)) 10
        rwa [if_pos hb] at h
      have h90 : ∀ f : Nat → List AV, (f 0 = [i64 0] ∧ f 1 = [i64 0]) → SP 90 [.rslice 1 2 f] (i64 0) false := fun f h => by
        have h := S90_2 0 0 h
        rwa [first2, if_neg (by simp)] at h
      have h110 := S110 129 [ints p] [listsA T] (rowE p T) T (by omega) fun k hk h => S129 p T k (by omega) ht (begun_of hp ht k (by omega) h) (hl _ (getD_memL hk))
      refine sound (d := 2) tok2 mixed2 Tryz.func62 (by kernel_rfl) (by kernel_rfl) ?_
      conv => whnf
      refine ⟨[], by kernel_rfl, ?_⟩
      conv => whnf
      refine .inl ⟨_, _, byX rfl (Sound1.pl (h64) rfl), ?_⟩
      conv => whnf
      refine .inl ⟨_, _, byX rfl (Sound1.pl (h93) rfl), ?_⟩
      conv => whnf
      refine .inl ⟨_, _, byX rfl (Sound1.pl (h90 _ ⟨rfl, rfl⟩) rfl), ?_⟩
      conv => whnf
      refine .inl ⟨_, _, byX rfl (Sound1.pl (h110) rfl), ?_⟩
      conv => whnf
      refine ⟨?_, nofun⟩
      exact ave_tup2 rfl rfl
    · rw [if_neg ht]
      have hb : ((T.length : Int) == (p.length : Int)) = false := by simp; omega
      have h93 : SP 93 [vb ((T.length : Int) == (p.length : Int)), i64 10] (i64 10) false := by
        have h := S93 ((T.length : Int) == (p.length : Int)) 10
        rwa [if_neg (by rw [hb]; nofun)] at h
      have h90 : ∀ f : Nat → List AV, (f 0 = [i64 0] ∧ f 1 = [i64 10]) → SP 90 [.rslice 1 2 f] (i64 10) false := fun f h => by
        have h := S90_2 0 10 h
        rwa [first2, if_neg (by simp)] at h
      refine sound (d := 2) tok2 mixed2 Tryz.func62 (by kernel_rfl) (by kernel_rfl) ?_
      conv => whnf
      refine ⟨[], by kernel_rfl, ?_⟩
      conv => whnf
      refine .inl ⟨_, _, byX rfl (Sound1.pl (h64) rfl), ?_⟩
      conv => whnf
      refine .inl ⟨_, _, byX rfl (Sound1.pl (h93) rfl), ?_⟩
      conv => whnf
      refine .inl ⟨_, _, byX rfl (Sound1.pl (h90 _ ⟨rfl, rfl⟩) rfl), ?_⟩
      conv => whnf
      refine ⟨?_, nofun⟩
      exact ave_tup2 rfl rfl
  · rw [if_neg h0, if_neg h0]
    have h93 := fun b c => S93 b c
    have h90 : ∀ (b : Int) (f : Nat → List AV), (f 0 = [i64 (polyE p)] ∧ f 1 = [i64 b]) → SP 90 [.rslice 1 2 f] (i64 (polyE p)) false := fun b f h => by
      have h := S90_2 (polyE p) b h
      rwa [first2, if_pos h0] at h
    refine sound (d := 2) tok2 mixed2 Tryz.func62 (by kernel_rfl) (by kernel_rfl) ?_
    conv => whnf
    refine ⟨[], by kernel_rfl, ?_⟩
    conv => whnf
    refine .inl ⟨_, _, byX rfl (Sound1.pl (h64) rfl), ?_⟩
    conv => whnf
    refine .inl ⟨_, _, byX rfl (Sound1.pl (h93 _ _) rfl), ?_⟩
    conv => whnf
    refine .inl ⟨_, _, byX rfl (Sound1.pl (h90 _ _ ⟨rfl, rfl⟩) rfl), ?_⟩
    conv => whnf
    refine ifB_bne (fun w1 => ?_) (fun w1 => ?_)
    · conv => whnf
      refine ⟨?_, nofun⟩
      exact ave_tup2 rfl rfl
    · (exfalso; omega)
end Go.Tr

/- The law GovernorTables returns true. Conditions: none. -/
namespace Go.Tr
open Go Go.Proofs
set_option maxRecDepth 20000
set_option maxHeartbeats 8000000

theorem tab_small {p : List Int} (hp : PolyOk p) : (tabL p).length ≤ 1000 ∧ ∀ l ∈ tabL p, l.length ≤ 1000 := by
  have h := tab_in hp
  have h1 := h.le
  have h2 := h.p2
  refine ⟨by omega, fun l hl => ?_⟩
  obtain ⟨i, hi, rfl⟩ := List.getElem_of_mem hl
  have := h.ne i hi
  rw [show (tabL p).getD i [] = (tabL p)[i] by simp [List.getD_eq_getElem?_getD, hi]] at this
  omega
theorem S9 (p : List Int) (T : List (List Int)) (hpl : p.length ≤ 9223372036854775807) (hTl : T.length ≤ 9223372036854775807) (hl : ∀ l ∈ T, l.length ≤ 9223372036854775807) : SP 9 [ints p, listsA T] (vb true) false := by
  have h17 := S17 p hpl
  by_cases hps : p.length ≤ 7
  · rw [decide_eq_true hps] at h17
    by_cases hTs : T.length ≤ 7
    · refine sound (d := 2) tok2 mixed2 Tryz.func9 (by kernel_rfl) (by kernel_rfl) ?_
      conv => whnf
      refine .inl ⟨_, _, byX rfl (Sound1.pl (S16) rfl), ?_⟩
      conv => whnf
      refine .inl ⟨_, _, byX rfl (Sound1.pl (h17) rfl), ?_⟩
      conv => whnf
      refine ifB_dec (fun w1 => ?_) (fun w1 => ?_)
      · (exfalso; omega)
      · conv => whnf
        refine ⟨[], [0, 1, 5], fun st mq => ∃ (k : Nat), (k ≤ T.length) ∧ (∀ i, i < k → (T.getD i []).length ≤ 7) ∧ st = ⟨[(0, ints p), (1, listsA T), (5, i64 k)], ⟨[], [], none, 0⟩, []⟩ ∧ mq = T.length - k,
          ⟨_, _, ⟨0, by omega, fun i h => absurd h (Nat.not_lt_zero i), rfl, rfl⟩, ⟨⟨.inl rfl, rfl, rfl, rfl⟩, trivial, trivial⟩⟩, ?_⟩
        rintro s0 m0 ⟨k, hk, hs, rfl, hmeas⟩
        by_cases hlt : k < T.length
        · have hrl := hl (T.getD (k : Int).toNat []) (getD_memL hlt)
          have h17k := S17 (T.getD (k : Int).toNat []) hrl
          conv => whnf
          conv => whnf
          refine ifB_dec (fun w2 => ?_) (fun w2 => ?_)
          · conv => whnf
            conv => whnf
            refine ⟨⟨(by omega), (by omega)⟩, ?_⟩
            conv => whnf
            conv => whnf
            refine .inl ⟨_, _, byX rfl (Sound1.pl (h17k) rfl), ?_⟩
            conv => whnf
            conv => whnf
            refine ifB_not ?_
            conv => whnf
            conv => whnf
            refine ifB_dec (fun w3 => ?_) (fun w3 => ?_)
            · conv => whnf
              conv => whnf
              refine ⟨inK64 (by omega) (by omega), ?_⟩
              have w : (T.getD k []).length ≤ 7 := w3
              conv => whnf
              conv => whnf
              refine ⟨_, _, ⟨⟨k + 1, by omega, (fun i hi => by rcases Nat.lt_or_ge i k with h | h; exact hs i h; rw [show i = k by omega]; exact w), rfl, rfl⟩, by omega⟩, ⟨⟨.inl rfl, rfl, rfl, rfl⟩, trivial, trivial⟩⟩
            · conv => whnf
              conv => whnf
              refine ⟨?_, nofun⟩
              rfl
          · (exfalso; omega)
        · have e : k = T.length := by omega
          subst e
          have hT1 : T.length ≤ 1000000 := by omega
          have hT2 : ∀ l ∈ T, l.length ≤ 1000 := fun l hl => by
            obtain ⟨i, hi, rfl⟩ := List.getElem_of_mem hl
            have := hs i hi
            rw [show T.getD i [] = T[i] by simp [List.getD_eq_getElem?_getD, hi]] at this
            omega
          have hp1 : p.length ≤ 1000000 := by omega
          have h19 := S19 p hp1
          have h61 := S61 p hp1
          have h37 := S37 p hp1
          have h63 := S63 T hT1 hT2
          have h62 := S62 p hp1 T hT1 hT2
          have h21 := S21 p hp1
          have h64 := S64 p hp1
          by_cases h0 : polyE p = 0
          · have hp := PolyOk.of h0
            have ht := tab_small hp
            rw [if_pos h0] at h61 h37
            rw [if_pos h0, if_pos h0] at h62
            rw [h0] at h61 h37 h21 h64
            have h65 := S65 p hp T hT1 hT2
            have h66 := S66 p hp
            have h67 := S67 p hp
            have h32 := S32 (tabL p) (tabL p) (by omega) (by omega) ht.2 ht.2
            rw [decide_eq_true rfl] at h32
            conv => whnf
            conv => whnf
            refine ifB_dec (fun w2 => ?_) (fun w2 => ?_)
            · (exfalso; omega)
            · conv => whnf
              conv => whnf
              refine .inl ⟨_, _, byX rfl (h19), ?_⟩
              conv => whnf
              conv => whnf
              refine .inl ⟨_, _, byX rfl (h61), ?_⟩
              conv => whnf
              conv => whnf
              refine .inl ⟨_, _, byX rfl (h19), ?_⟩
              conv => whnf
              conv => whnf
              refine .inl ⟨_, _, byX rfl (Sound1.pl (h37) rfl), ?_⟩
              conv => whnf
              conv => whnf
              refine .inl ⟨_, _, byX rfl (h19), ?_⟩
              conv => whnf
              conv => whnf
              refine .inl ⟨_, _, byX rfl (h63), ?_⟩
              conv => whnf
              conv => whnf
              refine .inl ⟨_, _, byX rfl (Sound1.pl (h62) rfl), ?_⟩
              conv => whnf
              conv => whnf
              refine .inl ⟨_, _, byX rfl (Sound1.pl (h21) rfl), ?_⟩
              conv => whnf
              conv => whnf
              refine .inl ⟨_, _, byX rfl (h19), ?_⟩
              conv => whnf
              conv => whnf
              refine .inl ⟨_, _, byX rfl (Sound1.pl (h64) rfl), ?_⟩
              conv => whnf
              conv => whnf
              refine .inl ⟨_, _, byX rfl (Sound1.pl (h65) rfl), ?_⟩
              conv => whnf
              conv => whnf
              refine .inl ⟨_, _, byX rfl (h66), ?_⟩
              conv => whnf
              conv => whnf
              refine .inl ⟨_, _, byX rfl (Sound1.pl (h32) rfl), ?_⟩
              conv => whnf
              conv => whnf
              refine .inl ⟨_, _, byX rfl (Sound1.pl (h67) rfl), ?_⟩
              conv => whnf
              conv => whnf
              refine ifB_beqB (fun w3 => ?_) (fun w3 => ?_)
              · conv => whnf
                conv => whnf
                refine ifB_beq (fun w4 => ?_) (fun w4 => ?_)
                · conv => whnf
                  conv => whnf
                  refine ⟨?_, nofun⟩
                  exact endb (beq_iff_eq.2 rfl)
                · (exfalso; omega)
              · exact absurd rfl w3
          · rw [if_neg h0] at h61 h37
            rw [if_neg h0, if_neg h0] at h62
            conv => whnf
            conv => whnf
            refine ifB_dec (fun w2 => ?_) (fun w2 => ?_)
            · (exfalso; omega)
            · conv => whnf
              conv => whnf
              refine .inl ⟨_, _, byX rfl (h19), ?_⟩
              conv => whnf
              conv => whnf
              refine .inl ⟨_, _, byX rfl (h61), ?_⟩
              conv => whnf
              conv => whnf
              refine .inl ⟨_, _, byX rfl (h19), ?_⟩
              conv => whnf
              conv => whnf
              refine .inl ⟨_, _, byX rfl (Sound1.pl (h37) rfl), ?_⟩
              conv => whnf
              conv => whnf
              refine .inl ⟨_, _, byX rfl (h19), ?_⟩
              conv => whnf
              conv => whnf
              refine .inl ⟨_, _, byX rfl (h63), ?_⟩
              conv => whnf
              conv => whnf
              refine .inl ⟨_, _, byX rfl (Sound1.pl (h62) rfl), ?_⟩
              conv => whnf
              conv => whnf
              refine .inl ⟨_, _, byX rfl (Sound1.pl (h21) rfl), ?_⟩
              conv => whnf
              conv => whnf
              refine .inl ⟨_, _, byX rfl (h19), ?_⟩
              conv => whnf
              conv => whnf
              refine .inl ⟨_, _, byX rfl (Sound1.pl (h64) rfl), ?_⟩
              conv => whnf
              conv => whnf
              refine ifB_bne (fun w3 => ?_) (fun w3 => ?_)
              · (exfalso; omega)
              · conv => whnf
                conv => whnf
                refine ifB_bne (fun w4 => ?_) (fun w4 => ?_)
                · conv => whnf
                  conv => whnf
                  refine ifB_beq (fun w5 => ?_) (fun w5 => ?_)
                  · conv => whnf
                    conv => whnf
                    refine ifB_beq (fun w6 => ?_) (fun w6 => ?_)
                    · conv => whnf
                      conv => whnf
                      refine ifB_beq (fun w7 => ?_) (fun w7 => ?_)
                      · conv => whnf
                        conv => whnf
                        refine ⟨?_, nofun⟩
                        exact endb (beq_iff_eq.2 rfl)
                      · (exfalso; omega)
                    · (exfalso; omega)
                  · (exfalso; omega)
                · (exfalso; omega)
    · refine sound (d := 2) tok2 mixed2 Tryz.func9 (by kernel_rfl) (by kernel_rfl) ?_
      conv => whnf
      refine .inl ⟨_, _, byX rfl (Sound1.pl (S16) rfl), ?_⟩
      conv => whnf
      refine .inl ⟨_, _, byX rfl (Sound1.pl (h17) rfl), ?_⟩
      conv => whnf
      refine ifB_dec (fun w1 => ?_) (fun w1 => ?_)
      · conv => whnf
        refine ⟨?_, nofun⟩
        rfl
      · (exfalso; omega)
  · rw [decide_eq_false hps] at h17
    refine sound (d := 2) tok2 mixed2 Tryz.func9 (by kernel_rfl) (by kernel_rfl) ?_
    conv => whnf
    refine .inl ⟨_, _, byX rfl (Sound1.pl (S16) rfl), ?_⟩
    conv => whnf
    refine .inl ⟨_, _, byX rfl (Sound1.pl (h17) rfl), ?_⟩
    conv => whnf
    refine ⟨?_, nofun⟩
    rfl
end Go.Tr

/- Plain laws: floats that are whole numbers below 2 to the power of 53 are added and multiplied exactly. Conditions: none. -/
namespace Go.Tr
open Go Go.Proofs
set_option maxRecDepth 20000
set_option maxHeartbeats 8000000

/-- A word of 64 bits that stands for a whole number. -/
def IsZ (w : Nat) (z : Int) : Prop := ∃ s m k, Ieee.double.read w = .number s m (-(k : Nat)) ∧ Ieee.signed s m 0 = z * 2 ^ k
theorem signed0 (s : Bool) (m : Nat) : Ieee.signed s m 0 = if s then -(m : Int) else m := by simp [Ieee.signed]
theorem signed_up (s : Bool) (m u : Nat) : Ieee.signed s m u = Ieee.signed s m 0 * 2 ^ u := by
  unfold Ieee.signed
  cases s <;> simp [Nat.shiftLeft_eq, Int.neg_mul]
theorem signed_abs (s : Bool) (m : Nat) : (Ieee.signed s m 0).natAbs = m := by
  rw [signed0]
  cases s <;> simp
theorem log_pow {a k : Nat} (ha : a ≠ 0) : (a * 2 ^ k).log2 = a.log2 + k := by
  have h1 := Nat.log2_self_le ha
  have h2 := Nat.lt_log2_self (n := a)
  refine (Nat.log2_eq_iff (by have := Nat.two_pow_pos k; exact Nat.mul_ne_zero ha (by omega))).2 ⟨?_, ?_⟩
  · rw [Nat.pow_add]; exact Nat.mul_le_mul_right _ h1
  · rw [show a.log2 + k + 1 = (a.log2 + 1) + k by omega, Nat.pow_add]
    exact Nat.mul_lt_mul_of_pos_right h2 (Nat.two_pow_pos k)
theorem cut0 (way : Ieee.Toward) (hw : way = .even ∨ way = .zero) (s : Bool) (q u : Nat) (h : u ≤ (q * 2 ^ u).log2 + 2) : way.cut s (q * 2 ^ u) u = q := by
  have hp := Nat.two_pow_pos u
  have h1 : q * 2 ^ u / 2 ^ u = q := Nat.mul_div_cancel _ hp
  have h2 : q * 2 ^ u % 2 ^ u = 0 := Nat.mul_mod_left _ _
  unfold Ieee.Toward.cut
  simp only [Nat.min_eq_left h, Nat.shiftLeft_eq, Nat.one_mul, h1, h2]
  rcases hw with rfl | rfl
  · have h3 : (decide (2 ^ u < 2 * 0) || (2 ^ u == 2 * 0 && q % 2 == 1)) = false := by
      simp
    simp [h3]
  · simp
/-- The rung of a whole number above 0 and below 2 to the power of 53. -/
theorem read_rung (s : Bool) {a : Nat} (h0 : a ≠ 0) (h : a < 2 ^ 53) : Ieee.double.read (Ieee.double.word s ((a.log2 + 1022) * 2 ^ 52 + a * 2 ^ (52 - a.log2))) = .number s (a * 2 ^ (52 - a.log2)) (-((52 - a.log2 : Nat) : Int)) := by
  have h1 := Nat.log2_self_le h0
  have h2 := Nat.lt_log2_self (n := a)
  have hL : a.log2 ≤ 52 := by
    have := (Nat.log2_lt h0).2 h
    omega
  have e1 : 2 ^ a.log2 * 2 ^ (52 - a.log2) = 2 ^ 52 := by rw [← Nat.pow_add]; congr 1; omega
  have e2 : 2 ^ (a.log2 + 1) * 2 ^ (52 - a.log2) = 2 ^ 53 := by rw [← Nat.pow_add]; congr 1; omega
  have b1 : 2 ^ 52 ≤ a * 2 ^ (52 - a.log2) := by rw [← e1]; exact Nat.mul_le_mul_right _ h1
  have b2 : a * 2 ^ (52 - a.log2) < 2 ^ 53 := by rw [← e2]; exact Nat.mul_lt_mul_of_pos_right h2 (Nat.two_pow_pos _)
  generalize a * 2 ^ (52 - a.log2) = m at b1 b2 ⊢
  generalize a.log2 = L at hL ⊢
  obtain ⟨f, rfl⟩ : ∃ f, m = 2 ^ 52 + f := ⟨m - 2 ^ 52, by omega⟩
  have hf : f < 4503599627370496 := by omega
  have er : (L + 1022) * 2 ^ 52 + (2 ^ 52 + f) = (L + 1023) * 4503599627370496 + f := by omega
  rw [er]
  have hs : Ieee.double.signWeight = 9223372036854775808 := rfl
  have hb : Ieee.double.binade = 4503599627370496 := rfl
  have hi : Ieee.double.infRung = 9218868437227405312 := rfl
  have hl : Ieee.double.leastPlace = -1074 := rfl
  have d1 : ((L + 1023) * 4503599627370496 + f) / 4503599627370496 = L + 1023 := by omega
  have d2 : ((L + 1023) * 4503599627370496 + f) % 4503599627370496 = f := by omega
  have d3 : (Ieee.double.word s ((L + 1023) * 4503599627370496 + f)) % 9223372036854775808 = (L + 1023) * 4503599627370496 + f := by
    unfold Ieee.Format.word
    rw [hs]
    cases s
    · simp only [Bool.false_eq_true, if_false]; omega
    · simp only [if_true]; omega
  have d4 : ((Ieee.double.word s ((L + 1023) * 4503599627370496 + f)) / 9223372036854775808 % 2 == 1) = s := by
    unfold Ieee.Format.word
    rw [hs]
    cases s
    · simp only [Bool.false_eq_true, if_false, beq_eq_false_iff_ne]; omega
    · simp only [if_true, beq_iff_eq]; omega
  unfold Ieee.Format.read
  simp only [hs, hb, hi, hl, d3, d4]
  rw [if_neg (by omega), if_pos (by omega), d1, d2]
  congr 1
  omega
theorem IsZ.write {s : Bool} {m k : Nat} {z : Int} (h : Ieee.signed s m 0 = z * 2 ^ k) (hz : z.natAbs < 2 ^ 53) : IsZ (Ieee.double.write (.number s m (-(k : Nat)))) z := by
  have hm : m = z.natAbs * 2 ^ k := by
    have := congrArg Int.natAbs h
    rw [signed_abs, Int.natAbs_mul, Int.natAbs_pow] at this
    exact this
  by_cases h0 : z.natAbs = 0
  · have hz0 : z = 0 := by omega
    subst hz0
    have hm0 : m = 0 := by rw [hm]; simp
    subst hm0
    refine ⟨s, 0, 1074, ?_, by rw [signed0, Int.zero_mul]; cases s <;> rfl⟩
    show Ieee.double.read (Ieee.double.nearest s 0 _) = _
    unfold Ieee.Format.nearest
    rw [if_pos rfl]
    cases s <;> rfl
  · have hm0 : m ≠ 0 := by rw [hm]; exact Nat.mul_ne_zero h0 (by have := Nat.two_pow_pos k; omega)
    have hL : z.natAbs.log2 ≤ 52 := by
      have := (Nat.log2_lt h0).2 hz
      omega
    have hlog : m.log2 = z.natAbs.log2 + k := by rw [hm]; exact log_pow h0
    have hw : Ieee.double.write (.number s m (-(k : Nat))) = Ieee.double.word s ((z.natAbs.log2 + 1022) * 2 ^ 52 + z.natAbs * 2 ^ (52 - z.natAbs.log2)) := by
      show Ieee.double.nearest s m _ = _
      have hb : Ieee.double.binade = 2 ^ 52 := rfl
      have hi : Ieee.double.infRung = 9218868437227405312 := rfl
      have hl : Ieee.double.leastPlace = -1074 := rfl
      have hf : (Ieee.double.fractionBits : Int) = 52 := rfl
      unfold Ieee.Format.nearest
      rw [if_neg hm0]
      simp only [hb, hi, hl, hf, hlog]
      have e1 : max (-(k : Int) + ((z.natAbs.log2 + k : Nat) : Int) - 52) (-1074) = (z.natAbs.log2 : Int) - 52 := by omega
      rw [e1]
      have hk : Ieee.Toward.even.cut s (m <<< (-(k : Int) - ((z.natAbs.log2 : Int) - 52)).toNat) (((z.natAbs.log2 : Int) - 52) - -(k : Int)).toNat = z.natAbs * 2 ^ (52 - z.natAbs.log2) := by
        rw [Nat.shiftLeft_eq, hm]
        by_cases hc : z.natAbs.log2 + k ≤ 52
        · have u0 : (((z.natAbs.log2 : Int) - 52) - -(k : Int)).toNat = 0 := by omega
          have u1 : (-(k : Int) - ((z.natAbs.log2 : Int) - 52)).toNat = 52 - z.natAbs.log2 - k := by omega
          rw [u0, u1]
          have h3 := cut0 .even (.inl rfl) s (z.natAbs * 2 ^ k * 2 ^ (52 - z.natAbs.log2 - k)) 0 (Nat.zero_le _)
          rw [Nat.pow_zero, Nat.mul_one] at h3
          rw [h3, Nat.mul_assoc, ← Nat.pow_add]
          congr 2; omega
        · have u0 : (((z.natAbs.log2 : Int) - 52) - -(k : Int)).toNat = z.natAbs.log2 + k - 52 := by omega
          have u1 : (-(k : Int) - ((z.natAbs.log2 : Int) - 52)).toNat = 0 := by omega
          rw [u0, u1, Nat.pow_zero, Nat.mul_one]
          have e2 : z.natAbs * 2 ^ k = z.natAbs * 2 ^ (52 - z.natAbs.log2) * 2 ^ (z.natAbs.log2 + k - 52) := by
            rw [Nat.mul_assoc, ← Nat.pow_add]; congr 2; omega
          have e3 : (z.natAbs * 2 ^ k).log2 = z.natAbs.log2 + k := log_pow h0
          rw [e2] at e3 ⊢
          exact cut0 .even (.inl rfl) s _ _ (by rw [e3]; omega)
      rw [hk]
      have h2 := Nat.lt_log2_self (n := z.natAbs)
      have e3 : 2 ^ (z.natAbs.log2 + 1) * 2 ^ (52 - z.natAbs.log2) = 2 ^ 53 := by rw [← Nat.pow_add]; congr 1; omega
      have b2 : z.natAbs * 2 ^ (52 - z.natAbs.log2) < 2 ^ 53 := by rw [← e3]; exact Nat.mul_lt_mul_of_pos_right h2 (Nat.two_pow_pos _)
      have e4 : (((z.natAbs.log2 : Int) - 52) - -1074).toNat = z.natAbs.log2 + 1022 := by omega
      rw [e4]
      have hmin : ∀ q L : Nat, L ≤ 52 → q < 2 ^ 53 → min ((L + 1022) * 2 ^ 52 + q) 9218868437227405312 = (L + 1022) * 2 ^ 52 + q := fun q L h1 h2 => by
        have p52 : (2 : Nat) ^ 52 = 4503599627370496 := by decide
        have p53 : (2 : Nat) ^ 53 = 9007199254740992 := by decide
        rw [p53] at h2
        rw [p52]
        exact Nat.min_eq_left (by omega)
      exact congrArg (Ieee.double.word s) (hmin _ _ hL b2)
    refine ⟨s, z.natAbs * 2 ^ (52 - z.natAbs.log2), 52 - z.natAbs.log2, by rw [hw]; exact read_rung s h0 hz, ?_⟩
    rw [signed0] at h ⊢
    have hp : (0 : Int) < 2 ^ k := by exact_mod_cast Nat.two_pow_pos k
    have hz2 : z = (if s = true then -(z.natAbs : Int) else z.natAbs) := by
      rw [hm] at h
      push_cast at h
      cases s
      · simp only [Bool.false_eq_true, if_false] at h ⊢
        exact (Int.eq_of_mul_eq_mul_right (by omega) h).symm
      · simp only [if_true] at h ⊢
        rw [← Int.neg_mul] at h
        exact (Int.eq_of_mul_eq_mul_right (by omega) h).symm
    rw [Int.natCast_mul]
    cases s
    · simp only [Bool.false_eq_true, if_false] at hz2 ⊢
      rw [← hz2]; push_cast; rfl
    · simp only [if_true] at hz2 ⊢
      rw [← Int.neg_mul, ← hz2]; push_cast; rfl
theorem IsZ.ofInt {z : Int} (hz : z.natAbs < 2 ^ 53) : IsZ (FloatKind.f64.nearest z) z := by
  refine IsZ.write (s := decide (z < 0)) (m := z.natAbs) (k := 0) ?_ hz
  rw [signed0]
  by_cases h : z < 0
  · rw [decide_eq_true h, if_pos rfl]; simp; omega
  · rw [decide_eq_false h, if_neg (by simp)]; simp; omega
theorem IsZ.toInt {w : Nat} {z : Int} (h : IsZ w z) : fInt w = some z := by
  obtain ⟨s, m, k, hr, hs⟩ := h
  have hm : m = z.natAbs * 2 ^ k := by
    have := congrArg Int.natAbs hs
    rw [signed_abs, Int.natAbs_mul, Int.natAbs_pow] at this
    exact this
  show (Ieee.double.read w).toInt .zero = some z
  rw [hr]
  unfold Ieee.Datum.toInt Ieee.Datum.integral
  have u0 : (-(k : Int)).toNat = 0 := by omega
  have u1 : (- -(k : Int)).toNat = k := by omega
  simp only [u0, u1, Nat.shiftLeft_zero]
  have hc : Ieee.Toward.zero.cut s m k = z.natAbs := by
    rw [hm]
    by_cases h0 : z.natAbs = 0
    · rw [h0, Nat.zero_mul]
      unfold Ieee.Toward.cut
      simp
    · exact cut0 .zero (.inr rfl) s _ _ (by rw [log_pow h0]; omega)
  rw [hc, signed0]
  have hp : (0 : Int) < 2 ^ k := by exact_mod_cast Nat.two_pow_pos k
  rw [signed0, hm] at hs
  push_cast at hs
  cases s
  · simp only [Bool.false_eq_true, if_false] at hs ⊢
    exact congrArg some (Int.eq_of_mul_eq_mul_right (by omega) hs)
  · simp only [if_true] at hs ⊢
    rw [← Int.neg_mul] at hs
    exact congrArg some (Int.eq_of_mul_eq_mul_right (by omega) hs)
theorem IsZ.sum {s t : Bool} {m n i j : Nat} {x y : Int} (hx : Ieee.signed s m 0 = x * 2 ^ i) (hy : Ieee.signed t n 0 = y * 2 ^ j) (hz : (x + y).natAbs < 2 ^ 53) :
    ∃ d, (Ieee.Datum.number s m (-(i : Nat))).sum (.number t n (-(j : Nat))) = some d ∧ IsZ (Ieee.double.write d) (x + y) := by
  refine ⟨_, rfl, ?_⟩
  have e0 : min (-(i : Int)) (-(j : Int)) = -((max i j : Nat) : Int) := by omega
  have e1 : (-(i : Int) - -((max i j : Nat) : Int)).toNat = max i j - i := by omega
  have e2 : (-(j : Int) - -((max i j : Nat) : Int)).toNat = max i j - j := by omega
  simp only [e0, e1, e2]
  have e3 : Ieee.signed s m (max i j - i) + Ieee.signed t n (max i j - j) = (x + y) * 2 ^ (max i j) := by
    rw [signed_up, signed_up t, hx, hy, Int.mul_assoc, Int.mul_assoc, ← Int.pow_add, ← Int.pow_add, Int.add_mul]
    congr 3 <;> omega
  rw [e3]
  refine IsZ.write ?_ hz
  rw [signed0]
  generalize (x + y) * 2 ^ (max i j) = v
  by_cases h0 : v = 0
  · subst h0
    rw [if_pos rfl]
    cases s <;> cases t <;> simp
  · rw [if_neg h0]
    by_cases h : v < 0
    · rw [decide_eq_true h, if_pos rfl]; omega
    · rw [decide_eq_false h, if_neg (by simp)]; omega
theorem IsZ.add {a b : Nat} {x y : Int} (ha : IsZ a x) (hb : IsZ b y) (hz : (x + y).natAbs < 2 ^ 53) : ∃ r, fOp .add a b = some r ∧ IsZ r (x + y) := by
  obtain ⟨s, m, i, h1, h2⟩ := ha
  obtain ⟨t, n, j, g1, g2⟩ := hb
  obtain ⟨d, hd, hw⟩ := IsZ.sum h2 g2 hz
  refine ⟨_, ?_, hw⟩
  show ((Ieee.double.read a).sum (Ieee.double.read b)).map Ieee.double.write = _
  rw [h1, g1, hd]
  rfl
theorem IsZ.sub {a b : Nat} {x y : Int} (ha : IsZ a x) (hb : IsZ b y) (hz : (x - y).natAbs < 2 ^ 53) : ∃ r, fOp .sub a b = some r ∧ IsZ r (x - y) := by
  obtain ⟨s, m, i, h1, h2⟩ := ha
  obtain ⟨t, n, j, g1, g2⟩ := hb
  have g3 : Ieee.signed (!t) n 0 = (-y) * 2 ^ j := by
    rw [Int.neg_mul, ← g2, signed0, signed0]
    cases t <;> simp
  obtain ⟨d, hd, hw⟩ := IsZ.sum h2 g3 (by rwa [← Int.sub_eq_add_neg])
  refine ⟨_, ?_, by rw [Int.sub_eq_add_neg]; exact hw⟩
  show ((Ieee.double.read a).sum (Ieee.double.read b).opposite).map Ieee.double.write = _
  rw [h1, g1]
  show ((Ieee.Datum.number s m (-(i : Nat))).sum (.number (!t) n (-(j : Nat)))).map Ieee.double.write = _
  rw [hd]
  rfl
theorem IsZ.mul {a b : Nat} {x y : Int} (ha : IsZ a x) (hb : IsZ b y) (hz : (x * y).natAbs < 2 ^ 53) : ∃ r, fOp .mul a b = some r ∧ IsZ r (x * y) := by
  obtain ⟨s, m, i, h1, h2⟩ := ha
  obtain ⟨t, n, j, g1, g2⟩ := hb
  refine ⟨Ieee.double.write (.number (s ^^ t) (m * n) (-((i + j : Nat) : Int))), ?_, ?_⟩
  · show ((Ieee.double.read a).product (Ieee.double.read b)).map Ieee.double.write = _
    rw [h1, g1]
    show some (Ieee.double.write (.number (s ^^ t) (m * n) (-(i : Int) + -(j : Int)))) = _
    rw [show -(i : Int) + -(j : Int) = -((i + j : Nat) : Int) by omega]
  · refine IsZ.write ?_ hz
    have e : x * y * 2 ^ (i + j) = (x * 2 ^ i) * (y * 2 ^ j) := by rw [Int.pow_add]; grind
    rw [e, ← h2, ← g2, signed0, signed0, signed0]
    cases s <;> cases t <;> simp [Int.neg_mul, Int.mul_neg]
/-- Complex numbers whose parts are whole. -/
theorem cadd {a b c e : Nat} {x y u v : Int} (ha : IsZ a x) (hb : IsZ b y) (hc : IsZ c u) (he : IsZ e v) (h1 : (x + u).natAbs < 2 ^ 53) (h2 : (y + v).natAbs < 2 ^ 53) :
    (cOp .add a b c e).isSome = true ∧ IsZ ((cOp .add a b c e).getD (0, 0)).1 (x + u) ∧ IsZ ((cOp .add a b c e).getD (0, 0)).2 (y + v) := by
  obtain ⟨r, hr, hr'⟩ := ha.add hc h1
  obtain ⟨i, hi, hi'⟩ := hb.add he h2
  have e : cOp .add a b c e = some (r, i) := by show pairO (fOp .add a c) (fOp .add b e) = _; rw [hr, hi]; rfl
  rw [e]
  exact ⟨rfl, hr', hi'⟩
theorem cmul {a b c e : Nat} {x y u v : Int} (ha : IsZ a x) (hb : IsZ b y) (hc : IsZ c u) (he : IsZ e v) (h1 : (x * u).natAbs < 2 ^ 53) (h2 : (y * v).natAbs < 2 ^ 53) (h3 : (x * v).natAbs < 2 ^ 53) (h4 : (y * u).natAbs < 2 ^ 53)
    (h5 : (x * u - y * v).natAbs < 2 ^ 53) (h6 : (x * v + y * u).natAbs < 2 ^ 53) :
    (cOp .mul a b c e).isSome = true ∧ IsZ ((cOp .mul a b c e).getD (0, 0)).1 (x * u - y * v) ∧ IsZ ((cOp .mul a b c e).getD (0, 0)).2 (x * v + y * u) := by
  obtain ⟨p, hp, hp'⟩ := ha.mul hc h1
  obtain ⟨q, hq, hq'⟩ := hb.mul he h2
  obtain ⟨r, hr, hr'⟩ := ha.mul he h3
  obtain ⟨s, hs, hs'⟩ := hb.mul hc h4
  obtain ⟨m, hm, hm'⟩ := hp'.sub hq' h5
  obtain ⟨n, hn, hn'⟩ := hr'.add hs' h6
  have e : cOp .mul a b c e = some (m, n) := by
    show pairO (fOp2 .sub (fOp .mul a c) (fOp .mul b e)) (fOp2 .add (fOp .mul a e) (fOp .mul b c)) = _
    rw [hp, hq, hr, hs]
    show pairO (fOp .sub p q) (fOp .add r s) = _
    rw [hm, hn]; rfl
  rw [e]
  exact ⟨rfl, hm', hn'⟩
end Go.Tr

/- Contracts of chapter 6: a polynomial shifted. Conditions: none. -/
namespace Go.Tr
open Go Go.Proofs
set_option maxRecDepth 20000
set_option maxHeartbeats 8000000

theorem S153 (l : List Int) (h : 0 < l.length) (hl : l.length ≤ 1000000) : SP 153 [ints l] (ints l) true := by
  refine sound (d := 2) tok2 mixed2 Tryz.func153 (by kernel_rfl) (by kernel_rfl) ?_
  rintro (_ | _) w1
  · conv => whnf
    refine .inl ?_
    conv => whnf
    refine ⟨⟨(by omega), (by show _ * (8 + 1) ≤ _; omega)⟩, ?_⟩
    conv => whnf
    refine ⟨?_, fun _ => ⟨rfl, ?_⟩⟩
    · exact ⟨rfl, Nat.zero_add _, fun i hi => rfl⟩
    · exact ⟨fun i _ x hx => ⟨_, List.mem_singleton.1 hx⟩, trivial⟩
  · (exact absurd (w1 (by omega)) nofun)
/-- One pass, so many steps from a place on; all passes. -/
def passG (t : Int) : Nat → Nat → List Int → List Int
  | 0, _, X => X
  | r + 1, i, X => passG t r (i + 1) (X.set i (X.getD i 0 + t * X.getD (i - 1) 0))
def shG (t : Int) : Nat → List Int → List Int
  | 0, X => X
  | k + 1, X => shG t k (passG t (k + 1) 1 X)
def shP (t : Int) (l : List Int) : List Int := shG t (l.length - 1) l
def tri : Nat → Nat
  | 0 => 0
  | k + 1 => tri k + (k + 1)
theorem tri_le {k : Nat} (h : k ≤ 4) : tri k ≤ 10 := by
  have : k = 0 ∨ k = 1 ∨ k = 2 ∨ k = 3 ∨ k = 4 := by omega
  rcases this with rfl | rfl | rfl | rfl | rfl <;> decide
theorem pass_len (t : Int) : ∀ (r i : Nat) (X : List Int), (passG t r i X).length = X.length
  | 0, _, _ => rfl
  | r + 1, i, X => by unfold passG; rw [pass_len t r, List.length_set]
theorem sh_len (t : Int) : ∀ (k : Nat) (X : List Int), (shG t k X).length = X.length
  | 0, _ => rfl
  | k + 1, X => by unfold shG; rw [sh_len t k, pass_len]
theorem shP_len (t : Int) (l : List Int) : (shP t l).length = l.length := sh_len t _ l
theorem set_sml {B : Nat} {X : List Int} {t : Int} (ht : t.natAbs ≤ 10) (h : Sml B X) (i : Nat) : Sml (11 * B) (X.set i (X.getD i 0 + t * X.getD (i - 1) 0)) := fun x hx => by
  rcases List.mem_or_eq_of_mem_set hx with hx | hx
  · have := h x hx; omega
  · rw [hx]
    have e1 : (X.getD i 0).natAbs ≤ B := ent_sml h i
    have e2 := mul_sml ht (show (X.getD (i - 1) 0).natAbs ≤ B from ent_sml h (i - 1))
    omega
theorem pow_sml {s : Nat} (h : s ≤ 10) : 1000 * 11 ^ s ≤ 30000000000000 := by
  have : 11 ^ s ≤ 11 ^ 10 := Nat.pow_le_pow_right (by decide) h
  omega
theorem S149 (l : List Int) (t : Int) (h2 : 2 ≤ l.length ∧ l.length ≤ 5) (hs : Sml 1000 l) (ht : t.natAbs ≤ 10) : SP 149 [ints l, i64 t] (ints (shP t l)) false := by
  have h153 := S153 l (by omega) (by omega)
  have htr := tri_le (show l.length - 1 ≤ 4 by omega)
  refine sound (d := 2) tok2 mixed2 Tryz.func149 (by kernel_rfl) (by kernel_rfl) ?_
  conv => whnf
  refine .inl ⟨_, _, byX rfl (h153), ?_⟩
  conv => whnf
  refine ⟨inK64 (by omega) (by omega), ?_⟩
  conv => whnf
  refine ⟨[], [1, 5, 6], fun st mq => ∃ (k : Nat) (c : Int) (X : List Int) (s : Nat), (c = (k : Nat)) ∧ (X.length = l.length) ∧ (k + 1 ≤ l.length) ∧ (Sml (1000 * 11 ^ s) X) ∧ (s + tri k ≤ 10) ∧ (shG t k X = shP t l) ∧ st = ⟨[(1, i64 t), (5, .oslice 0 0 0 l.length none), (6, i64 c)], ⟨[⟨1, l.length, fun i => [i64 (X.getD i 0)], 0, false, true, false⟩], [], none, 0⟩, []⟩ ∧ mq = k,
    ⟨_, _, ⟨l.length - 1, (l.length : Int) - 1, l, 0, by omega, rfl, by omega, by simpa using hs, by omega, rfl, rfl, rfl⟩, ⟨⟨.inl rfl, rfl, rfl, rfl⟩, ⟨⟨rfl, rfl, rfl, rfl, fun _ => rfl, fun _ _ => .inl rfl⟩, trivial⟩, trivial⟩⟩, ?_⟩
  rintro s0 m0 ⟨k, c, X, s, hc, hX, hk, hS, hr, hG, rfl, hmeas⟩
  subst hc
  by_cases hk0 : k = 0
  · subst hk0
    have hG : X = shP t l := hG
    conv => whnf
    conv => whnf
    refine ⟨?_, nofun⟩
    rw [← hG, show ints X = .rslice 1 X.length fun i => [i64 (X.getD i 0)] from rfl, hX]
    exact ⟨rfl, rfl, fun i hi => rfl⟩
  · obtain ⟨q, rfl⟩ : ∃ q, k = q + 1 := ⟨k - 1, by omega⟩
    have hr2 : s + (tri q + (q + 1)) ≤ 10 := hr
    have hG2 : shG t q (passG t (q + 1) 1 X) = shP t l := hG
    conv => whnf
    conv => whnf
    refine ifB_dec (fun w1 => ?_) (fun w1 => ?_)
    · conv => whnf
      conv => whnf
      refine ⟨[], [1, 5, 6, 7], fun st mq => ∃ (i : Nat) (j : Nat) (Y : List Int) (u : Nat), (i + j = q + 2) ∧ (1 ≤ i) ∧ (Y.length = l.length) ∧ (Sml (1000 * 11 ^ u) Y) ∧ (u + (tri q + j) ≤ 10) ∧ (shG t q (passG t j i Y) = shP t l) ∧ st = ⟨[(1, i64 t), (5, .oslice 0 0 0 l.length none), (6, i64 (q + 1 : Nat)), (7, i64 i)], ⟨[⟨1, l.length, fun i => [i64 (Y.getD i 0)], 0, false, true, false⟩], [], none, 0⟩, []⟩ ∧ mq = j,
        ⟨_, _, ⟨1, q + 1, X, s, by omega, by omega, hX, hS, by omega, hG2, rfl, rfl⟩, ⟨⟨.inl rfl, rfl, rfl, rfl⟩, ⟨⟨rfl, rfl, rfl, rfl, fun _ => rfl, fun _ _ => .inl rfl⟩, trivial⟩, trivial⟩⟩, ?_⟩
      rintro s0 m0 ⟨i, j, Y, u, hj, hi, hY, hT, hu, hP, rfl, hmeas⟩
      by_cases hj0 : j = 0
      · subst hj0
        have hP2 : shG t q Y = shP t l := hP
        conv => whnf
        conv => whnf
        conv => whnf
        refine ifB_dec (fun w2 => ?_) (fun w2 => ?_)
        · (exfalso; omega)
        · conv => whnf
          conv => whnf
          conv => whnf
          refine ⟨inK64 (by omega) (by omega), ?_⟩
          conv => whnf
          conv => whnf
          conv => whnf
          refine ⟨_, _, ⟨⟨q, ((q + 1 : Nat) : Int) - 1, Y, u, by omega, hY, by omega, hT, by omega, hP2, rfl, rfl⟩, by omega⟩, ⟨⟨.inl rfl, rfl, rfl, rfl⟩, ⟨⟨rfl, rfl, rfl, rfl, fun _ => rfl, fun _ _ => .inl rfl⟩, trivial⟩, trivial⟩⟩
      · obtain ⟨v, rfl⟩ : ∃ v, j = v + 1 := ⟨j - 1, by omega⟩
        have hb := pow_sml (show u ≤ 10 by omega)
        have e0 : 0 + (i : Int).toNat = i := by omega
        have e1 : 0 + ((i : Int) - 1).toNat = i - 1 := by omega
        have b1 : (Y.getD i 0).natAbs ≤ 1000 * 11 ^ u := ent_sml hT i
        have b2 : (Y.getD (i - 1) 0).natAbs ≤ 1000 * 11 ^ u := ent_sml hT (i - 1)
        have b3 := mul_sml ht b2
        have hn := set_sml ht hT i
        have hP2 : shG t q (passG t v (i + 1) (Y.set i (Y.getD i 0 + t * Y.getD (i - 1) 0))) = shP t l := hP
        rw [← e0] at b1
        rw [← e1] at b2 b3
        have hn2 : Sml (11 * (1000 * 11 ^ u)) (Y.set i (Y.getD (0 + (i : Int).toNat) 0 + t * Y.getD (0 + ((i : Int) - 1).toNat) 0)) := by rw [e0, e1]; exact hn
        have hP3 : shG t q (passG t v (i + 1) (Y.set i (Y.getD (0 + (i : Int).toNat) 0 + t * Y.getD (0 + ((i : Int) - 1).toNat) 0))) = shP t l := by rw [e0, e1]; exact hP2
        conv => whnf
        conv => whnf
        conv => whnf
        refine ifB_dec (fun w2 => ?_) (fun w2 => ?_)
        · conv => whnf
          conv => whnf
          conv => whnf
          refine ⟨[], by kernel_rfl, ?_⟩
          conv => whnf
          conv => whnf
          conv => whnf
          refine ⟨⟨(by omega), (by omega)⟩, ?_⟩
          conv => whnf
          conv => whnf
          conv => whnf
          refine ⟨inK64 (by omega) (by omega), ?_⟩
          conv => whnf
          conv => whnf
          conv => whnf
          refine ⟨⟨(by omega), (by omega)⟩, ?_⟩
          conv => whnf
          conv => whnf
          conv => whnf
          refine ⟨inK64 (by omega) (by omega), ?_⟩
          conv => whnf
          conv => whnf
          conv => whnf
          refine ⟨inK64 (by omega) (by omega), ?_⟩
          conv => whnf
          conv => whnf
          conv => whnf
          refine ⟨⟨(by omega), (by omega)⟩, ?_⟩
          refine ⟨_, fun i _ => rowI _ _ i _ (by first | omega | (simp only [List.length_set]; omega) | (simp only [List.length_replicate]; omega) | (simp only [List.length_set, List.length_replicate]; omega)), ?_⟩
          conv => whnf
          conv => whnf
          conv => whnf
          refine ⟨inK64 (by omega) (by omega), ?_⟩
          conv => whnf
          conv => whnf
          conv => whnf
          refine ⟨_, _, ⟨⟨i + 1, v, Y.set i (Y.getD (0 + (i : Int).toNat) 0 + t * Y.getD (0 + ((i : Int) - 1).toNat) 0), u + 1, by omega, by omega, (by rw [List.length_set]; exact hY), (by rw [Nat.pow_succ]; intro x hx; have := hn2 x hx; omega), by omega, hP3, rfl, rfl⟩, by omega⟩, ⟨⟨.inl rfl, rfl, rfl, rfl⟩, ⟨⟨rfl, rfl, rfl, rfl, fun _ => rfl, fun _ _ => .inl rfl⟩, trivial⟩, trivial⟩⟩
        · (exfalso; omega)
    · (exfalso; omega)
end Go.Tr

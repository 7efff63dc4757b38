/- Contracts of chapter 5: efficiency, quadrant and margin of a spot. Conditions: none. -/
import Derived.Test.YtgbdlkajmmjahaaGreatTr10
import Derived.Test.YtgbdlkajmmjahaaGreatTr07
import Derived.ProofKit
set_option linter.unusedSectionVars false
set_option linter.unnecessarySimpa false
set_option linter.unusedVariables false
set_option linter.unusedSimpArgs false

-- seat YtgbdlkajmmjahaaGreat
namespace Go.Tr
open Go Go.Proofs
set_option maxRecDepth 20000
set_option maxHeartbeats 8000000

/-- A spot with fractions of any size. -/
abbrev bgC (q : Q3) : List AV := [i64 (sgI q.1.num), ints (digs q.1.num.natAbs), i64 (sgI (q.1.den : Nat)), ints (digs ((q.1.den : Nat) : Int).natAbs),
  i64 (sgI q.2.1.num), ints (digs q.2.1.num.natAbs), i64 (sgI (q.2.1.den : Nat)), ints (digs ((q.2.1.den : Nat) : Int).natAbs),
  i64 (sgI q.2.2.num), ints (digs q.2.2.num.natAbs), i64 (sgI (q.2.2.den : Nat)), ints (digs ((q.2.2.den : Nat) : Int).natAbs)]
abbrev bgA (q : Q3) : AV := .agg (bgC q)
theorem ave_bgA {k : Nat} {q : Q3} : AVE (k + 2) (bgA q) (bgA q) := ave_aggR (by simp [AV.atom, ints])
def bigQ (s : F3) : Q3 := (Rat.divInt s.1.1 s.1.2, Rat.divInt s.2.1.1 s.2.1.2, Rat.divInt s.2.2.1 s.2.2.2)
/-- A valid spot. -/
def SpOk (s : F3) : Prop := spE s = 0
theorem frc_ok {f : Int × Int} (h : frcE f = 0) : lowF f ∧ (-10000 ≤ f.1 ∧ f.1 ≤ 10000) ∧ 1 ≤ f.2 ∧ f.2 ≤ 10000 := by
  unfold frcE at h
  by_cases h1 : lowF f
  · rw [if_pos h1] at h
    by_cases h2 : (-10000 ≤ f.1 ∧ f.1 ≤ 10000) ∧ f.2 ≤ 10000
    · exact ⟨h1, h2.1, h1.1, h2.2⟩
    · rw [if_neg h2] at h; exact absurd h (by decide)
  · rw [if_neg h1] at h; exact absurd h (by decide)
theorem SpOk.fr {s : F3} (h : SpOk s) : frcE s.1 = 0 ∧ frcE s.2.1 = 0 ∧ frcE s.2.2 = 0 := by
  unfold SpOk spE at h
  by_cases h1 : frcE s.1 = 0
  · rw [if_neg (not_not_intro h1)] at h
    by_cases h2 : frcE s.2.1 = 0
    · rw [if_neg (not_not_intro h2)] at h; exact ⟨h1, h2, h⟩
    · rw [if_pos h2] at h; exact absurd h h2
  · rw [if_pos h1] at h; exact absurd h h1
theorem S50 (s : F3) (h : SpOk s) : SP 50 [spA s] (bgA (bigQ s)) false := by
  obtain ⟨h1, h2, h3⟩ := h.fr
  have b1 := (frc_ok h1).2
  have b2 := (frc_ok h2).2
  have b3 := (frc_ok h3).2
  have c1 := S85 s.1 (by omega) (by omega)
  have c2 := S85 s.2.1 (by omega) (by omega)
  have c3 := S85 s.2.2 (by omega) (by omega)
  unfold bigQ
  refine sound (d := 2) tok2 mixed2 Tryz.func50 (by kernel_rfl) (by kernel_rfl) ?_
  conv => whnf
  refine ⟨[], by kernel_rfl, ?_⟩
  conv => whnf
  refine .inl ⟨_, _, byX rfl (c1), ?_⟩
  conv => whnf
  refine .inl ⟨_, _, byX rfl (c2), ?_⟩
  conv => whnf
  refine .inl ⟨_, _, byX rfl (c3), ?_⟩
  conv => whnf
  refine ⟨?_, nofun⟩
  exact ave_bgA (q := bigQ s)
def quadI (p q : Int) : Int := if p = 0 ∨ q = 0 then 0 else if p > 0 ∧ q > 0 then 1 else if p < 0 ∧ q < 0 then 2 else 3
theorem S58 (s : F3) : SP 58 [spA s] (i64 (quadI s.2.2.1 s.2.1.1)) false := by
  unfold quadI
  refine sound (d := 2) tok2 mixed2 Tryz.func58 (by kernel_rfl) (by kernel_rfl) ?_
  conv => whnf
  refine ifB_beq (fun w1 => ?_) (fun w1 => ?_)
  · conv => whnf
    refine ⟨?_, nofun⟩
    (first | exact endi (by (repeat' split) <;> omega))
  · conv => whnf
    refine ifB_beq (fun w2 => ?_) (fun w2 => ?_)
    · conv => whnf
      refine ⟨?_, nofun⟩
      (first | exact endi (by (repeat' split) <;> omega))
    · conv => whnf
      refine ifB_dec (fun w3 => ?_) (fun w3 => ?_)
      · conv => whnf
        refine ifB_dec (fun w4 => ?_) (fun w4 => ?_)
        · conv => whnf
          refine ⟨?_, nofun⟩
          (first | exact endi (by (repeat' split) <;> omega))
        · conv => whnf
          refine ifB_dec (fun w5 => ?_) (fun w5 => ?_)
          · (exfalso; omega)
          · conv => whnf
            refine ⟨?_, nofun⟩
            (first | exact endi (by (repeat' split) <;> omega))
      · conv => whnf
        refine ifB_dec (fun w4 => ?_) (fun w4 => ?_)
        · conv => whnf
          refine ifB_dec (fun w5 => ?_) (fun w5 => ?_)
          · conv => whnf
            refine ⟨?_, nofun⟩
            (first | exact endi (by (repeat' split) <;> omega))
          · conv => whnf
            refine ⟨?_, nofun⟩
            (first | exact endi (by (repeat' split) <;> omega))
        · (exfalso; omega)
theorem S55 (s : F3) (h : F3I s) : SP 55 [spA s] (.tuple [i64 (if spE s = 0 then quadI s.2.2.1 s.2.1.1 else 0), i64 (spE s)]) false := by
  have h1 := S126 s h
  unfold quadI
  by_cases he : spE s = 0
  · rw [he] at h1 ⊢
    rw [if_pos rfl]
    refine sound (d := 2) tok2 mixed2 Tryz.func55 (by kernel_rfl) (by kernel_rfl) ?_
    conv => whnf
    refine .inl ⟨_, _, byX rfl (Sound1.pl (h1) rfl), ?_⟩
    conv => whnf
    refine ⟨[], by kernel_rfl, ?_⟩
    conv => whnf
    refine ifB_beq (fun w1 => ?_) (fun w1 => ?_)
    · conv => whnf
      refine ⟨?_, nofun⟩
      (first | contradiction | exact ave_tup2 (endi (by (repeat' split) <;> omega)) rfl)
    · conv => whnf
      refine ifB_beq (fun w2 => ?_) (fun w2 => ?_)
      · conv => whnf
        refine ⟨?_, nofun⟩
        (first | contradiction | exact ave_tup2 (endi (by (repeat' split) <;> omega)) rfl)
      · conv => whnf
        refine ifB_dec (fun w3 => ?_) (fun w3 => ?_)
        · conv => whnf
          refine ifB_dec (fun w4 => ?_) (fun w4 => ?_)
          · conv => whnf
            refine ⟨?_, nofun⟩
            (first | contradiction | exact ave_tup2 (endi (by (repeat' split) <;> omega)) rfl)
          · conv => whnf
            refine ifB_dec (fun w5 => ?_) (fun w5 => ?_)
            · (exfalso; omega)
            · conv => whnf
              refine ⟨?_, nofun⟩
              (first | contradiction | exact ave_tup2 (endi (by (repeat' split) <;> omega)) rfl)
        · conv => whnf
          refine ifB_dec (fun w4 => ?_) (fun w4 => ?_)
          · conv => whnf
            refine ifB_dec (fun w5 => ?_) (fun w5 => ?_)
            · conv => whnf
              refine ⟨?_, nofun⟩
              (first | contradiction | exact ave_tup2 (endi (by (repeat' split) <;> omega)) rfl)
            · conv => whnf
              refine ⟨?_, nofun⟩
              (first | contradiction | exact ave_tup2 (endi (by (repeat' split) <;> omega)) rfl)
          · (exfalso; omega)
  · rw [if_neg he]
    refine sound (d := 2) tok2 mixed2 Tryz.func55 (by kernel_rfl) (by kernel_rfl) ?_
    conv => whnf
    refine .inl ⟨_, _, byX rfl (Sound1.pl (h1) rfl), ?_⟩
    conv => whnf
    refine ifB_bne (fun w1 => ?_) (fun w1 => ?_)
    · conv => whnf
      refine ⟨?_, nofun⟩
      (first | contradiction | exact ave_tup2 rfl rfl)
    · (exfalso; omega)
def tailE (x : Int × Int) : Int := if (0 ≤ x.1 ∧ x.1 ≤ 1000) ∧ 0 ≤ x.2 ∧ x.2 ≤ 1000 then 0 else 2
theorem S60 (x : Int × Int) : SP 60 [gaF x] (i64 (tailE x)) false := by
  have h1 := S36 x.1 0 1000
  have h2 := S36 x.2 0 1000
  unfold tailE
  refine sound (d := 2) tok2 mixed2 Tryz.func60 (by kernel_rfl) (by kernel_rfl) ?_
  conv => whnf
  refine .inl ⟨_, _, byX rfl (Sound1.pl (h1) rfl), ?_⟩
  conv => whnf
  refine ifB_not ?_
  conv => whnf
  refine ifB_dec (fun w1 => ?_) (fun w1 => ?_)
  · conv => whnf
    refine .inl ⟨_, _, byX rfl (Sound1.pl (h2) rfl), ?_⟩
    conv => whnf
    refine ifB_not ?_
    conv => whnf
    refine ifB_dec (fun w2 => ?_) (fun w2 => ?_)
    · conv => whnf
      refine ⟨?_, nofun⟩
      exact endi (if_pos ⟨by assumption, by assumption⟩).symm
    · conv => whnf
      refine ⟨?_, nofun⟩
      exact endi (if_neg (fun e => absurd e.2 (by assumption))).symm
  · conv => whnf
    refine ⟨?_, nofun⟩
    exact endi (if_neg (fun e => absurd e.1 (by assumption))).symm
/-! ### Efficiency -/
def effQ (s : F3) : Rat := Rat.divInt (s.2.2.1 * s.1.2 * s.2.1.2) (s.2.2.2 * s.1.1 * s.2.1.1)
theorem div_neg_neg (a b : Rat) : (-a) / (-b) = a / b := by
  rw [Rat.div_def, Rat.div_def]
  by_cases h : b = 0
  · subst h; rw [Rat.neg_zero, Rat.inv_zero, Rat.mul_zero, Rat.mul_zero]
  · have h1 : -b ≠ 0 := fun e => h (by rw [← Rat.neg_neg b, e]; rfl)
    have e1 := Rat.mul_inv_cancel b h
    have e2 := Rat.mul_inv_cancel (-b) h1
    grind
theorem S59 (q : Q3) {k : Nat} (h1 : Rk k q.1) (h2 : Rk k q.2.1) (h3 : Rk k q.2.2) (hk : k ≤ 20) (h0 : q.1 * q.2.1 ≠ 0) : SP 59 [bgA q] (rA (q.2.2 / (q.1 * q.2.1))) false := by
  have m := h1.mul h2
  have c1 := S121 q.1 q.2.1 h1 h2 (by omega)
  have c2 := S48 (q.1 * q.2.1)
  have c3 := S83 q.2.2 (q.1 * q.2.1) h3 m (by omega) h0
  have c4 := S128 q.2.2
  have c5 := S128 (q.1 * q.2.1)
  have h0' : -(q.1 * q.2.1) ≠ 0 := fun e => h0 (by rw [← Rat.neg_neg (q.1 * q.2.1), e]; rfl)
  have c6 := S83 (-q.2.2) (-(q.1 * q.2.1)) h3.neg m.neg (by omega) h0'
  rw [div_neg_neg] at c6
  refine sound (d := 2) tok2 mixed2 Tryz.func59 (by kernel_rfl) (by kernel_rfl) ?_
  conv => whnf
  refine ⟨[], by kernel_rfl, ?_⟩
  conv => whnf
  refine .inl ⟨_, _, byX rfl (c1), ?_⟩
  conv => whnf
  refine .inl ⟨_, _, byX rfl (Sound1.pl (c2) rfl), ?_⟩
  conv => whnf
  refine ifB_dec (fun w1 => ?_) (fun w1 => ?_)
  · conv => whnf
    refine ⟨[], by kernel_rfl, ?_⟩
    conv => whnf
    refine .inl ⟨_, _, byX rfl (c4), ?_⟩
    conv => whnf
    refine .inl ⟨_, _, byX rfl (c5), ?_⟩
    conv => whnf
    refine .inl ⟨_, _, byX rfl (c6), ?_⟩
    conv => whnf
    refine ⟨?_, nofun⟩
    (first | contradiction | exact ave_rA)
  · conv => whnf
    refine .inl ⟨_, _, byX rfl (c3), ?_⟩
    conv => whnf
    refine ⟨?_, nofun⟩
    (first | contradiction | exact ave_rA)
theorem eff_eq {s : F3} (h : SpOk s) (h1 : s.1.1 ≠ 0) (h2 : s.2.1.1 ≠ 0) : (bigQ s).2.2 / ((bigQ s).1 * (bigQ s).2.1) = effQ s ∧ (bigQ s).1 * (bigQ s).2.1 ≠ 0 := by
  obtain ⟨f1, f2, f3⟩ := h.fr
  have b1 := (frc_ok f1).2
  have b2 := (frc_ok f2).2
  have b3 := (frc_ok f3).2
  unfold bigQ effQ
  dsimp only
  rw [Rat.divInt_eq_div, Rat.divInt_eq_div, Rat.divInt_eq_div, Rat.divInt_eq_div]
  have a1 := cast_ne h1
  have a2 := cast_ne h2
  have a3 := cast_ne (show s.1.2 ≠ 0 by omega)
  have a4 := cast_ne (show s.2.1.2 ≠ 0 by omega)
  have a5 := cast_ne (show s.2.2.2 ≠ 0 by omega)
  push_cast
  constructor
  · grind
  · intro e
    have : (s.1.1 : Rat) * (s.2.1.1 : Rat) ≠ 0 := fun e => (Rat.mul_eq_zero.1 e).elim a1 a2
    grind
theorem bigQ_rk {s : F3} (h : SpOk s) : Rk 1 (bigQ s).1 ∧ Rk 1 (bigQ s).2.1 ∧ Rk 1 (bigQ s).2.2 := by
  obtain ⟨f1, f2, f3⟩ := h.fr
  have b1 := (frc_ok f1).2
  have b2 := (frc_ok f2).2
  have b3 := (frc_ok f3).2
  refine ⟨Rk.divI (by omega) (Zk.small ?_) (Zk.small ?_), Rk.divI (by omega) (Zk.small ?_) (Zk.small ?_), Rk.divI (by omega) (Zk.small ?_) (Zk.small ?_)⟩ <;> (exact Nat.lt_of_le_of_lt (show _ ≤ 10000 by omega) (by decide))
def effE (s : F3) : Int := if spE s ≠ 0 then spE s else if s.1.1 ≠ 0 ∧ s.2.1.1 ≠ 0 then 0 else 11
theorem pr3 {a b c : Int} (ha : a.natAbs ≤ 10000) (hb : b.natAbs ≤ 10000) (hc : c.natAbs ≤ 10000) : (a * b).natAbs ≤ 100000000 ∧ (a * b * c).natAbs ≤ 1000000000000 := by
  have h1 := Nat.mul_le_mul ha hb
  rw [← Int.natAbs_mul] at h1
  have h2 := Nat.mul_le_mul h1 hc
  rw [← Int.natAbs_mul] at h2
  exact ⟨h1, h2⟩
theorem S54 (s : F3) (h : F3I s) : SP 54 [spA s] (.tuple [gaF (if effE s = 0 then okR (effQ s) else (0, 0)), i64 (if effE s ≠ 0 then effE s else if smR (effQ s) then 0 else 8)]) false := by
  have h1 := S126 s h
  have h78t := S78 true 11
  have h78f := S78 false 11
  by_cases he : spE s = 0
  · obtain ⟨f1, f2, f3⟩ := SpOk.fr he
    have b1 := (frc_ok f1).2
    have b2 := (frc_ok f2).2
    have b3 := (frc_ok f3).2
    rw [he] at h1
    by_cases hz : s.1.1 ≠ 0 ∧ s.2.1.1 ≠ 0
    · have hE : effE s = 0 := by unfold effE; rw [if_neg (not_not_intro he), if_pos hz]
      rw [if_pos hE, if_neg (not_not_intro hE)]
      have h76 := @S76_2 0 (if (s.2.1.1 != 0) = true then 0 else 11)
      have e0 : firstOf [0, if (s.2.1.1 != 0) = true then (0 : Int) else 11] = 0 := by rw [if_pos (bne_iff_ne.2 hz.2)]; rfl
      rw [e0] at h76
      have h78b := S78 (s.2.1.1 != 0) 11
      have p1 := pr3 (a := s.2.2.1) (b := s.1.2) (c := s.2.1.2) (by omega) (by omega) (by omega)
      have p2 := pr3 (a := s.2.2.2) (b := s.1.1) (c := s.2.1.1) (by omega) (by omega) (by omega)
      have hn0 : s.2.2.2 * s.1.1 * s.2.1.1 ≠ 0 := Int.mul_ne_zero (Int.mul_ne_zero (by omega) hz.1) hz.2
      have h92 := S92 (s.2.2.1 * s.1.2 * s.2.1.2) (s.2.2.2 * s.1.1 * s.2.1.1) (by omega) (by omega) hn0
      change SP 92 _ (.tuple [gaF (okR (effQ s)), i64 (if smR (effQ s) then 0 else 8)]) false at h92
      have z1 := hz.1
      have z2 := hz.2
      refine sound (d := 2) tok2 mixed2 Tryz.func54 (by kernel_rfl) (by kernel_rfl) ?_
      conv => whnf
      refine ⟨[], by kernel_rfl, ?_⟩
      conv => whnf
      refine .inl ⟨_, _, byX rfl (Sound1.pl (h1) rfl), ?_⟩
      conv => whnf
      refine ifB_bne (fun w1 => ?_) (fun w1 => ?_)
      · conv => whnf
        refine .inl ⟨_, _, byX rfl (Sound1.pl (h78b) rfl), ?_⟩
        conv => whnf
        refine .inl ⟨_, _, byX rfl (Sound1.pl (h76 ⟨rfl, rfl⟩) rfl), ?_⟩
        conv => whnf
        refine ⟨inK64 (by omega) (by omega), ?_⟩
        conv => whnf
        refine ⟨inK64 (by omega) (by omega), ?_⟩
        conv => whnf
        refine ⟨inK64 (by omega) (by omega), ?_⟩
        conv => whnf
        refine ⟨inK64 (by omega) (by omega), ?_⟩
        conv => whnf
        refine .inl ⟨_, _, byX rfl (Sound1.pl (h92) rfl), ?_⟩
        conv => whnf
        refine ⟨?_, nofun⟩
        (first | contradiction | exact ave_tup2 (ave_agg2 rfl rfl) rfl)
      · (exfalso; omega)
    · have hE : effE s = 11 := by unfold effE; rw [if_neg (not_not_intro he), if_neg hz]
      rw [hE, if_neg (by decide), if_pos (by decide)]
      have h76 := @S76_2 0 (if false = true then 0 else 11)
      have h76b := @S76_2 0 (if (s.2.1.1 != 0) = true then 0 else 11)
      have h78b := S78 (s.2.1.1 != 0) 11
      by_cases z1 : s.1.1 = 0
      · refine sound (d := 2) tok2 mixed2 Tryz.func54 (by kernel_rfl) (by kernel_rfl) ?_
        conv => whnf
        refine ⟨[], by kernel_rfl, ?_⟩
        conv => whnf
        refine .inl ⟨_, _, byX rfl (Sound1.pl (h1) rfl), ?_⟩
        conv => whnf
        refine ifB_bne (fun w1 => ?_) (fun w1 => ?_)
        · (exfalso; omega)
        · conv => whnf
          refine .inl ⟨_, _, byX rfl (Sound1.pl (h78f) rfl), ?_⟩
          conv => whnf
          refine .inl ⟨_, _, byX rfl (Sound1.pl (h76 ⟨rfl, rfl⟩) rfl), ?_⟩
          conv => whnf
          refine ⟨?_, nofun⟩
          (first | contradiction | exact ave_tup2 (ave_agg2 rfl rfl) rfl)
      · have z2 : s.2.1.1 = 0 := Classical.byContradiction fun e => hz ⟨z1, e⟩
        have e0 : firstOf [0, if (s.2.1.1 != 0) = true then (0 : Int) else 11] = 11 := by rw [if_neg (by simp [z2])]; rfl
        rw [e0] at h76b
        refine sound (d := 2) tok2 mixed2 Tryz.func54 (by kernel_rfl) (by kernel_rfl) ?_
        conv => whnf
        refine ⟨[], by kernel_rfl, ?_⟩
        conv => whnf
        refine .inl ⟨_, _, byX rfl (Sound1.pl (h1) rfl), ?_⟩
        conv => whnf
        refine ifB_bne (fun w1 => ?_) (fun w1 => ?_)
        · conv => whnf
          refine .inl ⟨_, _, byX rfl (Sound1.pl (h78b) rfl), ?_⟩
          conv => whnf
          refine .inl ⟨_, _, byX rfl (Sound1.pl (h76b ⟨rfl, rfl⟩) rfl), ?_⟩
          conv => whnf
          refine ⟨?_, nofun⟩
          (first | contradiction | exact ave_tup2 (ave_agg2 rfl rfl) rfl)
        · (exfalso; omega)
  · have hE : effE s = spE s := if_pos he
    rw [hE, if_neg he, if_pos he]
    have h76t := @S76_2 (spE s) (if true = true then 0 else 11)
    have h76f := @S76_2 (spE s) (if false = true then 0 else 11)
    have h76b := @S76_2 (spE s) (if (s.2.1.1 != 0) = true then 0 else 11)
    have h78b := S78 (s.2.1.1 != 0) 11
    rw [first2, if_pos he] at h76t h76f h76b
    refine sound (d := 2) tok2 mixed2 Tryz.func54 (by kernel_rfl) (by kernel_rfl) ?_
    conv => whnf
    refine ⟨[], by kernel_rfl, ?_⟩
    conv => whnf
    refine .inl ⟨_, _, byX rfl (Sound1.pl (h1) rfl), ?_⟩
    conv => whnf
    refine ifB_bne (fun w1 => ?_) (fun w1 => ?_)
    · conv => whnf
      refine .inl ⟨_, _, byX rfl (Sound1.pl (h78b) rfl), ?_⟩
      conv => whnf
      refine .inl ⟨_, _, byX rfl (Sound1.pl (h76b ⟨rfl, rfl⟩) rfl), ?_⟩
      conv => whnf
      refine ifB_bne (fun w2 => ?_) (fun w2 => ?_)
      · conv => whnf
        refine ⟨?_, nofun⟩
        (first | contradiction | exact ave_tup2 (ave_agg2 rfl rfl) rfl)
      · (exfalso; omega)
    · conv => whnf
      refine .inl ⟨_, _, byX rfl (Sound1.pl (h78f) rfl), ?_⟩
      conv => whnf
      refine .inl ⟨_, _, byX rfl (Sound1.pl (h76f ⟨rfl, rfl⟩) rfl), ?_⟩
      conv => whnf
      refine ifB_bne (fun w2 => ?_) (fun w2 => ?_)
      · conv => whnf
        refine ⟨?_, nofun⟩
        (first | contradiction | exact ave_tup2 (ave_agg2 rfl rfl) rfl)
      · (exfalso; omega)
end Go.Tr

/- Contracts of chapter 5: the margin of a spot; the law MachineSpots. Conditions: none. -/
-- seat YtgbdlkajmmjahaaGreat
namespace Go.Tr
open Go Go.Proofs
set_option maxRecDepth 20000
set_option maxHeartbeats 8000000

def marQ (s : F3) (x : Int × Int) : Rat := (x.1 : Rat) - Rat.divInt (s.2.1.1.natAbs : Nat) s.2.1.2 * Rat.divInt x.2 100
theorem tail_ok {x : Int × Int} (h : tailE x = 0) : (0 ≤ x.1 ∧ x.1 ≤ 1000) ∧ 0 ≤ x.2 ∧ x.2 ≤ 1000 := by
  unfold tailE at h
  by_cases h1 : (0 ≤ x.1 ∧ x.1 ≤ 1000) ∧ 0 ≤ x.2 ∧ x.2 ≤ 1000
  · exact h1
  · rw [if_neg h1] at h; exact absurd h (by decide)
theorem S61 (s : F3) (x : Int × Int) (h : SpOk s) (hx : tailE x = 0) : SP 61 [spA s, gaF x] (rA (marQ s x)) false := by
  obtain ⟨f1, f2, f3⟩ := h.fr
  have b2 := (frc_ok f2).2
  have bx := tail_ok hx
  have c1 := S129 s.2.1.1 (by omega)
  have c2 := S119 (s.2.1.1.natAbs : Nat) s.2.1.2 (by omega) (by omega) (by omega)
  have c3 := S119 x.2 100 (by omega) (by decide) (by decide)
  have k1 : Rk 1 (Rat.divInt (s.2.1.1.natAbs : Nat) s.2.1.2) := Rk.divI (by omega) (Zk.small (Nat.lt_of_le_of_lt (show _ ≤ 10000 by omega) (by decide))) (Zk.small (Nat.lt_of_le_of_lt (show _ ≤ 10000 by omega) (by decide)))
  have k2 : Rk 1 (Rat.divInt x.2 100) := Rk.divI (by decide) (Zk.small (Nat.lt_of_le_of_lt (show _ ≤ 10000 by omega) (by decide))) (Zk.small (by decide))
  have k3 : Rk 1 (x.1 : Rat) := rk_int (k := 0) (Zk.small (Nat.lt_of_le_of_lt (show _ ≤ 10000 by omega) (by decide)))
  have c4 := S121 _ _ k1 k2 (by decide)
  have c5 := S86 x.1 (by omega)
  have c6 := S84 _ _ k3 (k1.mul k2) (by decide)
  unfold marQ
  refine sound (d := 2) tok2 mixed2 Tryz.func61 (by kernel_rfl) (by kernel_rfl) ?_
  conv => whnf
  refine ⟨[], by kernel_rfl, ?_⟩
  conv => whnf
  refine .inl ⟨_, _, byX rfl (Sound1.pl (c1) rfl), ?_⟩
  conv => whnf
  refine .inl ⟨_, _, byX rfl (c2), ?_⟩
  conv => whnf
  refine .inl ⟨_, _, byX rfl (c3), ?_⟩
  conv => whnf
  refine .inl ⟨_, _, byX rfl (c4), ?_⟩
  conv => whnf
  refine ⟨[], by kernel_rfl, ?_⟩
  conv => whnf
  refine .inl ⟨_, _, byX rfl (c5), ?_⟩
  conv => whnf
  refine .inl ⟨_, _, byX rfl (c6), ?_⟩
  conv => whnf
  refine ⟨?_, nofun⟩
  (first | contradiction | exact ave_rA)
theorem mar_eq {s : F3} (x : Int × Int) (h : SpOk s) : Rat.divInt (x.1 * (100 * s.2.1.2) - x.2 * siz s.2.1.1) (100 * s.2.1.2) = marQ s x := by
  obtain ⟨f1, f2, f3⟩ := h.fr
  have b2 := (frc_ok f2).2
  have e : siz s.2.1.1 = (s.2.1.1.natAbs : Nat) := by unfold siz; split <;> omega
  unfold marQ
  rw [e, Rat.divInt_eq_div, Rat.divInt_eq_div, Rat.divInt_eq_div]
  have a1 := cast_ne (show s.2.1.2 ≠ 0 by omega)
  push_cast
  grind
def marE (s : F3) (x : Int × Int) : Int := if spE s ≠ 0 then spE s else tailE x
theorem S56 (s : F3) (x : Int × Int) (h : F3I s) : SP 56 [spA s, gaF x] (.tuple [gaF (if marE s x = 0 then okR (marQ s x) else (0, 0)), i64 (if marE s x ≠ 0 then marE s x else if smR (marQ s x) then 0 else 8)]) false := by
  have h1 := S126 s h
  by_cases hx : tailE x = 0
  · have bx := tail_ok hx
    have w1 := S75 x.1 0 1000
    have w2 := S75 x.2 0 1000
    rw [show win x.1 0 1000 = true from decide_eq_true bx.1] at w1
    rw [show win x.2 0 1000 = true from decide_eq_true bx.2] at w2
    have h78 := S78 true 2
    by_cases he : spE s = 0
    · obtain ⟨f1, f2, f3⟩ := SpOk.fr he
      have b2 := (frc_ok f2).2
      rw [he] at h1
      have hE : marE s x = 0 := by unfold marE; rw [if_neg (not_not_intro he)]; exact hx
      rw [if_pos hE, if_neg (not_not_intro hE)]
      have h76 := @S76_2 0 (if true = true then 0 else 2)
      have e1 : siz s.2.1.1 = (s.2.1.1.natAbs : Nat) := by unfold siz; split <;> omega
      have m1 : 0 ≤ x.1 * (100 * s.2.1.2) ∧ x.1 * (100 * s.2.1.2) ≤ 1000 * 1000000 := ⟨Int.mul_nonneg bx.1.1 (by omega), Int.mul_le_mul bx.1.2 (by omega) (by omega) (by decide)⟩
      have m2 : 0 ≤ x.2 * siz s.2.1.1 ∧ x.2 * siz s.2.1.1 ≤ 1000 * 10000 := ⟨Int.mul_nonneg bx.2.1 (by omega), Int.mul_le_mul bx.2.2 (by omega) (by omega) (by decide)⟩
      have h92 := S92 (x.1 * (100 * s.2.1.2) - x.2 * siz s.2.1.1) (100 * s.2.1.2) (by omega) (by omega) (by omega)
      rw [mar_eq x he] at h92
      unfold siz at h92 m2
      refine sound (d := 2) tok2 mixed2 Tryz.func56 (by kernel_rfl) (by kernel_rfl) ?_
      conv => whnf
      refine .inl ⟨_, _, byX rfl (Sound1.pl (w1) rfl), ?_⟩
      conv => whnf
      refine .inl ⟨_, _, byX rfl (Sound1.pl (w2) rfl), ?_⟩
      conv => whnf
      refine .inl ⟨_, _, byX rfl (Sound1.pl (h1) rfl), ?_⟩
      conv => whnf
      refine .inl ⟨_, _, byX rfl (Sound1.pl (h78) rfl), ?_⟩
      conv => whnf
      refine .inl ⟨_, _, byX rfl (Sound1.pl (h76 ⟨rfl, rfl⟩) rfl), ?_⟩
      conv => whnf
      refine ⟨inK64 (by omega) (by omega), ?_⟩
      conv => whnf
      refine ⟨inK64 (by omega) (by omega), ?_⟩
      conv => whnf
      refine ⟨inK64 (by omega) (by omega), ?_⟩
      conv => whnf
      refine ⟨inK64 (by omega) (by omega), ?_⟩
      conv => whnf
      refine ⟨inK64 (by omega) (by omega), ?_⟩
      conv => whnf
      refine .inl ⟨_, _, byX rfl (Sound1.pl (h92) rfl), ?_⟩
      conv => whnf
      refine ⟨?_, nofun⟩
      (first | contradiction | exact ave_tup2 (ave_agg2 rfl rfl) rfl)
    · have hE : marE s x = spE s := if_pos he
      rw [hE, if_neg he, if_pos he]
      have h76 := @S76_2 (spE s) (if true = true then 0 else 2)
      rw [first2, if_pos he] at h76
      refine sound (d := 2) tok2 mixed2 Tryz.func56 (by kernel_rfl) (by kernel_rfl) ?_
      conv => whnf
      refine .inl ⟨_, _, byX rfl (Sound1.pl (w1) rfl), ?_⟩
      conv => whnf
      refine .inl ⟨_, _, byX rfl (Sound1.pl (w2) rfl), ?_⟩
      conv => whnf
      refine .inl ⟨_, _, byX rfl (Sound1.pl (h1) rfl), ?_⟩
      conv => whnf
      refine .inl ⟨_, _, byX rfl (Sound1.pl (h78) rfl), ?_⟩
      conv => whnf
      refine .inl ⟨_, _, byX rfl (Sound1.pl (h76 ⟨rfl, rfl⟩) rfl), ?_⟩
      conv => whnf
      refine ifB_bne (fun w3 => ?_) (fun w3 => ?_)
      · conv => whnf
        refine ⟨?_, nofun⟩
        (first | contradiction | exact ave_tup2 (ave_agg2 rfl rfl) rfl)
      · (exfalso; omega)
  · have ht : tailE x = 2 := by
      unfold tailE
      refine if_neg fun e => hx ?_
      unfold tailE
      exact if_pos e
    have hn : ¬ ((0 ≤ x.1 ∧ x.1 ≤ 1000) ∧ 0 ≤ x.2 ∧ x.2 ≤ 1000) := fun e => hx (if_pos e)
    have w1 := S75 x.1 0 1000
    have w2 := S75 x.2 0 1000
    have h78f := S78 false 2
    have h78w := S78 (win x.2 0 1000) 2
    have hE : marE s x ≠ 0 := by unfold marE; rw [ht]; split <;> omega
    rw [if_neg hE, if_pos hE]
    have h76f := @S76_2 (spE s) (if false = true then 0 else 2)
    have h76w := @S76_2 (spE s) (if win x.2 0 1000 = true then 0 else 2)
    have ef : firstOf [spE s, if false = true then (0 : Int) else 2] = marE s x := by
      rw [first2]; unfold marE; rw [ht]; rfl
    rw [ef] at h76f
    by_cases g1 : 0 ≤ x.1 ∧ x.1 ≤ 1000
    · have g2 : ¬ (0 ≤ x.2 ∧ x.2 ≤ 1000) := fun e => hn ⟨g1, e⟩
      rw [show win x.1 0 1000 = true from decide_eq_true g1] at w1
      rw [show win x.2 0 1000 = false from decide_eq_false g2] at w2
      refine sound (d := 2) tok2 mixed2 Tryz.func56 (by kernel_rfl) (by kernel_rfl) ?_
      conv => whnf
      refine .inl ⟨_, _, byX rfl (Sound1.pl (w1) rfl), ?_⟩
      conv => whnf
      refine .inl ⟨_, _, byX rfl (Sound1.pl (w2) rfl), ?_⟩
      conv => whnf
      refine .inl ⟨_, _, byX rfl (Sound1.pl (h1) rfl), ?_⟩
      conv => whnf
      refine .inl ⟨_, _, byX rfl (Sound1.pl (h78f) rfl), ?_⟩
      conv => whnf
      refine .inl ⟨_, _, byX rfl (Sound1.pl (h76f ⟨rfl, rfl⟩) rfl), ?_⟩
      conv => whnf
      refine ifB_bne (fun w3 => ?_) (fun w3 => ?_)
      · conv => whnf
        refine ⟨?_, nofun⟩
        (first | contradiction | exact ave_tup2 (ave_agg2 rfl rfl) rfl)
      · (exfalso; omega)
    · rw [show win x.1 0 1000 = false from decide_eq_false g1] at w1
      refine sound (d := 2) tok2 mixed2 Tryz.func56 (by kernel_rfl) (by kernel_rfl) ?_
      conv => whnf
      refine .inl ⟨_, _, byX rfl (Sound1.pl (w1) rfl), ?_⟩
      conv => whnf
      refine .inl ⟨_, _, byX rfl (Sound1.pl (h1) rfl), ?_⟩
      conv => whnf
      refine .inl ⟨_, _, byX rfl (Sound1.pl (h78f) rfl), ?_⟩
      conv => whnf
      refine .inl ⟨_, _, byX rfl (Sound1.pl (h76f ⟨rfl, rfl⟩) rfl), ?_⟩
      conv => whnf
      refine ifB_bne (fun w3 => ?_) (fun w3 => ?_)
      · conv => whnf
        refine ⟨?_, nofun⟩
        (first | contradiction | exact ave_tup2 (ave_agg2 rfl rfl) rfl)
      · (exfalso; omega)
end Go.Tr

/- The law MachineSpots returns true. Conditions: none. -/
-- seat YtgbdlkajmmjahaaGreat
namespace Go.Tr
open Go Go.Proofs
set_option maxRecDepth 20000
set_option maxHeartbeats 8000000

theorem vEq2 (a b : Int) : vEqL [.int .i64 a, .int .i64 b] [.int .i64 a, .int .i64 b] = true := by simp [vEqL]
theorem S11 (s : F3) (x : Int × Int) (h : F3I s) : SP 11 [spA s, gaF x] (vb true) false := by
  have h54 := S54 s h
  have h55 := S55 s h
  have h56 := S56 s x h
  have h57 := S57 s h
  have h58 := S58 s
  have h60 := S60 x
  by_cases he : spE s = 0
  · have hB := S50 s he
    have hk := bigQ_rk he
    rw [if_pos he] at h55
    rw [he] at h55 h57
    have hm : SP 56 [spA s, gaF x] (.tuple [gaF (if tailE x = 0 then okR (marQ s x) else (0, 0)), i64 (if tailE x ≠ 0 then tailE x else if smR (marQ s x) then 0 else 8)]) false := by
      have e : marE s x = tailE x := by unfold marE; rw [if_neg (not_not_intro he)]
      rw [e] at h56
      exact h56
    have hmq : tailE x = 0 → SP 61 [spA s, gaF x] (rA (marQ s x)) false := fun hx => S61 s x he hx
    have h41m := S41 (marQ s x)
    clear h56
    by_cases hz : s.1.1 ≠ 0 ∧ s.2.1.1 ≠ 0
    · have hE : effE s = 0 := by unfold effE; rw [if_neg (not_not_intro he), if_pos hz]
      rw [if_pos hE, if_neg (not_not_intro hE)] at h54
      have q := eff_eq he hz.1 hz.2
      have h59 := S59 (bigQ s) hk.1 hk.2.1 hk.2.2 (by decide) q.2
      rw [q.1] at h59
      have h41e := S41 (effQ s)
      have z1 := hz.1
      have z2 := hz.2
      by_cases hx : tailE x = 0
      · have h61 := hmq hx
        rw [if_pos hx, if_neg (not_not_intro hx)] at hm
        rw [hx] at h60
        by_cases s1 : smR (effQ s)
        · rw [if_pos s1] at h54
          rw [decide_eq_true s1] at h41e
          by_cases s2 : smR (marQ s x)
          · rw [if_pos s2] at hm
            rw [decide_eq_true s2] at h41m
            refine sound (d := 2) tok2 mixed2 Tryz.func11 (by kernel_rfl) (by kernel_rfl) ?_
            conv => whnf
            refine .inl ⟨_, _, byX rfl (Sound1.pl (S14) rfl), ?_⟩
            conv => whnf
            refine .inl ⟨_, _, byX rfl (Sound1.pl (h54) rfl), ?_⟩
            conv => whnf
            refine .inl ⟨_, _, byX rfl (Sound1.pl (h55) rfl), ?_⟩
            conv => whnf
            refine .inl ⟨_, _, byX rfl (Sound1.pl (hm) rfl), ?_⟩
            conv => whnf
            refine .inl ⟨_, _, byX rfl (Sound1.pl (h57) rfl), ?_⟩
            conv => whnf
            refine .inl ⟨_, _, byX rfl (Sound1.pl (h58) rfl), ?_⟩
            conv => whnf
            refine ifB_bne (fun w1 => ?_) (fun w1 => ?_)
            · (exfalso; omega)
            · conv => whnf
              refine ifB_beq (fun w2 => ?_) (fun w2 => ?_)
              · (exfalso; omega)
              · conv => whnf
                refine ifB_beq (fun w3 => ?_) (fun w3 => ?_)
                · (exfalso; omega)
                · conv => whnf
                  refine .inl ⟨_, _, byX rfl (hB), ?_⟩
                  conv => whnf
                  refine .inl ⟨_, _, byX rfl (h59), ?_⟩
                  conv => whnf
                  refine .inl ⟨_, _, byX rfl (Sound1.pl (h41e) rfl), ?_⟩
                  conv => whnf
                  refine ifB_not ?_
                  conv => whnf
                  refine ifB_veq2 (fun w4 => ?_) (fun w4 => ?_)
                  · conv => whnf
                    refine .inl ⟨_, _, byX rfl (Sound1.pl (h60) rfl), ?_⟩
                    conv => whnf
                    refine .inl ⟨_, _, byX rfl (h61), ?_⟩
                    conv => whnf
                    refine .inl ⟨_, _, byX rfl (Sound1.pl (h41m) rfl), ?_⟩
                    conv => whnf
                    refine ifB_veq2 (fun w5 => ?_) (fun w5 => ?_)
                    · conv => whnf
                      refine ⟨?_, nofun⟩
                      (first | rfl | contradiction | exact absurd (Eq.trans (Eq.symm (by assumption)) (vEq2 _ _)) (by decide) | exact endb (by simp [vEqL]))
                    · (exfalso; omega)
                  · (exfalso; omega)
          · rw [if_neg s2] at hm
            rw [decide_eq_false s2] at h41m
            have e0 : okR (marQ s x) = (0, 0) := if_neg s2
            rw [e0] at hm h41m
            refine sound (d := 2) tok2 mixed2 Tryz.func11 (by kernel_rfl) (by kernel_rfl) ?_
            conv => whnf
            refine .inl ⟨_, _, byX rfl (Sound1.pl (S14) rfl), ?_⟩
            conv => whnf
            refine .inl ⟨_, _, byX rfl (Sound1.pl (h54) rfl), ?_⟩
            conv => whnf
            refine .inl ⟨_, _, byX rfl (Sound1.pl (h55) rfl), ?_⟩
            conv => whnf
            refine .inl ⟨_, _, byX rfl (Sound1.pl (hm) rfl), ?_⟩
            conv => whnf
            refine .inl ⟨_, _, byX rfl (Sound1.pl (h57) rfl), ?_⟩
            conv => whnf
            refine .inl ⟨_, _, byX rfl (Sound1.pl (h58) rfl), ?_⟩
            conv => whnf
            refine ifB_bne (fun w1 => ?_) (fun w1 => ?_)
            · (exfalso; omega)
            · conv => whnf
              refine ifB_beq (fun w2 => ?_) (fun w2 => ?_)
              · (exfalso; omega)
              · conv => whnf
                refine ifB_beq (fun w3 => ?_) (fun w3 => ?_)
                · (exfalso; omega)
                · conv => whnf
                  refine .inl ⟨_, _, byX rfl (hB), ?_⟩
                  conv => whnf
                  refine .inl ⟨_, _, byX rfl (h59), ?_⟩
                  conv => whnf
                  refine .inl ⟨_, _, byX rfl (Sound1.pl (h41e) rfl), ?_⟩
                  conv => whnf
                  refine ifB_not ?_
                  conv => whnf
                  refine ifB_veq2 (fun w4 => ?_) (fun w4 => ?_)
                  · conv => whnf
                    refine .inl ⟨_, _, byX rfl (Sound1.pl (h60) rfl), ?_⟩
                    conv => whnf
                    refine .inl ⟨_, _, byX rfl (h61), ?_⟩
                    conv => whnf
                    refine .inl ⟨_, _, byX rfl (Sound1.pl (h41m) rfl), ?_⟩
                    conv => whnf
                    refine ⟨?_, nofun⟩
                    (first | rfl | contradiction | exact absurd (Eq.trans (Eq.symm (by assumption)) (vEq2 _ _)) (by decide) | exact endb (by simp [vEqL]))
                  · (exfalso; omega)
        · rw [if_neg s1] at h54
          rw [decide_eq_false s1] at h41e
          have e1 : okR (effQ s) = (0, 0) := if_neg s1
          rw [e1] at h54 h41e
          by_cases s2 : smR (marQ s x)
          · rw [if_pos s2] at hm
            rw [decide_eq_true s2] at h41m
            refine sound (d := 2) tok2 mixed2 Tryz.func11 (by kernel_rfl) (by kernel_rfl) ?_
            conv => whnf
            refine .inl ⟨_, _, byX rfl (Sound1.pl (S14) rfl), ?_⟩
            conv => whnf
            refine .inl ⟨_, _, byX rfl (Sound1.pl (h54) rfl), ?_⟩
            conv => whnf
            refine .inl ⟨_, _, byX rfl (Sound1.pl (h55) rfl), ?_⟩
            conv => whnf
            refine .inl ⟨_, _, byX rfl (Sound1.pl (hm) rfl), ?_⟩
            conv => whnf
            refine .inl ⟨_, _, byX rfl (Sound1.pl (h57) rfl), ?_⟩
            conv => whnf
            refine .inl ⟨_, _, byX rfl (Sound1.pl (h58) rfl), ?_⟩
            conv => whnf
            refine ifB_bne (fun w1 => ?_) (fun w1 => ?_)
            · (exfalso; omega)
            · conv => whnf
              refine ifB_beq (fun w2 => ?_) (fun w2 => ?_)
              · (exfalso; omega)
              · conv => whnf
                refine ifB_beq (fun w3 => ?_) (fun w3 => ?_)
                · (exfalso; omega)
                · conv => whnf
                  refine .inl ⟨_, _, byX rfl (hB), ?_⟩
                  conv => whnf
                  refine .inl ⟨_, _, byX rfl (h59), ?_⟩
                  conv => whnf
                  refine .inl ⟨_, _, byX rfl (Sound1.pl (h41e) rfl), ?_⟩
                  conv => whnf
                  refine .inl ⟨_, _, byX rfl (Sound1.pl (h60) rfl), ?_⟩
                  conv => whnf
                  refine .inl ⟨_, _, byX rfl (h61), ?_⟩
                  conv => whnf
                  refine .inl ⟨_, _, byX rfl (Sound1.pl (h41m) rfl), ?_⟩
                  conv => whnf
                  refine ifB_veq2 (fun w4 => ?_) (fun w4 => ?_)
                  · conv => whnf
                    refine ⟨?_, nofun⟩
                    (first | rfl | contradiction | exact absurd (Eq.trans (Eq.symm (by assumption)) (vEq2 _ _)) (by decide) | exact endb (by simp [vEqL]))
                  · (exfalso; omega)
          · rw [if_neg s2] at hm
            rw [decide_eq_false s2] at h41m
            have e0 : okR (marQ s x) = (0, 0) := if_neg s2
            rw [e0] at hm h41m
            refine sound (d := 2) tok2 mixed2 Tryz.func11 (by kernel_rfl) (by kernel_rfl) ?_
            conv => whnf
            refine .inl ⟨_, _, byX rfl (Sound1.pl (S14) rfl), ?_⟩
            conv => whnf
            refine .inl ⟨_, _, byX rfl (Sound1.pl (h54) rfl), ?_⟩
            conv => whnf
            refine .inl ⟨_, _, byX rfl (Sound1.pl (h55) rfl), ?_⟩
            conv => whnf
            refine .inl ⟨_, _, byX rfl (Sound1.pl (hm) rfl), ?_⟩
            conv => whnf
            refine .inl ⟨_, _, byX rfl (Sound1.pl (h57) rfl), ?_⟩
            conv => whnf
            refine .inl ⟨_, _, byX rfl (Sound1.pl (h58) rfl), ?_⟩
            conv => whnf
            refine ifB_bne (fun w1 => ?_) (fun w1 => ?_)
            · (exfalso; omega)
            · conv => whnf
              refine ifB_beq (fun w2 => ?_) (fun w2 => ?_)
              · (exfalso; omega)
              · conv => whnf
                refine ifB_beq (fun w3 => ?_) (fun w3 => ?_)
                · (exfalso; omega)
                · conv => whnf
                  refine .inl ⟨_, _, byX rfl (hB), ?_⟩
                  conv => whnf
                  refine .inl ⟨_, _, byX rfl (h59), ?_⟩
                  conv => whnf
                  refine .inl ⟨_, _, byX rfl (Sound1.pl (h41e) rfl), ?_⟩
                  conv => whnf
                  refine .inl ⟨_, _, byX rfl (Sound1.pl (h60) rfl), ?_⟩
                  conv => whnf
                  refine .inl ⟨_, _, byX rfl (h61), ?_⟩
                  conv => whnf
                  refine .inl ⟨_, _, byX rfl (Sound1.pl (h41m) rfl), ?_⟩
                  conv => whnf
                  refine ⟨?_, nofun⟩
                  (first | rfl | contradiction | exact absurd (Eq.trans (Eq.symm (by assumption)) (vEq2 _ _)) (by decide) | exact endb (by simp [vEqL]))
      · rw [if_neg hx, if_pos hx] at hm
        by_cases s1 : smR (effQ s)
        · rw [if_pos s1] at h54
          rw [decide_eq_true s1] at h41e
          refine sound (d := 2) tok2 mixed2 Tryz.func11 (by kernel_rfl) (by kernel_rfl) ?_
          conv => whnf
          refine .inl ⟨_, _, byX rfl (Sound1.pl (S14) rfl), ?_⟩
          conv => whnf
          refine .inl ⟨_, _, byX rfl (Sound1.pl (h54) rfl), ?_⟩
          conv => whnf
          refine .inl ⟨_, _, byX rfl (Sound1.pl (h55) rfl), ?_⟩
          conv => whnf
          refine .inl ⟨_, _, byX rfl (Sound1.pl (hm) rfl), ?_⟩
          conv => whnf
          refine .inl ⟨_, _, byX rfl (Sound1.pl (h57) rfl), ?_⟩
          conv => whnf
          refine .inl ⟨_, _, byX rfl (Sound1.pl (h58) rfl), ?_⟩
          conv => whnf
          refine ifB_bne (fun w1 => ?_) (fun w1 => ?_)
          · (exfalso; omega)
          · conv => whnf
            refine ifB_beq (fun w2 => ?_) (fun w2 => ?_)
            · (exfalso; omega)
            · conv => whnf
              refine ifB_beq (fun w3 => ?_) (fun w3 => ?_)
              · (exfalso; omega)
              · conv => whnf
                refine .inl ⟨_, _, byX rfl (hB), ?_⟩
                conv => whnf
                refine .inl ⟨_, _, byX rfl (h59), ?_⟩
                conv => whnf
                refine .inl ⟨_, _, byX rfl (Sound1.pl (h41e) rfl), ?_⟩
                conv => whnf
                refine ifB_not ?_
                conv => whnf
                refine ifB_veq2 (fun w4 => ?_) (fun w4 => ?_)
                · conv => whnf
                  refine .inl ⟨_, _, byX rfl (Sound1.pl (h60) rfl), ?_⟩
                  conv => whnf
                  refine ifB_bne (fun w5 => ?_) (fun w5 => ?_)
                  · conv => whnf
                    refine ifB_beq (fun w6 => ?_) (fun w6 => ?_)
                    · conv => whnf
                      refine ⟨?_, nofun⟩
                      (first | rfl | contradiction | exact absurd (Eq.trans (Eq.symm (by assumption)) (vEq2 _ _)) (by decide) | exact endb (by simp [vEqL]))
                    · (exfalso; omega)
                  · (exfalso; omega)
                · (exfalso; omega)
        · rw [if_neg s1] at h54
          rw [decide_eq_false s1] at h41e
          have e1 : okR (effQ s) = (0, 0) := if_neg s1
          rw [e1] at h54 h41e
          refine sound (d := 2) tok2 mixed2 Tryz.func11 (by kernel_rfl) (by kernel_rfl) ?_
          conv => whnf
          refine .inl ⟨_, _, byX rfl (Sound1.pl (S14) rfl), ?_⟩
          conv => whnf
          refine .inl ⟨_, _, byX rfl (Sound1.pl (h54) rfl), ?_⟩
          conv => whnf
          refine .inl ⟨_, _, byX rfl (Sound1.pl (h55) rfl), ?_⟩
          conv => whnf
          refine .inl ⟨_, _, byX rfl (Sound1.pl (hm) rfl), ?_⟩
          conv => whnf
          refine .inl ⟨_, _, byX rfl (Sound1.pl (h57) rfl), ?_⟩
          conv => whnf
          refine .inl ⟨_, _, byX rfl (Sound1.pl (h58) rfl), ?_⟩
          conv => whnf
          refine ifB_bne (fun w1 => ?_) (fun w1 => ?_)
          · (exfalso; omega)
          · conv => whnf
            refine ifB_beq (fun w2 => ?_) (fun w2 => ?_)
            · (exfalso; omega)
            · conv => whnf
              refine ifB_beq (fun w3 => ?_) (fun w3 => ?_)
              · (exfalso; omega)
              · conv => whnf
                refine .inl ⟨_, _, byX rfl (hB), ?_⟩
                conv => whnf
                refine .inl ⟨_, _, byX rfl (h59), ?_⟩
                conv => whnf
                refine .inl ⟨_, _, byX rfl (Sound1.pl (h41e) rfl), ?_⟩
                conv => whnf
                refine .inl ⟨_, _, byX rfl (Sound1.pl (h60) rfl), ?_⟩
                conv => whnf
                refine ifB_bne (fun w4 => ?_) (fun w4 => ?_)
                · conv => whnf
                  refine ifB_beq (fun w5 => ?_) (fun w5 => ?_)
                  · conv => whnf
                    refine ⟨?_, nofun⟩
                    (first | rfl | contradiction | exact absurd (Eq.trans (Eq.symm (by assumption)) (vEq2 _ _)) (by decide) | exact endb (by simp [vEqL]))
                  · (exfalso; omega)
                · (exfalso; omega)
    · have hE : effE s = 11 := by unfold effE; rw [if_neg (not_not_intro he), if_neg hz]
      rw [hE, if_neg (by decide), if_pos (by decide)] at h54
      by_cases hx : tailE x = 0
      · have h61 := hmq hx
        rw [if_pos hx, if_neg (not_not_intro hx)] at hm
        rw [hx] at h60
        by_cases s2 : smR (marQ s x)
        · rw [if_pos s2] at hm
          rw [decide_eq_true s2] at h41m
          refine sound (d := 2) tok2 mixed2 Tryz.func11 (by kernel_rfl) (by kernel_rfl) ?_
          conv => whnf
          refine .inl ⟨_, _, byX rfl (Sound1.pl (S14) rfl), ?_⟩
          conv => whnf
          refine .inl ⟨_, _, byX rfl (Sound1.pl (h54) rfl), ?_⟩
          conv => whnf
          refine .inl ⟨_, _, byX rfl (Sound1.pl (h55) rfl), ?_⟩
          conv => whnf
          refine .inl ⟨_, _, byX rfl (Sound1.pl (hm) rfl), ?_⟩
          conv => whnf
          refine .inl ⟨_, _, byX rfl (Sound1.pl (h57) rfl), ?_⟩
          conv => whnf
          refine .inl ⟨_, _, byX rfl (Sound1.pl (h58) rfl), ?_⟩
          conv => whnf
          refine ifB_bne (fun w1 => ?_) (fun w1 => ?_)
          · (exfalso; omega)
          · conv => whnf
            refine ifB_beq (fun w2 => ?_) (fun w2 => ?_)
            · conv => whnf
              refine .inl ⟨_, _, byX rfl (Sound1.pl (h60) rfl), ?_⟩
              conv => whnf
              refine .inl ⟨_, _, byX rfl (h61), ?_⟩
              conv => whnf
              refine .inl ⟨_, _, byX rfl (Sound1.pl (h41m) rfl), ?_⟩
              conv => whnf
              refine ifB_veq2 (fun w3 => ?_) (fun w3 => ?_)
              · conv => whnf
                refine ⟨?_, nofun⟩
                (first | rfl | contradiction | exact absurd (Eq.trans (Eq.symm (by assumption)) (vEq2 _ _)) (by decide) | exact endb (by simp [vEqL]) | (exfalso; exact hz ⟨by assumption, by assumption⟩))
              · (exfalso; omega)
            · conv => whnf
              refine ifB_beq (fun w3 => ?_) (fun w3 => ?_)
              · conv => whnf
                refine .inl ⟨_, _, byX rfl (Sound1.pl (h60) rfl), ?_⟩
                conv => whnf
                refine .inl ⟨_, _, byX rfl (h61), ?_⟩
                conv => whnf
                refine .inl ⟨_, _, byX rfl (Sound1.pl (h41m) rfl), ?_⟩
                conv => whnf
                refine ifB_veq2 (fun w4 => ?_) (fun w4 => ?_)
                · conv => whnf
                  refine ⟨?_, nofun⟩
                  (first | rfl | contradiction | exact absurd (Eq.trans (Eq.symm (by assumption)) (vEq2 _ _)) (by decide) | exact endb (by simp [vEqL]) | (exfalso; exact hz ⟨by assumption, by assumption⟩))
                · (exfalso; omega)
              · (exfalso; omega)
        · rw [if_neg s2] at hm
          rw [decide_eq_false s2] at h41m
          have e0 : okR (marQ s x) = (0, 0) := if_neg s2
          rw [e0] at hm h41m
          refine sound (d := 2) tok2 mixed2 Tryz.func11 (by kernel_rfl) (by kernel_rfl) ?_
          conv => whnf
          refine .inl ⟨_, _, byX rfl (Sound1.pl (S14) rfl), ?_⟩
          conv => whnf
          refine .inl ⟨_, _, byX rfl (Sound1.pl (h54) rfl), ?_⟩
          conv => whnf
          refine .inl ⟨_, _, byX rfl (Sound1.pl (h55) rfl), ?_⟩
          conv => whnf
          refine .inl ⟨_, _, byX rfl (Sound1.pl (hm) rfl), ?_⟩
          conv => whnf
          refine .inl ⟨_, _, byX rfl (Sound1.pl (h57) rfl), ?_⟩
          conv => whnf
          refine .inl ⟨_, _, byX rfl (Sound1.pl (h58) rfl), ?_⟩
          conv => whnf
          refine ifB_bne (fun w1 => ?_) (fun w1 => ?_)
          · (exfalso; omega)
          · conv => whnf
            refine ifB_beq (fun w2 => ?_) (fun w2 => ?_)
            · conv => whnf
              refine .inl ⟨_, _, byX rfl (Sound1.pl (h60) rfl), ?_⟩
              conv => whnf
              refine .inl ⟨_, _, byX rfl (h61), ?_⟩
              conv => whnf
              refine .inl ⟨_, _, byX rfl (Sound1.pl (h41m) rfl), ?_⟩
              conv => whnf
              refine ⟨?_, nofun⟩
              (first | rfl | contradiction | exact absurd (Eq.trans (Eq.symm (by assumption)) (vEq2 _ _)) (by decide) | exact endb (by simp [vEqL]) | (exfalso; exact hz ⟨by assumption, by assumption⟩))
            · conv => whnf
              refine ifB_beq (fun w3 => ?_) (fun w3 => ?_)
              · conv => whnf
                refine .inl ⟨_, _, byX rfl (Sound1.pl (h60) rfl), ?_⟩
                conv => whnf
                refine .inl ⟨_, _, byX rfl (h61), ?_⟩
                conv => whnf
                refine .inl ⟨_, _, byX rfl (Sound1.pl (h41m) rfl), ?_⟩
                conv => whnf
                refine ⟨?_, nofun⟩
                (first | rfl | contradiction | exact absurd (Eq.trans (Eq.symm (by assumption)) (vEq2 _ _)) (by decide) | exact endb (by simp [vEqL]) | (exfalso; exact hz ⟨by assumption, by assumption⟩))
              · (exfalso; omega)
      · rw [if_neg hx, if_pos hx] at hm
        refine sound (d := 2) tok2 mixed2 Tryz.func11 (by kernel_rfl) (by kernel_rfl) ?_
        conv => whnf
        refine .inl ⟨_, _, byX rfl (Sound1.pl (S14) rfl), ?_⟩
        conv => whnf
        refine .inl ⟨_, _, byX rfl (Sound1.pl (h54) rfl), ?_⟩
        conv => whnf
        refine .inl ⟨_, _, byX rfl (Sound1.pl (h55) rfl), ?_⟩
        conv => whnf
        refine .inl ⟨_, _, byX rfl (Sound1.pl (hm) rfl), ?_⟩
        conv => whnf
        refine .inl ⟨_, _, byX rfl (Sound1.pl (h57) rfl), ?_⟩
        conv => whnf
        refine .inl ⟨_, _, byX rfl (Sound1.pl (h58) rfl), ?_⟩
        conv => whnf
        refine ifB_bne (fun w1 => ?_) (fun w1 => ?_)
        · (exfalso; omega)
        · conv => whnf
          refine ifB_beq (fun w2 => ?_) (fun w2 => ?_)
          · conv => whnf
            refine .inl ⟨_, _, byX rfl (Sound1.pl (h60) rfl), ?_⟩
            conv => whnf
            refine ifB_bne (fun w3 => ?_) (fun w3 => ?_)
            · conv => whnf
              refine ifB_beq (fun w4 => ?_) (fun w4 => ?_)
              · conv => whnf
                refine ⟨?_, nofun⟩
                (first | rfl | contradiction | exact absurd (Eq.trans (Eq.symm (by assumption)) (vEq2 _ _)) (by decide) | exact endb (by simp [vEqL]) | (exfalso; exact hz ⟨by assumption, by assumption⟩))
              · (exfalso; omega)
            · (exfalso; omega)
          · conv => whnf
            refine ifB_beq (fun w3 => ?_) (fun w3 => ?_)
            · conv => whnf
              refine .inl ⟨_, _, byX rfl (Sound1.pl (h60) rfl), ?_⟩
              conv => whnf
              refine ifB_bne (fun w4 => ?_) (fun w4 => ?_)
              · conv => whnf
                refine ifB_beq (fun w5 => ?_) (fun w5 => ?_)
                · conv => whnf
                  refine ⟨?_, nofun⟩
                  (first | rfl | contradiction | exact absurd (Eq.trans (Eq.symm (by assumption)) (vEq2 _ _)) (by decide) | exact endb (by simp [vEqL]) | (exfalso; exact hz ⟨by assumption, by assumption⟩))
                · (exfalso; omega)
              · (exfalso; omega)
            · (exfalso; omega)
  · have hE : effE s = spE s := if_pos he
    have hM : marE s x = spE s := if_pos he
    rw [hE, if_neg he, if_pos he] at h54
    rw [if_neg he] at h55
    rw [hM, if_neg he, if_pos he] at h56
    refine sound (d := 2) tok2 mixed2 Tryz.func11 (by kernel_rfl) (by kernel_rfl) ?_
    conv => whnf
    refine .inl ⟨_, _, byX rfl (Sound1.pl (S14) rfl), ?_⟩
    conv => whnf
    refine .inl ⟨_, _, byX rfl (Sound1.pl (h54) rfl), ?_⟩
    conv => whnf
    refine .inl ⟨_, _, byX rfl (Sound1.pl (h55) rfl), ?_⟩
    conv => whnf
    refine .inl ⟨_, _, byX rfl (Sound1.pl (h56) rfl), ?_⟩
    conv => whnf
    refine .inl ⟨_, _, byX rfl (Sound1.pl (h57) rfl), ?_⟩
    conv => whnf
    refine ifB_bne (fun w1 => ?_) (fun w1 => ?_)
    · conv => whnf
      refine ifB_beq (fun w2 => ?_) (fun w2 => ?_)
      · conv => whnf
        refine ifB_beq (fun w3 => ?_) (fun w3 => ?_)
        · conv => whnf
          refine ifB_beq (fun w4 => ?_) (fun w4 => ?_)
          · conv => whnf
            refine ⟨?_, nofun⟩
            (first | rfl | contradiction | exact absurd (Eq.trans (Eq.symm (by assumption)) (vEq2 _ _)) (by decide) | exact endb (by simp [vEqL]))
          · (exfalso; omega)
        · (exfalso; omega)
      · (exfalso; omega)
    · (exfalso; omega)
end Go.Tr

/- The opening of a law: what an argument reads as, as abstract values, with its shape. Conditions: types of numbers, truth values, strings, slices, structs and arrays. -/
namespace Go.Tr
open Go Go.RowKit

def V2 (P : Program) (w : World) (q : Nat → Prop) : List AV → List Value → Prop
  | [], [] => True
  | x :: xs, v :: vs => (VT P w q x v ∧ v.oneCell' = true) ∧ V2 P w q xs vs
  | _, _ => False

def All2 {α β : Type} (p : α → β → Prop) : List α → List β → Prop
  | [], [] => True
  | x :: xs, y :: ys => p x y ∧ All2 p xs ys
  | _, _ => False

/-- The shape of what a type's cells read as. -/
def TyC (P : Program) : Nat → TypeId → List AV → Prop
  | 0, _, _ => True
  | m + 1, t, xs => match P.underlying t with
    | some .bool => ∃ b, xs = [.val (.bool b)]
    | some (.int k) => ∃ n, xs = [.val (.int k n)] ∧ inK k n
    | some .string => ∃ s : ByteArray, xs = [.val (.string s)] ∧ s.size ≤ 9223372036854775807
    | some (.slice e) => ∃ len f, xs = [.rslice (P.cellsOf e) len f] ∧ len ≤ 9223372036854775807 ∧ ∀ i, i < len → TyC P m e (f i)
    | some (.struct fs) => ∃ ps : List (List AV), xs = ps.flatten ∧ All2 (fun f p => TyC P m f.type p) fs.toList ps
    | some (.array n e) => ∃ ps : List (List AV), xs = ps.flatten ∧ ps.length = n ∧ ∀ p ∈ ps, TyC P m e p
    | _ => False

def layF (P : Program) (g : TypeId → Bool) : List Field → Nat → Nat → Bool
  | [], off, tot => Nat.beq off tot
  | f :: r, off, tot => Nat.beq f.offset off && g f.type && layF P g r (off + P.cellsOf f.type) tot

/-- Types that are covered, laid out part behind part. -/
def lay (P : Program) : Nat → TypeId → Bool
  | 0, _ => false
  | m + 1, t => match P.underlying t with
    | some .bool | some (.int _) | some .string => true
    | some (.slice e) => Nat.blt 0 (P.cellsOf e) && lay P m e
    | some (.struct fs) => layF P (lay P m) fs.toList 0 (P.cellsOf t)
    | some (.array n e) => Nat.beq (P.cellsOf t) (n * P.cellsOf e) && lay P m e
    | _ => false

section
variable {H : Type} {enc : TypeId × Value → H} {P : Program} {w : World} {spare : Nat → Bool} {held : Bool} {q : Nat → Prop}

theorem V2_len : ∀ {xs : List AV} {vs : List Value}, V2 P w q xs vs → xs.length = vs.length
  | [], [], _ => rfl
  | x :: xs, v :: vs, h => by simp [V2_len h.2]
  | [], _ :: _, h => h.elim
  | _ :: _, [], h => h.elim

theorem V2_append : ∀ {xs : List AV} {vs : List Value} {ys : List AV} {us : List Value}, V2 P w q xs vs → V2 P w q ys us → V2 P w q (xs ++ ys) (vs ++ us)
  | [], [], _, _, _, h => h
  | _ :: _, _ :: _, _, _, h, h' => ⟨h.1, V2_append h.2 h'⟩
  | [], _ :: _, _, _, h, _ => h.elim
  | _ :: _, [], _, _, h, _ => h.elim

theorem V2_get : ∀ {xs : List AV} {vs : List Value}, V2 P w q xs vs → ∀ (i : Nat) x, xs[i]? = some x → VT P w q x (vs.getD i undef) ∧ (vs.getD i undef).oneCell' = true
  | [], [], _, i, x, hx => by simp at hx
  | y :: ys, v :: vs, h, 0, x, hx => by
    simp at hx
    subst hx
    simpa using h.1
  | y :: ys, v :: vs, h, i + 1, x, hx => by
    have := V2_get h.2 i x (by simpa using hx)
    simpa using this
  | [], _ :: _, h, _, _, _ => h.elim
  | _ :: _, [], h, _, _, _ => h.elim

theorem mapM_cons_some {α β : Type} {f : α → Option β} {a : α} {l : List α} {r : List β} (h : (a :: l).mapM f = some r) : ∃ b bs, f a = some b ∧ l.mapM f = some bs ∧ r = b :: bs := by
  rw [List.mapM_cons] at h
  cases ha : f a with
  | none => simp [ha] at h
  | some b =>
    cases hl : l.mapM f with
    | none => simp [ha, hl] at h
    | some bs => simp [ha, hl] at h; exact ⟨b, bs, rfl, rfl, h.symm⟩

theorem mapM_get {α β : Type} {f : α → Option β} : ∀ {l : List α} {r : List β}, l.mapM f = some r → r.length = l.length ∧ ∀ (i : Nat) x, l[i]? = some x → ∃ y, f x = some y ∧ r[i]? = some y
  | [], r, h => by simp at h; subst h; exact ⟨rfl, fun i x hx => by simp at hx⟩
  | a :: l, r, h => by
    obtain ⟨b, bs, h1, h2, rfl⟩ := mapM_cons_some h
    obtain ⟨g1, g2⟩ := mapM_get h2
    refine ⟨by simp [g1], fun i x hx => ?_⟩
    cases i with
    | zero => simp at hx; subst hx; exact ⟨b, h1, rfl⟩
    | succ i => simpa using g2 i x (by simpa using hx)

theorem cells_some {a : Addr} {n : Nat} {cs : List Value} (h : w.cells? 0 a n = some cs) : cs.length = n ∧ ∀ j, j < n → w.cell? (a.add j) = some (cs.getD j undef) := by
  unfold World.cells? at h
  rw [if_pos (Nat.zero_le _)] at h
  obtain ⟨h1, h2⟩ := mapM_get h
  refine ⟨by simpa using h1, fun j hj => ?_⟩
  obtain ⟨y, h3, h4⟩ := h2 j j (by simp [hj])
  rw [h3, List.getD_eq_getElem?_getD, h4]
  rfl

theorem cell_spot {a : Addr} {v : Value} (h : w.cell? a = some v) : a.spot = none ∧ a.block < w.heap.size := by
  unfold World.cell? at h
  split at h
  · rename_i c t fr hb
    refine ⟨?_, ?_⟩
    · cases hs : a.spot with
      | none => rfl
      | some s => simp [hs] at h
    · exact (Array.getElem?_eq_some_iff.1 hb).1
  · cases h

theorem addr_add2 (blk off u j : Nat) : ((⟨blk, off, none⟩ : Addr).add u).add j = ⟨blk, off + (u + j), none⟩ := by
  unfold Addr.add
  by_cases h1 : u = 0
  · subst h1
    by_cases h2 : j = 0
    · subst h2; rfl
    · simp [h2]
  · by_cases h2 : j = 0
    · subst h2; simp [h1]
    · simp [h1, h2, Nat.add_assoc]

theorem fields_av {g : TypeId → List Value → Option (DataW H × List MemPlace)} {T : TypeId → List AV → Prop} {ly : TypeId → Bool}
    (ih : ∀ t, ly t = true → ∀ cs x, g t cs = some x → ∃ xs, V2 P w q xs cs ∧ T t xs) (cs : List Value) : ∀ (fs : List Field) (off : Nat) (r : List (DataW H × List MemPlace)), layF P ly fs off cs.length = true →
    (fs.mapM fun f => g f.type ((cs.drop f.offset).take (P.cellsOf f.type))) = some r → ∃ ps : List (List AV), V2 P w q ps.flatten (cs.drop off) ∧ All2 (fun f p => T f.type p) fs ps
  | [], off, r, hl, h => by
    have := Nat.eq_of_beq_eq_true hl
    subst this
    exact ⟨[], by simp [V2], trivial⟩
  | f :: fs, off, r, hl, h => by
    simp only [layF, Bool.and_eq_true] at hl
    obtain ⟨⟨h1, h2⟩, h3⟩ := hl
    have e := Nat.eq_of_beq_eq_true h1
    obtain ⟨b, bs, g1, g2, rfl⟩ := mapM_cons_some h
    obtain ⟨p, p1, p2⟩ := ih _ h2 _ _ g1
    obtain ⟨ps, r1, r2⟩ := fields_av ih cs fs _ _ h3 g2
    refine ⟨p :: ps, ?_, p2, r2⟩
    rw [List.flatten_cons]
    have : cs.drop off = (cs.drop f.offset).take (P.cellsOf f.type) ++ cs.drop (off + P.cellsOf f.type) := by
      rw [e, ← List.drop_drop]
      exact (List.take_append_drop _ _).symm
    rw [this]
    exact V2_append p1 r1

theorem items_av {g : List Value → Option (DataW H × List MemPlace)} {T : List AV → Prop} (ih : ∀ cs x, g cs = some x → ∃ xs, V2 P w q xs cs ∧ T xs) (cs : List Value) (s n : Nat) (hn : cs.length = n * s)
    (h : ∀ i, i < n → ∃ x, g ((cs.drop (i * s)).take s) = some x) : ∀ (k i : Nat), i + k = n → ∃ ps : List (List AV), V2 P w q ps.flatten (cs.drop (i * s)) ∧ ps.length = k ∧ ∀ p ∈ ps, T p
  | 0, i, hi => by
    have : i = n := by omega
    subst this
    refine ⟨[], ?_, rfl, nofun⟩
    rw [List.drop_eq_nil_of_le (by omega)]
    exact trivial
  | k + 1, i, hi => by
    obtain ⟨x, hx⟩ := h i (by omega)
    obtain ⟨p, p1, p2⟩ := ih _ _ hx
    obtain ⟨ps, r1, r2, r3⟩ := items_av ih cs s n hn h k (i + 1) (by omega)
    refine ⟨p :: ps, ?_, by simp [r2], fun y hy => ?_⟩
    · rw [List.flatten_cons]
      have : cs.drop (i * s) = (cs.drop (i * s)).take s ++ cs.drop ((i + 1) * s) := by
        rw [Nat.succ_mul, ← List.drop_drop]
        exact (List.take_append_drop _ _).symm
      rw [this]
      exact V2_append p1 r1
    · rcases List.mem_cons.1 hy with rfl | hy
      · exact p2
      · exact r3 y hy

theorem trod_av (hq : ∀ b, b < w.heap.size → q b) : ∀ (m : Nat) (t : TypeId), lay P m t = true → ∀ (fuel : Nat) (cs : List Value) (x : DataW H × List MemPlace), DataW.trod enc P w 0 spare held fuel t cs = some x → ∃ xs, V2 P w q xs cs ∧ TyC P m t xs
  | 0, t, hl, _, _, _, _ => by simp [lay] at hl
  | m + 1, t, hl, 0, cs, x, h => by simp [DataW.trod] at h
  | m + 1, t, hl, fuel + 1, cs, x, h => by
    unfold lay at hl
    unfold TyC
    unfold DataW.trod at h
    cases hu : P.underlying t with
    | none => simp [hu] at hl
    | some d =>
      simp only [hu] at hl h ⊢
      cases d with
      | bool =>
        split at h <;> first | (cases h; done) | (rename_i e; cases e; done) | skip
        cases h
        exact ⟨[.val (.bool _)], ⟨⟨.val _, rfl⟩, trivial⟩, _, rfl⟩
      | int k =>
        split at h <;> first | (cases h; done) | (rename_i e; cases e; done) | skip
        rename_i e
        cases e
        split at h
        · rename_i hk
          obtain ⟨rfl, hw⟩ := hk
          simp only [Lit.wf, Bool.and_eq_true, decide_eq_true_eq] at hw
          exact ⟨[.val (.int _ _)], ⟨⟨.val _, rfl⟩, trivial⟩, _, rfl, hw⟩
        · cases h
      | string =>
        split at h <;> first | (cases h; done) | (rename_i e; cases e; done) | skip
        split at h
        · rename_i hs
          exact ⟨[.val (.string _)], ⟨⟨.val _, rfl⟩, trivial⟩, _, rfl, hs⟩
        · cases h
      | slice e =>
        simp only [Bool.and_eq_true] at hl
        split at h <;> first | (cases h; done) | (rename_i e; cases e; done) | skip
        · exact ⟨[.rslice (P.cellsOf e) 0 fun _ => []], ⟨⟨.rslice0 _ _ _ _, rfl⟩, trivial⟩, _, _, rfl, by omega, fun i hi => absurd hi (Nat.not_lt_zero i)⟩
        · rename_i e0 a len cap e1
          cases e1
          split at h
          case isFalse => cases h
          rename_i hb
          have hes : 0 < P.cellsOf e := Nat.le_of_ble_eq_true hl.1
          cases hM : (List.range len).mapM fun i => (w.cells? 0 (a.add (i * P.cellsOf e)) (P.cellsOf e)).bind (DataW.trod enc P w 0 spare held fuel e) with
          | none => rw [hM] at h; cases h
          | some elems =>
            obtain ⟨_, g2⟩ := mapM_get hM
            have hx : ∀ i, ∃ xs : List AV, i < len → ∃ cs, (cs.length = P.cellsOf e ∧ ∀ j, j < P.cellsOf e → w.cell? ((a.add (i * P.cellsOf e)).add j) = some (cs.getD j undef)) ∧ V2 P w q xs cs ∧ TyC P m e xs := fun i => by
              by_cases hi : i < len
              · obtain ⟨y, y1, _⟩ := g2 i i (by simp [hi])
                cases hc : w.cells? 0 (a.add (i * P.cellsOf e)) (P.cellsOf e) with
                | none => rw [hc] at y1; cases y1
                | some cs1 =>
                  rw [hc] at y1
                  obtain ⟨xs, x1, x2⟩ := trod_av hq m e hl.2 _ _ _ y1
                  exact ⟨xs, fun _ => ⟨cs1, cells_some hc, x1, x2⟩⟩
              · exact ⟨[], fun h => absurd h hi⟩
            have hf := fun i => (Classical.choose_spec (hx i))
            generalize hF : (fun i => Classical.choose (hx i)) = F
            have hf : ∀ i, i < len → ∃ cs, (cs.length = P.cellsOf e ∧ ∀ j, j < P.cellsOf e → w.cell? ((a.add (i * P.cellsOf e)).add j) = some (cs.getD j undef)) ∧ V2 P w q (F i) cs ∧ TyC P m e (F i) := fun i hi => by
              have := Classical.choose_spec (hx i) hi
              rw [← hF]
              exact this
            refine ⟨[.rslice (P.cellsOf e) len F], ⟨⟨?_, rfl⟩, trivial⟩, len, F, rfl, ?_, fun i hi => ?_⟩
            · rcases Nat.eq_zero_or_pos len with rfl | hp
              · exact .rslice0 _ _ _ _
              · obtain ⟨cs0, c1, _, _⟩ := hf 0 hp
                have hc0 := c1.2 0 hes
                have e0 : ((a.add (0 * P.cellsOf e)).add 0) = a := by simp [Addr.add]
                rw [e0] at hc0
                obtain ⟨s1, s2⟩ := cell_spot hc0
                obtain ⟨blk, off, spot⟩ := a
                simp only at s1 s2
                subst s1
                have hG : ∀ i, ∃ cs : List Value, i < len → (cs.length = P.cellsOf e ∧ ∀ j, j < P.cellsOf e → w.cell? (((⟨blk, off, none⟩ : Addr).add (i * P.cellsOf e)).add j) = some (cs.getD j undef)) ∧ V2 P w q (F i) cs := fun i => by
                  by_cases hi : i < len
                  · obtain ⟨cs, c1, c2, _⟩ := hf i hi
                    exact ⟨cs, fun _ => ⟨c1, c2⟩⟩
                  · exact ⟨[], fun h => absurd h hi⟩
                refine .rslice _ _ _ blk off cap (fun i j => (Classical.choose (hG i)).getD j undef) hb.2.1 (hq _ s2) (fun i hi => ?_) (fun i j hi hj => ?_) (fun i j x hi hx => ?_)
                · obtain ⟨c1, c2⟩ := Classical.choose_spec (hG i) hi
                  rw [V2_len c2, c1.1]
                · obtain ⟨c1, c2⟩ := Classical.choose_spec (hG i) hi
                  have hc := c1.2 j hj
                  have ea : ((⟨blk, off, none⟩ : Addr).add (i * P.cellsOf e)).add j = ⟨blk, off + (i * P.cellsOf e + j), none⟩ := by
                    exact addr_add2 blk off _ j
                  rw [ea] at hc
                  refine ⟨hc, ?_⟩
                  have hlt : j < (F i).length := by rw [V2_len c2, c1.1]; exact hj
                  exact (V2_get c2 j _ (List.getElem?_eq_getElem hlt)).2
                · obtain ⟨c1, c2⟩ := Classical.choose_spec (hG i) hi
                  exact (V2_get c2 j x hx).1
            · have := hb.2.2
              unfold maxLen at this
              omega
            · obtain ⟨_, _, _, h3⟩ := hf i hi
              exact h3
      | struct fs =>
        replace h : (if cs.length = P.cellsOf t then (fs.toList.mapM fun f => DataW.trod enc P w 0 spare held fuel f.type ((cs.drop f.offset).take (P.cellsOf f.type))).map fun xs => (.agg (xs.map (·.1)), xs.flatMap (·.2)) else none) = some x := h
        split at h
        case isFalse => cases h
        rename_i hc
        cases hM : fs.toList.mapM fun f => DataW.trod enc P w 0 spare held fuel f.type ((cs.drop f.offset).take (P.cellsOf f.type)) with
        | none => rw [hM] at h; cases h
        | some r =>
          obtain ⟨ps, p1, p2⟩ := fields_av (T := TyC P m) (ly := lay P m) (fun t ht cs x hx => trod_av hq m t ht fuel cs x hx) cs fs.toList 0 r (by rw [hc]; exact hl) hM
          exact ⟨ps.flatten, by simpa using p1, ps, rfl, p2⟩
      | array n e =>
        simp only [Bool.and_eq_true] at hl
        replace h : (if cs.length = P.cellsOf t then ((List.range n).mapM fun i => DataW.trod enc P w 0 spare held fuel e ((cs.drop (i * P.cellsOf e)).take (P.cellsOf e))).map fun xs => (.agg (xs.map (·.1)), xs.flatMap (·.2)) else none) = some x := h
        split at h
        case isFalse => cases h
        rename_i hc
        cases hM : (List.range n).mapM fun i => DataW.trod enc P w 0 spare held fuel e ((cs.drop (i * P.cellsOf e)).take (P.cellsOf e)) with
        | none => rw [hM] at h; cases h
        | some r =>
          obtain ⟨_, g2⟩ := mapM_get hM
          obtain ⟨ps, p1, p2, p3⟩ := items_av (T := TyC P m e) (fun cs x hx => trod_av hq m e hl.2 fuel cs x hx) cs (P.cellsOf e) n (by rw [hc]; exact Nat.eq_of_beq_eq_true hl.1)
            (fun i hi => by obtain ⟨y, y1, _⟩ := g2 i i (by simp [hi]); exact ⟨y, y1⟩) n 0 (by omega)
          exact ⟨ps.flatten, by simpa using p1, ps, rfl, p2, p3⟩
      | _ => simp at hl

/-- The shape of an argument. -/
def TyA (P : Program) (m : Nat) (t : TypeId) (x : AV) : Prop :=
  match P.underlying t with
  | some (.struct _) | some (.array _ _) => ∃ xs, x = .agg xs ∧ TyC P m t xs
  | _ => TyC P m t [x]

/-- An argument of a law, as an abstract value. -/
theorem open_av {r : Reach} {b0 : Nat} {t : TypeId} {v : Value} {d : DataW H} {ps : List MemPlace} {m : Nat} (hl : lay P m t = true) (hq : ∀ b, b < w.heap.size → q b)
    (hv : Value.okWide P w r b0 t v) (hd : DataW.Trod enc P w 0 spare held t v d ps) : ∃ x, VT P w q x v ∧ TyA P m t x := by
  obtain ⟨fuel, hf⟩ := hd
  obtain ⟨xs, h1, h2⟩ := trod_av hq m t hl fuel _ _ hf
  have agg : ∀ cs, v = .agg cs → VT P w q (.agg xs) v := by
    rintro cs rfl
    have hlen := V2_len h1
    refine .agg xs cs (by rw [hlen]; simp [Value.cells]) (fun u hu => ?_) (fun i x hx => ?_)
    · obtain ⟨i, hi, rfl⟩ := List.getElem_of_mem hu
      have hx : i < xs.length := by rw [hlen]; simpa [Value.cells] using hi
      have := (V2_get h1 i _ (List.getElem?_eq_getElem hx)).2
      have hi' : i < cs.size := by simpa using hi
      simpa [Value.cells, List.getD_eq_getElem?_getD, hi'] using this
    · have := (V2_get h1 i x hx).1
      simpa [Value.cells, List.getD_eq_getElem?_getD, Array.getD_eq_getD_getElem?] using this
  have one : ∀ u, v.cells.toList = [u] → v = u → ∃ x, VT P w q x v ∧ TyC P m t [x] := by
    rintro u e rfl
    rw [e] at h1
    match xs, h1, h2 with
    | [x], h1, h2 => exact ⟨x, h1.1.1, h2⟩
  unfold TyA
  unfold Value.okWide at hv
  split
  · rename_i fs hu
    simp only [hu] at hv
    obtain ⟨cs, e, _, _⟩ := hv
    exact ⟨_, agg cs e, xs, rfl, h2⟩
  · rename_i n e hu
    simp only [hu] at hv
    obtain ⟨cs, e, _, _⟩ := hv
    exact ⟨_, agg cs e, xs, rfl, h2⟩
  · rename_i n1 n2
    have hc : Cell.okWide P w r b0 t v := by
      split at hv
      · rename_i hu; exact absurd hu (n1 _)
      · rename_i hu; exact absurd hu (n2 _ _)
      · exact hv
    cases v with
    | agg cs =>
      simp only [Cell.okWide] at hc
      split at hc <;> first | (rename_i e _; cases e; done) | (rename_i e; cases e; done) | (simp [Cell.ok] at hc)
    | tuple cs =>
      simp only [Cell.okWide] at hc
      split at hc <;> first | (rename_i e _; cases e; done) | (rename_i e; cases e; done) | (simp [Cell.ok] at hc)
    | _ => exact one _ rfl rfl
end
end Go.Tr

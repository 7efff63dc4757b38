/- Contracts of chapter 6: the reference's vote. Conditions: none. -/
import Derived.Test.YtolohdpbgocgkaaGreatTr11
import Derived.Test.YtolohdpbgocgkaaGreatTr06
import Derived.ProofKit
set_option linter.unusedSectionVars false
set_option linter.unnecessarySimpa false
set_option linter.unusedVariables false
set_option linter.unusedSimpArgs false

namespace Go.Tr
open Go Go.Proofs
set_option maxRecDepth 20000
set_option maxHeartbeats 8000000

theorem vot_err {x : R3} {t e : Int} (h : votE x t = e) (he : e ≠ 0) : voteG x t = (vt0, e) := by
  unfold voteG
  rw [h, if_pos he]
theorem vot_rd {x : R3} {t e : Int} (h : rdsE x = e) (he : e ≠ 0) : votE x t = e := by
  unfold votE
  rw [first3, h, if_pos he]
theorem rdE_miss {r : Rd} (h : r.2 = true) : rdE r = if r.1 = 0 then 0 else 3 := if_pos h
theorem rdE_pres {r : Rd} (h : r.2 = false) : rdE r = if -1000000 ≤ r.1 ∧ r.1 ≤ 1000000 then 0 else 2 := if_neg (by rw [h]; nofun)
theorem mid_if (u v w : Int) : (if (if w < (if v > u then v else u) then w else (if v > u then v else u)) > (if v < u then v else u) then (if w < (if v > u then v else u) then w else (if v > u then v else u)) else (if v < u then v else u)) = midI u v w := by
  unfold midI
  (repeat' split) <;> omega
set_option maxHeartbeats 4000000 in
theorem S71 (x : R3) (t : Int) : SP 71 [xA x, i64 t] (.tuple [vtA (voteG x t).1, i64 (voteG x t).2]) false := by
  have h68 := fun z => S68 z (-1000000) 1000000
  have h68t := S68 t 0 1000000
  refine sound (d := 2) tok2 mixed2 Tryz.func71 (by kernel_rfl) (by kernel_rfl) ?_
  conv => whnf
  refine ⟨[.slot 7 1], [1, 2, 4, 6, 7, 8], fun st mq => ∃ (k : Nat) (O : List Int) (n : Nat), (k ≤ 3) ∧ (O = presL (x.l.take k)) ∧ (O.length = n) ∧ ((eachD (x.l.drop k) k).2 = rdsE x) ∧ st = ⟨[(1, i64 t), (2, .optr 0 0 0 0), (4, .optr 1 0 0 0), (6, .optr 2 0 0 0), (7, .oslice 3 0 0 n none), (8, i64 k)], ⟨[⟨6, 1, fun _ => [i64 x.a.1, vb x.a.2, i64 x.b.1, vb x.b.2, i64 x.c.1, vb x.c.2], 0, false, true, true⟩, ⟨4, 1, fun _ => [i64 0, vb false, vb false, vb false], 0, false, true, true⟩, ⟨4, 1, fun _ => [i64 0, vb false, vb false, vb false], 0, false, true, true⟩, ⟨1, n, fun i => [i64 (O.getD i 0)], 0, false, true, false⟩], [], none, 0⟩, []⟩ ∧ mq = 3 - k,
    ⟨_, _, ⟨0, [], 0, by omega, rfl, rfl, rfl, rfl, rfl⟩, ⟨⟨.inl rfl, rfl, rfl, rfl⟩, ⟨⟨rfl, rfl, rfl, rfl, fun _ => rfl, fun _ _ => .inl rfl⟩, ⟨⟨rfl, rfl, rfl, rfl, fun _ => rfl, fun _ _ => .inl rfl⟩, ⟨⟨rfl, rfl, rfl, rfl, fun _ => rfl, fun _ _ => .inl rfl⟩, ⟨⟨rfl, rfl, rfl, rfl, fun _ => rfl, fun i h => .inl (absurd h (Nat.not_lt_zero i))⟩, trivial⟩⟩⟩⟩, trivial⟩⟩, ?_⟩
  rintro s0 m0 ⟨k, O, n, hk, hO, hn, he, rfl, hmeas⟩
  have hn3 : n ≤ 3 := by
    rw [← hn, hO]
    exact Nat.le_trans (List.length_filterMap_le ..) (by rw [List.length_take]; exact Nat.min_le_right _ _)
  have hc : k = 0 ∨ k = 1 ∨ k = 2 ∨ k = 3 := by omega
  rcases hc with rfl | rfl | rfl | rfl
  · have et : x.l.take 1 = x.l.take 0 ++ [x.a] := rfl
    have hd : eachD (x.l.drop 0) 0 = if rdE x.a = 0 then eachD (x.l.drop 1) 1 else ((0 : Nat), rdE x.a) := eachD_drop x.l 0 (by show 0 < 3; decide)
    rw [hd] at he
    have h68k := h68 x.a.1
    conv => whnf
    conv => whnf
    refine ⟨⟨(by omega), (by omega)⟩, ?_⟩
    conv => whnf
    conv => whnf
    refine ifB_intro (fun w1 => ?_) (fun w1 => ?_)
    · conv => whnf
      conv => whnf
      refine ⟨⟨(by omega), (by omega)⟩, ?_⟩
      conv => whnf
      conv => whnf
      refine ifB_bne (fun w2 => ?_) (fun w2 => ?_)
      · conv => whnf
        conv => whnf
        refine ⟨?_, nofun⟩
        have hr : rdE x.a = 3 := (rdE_miss w1).trans (if_neg w2)
        rw [hr, if_neg (by decide)] at he
        rw [vot_err (vot_rd (t := t) (show rdsE x = 3 from he.symm) (by decide)) (by decide)]
        exact ave_tup2 (ave_agg4 rfl rfl rfl rfl) rfl
      · conv => whnf
        conv => whnf
        refine ⟨inK64 (by omega) (by omega), ?_⟩
        have hr : rdE x.a = 0 := (rdE_miss w1).trans (if_pos w2)
        rw [hr, if_pos rfl] at he
        conv => whnf
        conv => whnf
        refine ⟨_, _, ⟨⟨1, O, n, by omega, (by rw [et, presL_snoc, if_pos w1, hO]), hn, he, rfl, rfl⟩, by omega⟩, ⟨⟨.inl rfl, rfl, rfl, rfl⟩, ⟨⟨rfl, rfl, rfl, rfl, fun _ => rfl, fun _ _ => .inl rfl⟩, ⟨⟨rfl, rfl, rfl, rfl, fun _ => rfl, fun _ _ => .inl rfl⟩, ⟨⟨rfl, rfl, rfl, rfl, fun _ => rfl, fun _ _ => .inl rfl⟩, ⟨⟨rfl, rfl, rfl, rfl, fun _ => rfl, fun _ _ => .inl rfl⟩, trivial⟩⟩⟩⟩, trivial⟩⟩
    · conv => whnf
      conv => whnf
      refine ⟨⟨(by omega), (by omega)⟩, ?_⟩
      conv => whnf
      conv => whnf
      refine .inl ⟨_, _, byX rfl (Sound1.pl (h68k) rfl), ?_⟩
      conv => whnf
      conv => whnf
      refine ifB_not ?_
      conv => whnf
      conv => whnf
      refine ifB_dec (fun w2 => ?_) (fun w2 => ?_)
      · conv => whnf
        conv => whnf
        refine ⟨⟨(by omega), (by omega)⟩, ?_⟩
        conv => whnf
        conv => whnf
        refine .inl ?_
        conv => whnf
        conv => whnf
        refine ⟨(by show _ * (8 + 1) ≤ _; omega), ?_⟩
        conv => whnf
        conv => whnf
        refine ⟨inK64 (by omega) (by omega), ?_⟩
        have hr : rdE x.a = 0 := (rdE_pres w1).trans (if_pos w2)
        rw [hr, if_pos rfl] at he
        conv => whnf
        conv => whnf
        refine ⟨_, _, ⟨⟨1, O ++ [x.a.1], n + 1, by omega, (by rw [et, presL_snoc, if_neg (by rw [w1]; nofun), hO]), (by rw [List.length_append, hn]; rfl), he, rfl, rfl⟩, by omega⟩, ⟨⟨.inl rfl, rfl, rfl, rfl⟩, ⟨⟨rfl, rfl, rfl, rfl, fun _ => rfl, fun _ _ => .inl rfl⟩, ⟨⟨rfl, rfl, rfl, rfl, fun _ => rfl, fun _ _ => .inl rfl⟩, ⟨⟨rfl, rfl, rfl, rfl, fun _ => rfl, fun _ _ => .inl rfl⟩, ⟨⟨rfl, rfl, rfl, rfl, fun _ => rfl, fun i hi => .inl (app_row O _ n i hn hi)⟩, trivial⟩⟩⟩⟩, trivial⟩⟩
      · conv => whnf
        conv => whnf
        refine ⟨?_, nofun⟩
        have hr : rdE x.a = 2 := (rdE_pres w1).trans (if_neg w2)
        rw [hr, if_neg (by decide)] at he
        rw [vot_err (vot_rd (t := t) (show rdsE x = 2 from he.symm) (by decide)) (by decide)]
        exact ave_tup2 (ave_agg4 rfl rfl rfl rfl) rfl
  · have et : x.l.take 2 = x.l.take 1 ++ [x.b] := rfl
    have hd : eachD (x.l.drop 1) 1 = if rdE x.b = 0 then eachD (x.l.drop 2) 2 else ((1 : Nat), rdE x.b) := eachD_drop x.l 1 (by show 1 < 3; decide)
    rw [hd] at he
    have h68k := h68 x.b.1
    conv => whnf
    conv => whnf
    refine ⟨⟨(by omega), (by omega)⟩, ?_⟩
    conv => whnf
    conv => whnf
    refine ifB_intro (fun w1 => ?_) (fun w1 => ?_)
    · conv => whnf
      conv => whnf
      refine ⟨⟨(by omega), (by omega)⟩, ?_⟩
      conv => whnf
      conv => whnf
      refine ifB_bne (fun w2 => ?_) (fun w2 => ?_)
      · conv => whnf
        conv => whnf
        refine ⟨?_, nofun⟩
        have hr : rdE x.b = 3 := (rdE_miss w1).trans (if_neg w2)
        rw [hr, if_neg (by decide)] at he
        rw [vot_err (vot_rd (t := t) (show rdsE x = 3 from he.symm) (by decide)) (by decide)]
        exact ave_tup2 (ave_agg4 rfl rfl rfl rfl) rfl
      · conv => whnf
        conv => whnf
        refine ⟨inK64 (by omega) (by omega), ?_⟩
        have hr : rdE x.b = 0 := (rdE_miss w1).trans (if_pos w2)
        rw [hr, if_pos rfl] at he
        conv => whnf
        conv => whnf
        refine ⟨_, _, ⟨⟨2, O, n, by omega, (by rw [et, presL_snoc, if_pos w1, hO]), hn, he, rfl, rfl⟩, by omega⟩, ⟨⟨.inl rfl, rfl, rfl, rfl⟩, ⟨⟨rfl, rfl, rfl, rfl, fun _ => rfl, fun _ _ => .inl rfl⟩, ⟨⟨rfl, rfl, rfl, rfl, fun _ => rfl, fun _ _ => .inl rfl⟩, ⟨⟨rfl, rfl, rfl, rfl, fun _ => rfl, fun _ _ => .inl rfl⟩, ⟨⟨rfl, rfl, rfl, rfl, fun _ => rfl, fun _ _ => .inl rfl⟩, trivial⟩⟩⟩⟩, trivial⟩⟩
    · conv => whnf
      conv => whnf
      refine ⟨⟨(by omega), (by omega)⟩, ?_⟩
      conv => whnf
      conv => whnf
      refine .inl ⟨_, _, byX rfl (Sound1.pl (h68k) rfl), ?_⟩
      conv => whnf
      conv => whnf
      refine ifB_not ?_
      conv => whnf
      conv => whnf
      refine ifB_dec (fun w2 => ?_) (fun w2 => ?_)
      · conv => whnf
        conv => whnf
        refine ⟨⟨(by omega), (by omega)⟩, ?_⟩
        conv => whnf
        conv => whnf
        refine .inl ?_
        conv => whnf
        conv => whnf
        refine ⟨(by show _ * (8 + 1) ≤ _; omega), ?_⟩
        conv => whnf
        conv => whnf
        refine ⟨inK64 (by omega) (by omega), ?_⟩
        have hr : rdE x.b = 0 := (rdE_pres w1).trans (if_pos w2)
        rw [hr, if_pos rfl] at he
        conv => whnf
        conv => whnf
        refine ⟨_, _, ⟨⟨2, O ++ [x.b.1], n + 1, by omega, (by rw [et, presL_snoc, if_neg (by rw [w1]; nofun), hO]), (by rw [List.length_append, hn]; rfl), he, rfl, rfl⟩, by omega⟩, ⟨⟨.inl rfl, rfl, rfl, rfl⟩, ⟨⟨rfl, rfl, rfl, rfl, fun _ => rfl, fun _ _ => .inl rfl⟩, ⟨⟨rfl, rfl, rfl, rfl, fun _ => rfl, fun _ _ => .inl rfl⟩, ⟨⟨rfl, rfl, rfl, rfl, fun _ => rfl, fun _ _ => .inl rfl⟩, ⟨⟨rfl, rfl, rfl, rfl, fun _ => rfl, fun i hi => .inl (app_row O _ n i hn hi)⟩, trivial⟩⟩⟩⟩, trivial⟩⟩
      · conv => whnf
        conv => whnf
        refine ⟨?_, nofun⟩
        have hr : rdE x.b = 2 := (rdE_pres w1).trans (if_neg w2)
        rw [hr, if_neg (by decide)] at he
        rw [vot_err (vot_rd (t := t) (show rdsE x = 2 from he.symm) (by decide)) (by decide)]
        exact ave_tup2 (ave_agg4 rfl rfl rfl rfl) rfl
  · have et : x.l.take 3 = x.l.take 2 ++ [x.c] := rfl
    have hd : eachD (x.l.drop 2) 2 = if rdE x.c = 0 then eachD (x.l.drop 3) 3 else ((2 : Nat), rdE x.c) := eachD_drop x.l 2 (by show 2 < 3; decide)
    rw [hd] at he
    have h68k := h68 x.c.1
    conv => whnf
    conv => whnf
    refine ⟨⟨(by omega), (by omega)⟩, ?_⟩
    conv => whnf
    conv => whnf
    refine ifB_intro (fun w1 => ?_) (fun w1 => ?_)
    · conv => whnf
      conv => whnf
      refine ⟨⟨(by omega), (by omega)⟩, ?_⟩
      conv => whnf
      conv => whnf
      refine ifB_bne (fun w2 => ?_) (fun w2 => ?_)
      · conv => whnf
        conv => whnf
        refine ⟨?_, nofun⟩
        have hr : rdE x.c = 3 := (rdE_miss w1).trans (if_neg w2)
        rw [hr, if_neg (by decide)] at he
        rw [vot_err (vot_rd (t := t) (show rdsE x = 3 from he.symm) (by decide)) (by decide)]
        exact ave_tup2 (ave_agg4 rfl rfl rfl rfl) rfl
      · conv => whnf
        conv => whnf
        refine ⟨inK64 (by omega) (by omega), ?_⟩
        have hr : rdE x.c = 0 := (rdE_miss w1).trans (if_pos w2)
        rw [hr, if_pos rfl] at he
        conv => whnf
        conv => whnf
        refine ⟨_, _, ⟨⟨3, O, n, by omega, (by rw [et, presL_snoc, if_pos w1, hO]), hn, he, rfl, rfl⟩, by omega⟩, ⟨⟨.inl rfl, rfl, rfl, rfl⟩, ⟨⟨rfl, rfl, rfl, rfl, fun _ => rfl, fun _ _ => .inl rfl⟩, ⟨⟨rfl, rfl, rfl, rfl, fun _ => rfl, fun _ _ => .inl rfl⟩, ⟨⟨rfl, rfl, rfl, rfl, fun _ => rfl, fun _ _ => .inl rfl⟩, ⟨⟨rfl, rfl, rfl, rfl, fun _ => rfl, fun _ _ => .inl rfl⟩, trivial⟩⟩⟩⟩, trivial⟩⟩
    · conv => whnf
      conv => whnf
      refine ⟨⟨(by omega), (by omega)⟩, ?_⟩
      conv => whnf
      conv => whnf
      refine .inl ⟨_, _, byX rfl (Sound1.pl (h68k) rfl), ?_⟩
      conv => whnf
      conv => whnf
      refine ifB_not ?_
      conv => whnf
      conv => whnf
      refine ifB_dec (fun w2 => ?_) (fun w2 => ?_)
      · conv => whnf
        conv => whnf
        refine ⟨⟨(by omega), (by omega)⟩, ?_⟩
        conv => whnf
        conv => whnf
        refine .inl ?_
        conv => whnf
        conv => whnf
        refine ⟨(by show _ * (8 + 1) ≤ _; omega), ?_⟩
        conv => whnf
        conv => whnf
        refine ⟨inK64 (by omega) (by omega), ?_⟩
        have hr : rdE x.c = 0 := (rdE_pres w1).trans (if_pos w2)
        rw [hr, if_pos rfl] at he
        conv => whnf
        conv => whnf
        refine ⟨_, _, ⟨⟨3, O ++ [x.c.1], n + 1, by omega, (by rw [et, presL_snoc, if_neg (by rw [w1]; nofun), hO]), (by rw [List.length_append, hn]; rfl), he, rfl, rfl⟩, by omega⟩, ⟨⟨.inl rfl, rfl, rfl, rfl⟩, ⟨⟨rfl, rfl, rfl, rfl, fun _ => rfl, fun _ _ => .inl rfl⟩, ⟨⟨rfl, rfl, rfl, rfl, fun _ => rfl, fun _ _ => .inl rfl⟩, ⟨⟨rfl, rfl, rfl, rfl, fun _ => rfl, fun _ _ => .inl rfl⟩, ⟨⟨rfl, rfl, rfl, rfl, fun _ => rfl, fun i hi => .inl (app_row O _ n i hn hi)⟩, trivial⟩⟩⟩⟩, trivial⟩⟩
      · conv => whnf
        conv => whnf
        refine ⟨?_, nofun⟩
        have hr : rdE x.c = 2 := (rdE_pres w1).trans (if_neg w2)
        rw [hr, if_neg (by decide)] at he
        rw [vot_err (vot_rd (t := t) (show rdsE x = 2 from he.symm) (by decide)) (by decide)]
        exact ave_tup2 (ave_agg4 rfl rfl rfl rfl) rfl
  · have hO : O = presL x.l := hO
    have he : rdsE x = 0 := he.symm
    by_cases ht : 0 ≤ t ∧ t ≤ 1000000
    · have hV : votE x t = if n ≥ 2 then 0 else 14 := by
        unfold votE tolE
        rw [first3, he, if_pos ht, if_neg (by decide), if_neg (by decide), ← hO, hn]
      by_cases hn2 : n ≥ 2
      · rw [if_pos hn2] at hV
        have hvi := vot_in hV
        rw [← hO] at hvi
        have hob : ∀ i, i < n → (O.getD i 0).natAbs ≤ 1000000 := fun i hi => hvi.1 _ (getD_memI (by omega))
        have hb0 : (O.getD (0 + Int.toNat 0) 0).natAbs ≤ 1000000 := hob 0 (by omega)
        have hb1 : (O.getD (0 + Int.toNat 1) 0).natAbs ≤ 1000000 := hob 1 (by omega)
        by_cases h2 : n = 2
        · subst h2
          have hg : voteG x t = (((two (O.getD 0 0) (O.getD 1 0) t).1, false, false, false), (two (O.getD 0 0) (O.getD 1 0) t).2) := by
            unfold voteG
            rw [if_neg (not_not_intro hV), ← hO, if_pos hn]
          have h82 := S82 (O.getD (0 + Int.toNat 0) 0 - O.getD (0 + Int.toNat 1) 0) (by omega)
          have h140 := S140 (O.getD (0 + Int.toNat 0) 0 + O.getD (0 + Int.toNat 1) 0) (by omega)
          by_cases hd : ((O.getD 0 0 - O.getD 1 0).natAbs : Int) > t
          · have e : two (O.getD 0 0) (O.getD 1 0) t = (0, 13) := if_pos hd
            rw [hg, e]
            have hd' : ((O.getD (0 + Int.toNat 0) 0 - O.getD (0 + Int.toNat 1) 0).natAbs : Int) > t := hd
            conv => whnf
            conv => whnf
            refine .inl ⟨_, _, byX rfl (Sound1.pl (h68t) rfl), ?_⟩
            conv => whnf
            conv => whnf
            refine ifB_not ?_
            conv => whnf
            conv => whnf
            refine ifB_dec (fun w1 => ?_) (fun w1 => ?_)
            · conv => whnf
              conv => whnf
              refine ⟨[], by kernel_rfl, ?_⟩
              conv => whnf
              conv => whnf
              refine ⟨⟨(by omega), (by omega)⟩, ?_⟩
              conv => whnf
              conv => whnf
              refine ⟨⟨(by omega), (by omega)⟩, ?_⟩
              conv => whnf
              conv => whnf
              refine ⟨inK64 (by omega) (by omega), ?_⟩
              conv => whnf
              conv => whnf
              refine .inl ⟨_, _, byX rfl (Sound1.pl (h82) rfl), ?_⟩
              conv => whnf
              conv => whnf
              refine ifB_dec (fun w2 => ?_) (fun w2 => ?_)
              · conv => whnf
                conv => whnf
                refine ⟨?_, nofun⟩
                exact ave_tup2 (ave_agg4 rfl rfl rfl rfl) rfl
              · (exfalso; omega)
            · (exfalso; omega)
          · have e : two (O.getD 0 0) (O.getD 1 0) t = ((O.getD 0 0 + O.getD 1 0).fdiv 2, 0) := if_neg hd
            rw [hg, e]
            have hd' : ¬ ((O.getD (0 + Int.toNat 0) 0 - O.getD (0 + Int.toNat 1) 0).natAbs : Int) > t := hd
            conv => whnf
            conv => whnf
            refine .inl ⟨_, _, byX rfl (Sound1.pl (h68t) rfl), ?_⟩
            conv => whnf
            conv => whnf
            refine ifB_not ?_
            conv => whnf
            conv => whnf
            refine ifB_dec (fun w1 => ?_) (fun w1 => ?_)
            · conv => whnf
              conv => whnf
              refine ⟨[], by kernel_rfl, ?_⟩
              conv => whnf
              conv => whnf
              refine ⟨⟨(by omega), (by omega)⟩, ?_⟩
              conv => whnf
              conv => whnf
              refine ⟨⟨(by omega), (by omega)⟩, ?_⟩
              conv => whnf
              conv => whnf
              refine ⟨inK64 (by omega) (by omega), ?_⟩
              conv => whnf
              conv => whnf
              refine .inl ⟨_, _, byX rfl (Sound1.pl (h82) rfl), ?_⟩
              conv => whnf
              conv => whnf
              refine ifB_dec (fun w2 => ?_) (fun w2 => ?_)
              · (exfalso; omega)
              · conv => whnf
                conv => whnf
                refine ⟨[], by kernel_rfl, ?_⟩
                conv => whnf
                conv => whnf
                refine ⟨⟨(by omega), (by omega)⟩, ?_⟩
                conv => whnf
                conv => whnf
                refine ⟨⟨(by omega), (by omega)⟩, ?_⟩
                conv => whnf
                conv => whnf
                refine ⟨inK64 (by omega) (by omega), ?_⟩
                conv => whnf
                conv => whnf
                refine .inl ⟨_, _, byX rfl (Sound1.pl (h140) rfl), ?_⟩
                conv => whnf
                conv => whnf
                refine ⟨?_, nofun⟩
                exact ave_tup2 (ave_agg4 rfl rfl rfl rfl) rfl
            · (exfalso; omega)
        · have h3 : n = 3 := by omega
          subst h3
          have hO3 := pres3 (hO ▸ hn)
          rw [hO3] at hO
          have hg : voteG x t = if b01 (oddB (midI x.a.1 x.b.1 x.c.1) t x.a.1) + b01 (oddB (midI x.a.1 x.b.1 x.c.1) t x.b.1) + b01 (oddB (midI x.a.1 x.b.1 x.c.1) t x.c.1) > 1 then (vt0, 13) else ((midI x.a.1 x.b.1 x.c.1, oddB (midI x.a.1 x.b.1 x.c.1) t x.a.1, oddB (midI x.a.1 x.b.1 x.c.1) t x.b.1, oddB (midI x.a.1 x.b.1 x.c.1) t x.c.1), 0) := by
            unfold voteG
            rw [if_neg (not_not_intro hV), hO3, if_neg (by show ¬ (3 : Nat) = 2; decide)]
          rw [hg]
          rw [hO] at hvi
          subst hO
          have hxa : x.a.1.natAbs ≤ 1000000 := hvi.1 _ (by simp)
          have hxb : x.b.1.natAbs ≤ 1000000 := hvi.1 _ (by simp)
          have hxc : x.c.1.natAbs ≤ 1000000 := hvi.1 _ (by simp)
          have hmb : (midI x.a.1 x.b.1 x.c.1).natAbs ≤ 1000000 := by unfold midI; omega
          have hmi : midI x.a.1 x.b.1 x.c.1 = midI x.a.1 x.b.1 x.c.1 := rfl
          conv => whnf
          conv => whnf
          refine .inl ⟨_, _, byX rfl (Sound1.pl (h68t) rfl), ?_⟩
          conv => whnf
          conv => whnf
          refine ifB_not ?_
          conv => whnf
          conv => whnf
          refine ifB_dec (fun w1 => ?_) (fun w1 => ?_)
          · conv => whnf
            conv => whnf
            refine ⟨[], by kernel_rfl, ?_⟩
            conv => whnf
            conv => whnf
            refine ⟨⟨(by omega), (by omega)⟩, ?_⟩
            conv => whnf
            conv => whnf
            refine ⟨⟨(by omega), (by omega)⟩, ?_⟩
            conv => whnf
            conv => whnf
            refine ⟨⟨(by omega), (by omega)⟩, ?_⟩
            conv => whnf
            conv => whnf
            refine ⟨⟨(by omega), (by omega)⟩, ?_⟩
            conv => whnf
            conv => whnf
            refine ⟨⟨(by omega), (by omega)⟩, ?_⟩
            conv => whnf
            conv => whnf
            refine ⟨[], [1, 4, 6, 7, 9, 10, 11], fun st mq => ∃ (k : Nat) (b0 : Bool) (b1 : Bool) (b2 : Bool) (q : Int) (m : Int), (k ≤ 3) ∧ (m = midI x.a.1 x.b.1 x.c.1) ∧ (b0 = (decide (0 < k) && oddB m t x.a.1)) ∧ (b1 = (decide (1 < k) && oddB m t x.b.1)) ∧ (b2 = (decide (2 < k) && oddB m t x.c.1)) ∧ (q = b01 b0 + b01 b1 + b01 b2) ∧ st = ⟨[(1, i64 t), (4, .optr 1 0 0 0), (6, .optr 2 0 0 0), (7, .oslice 3 0 0 3 none), (9, .optr 4 0 0 0), (10, i64 q), (11, i64 k)], ⟨[⟨6, 1, fun _ => [i64 x.a.1, vb x.a.2, i64 x.b.1, vb x.b.2, i64 x.c.1, vb x.c.2], 0, false, true, true⟩, ⟨4, 1, fun _ => [i64 0, vb false, vb false, vb false], 0, false, true, true⟩, ⟨4, 1, fun _ => [i64 0, vb false, vb false, vb false], 0, false, true, true⟩, ⟨1, 3, fun i => [i64 (([x.a.1, x.b.1, x.c.1] : List Int).getD i 0)], 0, false, true, false⟩, ⟨4, 1, fun _ => [i64 m, vb b0, vb b1, vb b2], 0, false, true, true⟩], [], none, 0⟩, []⟩ ∧ mq = 3 - k,
              ⟨_, _, ⟨0, false, false, false, 0, _, by omega, (mid_if x.a.1 x.b.1 x.c.1), rfl, rfl, rfl, rfl, rfl, rfl⟩, ⟨⟨.inl rfl, rfl, rfl, rfl⟩, ⟨⟨rfl, rfl, rfl, rfl, fun _ => rfl, fun _ _ => .inl rfl⟩, ⟨⟨rfl, rfl, rfl, rfl, fun _ => rfl, fun _ _ => .inl rfl⟩, ⟨⟨rfl, rfl, rfl, rfl, fun _ => rfl, fun _ _ => .inl rfl⟩, ⟨⟨rfl, rfl, rfl, rfl, fun _ => rfl, fun _ _ => .inl rfl⟩, ⟨⟨rfl, rfl, rfl, rfl, fun _ => rfl, fun _ _ => .inl rfl⟩, trivial⟩⟩⟩⟩⟩, trivial⟩⟩, ?_⟩
            rintro s0 m0 ⟨k, b0, b1, b2, q, m, hk, hm, hq0, hq1, hq2, hq, rfl, hmeas⟩
            have hc3 : k = 0 ∨ k = 1 ∨ k = 2 ∨ k = 3 := by omega
            have hqb : 0 ≤ q ∧ q ≤ 3 := by
              rw [hq]
              unfold b01
              (repeat' split) <;> omega
            rw [← hm] at hmb ⊢
            rcases hc3 with rfl | rfl | rfl | rfl
            · have ho : oddB m t x.a.1 = decide (((x.a.1 - m).natAbs : Int) > t) := rfl
              have h82 := S82 (x.a.1 - m) (by omega)
              have hx' : (([x.a.1, x.b.1, x.c.1] : List Int).getD (0 + ((0 : Nat) : Int).toNat) 0).natAbs ≤ 1000000 := hxa
              have hz : b01 b0 = 0 := by rw [show b0 = false from hq0]; rfl
              have ht1 : b01 true = 1 := rfl
              conv => whnf
              conv => whnf
              conv => whnf
              refine ⟨[], by kernel_rfl, ?_⟩
              conv => whnf
              conv => whnf
              conv => whnf
              refine ⟨⟨(by omega), (by omega)⟩, ?_⟩
              conv => whnf
              conv => whnf
              conv => whnf
              refine ⟨inK64 (by omega) (by omega), ?_⟩
              conv => whnf
              conv => whnf
              conv => whnf
              refine .inl ⟨_, _, byX rfl (Sound1.pl (h82) rfl), ?_⟩
              conv => whnf
              conv => whnf
              conv => whnf
              refine ifB_dec (fun w2 => ?_) (fun w2 => ?_)
              · conv => whnf
                conv => whnf
                conv => whnf
                refine ⟨inK64 (by omega) (by omega), ?_⟩
                conv => whnf
                conv => whnf
                conv => whnf
                refine ⟨⟨(by omega), (by omega)⟩, ?_⟩
                conv => whnf
                conv => whnf
                conv => whnf
                refine ⟨inK64 (by omega) (by omega), ?_⟩
                conv => whnf
                conv => whnf
                conv => whnf
                refine ⟨_, _, ⟨⟨1, true, b1, b2, q + 1, m, by omega, rfl, (by rw [ho, decide_eq_true w2]; rfl), hq1, hq2, (by omega), rfl, rfl⟩, by omega⟩, ⟨⟨.inl rfl, rfl, rfl, rfl⟩, ⟨⟨rfl, rfl, rfl, rfl, fun _ => rfl, fun _ _ => .inl rfl⟩, ⟨⟨rfl, rfl, rfl, rfl, fun _ => rfl, fun _ _ => .inl rfl⟩, ⟨⟨rfl, rfl, rfl, rfl, fun _ => rfl, fun _ _ => .inl rfl⟩, ⟨⟨rfl, rfl, rfl, rfl, fun _ => rfl, fun _ _ => .inl rfl⟩, ⟨⟨rfl, rfl, rfl, rfl, fun _ => rfl, fun _ _ => .inl rfl⟩, trivial⟩⟩⟩⟩⟩, trivial⟩⟩
              · conv => whnf
                conv => whnf
                conv => whnf
                refine ⟨inK64 (by omega) (by omega), ?_⟩
                conv => whnf
                conv => whnf
                conv => whnf
                refine ⟨_, _, ⟨⟨1, b0, b1, b2, q, m, by omega, rfl, (by rw [show b0 = false from hq0, ho, decide_eq_false w2]; rfl), hq1, hq2, hq, rfl, rfl⟩, by omega⟩, ⟨⟨.inl rfl, rfl, rfl, rfl⟩, ⟨⟨rfl, rfl, rfl, rfl, fun _ => rfl, fun _ _ => .inl rfl⟩, ⟨⟨rfl, rfl, rfl, rfl, fun _ => rfl, fun _ _ => .inl rfl⟩, ⟨⟨rfl, rfl, rfl, rfl, fun _ => rfl, fun _ _ => .inl rfl⟩, ⟨⟨rfl, rfl, rfl, rfl, fun _ => rfl, fun _ _ => .inl rfl⟩, ⟨⟨rfl, rfl, rfl, rfl, fun _ => rfl, fun _ _ => .inl rfl⟩, trivial⟩⟩⟩⟩⟩, trivial⟩⟩
            · have ho : oddB m t x.b.1 = decide (((x.b.1 - m).natAbs : Int) > t) := rfl
              have h82 := S82 (x.b.1 - m) (by omega)
              have hx' : (([x.a.1, x.b.1, x.c.1] : List Int).getD (0 + ((1 : Nat) : Int).toNat) 0).natAbs ≤ 1000000 := hxb
              have hz : b01 b1 = 0 := by rw [show b1 = false from hq1]; rfl
              have ht1 : b01 true = 1 := rfl
              conv => whnf
              conv => whnf
              conv => whnf
              refine ⟨[], by kernel_rfl, ?_⟩
              conv => whnf
              conv => whnf
              conv => whnf
              refine ⟨⟨(by omega), (by omega)⟩, ?_⟩
              conv => whnf
              conv => whnf
              conv => whnf
              refine ⟨inK64 (by omega) (by omega), ?_⟩
              conv => whnf
              conv => whnf
              conv => whnf
              refine .inl ⟨_, _, byX rfl (Sound1.pl (h82) rfl), ?_⟩
              conv => whnf
              conv => whnf
              conv => whnf
              refine ifB_dec (fun w2 => ?_) (fun w2 => ?_)
              · conv => whnf
                conv => whnf
                conv => whnf
                refine ⟨inK64 (by omega) (by omega), ?_⟩
                conv => whnf
                conv => whnf
                conv => whnf
                refine ⟨⟨(by omega), (by omega)⟩, ?_⟩
                conv => whnf
                conv => whnf
                conv => whnf
                refine ⟨inK64 (by omega) (by omega), ?_⟩
                conv => whnf
                conv => whnf
                conv => whnf
                refine ⟨_, _, ⟨⟨2, b0, true, b2, q + 1, m, by omega, rfl, hq0, (by rw [ho, decide_eq_true w2]; rfl), hq2, (by omega), rfl, rfl⟩, by omega⟩, ⟨⟨.inl rfl, rfl, rfl, rfl⟩, ⟨⟨rfl, rfl, rfl, rfl, fun _ => rfl, fun _ _ => .inl rfl⟩, ⟨⟨rfl, rfl, rfl, rfl, fun _ => rfl, fun _ _ => .inl rfl⟩, ⟨⟨rfl, rfl, rfl, rfl, fun _ => rfl, fun _ _ => .inl rfl⟩, ⟨⟨rfl, rfl, rfl, rfl, fun _ => rfl, fun _ _ => .inl rfl⟩, ⟨⟨rfl, rfl, rfl, rfl, fun _ => rfl, fun _ _ => .inl rfl⟩, trivial⟩⟩⟩⟩⟩, trivial⟩⟩
              · conv => whnf
                conv => whnf
                conv => whnf
                refine ⟨inK64 (by omega) (by omega), ?_⟩
                conv => whnf
                conv => whnf
                conv => whnf
                refine ⟨_, _, ⟨⟨2, b0, b1, b2, q, m, by omega, rfl, hq0, (by rw [show b1 = false from hq1, ho, decide_eq_false w2]; rfl), hq2, hq, rfl, rfl⟩, by omega⟩, ⟨⟨.inl rfl, rfl, rfl, rfl⟩, ⟨⟨rfl, rfl, rfl, rfl, fun _ => rfl, fun _ _ => .inl rfl⟩, ⟨⟨rfl, rfl, rfl, rfl, fun _ => rfl, fun _ _ => .inl rfl⟩, ⟨⟨rfl, rfl, rfl, rfl, fun _ => rfl, fun _ _ => .inl rfl⟩, ⟨⟨rfl, rfl, rfl, rfl, fun _ => rfl, fun _ _ => .inl rfl⟩, ⟨⟨rfl, rfl, rfl, rfl, fun _ => rfl, fun _ _ => .inl rfl⟩, trivial⟩⟩⟩⟩⟩, trivial⟩⟩
            · have ho : oddB m t x.c.1 = decide (((x.c.1 - m).natAbs : Int) > t) := rfl
              have h82 := S82 (x.c.1 - m) (by omega)
              have hx' : (([x.a.1, x.b.1, x.c.1] : List Int).getD (0 + ((2 : Nat) : Int).toNat) 0).natAbs ≤ 1000000 := hxc
              have hz : b01 b2 = 0 := by rw [show b2 = false from hq2]; rfl
              have ht1 : b01 true = 1 := rfl
              conv => whnf
              conv => whnf
              conv => whnf
              refine ⟨[], by kernel_rfl, ?_⟩
              conv => whnf
              conv => whnf
              conv => whnf
              refine ⟨⟨(by omega), (by omega)⟩, ?_⟩
              conv => whnf
              conv => whnf
              conv => whnf
              refine ⟨inK64 (by omega) (by omega), ?_⟩
              conv => whnf
              conv => whnf
              conv => whnf
              refine .inl ⟨_, _, byX rfl (Sound1.pl (h82) rfl), ?_⟩
              conv => whnf
              conv => whnf
              conv => whnf
              refine ifB_dec (fun w2 => ?_) (fun w2 => ?_)
              · conv => whnf
                conv => whnf
                conv => whnf
                refine ⟨inK64 (by omega) (by omega), ?_⟩
                conv => whnf
                conv => whnf
                conv => whnf
                refine ⟨⟨(by omega), (by omega)⟩, ?_⟩
                conv => whnf
                conv => whnf
                conv => whnf
                refine ⟨inK64 (by omega) (by omega), ?_⟩
                conv => whnf
                conv => whnf
                conv => whnf
                refine ⟨_, _, ⟨⟨3, b0, b1, true, q + 1, m, by omega, rfl, hq0, hq1, (by rw [ho, decide_eq_true w2]; rfl), (by omega), rfl, rfl⟩, by omega⟩, ⟨⟨.inl rfl, rfl, rfl, rfl⟩, ⟨⟨rfl, rfl, rfl, rfl, fun _ => rfl, fun _ _ => .inl rfl⟩, ⟨⟨rfl, rfl, rfl, rfl, fun _ => rfl, fun _ _ => .inl rfl⟩, ⟨⟨rfl, rfl, rfl, rfl, fun _ => rfl, fun _ _ => .inl rfl⟩, ⟨⟨rfl, rfl, rfl, rfl, fun _ => rfl, fun _ _ => .inl rfl⟩, ⟨⟨rfl, rfl, rfl, rfl, fun _ => rfl, fun _ _ => .inl rfl⟩, trivial⟩⟩⟩⟩⟩, trivial⟩⟩
              · conv => whnf
                conv => whnf
                conv => whnf
                refine ⟨inK64 (by omega) (by omega), ?_⟩
                conv => whnf
                conv => whnf
                conv => whnf
                refine ⟨_, _, ⟨⟨3, b0, b1, b2, q, m, by omega, rfl, hq0, hq1, (by rw [show b2 = false from hq2, ho, decide_eq_false w2]; rfl), hq, rfl, rfl⟩, by omega⟩, ⟨⟨.inl rfl, rfl, rfl, rfl⟩, ⟨⟨rfl, rfl, rfl, rfl, fun _ => rfl, fun _ _ => .inl rfl⟩, ⟨⟨rfl, rfl, rfl, rfl, fun _ => rfl, fun _ _ => .inl rfl⟩, ⟨⟨rfl, rfl, rfl, rfl, fun _ => rfl, fun _ _ => .inl rfl⟩, ⟨⟨rfl, rfl, rfl, rfl, fun _ => rfl, fun _ _ => .inl rfl⟩, ⟨⟨rfl, rfl, rfl, rfl, fun _ => rfl, fun _ _ => .inl rfl⟩, trivial⟩⟩⟩⟩⟩, trivial⟩⟩
            · have e0 : b0 = oddB m t x.a.1 := hq0
              have e1 : b1 = oddB m t x.b.1 := hq1
              have e2 : b2 = oddB m t x.c.1 := hq2
              rw [← e0, ← e1, ← e2, ← hq]
              conv => whnf
              conv => whnf
              conv => whnf
              refine ifB_dec (fun w2 => ?_) (fun w2 => ?_)
              · conv => whnf
                conv => whnf
                conv => whnf
                refine ⟨?_, nofun⟩
                rw [if_pos w2]
                exact ave_tup2 (ave_agg4 rfl rfl rfl rfl) rfl
              · conv => whnf
                conv => whnf
                conv => whnf
                refine ⟨?_, nofun⟩
                rw [if_neg w2]
                exact ave_tup2 (ave_agg4 rfl rfl rfl rfl) rfl
          · (exfalso; omega)
      · rw [if_neg hn2] at hV
        rw [vot_err hV (by decide)]
        conv => whnf
        conv => whnf
        refine .inl ⟨_, _, byX rfl (Sound1.pl (h68t) rfl), ?_⟩
        conv => whnf
        conv => whnf
        refine ifB_not ?_
        conv => whnf
        conv => whnf
        refine ifB_dec (fun w1 => ?_) (fun w1 => ?_)
        · conv => whnf
          conv => whnf
          refine ifB_beq (fun w2 => ?_) (fun w2 => ?_)
          · (exfalso; omega)
          · conv => whnf
            conv => whnf
            refine ifB_beq (fun w3 => ?_) (fun w3 => ?_)
            · (exfalso; omega)
            · conv => whnf
              conv => whnf
              refine ⟨?_, nofun⟩
              exact ave_tup2 (ave_agg4 rfl rfl rfl rfl) rfl
        · (exfalso; omega)
    · have hV : votE x t = 2 := by
        unfold votE tolE
        rw [first3, he, if_neg ht, if_neg (by decide), if_pos (by decide)]
      rw [vot_err hV (by decide)]
      conv => whnf
      conv => whnf
      refine .inl ⟨_, _, byX rfl (Sound1.pl (h68t) rfl), ?_⟩
      conv => whnf
      conv => whnf
      refine ifB_not ?_
      conv => whnf
      conv => whnf
      refine ifB_dec (fun w1 => ?_) (fun w1 => ?_)
      · (exfalso; omega)
      · conv => whnf
        conv => whnf
        refine ⟨?_, nofun⟩
        exact ave_tup2 (ave_agg4 rfl rfl rfl rfl) rfl
end Go.Tr

/- The law GovernorShares returns true. Conditions: none. -/
namespace Go.Tr
open Go Go.Proofs
set_option maxRecDepth 20000
set_option maxHeartbeats 8000000

theorem vEq4 (a : Int) (b c d : Bool) : vEqL [.int .i64 a, .bool b, .bool c, .bool d] [.int .i64 a, .bool b, .bool c, .bool d] = true := by simp [vEqL]
abbrev chA (x : R3) (t : Int) : AV := .agg [i64 x.a.1, vb x.a.2, i64 x.b.1, vb x.b.2, i64 x.c.1, vb x.c.2, i64 t]
theorem S11 (l : List Int) (load : Int) (x : R3) (t : Int) (hl : l.length ≤ 9223372036854775807) : SP 11 [ints l, i64 load, chA x t] (vb true) false := by
  by_cases h8 : l.length ≤ 8
  · have hl1 : l.length ≤ 1000000 := by omega
    have h19 := S19 l hl1
    have h69 := S69 l load hl1
    have h70 := S70 x t
    have h71 := S71 x t
    have h72 := S72 l load hl
    by_cases hz : shaE l load = 0
    · have hsh := ShOk.of hz
      have h73 := S73 l load hsh
      change SP 73 _ (.tuple [rgs (if (shaF l load).all smB = true then shaF l load else []), vb ((shaF l load).all smB)]) false at h73
      rw [hz] at h72
      rw [if_neg (not_not_intro hz)] at h69
      have hn : (shaF l load).length ≤ 1000000 := by unfold shaF shareL; rw [List.length_map]; exact hl1
      have h74 := S74 (shaF l load) hn
      cases ha : (shaF l load).all smB with
      | true =>
        rw [ha] at h69 h73
        rw [if_pos ⟨hz, rfl⟩, if_pos rfl] at h69
        rw [if_pos rfl] at h73
        refine sound (d := 2) tok2 mixed2 Tryz.func11 (by kernel_rfl) (by kernel_rfl) ?_
        conv => whnf
        refine .inl ⟨_, _, byX rfl (Sound1.pl (S16) rfl), ?_⟩
        conv => whnf
        refine ifB_dec (fun w1 => ?_) (fun w1 => ?_)
        · (exfalso; omega)
        · conv => whnf
          refine .inl ⟨_, _, byX rfl (h19), ?_⟩
          conv => whnf
          refine .inl ⟨_, _, byX rfl (h69), ?_⟩
          conv => whnf
          refine .inl ⟨_, _, byX rfl (Sound1.pl (h70) rfl), ?_⟩
          conv => whnf
          refine .inl ⟨_, _, byX rfl (Sound1.pl (h71) rfl), ?_⟩
          conv => whnf
          refine ifB_bne (fun w2 => ?_) (fun w2 => ?_)
          · (exfalso; omega)
          · conv => whnf
            refine ifB_not ?_
            conv => whnf
            refine ifB_intro (fun w3 => ?_) (fun w3 => ?_)
            · conv => whnf
              refine .inl ⟨_, _, byX rfl (Sound1.pl (h72) rfl), ?_⟩
              conv => whnf
              refine .inl ⟨_, _, byX rfl (h73), ?_⟩
              conv => whnf
              refine .inl ⟨_, _, byX rfl (Sound1.pl (h74) rfl), ?_⟩
              conv => whnf
              refine ⟨?_, nofun⟩
              (first | rfl | exact endb (by simp))
            · conv => whnf
              refine ⟨?_, nofun⟩
              exact absurd (w3.symm.trans (vEq4 _ _ _ _)) (by decide)
      | false =>
        rw [ha] at h69 h73
        rw [if_neg (fun h => absurd h.2 (by nofun)), if_neg (by nofun)] at h69
        rw [if_neg (by nofun)] at h73
        refine sound (d := 2) tok2 mixed2 Tryz.func11 (by kernel_rfl) (by kernel_rfl) ?_
        conv => whnf
        refine .inl ⟨_, _, byX rfl (Sound1.pl (S16) rfl), ?_⟩
        conv => whnf
        refine ifB_dec (fun w1 => ?_) (fun w1 => ?_)
        · (exfalso; omega)
        · conv => whnf
          refine .inl ⟨_, _, byX rfl (h19), ?_⟩
          conv => whnf
          refine .inl ⟨_, _, byX rfl (h69), ?_⟩
          conv => whnf
          refine .inl ⟨_, _, byX rfl (Sound1.pl (h70) rfl), ?_⟩
          conv => whnf
          refine .inl ⟨_, _, byX rfl (Sound1.pl (h71) rfl), ?_⟩
          conv => whnf
          refine ifB_bne (fun w2 => ?_) (fun w2 => ?_)
          · (exfalso; omega)
          · conv => whnf
            refine ifB_not ?_
            conv => whnf
            refine ifB_intro (fun w3 => ?_) (fun w3 => ?_)
            · conv => whnf
              refine .inl ⟨_, _, byX rfl (Sound1.pl (h72) rfl), ?_⟩
              conv => whnf
              refine .inl ⟨_, _, byX rfl (h73), ?_⟩
              conv => whnf
              refine ⟨?_, nofun⟩
              (first | rfl | exact endb (by simp))
            · conv => whnf
              refine ⟨?_, nofun⟩
              exact absurd (w3.symm.trans (vEq4 _ _ _ _)) (by decide)
    · rw [if_neg (fun h => hz h.1), if_pos hz] at h69
      refine sound (d := 2) tok2 mixed2 Tryz.func11 (by kernel_rfl) (by kernel_rfl) ?_
      conv => whnf
      refine .inl ⟨_, _, byX rfl (Sound1.pl (S16) rfl), ?_⟩
      conv => whnf
      refine ifB_dec (fun w1 => ?_) (fun w1 => ?_)
      · (exfalso; omega)
      · conv => whnf
        refine .inl ⟨_, _, byX rfl (h19), ?_⟩
        conv => whnf
        refine .inl ⟨_, _, byX rfl (h69), ?_⟩
        conv => whnf
        refine .inl ⟨_, _, byX rfl (Sound1.pl (h70) rfl), ?_⟩
        conv => whnf
        refine .inl ⟨_, _, byX rfl (Sound1.pl (h71) rfl), ?_⟩
        conv => whnf
        refine ifB_bne (fun w2 => ?_) (fun w2 => ?_)
        · (exfalso; omega)
        · conv => whnf
          refine ifB_not ?_
          conv => whnf
          refine ifB_intro (fun w3 => ?_) (fun w3 => ?_)
          · conv => whnf
            refine .inl ⟨_, _, byX rfl (Sound1.pl (h72) rfl), ?_⟩
            conv => whnf
            refine ifB_bne (fun w4 => ?_) (fun w4 => ?_)
            · conv => whnf
              refine ifB_beq (fun w5 => ?_) (fun w5 => ?_)
              · conv => whnf
                refine ⟨?_, nofun⟩
                (first | rfl | contradiction | exact endb (by simp))
              · (exfalso; omega)
            · (exfalso; omega)
          · conv => whnf
            refine ⟨?_, nofun⟩
            exact absurd (w3.symm.trans (vEq4 _ _ _ _)) (by decide)
  · refine sound (d := 2) tok2 mixed2 Tryz.func11 (by kernel_rfl) (by kernel_rfl) ?_
    conv => whnf
    refine .inl ⟨_, _, byX rfl (Sound1.pl (S16) rfl), ?_⟩
    conv => whnf
    refine ifB_dec (fun w1 => ?_) (fun w1 => ?_)
    · conv => whnf
      refine ⟨?_, nofun⟩
      rfl
    · (exfalso; omega)
end Go.Tr

/- The opening of a law: what an argument reads as, as abstract values, with its shape. Conditions: types of numbers, truth values, strings, slices, structs and arrays. -/
namespace Go.Tr
open Go Go.RowKit

def V2 (P : Program) (w : World) (q : Nat → Prop) : List AV → List Value → Prop
  | [], [] => True
  | x :: xs, v :: vs => (VT P w q x v ∧ v.oneCell' = true) ∧ V2 P w q xs vs
  | _, _ => False

def All2 {α β : Type} (p : α → β → Prop) : List α → List β → Prop
  | [], [] => True
  | x :: xs, y :: ys => p x y ∧ All2 p xs ys
  | _, _ => False

/-- The shape of what a type's cells read as. -/
def TyC (P : Program) : Nat → TypeId → List AV → Prop
  | 0, _, _ => True
  | m + 1, t, xs => match P.underlying t with
    | some .bool => ∃ b, xs = [.val (.bool b)]
    | some (.int k) => ∃ n, xs = [.val (.int k n)] ∧ inK k n
    | some .string => ∃ s : ByteArray, xs = [.val (.string s)] ∧ s.size ≤ 9223372036854775807
    | some (.slice e) => ∃ len f, xs = [.rslice (P.cellsOf e) len f] ∧ len ≤ 9223372036854775807 ∧ ∀ i, i < len → TyC P m e (f i)
    | some (.struct fs) => ∃ ps : List (List AV), xs = ps.flatten ∧ All2 (fun f p => TyC P m f.type p) fs.toList ps
    | some (.array n e) => ∃ ps : List (List AV), xs = ps.flatten ∧ ps.length = n ∧ ∀ p ∈ ps, TyC P m e p
    | _ => False

def layF (P : Program) (g : TypeId → Bool) : List Field → Nat → Nat → Bool
  | [], off, tot => Nat.beq off tot
  | f :: r, off, tot => Nat.beq f.offset off && g f.type && layF P g r (off + P.cellsOf f.type) tot

/-- Types that are covered, laid out part behind part. -/
def lay (P : Program) : Nat → TypeId → Bool
  | 0, _ => false
  | m + 1, t => match P.underlying t with
    | some .bool | some (.int _) | some .string => true
    | some (.slice e) => Nat.blt 0 (P.cellsOf e) && lay P m e
    | some (.struct fs) => layF P (lay P m) fs.toList 0 (P.cellsOf t)
    | some (.array n e) => Nat.beq (P.cellsOf t) (n * P.cellsOf e) && lay P m e
    | _ => false

section
variable {H : Type} {enc : TypeId × Value → H} {P : Program} {w : World} {spare : Nat → Bool} {held : Bool} {q : Nat → Prop}

theorem V2_len : ∀ {xs : List AV} {vs : List Value}, V2 P w q xs vs → xs.length = vs.length
  | [], [], _ => rfl
  | x :: xs, v :: vs, h => by simp [V2_len h.2]
  | [], _ :: _, h => h.elim
  | _ :: _, [], h => h.elim

theorem V2_append : ∀ {xs : List AV} {vs : List Value} {ys : List AV} {us : List Value}, V2 P w q xs vs → V2 P w q ys us → V2 P w q (xs ++ ys) (vs ++ us)
  | [], [], _, _, _, h => h
  | _ :: _, _ :: _, _, _, h, h' => ⟨h.1, V2_append h.2 h'⟩
  | [], _ :: _, _, _, h, _ => h.elim
  | _ :: _, [], _, _, h, _ => h.elim

theorem V2_get : ∀ {xs : List AV} {vs : List Value}, V2 P w q xs vs → ∀ (i : Nat) x, xs[i]? = some x → VT P w q x (vs.getD i undef) ∧ (vs.getD i undef).oneCell' = true
  | [], [], _, i, x, hx => by simp at hx
  | y :: ys, v :: vs, h, 0, x, hx => by
    simp at hx
    subst hx
    simpa using h.1
  | y :: ys, v :: vs, h, i + 1, x, hx => by
    have := V2_get h.2 i x (by simpa using hx)
    simpa using this
  | [], _ :: _, h, _, _, _ => h.elim
  | _ :: _, [], h, _, _, _ => h.elim

theorem mapM_cons_some {α β : Type} {f : α → Option β} {a : α} {l : List α} {r : List β} (h : (a :: l).mapM f = some r) : ∃ b bs, f a = some b ∧ l.mapM f = some bs ∧ r = b :: bs := by
  rw [List.mapM_cons] at h
  cases ha : f a with
  | none => simp [ha] at h
  | some b =>
    cases hl : l.mapM f with
    | none => simp [ha, hl] at h
    | some bs => simp [ha, hl] at h; exact ⟨b, bs, rfl, rfl, h.symm⟩

theorem mapM_get {α β : Type} {f : α → Option β} : ∀ {l : List α} {r : List β}, l.mapM f = some r → r.length = l.length ∧ ∀ (i : Nat) x, l[i]? = some x → ∃ y, f x = some y ∧ r[i]? = some y
  | [], r, h => by simp at h; subst h; exact ⟨rfl, fun i x hx => by simp at hx⟩
  | a :: l, r, h => by
    obtain ⟨b, bs, h1, h2, rfl⟩ := mapM_cons_some h
    obtain ⟨g1, g2⟩ := mapM_get h2
    refine ⟨by simp [g1], fun i x hx => ?_⟩
    cases i with
    | zero => simp at hx; subst hx; exact ⟨b, h1, rfl⟩
    | succ i => simpa using g2 i x (by simpa using hx)

theorem cells_some {a : Addr} {n : Nat} {cs : List Value} (h : w.cells? 0 a n = some cs) : cs.length = n ∧ ∀ j, j < n → w.cell? (a.add j) = some (cs.getD j undef) := by
  unfold World.cells? at h
  rw [if_pos (Nat.zero_le _)] at h
  obtain ⟨h1, h2⟩ := mapM_get h
  refine ⟨by simpa using h1, fun j hj => ?_⟩
  obtain ⟨y, h3, h4⟩ := h2 j j (by simp [hj])
  rw [h3, List.getD_eq_getElem?_getD, h4]
  rfl

theorem cell_spot {a : Addr} {v : Value} (h : w.cell? a = some v) : a.spot = none ∧ a.block < w.heap.size := by
  unfold World.cell? at h
  split at h
  · rename_i c t fr hb
    refine ⟨?_, ?_⟩
    · cases hs : a.spot with
      | none => rfl
      | some s => simp [hs] at h
    · exact (Array.getElem?_eq_some_iff.1 hb).1
  · cases h

theorem addr_add2 (blk off u j : Nat) : ((⟨blk, off, none⟩ : Addr).add u).add j = ⟨blk, off + (u + j), none⟩ := by
  unfold Addr.add
  by_cases h1 : u = 0
  · subst h1
    by_cases h2 : j = 0
    · subst h2; rfl
    · simp [h2]
  · by_cases h2 : j = 0
    · subst h2; simp [h1]
    · simp [h1, h2, Nat.add_assoc]

theorem fields_av {g : TypeId → List Value → Option (DataW H × List MemPlace)} {T : TypeId → List AV → Prop} {ly : TypeId → Bool}
    (ih : ∀ t, ly t = true → ∀ cs x, g t cs = some x → ∃ xs, V2 P w q xs cs ∧ T t xs) (cs : List Value) : ∀ (fs : List Field) (off : Nat) (r : List (DataW H × List MemPlace)), layF P ly fs off cs.length = true →
    (fs.mapM fun f => g f.type ((cs.drop f.offset).take (P.cellsOf f.type))) = some r → ∃ ps : List (List AV), V2 P w q ps.flatten (cs.drop off) ∧ All2 (fun f p => T f.type p) fs ps
  | [], off, r, hl, h => by
    have := Nat.eq_of_beq_eq_true hl
    subst this
    exact ⟨[], by simp [V2], trivial⟩
  | f :: fs, off, r, hl, h => by
    simp only [layF, Bool.and_eq_true] at hl
    obtain ⟨⟨h1, h2⟩, h3⟩ := hl
    have e := Nat.eq_of_beq_eq_true h1
    obtain ⟨b, bs, g1, g2, rfl⟩ := mapM_cons_some h
    obtain ⟨p, p1, p2⟩ := ih _ h2 _ _ g1
    obtain ⟨ps, r1, r2⟩ := fields_av ih cs fs _ _ h3 g2
    refine ⟨p :: ps, ?_, p2, r2⟩
    rw [List.flatten_cons]
    have : cs.drop off = (cs.drop f.offset).take (P.cellsOf f.type) ++ cs.drop (off + P.cellsOf f.type) := by
      rw [e, ← List.drop_drop]
      exact (List.take_append_drop _ _).symm
    rw [this]
    exact V2_append p1 r1

theorem items_av {g : List Value → Option (DataW H × List MemPlace)} {T : List AV → Prop} (ih : ∀ cs x, g cs = some x → ∃ xs, V2 P w q xs cs ∧ T xs) (cs : List Value) (s n : Nat) (hn : cs.length = n * s)
    (h : ∀ i, i < n → ∃ x, g ((cs.drop (i * s)).take s) = some x) : ∀ (k i : Nat), i + k = n → ∃ ps : List (List AV), V2 P w q ps.flatten (cs.drop (i * s)) ∧ ps.length = k ∧ ∀ p ∈ ps, T p
  | 0, i, hi => by
    have : i = n := by omega
    subst this
    refine ⟨[], ?_, rfl, nofun⟩
    rw [List.drop_eq_nil_of_le (by omega)]
    exact trivial
  | k + 1, i, hi => by
    obtain ⟨x, hx⟩ := h i (by omega)
    obtain ⟨p, p1, p2⟩ := ih _ _ hx
    obtain ⟨ps, r1, r2, r3⟩ := items_av ih cs s n hn h k (i + 1) (by omega)
    refine ⟨p :: ps, ?_, by simp [r2], fun y hy => ?_⟩
    · rw [List.flatten_cons]
      have : cs.drop (i * s) = (cs.drop (i * s)).take s ++ cs.drop ((i + 1) * s) := by
        rw [Nat.succ_mul, ← List.drop_drop]
        exact (List.take_append_drop _ _).symm
      rw [this]
      exact V2_append p1 r1
    · rcases List.mem_cons.1 hy with rfl | hy
      · exact p2
      · exact r3 y hy

theorem trod_av (hq : ∀ b, b < w.heap.size → q b) : ∀ (m : Nat) (t : TypeId), lay P m t = true → ∀ (fuel : Nat) (cs : List Value) (x : DataW H × List MemPlace), DataW.trod enc P w 0 spare held fuel t cs = some x → ∃ xs, V2 P w q xs cs ∧ TyC P m t xs
  | 0, t, hl, _, _, _, _ => by simp [lay] at hl
  | m + 1, t, hl, 0, cs, x, h => by simp [DataW.trod] at h
  | m + 1, t, hl, fuel + 1, cs, x, h => by
    unfold lay at hl
    unfold TyC
    unfold DataW.trod at h
    cases hu : P.underlying t with
    | none => simp [hu] at hl
    | some d =>
      simp only [hu] at hl h ⊢
      cases d with
      | bool =>
        split at h <;> first | (cases h; done) | (rename_i e; cases e; done) | skip
        cases h
        exact ⟨[.val (.bool _)], ⟨⟨.val _, rfl⟩, trivial⟩, _, rfl⟩
      | int k =>
        split at h <;> first | (cases h; done) | (rename_i e; cases e; done) | skip
        rename_i e
        cases e
        split at h
        · rename_i hk
          obtain ⟨rfl, hw⟩ := hk
          simp only [Lit.wf, Bool.and_eq_true, decide_eq_true_eq] at hw
          exact ⟨[.val (.int _ _)], ⟨⟨.val _, rfl⟩, trivial⟩, _, rfl, hw⟩
        · cases h
      | string =>
        split at h <;> first | (cases h; done) | (rename_i e; cases e; done) | skip
        split at h
        · rename_i hs
          exact ⟨[.val (.string _)], ⟨⟨.val _, rfl⟩, trivial⟩, _, rfl, hs⟩
        · cases h
      | slice e =>
        simp only [Bool.and_eq_true] at hl
        split at h <;> first | (cases h; done) | (rename_i e; cases e; done) | skip
        · exact ⟨[.rslice (P.cellsOf e) 0 fun _ => []], ⟨⟨.rslice0 _ _ _ _, rfl⟩, trivial⟩, _, _, rfl, by omega, fun i hi => absurd hi (Nat.not_lt_zero i)⟩
        · rename_i e0 a len cap e1
          cases e1
          split at h
          case isFalse => cases h
          rename_i hb
          have hes : 0 < P.cellsOf e := Nat.le_of_ble_eq_true hl.1
          cases hM : (List.range len).mapM fun i => (w.cells? 0 (a.add (i * P.cellsOf e)) (P.cellsOf e)).bind (DataW.trod enc P w 0 spare held fuel e) with
          | none => rw [hM] at h; cases h
          | some elems =>
            obtain ⟨_, g2⟩ := mapM_get hM
            have hx : ∀ i, ∃ xs : List AV, i < len → ∃ cs, (cs.length = P.cellsOf e ∧ ∀ j, j < P.cellsOf e → w.cell? ((a.add (i * P.cellsOf e)).add j) = some (cs.getD j undef)) ∧ V2 P w q xs cs ∧ TyC P m e xs := fun i => by
              by_cases hi : i < len
              · obtain ⟨y, y1, _⟩ := g2 i i (by simp [hi])
                cases hc : w.cells? 0 (a.add (i * P.cellsOf e)) (P.cellsOf e) with
                | none => rw [hc] at y1; cases y1
                | some cs1 =>
                  rw [hc] at y1
                  obtain ⟨xs, x1, x2⟩ := trod_av hq m e hl.2 _ _ _ y1
                  exact ⟨xs, fun _ => ⟨cs1, cells_some hc, x1, x2⟩⟩
              · exact ⟨[], fun h => absurd h hi⟩
            have hf := fun i => (Classical.choose_spec (hx i))
            generalize hF : (fun i => Classical.choose (hx i)) = F
            have hf : ∀ i, i < len → ∃ cs, (cs.length = P.cellsOf e ∧ ∀ j, j < P.cellsOf e → w.cell? ((a.add (i * P.cellsOf e)).add j) = some (cs.getD j undef)) ∧ V2 P w q (F i) cs ∧ TyC P m e (F i) := fun i hi => by
              have := Classical.choose_spec (hx i) hi
              rw [← hF]
              exact this
            refine ⟨[.rslice (P.cellsOf e) len F], ⟨⟨?_, rfl⟩, trivial⟩, len, F, rfl, ?_, fun i hi => ?_⟩
            · rcases Nat.eq_zero_or_pos len with rfl | hp
              · exact .rslice0 _ _ _ _
              · obtain ⟨cs0, c1, _, _⟩ := hf 0 hp
                have hc0 := c1.2 0 hes
                have e0 : ((a.add (0 * P.cellsOf e)).add 0) = a := by simp [Addr.add]
                rw [e0] at hc0
                obtain ⟨s1, s2⟩ := cell_spot hc0
                obtain ⟨blk, off, spot⟩ := a
                simp only at s1 s2
                subst s1
                have hG : ∀ i, ∃ cs : List Value, i < len → (cs.length = P.cellsOf e ∧ ∀ j, j < P.cellsOf e → w.cell? (((⟨blk, off, none⟩ : Addr).add (i * P.cellsOf e)).add j) = some (cs.getD j undef)) ∧ V2 P w q (F i) cs := fun i => by
                  by_cases hi : i < len
                  · obtain ⟨cs, c1, c2, _⟩ := hf i hi
                    exact ⟨cs, fun _ => ⟨c1, c2⟩⟩
                  · exact ⟨[], fun h => absurd h hi⟩
                refine .rslice _ _ _ blk off cap (fun i j => (Classical.choose (hG i)).getD j undef) hb.2.1 (hq _ s2) (fun i hi => ?_) (fun i j hi hj => ?_) (fun i j x hi hx => ?_)
                · obtain ⟨c1, c2⟩ := Classical.choose_spec (hG i) hi
                  rw [V2_len c2, c1.1]
                · obtain ⟨c1, c2⟩ := Classical.choose_spec (hG i) hi
                  have hc := c1.2 j hj
                  have ea : ((⟨blk, off, none⟩ : Addr).add (i * P.cellsOf e)).add j = ⟨blk, off + (i * P.cellsOf e + j), none⟩ := by
                    exact addr_add2 blk off _ j
                  rw [ea] at hc
                  refine ⟨hc, ?_⟩
                  have hlt : j < (F i).length := by rw [V2_len c2, c1.1]; exact hj
                  exact (V2_get c2 j _ (List.getElem?_eq_getElem hlt)).2
                · obtain ⟨c1, c2⟩ := Classical.choose_spec (hG i) hi
                  exact (V2_get c2 j x hx).1
            · have := hb.2.2
              unfold maxLen at this
              omega
            · obtain ⟨_, _, _, h3⟩ := hf i hi
              exact h3
      | struct fs =>
        replace h : (if cs.length = P.cellsOf t then (fs.toList.mapM fun f => DataW.trod enc P w 0 spare held fuel f.type ((cs.drop f.offset).take (P.cellsOf f.type))).map fun xs => (.agg (xs.map (·.1)), xs.flatMap (·.2)) else none) = some x := h
        split at h
        case isFalse => cases h
        rename_i hc
        cases hM : fs.toList.mapM fun f => DataW.trod enc P w 0 spare held fuel f.type ((cs.drop f.offset).take (P.cellsOf f.type)) with
        | none => rw [hM] at h; cases h
        | some r =>
          obtain ⟨ps, p1, p2⟩ := fields_av (T := TyC P m) (ly := lay P m) (fun t ht cs x hx => trod_av hq m t ht fuel cs x hx) cs fs.toList 0 r (by rw [hc]; exact hl) hM
          exact ⟨ps.flatten, by simpa using p1, ps, rfl, p2⟩
      | array n e =>
        simp only [Bool.and_eq_true] at hl
        replace h : (if cs.length = P.cellsOf t then ((List.range n).mapM fun i => DataW.trod enc P w 0 spare held fuel e ((cs.drop (i * P.cellsOf e)).take (P.cellsOf e))).map fun xs => (.agg (xs.map (·.1)), xs.flatMap (·.2)) else none) = some x := h
        split at h
        case isFalse => cases h
        rename_i hc
        cases hM : (List.range n).mapM fun i => DataW.trod enc P w 0 spare held fuel e ((cs.drop (i * P.cellsOf e)).take (P.cellsOf e)) with
        | none => rw [hM] at h; cases h
        | some r =>
          obtain ⟨_, g2⟩ := mapM_get hM
          obtain ⟨ps, p1, p2, p3⟩ := items_av (T := TyC P m e) (fun cs x hx => trod_av hq m e hl.2 fuel cs x hx) cs (P.cellsOf e) n (by rw [hc]; exact Nat.eq_of_beq_eq_true hl.1)
            (fun i hi => by obtain ⟨y, y1, _⟩ := g2 i i (by simp [hi]); exact ⟨y, y1⟩) n 0 (by omega)
          exact ⟨ps.flatten, by simpa using p1, ps, rfl, p2, p3⟩
      | _ => simp at hl

/-- The shape of an argument. -/
def TyA (P : Program) (m : Nat) (t : TypeId) (x : AV) : Prop :=
  match P.underlying t with
  | some (.struct _) | some (.array _ _) => ∃ xs, x = .agg xs ∧ TyC P m t xs
  | _ => TyC P m t [x]

/-- An argument of a law, as an abstract value. -/
theorem open_av {r : Reach} {b0 : Nat} {t : TypeId} {v : Value} {d : DataW H} {ps : List MemPlace} {m : Nat} (hl : lay P m t = true) (hq : ∀ b, b < w.heap.size → q b)
    (hv : Value.okWide P w r b0 t v) (hd : DataW.Trod enc P w 0 spare held t v d ps) : ∃ x, VT P w q x v ∧ TyA P m t x := by
  obtain ⟨fuel, hf⟩ := hd
  obtain ⟨xs, h1, h2⟩ := trod_av hq m t hl fuel _ _ hf
  have agg : ∀ cs, v = .agg cs → VT P w q (.agg xs) v := by
    rintro cs rfl
    have hlen := V2_len h1
    refine .agg xs cs (by rw [hlen]; simp [Value.cells]) (fun u hu => ?_) (fun i x hx => ?_)
    · obtain ⟨i, hi, rfl⟩ := List.getElem_of_mem hu
      have hx : i < xs.length := by rw [hlen]; simpa [Value.cells] using hi
      have := (V2_get h1 i _ (List.getElem?_eq_getElem hx)).2
      have hi' : i < cs.size := by simpa using hi
      simpa [Value.cells, List.getD_eq_getElem?_getD, hi'] using this
    · have := (V2_get h1 i x hx).1
      simpa [Value.cells, List.getD_eq_getElem?_getD, Array.getD_eq_getD_getElem?] using this
  have one : ∀ u, v.cells.toList = [u] → v = u → ∃ x, VT P w q x v ∧ TyC P m t [x] := by
    rintro u e rfl
    rw [e] at h1
    match xs, h1, h2 with
    | [x], h1, h2 => exact ⟨x, h1.1.1, h2⟩
  unfold TyA
  unfold Value.okWide at hv
  split
  · rename_i fs hu
    simp only [hu] at hv
    obtain ⟨cs, e, _, _⟩ := hv
    exact ⟨_, agg cs e, xs, rfl, h2⟩
  · rename_i n e hu
    simp only [hu] at hv
    obtain ⟨cs, e, _, _⟩ := hv
    exact ⟨_, agg cs e, xs, rfl, h2⟩
  · rename_i n1 n2
    have hc : Cell.okWide P w r b0 t v := by
      split at hv
      · rename_i hu; exact absurd hu (n1 _)
      · rename_i hu; exact absurd hu (n2 _ _)
      · exact hv
    cases v with
    | agg cs =>
      simp only [Cell.okWide] at hc
      split at hc <;> first | (rename_i e _; cases e; done) | (rename_i e; cases e; done) | (simp [Cell.ok] at hc)
    | tuple cs =>
      simp only [Cell.okWide] at hc
      split at hc <;> first | (rename_i e _; cases e; done) | (rename_i e; cases e; done) | (simp [Cell.ok] at hc)
    | _ => exact one _ rfl rfl
end
end Go.Tr

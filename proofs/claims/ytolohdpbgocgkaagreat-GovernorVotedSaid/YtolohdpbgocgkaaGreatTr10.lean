/- Contracts of chapter 6: the vote of three channels. Conditions: none. -/
import Derived.Test.YtolohdpbgocgkaaGreatTr09
set_option linter.unusedSectionVars false
set_option linter.unnecessarySimpa false
set_option linter.unusedVariables false
set_option linter.unusedSimpArgs false

namespace Go.Tr
open Go Go.Proofs
set_option maxRecDepth 20000
set_option maxHeartbeats 8000000

theorem S138 (k : Int) (r : Rd) : SP 138 [i64 k, .agg [i64 r.1, vb r.2]] (i64 (rdE r)) false := by
  obtain ⟨v, m⟩ := r
  have h93a := S93 (v == 0) 3
  have h114 := S114 v 1000000 (by decide)
  have h93b := S93 (win v (-1000000) 1000000) 2
  unfold rdE
  cases m with
  | true =>
    refine sound (d := 2) tok2 mixed2 Tryz.func138 (by kernel_rfl) (by kernel_rfl) ?_
    conv => whnf
    refine .inl ⟨_, _, byX rfl (Sound1.pl (h93a) rfl), ?_⟩
    conv => whnf
    refine ⟨?_, nofun⟩
    exact endi (by simp)
  | false =>
    refine sound (d := 2) tok2 mixed2 Tryz.func138 (by kernel_rfl) (by kernel_rfl) ?_
    conv => whnf
    refine .inl ⟨_, _, byX rfl (Sound1.pl (h114) rfl), ?_⟩
    conv => whnf
    refine .inl ⟨_, _, byX rfl (Sound1.pl (h93b) rfl), ?_⟩
    conv => whnf
    refine ⟨?_, nofun⟩
    exact endi (by unfold win; simp)
theorem S161 (n : Nat) (h : n ≤ 3) : ∃ r, SP 161 [.val (.int .u64 n)] (i64 r) false := by
  have : n = 0 ∨ n = 1 ∨ n = 2 ∨ n = 3 := by omega
  rcases this with rfl | rfl | rfl | rfl
  · exact ⟨_, run_ok mixed2 (l := []) (by simp) 1000 60 (y := i64 0) (by kernel_rfl)⟩
  · exact ⟨_, run_ok mixed2 (l := []) (by simp) 1000 60 (y := i64 1) (by kernel_rfl)⟩
  · exact ⟨_, run_ok mixed2 (l := []) (by simp) 1000 60 (y := i64 2) (by kernel_rfl)⟩
  · exact ⟨_, run_ok mixed2 (l := []) (by simp) 1000 60 (y := i64 2) (by kernel_rfl)⟩
def eachD : List Rd → Nat → Int × Int
  | [], _ => (0, 0)
  | x :: l, k => if rdE x = 0 then eachD l (k + 1) else (k, rdE x)
theorem eachD_drop (l : List Rd) (k : Nat) (h : k < l.length) : eachD (l.drop k) k = if rdE (l.getD k (0, false)) = 0 then eachD (l.drop (k + 1)) (k + 1) else ((k : Int), rdE (l.getD k (0, false))) := by
  rw [List.drop_eq_getElem_cons h]
  simp [eachD, List.getD_eq_getElem?_getD, h]
def rds (L : List Rd) : AV := .rslice 2 L.length fun i => [i64 (L.getD i (0, false)).1, vb (L.getD i (0, false)).2]
theorem S137 (l : List Rd) (hl : l.length ≤ 1000000000) : SP 137 [rds l, .func (.func 138) 0 []] (.tuple [i64 (eachD l 0).1, i64 (eachD l 0).2]) false := by
  refine sound (d := 2) tok2 mixed2 Tryz.func137 (by kernel_rfl) (by kernel_rfl) ?_
  conv => whnf
  refine ⟨[], [1, 9, 10, 11], fun st mq => ∃ (k : Nat), (k ≤ l.length) ∧ (eachD (l.drop k) k = eachD l 0) ∧ st = ⟨[(1, .func (.func 138) 0 []), (9, rds l), (10, i64 l.length), (11, i64 k)], ⟨[], [], none, 0⟩, []⟩ ∧ mq = l.length - k,
    ⟨_, _, ⟨0, by omega, rfl, rfl, rfl⟩, ⟨⟨.inl rfl, rfl, rfl, rfl⟩, trivial, trivial⟩⟩, ?_⟩
  rintro s0 m0 ⟨k, hk, he, rfl, hmeas⟩
  by_cases hlt : k < l.length
  · have hd := eachD_drop l k hlt
    have hc := S138 k (l.getD k (0, false))
    conv => whnf
    conv => whnf
    refine ifB_dec (fun w1 => ?_) (fun w1 => ?_)
    · conv => whnf
      conv => whnf
      refine ⟨⟨(by omega), (by omega)⟩, ?_⟩
      conv => whnf
      conv => whnf
      refine .inl ⟨_, _, byX rfl (Sound1.pl (hc) rfl), ?_⟩
      conv => whnf
      conv => whnf
      refine ifB_bne (fun w2 => ?_) (fun w2 => ?_)
      · conv => whnf
        conv => whnf
        refine ⟨?_, nofun⟩
        rw [if_neg w2] at hd
        exact ave_tup2 (endi (by rw [← he, hd])) (endi (by rw [← he, hd]))
      · conv => whnf
        conv => whnf
        refine ⟨inK64 (by omega) (by omega), ?_⟩
        rw [if_pos w2] at hd
        conv => whnf
        conv => whnf
        refine ⟨_, _, ⟨⟨k + 1, by omega, hd.symm.trans he, rfl, rfl⟩, by omega⟩, ⟨⟨.inl rfl, rfl, rfl, rfl⟩, trivial, trivial⟩⟩
    · (exfalso; omega)
  · have e : k = l.length := by omega
    subst e
    rw [List.drop_length] at he
    conv => whnf
    conv => whnf
    refine ifB_dec (fun w1 => ?_) (fun w1 => ?_)
    · (exfalso; omega)
    · conv => whnf
      conv => whnf
      refine ⟨?_, nofun⟩
      exact ave_tup2 (endi (by rw [← he]; rfl)) (endi (by rw [← he]; rfl))
/-- Three readings. -/
structure R3 where
  a : Rd
  b : Rd
  c : Rd
def R3.l (x : R3) : List Rd := [x.a, x.b, x.c]
abbrev xA (x : R3) : AV := .agg [i64 x.a.1, vb x.a.2, i64 x.b.1, vb x.b.2, i64 x.c.1, vb x.c.2]
def rdsE (x : R3) : Int := (eachD x.l 0).2
theorem S137x (x : R3) (f : Nat → List AV) (h : f 0 = [i64 x.a.1, vb x.a.2] ∧ f 1 = [i64 x.b.1, vb x.b.2] ∧ f 2 = [i64 x.c.1, vb x.c.2]) : SP 137 [.rslice 2 3 f, .func (.func 138) 0 []] (.tuple [i64 (eachD x.l 0).1, i64 (rdsE x)]) false := by
  refine (S137 x.l (by show 3 ≤ 1000000000; decide)).argsD rfl fun i y z hy hz => ?_
  match i, hy, hz with
  | 0, hy, hz =>
    cases hy; cases hz
    refine .inr ⟨1, AVF_rows rfl (fun i hi => ?_) 0⟩
    match i, hi with
    | 0, _ => exact h.1
    | 1, _ => exact h.2.1
    | 2, _ => exact h.2.2
  | 1, hy, hz => cases hy; cases hz; exact .inl rfl
def tolE (t : Int) : Int := if 0 ≤ t ∧ t ≤ 1000000 then 0 else 2
/-- The error of a vote, but for channels that differ. -/
def votE (x : R3) (t : Int) : Int := firstOf [rdsE x, tolE t, if (presL x.l).length ≥ 2 then 0 else 14]
theorem S181 (a b : Int) : SP 181 [i64 a, i64 b] (vb (decide (a < b))) false := by
  have h : ∀ x : Int, SP 197 [i64 x] (vb false) false := fun x => by
    refine sound (d := 2) tok2 mixed2 Tryz.func197 (by kernel_rfl) (by kernel_rfl) ?_
    conv => whnf
    refine ⟨?_, nofun⟩
    exact endb (by simp)
  refine sound (d := 2) tok2 mixed2 Tryz.func181 (by kernel_rfl) (by kernel_rfl) ?_
  conv => whnf
  refine .inl ⟨_, _, byX rfl (Sound1.pl (h _) rfl), ?_⟩
  conv => whnf
  refine ⟨?_, nofun⟩
  exact endb rfl
def two (u v t : Int) : Int × Int := if ((u - v).natAbs : Int) > t then (0, 13) else ((u + v).fdiv 2, 0)
def oddB (m t z : Int) : Bool := decide (((z - m).natAbs : Int) > t)
def b01 (b : Bool) : Int := if b = true then 1 else 0
abbrev Vt := Int × Bool × Bool × Bool
abbrev vtA (v : Vt) : AV := .agg [i64 v.1, vb v.2.1, vb v.2.2.1, vb v.2.2.2]
def vt0 : Vt := (0, false, false, false)
/-- The vote. -/
def voteG (x : R3) (t : Int) : Vt × Int :=
  if votE x t ≠ 0 then (vt0, votE x t)
  else if (presL x.l).length = 2 then (((two ((presL x.l).getD 0 0) ((presL x.l).getD 1 0) t).1, false, false, false), (two ((presL x.l).getD 0 0) ((presL x.l).getD 1 0) t).2)
  else if b01 (oddB (midI x.a.1 x.b.1 x.c.1) t x.a.1) + b01 (oddB (midI x.a.1 x.b.1 x.c.1) t x.b.1) + b01 (oddB (midI x.a.1 x.b.1 x.c.1) t x.c.1) > 1 then (vt0, 13)
  else ((midI x.a.1 x.b.1 x.c.1, oddB (midI x.a.1 x.b.1 x.c.1) t x.a.1, oddB (midI x.a.1 x.b.1 x.c.1) t x.b.1, oddB (midI x.a.1 x.b.1 x.c.1) t x.c.1), 0)
theorem siz_abs (z : Int) : siz z = (z.natAbs : Nat) := by unfold siz; split <;> omega
theorem vot_in {x : R3} {t : Int} (h : votE x t = 0) : (∀ v ∈ presL x.l, v.natAbs ≤ 1000000) ∧ 0 ≤ t ∧ t ≤ 1000000 := by
  unfold votE at h
  rw [first3] at h
  by_cases h1 : rdsE x = 0
  · rw [if_neg (not_not_intro h1)] at h
    by_cases h2 : tolE t = 0
    · refine ⟨fun v hv => ?_, ?_⟩
      · have hall : ∀ (l : List Rd) (k : Nat), (eachD l k).2 = 0 → ∀ r ∈ l, rdE r = 0 := fun l => by
          induction l with
          | nil => intro _ _ r hr; cases hr
          | cons y l ih =>
            intro k h r hr
            unfold eachD at h
            by_cases hy : rdE y = 0
            · rw [if_pos hy] at h
              rcases List.mem_cons.1 hr with e | hr
              · rw [e]; exact hy
              · exact ih (k + 1) h r hr
            · rw [if_neg hy] at h; exact absurd h hy
        obtain ⟨r, hr, he⟩ := List.mem_filterMap.1 hv
        have h3 := hall x.l 0 h1 r hr
        unfold rdE at h3
        by_cases hm : r.2 = true
        · rw [if_pos hm] at he; exact absurd he (by simp)
        · rw [if_neg hm] at h3 he
          cases he
          split at h3
          · omega
          · exact absurd h3 (by decide)
      · unfold tolE at h2
        split at h2
        · assumption
        · exact absurd h2 (by decide)
    · rw [if_pos h2] at h; exact absurd h h2
  · rw [if_pos h1] at h; exact absurd h h1
theorem pres3 {x : R3} (h : (presL x.l).length = 3) : presL x.l = [x.a.1, x.b.1, x.c.1] := by
  obtain ⟨⟨a, ma⟩, ⟨b, mb⟩, ⟨c, mc⟩⟩ := x
  unfold presL R3.l at h ⊢
  cases ma <;> cases mb <;> cases mc <;> simp at h ⊢
theorem sorted2 {a O : List Int} (hp : a.Perm O) (hs : SortTo a 2) (hl : a.length = 2) (hO : O.length = 2) : (a.getD 1 0 - a.getD 0 0 = ((O.getD 0 0 - O.getD 1 0).natAbs : Nat)) ∧ a.getD 0 0 + a.getD 1 0 = O.getD 0 0 + O.getD 1 0 := by
  have h01 := hs 0 1 (by omega) (by omega)
  match a, O, hl, hO with
  | [p, q], [u, v], _, _ =>
    have h := perm2 hp
    have h01 : p ≤ q := h01
    show q - p = ((u - v).natAbs : Nat) ∧ p + q = u + v
    omega
theorem sorted3 {a : List Int} {u v w : Int} (hp : a.Perm [u, v, w]) (hs : SortTo a 3) (hl : a.length = 3) : a.getD 1 0 = midI u v w := by
  have h01 := hs 0 1 (by omega) (by omega)
  have h12 := hs 1 2 (by omega) (by omega)
  match a, hl with
  | [p, q, r], _ => exact perm3 hp h01 h12
set_option maxHeartbeats 4000000 in
theorem S70 (x : R3) (t : Int) : SP 70 [xA x, i64 t] (.tuple [vtA (voteG x t).1, i64 (voteG x t).2]) false := by
  have h137 := S137x x
  have h118 := S118 t 0 1000000
  have h93t := S93 (win t 0 1000000) 2
  have h90 := fun a b c => @S90_3 a b c
  refine sound (d := 5) tok2 mixed2 Tryz.func70 (by kernel_rfl) (by kernel_rfl) ?_
  conv => whnf
  refine ⟨⟨(by omega), ⟨(by omega), (by omega)⟩⟩, ?_⟩
  conv => whnf
  refine .inl ⟨_, _, byX rfl (Sound1.pl (h137 _ ⟨rfl, rfl, rfl⟩) rfl), ?_⟩
  conv => whnf
  refine ⟨[.slot 8 1], [1, 2, 4, 7, 8, 20, 21], fun st mq => ∃ (k : Nat) (O : List Int) (n : Nat), (k ≤ 3) ∧ (O = presL (x.l.take k)) ∧ (O.length = n) ∧ st = ⟨[(1, i64 t), (2, .optr 0 0 0 0), (4, .optr 1 0 0 0), (7, i64 (rdsE x)), (8, .oslice 2 0 0 n none), (20, xA x), (21, i64 k)], ⟨[⟨6, 1, fun _ => [i64 x.a.1, vb x.a.2, i64 x.b.1, vb x.b.2, i64 x.c.1, vb x.c.2], 0, true, true, true⟩, ⟨4, 1, fun _ => [i64 0, vb false, vb false, vb false], 0, false, true, true⟩, ⟨1, n, fun i => [i64 (O.getD i 0)], 0, false, true, false⟩], [], none, 0⟩, []⟩ ∧ mq = 3 - k,
    ⟨_, _, ⟨0, [], 0, by omega, rfl, rfl, rfl, rfl⟩, ⟨⟨.inl rfl, rfl, rfl, rfl⟩, ⟨⟨rfl, rfl, rfl, rfl, fun _ => rfl, fun _ _ => .inl rfl⟩, ⟨⟨rfl, rfl, rfl, rfl, fun _ => rfl, fun _ _ => .inl rfl⟩, ⟨⟨rfl, rfl, rfl, rfl, fun _ => rfl, fun i h => .inl (absurd h (Nat.not_lt_zero i))⟩, trivial⟩⟩⟩, trivial⟩⟩, ?_⟩
  rintro s0 m0 ⟨k, O, n, hk, hO, hn, rfl, hmeas⟩
  have hn3 : n ≤ 3 := by
    rw [← hn, hO]
    exact Nat.le_trans (List.length_filterMap_le ..) (by rw [List.length_take]; exact Nat.min_le_right _ _)
  have hc : k = 0 ∨ k = 1 ∨ k = 2 ∨ k = 3 := by omega
  rcases hc with rfl | rfl | rfl | rfl
  · have et : x.l.take 1 = x.l.take 0 ++ [x.a] := rfl
    conv => whnf
    conv => whnf
    refine ⟨⟨(by omega), (by omega)⟩, ?_⟩
    conv => whnf
    conv => whnf
    refine ifB_not ?_
    conv => whnf
    conv => whnf
    refine ifB_intro (fun w1 => ?_) (fun w1 => ?_)
    · conv => whnf
      conv => whnf
      refine ⟨inK64 (by omega) (by omega), ?_⟩
      conv => whnf
      conv => whnf
      refine ⟨_, _, ⟨⟨1, O, n, by omega, (by rw [et, presL_snoc, if_pos w1, hO]), hn, rfl, rfl⟩, by omega⟩, ⟨⟨.inl rfl, rfl, rfl, rfl⟩, ⟨⟨rfl, rfl, rfl, rfl, fun _ => rfl, fun _ _ => .inl rfl⟩, ⟨⟨rfl, rfl, rfl, rfl, fun _ => rfl, fun _ _ => .inl rfl⟩, ⟨⟨rfl, rfl, rfl, rfl, fun _ => rfl, fun _ _ => .inl rfl⟩, trivial⟩⟩⟩, trivial⟩⟩
    · conv => whnf
      conv => whnf
      refine .inl ?_
      conv => whnf
      conv => whnf
      refine ⟨(by show _ * (8 + 1) ≤ _; omega), ?_⟩
      conv => whnf
      conv => whnf
      refine ⟨inK64 (by omega) (by omega), ?_⟩
      conv => whnf
      conv => whnf
      refine ⟨_, _, ⟨⟨1, O ++ [x.a.1], n + 1, by omega, (by rw [et, presL_snoc, if_neg (by rw [w1]; nofun), hO]), (by rw [List.length_append, hn]; rfl), rfl, rfl⟩, by omega⟩, ⟨⟨.inl rfl, rfl, rfl, rfl⟩, ⟨⟨rfl, rfl, rfl, rfl, fun _ => rfl, fun _ _ => .inl rfl⟩, ⟨⟨rfl, rfl, rfl, rfl, fun _ => rfl, fun _ _ => .inl rfl⟩, ⟨⟨rfl, rfl, rfl, rfl, fun _ => rfl, fun i hi => .inl (app_row O _ n i hn hi)⟩, trivial⟩⟩⟩, trivial⟩⟩
  · have et : x.l.take 2 = x.l.take 1 ++ [x.b] := rfl
    conv => whnf
    conv => whnf
    refine ⟨⟨(by omega), (by omega)⟩, ?_⟩
    conv => whnf
    conv => whnf
    refine ifB_not ?_
    conv => whnf
    conv => whnf
    refine ifB_intro (fun w1 => ?_) (fun w1 => ?_)
    · conv => whnf
      conv => whnf
      refine ⟨inK64 (by omega) (by omega), ?_⟩
      conv => whnf
      conv => whnf
      refine ⟨_, _, ⟨⟨2, O, n, by omega, (by rw [et, presL_snoc, if_pos w1, hO]), hn, rfl, rfl⟩, by omega⟩, ⟨⟨.inl rfl, rfl, rfl, rfl⟩, ⟨⟨rfl, rfl, rfl, rfl, fun _ => rfl, fun _ _ => .inl rfl⟩, ⟨⟨rfl, rfl, rfl, rfl, fun _ => rfl, fun _ _ => .inl rfl⟩, ⟨⟨rfl, rfl, rfl, rfl, fun _ => rfl, fun _ _ => .inl rfl⟩, trivial⟩⟩⟩, trivial⟩⟩
    · conv => whnf
      conv => whnf
      refine .inl ?_
      conv => whnf
      conv => whnf
      refine ⟨(by show _ * (8 + 1) ≤ _; omega), ?_⟩
      conv => whnf
      conv => whnf
      refine ⟨inK64 (by omega) (by omega), ?_⟩
      conv => whnf
      conv => whnf
      refine ⟨_, _, ⟨⟨2, O ++ [x.b.1], n + 1, by omega, (by rw [et, presL_snoc, if_neg (by rw [w1]; nofun), hO]), (by rw [List.length_append, hn]; rfl), rfl, rfl⟩, by omega⟩, ⟨⟨.inl rfl, rfl, rfl, rfl⟩, ⟨⟨rfl, rfl, rfl, rfl, fun _ => rfl, fun _ _ => .inl rfl⟩, ⟨⟨rfl, rfl, rfl, rfl, fun _ => rfl, fun _ _ => .inl rfl⟩, ⟨⟨rfl, rfl, rfl, rfl, fun _ => rfl, fun i hi => .inl (app_row O _ n i hn hi)⟩, trivial⟩⟩⟩, trivial⟩⟩
  · have et : x.l.take 3 = x.l.take 2 ++ [x.c] := rfl
    conv => whnf
    conv => whnf
    refine ⟨⟨(by omega), (by omega)⟩, ?_⟩
    conv => whnf
    conv => whnf
    refine ifB_not ?_
    conv => whnf
    conv => whnf
    refine ifB_intro (fun w1 => ?_) (fun w1 => ?_)
    · conv => whnf
      conv => whnf
      refine ⟨inK64 (by omega) (by omega), ?_⟩
      conv => whnf
      conv => whnf
      refine ⟨_, _, ⟨⟨3, O, n, by omega, (by rw [et, presL_snoc, if_pos w1, hO]), hn, rfl, rfl⟩, by omega⟩, ⟨⟨.inl rfl, rfl, rfl, rfl⟩, ⟨⟨rfl, rfl, rfl, rfl, fun _ => rfl, fun _ _ => .inl rfl⟩, ⟨⟨rfl, rfl, rfl, rfl, fun _ => rfl, fun _ _ => .inl rfl⟩, ⟨⟨rfl, rfl, rfl, rfl, fun _ => rfl, fun _ _ => .inl rfl⟩, trivial⟩⟩⟩, trivial⟩⟩
    · conv => whnf
      conv => whnf
      refine .inl ?_
      conv => whnf
      conv => whnf
      refine ⟨(by show _ * (8 + 1) ≤ _; omega), ?_⟩
      conv => whnf
      conv => whnf
      refine ⟨inK64 (by omega) (by omega), ?_⟩
      conv => whnf
      conv => whnf
      refine ⟨_, _, ⟨⟨3, O ++ [x.c.1], n + 1, by omega, (by rw [et, presL_snoc, if_neg (by rw [w1]; nofun), hO]), (by rw [List.length_append, hn]; rfl), rfl, rfl⟩, by omega⟩, ⟨⟨.inl rfl, rfl, rfl, rfl⟩, ⟨⟨rfl, rfl, rfl, rfl, fun _ => rfl, fun _ _ => .inl rfl⟩, ⟨⟨rfl, rfl, rfl, rfl, fun _ => rfl, fun _ _ => .inl rfl⟩, ⟨⟨rfl, rfl, rfl, rfl, fun _ => rfl, fun i hi => .inl (app_row O _ n i hn hi)⟩, trivial⟩⟩⟩, trivial⟩⟩
  · have hO : O = presL x.l := hO
    have h93n := S93 (decide ((n : Int) ≥ 2)) 14
    have hE : firstOf [rdsE x, if win t 0 1000000 = true then 0 else 2, if decide ((n : Int) ≥ 2) = true then (0 : Int) else 14] = votE x t := by
      unfold votE tolE win
      rw [← hO, hn]
      simp only [decide_eq_true_eq]
      congr 4
      by_cases h : n ≥ 2
      · rw [if_pos h, if_pos (by omega)]
      · rw [if_neg h, if_neg (by omega)]
    have h90' : ∀ f : Nat → List AV, (f 0 = [i64 (rdsE x)] ∧ f 1 = [i64 (if win t 0 1000000 = true then 0 else 2)] ∧ f 2 = [i64 (if decide ((n : Int) ≥ 2) = true then 0 else 14)]) → SP 90 [.rslice 1 3 f] (i64 (votE x t)) false := fun f h => by
      have h := S90_3 _ _ _ h
      rwa [hE] at h
    by_cases hv : votE x t = 0
    · have hn2 : 2 ≤ n := by
        by_cases h2 : n ≥ 2
        · exact h2
        · exfalso
          rw [← hE, first3, if_neg (show ¬ decide ((n : Int) ≥ 2) = true by simp; omega)] at hv
          (repeat' split at hv) <;> first | contradiction | omega
      rw [hv] at h90'
      obtain ⟨rl, h161⟩ := S161 n (by omega)
      have h181 := S181
      have hu : inK .u64 (n : Int) := ⟨by
        have : IntKind.min .u64 = 0 := by decide
        omega, by
        have : IntKind.max .u64 = 18446744073709551615 := by decide
        omega⟩
      conv => whnf
      conv => whnf
      refine .inl ⟨_, _, byX rfl (Sound1.pl (h118) rfl), ?_⟩
      conv => whnf
      conv => whnf
      refine .inl ⟨_, _, byX rfl (Sound1.pl (h93t) rfl), ?_⟩
      conv => whnf
      conv => whnf
      refine .inl ⟨_, _, byX rfl (Sound1.pl (h93n) rfl), ?_⟩
      conv => whnf
      conv => whnf
      refine .inl ⟨_, _, byX rfl (Sound1.pl (h90' _ ⟨rfl, rfl, rfl⟩) rfl), ?_⟩
      conv => whnf
      conv => whnf
      refine .inr (.inl ⟨[], ?_⟩)
      conv => whnf
      conv => whnf
      refine ⟨by assumption, ?_⟩
      conv => whnf
      conv => whnf
      refine .inl ⟨_, _, byX rfl (Sound1.pl (h161) rfl), ?_⟩
      conv => whnf
      conv => whnf
      refine .inr (.inl ⟨[], ?_⟩)
      conv => whnf
      conv => whnf
      refine ⟨[.forget [0, 2, 3, 4, 5, 6, 7, 8, 9, 58, 55, 54, 53, 52, 51, 50, 49, 48, 47, 46, 45, 44, 33, 18, 31, 32]], [0, 1, 2, 3], fun st mq => ∃ (F3 : Nat → List AV), st = ⟨[(0, .oslice 2 0 0 n none), (1, i64 0), (2, i64 n), (3, i64 rl)], ⟨[⟨6, 1, fun _ => [i64 x.a.1, vb x.a.2, i64 x.b.1, vb x.b.2, i64 x.c.1, vb x.c.2], 0, true, true, true⟩, ⟨4, 1, fun _ => [i64 0, vb false, vb false, vb false], 0, false, true, true⟩, ⟨1, n, fun i => [i64 (O.getD i 0)], 0, false, true, false⟩, ⟨1, 3, F3, 0, false, true, false⟩], [], none, 0⟩, [(12, i64 t), (13, .optr 0 0 0 0), (15, .optr 1 0 0 0), (19, .oslice 2 0 0 n none)]⟩ ∧ mq = 0,
        ⟨_, _, ⟨_, rfl, rfl⟩, ⟨⟨.inl rfl, rfl, rfl, rfl⟩, ⟨⟨rfl, rfl, rfl, rfl, fun _ => rfl, fun _ _ => .inl rfl⟩, ⟨⟨rfl, rfl, rfl, rfl, fun _ => rfl, fun _ _ => .inl rfl⟩, ⟨⟨rfl, rfl, rfl, rfl, fun _ => rfl, fun _ _ => .inl rfl⟩, ⟨⟨rfl, rfl, rfl, rfl, fun _ => rfl, fun _ _ => .inl rfl⟩, trivial⟩⟩⟩⟩, trivial⟩⟩, ?_⟩
      rintro s0 m0 ⟨F3, rfl, hmeas⟩
      conv => whnf
      conv => whnf
      conv => whnf
      refine ⟨inK64 (by omega) (by omega), ?_⟩
      conv => whnf
      conv => whnf
      conv => whnf
      refine ifB_dec (fun w1 => ?_) (fun w1 => ?_)
      · conv => whnf
        conv => whnf
        conv => whnf
        refine .inr (.inl ⟨[], ?_⟩)
        conv => whnf
        conv => whnf
        conv => whnf
        refine ⟨inK64 (by omega) (by omega), ?_⟩
        conv => whnf
        conv => whnf
        conv => whnf
        refine ⟨[.forget [0, 1, 2, 3, 10, 19, 20, 21, 22, 23, 24, 25, 26]], [0, 1, 2, 6], fun st mq => ∃ (i : Nat) (a : List Int) (F3 : Nat → List AV), (1 ≤ i) ∧ (i ≤ n ∨ i = 1) ∧ (a.length = n) ∧ (a.Perm O) ∧ (SortTo a i) ∧ st = ⟨[(0, .oslice 2 0 0 n none), (1, i64 0), (2, i64 n), (6, i64 i)], ⟨[⟨6, 1, fun _ => [i64 x.a.1, vb x.a.2, i64 x.b.1, vb x.b.2, i64 x.c.1, vb x.c.2], 0, true, true, true⟩, ⟨4, 1, fun _ => [i64 0, vb false, vb false, vb false], 0, false, true, true⟩, ⟨1, n, fun i => [i64 (a.getD i 0)], 0, false, true, false⟩, ⟨1, 3, F3, 0, false, true, false⟩], [], none, 0⟩, [(146, i64 t), (147, .optr 0 0 0 0), (149, .optr 1 0 0 0), (153, .oslice 2 0 0 n none)]⟩ ∧ mq = n - i,
          ⟨_, _, ⟨1, O, _, by omega, by omega, hn, List.Perm.refl _, fun p q h1 h2 => by omega, rfl, rfl⟩, ⟨⟨.inl rfl, rfl, rfl, rfl⟩, ⟨⟨rfl, rfl, rfl, rfl, fun _ => rfl, fun _ _ => .inl rfl⟩, ⟨⟨rfl, rfl, rfl, rfl, fun _ => rfl, fun _ _ => .inl rfl⟩, ⟨⟨rfl, rfl, rfl, rfl, fun _ => rfl, fun _ _ => .inl rfl⟩, ⟨⟨rfl, rfl, rfl, rfl, fun _ => rfl, fun _ _ => .inl rfl⟩, trivial⟩⟩⟩⟩, trivial⟩⟩, ?_⟩
        rintro s0 m0 ⟨i, a, F3, hi1, hi2, hal, hp, hs, rfl, hmeas⟩
        by_cases hil : i < n
        · conv => whnf
          conv => whnf
          conv => whnf
          conv => whnf
          refine ifB_dec (fun w2 => ?_) (fun w2 => ?_)
          · conv => whnf
            conv => whnf
            conv => whnf
            conv => whnf
            refine ⟨[], [0, 1, 2, 6, 7], fun st mq => ∃ (j : Nat) (z : Int) (b : List Int) (F3 : Nat → List AV), (z = (j : Int)) ∧ (j ≤ i) ∧ (b.length = n) ∧ (b.Perm O) ∧ (Sink b j (i + 1)) ∧ st = ⟨[(0, .oslice 2 0 0 n none), (1, i64 0), (2, i64 n), (6, i64 i), (7, i64 z)], ⟨[⟨6, 1, fun _ => [i64 x.a.1, vb x.a.2, i64 x.b.1, vb x.b.2, i64 x.c.1, vb x.c.2], 0, true, true, true⟩, ⟨4, 1, fun _ => [i64 0, vb false, vb false, vb false], 0, false, true, true⟩, ⟨1, n, fun i => [i64 (b.getD i 0)], 0, false, true, false⟩, ⟨1, 3, F3, 0, false, true, false⟩], [], none, 0⟩, [(146, i64 t), (147, .optr 0 0 0 0), (149, .optr 1 0 0 0), (153, .oslice 2 0 0 n none)]⟩ ∧ mq = j,
              ⟨_, _, ⟨i, (i : Int), a, _, rfl, by omega, hal, hp, sink_start hs, rfl, rfl⟩, ⟨⟨.inl rfl, rfl, rfl, rfl⟩, ⟨⟨rfl, rfl, rfl, rfl, fun _ => rfl, fun _ _ => .inl rfl⟩, ⟨⟨rfl, rfl, rfl, rfl, fun _ => rfl, fun _ _ => .inl rfl⟩, ⟨⟨rfl, rfl, rfl, rfl, fun _ => rfl, fun _ _ => .inl rfl⟩, ⟨⟨rfl, rfl, rfl, rfl, fun _ => rfl, fun _ _ => .inl rfl⟩, trivial⟩⟩⟩⟩, trivial⟩⟩, ?_⟩
            rintro s0 m0 ⟨j, z, b, F3, hz, hj, hbl, hpb, hsb, rfl, hmeas⟩
            subst hz
            by_cases hj0 : j = 0
            · subst hj0
              conv => whnf
              conv => whnf
              conv => whnf
              conv => whnf
              conv => whnf
              refine ⟨[], by kernel_rfl, ?_⟩
              conv => whnf
              conv => whnf
              conv => whnf
              conv => whnf
              conv => whnf
              refine ⟨inK64 (by omega) (by omega), ?_⟩
              conv => whnf
              conv => whnf
              conv => whnf
              conv => whnf
              conv => whnf
              refine ⟨_, _, ⟨⟨i + 1, b, _, by omega, by omega, hbl, hpb, sink_end hsb (.inl rfl), rfl, rfl⟩, by omega⟩, ⟨⟨.inl rfl, rfl, rfl, rfl⟩, ⟨⟨rfl, rfl, rfl, rfl, fun _ => rfl, fun _ _ => .inl rfl⟩, ⟨⟨rfl, rfl, rfl, rfl, fun _ => rfl, fun _ _ => .inl rfl⟩, ⟨⟨rfl, rfl, rfl, rfl, fun _ => rfl, fun _ _ => .inl rfl⟩, ⟨⟨rfl, rfl, rfl, rfl, fun _ => rfl, fun _ _ => .inl rfl⟩, trivial⟩⟩⟩⟩, trivial⟩⟩
            · obtain ⟨j, rfl⟩ : ∃ k, j = k + 1 := ⟨j - 1, by omega⟩
              have e1 : (((j + 1 : Nat) : Int) - 1).toNat = j := by omega
              have hsw : ∀ x, [i64 ((swapL b (j + 1)).getD x 0)] = [i64 (((b.set ((j + 1 : Nat) : Int).toNat (b.getD (0 + (((j + 1 : Nat) : Int) - 1).toNat) 0)).set (((j + 1 : Nat) : Int) - 1).toNat (b.getD (0 + ((j + 1 : Nat) : Int).toNat) 0)).getD x 0)] := fun x => by
                rw [e1, Nat.zero_add, Nat.zero_add]; rfl
              conv => whnf
              conv => whnf
              conv => whnf
              conv => whnf
              conv => whnf
              refine ⟨[], by kernel_rfl, ?_⟩
              conv => whnf
              conv => whnf
              conv => whnf
              conv => whnf
              conv => whnf
              refine ifB_dec (fun w3 => ?_) (fun w3 => ?_)
              · conv => whnf
                conv => whnf
                conv => whnf
                conv => whnf
                conv => whnf
                refine ⟨⟨(by omega), (by omega)⟩, ?_⟩
                conv => whnf
                conv => whnf
                conv => whnf
                conv => whnf
                conv => whnf
                refine ⟨inK64 (by omega) (by omega), ?_⟩
                conv => whnf
                conv => whnf
                conv => whnf
                conv => whnf
                conv => whnf
                refine ⟨⟨(by omega), (by omega)⟩, ?_⟩
                conv => whnf
                conv => whnf
                conv => whnf
                conv => whnf
                conv => whnf
                refine .inl ⟨_, _, byX rfl (Sound1.pl (h181 _ _) rfl), ?_⟩
                conv => whnf
                conv => whnf
                conv => whnf
                conv => whnf
                conv => whnf
                refine ifB_dec (fun w4 => ?_) (fun w4 => ?_)
                · conv => whnf
                  conv => whnf
                  conv => whnf
                  conv => whnf
                  conv => whnf
                  refine ⟨[], by kernel_rfl, ?_⟩
                  conv => whnf
                  conv => whnf
                  conv => whnf
                  conv => whnf
                  conv => whnf
                  refine ⟨inK64 (by omega) (by omega), ?_⟩
                  conv => whnf
                  conv => whnf
                  conv => whnf
                  conv => whnf
                  conv => whnf
                  refine ⟨inK64 (by omega) (by omega), ?_⟩
                  conv => whnf
                  conv => whnf
                  conv => whnf
                  conv => whnf
                  conv => whnf
                  refine ⟨⟨(by omega), (by omega)⟩, ?_⟩
                  conv => whnf
                  conv => whnf
                  conv => whnf
                  conv => whnf
                  conv => whnf
                  refine ⟨⟨(by omega), (by omega)⟩, ?_⟩
                  conv => whnf
                  conv => whnf
                  conv => whnf
                  conv => whnf
                  conv => whnf
                  refine ⟨⟨(by omega), (by omega)⟩, ?_⟩
                  refine ⟨_, fun i _ => rowI _ _ i _ (by first | omega | (simp only [List.length_set]; omega) | (simp only [List.length_replicate]; omega) | (simp only [List.length_set, List.length_replicate]; omega)), ?_⟩
                  conv => whnf
                  conv => whnf
                  conv => whnf
                  conv => whnf
                  conv => whnf
                  refine ⟨⟨(by omega), (by omega)⟩, ?_⟩
                  refine ⟨_, fun i _ => rowI _ _ i _ (by first | omega | (simp only [List.length_set]; omega) | (simp only [List.length_replicate]; omega) | (simp only [List.length_set, List.length_replicate]; omega)), ?_⟩
                  conv => whnf
                  conv => whnf
                  conv => whnf
                  conv => whnf
                  conv => whnf
                  refine ⟨inK64 (by omega) (by omega), ?_⟩
                  have hlt : b.getD (j + 1) 0 < b.getD (j + 1 - 1) 0 := by
                    have e : b.getD (0 + ((j + 1 : Nat) : Int).toNat) 0 < b.getD (0 + (((j + 1 : Nat) : Int) - 1).toNat) 0 := by assumption
                    rw [e1, Nat.zero_add, Nat.zero_add] at e
                    exact e
                  conv => whnf
                  conv => whnf
                  conv => whnf
                  conv => whnf
                  conv => whnf
                  refine ⟨_, _, ⟨⟨j, ((j + 1 : Nat) : Int) - 1, swapL b (j + 1), _, by omega, by omega, by simpa [swapL] using hbl, (swapL_perm (by omega)).trans hpb, sink_swap (by omega) (by omega) hsb hlt, rfl, rfl⟩, by omega⟩, ⟨⟨.inl rfl, rfl, rfl, rfl⟩, ⟨⟨rfl, rfl, rfl, rfl, fun _ => rfl, fun _ _ => .inl rfl⟩, ⟨⟨rfl, rfl, rfl, rfl, fun _ => rfl, fun _ _ => .inl rfl⟩, ⟨⟨rfl, rfl, rfl, rfl, fun _ => rfl, fun x _ => .inl (hsw x)⟩, ⟨⟨rfl, rfl, rfl, rfl, fun _ => rfl, fun _ _ => .inl rfl⟩, trivial⟩⟩⟩⟩, trivial⟩⟩
                · conv => whnf
                  conv => whnf
                  conv => whnf
                  conv => whnf
                  conv => whnf
                  refine ⟨inK64 (by omega) (by omega), ?_⟩
                  have hlt : b.getD (j + 1 - 1) 0 ≤ b.getD (j + 1) 0 := by
                    have e : ¬ b.getD (0 + ((j + 1 : Nat) : Int).toNat) 0 < b.getD (0 + (((j + 1 : Nat) : Int) - 1).toNat) 0 := by assumption
                    rw [e1, Nat.zero_add, Nat.zero_add] at e
                    exact Int.not_lt.1 e
                  conv => whnf
                  conv => whnf
                  conv => whnf
                  conv => whnf
                  conv => whnf
                  refine ⟨_, _, ⟨⟨i + 1, b, _, by omega, by omega, hbl, hpb, sink_end hsb (.inr hlt), rfl, rfl⟩, by omega⟩, ⟨⟨.inl rfl, rfl, rfl, rfl⟩, ⟨⟨rfl, rfl, rfl, rfl, fun _ => rfl, fun _ _ => .inl rfl⟩, ⟨⟨rfl, rfl, rfl, rfl, fun _ => rfl, fun _ _ => .inl rfl⟩, ⟨⟨rfl, rfl, rfl, rfl, fun _ => rfl, fun _ _ => .inl rfl⟩, ⟨⟨rfl, rfl, rfl, rfl, fun _ => rfl, fun _ _ => .inl rfl⟩, trivial⟩⟩⟩⟩, trivial⟩⟩
              · (exfalso; omega)
          · (exfalso; omega)
        · have hsa : SortTo a n := fun p q h1 h2 => hs p q h1 (by omega)
          have hvi := vot_in hv
          rw [← hO] at hvi
          have hab : ∀ i, i < n → (a.getD i 0).natAbs ≤ 1000000 := fun i hi => hvi.1 _ (hp.subset (getD_memI (by omega)))
          have hb0 : (a.getD (0 + Int.toNat 0) 0).natAbs ≤ 1000000 := hab 0 (by omega)
          have hb1 : (a.getD (0 + Int.toNat 1) 0).natAbs ≤ 1000000 := hab 1 (by omega)
          by_cases h2 : n = 2
          · subst h2
            have h2s := sorted2 hp hsa hal hn
            have h2a : a.getD (0 + Int.toNat 1) 0 - a.getD (0 + Int.toNat 0) 0 = ((O.getD 0 0 - O.getD 1 0).natAbs : Nat) := h2s.1
            have hg : voteG x t = (((two (O.getD 0 0) (O.getD 1 0) t).1, false, false, false), (two (O.getD 0 0) (O.getD 1 0) t).2) := by
              unfold voteG
              rw [if_neg (not_not_intro hv), ← hO, if_pos hn]
            by_cases hd : ((O.getD 0 0 - O.getD 1 0).natAbs : Int) > t
            · have e : two (O.getD 0 0) (O.getD 1 0) t = (0, 13) := if_pos hd
              rw [hg, e]
              conv => whnf
              conv => whnf
              conv => whnf
              conv => whnf
              refine ifB_dec (fun w2 => ?_) (fun w2 => ?_)
              · (exfalso; omega)
              · conv => whnf
                conv => whnf
                conv => whnf
                conv => whnf
                refine ⟨[], by kernel_rfl, ?_⟩
                conv => whnf
                conv => whnf
                conv => whnf
                conv => whnf
                refine ⟨⟨(by omega), (by omega)⟩, ?_⟩
                conv => whnf
                conv => whnf
                conv => whnf
                conv => whnf
                refine ⟨⟨(by omega), (by omega)⟩, ?_⟩
                conv => whnf
                conv => whnf
                conv => whnf
                conv => whnf
                refine ⟨inK64 (by omega) (by omega), ?_⟩
                conv => whnf
                conv => whnf
                conv => whnf
                conv => whnf
                refine ifB_dec (fun w3 => ?_) (fun w3 => ?_)
                · conv => whnf
                  conv => whnf
                  conv => whnf
                  conv => whnf
                  refine ⟨?_, nofun⟩
                  exact ave_tup2 (ave_agg4 rfl rfl rfl rfl) rfl
                · (exfalso; omega)
            · have e : two (O.getD 0 0) (O.getD 1 0) t = ((O.getD 0 0 + O.getD 1 0).fdiv 2, 0) := if_neg hd
              rw [hg, e]
              conv => whnf
              conv => whnf
              conv => whnf
              conv => whnf
              refine ifB_dec (fun w2 => ?_) (fun w2 => ?_)
              · (exfalso; omega)
              · conv => whnf
                conv => whnf
                conv => whnf
                conv => whnf
                refine ⟨[], by kernel_rfl, ?_⟩
                conv => whnf
                conv => whnf
                conv => whnf
                conv => whnf
                refine ⟨⟨(by omega), (by omega)⟩, ?_⟩
                conv => whnf
                conv => whnf
                conv => whnf
                conv => whnf
                refine ⟨⟨(by omega), (by omega)⟩, ?_⟩
                conv => whnf
                conv => whnf
                conv => whnf
                conv => whnf
                refine ⟨inK64 (by omega) (by omega), ?_⟩
                conv => whnf
                conv => whnf
                conv => whnf
                conv => whnf
                refine ifB_dec (fun w3 => ?_) (fun w3 => ?_)
                · (exfalso; omega)
                · conv => whnf
                  conv => whnf
                  conv => whnf
                  conv => whnf
                  refine ⟨[], by kernel_rfl, ?_⟩
                  conv => whnf
                  conv => whnf
                  conv => whnf
                  conv => whnf
                  refine ⟨⟨(by omega), (by omega)⟩, ?_⟩
                  conv => whnf
                  conv => whnf
                  conv => whnf
                  conv => whnf
                  refine ⟨⟨(by omega), (by omega)⟩, ?_⟩
                  conv => whnf
                  conv => whnf
                  conv => whnf
                  conv => whnf
                  refine ⟨inK64 (by omega) (by omega), ?_⟩
                  conv => whnf
                  conv => whnf
                  conv => whnf
                  conv => whnf
                  refine ⟨(by omega), ?_⟩
                  conv => whnf
                  conv => whnf
                  conv => whnf
                  conv => whnf
                  refine ⟨?_, nofun⟩
                  refine ave_tup2 (ave_agg4 (endi ?_) rfl rfl rfl) rfl
                  show (a.getD 0 0 + a.getD 1 0).fdiv (2 ^ 1) = _
                  rw [h2s.2]
                  rfl
          · have h3 : n = 3 := by omega
            subst h3
            have hO3 := pres3 (hO ▸ hn)
            rw [hO3] at hO
            rw [hO] at hp hvi
            have hm := sorted3 hp hsa hal
            have hg : voteG x t = if b01 (oddB (midI x.a.1 x.b.1 x.c.1) t x.a.1) + b01 (oddB (midI x.a.1 x.b.1 x.c.1) t x.b.1) + b01 (oddB (midI x.a.1 x.b.1 x.c.1) t x.c.1) > 1 then (vt0, 13) else ((midI x.a.1 x.b.1 x.c.1, oddB (midI x.a.1 x.b.1 x.c.1) t x.a.1, oddB (midI x.a.1 x.b.1 x.c.1) t x.b.1, oddB (midI x.a.1 x.b.1 x.c.1) t x.c.1), 0) := by
              unfold voteG
              rw [if_neg (not_not_intro hv), hO3, if_neg (by show ¬ (3 : Nat) = 2; decide)]
            rw [hg, ← hm]
            have hb1' : (a.getD 1 0).natAbs ≤ 1000000 := hb1
            have hm1 : a.getD (0 + Int.toNat 1) 0 = a.getD 1 0 := rfl
            conv => whnf
            conv => whnf
            conv => whnf
            conv => whnf
            refine ifB_dec (fun w2 => ?_) (fun w2 => ?_)
            · (exfalso; omega)
            · conv => whnf
              conv => whnf
              conv => whnf
              conv => whnf
              refine ⟨⟨(by omega), (by omega)⟩, ?_⟩
              conv => whnf
              conv => whnf
              conv => whnf
              conv => whnf
              refine ⟨[], [1, 2, 4, 11, 12, 75, 76], fun st mq => ∃ (k : Nat) (b0 : Bool) (b1 : Bool) (b2 : Bool) (q : Int) (F2 : Nat → List AV) (F3 : Nat → List AV), (k ≤ 3) ∧ (b0 = (decide (0 < k) && oddB (a.getD 1 0) t x.a.1)) ∧ (b1 = (decide (1 < k) && oddB (a.getD 1 0) t x.b.1)) ∧ (b2 = (decide (2 < k) && oddB (a.getD 1 0) t x.c.1)) ∧ (q = b01 b0 + b01 b1 + b01 b2) ∧ st = ⟨[(1, i64 t), (2, .optr 0 0 0 0), (4, .optr 1 0 0 0), (11, .optr 4 0 0 0), (12, i64 q), (75, xA x), (76, i64 k)], ⟨[⟨6, 1, fun _ => [i64 x.a.1, vb x.a.2, i64 x.b.1, vb x.b.2, i64 x.c.1, vb x.c.2], 0, true, true, true⟩, ⟨4, 1, fun _ => [i64 0, vb false, vb false, vb false], 0, false, true, true⟩, ⟨1, 3, F2, 0, false, true, false⟩, ⟨1, 3, F3, 0, false, true, false⟩, ⟨4, 1, fun _ => [i64 (a.getD 1 0), vb b0, vb b1, vb b2], 0, false, true, true⟩], [], none, 0⟩, []⟩ ∧ mq = 3 - k,
                ⟨_, _, ⟨0, false, false, false, 0, _, _, by omega, rfl, rfl, rfl, rfl, rfl, rfl⟩, ⟨⟨.inl rfl, rfl, rfl, rfl⟩, ⟨⟨rfl, rfl, rfl, rfl, fun _ => rfl, fun _ _ => .inl rfl⟩, ⟨⟨rfl, rfl, rfl, rfl, fun _ => rfl, fun _ _ => .inl rfl⟩, ⟨⟨rfl, rfl, rfl, rfl, fun _ => rfl, fun _ _ => .inl rfl⟩, ⟨⟨rfl, rfl, rfl, rfl, fun _ => rfl, fun _ _ => .inl rfl⟩, ⟨⟨rfl, rfl, rfl, rfl, fun _ => rfl, fun _ _ => .inl rfl⟩, trivial⟩⟩⟩⟩⟩, trivial⟩⟩, ?_⟩
              rintro s0 m0 ⟨k, b0, b1, b2, q, F2, F3, hk, hq0, hq1, hq2, hq, rfl, hmeas⟩
              have hc3 : k = 0 ∨ k = 1 ∨ k = 2 ∨ k = 3 := by omega
              have hqb : 0 ≤ q ∧ q ≤ 3 := by
                rw [hq]
                unfold b01
                (repeat' split) <;> omega
              rcases hc3 with rfl | rfl | rfl | rfl
              · have ho : oddB (a.getD 1 0) t x.a.1 = decide (siz (x.a.1 - a.getD 1 0) > t) := by rw [siz_abs]; rfl
                have hxb : x.a.1.natAbs ≤ 1000000 := hvi.1 _ (by simp)
                have h115 := S115 (x.a.1 - a.getD 1 0) (by omega)
                have hz : b01 b0 = 0 := by rw [show b0 = false from hq0]; rfl
                have ht1 : b01 true = 1 := rfl
                conv => whnf
                conv => whnf
                conv => whnf
                conv => whnf
                conv => whnf
                refine ⟨⟨(by omega), (by omega)⟩, ?_⟩
                conv => whnf
                conv => whnf
                conv => whnf
                conv => whnf
                conv => whnf
                refine ⟨inK64 (by omega) (by omega), ?_⟩
                conv => whnf
                conv => whnf
                conv => whnf
                conv => whnf
                conv => whnf
                refine .inl ⟨_, _, byX rfl (Sound1.pl (h115) rfl), ?_⟩
                conv => whnf
                conv => whnf
                conv => whnf
                conv => whnf
                conv => whnf
                refine ifB_dec (fun w3 => ?_) (fun w3 => ?_)
                · conv => whnf
                  conv => whnf
                  conv => whnf
                  conv => whnf
                  conv => whnf
                  refine ⟨⟨(by omega), (by omega)⟩, ?_⟩
                  conv => whnf
                  conv => whnf
                  conv => whnf
                  conv => whnf
                  conv => whnf
                  refine ⟨inK64 (by omega) (by omega), ?_⟩
                  conv => whnf
                  conv => whnf
                  conv => whnf
                  conv => whnf
                  conv => whnf
                  refine ⟨inK64 (by omega) (by omega), ?_⟩
                  conv => whnf
                  conv => whnf
                  conv => whnf
                  conv => whnf
                  conv => whnf
                  refine ⟨_, _, ⟨⟨1, true, b1, b2, q + 1, _, _, by omega, (by rw [ho, decide_eq_true w3]; rfl), hq1, hq2, (by omega), rfl, rfl⟩, by omega⟩, ⟨⟨.inl rfl, rfl, rfl, rfl⟩, ⟨⟨rfl, rfl, rfl, rfl, fun _ => rfl, fun _ _ => .inl rfl⟩, ⟨⟨rfl, rfl, rfl, rfl, fun _ => rfl, fun _ _ => .inl rfl⟩, ⟨⟨rfl, rfl, rfl, rfl, fun _ => rfl, fun _ _ => .inl rfl⟩, ⟨⟨rfl, rfl, rfl, rfl, fun _ => rfl, fun _ _ => .inl rfl⟩, ⟨⟨rfl, rfl, rfl, rfl, fun _ => rfl, fun _ _ => .inl rfl⟩, trivial⟩⟩⟩⟩⟩, trivial⟩⟩
                · conv => whnf
                  conv => whnf
                  conv => whnf
                  conv => whnf
                  conv => whnf
                  refine ⟨inK64 (by omega) (by omega), ?_⟩
                  conv => whnf
                  conv => whnf
                  conv => whnf
                  conv => whnf
                  conv => whnf
                  refine ⟨_, _, ⟨⟨1, b0, b1, b2, q, _, _, by omega, (by rw [show b0 = false from hq0, ho, decide_eq_false w3]; rfl), hq1, hq2, hq, rfl, rfl⟩, by omega⟩, ⟨⟨.inl rfl, rfl, rfl, rfl⟩, ⟨⟨rfl, rfl, rfl, rfl, fun _ => rfl, fun _ _ => .inl rfl⟩, ⟨⟨rfl, rfl, rfl, rfl, fun _ => rfl, fun _ _ => .inl rfl⟩, ⟨⟨rfl, rfl, rfl, rfl, fun _ => rfl, fun _ _ => .inl rfl⟩, ⟨⟨rfl, rfl, rfl, rfl, fun _ => rfl, fun _ _ => .inl rfl⟩, ⟨⟨rfl, rfl, rfl, rfl, fun _ => rfl, fun _ _ => .inl rfl⟩, trivial⟩⟩⟩⟩⟩, trivial⟩⟩
              · have ho : oddB (a.getD 1 0) t x.b.1 = decide (siz (x.b.1 - a.getD 1 0) > t) := by rw [siz_abs]; rfl
                have hxb : x.b.1.natAbs ≤ 1000000 := hvi.1 _ (by simp)
                have h115 := S115 (x.b.1 - a.getD 1 0) (by omega)
                have hz : b01 b1 = 0 := by rw [show b1 = false from hq1]; rfl
                have ht1 : b01 true = 1 := rfl
                conv => whnf
                conv => whnf
                conv => whnf
                conv => whnf
                conv => whnf
                refine ⟨⟨(by omega), (by omega)⟩, ?_⟩
                conv => whnf
                conv => whnf
                conv => whnf
                conv => whnf
                conv => whnf
                refine ⟨inK64 (by omega) (by omega), ?_⟩
                conv => whnf
                conv => whnf
                conv => whnf
                conv => whnf
                conv => whnf
                refine .inl ⟨_, _, byX rfl (Sound1.pl (h115) rfl), ?_⟩
                conv => whnf
                conv => whnf
                conv => whnf
                conv => whnf
                conv => whnf
                refine ifB_dec (fun w3 => ?_) (fun w3 => ?_)
                · conv => whnf
                  conv => whnf
                  conv => whnf
                  conv => whnf
                  conv => whnf
                  refine ⟨⟨(by omega), (by omega)⟩, ?_⟩
                  conv => whnf
                  conv => whnf
                  conv => whnf
                  conv => whnf
                  conv => whnf
                  refine ⟨inK64 (by omega) (by omega), ?_⟩
                  conv => whnf
                  conv => whnf
                  conv => whnf
                  conv => whnf
                  conv => whnf
                  refine ⟨inK64 (by omega) (by omega), ?_⟩
                  conv => whnf
                  conv => whnf
                  conv => whnf
                  conv => whnf
                  conv => whnf
                  refine ⟨_, _, ⟨⟨2, b0, true, b2, q + 1, _, _, by omega, hq0, (by rw [ho, decide_eq_true w3]; rfl), hq2, (by omega), rfl, rfl⟩, by omega⟩, ⟨⟨.inl rfl, rfl, rfl, rfl⟩, ⟨⟨rfl, rfl, rfl, rfl, fun _ => rfl, fun _ _ => .inl rfl⟩, ⟨⟨rfl, rfl, rfl, rfl, fun _ => rfl, fun _ _ => .inl rfl⟩, ⟨⟨rfl, rfl, rfl, rfl, fun _ => rfl, fun _ _ => .inl rfl⟩, ⟨⟨rfl, rfl, rfl, rfl, fun _ => rfl, fun _ _ => .inl rfl⟩, ⟨⟨rfl, rfl, rfl, rfl, fun _ => rfl, fun _ _ => .inl rfl⟩, trivial⟩⟩⟩⟩⟩, trivial⟩⟩
                · conv => whnf
                  conv => whnf
                  conv => whnf
                  conv => whnf
                  conv => whnf
                  refine ⟨inK64 (by omega) (by omega), ?_⟩
                  conv => whnf
                  conv => whnf
                  conv => whnf
                  conv => whnf
                  conv => whnf
                  refine ⟨_, _, ⟨⟨2, b0, b1, b2, q, _, _, by omega, hq0, (by rw [show b1 = false from hq1, ho, decide_eq_false w3]; rfl), hq2, hq, rfl, rfl⟩, by omega⟩, ⟨⟨.inl rfl, rfl, rfl, rfl⟩, ⟨⟨rfl, rfl, rfl, rfl, fun _ => rfl, fun _ _ => .inl rfl⟩, ⟨⟨rfl, rfl, rfl, rfl, fun _ => rfl, fun _ _ => .inl rfl⟩, ⟨⟨rfl, rfl, rfl, rfl, fun _ => rfl, fun _ _ => .inl rfl⟩, ⟨⟨rfl, rfl, rfl, rfl, fun _ => rfl, fun _ _ => .inl rfl⟩, ⟨⟨rfl, rfl, rfl, rfl, fun _ => rfl, fun _ _ => .inl rfl⟩, trivial⟩⟩⟩⟩⟩, trivial⟩⟩
              · have ho : oddB (a.getD 1 0) t x.c.1 = decide (siz (x.c.1 - a.getD 1 0) > t) := by rw [siz_abs]; rfl
                have hxb : x.c.1.natAbs ≤ 1000000 := hvi.1 _ (by simp)
                have h115 := S115 (x.c.1 - a.getD 1 0) (by omega)
                have hz : b01 b2 = 0 := by rw [show b2 = false from hq2]; rfl
                have ht1 : b01 true = 1 := rfl
                conv => whnf
                conv => whnf
                conv => whnf
                conv => whnf
                conv => whnf
                refine ⟨⟨(by omega), (by omega)⟩, ?_⟩
                conv => whnf
                conv => whnf
                conv => whnf
                conv => whnf
                conv => whnf
                refine ⟨inK64 (by omega) (by omega), ?_⟩
                conv => whnf
                conv => whnf
                conv => whnf
                conv => whnf
                conv => whnf
                refine .inl ⟨_, _, byX rfl (Sound1.pl (h115) rfl), ?_⟩
                conv => whnf
                conv => whnf
                conv => whnf
                conv => whnf
                conv => whnf
                refine ifB_dec (fun w3 => ?_) (fun w3 => ?_)
                · conv => whnf
                  conv => whnf
                  conv => whnf
                  conv => whnf
                  conv => whnf
                  refine ⟨⟨(by omega), (by omega)⟩, ?_⟩
                  conv => whnf
                  conv => whnf
                  conv => whnf
                  conv => whnf
                  conv => whnf
                  refine ⟨inK64 (by omega) (by omega), ?_⟩
                  conv => whnf
                  conv => whnf
                  conv => whnf
                  conv => whnf
                  conv => whnf
                  refine ⟨inK64 (by omega) (by omega), ?_⟩
                  conv => whnf
                  conv => whnf
                  conv => whnf
                  conv => whnf
                  conv => whnf
                  refine ⟨_, _, ⟨⟨3, b0, b1, true, q + 1, _, _, by omega, hq0, hq1, (by rw [ho, decide_eq_true w3]; rfl), (by omega), rfl, rfl⟩, by omega⟩, ⟨⟨.inl rfl, rfl, rfl, rfl⟩, ⟨⟨rfl, rfl, rfl, rfl, fun _ => rfl, fun _ _ => .inl rfl⟩, ⟨⟨rfl, rfl, rfl, rfl, fun _ => rfl, fun _ _ => .inl rfl⟩, ⟨⟨rfl, rfl, rfl, rfl, fun _ => rfl, fun _ _ => .inl rfl⟩, ⟨⟨rfl, rfl, rfl, rfl, fun _ => rfl, fun _ _ => .inl rfl⟩, ⟨⟨rfl, rfl, rfl, rfl, fun _ => rfl, fun _ _ => .inl rfl⟩, trivial⟩⟩⟩⟩⟩, trivial⟩⟩
                · conv => whnf
                  conv => whnf
                  conv => whnf
                  conv => whnf
                  conv => whnf
                  refine ⟨inK64 (by omega) (by omega), ?_⟩
                  conv => whnf
                  conv => whnf
                  conv => whnf
                  conv => whnf
                  conv => whnf
                  refine ⟨_, _, ⟨⟨3, b0, b1, b2, q, _, _, by omega, hq0, hq1, (by rw [show b2 = false from hq2, ho, decide_eq_false w3]; rfl), hq, rfl, rfl⟩, by omega⟩, ⟨⟨.inl rfl, rfl, rfl, rfl⟩, ⟨⟨rfl, rfl, rfl, rfl, fun _ => rfl, fun _ _ => .inl rfl⟩, ⟨⟨rfl, rfl, rfl, rfl, fun _ => rfl, fun _ _ => .inl rfl⟩, ⟨⟨rfl, rfl, rfl, rfl, fun _ => rfl, fun _ _ => .inl rfl⟩, ⟨⟨rfl, rfl, rfl, rfl, fun _ => rfl, fun _ _ => .inl rfl⟩, ⟨⟨rfl, rfl, rfl, rfl, fun _ => rfl, fun _ _ => .inl rfl⟩, trivial⟩⟩⟩⟩⟩, trivial⟩⟩
              · have e0 : b0 = oddB (a.getD 1 0) t x.a.1 := hq0
                have e1 : b1 = oddB (a.getD 1 0) t x.b.1 := hq1
                have e2 : b2 = oddB (a.getD 1 0) t x.c.1 := hq2
                rw [← e0, ← e1, ← e2, ← hq]
                conv => whnf
                conv => whnf
                conv => whnf
                conv => whnf
                conv => whnf
                refine ifB_dec (fun w3 => ?_) (fun w3 => ?_)
                · conv => whnf
                  conv => whnf
                  conv => whnf
                  conv => whnf
                  conv => whnf
                  refine ⟨?_, nofun⟩
                  rw [if_pos w3]
                  exact ave_tup2 (ave_agg4 rfl rfl rfl rfl) rfl
                · conv => whnf
                  conv => whnf
                  conv => whnf
                  conv => whnf
                  conv => whnf
                  refine ⟨?_, nofun⟩
                  rw [if_neg w3]
                  exact ave_tup2 (ave_agg4 rfl rfl rfl rfl) rfl
      · (exfalso; omega)
    · have hg : voteG x t = (vt0, votE x t) := if_pos hv
      rw [hg]
      conv => whnf
      conv => whnf
      refine .inl ⟨_, _, byX rfl (Sound1.pl (h118) rfl), ?_⟩
      conv => whnf
      conv => whnf
      refine .inl ⟨_, _, byX rfl (Sound1.pl (h93t) rfl), ?_⟩
      conv => whnf
      conv => whnf
      refine .inl ⟨_, _, byX rfl (Sound1.pl (h93n) rfl), ?_⟩
      conv => whnf
      conv => whnf
      refine .inl ⟨_, _, byX rfl (Sound1.pl (h90' _ ⟨rfl, rfl, rfl⟩) rfl), ?_⟩
      conv => whnf
      conv => whnf
      refine ifB_bne (fun w1 => ?_) (fun w1 => ?_)
      · conv => whnf
        conv => whnf
        refine ⟨?_, nofun⟩
        exact ave_tup2 (ave_agg4 rfl rfl rfl rfl) rfl
      · (exfalso; omega)
end Go.Tr

/- Plain laws: votes with one channel that is wrong; gates that follow greater deviations. Conditions: none. -/
namespace Go.Tr
open Go Go.Proofs
set_option maxRecDepth 20000
set_option maxHeartbeats 8000000

/-- Three channels with numbers. -/
def r3 (u v w : Int) : R3 := ⟨(u, false), (v, false), (w, false)⟩
theorem vot0 {u v w t : Int} (hu : u.natAbs ≤ 1000000) (hv : v.natAbs ≤ 1000000) (hw : w.natAbs ≤ 1000000) (ht : 0 ≤ t ∧ t ≤ 1000000) : votE (r3 u v w) t = 0 := by
  have e1 : rdE (u, false) = 0 := by unfold rdE; rw [if_neg (by simp), if_pos (by dsimp only; omega)]
  have e2 : rdE (v, false) = 0 := by unfold rdE; rw [if_neg (by simp), if_pos (by dsimp only; omega)]
  have e3 : rdE (w, false) = 0 := by unfold rdE; rw [if_neg (by simp), if_pos (by dsimp only; omega)]
  have hr : rdsE (r3 u v w) = 0 := by
    unfold rdsE r3 R3.l
    dsimp only
    rw [eachD, if_pos e1, eachD, if_pos e2, eachD, if_pos e3]
    rfl
  have hp : presL (r3 u v w).l = [u, v, w] := rfl
  unfold votE tolE
  rw [first3, hr, if_pos ht, hp]
  rfl
theorem b01_le (b : Bool) : b01 b ≤ 1 := by cases b <;> decide
theorem mid_in (u v w : Int) : (min u v ≤ midI w u v ∧ midI w u v ≤ max u v) ∧ (min u v ≤ midI v w u ∧ midI v w u ≤ max u v) ∧ (min u v ≤ midI u v w ∧ midI u v w ≤ max u v) := by
  unfold midI
  omega
end Go.Tr

/- Plain laws: shares as fractions; the vote of three channels in any order. Conditions: none. -/
namespace Go.Tr
open Go Go.Proofs
set_option maxRecDepth 20000
set_option maxHeartbeats 8000000

theorem frac_parts {a b : Int} (hb : 0 < b) : ∃ g, 0 < g ∧ gcdI a b = g ∧ a = g * (fracG a b).1 ∧ b = g * (fracG a b).2 := by
  obtain ⟨hg, _, ⟨k1, e1⟩, ⟨k2, e2⟩⟩ := gcdI_pos (a := a) hb
  refine ⟨gcdI a b, hg, rfl, ?_, ?_⟩
  · show a = gcdI a b * a.tdiv (gcdI a b)
    conv => rhs; rhs; lhs; rw [e1]
    rw [Int.mul_tdiv_cancel_left _ (by omega)]
    exact e1
  · show b = gcdI a b * b.tdiv (gcdI a b)
    conv => rhs; rhs; lhs; rw [e2]
    rw [Int.mul_tdiv_cancel_left _ (by omega)]
    exact e2
theorem frac_rat {a b : Int} (hb : 0 < b) : Rat.divInt (fracG a b).1 (fracG a b).2 = Rat.divInt a b := by
  obtain ⟨g, hg, _, h1, h2⟩ := frac_parts (a := a) hb
  have h3 := Rat.divInt_mul_left (n := (fracG a b).1) (d := (fracG a b).2) (show g ≠ 0 by omega)
  rw [← h1, ← h2] at h3
  exact h3.symm
theorem frac_low {a b : Int} (hb : 0 < b) : gcdI (fracG a b).1 (fracG a b).2 = 1 := by
  obtain ⟨g, hg, he, h1, h2⟩ := frac_parts (a := a) hb
  have h3 := gcdI_scale hg (fracG a b).1 (fracG a b).2
  rw [← h1, ← h2, he] at h3
  have h4 : g * 1 = g * gcdI (fracG a b).1 (fracG a b).2 := by rw [Int.mul_one]; exact h3
  exact (Int.eq_of_mul_eq_mul_left (by omega) h4).symm
/-- What a machine's share is, as a fraction. -/
theorem share_at {l : List Int} {load : Int} {i : Nat} (hi : i < l.length) : (shaF l load).getD i (0, 0) = fracG (load * (comL l).tdiv (l.getD i 0)) (sumD (comL l) l) := by
  unfold shaF shareL
  rw [List.getD_eq_getElem?_getD, List.getElem?_map, List.getElem?_eq_getElem hi, List.getD_eq_getElem?_getD, List.getElem?_eq_getElem hi]
  rfl
theorem sum_pos' {l : List Int} {load : Int} (h : ShOk l load) : 0 < sumD (comL l) l :=
  have hc := com_ok h.dr
  sum_pos hc.pos h.dr hc.dv h.n.1
def qS (l : List Int) (load : Int) (i : Nat) : Rat := Rat.divInt (load * sumD (comL l) (l.take i)) (sumD (comL l) l)
def qI (l : List Int) (load : Int) (i : Nat) : Rat := Rat.divInt (load * (comL l).tdiv (l.getD i 0)) (sumD (comL l) l)
theorem qS_zero (l : List Int) (load : Int) : qS l load 0 = 0 := by
  unfold qS
  rw [List.take_zero, show sumD (comL l) [] = 0 from rfl, Int.mul_zero, Rat.zero_divInt]
theorem divInt_add_same (a b : Int) {d : Int} (hd : d ≠ 0) : Rat.divInt a d + Rat.divInt b d = Rat.divInt (a + b) d := by
  rw [Rat.divInt_add_divInt _ _ hd hd, ← Int.add_mul, Rat.divInt_mul_right hd]
theorem qS_succ {l : List Int} {load : Int} (h : ShOk l load) {i : Nat} (hi : i < l.length) : qS l load (i + 1) = qS l load i + qI l load i := by
  have hs := sum_pos' h
  unfold qS qI
  rw [divInt_add_same _ _ (by omega), take_snocI hi, sumD_snoc, Int.mul_add]
theorem divInt_int (a : Int) {d : Int} (hd : d ≠ 0) : Rat.divInt (a * d) d = (a : Rat) := by
  have h := Rat.divInt_mul_right (n := a) (d := 1) hd
  rw [Int.one_mul] at h
  rw [h]
  show Rat.divInt a ((1 : Nat) : Int) = _
  rw [Rat.divInt_ofNat]
  exact Rat.mkRat_self (a : Rat)
theorem qS_all {l : List Int} {load : Int} (h : ShOk l load) : qS l load l.length = (load : Rat) := by
  have hs := sum_pos' h
  unfold qS
  rw [List.take_length, divInt_int _ (by omega)]
theorem qI_mul {l : List Int} {load : Int} (h : ShOk l load) {i : Nat} (hi : i < l.length) : qI l load i * (l.getD i 0 : Rat) = Rat.divInt (load * comL l) (sumD (comL l) l) := by
  have hs := sum_pos' h
  have hc := com_ok h.dr
  have hm := getD_memI hi
  have hx := h.dr _ hm
  obtain ⟨k, hk⟩ := hc.dv _ hm
  have e : (comL l).tdiv (l.getD i 0) * l.getD i 0 = comL l := by
    conv => lhs; lhs; lhs; rw [hk]
    rw [Int.mul_tdiv_cancel_left _ (by omega), Int.mul_comm]
    exact hk.symm
  unfold qI
  rw [show ((l.getD i 0 : Int) : Rat) = Rat.divInt (l.getD i 0) 1 from (by have := divInt_int (l.getD i 0) (d := 1) (by decide); rw [Int.mul_one] at this; exact this.symm), Rat.divInt_mul_divInt, Int.mul_one, Int.mul_assoc, e]
theorem qI_share {l : List Int} {load : Int} (h : ShOk l load) {i : Nat} (hi : i < l.length) : Rat.divInt ((shaF l load).getD i (0, 0)).1 ((shaF l load).getD i (0, 0)).2 = qI l load i := by
  rw [share_at hi, frac_rat (sum_pos' h)]
  rfl
theorem share_low {l : List Int} {load : Int} (h : ShOk l load) {i : Nat} (hi : i < l.length) : gcdI ((shaF l load).getD i (0, 0)).1 ((shaF l load).getD i (0, 0)).2 = 1 := by
  rw [share_at hi, frac_low (sum_pos' h)]
theorem share_sm {l : List Int} {load : Int} (ha : (shaF l load).all smB = true) {i : Nat} (hi : i < l.length) : smB ((shaF l load).getD i (0, 0)) = true := by
  have hn : (shaF l load).length = l.length := by unfold shaF shareL; rw [List.length_map]
  have hi' : i < (shaF l load).length := by omega
  rw [List.getD_eq_getElem?_getD, List.getElem?_eq_getElem hi']
  exact List.all_eq_true.1 ha _ (List.getElem_mem hi')
theorem share_den {l : List Int} {load : Int} (h : ShOk l load) {i : Nat} (hi : i < l.length) : 1 ≤ ((shaF l load).getD i (0, 0)).2 := by
  rw [share_at hi]; exact frac_den (sum_pos' h)
/-- Sizes. -/
theorem sums_b {l : List Int} {load : Int} (h : ShOk l load) {i : Nat} (hi : i ≤ l.length) : 0 ≤ sumD (comL l) (l.take i) ∧ sumD (comL l) (l.take i) ≤ 384000000 := by
  have hc := com_ok h.dr
  have h1 := sum_b hc.pos h.dr i hi
  have h2 := h.n
  have h3 := pw20 (i := l.length) (by omega)
  have h4 := hc.le
  have h5 := mul6 (i := i) (c := comL l) (by omega) ⟨hc.pos, by omega⟩
  omega
theorem nprod_le {a b A B : Int} (ha : a.natAbs ≤ A.natAbs) (hb : b.natAbs ≤ B.natAbs) : (a * b).natAbs ≤ A.natAbs * B.natAbs := by
  rw [Int.natAbs_mul]; exact Nat.mul_le_mul ha hb
theorem qS_rk {l : List Int} {load : Int} (h : ShOk l load) {i : Nat} (hi : i ≤ l.length) : Rk 2 (qS l load i) := by
  have hs := sum_pos' h
  have h1 := sums_b h hi
  have h2 := sums_b h (Nat.le_refl l.length)
  rw [List.take_length] at h2
  have h3 := h.ld
  have h4 := nprod_le (a := load) (b := sumD (comL l) (l.take i)) (A := 100000) (B := 384000000) (by omega) (by omega)
  exact Rk.divI (by omega) (Zk.small (Nat.lt_of_le_of_lt h4 (by decide))) (Zk.small (Nat.lt_of_le_of_lt (show _ ≤ 384000000 by omega) (by decide)))
theorem qI_rk {l : List Int} {load : Int} (h : ShOk l load) {i : Nat} (hi : i < l.length) : Rk 2 (qI l load i) := by
  have hs := sum_pos' h
  have h2 := sums_b h (Nat.le_refl l.length)
  rw [List.take_length] at h2
  have h3 := h.ld
  have hc := com_ok h.dr
  have hx := h.dr _ (getD_memI hi)
  have h6 := pw20 (i := l.length) (by have := h.n; omega)
  have h7 := hc.le
  have h5 := share_b (c := comL l) (load := load) ⟨hc.pos, by omega⟩ h3 hx
  exact Rk.divI (by omega) (Zk.small (Nat.lt_of_le_of_lt h5.2 (by decide))) (Zk.small (Nat.lt_of_le_of_lt (show _ ≤ 384000000 by omega) (by decide)))
theorem vote3' {u v w t : Int} (hu : u.natAbs ≤ 1000000) (hv : v.natAbs ≤ 1000000) (hw : w.natAbs ≤ 1000000) (ht : 0 ≤ t ∧ t ≤ 1000000) (hc : b01 (oddB (midI u v w) t u) + b01 (oddB (midI u v w) t v) + b01 (oddB (midI u v w) t w) ≤ 1) : voteG (r3 u v w) t = ((midI u v w, oddB (midI u v w) t u, oddB (midI u v w) t v, oddB (midI u v w) t w), 0) := by
  have h0 := vot0 hu hv hw ht
  have hp : presL (r3 u v w).l = [u, v, w] := rfl
  unfold voteG
  rw [if_neg (not_not_intro h0), hp, if_neg (by show ¬ (3 : Nat) = 2; decide), if_neg (by show ¬ b01 (oddB (midI u v w) t u) + b01 (oddB (midI u v w) t v) + b01 (oddB (midI u v w) t w) > 1; omega)]
  rfl
theorem odd_f {m t z : Int} (h : ((z - m).natAbs : Int) ≤ t) : oddB m t z = false := by
  unfold oddB
  exact decide_eq_false (by omega)
/-- The vote with the third channel wrong, in two orders. -/
theorem vote_rot {u v w t : Int} (hu : u.natAbs ≤ 1000000) (hv : v.natAbs ≤ 1000000) (hw : w.natAbs ≤ 1000000) (ht : 0 ≤ t ∧ t ≤ 1000000) (h : ((u - v).natAbs : Int) ≤ t) :
    ∃ (m : Int) (o : Bool), voteG (r3 u v w) t = ((m, false, false, o), 0) ∧ voteG (r3 w u v) t = ((m, o, false, false), 0) ∧ m.natAbs ≤ 1000000 ∧ ((m - u).natAbs : Int) ≤ t ∧ ((m - v).natAbs : Int) ≤ t := by
  obtain ⟨m1, _, m3⟩ := mid_in u v w
  have hm : midI w u v = midI u v w := by unfold midI; omega
  have ou := odd_f (m := midI u v w) (t := t) (z := u) (by omega)
  have ov := odd_f (m := midI u v w) (t := t) (z := v) (by omega)
  have k1 := vote3' hu hv hw ht (by rw [ou, ov]; have c := b01_le (oddB (midI u v w) t w); show 0 + 0 + b01 _ ≤ 1; omega)
  have k2 := vote3' hw hu hv ht (by rw [hm, ou, ov]; have c := b01_le (oddB (midI u v w) t w); show b01 _ + 0 + 0 ≤ 1; omega)
  rw [hm, ou, ov] at k2
  rw [ou, ov] at k1
  exact ⟨midI u v w, _, k1, k2, by omega, by omega, by omega⟩
end Go.Tr

/- Contracts: sums, products and comparisons of fractions of any size. Conditions: none. -/
namespace Go.Tr
open Go Go.Proofs
set_option maxRecDepth 20000
set_option maxHeartbeats 8000000

theorem wd_int {z : Int} (h : z.natAbs ≤ 9223372036854775808) : Wd z := Wd_small (Nat.lt_of_le_of_lt h (by decide))
theorem S75 (z : Int) (hz : -9223372036854775807 ≤ z ∧ z ≤ 9223372036854775807) : SP 75 [i64 z] (rA (z : Rat)) false := by
  have h1 := S142 z hz
  have h2 := S142 1 (by decide)
  show SP 75 [i64 z] (rA2 z 1) false
  refine sound (d := 2) tok2 mixed2 Tryz.func75 (by kernel_rfl) (by kernel_rfl) ?_
  conv => whnf
  refine .inl ⟨_, _, byX rfl (h1), ?_⟩
  conv => whnf
  refine .inl ⟨_, _, byX rfl (h2), ?_⟩
  conv => whnf
  refine ⟨?_, nofun⟩
  (first | rfl | exact ave_rA)
theorem S147 (n d : Int) (hn : -9223372036854775807 ≤ n ∧ n ≤ 9223372036854775807) (hd : -9223372036854775807 ≤ d ∧ d ≤ 9223372036854775807) (h0 : d ≠ 0) : SP 147 [i64 n, i64 d] (rA (Rat.divInt n d)) false := by
  have h1 := S142 n hn
  have h2 := S142 d hd
  have h3 := S144 n d (wd_int (by omega)) (wd_int (by omega)) h0
  refine sound (d := 2) tok2 mixed2 Tryz.func147 (by kernel_rfl) (by kernel_rfl) ?_
  conv => whnf
  refine .inl ⟨_, _, byX rfl (h1), ?_⟩
  conv => whnf
  refine .inl ⟨_, _, byX rfl (h2), ?_⟩
  conv => whnf
  refine .inl ⟨_, _, byX rfl (h3), ?_⟩
  conv => whnf
  refine ⟨?_, nofun⟩
  (first | rfl | exact ave_rA)
theorem S79 (f : Int × Int) (hn : -9223372036854775807 ≤ f.1 ∧ f.1 ≤ 9223372036854775807) (hd : 1 ≤ f.2 ∧ f.2 ≤ 9223372036854775807) : SP 79 [gaF f] (rA (Rat.divInt f.1 f.2)) false := by
  have h1 := S147 f.1 f.2 hn (by omega) (by omega)
  refine sound (d := 2) tok2 mixed2 Tryz.func79 (by kernel_rfl) (by kernel_rfl) ?_
  conv => whnf
  refine .inl ⟨_, _, byX rfl (h1), ?_⟩
  conv => whnf
  refine ⟨?_, nofun⟩
  (first | rfl | exact ave_rA)
theorem S78 {k l : Nat} (p q : Rat) (hp : Rk k p) (hq : Rk l q) (hk : k + l < 100) : SP 78 [rA p, rA q] (rA (p + q)) false := by
  have d0 : ((p.den : Nat) * (q.den : Nat) : Int) ≠ 0 := Int.ne_of_gt (Int.mul_pos (den_pos p) (den_pos q))
  have z1 := hp.num.mul hq.den
  have z2 := hq.num.mul hp.den
  rw [Nat.add_comm l k] at z2
  have h1 := S146 p.num (q.den : Nat) (hp.wd (by omega)).1 (hq.wd (by omega)).2
  have h2 := S146 q.num (p.den : Nat) (hq.wd (by omega)).1 (hp.wd (by omega)).2
  have h3 := S145 (p.num * (q.den : Nat)) (q.num * (p.den : Nat)) (z1.wd (by omega)) (z2.wd (by omega))
  have h4 := S146 (p.den : Nat) (q.den : Nat) (hp.wd (by omega)).2 (hq.wd (by omega)).2
  have h5 := S144 (p.num * (q.den : Nat) + q.num * (p.den : Nat)) ((p.den : Nat) * (q.den : Nat)) ((z1.add z2).wd (by omega)) ((hp.den.mul hq.den).wd (by omega)) d0
  rw [← rat_add] at h5
  refine sound (d := 2) tok2 mixed2 Tryz.func78 (by kernel_rfl) (by kernel_rfl) ?_
  conv => whnf
  refine ⟨[], by kernel_rfl, ?_⟩
  conv => whnf
  refine .inl ⟨_, _, byX rfl (h1), ?_⟩
  conv => whnf
  refine .inl ⟨_, _, byX rfl (h2), ?_⟩
  conv => whnf
  refine .inl ⟨_, _, byX rfl (h3), ?_⟩
  conv => whnf
  refine .inl ⟨_, _, byX rfl (h4), ?_⟩
  conv => whnf
  refine .inl ⟨_, _, byX rfl (h5), ?_⟩
  conv => whnf
  refine ⟨?_, nofun⟩
  (first | rfl | exact ave_rA)
theorem S81 {k l : Nat} (p q : Rat) (hp : Rk k p) (hq : Rk l q) (hk : k + l ≤ 100) : SP 81 [rA p, rA q] (rA (p * q)) false := by
  have d0 : ((p.den : Nat) * (q.den : Nat) : Int) ≠ 0 := Int.ne_of_gt (Int.mul_pos (den_pos p) (den_pos q))
  have h1 := S146 p.num q.num (hp.wd (by omega)).1 (hq.wd (by omega)).1
  have h4 := S146 (p.den : Nat) (q.den : Nat) (hp.wd (by omega)).2 (hq.wd (by omega)).2
  have h5 := S144 (p.num * q.num) ((p.den : Nat) * (q.den : Nat)) ((hp.num.mul hq.num).wd (by omega)) ((hp.den.mul hq.den).wd (by omega)) d0
  rw [← rat_mul] at h5
  refine sound (d := 2) tok2 mixed2 Tryz.func81 (by kernel_rfl) (by kernel_rfl) ?_
  conv => whnf
  refine ⟨[], by kernel_rfl, ?_⟩
  conv => whnf
  refine .inl ⟨_, _, byX rfl (h1), ?_⟩
  conv => whnf
  refine .inl ⟨_, _, byX rfl (h4), ?_⟩
  conv => whnf
  refine .inl ⟨_, _, byX rfl (h5), ?_⟩
  conv => whnf
  refine ⟨?_, nofun⟩
  (first | rfl | exact ave_rA)
/-- How fractions compare. -/
def cmpR (p q : Rat) : Int := sgI (p.num * (q.den : Nat) - q.num * (p.den : Nat))
theorem cmpR_zero (p q : Rat) : cmpR p q = 0 ↔ p = q := by
  rw [← cmp_zero p q]
  unfold cmpR
  have := sg_cases (p.num * (q.den : Nat) - q.num * (p.den : Nat))
  omega
theorem S80 {k l : Nat} (p q : Rat) (hp : Rk k p) (hq : Rk l q) (hk : k + l ≤ 100) : SP 80 [rA p, rA q] (i64 (cmpR p q)) false := by
  have z1 := hp.num.mul hq.den
  have z2 := hq.num.mul hp.den
  rw [Nat.add_comm l k] at z2
  have h1 := S146 p.num (q.den : Nat) (hp.wd (by omega)).1 (hq.wd (by omega)).2
  have h2 := S146 q.num (p.den : Nat) (hq.wd (by omega)).1 (hp.wd (by omega)).2
  have h3 := S148 (p.num * (q.den : Nat)) (q.num * (p.den : Nat)) (z1.wd (by omega)) (z2.wd (by omega))
  change SP 148 _ (i64 (cmpR p q)) false at h3
  refine sound (d := 2) tok2 mixed2 Tryz.func80 (by kernel_rfl) (by kernel_rfl) ?_
  conv => whnf
  refine ⟨[], by kernel_rfl, ?_⟩
  conv => whnf
  refine .inl ⟨_, _, byX rfl (h1), ?_⟩
  conv => whnf
  refine .inl ⟨_, _, byX rfl (h2), ?_⟩
  conv => whnf
  refine .inl ⟨_, _, byX rfl (Sound1.pl (h3) rfl), ?_⟩
  conv => whnf
  refine ⟨?_, nofun⟩
  rfl
theorem S76 (f : Int × Int) (hn : -9223372036854775807 ≤ f.1 ∧ f.1 ≤ 9223372036854775807) (hd : 1 ≤ f.2 ∧ f.2 ≤ 9223372036854775807) : SP 76 [gaF f] (vb (decide (gcdI f.1 f.2 = 1))) false := by
  have h1 := S143 f.1 f.2 hn (by omega)
  change SP 143 _ (i64 (gcdI f.1 f.2)) false at h1
  refine sound (d := 2) tok2 mixed2 Tryz.func76 (by kernel_rfl) (by kernel_rfl) ?_
  conv => whnf
  refine ifB_dec (fun w1 => ?_) (fun w1 => ?_)
  · conv => whnf
    refine .inl ⟨_, _, byX rfl (Sound1.pl (h1) rfl), ?_⟩
    conv => whnf
    refine ⟨?_, nofun⟩
    rfl
  · (exfalso; omega)
end Go.Tr

/- Contracts of chapter 6: the reference's vote. Conditions: none. -/
/- The law GovernorShares returns true. Conditions: none. -/
namespace Go.Tr
open Go Go.Proofs
set_option maxRecDepth 20000
set_option maxHeartbeats 8000000

abbrev chA (x : R3) (t : Int) : AV := .agg [i64 x.a.1, vb x.a.2, i64 x.b.1, vb x.b.2, i64 x.c.1, vb x.c.2, i64 t]
end Go.Tr

/- The law GovernorVoted returns true. Conditions: none. -/
namespace Go.Tr
open Go Go.Proofs
set_option maxRecDepth 20000
set_option maxHeartbeats 8000000

theorem gf_ok {f : Int × Int} (h : smB f = true) (hd : 1 ≤ f.2) : (-9223372036854775807 ≤ f.1 ∧ f.1 ≤ 9223372036854775807) ∧ 1 ≤ f.2 ∧ f.2 ≤ 9223372036854775807 := by
  unfold smB at h
  rw [Bool.and_eq_true, decide_eq_true_iff, decide_eq_true_iff] at h
  omega
theorem vEq3 (b c d : Bool) : vEqL [.bool b, .bool c, .bool d] [.bool b, .bool c, .bool d] = true := by cases b <;> cases c <;> cases d <;> rfl
theorem S12v (l : List Int) (load a b c t : Int) (ma mb mc : Bool) (hl : l.length ≤ 9223372036854775807) (hz : shaE l load = 0) (ha : (shaF l load).all smB = true) : SP 12 [ints l, i64 load, .agg [i64 a, vb ma, i64 b, vb mb, i64 c, vb mc, i64 t]] (vb true) false := by
  have hsh := ShOk.of hz
  have hl6 := hsh.n
  have hl1 : l.length ≤ 1000000 := by omega
  have h19 := S19 l hl1
  have h69 := S69 l load hl1
  have h72 := S72 l load hl
  rw [if_pos ⟨hz, ha⟩, if_neg (not_not_intro hz), if_pos ha] at h69
  rw [hz] at h72
  have hn : (shaF l load).length = l.length := by unfold shaF shareL; rw [List.length_map]
  have h75 := S75 0 (by decide)
  rw [show ((0 : Int) : Rat) = qS l load 0 from (qS_zero l load).symm] at h75
  refine sound (d := 2) tok2 mixed2 Tryz.func12 (by kernel_rfl) (by kernel_rfl) ?_
  conv => whnf
  refine .inl ⟨_, _, byX rfl (Sound1.pl (S16) rfl), ?_⟩
  conv => whnf
  refine .inl ⟨_, _, byX rfl (Sound1.pl (h72) rfl), ?_⟩
  conv => whnf
  refine .inl ⟨_, _, byX rfl (h19), ?_⟩
  conv => whnf
  refine .inl ⟨_, _, byX rfl (h69), ?_⟩
  conv => whnf
  refine .inl ⟨_, _, byX rfl (h75), ?_⟩
  conv => whnf
  refine ifB_bne (fun w1 => ?_) (fun w1 => ?_)
  · (exfalso; omega)
  · · conv => whnf
      refine ⟨[], [0, 1, 5, 7, 9, 10], fun st mq => ∃ (i : Nat), (i ≤ l.length) ∧ st = ⟨[(0, ints l), (1, i64 load), (5, .optr 0 0 0 0), (7, .rslice 2 (shaF l load).length fun i => [i64 ((shaF l load).getD i (0, 0)).fst, i64 ((shaF l load).getD i (0, 0)).snd]), (9, .optr 1 0 0 0), (10, i64 i)], ⟨[⟨7, 1, fun _ => [i64 a, vb ma, i64 b, vb mb, i64 c, vb mc, i64 t], 0, false, true, true⟩, ⟨4, 1, fun _ => [i64 (sgI (qS l load i).num), ints (digs (qS l load i).num.natAbs), i64 (sgI ((qS l load i).den : Nat)), ints (digs (((qS l load i).den : Nat) : Int).natAbs)], 0, false, true, true⟩], [], none, 0⟩, []⟩ ∧ mq = l.length - i,
        ⟨_, _, ⟨0, by omega, rfl, rfl⟩, ⟨⟨.inl rfl, rfl, rfl, rfl⟩, ⟨⟨rfl, rfl, rfl, rfl, fun _ => rfl, fun _ _ => .inl rfl⟩, ⟨⟨rfl, rfl, rfl, rfl, fun _ => rfl, fun _ _ => .inl rfl⟩, trivial⟩⟩, trivial⟩⟩, ?_⟩
      rintro s0 m0 ⟨i, hi, rfl, hmeas⟩
      by_cases hlt : i < l.length
      · have hd := share_den hsh hlt
        have hg := gf_ok (share_sm ha hlt) hd
        have h76 := S76 _ hg.1 hg.2
        have h77 := S77 _ hd
        have h79 := S79 _ hg.1 hg.2
        have hx := hsh.dr _ (getD_memI hlt)
        have h75x := S75 (l.getD i 0) (by omega)
        rw [share_low hsh hlt, decide_eq_true rfl] at h76
        rw [share_sm ha hlt] at h77
        rw [qI_share hsh hlt] at h79
        have hlt0 : 0 < l.length := by omega
        have hd0 := share_den hsh hlt0
        have hg0 := gf_ok (share_sm ha hlt0) hd0
        have h790 := S79 _ hg0.1 hg0.2
        have hx0 := hsh.dr _ (getD_memI hlt0)
        have h75x0 := S75 (l.getD 0 0) (by omega)
        rw [qI_share hsh hlt0] at h790
        have h78 := S78 _ _ (qS_rk hsh (Nat.le_of_lt hlt)) (qI_rk hsh hlt) (by decide)
        rw [← qS_succ hsh hlt] at h78
        have h81 := S81 _ _ (qI_rk hsh hlt) (rk_int (k := 0) (z := l.getD i 0) (Zk.small (by omega))) (by decide)
        have h810 := S81 _ _ (qI_rk hsh hlt0) (rk_int (k := 0) (z := l.getD 0 0) (Zk.small (by omega))) (by decide)
        have hk := (qI_rk hsh hlt).mul (rk_int (k := 0) (z := l.getD i 0) (Zk.small (by omega)))
        rw [qI_mul hsh hlt] at h81 hk
        rw [qI_mul hsh hlt0] at h810
        have h80 := S80 _ _ hk hk (by decide)
        rw [(cmpR_zero _ _).2 rfl] at h80
        conv => whnf
        conv => whnf
        refine ifB_dec (fun w2 => ?_) (fun w2 => ?_)
        · conv => whnf
          conv => whnf
          refine ⟨⟨(by omega), (by omega)⟩, ?_⟩
          conv => whnf
          conv => whnf
          refine .inl ⟨_, _, byX rfl (Sound1.pl (h76) rfl), ?_⟩
          conv => whnf
          conv => whnf
          refine ⟨⟨(by omega), (by omega)⟩, ?_⟩
          conv => whnf
          conv => whnf
          refine .inl ⟨_, _, byX rfl (Sound1.pl (h77) rfl), ?_⟩
          conv => whnf
          conv => whnf
          refine ⟨[], by kernel_rfl, ?_⟩
          conv => whnf
          conv => whnf
          refine ⟨⟨(by omega), (by omega)⟩, ?_⟩
          conv => whnf
          conv => whnf
          refine .inl ⟨_, _, byX rfl (h79), ?_⟩
          conv => whnf
          conv => whnf
          refine .inl ⟨_, _, byX rfl (h78), ?_⟩
          conv => whnf
          conv => whnf
          refine ⟨[], by kernel_rfl, ?_⟩
          conv => whnf
          conv => whnf
          refine ⟨⟨(by omega), (by omega)⟩, ?_⟩
          conv => whnf
          conv => whnf
          refine .inl ⟨_, _, byX rfl (h79), ?_⟩
          conv => whnf
          conv => whnf
          refine ⟨⟨(by omega), (by omega)⟩, ?_⟩
          conv => whnf
          conv => whnf
          refine .inl ⟨_, _, byX rfl (h75x), ?_⟩
          conv => whnf
          conv => whnf
          refine .inl ⟨_, _, byX rfl (h81), ?_⟩
          conv => whnf
          conv => whnf
          refine ⟨⟨(by omega), (by omega)⟩, ?_⟩
          conv => whnf
          conv => whnf
          refine .inl ⟨_, _, byX rfl (h790), ?_⟩
          conv => whnf
          conv => whnf
          refine ⟨⟨(by omega), (by omega)⟩, ?_⟩
          conv => whnf
          conv => whnf
          refine .inl ⟨_, _, byX rfl (h75x0), ?_⟩
          conv => whnf
          conv => whnf
          refine .inl ⟨_, _, byX rfl (h810), ?_⟩
          conv => whnf
          conv => whnf
          refine .inl ⟨_, _, byX rfl (Sound1.pl (h80) rfl), ?_⟩
          conv => whnf
          conv => whnf
          refine ⟨inK64 (by omega) (by omega), ?_⟩
          conv => whnf
          conv => whnf
          refine ⟨_, _, ⟨⟨i + 1, by omega, rfl, rfl⟩, by omega⟩, ⟨⟨.inl rfl, rfl, rfl, rfl⟩, ⟨⟨rfl, rfl, rfl, rfl, fun _ => rfl, fun _ _ => .inl rfl⟩, ⟨⟨rfl, rfl, rfl, rfl, fun _ => rfl, fun _ _ => .inl rfl⟩, trivial⟩⟩, trivial⟩⟩
        · (exfalso; omega)
      · have e : i = l.length := by omega
        subst e
        have hld := hsh.ld
        have h75l := S75 load (by omega)
        have hql := qS_rk hsh (Nat.le_refl l.length)
        rw [qS_all hsh] at hql
        have h80l := S80 (qS l load l.length) (load : Rat) (qS_rk hsh (Nat.le_refl l.length)) hql (by decide)
        rw [(cmpR_zero _ _).2 (qS_all hsh)] at h80l
        conv => whnf
        conv => whnf
        refine ifB_dec (fun w2 => ?_) (fun w2 => ?_)
        · (exfalso; omega)
        · conv => whnf
          conv => whnf
          refine ⟨[], by kernel_rfl, ?_⟩
          conv => whnf
          conv => whnf
          refine .inl ⟨_, _, byX rfl (h75l), ?_⟩
          conv => whnf
          conv => whnf
          refine .inl ⟨_, _, byX rfl (Sound1.pl (h80l) rfl), ?_⟩
          conv => whnf
          conv => whnf
          refine ⟨[], [5, 11, 12], fun st mq => ∃ (i : Nat) (F1 : Nat → List AV), (i ≤ 3) ∧ (0 < i → ma = false ∧ -1000000 ≤ a ∧ a ≤ 1000000) ∧ (1 < i → mb = false ∧ -1000000 ≤ b ∧ b ≤ 1000000) ∧ (2 < i → mc = false ∧ -1000000 ≤ c ∧ c ≤ 1000000) ∧ st = ⟨[(5, .optr 0 0 0 0), (11, .optr 2 0 0 0), (12, i64 i)], ⟨[⟨7, 1, fun _ => [i64 a, vb ma, i64 b, vb mb, i64 c, vb mc, i64 t], 0, false, true, true⟩, ⟨4, 1, F1, 0, false, true, false⟩, ⟨6, 1, fun _ => [i64 a, vb ma, i64 b, vb mb, i64 c, vb mc], 0, false, true, true⟩], [], none, 0⟩, []⟩ ∧ mq = 3 - i,
            ⟨_, _, ⟨0, _, by omega, nofun, nofun, nofun, rfl, rfl⟩, ⟨⟨.inl rfl, rfl, rfl, rfl⟩, ⟨⟨rfl, rfl, rfl, rfl, fun _ => rfl, fun _ _ => .inl rfl⟩, ⟨⟨rfl, rfl, rfl, rfl, fun _ => rfl, fun _ _ => .inl rfl⟩, ⟨⟨rfl, rfl, rfl, rfl, fun _ => rfl, fun _ _ => .inl rfl⟩, trivial⟩⟩⟩, trivial⟩⟩, ?_⟩
          rintro s0 m0 ⟨i, F1, hi, ha3, hb3, hc3, rfl, hmeas⟩
          have hcs : i = 0 ∨ i = 1 ∨ i = 2 ∨ i = 3 := by omega
          have h68a := S68 a (-1000000) 1000000
          have h68b := S68 b (-1000000) 1000000
          have h68c := S68 c (-1000000) 1000000
          rcases hcs with rfl | rfl | rfl | rfl
          · cases ma with
            | true => conv => whnf
                      conv => whnf
                      conv => whnf
                      refine ⟨⟨(by omega), (by omega)⟩, ?_⟩
                      conv => whnf
                      conv => whnf
                      conv => whnf
                      refine ⟨?_, nofun⟩
                      (first | rfl | contradiction)
            | false =>
              conv => whnf
              conv => whnf
              conv => whnf
              refine ⟨⟨(by omega), (by omega)⟩, ?_⟩
              conv => whnf
              conv => whnf
              conv => whnf
              refine ⟨⟨(by omega), (by omega)⟩, ?_⟩
              conv => whnf
              conv => whnf
              conv => whnf
              refine .inl ⟨_, _, byX rfl (Sound1.pl (h68a) rfl), ?_⟩
              conv => whnf
              conv => whnf
              conv => whnf
              refine ifB_not ?_
              conv => whnf
              conv => whnf
              conv => whnf
              refine ifB_dec (fun w3 => ?_) (fun w3 => ?_)
              · conv => whnf
                conv => whnf
                conv => whnf
                refine ⟨inK64 (by omega) (by omega), ?_⟩
                conv => whnf
                conv => whnf
                conv => whnf
                refine ⟨_, _, ⟨⟨1, _, by omega, (fun _ => ⟨rfl, by assumption⟩), (fun h => absurd h (by decide)), (fun h => absurd h (by decide)), rfl, rfl⟩, by omega⟩, ⟨⟨.inl rfl, rfl, rfl, rfl⟩, ⟨⟨rfl, rfl, rfl, rfl, fun _ => rfl, fun _ _ => .inl rfl⟩, ⟨⟨rfl, rfl, rfl, rfl, fun _ => rfl, fun _ _ => .inl rfl⟩, ⟨⟨rfl, rfl, rfl, rfl, fun _ => rfl, fun _ _ => .inl rfl⟩, trivial⟩⟩⟩, trivial⟩⟩
              · conv => whnf
                conv => whnf
                conv => whnf
                refine ⟨?_, nofun⟩
                (first | rfl | contradiction)
          · cases mb with
            | true => conv => whnf
                      conv => whnf
                      conv => whnf
                      refine ⟨⟨(by omega), (by omega)⟩, ?_⟩
                      conv => whnf
                      conv => whnf
                      conv => whnf
                      refine ⟨?_, nofun⟩
                      (first | rfl | contradiction)
            | false =>
              conv => whnf
              conv => whnf
              conv => whnf
              refine ⟨⟨(by omega), (by omega)⟩, ?_⟩
              conv => whnf
              conv => whnf
              conv => whnf
              refine ⟨⟨(by omega), (by omega)⟩, ?_⟩
              conv => whnf
              conv => whnf
              conv => whnf
              refine .inl ⟨_, _, byX rfl (Sound1.pl (h68b) rfl), ?_⟩
              conv => whnf
              conv => whnf
              conv => whnf
              refine ifB_not ?_
              conv => whnf
              conv => whnf
              conv => whnf
              refine ifB_dec (fun w3 => ?_) (fun w3 => ?_)
              · conv => whnf
                conv => whnf
                conv => whnf
                refine ⟨inK64 (by omega) (by omega), ?_⟩
                conv => whnf
                conv => whnf
                conv => whnf
                refine ⟨_, _, ⟨⟨2, _, by omega, (fun _ => ha3 (by decide)), (fun _ => ⟨rfl, by assumption⟩), (fun h => absurd h (by decide)), rfl, rfl⟩, by omega⟩, ⟨⟨.inl rfl, rfl, rfl, rfl⟩, ⟨⟨rfl, rfl, rfl, rfl, fun _ => rfl, fun _ _ => .inl rfl⟩, ⟨⟨rfl, rfl, rfl, rfl, fun _ => rfl, fun _ _ => .inl rfl⟩, ⟨⟨rfl, rfl, rfl, rfl, fun _ => rfl, fun _ _ => .inl rfl⟩, trivial⟩⟩⟩, trivial⟩⟩
              · conv => whnf
                conv => whnf
                conv => whnf
                refine ⟨?_, nofun⟩
                (first | rfl | contradiction)
          · cases mc with
            | true => conv => whnf
                      conv => whnf
                      conv => whnf
                      refine ⟨⟨(by omega), (by omega)⟩, ?_⟩
                      conv => whnf
                      conv => whnf
                      conv => whnf
                      refine ⟨?_, nofun⟩
                      (first | rfl | contradiction)
            | false =>
              conv => whnf
              conv => whnf
              conv => whnf
              refine ⟨⟨(by omega), (by omega)⟩, ?_⟩
              conv => whnf
              conv => whnf
              conv => whnf
              refine ⟨⟨(by omega), (by omega)⟩, ?_⟩
              conv => whnf
              conv => whnf
              conv => whnf
              refine .inl ⟨_, _, byX rfl (Sound1.pl (h68c) rfl), ?_⟩
              conv => whnf
              conv => whnf
              conv => whnf
              refine ifB_not ?_
              conv => whnf
              conv => whnf
              conv => whnf
              refine ifB_dec (fun w3 => ?_) (fun w3 => ?_)
              · conv => whnf
                conv => whnf
                conv => whnf
                refine ⟨inK64 (by omega) (by omega), ?_⟩
                conv => whnf
                conv => whnf
                conv => whnf
                refine ⟨_, _, ⟨⟨3, _, by omega, (fun _ => ha3 (by decide)), (fun _ => hb3 (by decide)), (fun _ => ⟨rfl, by assumption⟩), rfl, rfl⟩, by omega⟩, ⟨⟨.inl rfl, rfl, rfl, rfl⟩, ⟨⟨rfl, rfl, rfl, rfl, fun _ => rfl, fun _ _ => .inl rfl⟩, ⟨⟨rfl, rfl, rfl, rfl, fun _ => rfl, fun _ _ => .inl rfl⟩, ⟨⟨rfl, rfl, rfl, rfl, fun _ => rfl, fun _ _ => .inl rfl⟩, trivial⟩⟩⟩, trivial⟩⟩
              · conv => whnf
                conv => whnf
                conv => whnf
                refine ⟨?_, nofun⟩
                (first | rfl | contradiction)
          · obtain ⟨rfl, hab⟩ := ha3 (by decide)
            obtain ⟨rfl, hbb⟩ := hb3 (by decide)
            obtain ⟨rfl, hcb⟩ := hc3 (by decide)
            have h68t := S68 t 0 1000000
            have h82 := S82 (a - b) (by omega)
            by_cases hok : (0 ≤ t ∧ t ≤ 1000000) ∧ ((a - b).natAbs : Int) ≤ t
            · obtain ⟨m, o, k1, k2, k3, k4, k5⟩ := vote_rot (u := a) (v := b) (w := c) (t := t) (by omega) (by omega) (by omega) hok.1 hok.2
              have h70a := S70 (r3 a b c) t
              have h70b := S70 (r3 c a b) t
              rw [k1] at h70a
              rw [k2] at h70b
              change SP 70 _ (.tuple [.agg [i64 m, vb false, vb false, vb o], i64 0]) false at h70a
              change SP 70 _ (.tuple [.agg [i64 m, vb o, vb false, vb false], i64 0]) false at h70b
              have h68m := S68 m (-1000000) 1000000
              have h82a := S82 (m - a) (by omega)
              have h82b := S82 (m - b) (by omega)
              conv => whnf
              conv => whnf
              conv => whnf
              refine ⟨[], by kernel_rfl, ?_⟩
              conv => whnf
              conv => whnf
              conv => whnf
              refine .inl ⟨_, _, byX rfl (Sound1.pl (h68t) rfl), ?_⟩
              conv => whnf
              conv => whnf
              conv => whnf
              refine ifB_not ?_
              conv => whnf
              conv => whnf
              conv => whnf
              refine ifB_dec (fun w3 => ?_) (fun w3 => ?_)
              · conv => whnf
                conv => whnf
                conv => whnf
                refine ⟨⟨(by omega), (by omega)⟩, ?_⟩
                conv => whnf
                conv => whnf
                conv => whnf
                refine ⟨⟨(by omega), (by omega)⟩, ?_⟩
                conv => whnf
                conv => whnf
                conv => whnf
                refine ⟨inK64 (by omega) (by omega), ?_⟩
                conv => whnf
                conv => whnf
                conv => whnf
                refine .inl ⟨_, _, byX rfl (Sound1.pl (h82) rfl), ?_⟩
                conv => whnf
                conv => whnf
                conv => whnf
                refine ifB_dec (fun w4 => ?_) (fun w4 => ?_)
                · (exfalso; omega)
                · conv => whnf
                  conv => whnf
                  conv => whnf
                  refine .inl ⟨_, _, byX rfl (Sound1.pl (h70a) rfl), ?_⟩
                  conv => whnf
                  conv => whnf
                  conv => whnf
                  refine ⟨⟨(by omega), (by omega)⟩, ?_⟩
                  conv => whnf
                  conv => whnf
                  conv => whnf
                  refine ⟨⟨(by omega), (by omega)⟩, ?_⟩
                  conv => whnf
                  conv => whnf
                  conv => whnf
                  refine ⟨⟨(by omega), (by omega)⟩, ?_⟩
                  conv => whnf
                  conv => whnf
                  conv => whnf
                  refine .inl ⟨_, _, byX rfl (Sound1.pl (h70b) rfl), ?_⟩
                  conv => whnf
                  conv => whnf
                  conv => whnf
                  refine ifB_bne (fun w5 => ?_) (fun w5 => ?_)
                  · (exfalso; omega)
                  · conv => whnf
                    conv => whnf
                    conv => whnf
                    refine ⟨⟨(by omega), (by omega)⟩, ?_⟩
                    conv => whnf
                    conv => whnf
                    conv => whnf
                    refine ⟨⟨(by omega), (by omega)⟩, ?_⟩
                    conv => whnf
                    conv => whnf
                    conv => whnf
                    refine ⟨⟨(by omega), (by omega)⟩, ?_⟩
                    conv => whnf
                    conv => whnf
                    conv => whnf
                    refine ifB_not ?_
                    conv => whnf
                    conv => whnf
                    conv => whnf
                    refine ifB_intro (fun w6 => ?_) (fun w6 => ?_)
                    · conv => whnf
                      conv => whnf
                      conv => whnf
                      refine .inl ⟨_, _, byX rfl (Sound1.pl (h68m) rfl), ?_⟩
                      conv => whnf
                      conv => whnf
                      conv => whnf
                      refine ifB_not ?_
                      conv => whnf
                      conv => whnf
                      conv => whnf
                      refine ifB_dec (fun w7 => ?_) (fun w7 => ?_)
                      · conv => whnf
                        conv => whnf
                        conv => whnf
                        refine ⟨[], by kernel_rfl, ?_⟩
                        conv => whnf
                        conv => whnf
                        conv => whnf
                        refine ⟨⟨(by omega), (by omega)⟩, ?_⟩
                        conv => whnf
                        conv => whnf
                        conv => whnf
                        refine ⟨inK64 (by omega) (by omega), ?_⟩
                        conv => whnf
                        conv => whnf
                        conv => whnf
                        refine .inl ⟨_, _, byX rfl (Sound1.pl (h82a) rfl), ?_⟩
                        conv => whnf
                        conv => whnf
                        conv => whnf
                        refine ifB_dec (fun w8 => ?_) (fun w8 => ?_)
                        · conv => whnf
                          conv => whnf
                          conv => whnf
                          refine ⟨⟨(by omega), (by omega)⟩, ?_⟩
                          conv => whnf
                          conv => whnf
                          conv => whnf
                          refine ⟨inK64 (by omega) (by omega), ?_⟩
                          conv => whnf
                          conv => whnf
                          conv => whnf
                          refine .inl ⟨_, _, byX rfl (Sound1.pl (h82b) rfl), ?_⟩
                          conv => whnf
                          conv => whnf
                          conv => whnf
                          refine ifB_dec (fun w9 => ?_) (fun w9 => ?_)
                          · conv => whnf
                            conv => whnf
                            conv => whnf
                            refine ⟨⟨(by omega), (by omega)⟩, ?_⟩
                            conv => whnf
                            conv => whnf
                            conv => whnf
                            refine ⟨⟨(by omega), (by omega)⟩, ?_⟩
                            conv => whnf
                            conv => whnf
                            conv => whnf
                            refine ⟨?_, nofun⟩
                            (first | rfl | contradiction | exact absurd (Eq.trans (Eq.symm (by assumption)) (vEq3 _ _ _)) (by decide))
                          · (exfalso; omega)
                        · (exfalso; omega)
                      · (exfalso; omega)
                    · conv => whnf
                      conv => whnf
                      conv => whnf
                      refine ⟨?_, nofun⟩
                      (first | rfl | contradiction | exact absurd (Eq.trans (Eq.symm (by assumption)) (vEq3 _ _ _)) (by decide))
              · (exfalso; omega)
            · conv => whnf
              conv => whnf
              conv => whnf
              refine ⟨[], by kernel_rfl, ?_⟩
              conv => whnf
              conv => whnf
              conv => whnf
              refine .inl ⟨_, _, byX rfl (Sound1.pl (h68t) rfl), ?_⟩
              conv => whnf
              conv => whnf
              conv => whnf
              refine ifB_not ?_
              conv => whnf
              conv => whnf
              conv => whnf
              refine ifB_dec (fun w3 => ?_) (fun w3 => ?_)
              · conv => whnf
                conv => whnf
                conv => whnf
                refine ⟨⟨(by omega), (by omega)⟩, ?_⟩
                conv => whnf
                conv => whnf
                conv => whnf
                refine ⟨⟨(by omega), (by omega)⟩, ?_⟩
                conv => whnf
                conv => whnf
                conv => whnf
                refine ⟨inK64 (by omega) (by omega), ?_⟩
                conv => whnf
                conv => whnf
                conv => whnf
                refine .inl ⟨_, _, byX rfl (Sound1.pl (h82) rfl), ?_⟩
                conv => whnf
                conv => whnf
                conv => whnf
                refine ifB_dec (fun w4 => ?_) (fun w4 => ?_)
                · conv => whnf
                  conv => whnf
                  conv => whnf
                  refine ⟨?_, nofun⟩
                  (first | rfl | contradiction)
                · (exfalso; omega)
              · conv => whnf
                conv => whnf
                conv => whnf
                refine ⟨?_, nofun⟩
                (first | rfl | contradiction)
theorem S12w (l : List Int) (load a b c t : Int) (ma mb mc : Bool) (hl : l.length ≤ 9223372036854775807) (hz : shaE l load = 0) (ha : (shaF l load).all smB = false) : SP 12 [ints l, i64 load, .agg [i64 a, vb ma, i64 b, vb mb, i64 c, vb mc, i64 t]] (vb true) false := by
  have hsh := ShOk.of hz
  have hl6 := hsh.n
  have hl1 : l.length ≤ 1000000 := by omega
  have h19 := S19 l hl1
  have h69 := S69 l load hl1
  have h72 := S72 l load hl
  rw [ha, if_neg (fun h => absurd h.2 (by nofun)), if_neg (not_not_intro hz), if_neg (by nofun)] at h69
  rw [hz] at h72
  refine sound (d := 2) tok2 mixed2 Tryz.func12 (by kernel_rfl) (by kernel_rfl) ?_
  conv => whnf
  refine .inl ⟨_, _, byX rfl (Sound1.pl (S16) rfl), ?_⟩
  conv => whnf
  refine .inl ⟨_, _, byX rfl (Sound1.pl (h72) rfl), ?_⟩
  conv => whnf
  refine .inl ⟨_, _, byX rfl (h19), ?_⟩
  conv => whnf
  refine .inl ⟨_, _, byX rfl (h69), ?_⟩
  conv => whnf
  refine ⟨[], [5, 11, 12], fun st mq => ∃ (i : Nat), (i ≤ 3) ∧ (0 < i → ma = false ∧ -1000000 ≤ a ∧ a ≤ 1000000) ∧ (1 < i → mb = false ∧ -1000000 ≤ b ∧ b ≤ 1000000) ∧ (2 < i → mc = false ∧ -1000000 ≤ c ∧ c ≤ 1000000) ∧ st = ⟨[(5, .optr 0 0 0 0), (11, .optr 1 0 0 0), (12, i64 i)], ⟨[⟨7, 1, fun _ => [i64 a, vb ma, i64 b, vb mb, i64 c, vb mc, i64 t], 0, false, true, true⟩, ⟨6, 1, fun _ => [i64 a, vb ma, i64 b, vb mb, i64 c, vb mc], 0, false, true, true⟩], [], none, 0⟩, []⟩ ∧ mq = 3 - i,
    ⟨_, _, ⟨0, by omega, nofun, nofun, nofun, rfl, rfl⟩, ⟨⟨.inl rfl, rfl, rfl, rfl⟩, ⟨⟨rfl, rfl, rfl, rfl, fun _ => rfl, fun _ _ => .inl rfl⟩, ⟨⟨rfl, rfl, rfl, rfl, fun _ => rfl, fun _ _ => .inl rfl⟩, trivial⟩⟩, trivial⟩⟩, ?_⟩
  rintro s0 m0 ⟨i, hi, ha3, hb3, hc3, rfl, hmeas⟩
  have hcs : i = 0 ∨ i = 1 ∨ i = 2 ∨ i = 3 := by omega
  have h68a := S68 a (-1000000) 1000000
  have h68b := S68 b (-1000000) 1000000
  have h68c := S68 c (-1000000) 1000000
  rcases hcs with rfl | rfl | rfl | rfl
  · cases ma with
    | true => conv => whnf
              conv => whnf
              refine ⟨⟨(by omega), (by omega)⟩, ?_⟩
              conv => whnf
              conv => whnf
              refine ⟨?_, nofun⟩
              (first | rfl | contradiction)
    | false =>
      conv => whnf
      conv => whnf
      refine ⟨⟨(by omega), (by omega)⟩, ?_⟩
      conv => whnf
      conv => whnf
      refine ⟨⟨(by omega), (by omega)⟩, ?_⟩
      conv => whnf
      conv => whnf
      refine .inl ⟨_, _, byX rfl (Sound1.pl (h68a) rfl), ?_⟩
      conv => whnf
      conv => whnf
      refine ifB_not ?_
      conv => whnf
      conv => whnf
      refine ifB_dec (fun w1 => ?_) (fun w1 => ?_)
      · conv => whnf
        conv => whnf
        refine ⟨inK64 (by omega) (by omega), ?_⟩
        conv => whnf
        conv => whnf
        refine ⟨_, _, ⟨⟨1, by omega, (fun _ => ⟨rfl, by assumption⟩), (fun h => absurd h (by decide)), (fun h => absurd h (by decide)), rfl, rfl⟩, by omega⟩, ⟨⟨.inl rfl, rfl, rfl, rfl⟩, ⟨⟨rfl, rfl, rfl, rfl, fun _ => rfl, fun _ _ => .inl rfl⟩, ⟨⟨rfl, rfl, rfl, rfl, fun _ => rfl, fun _ _ => .inl rfl⟩, trivial⟩⟩, trivial⟩⟩
      · conv => whnf
        conv => whnf
        refine ⟨?_, nofun⟩
        (first | rfl | contradiction)
  · cases mb with
    | true => conv => whnf
              conv => whnf
              refine ⟨⟨(by omega), (by omega)⟩, ?_⟩
              conv => whnf
              conv => whnf
              refine ⟨?_, nofun⟩
              (first | rfl | contradiction)
    | false =>
      conv => whnf
      conv => whnf
      refine ⟨⟨(by omega), (by omega)⟩, ?_⟩
      conv => whnf
      conv => whnf
      refine ⟨⟨(by omega), (by omega)⟩, ?_⟩
      conv => whnf
      conv => whnf
      refine .inl ⟨_, _, byX rfl (Sound1.pl (h68b) rfl), ?_⟩
      conv => whnf
      conv => whnf
      refine ifB_not ?_
      conv => whnf
      conv => whnf
      refine ifB_dec (fun w1 => ?_) (fun w1 => ?_)
      · conv => whnf
        conv => whnf
        refine ⟨inK64 (by omega) (by omega), ?_⟩
        conv => whnf
        conv => whnf
        refine ⟨_, _, ⟨⟨2, by omega, (fun _ => ha3 (by decide)), (fun _ => ⟨rfl, by assumption⟩), (fun h => absurd h (by decide)), rfl, rfl⟩, by omega⟩, ⟨⟨.inl rfl, rfl, rfl, rfl⟩, ⟨⟨rfl, rfl, rfl, rfl, fun _ => rfl, fun _ _ => .inl rfl⟩, ⟨⟨rfl, rfl, rfl, rfl, fun _ => rfl, fun _ _ => .inl rfl⟩, trivial⟩⟩, trivial⟩⟩
      · conv => whnf
        conv => whnf
        refine ⟨?_, nofun⟩
        (first | rfl | contradiction)
  · cases mc with
    | true => conv => whnf
              conv => whnf
              refine ⟨⟨(by omega), (by omega)⟩, ?_⟩
              conv => whnf
              conv => whnf
              refine ⟨?_, nofun⟩
              (first | rfl | contradiction)
    | false =>
      conv => whnf
      conv => whnf
      refine ⟨⟨(by omega), (by omega)⟩, ?_⟩
      conv => whnf
      conv => whnf
      refine ⟨⟨(by omega), (by omega)⟩, ?_⟩
      conv => whnf
      conv => whnf
      refine .inl ⟨_, _, byX rfl (Sound1.pl (h68c) rfl), ?_⟩
      conv => whnf
      conv => whnf
      refine ifB_not ?_
      conv => whnf
      conv => whnf
      refine ifB_dec (fun w1 => ?_) (fun w1 => ?_)
      · conv => whnf
        conv => whnf
        refine ⟨inK64 (by omega) (by omega), ?_⟩
        conv => whnf
        conv => whnf
        refine ⟨_, _, ⟨⟨3, by omega, (fun _ => ha3 (by decide)), (fun _ => hb3 (by decide)), (fun _ => ⟨rfl, by assumption⟩), rfl, rfl⟩, by omega⟩, ⟨⟨.inl rfl, rfl, rfl, rfl⟩, ⟨⟨rfl, rfl, rfl, rfl, fun _ => rfl, fun _ _ => .inl rfl⟩, ⟨⟨rfl, rfl, rfl, rfl, fun _ => rfl, fun _ _ => .inl rfl⟩, trivial⟩⟩, trivial⟩⟩
      · conv => whnf
        conv => whnf
        refine ⟨?_, nofun⟩
        (first | rfl | contradiction)
  · obtain ⟨rfl, hab⟩ := ha3 (by decide)
    obtain ⟨rfl, hbb⟩ := hb3 (by decide)
    obtain ⟨rfl, hcb⟩ := hc3 (by decide)
    have h68t := S68 t 0 1000000
    have h82 := S82 (a - b) (by omega)
    by_cases hok : (0 ≤ t ∧ t ≤ 1000000) ∧ ((a - b).natAbs : Int) ≤ t
    · obtain ⟨m, o, k1, k2, k3, k4, k5⟩ := vote_rot (u := a) (v := b) (w := c) (t := t) (by omega) (by omega) (by omega) hok.1 hok.2
      have h70a := S70 (r3 a b c) t
      have h70b := S70 (r3 c a b) t
      rw [k1] at h70a
      rw [k2] at h70b
      change SP 70 _ (.tuple [.agg [i64 m, vb false, vb false, vb o], i64 0]) false at h70a
      change SP 70 _ (.tuple [.agg [i64 m, vb o, vb false, vb false], i64 0]) false at h70b
      have h68m := S68 m (-1000000) 1000000
      have h82a := S82 (m - a) (by omega)
      have h82b := S82 (m - b) (by omega)
      conv => whnf
      conv => whnf
      refine ⟨[], by kernel_rfl, ?_⟩
      conv => whnf
      conv => whnf
      refine .inl ⟨_, _, byX rfl (Sound1.pl (h68t) rfl), ?_⟩
      conv => whnf
      conv => whnf
      refine ifB_not ?_
      conv => whnf
      conv => whnf
      refine ifB_dec (fun w1 => ?_) (fun w1 => ?_)
      · conv => whnf
        conv => whnf
        refine ⟨⟨(by omega), (by omega)⟩, ?_⟩
        conv => whnf
        conv => whnf
        refine ⟨⟨(by omega), (by omega)⟩, ?_⟩
        conv => whnf
        conv => whnf
        refine ⟨inK64 (by omega) (by omega), ?_⟩
        conv => whnf
        conv => whnf
        refine .inl ⟨_, _, byX rfl (Sound1.pl (h82) rfl), ?_⟩
        conv => whnf
        conv => whnf
        refine ifB_dec (fun w2 => ?_) (fun w2 => ?_)
        · (exfalso; omega)
        · conv => whnf
          conv => whnf
          refine .inl ⟨_, _, byX rfl (Sound1.pl (h70a) rfl), ?_⟩
          conv => whnf
          conv => whnf
          refine ⟨⟨(by omega), (by omega)⟩, ?_⟩
          conv => whnf
          conv => whnf
          refine ⟨⟨(by omega), (by omega)⟩, ?_⟩
          conv => whnf
          conv => whnf
          refine ⟨⟨(by omega), (by omega)⟩, ?_⟩
          conv => whnf
          conv => whnf
          refine .inl ⟨_, _, byX rfl (Sound1.pl (h70b) rfl), ?_⟩
          conv => whnf
          conv => whnf
          refine ifB_bne (fun w3 => ?_) (fun w3 => ?_)
          · (exfalso; omega)
          · conv => whnf
            conv => whnf
            refine ⟨⟨(by omega), (by omega)⟩, ?_⟩
            conv => whnf
            conv => whnf
            refine ⟨⟨(by omega), (by omega)⟩, ?_⟩
            conv => whnf
            conv => whnf
            refine ⟨⟨(by omega), (by omega)⟩, ?_⟩
            conv => whnf
            conv => whnf
            refine ifB_not ?_
            conv => whnf
            conv => whnf
            refine ifB_intro (fun w4 => ?_) (fun w4 => ?_)
            · conv => whnf
              conv => whnf
              refine .inl ⟨_, _, byX rfl (Sound1.pl (h68m) rfl), ?_⟩
              conv => whnf
              conv => whnf
              refine ifB_not ?_
              conv => whnf
              conv => whnf
              refine ifB_dec (fun w5 => ?_) (fun w5 => ?_)
              · conv => whnf
                conv => whnf
                refine ⟨[], by kernel_rfl, ?_⟩
                conv => whnf
                conv => whnf
                refine ⟨⟨(by omega), (by omega)⟩, ?_⟩
                conv => whnf
                conv => whnf
                refine ⟨inK64 (by omega) (by omega), ?_⟩
                conv => whnf
                conv => whnf
                refine .inl ⟨_, _, byX rfl (Sound1.pl (h82a) rfl), ?_⟩
                conv => whnf
                conv => whnf
                refine ifB_dec (fun w6 => ?_) (fun w6 => ?_)
                · conv => whnf
                  conv => whnf
                  refine ⟨⟨(by omega), (by omega)⟩, ?_⟩
                  conv => whnf
                  conv => whnf
                  refine ⟨inK64 (by omega) (by omega), ?_⟩
                  conv => whnf
                  conv => whnf
                  refine .inl ⟨_, _, byX rfl (Sound1.pl (h82b) rfl), ?_⟩
                  conv => whnf
                  conv => whnf
                  refine ifB_dec (fun w7 => ?_) (fun w7 => ?_)
                  · conv => whnf
                    conv => whnf
                    refine ⟨⟨(by omega), (by omega)⟩, ?_⟩
                    conv => whnf
                    conv => whnf
                    refine ⟨⟨(by omega), (by omega)⟩, ?_⟩
                    conv => whnf
                    conv => whnf
                    refine ⟨?_, nofun⟩
                    (first | rfl | contradiction | exact absurd (Eq.trans (Eq.symm (by assumption)) (vEq3 _ _ _)) (by decide))
                  · (exfalso; omega)
                · (exfalso; omega)
              · (exfalso; omega)
            · conv => whnf
              conv => whnf
              refine ⟨?_, nofun⟩
              (first | rfl | contradiction | exact absurd (Eq.trans (Eq.symm (by assumption)) (vEq3 _ _ _)) (by decide))
      · (exfalso; omega)
    · conv => whnf
      conv => whnf
      refine ⟨[], by kernel_rfl, ?_⟩
      conv => whnf
      conv => whnf
      refine .inl ⟨_, _, byX rfl (Sound1.pl (h68t) rfl), ?_⟩
      conv => whnf
      conv => whnf
      refine ifB_not ?_
      conv => whnf
      conv => whnf
      refine ifB_dec (fun w1 => ?_) (fun w1 => ?_)
      · conv => whnf
        conv => whnf
        refine ⟨⟨(by omega), (by omega)⟩, ?_⟩
        conv => whnf
        conv => whnf
        refine ⟨⟨(by omega), (by omega)⟩, ?_⟩
        conv => whnf
        conv => whnf
        refine ⟨inK64 (by omega) (by omega), ?_⟩
        conv => whnf
        conv => whnf
        refine .inl ⟨_, _, byX rfl (Sound1.pl (h82) rfl), ?_⟩
        conv => whnf
        conv => whnf
        refine ifB_dec (fun w2 => ?_) (fun w2 => ?_)
        · conv => whnf
          conv => whnf
          refine ⟨?_, nofun⟩
          (first | rfl | contradiction)
        · (exfalso; omega)
      · conv => whnf
        conv => whnf
        refine ⟨?_, nofun⟩
        (first | rfl | contradiction)
theorem S12 (l : List Int) (load : Int) (x : R3) (t : Int) (hl : l.length ≤ 9223372036854775807) : SP 12 [ints l, i64 load, chA x t] (vb true) false := by
  obtain ⟨⟨a, ma⟩, ⟨b, mb⟩, ⟨c, mc⟩⟩ := x
  by_cases hz : shaE l load = 0
  · cases ha : (shaF l load).all smB with
    | true => exact S12v l load a b c t ma mb mc hl hz ha
    | false => exact S12w l load a b c t ma mb mc hl hz ha
  · have h72 := S72 l load hl
    refine sound (d := 2) tok2 mixed2 Tryz.func12 (by kernel_rfl) (by kernel_rfl) ?_
    conv => whnf
    refine .inl ⟨_, _, byX rfl (Sound1.pl (S16) rfl), ?_⟩
    conv => whnf
    refine .inl ⟨_, _, byX rfl (Sound1.pl (h72) rfl), ?_⟩
    conv => whnf
    refine ifB_bne (fun w1 => ?_) (fun w1 => ?_)
    · conv => whnf
      refine ⟨?_, nofun⟩
      (first | rfl | contradiction)
    · (exfalso; omega)
end Go.Tr

/- Contracts of chapter 2: the reference's gap, circulation and steady state. Conditions: none. -/
import Derived.Test.YtkomdfgffgkphaaTr11
import Derived.Test.YtkomdfgffgkphaaTr10
import Derived.Test.YtkomdfgffgkphaaTr09
import Derived.Test.YtkomdfgffgkphaaRows
import Derived.Test.YtkomdfgffgkphaaTr05
import Derived.ProofKit

namespace Go.Tr
open Go Go.Proofs
set_option maxRecDepth 20000
set_option maxHeartbeats 8000000

theorem S112 (N : Net) (hok : N.Ok) (hF : (clF N).2 = 0) (hc : 0 ≤ (clF N).1) (q : Int) (hq : -200000 ≤ q ∧ q ≤ 200000) : SP 112 [netV N, i64 q] (i64 (gapF N (brF N) (clF N).1 q)) false := by
  have hS := stOk hok
  have hcl := hS.cl
  have hn := hS.n1
  have hcn := hS.c1
  have h97 := S97 N (by omega) (by omega) hok.ends
  unfold clR at h97
  rw [if_pos hF, hF] at h97
  have h114 := S114 N hok hF q hq
  have hl := state_len N (brF N) (clF N).1 q
  have he := hS.ends (N.cs.getD (clF N).1.toNat cn0) (mem_getD (by omega))
  have hr := hS.res (N.cs.getD (clF N).1.toNat cn0) (mem_getD (by omega))
  have hlw := lossW (f := q) hr (by omega)
  have b1 := (state_bd hS hq (N.cs.getD (clF N).1.toNat cn0).fr.toNat).2
  have b2 := (state_bd hS hq (N.cs.getD (clF N).1.toNat cn0).to.toNat).2
  have h22 := S22w (N.cs.getD (clF N).1.toNat cn0).res q hr (by omega)
  unfold stA at h114
  rw [ints_n hl.1, ints_n hl.2] at h114
  refine sound (d := 2) tok2 mixed2 Try.func112 (by kernel_rfl) (by kernel_rfl) ?_
  conv => whnf
  refine .inl ⟨_, _, byX rfl (Sound1.pl (h97) rfl), ?_⟩
  conv => whnf
  refine ⟨[], by kernel_rfl, ?_⟩
  conv => whnf
  refine ⟨⟨(by omega), (by omega)⟩, ?_⟩
  conv => whnf
  refine .inl ⟨_, _, byX rfl (h114), ?_⟩
  conv => whnf
  refine ⟨[], by kernel_rfl, ?_⟩
  conv => whnf
  refine .inl ⟨_, _, byX rfl (Sound1.pl (h22) rfl), ?_⟩
  conv => whnf
  refine ⟨⟨(by omega), (by omega)⟩, ?_⟩
  conv => whnf
  refine ⟨⟨(by omega), (by omega)⟩, ?_⟩
  conv => whnf
  refine ⟨inK64 (by omega) (by omega), ?_⟩
  conv => whnf
  refine ⟨inK64 (by omega) (by omega), ?_⟩
  conv => whnf
  refine ⟨?_, nofun⟩
  rfl
theorem S53 (N : Net) (hok : N.Ok) (hF : (clF N).2 = 0) : SP 53 [netV N] (rngE (if flatQ N (brF N) (clF N).1 then ((0, 0), 11) else (circF N (brF N) (clF N).1, 0))) false := by
  have hS := stOk hok
  have hn := hS.n1
  have hcn := hS.c1
  have h97 := S97 N (by omega) (by omega) hok.ends
  unfold clR at h97
  rw [if_pos hF, hF] at h97
  by_cases hc : (clF N).1 < 0
  · have e : flatQ N (brF N) (clF N).1 = false := by unfold flatQ; rw [if_neg (by omega)]
    have e2 : circF N (brF N) (clF N).1 = (0, 0) := by unfold circF; rw [if_pos hc]
    rw [e, e2]
    refine sound (d := 2) tok2 mixed2 Try.func53 (by kernel_rfl) (by kernel_rfl) ?_
    conv => whnf
    refine .inl ⟨_, _, byX rfl (Sound1.pl (h97) rfl), ?_⟩
    conv => whnf
    refine ifB_dec (fun w1 => ?_) (fun w1 => ?_)
    · conv => whnf
      refine ⟨?_, nofun⟩
      exact ave_rngE _ _ _ _ rfl
    · (exfalso; omega)
  · have hc0 : 0 ≤ (clF N).1 := by omega
    have h112 := fun q hq => S112 N hok hF hc0 q hq
    have hA := h112 (-200000) (by omega)
    have hB := h112 200000 (by omega)
    have hm := circHi_mem N (brF N) (clF N).1
    have hZ := h112 _ hm
    have h113 := fun n => S113 n 2 (by omega)
    unfold flatQ flatB
    rw [if_pos hc0]
    by_cases hfl : gapF N (brF N) (clF N).1 (-200000) = gapF N (brF N) (clF N).1 200000
    · rw [decide_eq_true hfl]
      refine sound (d := 2) tok2 mixed2 Try.func53 (by kernel_rfl) (by kernel_rfl) ?_
      conv => whnf
      refine .inl ⟨_, _, byX rfl (Sound1.pl (h97) rfl), ?_⟩
      conv => whnf
      refine ifB_dec (fun w1 => ?_) (fun w1 => ?_)
      · (exfalso; omega)
      · conv => whnf
        refine ⟨[], by kernel_rfl, ?_⟩
        conv => whnf
        refine .inl ⟨_, _, byX rfl (Sound1.pl (hA) rfl), ?_⟩
        conv => whnf
        refine .inl ⟨_, _, byX rfl (Sound1.pl (hB) rfl), ?_⟩
        conv => whnf
        refine ifB_beq (fun w2 => ?_) (fun w2 => ?_)
        · conv => whnf
          refine ⟨?_, nofun⟩
          exact ave_rngE _ _ _ _ rfl
        · (exfalso; omega)
    · rw [decide_eq_false hfl]
      unfold circF
      rw [if_neg hc]
      refine sound (d := 2) tok2 mixed2 Try.func53 (by kernel_rfl) (by kernel_rfl) ?_
      conv => whnf
      refine .inl ⟨_, _, byX rfl (Sound1.pl (h97) rfl), ?_⟩
      conv => whnf
      refine ifB_dec (fun w1 => ?_) (fun w1 => ?_)
      · (exfalso; omega)
      · conv => whnf
        refine ⟨[], by kernel_rfl, ?_⟩
        conv => whnf
        refine .inl ⟨_, _, byX rfl (Sound1.pl (hA) rfl), ?_⟩
        conv => whnf
        refine .inl ⟨_, _, byX rfl (Sound1.pl (hB) rfl), ?_⟩
        conv => whnf
        refine ifB_beq (fun w2 => ?_) (fun w2 => ?_)
        · (exfalso; omega)
        · conv => whnf
          refine ⟨[], [1, 2, 6, 7], fun st mq => ∃ (n : Nat) (a : Int) (e : Int), (-200000 ≤ a ∧ e ≤ 200000) ∧ ((e - a).toNat < 2 ^ n) ∧ (leastF (fun q => decide (gapF N (brF N) (clF N).1 q ≥ 0)) n a e = circHi N (brF N) (clF N).1) ∧ st = ⟨[(1, .optr 0 0 0 0), (2, .optr 1 0 0 0), (6, i64 a), (7, i64 e)], ⟨[⟨2, 1, fun _ => [listA 4 ndC nd0 N.ns, listA 6 cnC cn0 N.cs], 0, false, true, true⟩, ⟨2, 1, fun _ => [i64 0, i64 0], 0, false, true, true⟩], [], none, 0⟩, []⟩ ∧ mq = n,
            ⟨_, _, ⟨19, -200000, 200000, by omega, by decide, rfl, rfl, rfl⟩, ⟨⟨rfl, rfl, rfl, rfl⟩, ⟨⟨rfl, rfl, rfl, rfl, fun _ => rfl, fun _ _ => rfl⟩, ⟨⟨rfl, rfl, rfl, rfl, fun _ => rfl, fun _ _ => rfl⟩, trivial⟩⟩, trivial⟩⟩, ?_⟩
          rintro s0 m0 ⟨n, a, e, h1, h3, h4, rfl, hmeas⟩
          by_cases hlt : a < e
          · obtain ⟨k, rfl⟩ : ∃ k, n = k + 1 := by
              cases n with
              | zero => simp at h3; omega
              | succ k => exact ⟨k, rfl⟩
            have hs : (e - a).toNat < 2 ^ k * 2 := by rw [← Nat.pow_succ]; exact h3
            have hmid : a + (e - a) / 2 = (a + e) / 2 := by omega
            rw [leastF, if_pos hlt, hmid] at h4
            have hM := h112 ((a + e) / 2) (by omega)
            have h1A := h113 (a + e) (by omega) (by omega)
            conv => whnf
            conv => whnf
            refine ifB_dec (fun w3 => ?_) (fun w3 => ?_)
            · conv => whnf
              conv => whnf
              refine ⟨inK64 (by omega) (by omega), ?_⟩
              conv => whnf
              conv => whnf
              refine .inl ⟨_, _, byX rfl (Sound1.pl (h1A) rfl), ?_⟩
              conv => whnf
              conv => whnf
              refine .inl ⟨_, _, byX rfl (Sound1.pl (hM) rfl), ?_⟩
              conv => whnf
              conv => whnf
              refine ifB_dec (fun w4 => ?_) (fun w4 => ?_)
              · rw [decide_eq_true (show gapF N (brF N) (clF N).1 ((a + e) / 2) ≥ 0 by assumption), cond_true] at h4
                conv => whnf
                conv => whnf
                refine ⟨_, _, ⟨⟨k, a, (a + e) / 2, by omega, by omega, h4, rfl, rfl⟩, by omega⟩, ⟨⟨rfl, rfl, rfl, rfl⟩, ⟨⟨rfl, rfl, rfl, rfl, fun _ => rfl, fun _ _ => rfl⟩, ⟨⟨rfl, rfl, rfl, rfl, fun _ => rfl, fun _ _ => rfl⟩, trivial⟩⟩, trivial⟩⟩
              · conv => whnf
                conv => whnf
                refine ⟨inK64 (by omega) (by omega), ?_⟩
                rw [decide_eq_false (show ¬ gapF N (brF N) (clF N).1 ((a + e) / 2) ≥ 0 by assumption), cond_false] at h4
                conv => whnf
                conv => whnf
                refine ⟨_, _, ⟨⟨k, (a + e) / 2 + 1, e, by omega, by omega, h4, rfl, rfl⟩, by omega⟩, ⟨⟨rfl, rfl, rfl, rfl⟩, ⟨⟨rfl, rfl, rfl, rfl, fun _ => rfl, fun _ _ => rfl⟩, ⟨⟨rfl, rfl, rfl, rfl, fun _ => rfl, fun _ _ => rfl⟩, trivial⟩⟩, trivial⟩⟩
            · (exfalso; omega)
          · have h5 := leastF_done (p := fun q => decide (gapF N (brF N) (clF N).1 q ≥ 0)) (n := n) hlt
            rw [h5] at h4
            subst h4
            conv => whnf
            conv => whnf
            refine ifB_dec (fun w3 => ?_) (fun w3 => ?_)
            · (exfalso; omega)
            · conv => whnf
              conv => whnf
              refine .inl ⟨_, _, byX rfl (Sound1.pl (hZ) rfl), ?_⟩
              conv => whnf
              conv => whnf
              refine ifB_beq (fun w4 => ?_) (fun w4 => ?_)
              · conv => whnf
                conv => whnf
                refine ⟨?_, nofun⟩
                rw [if_pos (show gapF N (brF N) (clF N).1 (circHi N (brF N) (clF N).1) = 0 by assumption)]
                exact ave_rngE _ _ _ _ rfl
              · conv => whnf
                conv => whnf
                refine ⟨inK64 (by omega) (by omega), ?_⟩
                conv => whnf
                conv => whnf
                refine ⟨?_, nofun⟩
                rw [if_neg (show ¬ gapF N (brF N) (clF N).1 (circHi N (brF N) (clF N).1) = 0 by assumption)]
                exact ave_rngE _ _ _ _ rfl

/-- As S21 says it. -/
theorem S21c (q : Int) : SP 21 [i64 q] (i64 (crE q)) false := by
  have h := S21 q
  have e : (if -200000 ≤ q ∧ q ≤ 200000 then (0 : Int) else 2) = crE q := by unfold crE; simp only [decide_eq_true_eq]
  rw [e] at h; exact h
theorem crE_two (q : Int) : crE q = 0 ∨ crE q = 2 := by unfold crE; split <;> simp
theorem S52 (N : Net) (hok : N.Ok) (hF : formE N = 0) (x y : Int) : SP 52 [netV N, .agg [i64 x, i64 y]] (i64 (chkE N (x, y))) false := by
  have hS := stOk hok
  have hx := S21c x
  have hy := S21c y
  have h53 := S53 N hok (formE_ok hF).2
  have hp := fun h => proves_iff hS (net_ne hok hS.cl) h (x, y)
  unfold chkE chk0
  rw [firstOf4, if_pos hF]
  simp only
  rcases crE_two x with ex | ex
  · rw [ex] at hx ⊢
    rcases crE_two y with ey | ey
    · rw [ey] at hy ⊢
      simp only [if_true]
      by_cases hxy : x ≤ y
      · rw [decide_eq_true hxy]
        simp only [if_true]
        cases hq : flatQ N (brF N) (clF N).1 with
        | true =>
          rw [hq] at h53
          simp only [if_true] at h53 ⊢
          refine sound (d := 2) tok2 mixed2 Try.func52 (by kernel_rfl) (by kernel_rfl) ?_
          conv => whnf
          refine .inl ⟨_, _, byX rfl (Sound1.pl (hx) rfl), ?_⟩
          conv => whnf
          refine .inl ⟨_, _, byX rfl (Sound1.pl (hy) rfl), ?_⟩
          conv => whnf
          refine ifB_dec (fun w1 => ?_) (fun w1 => ?_)
          · (exfalso; omega)
          · conv => whnf
            refine .inl ⟨_, _, byX rfl (Sound1.pl (h53) rfl), ?_⟩
            conv => whnf
            refine ⟨?_, nofun⟩
            rfl
        | false =>
          rw [hq] at h53
          simp only [Bool.false_eq_true, if_false] at h53 ⊢
          have hp := hp (flatQ_of hq)
          generalize circF N (brF N) (clF N).1 = z at *
          obtain ⟨z1, z2⟩ := z
          change SP 53 [netV N] (.tuple [.agg [i64 z1, i64 z2], i64 0]) false at h53
          rw [Prod.mk.injEq] at hp
          refine sound (d := 2) tok2 mixed2 Try.func52 (by kernel_rfl) (by kernel_rfl) ?_
          conv => whnf
          refine .inl ⟨_, _, byX rfl (Sound1.pl (hx) rfl), ?_⟩
          conv => whnf
          refine .inl ⟨_, _, byX rfl (Sound1.pl (hy) rfl), ?_⟩
          conv => whnf
          refine ifB_dec (fun w1 => ?_) (fun w1 => ?_)
          · (exfalso; omega)
          · conv => whnf
            refine .inl ⟨_, _, byX rfl (Sound1.pl (h53) rfl), ?_⟩
            conv => whnf
            refine ifB_not ?_
            conv => whnf
            refine ifB_veq2 (fun w2 => ?_) (fun w2 => ?_)
            · conv => whnf
              refine ⟨?_, nofun⟩
              show i64 _ = i64 _
              rw [if_pos (hp.2 (by assumption))]
            · conv => whnf
              refine ⟨?_, nofun⟩
              show i64 _ = i64 _
              rw [if_neg (fun h => absurd (hp.1 h) (by assumption))]
      · rw [decide_eq_false hxy]
        refine sound (d := 2) tok2 mixed2 Try.func52 (by kernel_rfl) (by kernel_rfl) ?_
        conv => whnf
        refine .inl ⟨_, _, byX rfl (Sound1.pl (hx) rfl), ?_⟩
        conv => whnf
        refine .inl ⟨_, _, byX rfl (Sound1.pl (hy) rfl), ?_⟩
        conv => whnf
        refine ifB_dec (fun w1 => ?_) (fun w1 => ?_)
        · conv => whnf
          refine ⟨?_, nofun⟩
          rfl
        · (exfalso; omega)
    · rw [ey] at hy ⊢
      refine sound (d := 2) tok2 mixed2 Try.func52 (by kernel_rfl) (by kernel_rfl) ?_
      conv => whnf
      refine .inl ⟨_, _, byX rfl (Sound1.pl (hx) rfl), ?_⟩
      conv => whnf
      refine .inl ⟨_, _, byX rfl (Sound1.pl (hy) rfl), ?_⟩
      conv => whnf
      refine ⟨?_, nofun⟩
      rfl
  · rw [ex] at hx ⊢
    refine sound (d := 2) tok2 mixed2 Try.func52 (by kernel_rfl) (by kernel_rfl) ?_
    conv => whnf
    refine .inl ⟨_, _, byX rfl (Sound1.pl (hx) rfl), ?_⟩
    conv => whnf
    refine ⟨?_, nofun⟩
    rfl

theorem S54 (N : Net) (hok : N.Ok) (hF : (clF N).2 = 0) (x y : Int) (hx : -200000 ≤ x ∧ x ≤ 200000) (hy : -200000 ≤ y ∧ y ≤ 200000) :
    SP 54 [netV N, .agg [i64 x, i64 y]] (sdA (rngL (stateF N (brF N) (clF N).1 x).1 (stateF N (brF N) (clF N).1 y).1, rngL (stateF N (brF N) (clF N).1 x).2 (stateF N (brF N) (clF N).1 y).2)) false := by
  have hS := stOk hok
  have hn := hS.n1
  have hc := hS.c1
  have hA := S114 N hok hF x hx
  have hB := S114 N hok hF y hy
  have lA := state_len N (brF N) (clF N).1 x
  have lB := state_len N (brF N) (clF N).1 y
  have k1 := rngL_len lA.1 lB.1
  have k2 := rngL_len lA.2 lB.2
  have e1 := fun i => rngL_getD lA.1 lB.1 (i := i)
  have e2 := fun i => rngL_getD lA.2 lB.2 (i := i)
  generalize stateF N (brF N) (clF N).1 x = sA at *
  generalize stateF N (brF N) (clF N).1 y = sB at *
  unfold stA at hA hB
  rw [ints_n lA.1, ints_n lA.2] at hA
  rw [ints_n lB.1, ints_n lB.2] at hB
  refine sound (d := 2) tok2 mixed2 Try.func54 (by kernel_rfl) (by kernel_rfl) ?_
  conv => whnf
  refine ⟨[], by kernel_rfl, ?_⟩
  conv => whnf
  refine .inl ⟨_, _, byX rfl (hA), ?_⟩
  conv => whnf
  refine .inl ⟨_, _, byX rfl (hB), ?_⟩
  conv => whnf
  refine ⟨[.cell 5 0 2], [4, 5, 6, 7, 8], fun st mq => ∃ (k : Nat), (k ≤ N.cs.length) ∧ st = ⟨[(4, .optr 2 0 0 0), (5, .optr 3 0 0 0), (6, .optr 4 0 0 0), (7, .optr 5 0 0 0), (8, i64 k)], ⟨[⟨2, 1, fun _ => [listA 4 ndC nd0 N.ns, listA 6 cnC cn0 N.cs], 0, false, true, true⟩, ⟨2, 1, fun _ => [i64 x, i64 y], 0, false, true, true⟩, ⟨2, 1, fun _ => [.eslice, .eslice], 0, false, true, true⟩, ⟨2, 1, fun _ => [.rslice 1 N.cs.length fun i => [i64 (sA.1.getD i 0)], .rslice 1 N.ns.length fun i => [i64 (sA.2.getD i 0)]], 0, false, true, true⟩, ⟨2, 1, fun _ => [.rslice 1 N.cs.length fun i => [i64 (sB.1.getD i 0)], .rslice 1 N.ns.length fun i => [i64 (sB.2.getD i 0)]], 0, false, true, true⟩, ⟨2, 1, fun _ => [.oslice 6 0 0 k none, .eslice], 0, false, false, true⟩, ⟨2, k, fun i => brC ((rngL sA.1 sB.1).getD i (0, 0)), 0, false, true, false⟩], [], none, 0⟩, []⟩ ∧ mq = N.cs.length - k,
    ⟨_, _, ⟨0, by omega, rfl, rfl⟩, ⟨⟨rfl, rfl, rfl, rfl⟩, ⟨⟨rfl, rfl, rfl, rfl, fun _ => rfl, fun _ _ => rfl⟩, ⟨⟨rfl, rfl, rfl, rfl, fun _ => rfl, fun _ _ => rfl⟩, ⟨⟨rfl, rfl, rfl, rfl, fun _ => rfl, fun _ _ => rfl⟩, ⟨⟨rfl, rfl, rfl, rfl, fun _ => rfl, fun _ _ => rfl⟩, ⟨⟨rfl, rfl, rfl, rfl, fun _ => rfl, fun _ _ => rfl⟩, ⟨⟨rfl, rfl, rfl, rfl, nofun, fun _ _ => rfl⟩, ⟨⟨rfl, rfl, rfl, rfl, fun _ => rfl, fun i h => absurd h (Nat.not_lt_zero i)⟩, trivial⟩⟩⟩⟩⟩⟩⟩, trivial⟩⟩, ?_⟩
  rintro s0 m0 ⟨k, hk, rfl, hmeas⟩
  by_cases hkl : k < N.cs.length
  · conv => whnf
    conv => whnf
    refine ifB_dec (fun w1 => ?_) (fun w1 => ?_)
    · conv => whnf
      conv => whnf
      refine ⟨[], by kernel_rfl, ?_⟩
      conv => whnf
      conv => whnf
      refine ⟨⟨(by omega), (by omega)⟩, ?_⟩
      conv => whnf
      conv => whnf
      refine ⟨⟨(by omega), (by omega)⟩, ?_⟩
      conv => whnf
      conv => whnf
      refine ⟨⟨(by omega), (by omega)⟩, ?_⟩
      conv => whnf
      conv => whnf
      refine ⟨⟨(by omega), (by omega)⟩, ?_⟩
      conv => whnf
      conv => whnf
      refine ⟨(by show _ * (16 + 1) ≤ _; omega), ?_⟩
      conv => whnf
      conv => whnf
      refine ⟨inK64 (by omega) (by omega), ?_⟩
      conv => whnf
      conv => whnf
      refine ⟨_, _, ⟨⟨k + 1, by omega, rfl, rfl⟩, by omega⟩, ⟨⟨rfl, rfl, rfl, rfl⟩, ⟨⟨rfl, rfl, rfl, rfl, fun _ => rfl, fun _ _ => rfl⟩, ⟨⟨rfl, rfl, rfl, rfl, fun _ => rfl, fun _ _ => rfl⟩, ⟨⟨rfl, rfl, rfl, rfl, fun _ => rfl, fun _ _ => rfl⟩, ⟨⟨rfl, rfl, rfl, rfl, fun _ => rfl, fun _ _ => rfl⟩, ⟨⟨rfl, rfl, rfl, rfl, fun _ => rfl, fun _ _ => rfl⟩, ⟨⟨rfl, rfl, rfl, rfl, nofun, fun _ _ => rfl⟩, ⟨⟨rfl, rfl, rfl, rfl, fun _ => rfl, fun i h => ext_row (congrArg brC (e1 k hkl)) rfl h⟩, trivial⟩⟩⟩⟩⟩⟩⟩, trivial⟩⟩
    · (exfalso; omega)
  · have e : k = N.cs.length := by omega
    subst e
    conv => whnf
    conv => whnf
    refine ifB_dec (fun w1 => ?_) (fun w1 => ?_)
    · (exfalso; omega)
    · conv => whnf
      conv => whnf
      refine ⟨[.cell 5 1 2], [4, 5, 6, 7, 9], fun st mq => ∃ (k : Nat), (k ≤ N.ns.length) ∧ st = ⟨[(4, .optr 2 0 0 0), (5, .optr 3 0 0 0), (6, .optr 4 0 0 0), (7, .optr 5 0 0 0), (9, i64 k)], ⟨[⟨2, 1, fun _ => [listA 4 ndC nd0 N.ns, listA 6 cnC cn0 N.cs], 0, false, true, true⟩, ⟨2, 1, fun _ => [i64 x, i64 y], 0, false, true, true⟩, ⟨2, 1, fun _ => [.eslice, .eslice], 0, false, true, true⟩, ⟨2, 1, fun _ => [.rslice 1 N.cs.length fun i => [i64 (sA.1.getD i 0)], .rslice 1 N.ns.length fun i => [i64 (sA.2.getD i 0)]], 0, false, true, true⟩, ⟨2, 1, fun _ => [.rslice 1 N.cs.length fun i => [i64 (sB.1.getD i 0)], .rslice 1 N.ns.length fun i => [i64 (sB.2.getD i 0)]], 0, false, true, true⟩, ⟨2, 1, fun _ => [.oslice 6 0 0 N.cs.length none, .oslice 7 0 0 k none], 0, false, false, true⟩, ⟨2, N.cs.length, fun i => brC ((rngL sA.1 sB.1).getD i (0, 0)), 0, false, true, false⟩, ⟨2, k, fun i => brC ((rngL sA.2 sB.2).getD i (0, 0)), 0, false, true, false⟩], [], none, 0⟩, []⟩ ∧ mq = N.ns.length - k,
        ⟨_, _, ⟨0, by omega, rfl, rfl⟩, ⟨⟨rfl, rfl, rfl, rfl⟩, ⟨⟨rfl, rfl, rfl, rfl, fun _ => rfl, fun _ _ => rfl⟩, ⟨⟨rfl, rfl, rfl, rfl, fun _ => rfl, fun _ _ => rfl⟩, ⟨⟨rfl, rfl, rfl, rfl, fun _ => rfl, fun _ _ => rfl⟩, ⟨⟨rfl, rfl, rfl, rfl, fun _ => rfl, fun _ _ => rfl⟩, ⟨⟨rfl, rfl, rfl, rfl, fun _ => rfl, fun _ _ => rfl⟩, ⟨⟨rfl, rfl, rfl, rfl, nofun, fun _ _ => rfl⟩, ⟨⟨rfl, rfl, rfl, rfl, fun _ => rfl, fun _ _ => rfl⟩, ⟨⟨rfl, rfl, rfl, rfl, fun _ => rfl, fun i h => absurd h (Nat.not_lt_zero i)⟩, trivial⟩⟩⟩⟩⟩⟩⟩⟩, trivial⟩⟩, ?_⟩
      rintro s0 m0 ⟨k, hk, rfl, hmeas⟩
      by_cases hkl : k < N.ns.length
      · conv => whnf
        conv => whnf
        conv => whnf
        refine ifB_dec (fun w2 => ?_) (fun w2 => ?_)
        · conv => whnf
          conv => whnf
          conv => whnf
          refine ⟨[], by kernel_rfl, ?_⟩
          conv => whnf
          conv => whnf
          conv => whnf
          refine ⟨⟨(by omega), (by omega)⟩, ?_⟩
          conv => whnf
          conv => whnf
          conv => whnf
          refine ⟨⟨(by omega), (by omega)⟩, ?_⟩
          conv => whnf
          conv => whnf
          conv => whnf
          refine ⟨⟨(by omega), (by omega)⟩, ?_⟩
          conv => whnf
          conv => whnf
          conv => whnf
          refine ⟨⟨(by omega), (by omega)⟩, ?_⟩
          conv => whnf
          conv => whnf
          conv => whnf
          refine ⟨(by show _ * (16 + 1) ≤ _; omega), ?_⟩
          conv => whnf
          conv => whnf
          conv => whnf
          refine ⟨inK64 (by omega) (by omega), ?_⟩
          conv => whnf
          conv => whnf
          conv => whnf
          refine ⟨_, _, ⟨⟨k + 1, by omega, rfl, rfl⟩, by omega⟩, ⟨⟨rfl, rfl, rfl, rfl⟩, ⟨⟨rfl, rfl, rfl, rfl, fun _ => rfl, fun _ _ => rfl⟩, ⟨⟨rfl, rfl, rfl, rfl, fun _ => rfl, fun _ _ => rfl⟩, ⟨⟨rfl, rfl, rfl, rfl, fun _ => rfl, fun _ _ => rfl⟩, ⟨⟨rfl, rfl, rfl, rfl, fun _ => rfl, fun _ _ => rfl⟩, ⟨⟨rfl, rfl, rfl, rfl, fun _ => rfl, fun _ _ => rfl⟩, ⟨⟨rfl, rfl, rfl, rfl, nofun, fun _ _ => rfl⟩, ⟨⟨rfl, rfl, rfl, rfl, fun _ => rfl, fun _ _ => rfl⟩, ⟨⟨rfl, rfl, rfl, rfl, fun _ => rfl, fun i h => ext_row (congrArg brC (e2 k hkl)) rfl h⟩, trivial⟩⟩⟩⟩⟩⟩⟩⟩, trivial⟩⟩
        · (exfalso; omega)
      · have e : k = N.ns.length := by omega
        subst e
        conv => whnf
        conv => whnf
        conv => whnf
        refine ifB_dec (fun w2 => ?_) (fun w2 => ?_)
        · (exfalso; omega)
        · conv => whnf
          conv => whnf
          conv => whnf
          refine ⟨?_, nofun⟩
          exact ave_agg2 (k := 4) (ave_br k1.symm fun _ _ => rfl) (ave_br k2.symm fun _ _ => rfl)
theorem S111 (a b : List (Int × Int)) (ha : a.length ≤ 1000000000) (hb : b.length ≤ 1000000000) : SP 111 [brA a, brA b] (vb (decide (a = b))) false := by
  refine sound (d := 2) tok2 mixed2 Try.func111 (by kernel_rfl) (by kernel_rfl) ?_
  conv => whnf
  refine ifB_bne (fun w1 => ?_) (fun w1 => ?_)
  · conv => whnf
    refine ⟨?_, nofun⟩
    exact vbE (by rw [eq_comm, decide_eq_false]; intro e; subst e; exact w1 rfl)
  · have hab : a.length = b.length := by omega
    conv => whnf
    refine ⟨[], [0, 1, 5], fun st mq => ∃ (k : Nat), (k ≤ a.length) ∧ (∀ i, i < k → a.getD i (0, 0) = b.getD i (0, 0)) ∧ st = ⟨[(0, brA a), (1, brA b), (5, i64 k)], ⟨[], [], none, 0⟩, []⟩ ∧ mq = a.length - k,
      ⟨_, _, ⟨0, by omega, fun i h => absurd h (Nat.not_lt_zero i), rfl, rfl⟩, ⟨⟨rfl, rfl, rfl, rfl⟩, trivial, trivial⟩⟩, ?_⟩
    rintro s0 m0 ⟨k, hk, h1, rfl, hmeas⟩
    conv => whnf
    conv => whnf
    refine ifB_dec (fun w2 => ?_) (fun w2 => ?_)
    · conv => whnf
      conv => whnf
      refine ⟨[], by kernel_rfl, ?_⟩
      conv => whnf
      conv => whnf
      refine ⟨⟨(by omega), (by omega)⟩, ?_⟩
      conv => whnf
      conv => whnf
      refine ⟨⟨(by omega), (by omega)⟩, ?_⟩
      conv => whnf
      conv => whnf
      refine ifB_not ?_
      conv => whnf
      conv => whnf
      refine ifB_veq2 (fun w3 => ?_) (fun w3 => ?_)
      · conv => whnf
        conv => whnf
        refine ⟨inK64 (by omega) (by omega), ?_⟩
        have e : a.getD k (0, 0) = b.getD k (0, 0) := by
          have w : (a.getD k (0, 0)).1 = (b.getD k (0, 0)).1 ∧ (a.getD k (0, 0)).2 = (b.getD k (0, 0)).2 := by first | exact w2 | exact w3
          exact Prod.ext w.1 w.2
        conv => whnf
        conv => whnf
        refine ⟨_, _, ⟨⟨k + 1, by omega, fun i hi => (by rcases Nat.lt_or_ge i k with h | h; exact h1 i h; rw [show i = k by omega]; exact e), rfl, rfl⟩, by omega⟩, ⟨⟨rfl, rfl, rfl, rfl⟩, trivial, trivial⟩⟩
      · conv => whnf
        conv => whnf
        refine ⟨?_, nofun⟩
        have w : ¬ ((a.getD k (0, 0)).1 = (b.getD k (0, 0)).1 ∧ (a.getD k (0, 0)).2 = (b.getD k (0, 0)).2) := by first | exact w2 | exact w3
        exact vbE (by rw [eq_comm, decide_eq_false]; intro e; subst e; exact w ⟨rfl, rfl⟩)
    · conv => whnf
      conv => whnf
      refine ⟨?_, nofun⟩
      have e : k = a.length := by omega
      subst e
      refine vbE ?_
      rw [eq_comm, decide_eq_true]
      apply List.ext_getElem hab
      intro i h2 h3
      have := h1 i h2
      simpa [List.getD_eq_getElem?_getD, h2, h3] using this
end Go.Tr

/- Contracts of chapter 2: heads. Conditions: none. -/
namespace Go.Tr
open Go Go.Proofs
set_option maxRecDepth 20000
set_option maxHeartbeats 8000000

/-- Is a head at least a limit? -/
def ansF (x : Int × Int) (lim : Int) : Int := if x.1 ≥ lim then 2 else if x.2 < lim then 0 else 1
theorem S125 (x y lim : Int) : SP 125 [.agg [i64 x, i64 y], i64 lim] (i64 (ansF (x, y) lim)) false := by
  unfold ansF
  refine sound (d := 2) tok2 mixed2 Try.func125 (by kernel_rfl) (by kernel_rfl) ?_
  conv => whnf
  refine ifB_dec (fun w1 => ?_) (fun w1 => ?_)
  · conv => whnf
    refine ⟨?_, nofun⟩
    rw [if_pos (show x ≥ lim by assumption)]; rfl
  · conv => whnf
    refine ifB_dec (fun w2 => ?_) (fun w2 => ?_)
    · conv => whnf
      refine ⟨?_, nofun⟩
      rw [if_neg (show ¬ x ≥ lim by assumption), if_pos (show y < lim by assumption)]; rfl
    · conv => whnf
      refine ⟨?_, nofun⟩
      rw [if_neg (show ¬ x ≥ lim by assumption), if_neg (show ¬ y < lim by assumption)]; rfl
/-- The error of a head. -/
def headE (N : Net) (k lim : Int) : Int := firstOf [flowE N, ndE N k, if decide (0 ≤ lim ∧ lim ≤ 1000000000) = true then 0 else 2]
theorem S88z (k : Int) : SP 88 [.agg [.eslice, .eslice], i64 k] (i64 (ndE ⟨[], []⟩ k)) false :=
  (S88 ⟨[], []⟩ (by decide) k).args rfl fun i y x hy hx => by
    match i, hy, hx with
    | 0, hy, hx =>
      cases hy; cases hx
      exact ave_agg2 (k := 4) (show (0 : Nat) = 0 from rfl) (show (0 : Nat) = 0 from rfl)
    | 1, hy, hx => cases hy; cases hx; rfl
theorem firstOf_ne {a b c : Int} (h : ¬ a = 0) : firstOf [a, b, c] = a := by rw [firstOf3, if_neg h]
theorem S124 (N : Net) (hN : N.In) (k lim : Int) : SP 124 [netV N, i64 k, i64 lim] (.tuple [treeT N, i64 (headE N k lim)]) false := by
  have h106 := S106 N hN
  have hnl := hN.nl
  unfold treeT at h106 ⊢
  by_cases hn : netE N = 0
  · rw [if_pos hn] at h106 ⊢
    have h88 := S88 N hnl k
    refine sound (d := 2) tok2 mixed2 Try.func124 (by kernel_rfl) (by kernel_rfl) ?_
    conv => whnf
    refine .inl ⟨_, _, byX rfl (h106), ?_⟩
    conv => whnf
    refine ⟨[], by kernel_rfl, ?_⟩
    conv => whnf
    refine .inl ⟨_, _, byX rfl (Sound1.pl (h88) rfl), ?_⟩
    conv => whnf
    refine .inl ⟨_, _, byX rfl (Sound1.pl (S74 _ _ _) rfl), ?_⟩
    conv => whnf
    refine .inl ⟨_, _, byX rfl (Sound1.pl (S72 _ _) rfl), ?_⟩
    conv => whnf
    refine .inl ⟨_, _, byX rfl (Sound1.pl (S71_3 _ _ _ _ ⟨rfl, rfl, rfl⟩) rfl), ?_⟩
    conv => whnf
    refine ⟨?_, nofun⟩
    refine ave_tup2 (k := 4) (ave_agg4 (k := 3) (a := .rslice 4 N.ns.length _) (b := .rslice 6 N.cs.length _) (c := .rslice 2 (brF N).length _) (d := i64 (clF N).1) ⟨rfl, rfl, fun _ _ => rfl⟩ ⟨rfl, rfl, fun _ _ => rfl⟩ ⟨rfl, rfl, fun _ _ => rfl⟩ rfl) ?_
    rfl
  · rw [if_neg hn] at h106 ⊢
    have h88 := S88z k
    have hF : ¬ flowE N = 0 := by unfold flowE formE; rw [if_neg hn, if_neg hn]; exact hn
    unfold headE
    rw [firstOf_ne hF]
    refine sound (d := 2) tok2 mixed2 Try.func124 (by kernel_rfl) (by kernel_rfl) ?_
    conv => whnf
    refine .inl ⟨_, _, byX rfl (h106), ?_⟩
    conv => whnf
    refine ⟨[], by kernel_rfl, ?_⟩
    conv => whnf
    refine .inl ⟨_, _, byX rfl (Sound1.pl (h88) rfl), ?_⟩
    conv => whnf
    refine .inl ⟨_, _, byX rfl (Sound1.pl (S74 _ _ _) rfl), ?_⟩
    conv => whnf
    refine .inl ⟨_, _, byX rfl (Sound1.pl (S72 _ _) rfl), ?_⟩
    conv => whnf
    refine .inl ⟨_, _, byX rfl (Sound1.pl (S71_3 _ _ _ _ ⟨rfl, rfl, rfl⟩) rfl), ?_⟩
    conv => whnf
    refine ⟨?_, nofun⟩
    refine ave_tup2 (k := 4) (ave_agg4 (k := 3) rfl rfl rfl rfl) ?_
    show i64 (firstOf _) = i64 _
    rw [firstOf_ne hF]
theorem headE_ok {N : Net} {k lim : Int} (h : headE N k lim = 0) : flowE N = 0 ∧ (0 ≤ k ∧ k < N.ns.length) ∧ 0 ≤ lim ∧ lim ≤ 1000000000 := by
  unfold headE at h
  rw [firstOf3] at h
  split at h
  · rename_i h1
    split at h
    · rename_i h2
      have h3 : 0 ≤ k ∧ k < N.ns.length := by
        unfold ndE at h2
        split at h2
        · omega
        · cases h2
      by_cases e : decide (0 ≤ lim ∧ lim ≤ 1000000000) = true
      · exact ⟨h1, h3, of_decide_eq_true e⟩
      · rw [if_neg e] at h; exact absurd h (by decide)
    · contradiction
  · contradiction
/-- The answer for a head. -/
def ansN (N : Net) (b : List (Int × Int)) (c : Int) (k : Nat) (lim : Int) : Int := ansF ((steadyF N b c).2.getD k (0, 0)) lim
theorem steady_len (N : Net) (b : List (Int × Int)) (c : Int) : (steadyF N b c).1.length = N.cs.length ∧ (steadyF N b c).2.length = N.ns.length :=
  ⟨rngL_len (state_len N _ _ _).1 (state_len N _ _ _).1, rngL_len (state_len N _ _ _).2 (state_len N _ _ _).2⟩
theorem sdA_n (N : Net) (b : List (Int × Int)) (c : Int) : sdA (steadyF N b c) = .agg [.rslice 2 N.cs.length fun i => brC ((steadyF N b c).1.getD i (0, 0)), .rslice 2 N.ns.length fun i => brC ((steadyF N b c).2.getD i (0, 0))] := by
  have h := steady_len N b c
  unfold sdA brA listA
  rw [h.1, h.2]
theorem S61 (N : Net) (hN : N.In) (k lim : Int) : SP 61 [netV N, i64 k, i64 lim] (.tuple [i64 (if headE N k lim = 0 then ansN N (brF N) (clF N).1 k.toNat lim else 0), i64 (headE N k lim)]) false := by
  have h124 := S124 N hN k lim
  by_cases hE : headE N k lim = 0
  · rw [if_pos hE, hE]
    obtain ⟨k1, k2, k3⟩ := headE_ok hE
    have hk := flowE_ok k1
    have hn := formE_ok hk.1
    have hS := stOk (net_ok hn.1)
    have hb := circ_bd hS (net_ne (net_ok hn.1) hS.cl) hk.2
    have h110 := S110 N (brF N) (clF N).1 hS hb.1 hb.2.1
    have h125 := S125 ((steadyF N (brF N) (clF N).1).2.getD k.toNat (0, 0)).1 ((steadyF N (brF N) (clF N).1).2.getD k.toNat (0, 0)).2 lim
    unfold ansN
    rw [sdA_n] at h110
    unfold treeT at h124
    rw [if_pos hn.1, hE] at h124
    generalize steadyF N (brF N) (clF N).1 = sd at *
    refine sound (d := 2) tok2 mixed2 Try.func61 (by kernel_rfl) (by kernel_rfl) ?_
    conv => whnf
    refine .inl ⟨_, _, byX rfl (h124), ?_⟩
    conv => whnf
    refine .inl ⟨_, _, byX rfl (h110), ?_⟩
    conv => whnf
    refine ⟨⟨(by omega), (by omega)⟩, ?_⟩
    conv => whnf
    refine .inl ⟨_, _, byX rfl (Sound1.pl (h125) rfl), ?_⟩
    conv => whnf
    refine ⟨?_, nofun⟩
    exact ave_tup2 (k := 4) rfl rfl
  · rw [if_neg hE]
    unfold treeT at h124
    by_cases hn : netE N = 0
    · rw [if_pos hn] at h124
      refine sound (d := 2) tok2 mixed2 Try.func61 (by kernel_rfl) (by kernel_rfl) ?_
      conv => whnf
      refine .inl ⟨_, _, byX rfl (h124), ?_⟩
      conv => whnf
      refine ifB_bne (fun w1 => ?_) (fun w1 => ?_)
      · conv => whnf
        refine ⟨?_, nofun⟩
        exact ave_tup2 (k := 4) rfl rfl
      · (exfalso; omega)
    · rw [if_neg hn] at h124
      refine sound (d := 2) tok2 mixed2 Try.func61 (by kernel_rfl) (by kernel_rfl) ?_
      conv => whnf
      refine .inl ⟨_, _, byX rfl (h124), ?_⟩
      conv => whnf
      refine ifB_bne (fun w1 => ?_) (fun w1 => ?_)
      · conv => whnf
        refine ⟨?_, nofun⟩
        exact ave_tup2 (k := 4) rfl rfl
      · (exfalso; omega)

theorem plain_nodes (ns : List Nd) : PlainR (leaves (listA 4 ndC nd0 ns)) := by
  refine ⟨fun i _ x hx => ?_, trivial⟩
  simp only [ndC, List.mem_cons, List.not_mem_nil, or_false] at hx
  rcases hx with rfl | rfl | rfl | rfl <;> exact ⟨_, rfl⟩
theorem plain_br (l : List (Int × Int)) : PlainR (leaves (brA l)) := by
  refine ⟨fun i _ x hx => ?_, trivial⟩
  simp only [brC, List.mem_cons, List.not_mem_nil, or_false] at hx
  rcases hx with rfl | rfl <;> exact ⟨_, rfl⟩
/-- The same, in memory of its own. -/
theorem S142o (a b : List Int) (n : Nat) (ha : a.length = n) (hb : b.length = n) (hn : n ≤ 1000000) : SP 142 [ints a, ints b] (brA (rngL a b)) true := by
  rw [ints_n ha, ints_n hb]
  have hl := rngL_len ha hb
  refine sound (d := 2) tok2 mixed2 Try.func142 (by kernel_rfl) (by kernel_rfl) ?_
  conv => whnf
  refine ⟨[.slot 5 2], [0, 1, 5, 8, 9], fun st mq => ∃ (k : Nat), (k ≤ n) ∧ st = ⟨[(0, .rslice 1 n fun i => [i64 (a.getD i 0)]), (1, .rslice 1 n fun i => [i64 (b.getD i 0)]), (5, .oslice 0 0 0 k none), (8, i64 n), (9, i64 k)], ⟨[⟨2, k, fun i => brC ((rngL a b).getD i (0, 0)), 0, false, true, false⟩], [], none, 0⟩, []⟩ ∧ mq = n - k,
    ⟨_, _, ⟨0, by omega, rfl, rfl⟩, ⟨⟨rfl, rfl, rfl, rfl⟩, ⟨⟨rfl, rfl, rfl, rfl, fun _ => rfl, fun i h => absurd h (Nat.not_lt_zero i)⟩, trivial⟩, trivial⟩⟩, ?_⟩
  rintro s0 m0 ⟨k, hk, rfl, hmeas⟩
  by_cases h : k < n
  · have e := rngL_getD ha hb h
    conv => whnf
    conv => whnf
    refine ifB_dec (fun w1 => ?_) (fun w1 => ?_)
    · conv => whnf
      conv => whnf
      refine ⟨[], by kernel_rfl, ?_⟩
      conv => whnf
      conv => whnf
      refine ⟨⟨(by omega), (by omega)⟩, ?_⟩
      conv => whnf
      conv => whnf
      refine ⟨⟨(by omega), (by omega)⟩, ?_⟩
      conv => whnf
      conv => whnf
      refine ⟨⟨(by omega), (by omega)⟩, ?_⟩
      conv => whnf
      conv => whnf
      refine ⟨⟨(by omega), (by omega)⟩, ?_⟩
      conv => whnf
      conv => whnf
      refine ⟨(by show _ * (16 + 1) ≤ _; omega), ?_⟩
      conv => whnf
      conv => whnf
      refine ⟨inK64 (by omega) (by omega), ?_⟩
      conv => whnf
      conv => whnf
      refine ⟨_, _, ⟨⟨k + 1, by omega, rfl, rfl⟩, by omega⟩, ⟨⟨rfl, rfl, rfl, rfl⟩, ⟨⟨rfl, rfl, rfl, rfl, fun _ => rfl, fun i h => ext_row (congrArg brC e) rfl h⟩, trivial⟩, trivial⟩⟩
    · (exfalso; omega)
  · have e : k = n := by omega
    subst e
    conv => whnf
    conv => whnf
    refine ifB_dec (fun w1 => ?_) (fun w1 => ?_)
    · (exfalso; omega)
    · conv => whnf
      conv => whnf
      refine ⟨?_, fun _ => ⟨rfl, ?_⟩⟩
      · exact ⟨rfl, hl.symm, fun i _ => rfl⟩
      · exact plain_br _
theorem S110o (N : Net) (b : List (Int × Int)) (c : Int) (hS : StOk N b c) (h1 : -200000 ≤ (circF N b c).1 ∧ (circF N b c).1 ≤ 200000) (h2 : -200000 ≤ (circF N b c).2 ∧ (circF N b c).2 ≤ 200000) :
    SP 110 [treeA N b c] (sdA (steadyF N b c)) true := by
  have h107 := S107 N b c hS
  have hA := S101 N b c (circF N b c).1 hS h1
  have hB := S101 N b c (circF N b c).2 hS h2
  have lA := state_len N b c (circF N b c).1
  have lB := state_len N b c (circF N b c).2
  have hn := hS.n1
  have hc := hS.c1
  have h5 := S142o _ _ N.cs.length lA.1 lB.1 (by omega)
  have h6 := S142o _ _ N.ns.length lA.2 lB.2 (by omega)
  unfold sdA steadyF
  have k1 := rngL_len lA.1 lB.1
  have k2 := rngL_len lA.2 lB.2
  generalize stateF N b c (circF N b c).1 = sA at *
  generalize stateF N b c (circF N b c).2 = sB at *
  refine sound (d := 2) tok2 mixed2 Try.func110 (by kernel_rfl) (by kernel_rfl) ?_
  conv => whnf
  refine .inl ⟨_, _, byX rfl (Sound1.pl (h107) rfl), ?_⟩
  conv => whnf
  refine ⟨[], by kernel_rfl, ?_⟩
  conv => whnf
  refine .inl ⟨_, _, byX rfl (hA), ?_⟩
  conv => whnf
  refine .inl ⟨_, _, byX rfl (hB), ?_⟩
  conv => whnf
  refine ⟨[], by kernel_rfl, ?_⟩
  conv => whnf
  refine .inl ⟨_, _, byX rfl (h5), ?_⟩
  conv => whnf
  refine .inl ⟨_, _, byX rfl (h6), ?_⟩
  conv => whnf
  refine ⟨?_, fun _ => ⟨rfl, ?_⟩⟩
  · exact ave_agg2 (k := 4) (ave_br rfl fun _ _ => rfl) (ave_br rfl fun _ _ => rfl)
  · exact ⟨(plain_br _).1, (plain_br _).1, trivial⟩
theorem S126 (ns : List Nd) (h0 : 0 < ns.length) (h1 : ns.length ≤ 1000) : SP 126 [listA 4 ndC nd0 ns] (listA 4 ndC nd0 ns) true := by
  refine sound (d := 2) tok2 mixed2 Try.func126 (by kernel_rfl) (by kernel_rfl) ?_
  rintro (_ | _) w1
  · conv => whnf
    refine ⟨⟨(by omega), (by show _ * (40 + 1) ≤ _; omega)⟩, ?_⟩
    conv => whnf
    refine ⟨?_, fun _ => ⟨rfl, ?_⟩⟩
    · refine ⟨rfl, Nat.zero_add _, fun i _ => ?_⟩
      show ndC (ns.getD (i - 0) nd0) = _
      rw [Nat.sub_zero]
    · exact plain_nodes ns
  · (exact absurd (w1 (by omega)) nofun)
/-- From a number down: the first for which something holds. -/
def mostS (p : Nat → Bool) : Nat → Int × Int
  | 0 => if p 0 then (0, 0) else (0, 12)
  | m + 1 => if p (m + 1) then ((m + 1 : Nat), 0) else mostS p m
/-- Does the head keep the limit with so much more drawn? -/
def keepB (N : Net) (b : List (Int × Int)) (c : Int) (k : Nat) (lim : Int) (m : Nat) : Bool := ansN (setD N k ((N.ns.getD k nd0).draw + m)) b c k lim == 2
def mostE (N : Net) (k : Nat) : Int := firstOf [if (!(N.ns.getD k nd0).lake) = true then 0 else 15, if decide ((N.ns.getD k nd0).draw ≤ 9900) = true then 0 else 2]
def mostF (N : Net) (k lim : Int) : Int × Int :=
  if headE N k lim = 0 then (if mostE N k.toNat = 0 then mostS (keepB N (brF N) (clF N).1 k.toNat lim) 100 else (0, mostE N k.toNat)) else (0, headE N k lim)
theorem mostE_ok {N : Net} {k : Nat} (h : mostE N k = 0) : (N.ns.getD k nd0).lake = false ∧ (N.ns.getD k nd0).draw ≤ 9900 := by
  unfold mostE at h
  rw [firstOf2] at h
  cases hl : (N.ns.getD k nd0).lake with
  | true => rw [hl] at h; rw [if_neg (show ¬ (if (!true) = true then (0 : Int) else 15) = 0 by decide)] at h; exact absurd h (by decide)
  | false =>
    rw [hl] at h
    by_cases hd : decide ((N.ns.getD k nd0).draw ≤ 9900) = true
    · exact ⟨rfl, of_decide_eq_true hd⟩
    · rw [if_neg hd] at h; exact absurd h (by decide)
theorem mostS_hit {p : Nat → Bool} {m : Nat} (h : p m = true) : mostS p m = ((m : Int), 0) := by
  cases m with
  | zero => rw [mostS, if_pos h]; rfl
  | succ m => rw [mostS, if_pos h]
theorem mostS_miss {p : Nat → Bool} {m : Nat} (h : p m = false) : mostS p m = if m = 0 then (0, 12) else mostS p (m - 1) := by
  cases m with
  | zero => rw [mostS, if_neg (by rw [h]; decide), if_pos rfl]
  | succ m => rw [mostS, if_neg (by rw [h]; decide), if_neg (by omega)]; rfl
/-- One step down. -/
theorem mostS_step {p : Nat → Bool} {v : Int} {R : Int × Int} (h0 : 0 ≤ v) (h : (0 ≤ v ∧ mostS p v.toNat = R) ∨ (v = -1 ∧ R = (0, 12))) :
    (p v.toNat = true → R = (v, 0)) ∧ (p v.toNat = false → (0 ≤ v - 1 ∧ mostS p (v - 1).toNat = R) ∨ (v - 1 = -1 ∧ R = (0, 12))) := by
  rcases h with ⟨_, h⟩ | ⟨h, _⟩
  · refine ⟨fun e => ?_, fun e => ?_⟩
    · rw [mostS_hit e] at h
      rw [← h, Int.toNat_of_nonneg h0]
    · rw [mostS_miss e] at h
      by_cases hz : v.toNat = 0
      · rw [if_pos hz] at h; exact .inr ⟨by omega, h.symm⟩
      · rw [if_neg hz] at h
        refine .inl ⟨by omega, ?_⟩
        rw [show (v - 1).toNat = v.toNat - 1 by omega]; exact h
  · omega
theorem treeA_set (N : Net) (k : Nat) (d : Int) (b : List (Int × Int)) (c : Int) : treeA (setD N k d) b c = .agg [.rslice 4 N.ns.length fun i => ndC ((nsD N.ns k d).getD i nd0), listA 6 cnC cn0 N.cs, brA b, i64 c] := by
  unfold treeA
  rw [show listA 4 ndC nd0 (setD N k d).ns = .rslice 4 N.ns.length fun i => ndC ((nsD N.ns k d).getD i nd0) from by unfold listA; rw [setD_ns]; rfl]
  rfl
theorem S62 (N : Net) (hN : N.In) (k lim : Int) : SP 62 [netV N, i64 k, i64 lim] (.tuple [i64 (mostF N k lim).1, i64 (mostF N k lim).2]) false := by
  have h124 := S124 N hN k lim
  generalize hR : mostF N k lim = R
  unfold mostF at hR
  by_cases hE : headE N k lim = 0
  · rw [if_pos hE] at hR
    obtain ⟨k1, k2, k3⟩ := headE_ok hE
    have hk := flowE_ok k1
    have hn := formE_ok hk.1
    have hok := net_ok hn.1
    have hn1 := hok.n1
    have hn0 := hok.n0
    have h126 := S126 N.ns hok.n0 (by omega)
    have hdr := ((stOk hok).dr _ (getD_memN (ns := N.ns) (k := k.toNat) (by omega)))
    unfold treeT at h124
    rw [if_pos hn.1, hE] at h124
    by_cases hM : mostE N k.toNat = 0
    · rw [if_pos hM] at hR
      obtain ⟨m1, m2⟩ := mostE_ok hM
      unfold mostE at hM
      refine sound (d := 2) tok2 mixed2 Try.func62 (by kernel_rfl) (by kernel_rfl) ?_
      conv => whnf
      refine .inl ⟨_, _, byX rfl (h124), ?_⟩
      conv => whnf
      refine ⟨⟨(by omega), (by omega)⟩, ?_⟩
      conv => whnf
      refine ⟨[], by kernel_rfl, ?_⟩
      conv => whnf
      refine .inl ⟨_, _, byX rfl (Sound1.pl (S72 _ _) rfl), ?_⟩
      conv => whnf
      refine .inl ⟨_, _, byX rfl (Sound1.pl (S72 _ _) rfl), ?_⟩
      conv => whnf
      refine .inl ⟨_, _, byX rfl (Sound1.pl (S71_2 _ _ _ ⟨rfl, rfl⟩) rfl), ?_⟩
      conv => whnf
      refine ifB_bne (fun w1 => ?_) (fun w1 => ?_)
      · (exfalso; omega)
      · conv => whnf
        refine .inl ⟨_, _, byX rfl (h126), ?_⟩
        conv => whnf
        refine ⟨[], [1, 2, 8, 10, 11], fun st mq => ∃ (v : Int) (d : Int) (F3 : Nat → List AV), (-1 ≤ v ∧ v ≤ 100) ∧ ((0 ≤ v ∧ mostS (keepB N (brF N) (clF N).1 k.toNat lim) v.toNat = R) ∨ (v = -1 ∧ R = (0, 12))) ∧ st = ⟨[(1, i64 k), (2, i64 lim), (8, .optr 1 0 0 0), (10, .optr 2 0 0 0), (11, i64 v)], ⟨[netBlk N, ⟨4, 1, fun _ => [.oslice 4 0 0 N.ns.length none, listA 6 cnC cn0 N.cs, brA (brF N), i64 (clF N).1], 0, false, false, true⟩, ⟨4, 1, fun _ => ndC (N.ns.getD k.toNat nd0), 0, false, true, true⟩, ⟨1, 2, F3, 0, false, true, false⟩, ⟨4, N.ns.length, fun i => ndC ((nsD N.ns k.toNat d).getD i nd0), 0, false, true, false⟩], [], none, 0⟩, []⟩ ∧ mq = (v + 1).toNat,
          ⟨_, _, ⟨100, (N.ns.getD k.toNat nd0).draw, _, by omega, .inl ⟨by omega, hR⟩, rfl, rfl⟩, ⟨⟨rfl, rfl, rfl, rfl⟩, ⟨⟨rfl, rfl, rfl, rfl, fun _ => rfl, fun _ _ => rfl⟩, ⟨⟨rfl, rfl, rfl, rfl, nofun, fun _ _ => rfl⟩, ⟨⟨rfl, rfl, rfl, rfl, fun _ => rfl, fun _ _ => rfl⟩, ⟨⟨rfl, rfl, rfl, rfl, fun _ => rfl, fun _ _ => rfl⟩, ⟨⟨rfl, rfl, rfl, rfl, fun _ => rfl, fun i _ => (by show ndC _ = ndC _; rw [nsD_self _ _ _ (by omega)])⟩, trivial⟩⟩⟩⟩⟩, trivial⟩⟩, ?_⟩
        rintro s0 m0 ⟨v, d, F3, hv, h1, rfl, hmeas⟩
        by_cases hv0 : 0 ≤ v
        · have hst := mostS_step hv0 h1
          have hok' := setD_ok (d := (N.ns.getD k.toNat nd0).draw + v) hok (show k.toNat < N.ns.length by omega) m1 (by omega)
          have hkl : k.toNat < N.ns.length := by omega
          have hS := stOk hok
          have hS' := stOk hok'
          rw [setD_br N _ _ hkl, setD_cl N _ _ hkl] at hS'
          have hb := circ_bd hS' (net_ne hok hS.cl) (by rw [setD_flat hS hS' (net_ne hok hS.cl)]; exact hk.2)
          have h110 := S110o (setD N k.toNat ((N.ns.getD k.toNat nd0).draw + v)) (brF N) (clF N).1 hS' hb.1 hb.2.1
          rw [treeA_set, sdA_n, setD_ns] at h110
          have hka : keepB N (brF N) (clF N).1 k.toNat lim v.toNat = (ansF ((steadyF (setD N k.toNat ((N.ns.getD k.toNat nd0).draw + v)) (brF N) (clF N).1).2.getD k.toNat (0, 0)) lim == 2) := by
            unfold keepB ansN
            rw [Int.toNat_of_nonneg hv0]
          rw [hka] at hst
          generalize steadyF (setD N k.toNat ((N.ns.getD k.toNat nd0).draw + v)) (brF N) (clF N).1 = sd at *
          have h125 := S125 (sd.2.getD k.toNat (0, 0)).1 (sd.2.getD k.toNat (0, 0)).2 lim
          conv => whnf
          conv => whnf
          refine ifB_dec (fun w2 => ?_) (fun w2 => ?_)
          · conv => whnf
            conv => whnf
            refine ⟨inK64 (by omega) (by omega), ?_⟩
            conv => whnf
            conv => whnf
            refine ⟨⟨(by omega), (by omega)⟩, ?_⟩
            refine ⟨_, fun i _ => nd_row N.ns k.toNat i d _ hkl, ?_⟩
            conv => whnf
            conv => whnf
            refine .inl ⟨_, _, byX rfl (h110), ?_⟩
            conv => whnf
            conv => whnf
            refine ⟨⟨(by omega), (by omega)⟩, ?_⟩
            conv => whnf
            conv => whnf
            refine .inl ⟨_, _, byX rfl (Sound1.pl (S125 _ _ _) rfl), ?_⟩
            conv => whnf
            conv => whnf
            refine ifB_beq (fun w3 => ?_) (fun w3 => ?_)
            · conv => whnf
              conv => whnf
              refine ⟨?_, nofun⟩
              have w := w3
              rw [Nat.zero_add] at w
              rw [hst.1 (beq_iff_eq.2 w)]
              exact ave_tup2 (k := 4) rfl rfl
            · conv => whnf
              conv => whnf
              refine ⟨inK64 (by omega) (by omega), ?_⟩
              have w := w3
              rw [Nat.zero_add] at w
              have w := hst.2 (beq_eq_false_iff_ne.2 w)
              conv => whnf
              conv => whnf
              refine ⟨_, _, ⟨⟨v - 1, _, _, by omega, w, rfl, rfl⟩, by omega⟩, ⟨⟨rfl, rfl, rfl, rfl⟩, ⟨⟨rfl, rfl, rfl, rfl, fun _ => rfl, fun _ _ => rfl⟩, ⟨⟨rfl, rfl, rfl, rfl, nofun, fun _ _ => rfl⟩, ⟨⟨rfl, rfl, rfl, rfl, fun _ => rfl, fun _ _ => rfl⟩, ⟨⟨rfl, rfl, rfl, rfl, fun _ => rfl, fun _ _ => rfl⟩, ⟨⟨rfl, rfl, rfl, rfl, fun _ => rfl, fun _ _ => rfl⟩, trivial⟩⟩⟩⟩⟩, trivial⟩⟩
          · (exfalso; omega)
        · have e : R = (0, 12) := by
            rcases h1 with h1 | h1
            · omega
            · exact h1.2
          subst e
          conv => whnf
          conv => whnf
          refine ifB_dec (fun w2 => ?_) (fun w2 => ?_)
          · (exfalso; omega)
          · conv => whnf
            conv => whnf
            refine ⟨?_, nofun⟩
            exact ave_tup2 (k := 4) rfl rfl
    · rw [if_neg hM] at hR
      subst hR
      unfold mostE at hM ⊢
      refine sound (d := 2) tok2 mixed2 Try.func62 (by kernel_rfl) (by kernel_rfl) ?_
      conv => whnf
      refine .inl ⟨_, _, byX rfl (h124), ?_⟩
      conv => whnf
      refine ⟨⟨(by omega), (by omega)⟩, ?_⟩
      conv => whnf
      refine ⟨[], by kernel_rfl, ?_⟩
      conv => whnf
      refine .inl ⟨_, _, byX rfl (Sound1.pl (S72 _ _) rfl), ?_⟩
      conv => whnf
      refine .inl ⟨_, _, byX rfl (Sound1.pl (S72 _ _) rfl), ?_⟩
      conv => whnf
      refine .inl ⟨_, _, byX rfl (Sound1.pl (S71_2 _ _ _ ⟨rfl, rfl⟩) rfl), ?_⟩
      conv => whnf
      refine ifB_bne (fun w1 => ?_) (fun w1 => ?_)
      · conv => whnf
        refine ⟨?_, nofun⟩
        exact ave_tup2 (k := 4) rfl rfl
      · (exfalso; omega)
  · rw [if_neg hE] at hR
    subst hR
    unfold treeT at h124
    by_cases hn : netE N = 0
    · rw [if_pos hn] at h124
      refine sound (d := 2) tok2 mixed2 Try.func62 (by kernel_rfl) (by kernel_rfl) ?_
      conv => whnf
      refine .inl ⟨_, _, byX rfl (h124), ?_⟩
      conv => whnf
      refine ifB_bne (fun w1 => ?_) (fun w1 => ?_)
      · conv => whnf
        refine ⟨?_, nofun⟩
        exact ave_tup2 (k := 4) rfl rfl
      · (exfalso; omega)
    · rw [if_neg hn] at h124
      refine sound (d := 2) tok2 mixed2 Try.func62 (by kernel_rfl) (by kernel_rfl) ?_
      conv => whnf
      refine .inl ⟨_, _, byX rfl (h124), ?_⟩
      conv => whnf
      refine ifB_bne (fun w1 => ?_) (fun w1 => ?_)
      · conv => whnf
        refine ⟨?_, nofun⟩
        exact ave_tup2 (k := 4) rfl rfl
      · (exfalso; omega)

/-- The reference's error of a head. -/
theorem S63 (N : Net) (hN : N.In) (k lim : Int) : SP 63 [netV N, i64 k, i64 lim] (i64 (headE N k lim)) false := by
  have h38 := S38 N hN
  unfold headE
  rw [firstOf3]
  unfold flowE
  by_cases hF : formE N = 0
  · rw [if_pos hF]
    rw [hF] at h38
    have hn := formE_ok hF
    have hok := net_ok hn.1
    have hn1 := hok.n1
    have h53 := S53 N hok hn.2
    have h33 := S33 N hN.nl k
    have h20 := S20 lim 0 1000000000
    cases hq : flatQ N (brF N) (clF N).1 with
    | true =>
      rw [hq] at h53
      simp only [if_true] at h53 ⊢
      refine sound (d := 2) tok2 mixed2 Try.func63 (by kernel_rfl) (by kernel_rfl) ?_
      conv => whnf
      refine .inl ⟨_, _, byX rfl (Sound1.pl (h38) rfl), ?_⟩
      conv => whnf
      refine .inl ⟨_, _, byX rfl (Sound1.pl (h53) rfl), ?_⟩
      conv => whnf
      refine ⟨?_, nofun⟩
      rfl
    | false =>
      rw [hq] at h53
      simp only [Bool.false_eq_true, if_false, if_true] at h53 ⊢
      by_cases hk : ndE N k = 0
      · rw [hk] at h33 ⊢
        simp only [if_true]
        refine sound (d := 2) tok2 mixed2 Try.func63 (by kernel_rfl) (by kernel_rfl) ?_
        conv => whnf
        refine .inl ⟨_, _, byX rfl (Sound1.pl (h38) rfl), ?_⟩
        conv => whnf
        refine .inl ⟨_, _, byX rfl (Sound1.pl (h53) rfl), ?_⟩
        conv => whnf
        refine .inl ⟨_, _, byX rfl (Sound1.pl (h33) rfl), ?_⟩
        conv => whnf
        refine .inl ⟨_, _, byX rfl (Sound1.pl (h20) rfl), ?_⟩
        conv => whnf
        refine ifB_not ?_
        conv => whnf
        refine ifB_dec (fun w1 => ?_) (fun w1 => ?_)
        · conv => whnf
          refine ⟨?_, nofun⟩
          rw [decide_eq_true (show 0 ≤ lim ∧ lim ≤ 1000000000 by assumption)]; rfl
        · conv => whnf
          refine ⟨?_, nofun⟩
          rw [decide_eq_false (show ¬ (0 ≤ lim ∧ lim ≤ 1000000000) by assumption)]; rfl
      · rw [if_neg hk]
        refine sound (d := 2) tok2 mixed2 Try.func63 (by kernel_rfl) (by kernel_rfl) ?_
        conv => whnf
        refine .inl ⟨_, _, byX rfl (Sound1.pl (h38) rfl), ?_⟩
        conv => whnf
        refine .inl ⟨_, _, byX rfl (Sound1.pl (h53) rfl), ?_⟩
        conv => whnf
        refine .inl ⟨_, _, byX rfl (Sound1.pl (h33) rfl), ?_⟩
        conv => whnf
        refine ifB_bne (fun w1 => ?_) (fun w1 => ?_)
        · conv => whnf
          refine ⟨?_, nofun⟩
          rfl
        · (exfalso; omega)
  · rw [if_neg hF, if_neg hF]
    refine sound (d := 2) tok2 mixed2 Try.func63 (by kernel_rfl) (by kernel_rfl) ?_
    conv => whnf
    refine .inl ⟨_, _, byX rfl (Sound1.pl (h38) rfl), ?_⟩
    conv => whnf
    refine ifB_bne (fun w1 => ?_) (fun w1 => ?_)
    · conv => whnf
      refine ⟨?_, nofun⟩
      rfl
    · (exfalso; omega)
theorem S65 (N : Net) (hok : N.Ok) (hF : (clF N).2 = 0) (hq : flatQ N (brF N) (clF N).1 = false) (k lim : Int) (h0 : 0 ≤ k) (h1 : k < N.ns.length) :
    SP 65 [netV N, i64 k, i64 lim] (i64 (ansN N (brF N) (clF N).1 k.toNat lim)) false := by
  have hS := stOk hok
  have h53 := S53 N hok hF
  rw [hq] at h53
  simp only [Bool.false_eq_true, if_false] at h53
  obtain ⟨q1, q2, _, _⟩ := circ_bd hS (net_ne hok hS.cl) hq
  have h54 := S54 N hok hF _ _ q1 q2
  change SP 54 _ (sdA (steadyF N (brF N) (clF N).1)) false at h54
  rw [sdA_n] at h54
  unfold ansN
  generalize steadyF N (brF N) (clF N).1 = sd at *
  generalize circF N (brF N) (clF N).1 = z at *
  obtain ⟨z1, z2⟩ := z
  change SP 53 [netV N] (.tuple [.agg [i64 z1, i64 z2], i64 0]) false at h53
  simp only at h54
  unfold ansF
  refine sound (d := 2) tok2 mixed2 Try.func65 (by kernel_rfl) (by kernel_rfl) ?_
  conv => whnf
  refine .inl ⟨_, _, byX rfl (Sound1.pl (h53) rfl), ?_⟩
  conv => whnf
  refine .inl ⟨_, _, byX rfl (h54), ?_⟩
  conv => whnf
  refine ⟨⟨(by omega), (by omega)⟩, ?_⟩
  conv => whnf
  refine ifB_dec (fun w1 => ?_) (fun w1 => ?_)
  · conv => whnf
    refine ⟨?_, nofun⟩
    rw [if_pos (show (sd.2.getD k.toNat (0, 0)).1 ≥ lim by assumption)]; rfl
  · conv => whnf
    refine ifB_dec (fun w2 => ?_) (fun w2 => ?_)
    · conv => whnf
      refine ⟨?_, nofun⟩
      rw [if_neg (show ¬ (sd.2.getD k.toNat (0, 0)).1 ≥ lim by assumption), if_pos (show (sd.2.getD k.toNat (0, 0)).2 < lim by assumption)]; rfl
    · conv => whnf
      refine ⟨?_, nofun⟩
      rw [if_neg (show ¬ (sd.2.getD k.toNat (0, 0)).1 ≥ lim by assumption), if_neg (show ¬ (sd.2.getD k.toNat (0, 0)).2 < lim by assumption)]; rfl
theorem netV_set (N : Net) (k : Nat) (d : Int) : netV (setD N k d) = .agg [.rslice 4 N.ns.length fun i => ndC ((nsD N.ns k d).getD i nd0), listA 6 cnC cn0 N.cs] := by
  unfold netV
  rw [show listA 4 ndC nd0 (setD N k d).ns = .rslice 4 N.ns.length fun i => ndC ((nsD N.ns k d).getD i nd0) from by unfold listA; rw [setD_ns]; rfl]
  rfl
/-- The reference's most draw. -/
theorem S64 (N : Net) (hok : N.Ok) (hF : (clF N).2 = 0) (hq : flatQ N (brF N) (clF N).1 = false) (k lim : Int) (h0 : 0 ≤ k) (h1 : k < N.ns.length) :
    SP 64 [netV N, i64 k, i64 lim] (.tuple [i64 (if mostE N k.toNat = 0 then mostS (keepB N (brF N) (clF N).1 k.toNat lim) 100 else (0, mostE N k.toNat)).1, i64 (if mostE N k.toNat = 0 then mostS (keepB N (brF N) (clF N).1 k.toNat lim) 100 else (0, mostE N k.toNat)).2]) false := by
  have hn1 := hok.n1
  have hc1 := hok.c1
  have h17 := S17o N (by omega) (by omega)
  have hkl : k.toNat < N.ns.length := by omega
  have hdr := ((stOk hok).dr _ (getD_memN (ns := N.ns) (k := k.toNat) hkl))
  unfold mostE
  rw [firstOf2]
  cases hl : (N.ns.getD k.toNat nd0).lake with
  | true =>
    simp only [Bool.not_true, Bool.false_eq_true, if_false]
    refine sound (d := 2) tok2 mixed2 Try.func64 (by kernel_rfl) (by kernel_rfl) ?_
    conv => whnf
    refine ⟨⟨(by omega), (by omega)⟩, ?_⟩
    conv => whnf
    refine ifB_intro (fun w1 => ?_) (fun w1 => ?_)
    · conv => whnf
      refine ⟨?_, nofun⟩
      exact ave_tup2 (k := 4) rfl rfl
    · exact absurd (hl.symm.trans w1) nofun
  | false =>
    simp only [Bool.not_false, if_true]
    by_cases hd : (N.ns.getD k.toNat nd0).draw ≤ 9900
    · rw [decide_eq_true hd]
      simp only [if_true]
      generalize hR : mostS (keepB N (brF N) (clF N).1 k.toNat lim) 100 = R
      refine sound (d := 2) tok2 mixed2 Try.func64 (by kernel_rfl) (by kernel_rfl) ?_
      conv => whnf
      refine ⟨⟨(by omega), (by omega)⟩, ?_⟩
      conv => whnf
      refine ifB_intro (fun w1 => ?_) (fun w1 => ?_)
      · exact absurd (hl.symm.trans w1) nofun
      · conv => whnf
        refine ⟨⟨(by omega), (by omega)⟩, ?_⟩
        conv => whnf
        refine ifB_dec (fun w2 => ?_) (fun w2 => ?_)
        · (exfalso; omega)
        · conv => whnf
          refine ⟨[], [1, 2, 3, 8], fun st mq => ∃ (v : Int), (-1 ≤ v ∧ v ≤ 100) ∧ ((0 ≤ v ∧ mostS (keepB N (brF N) (clF N).1 k.toNat lim) v.toNat = R) ∨ (v = -1 ∧ R = (0, 12))) ∧ st = ⟨[(1, i64 k), (2, i64 lim), (3, .optr 0 0 0 0), (8, i64 v)], ⟨[netBlk N], [], none, 0⟩, []⟩ ∧ mq = (v + 1).toNat,
            ⟨_, _, ⟨100, by omega, .inl ⟨by omega, hR⟩, rfl, rfl⟩, ⟨⟨rfl, rfl, rfl, rfl⟩, ⟨⟨rfl, rfl, rfl, rfl, fun _ => rfl, fun _ _ => rfl⟩, trivial⟩, trivial⟩⟩, ?_⟩
          rintro s0 m0 ⟨v, hv, h2, rfl, hmeas⟩
          by_cases hv0 : 0 ≤ v
          · have hst := mostS_step hv0 h2
            have hok' := setD_ok (d := (N.ns.getD k.toNat nd0).draw + v) hok hkl hl (by omega)
            have hS := stOk hok
            have hS' := stOk hok'
            have hne := net_ne hok hS.cl
            have e1 := setD_br N k.toNat ((N.ns.getD k.toNat nd0).draw + v) hkl
            have e2 := setD_cl N k.toNat ((N.ns.getD k.toNat nd0).draw + v) hkl
            rw [e1, e2] at hS'
            have hq' := setD_flat hS hS' hne
            rw [hq] at hq'
            have h65 := S65 (setD N k.toNat ((N.ns.getD k.toNat nd0).draw + v)) hok' (by rw [e2]; exact hF) (by rw [e1, e2]; exact hq') k lim h0 (by rw [setD_ns]; exact h1)
            rw [e1, e2, netV_set] at h65
            have hka : keepB N (brF N) (clF N).1 k.toNat lim v.toNat = (ansN (setD N k.toNat ((N.ns.getD k.toNat nd0).draw + v)) (brF N) (clF N).1 k.toNat lim == 2) := by
              unfold keepB
              rw [Int.toNat_of_nonneg hv0]
            rw [hka] at hst
            generalize ansN (setD N k.toNat ((N.ns.getD k.toNat nd0).draw + v)) (brF N) (clF N).1 k.toNat lim = A at *
            have hrow := fun i => nd_row N.ns k.toNat i (N.ns.getD k.toNat nd0).draw ((N.ns.getD k.toNat nd0).draw + v) hkl
            simp only [nsD_self _ _ _ hkl] at hrow
            conv => whnf
            conv => whnf
            refine ifB_dec (fun w3 => ?_) (fun w3 => ?_)
            · conv => whnf
              conv => whnf
              refine .inl ⟨_, _, byX rfl (h17), ?_⟩
              conv => whnf
              conv => whnf
              refine ⟨[], by kernel_rfl, ?_⟩
              conv => whnf
              conv => whnf
              refine ⟨⟨(by omega), (by omega)⟩, ?_⟩
              conv => whnf
              conv => whnf
              refine ⟨inK64 (by omega) (by omega), ?_⟩
              conv => whnf
              conv => whnf
              refine ⟨⟨(by omega), (by omega)⟩, ?_⟩
              refine ⟨_, fun i _ => hrow i, ?_⟩
              conv => whnf
              conv => whnf
              refine .inl ⟨_, _, byX rfl (Sound1.pl (h65) rfl), ?_⟩
              conv => whnf
              conv => whnf
              refine ifB_beq (fun w4 => ?_) (fun w4 => ?_)
              · conv => whnf
                conv => whnf
                refine ⟨?_, nofun⟩
                rw [hst.1 (beq_iff_eq.2 (show A = 2 by assumption))]
                exact ave_tup2 (k := 4) rfl rfl
              · conv => whnf
                conv => whnf
                refine ⟨inK64 (by omega) (by omega), ?_⟩
                have w := hst.2 (beq_eq_false_iff_ne.2 (show ¬ A = 2 by assumption))
                conv => whnf
                conv => whnf
                refine ⟨_, _, ⟨⟨v - 1, by omega, w, rfl, rfl⟩, by omega⟩, ⟨⟨rfl, rfl, rfl, rfl⟩, ⟨⟨rfl, rfl, rfl, rfl, fun _ => rfl, fun _ _ => rfl⟩, trivial⟩, trivial⟩⟩
            · (exfalso; omega)
          · have e : R = (0, 12) := by
              rcases h2 with h1 | h1
              · omega
              · exact h1.2
            subst e
            conv => whnf
            conv => whnf
            refine ifB_dec (fun w3 => ?_) (fun w3 => ?_)
            · (exfalso; omega)
            · conv => whnf
              conv => whnf
              refine ⟨?_, nofun⟩
              exact ave_tup2 (k := 4) rfl rfl
    · rw [decide_eq_false hd]
      refine sound (d := 2) tok2 mixed2 Try.func64 (by kernel_rfl) (by kernel_rfl) ?_
      conv => whnf
      refine ⟨⟨(by omega), (by omega)⟩, ?_⟩
      conv => whnf
      refine ifB_intro (fun w1 => ?_) (fun w1 => ?_)
      · exact absurd (hl.symm.trans w1) nofun
      · conv => whnf
        refine ⟨⟨(by omega), (by omega)⟩, ?_⟩
        conv => whnf
        refine ifB_dec (fun w2 => ?_) (fun w2 => ?_)
        · conv => whnf
          refine ⟨?_, nofun⟩
          exact ave_tup2 (k := 4) rfl rfl
        · (exfalso; omega)

set_option maxHeartbeats 0 in
theorem S11 (N : Net) (hN : N.In) (k lim : Int) : SP 11 [netV N, i64 k, i64 lim] (vb true) false := by
  have h15 := S15 N hN
  cases hf : fewB N with
  | false =>
    rw [hf] at h15
    refine sound (d := 2) tok2 mixed2 Try.func11 (by kernel_rfl) (by kernel_rfl) ?_
    conv => whnf
    refine .inl ⟨_, _, byX rfl (Sound1.pl (S14) rfl), ?_⟩
    conv => whnf
    refine .inl ⟨_, _, byX rfl (Sound1.pl (h15) rfl), ?_⟩
    conv => whnf
    refine ⟨?_, nofun⟩
    (rfl)
  | true =>
    rw [hf] at h15
    obtain ⟨b1, b2⟩ := few_bounds hf
    have h17 := S17 N (by omega) (by omega)
    have h61 := S61 N hN k lim
    have h62 := S62 N hN k lim
    have h63 := S63 N hN k lim
    unfold mostF at h62
    by_cases hE : headE N k lim = 0
    · rw [if_pos hE] at h61 h62
      rw [hE] at h61 h63
      obtain ⟨k1, k2, k3⟩ := headE_ok hE
      have hk := flowE_ok k1
      have hn := formE_ok hk.1
      have hok := net_ok hn.1
      have h64 := S64 N hok hn.2 hk.2 k lim k2.1 k2.2
      have h65 := S65 N hok hn.2 hk.2 k lim k2.1 k2.2
      generalize (if mostE N k.toNat = 0 then mostS (keepB N (brF N) (clF N).1 k.toNat lim) 100 else (0, mostE N k.toNat)) = R at *
      generalize ansN N (brF N) (clF N).1 k.toNat lim = A at *
      refine sound (d := 2) tok2 mixed2 Try.func11 (by kernel_rfl) (by kernel_rfl) ?_
      conv => whnf
      refine .inl ⟨_, _, byX rfl (Sound1.pl (S14) rfl), ?_⟩
      conv => whnf
      refine .inl ⟨_, _, byX rfl (Sound1.pl (h15) rfl), ?_⟩
      conv => whnf
      refine .inl ⟨_, _, byX rfl (h17), ?_⟩
      conv => whnf
      refine .inl ⟨_, _, byX rfl (Sound1.pl (h61) rfl), ?_⟩
      conv => whnf
      refine .inl ⟨_, _, byX rfl (h17), ?_⟩
      conv => whnf
      refine .inl ⟨_, _, byX rfl (Sound1.pl (h62) rfl), ?_⟩
      conv => whnf
      refine .inl ⟨_, _, byX rfl (Sound1.pl (h63) rfl), ?_⟩
      conv => whnf
      refine .inl ⟨_, _, byX rfl (Sound1.pl (h64) rfl), ?_⟩
      conv => whnf
      refine .inl ⟨_, _, byX rfl (Sound1.pl (h65) rfl), ?_⟩
      conv => whnf
      refine ifB_beq (fun w1 => ?_) (fun w1 => ?_)
      · conv => whnf
        refine ifB_beq (fun w2 => ?_) (fun w2 => ?_)
        · conv => whnf
          refine ⟨?_, nofun⟩
          (exact vbE (beq_self_eq_true _))
        · (exfalso; omega)
      · (exfalso; omega)
    · rw [if_neg hE] at h61 h62
      generalize headE N k lim = E at *
      simp only at h62
      refine sound (d := 2) tok2 mixed2 Try.func11 (by kernel_rfl) (by kernel_rfl) ?_
      conv => whnf
      refine .inl ⟨_, _, byX rfl (Sound1.pl (S14) rfl), ?_⟩
      conv => whnf
      refine .inl ⟨_, _, byX rfl (Sound1.pl (h15) rfl), ?_⟩
      conv => whnf
      refine .inl ⟨_, _, byX rfl (h17), ?_⟩
      conv => whnf
      refine .inl ⟨_, _, byX rfl (Sound1.pl (h61) rfl), ?_⟩
      conv => whnf
      refine .inl ⟨_, _, byX rfl (h17), ?_⟩
      conv => whnf
      refine .inl ⟨_, _, byX rfl (Sound1.pl (h62) rfl), ?_⟩
      conv => whnf
      refine .inl ⟨_, _, byX rfl (Sound1.pl (h63) rfl), ?_⟩
      conv => whnf
      refine ifB_bne (fun w1 => ?_) (fun w1 => ?_)
      · conv => whnf
        refine ifB_beq (fun w2 => ?_) (fun w2 => ?_)
        · conv => whnf
          refine ifB_beq (fun w3 => ?_) (fun w3 => ?_)
          · conv => whnf
            refine ⟨?_, nofun⟩
            (rfl)
          · (exfalso; omega)
        · (exfalso; omega)
      · (exfalso; omega)
end Go.Tr

/- The law WaterDrawn returns true. Conditions: none. -/
namespace Go.Tr
open Go Go.Proofs
set_option maxRecDepth 20000
set_option maxHeartbeats 8000000

/-- Heads at two circulations, with other draws. -/
theorem drawn_pair {N : Net} {k : Nat} {d : Int} (hok : N.Ok) (hF : (clF N).2 = 0) (hk : k < N.ns.length) (hl : (N.ns.getD k nd0).lake = false) (hd : (N.ns.getD k nd0).draw ≤ d ∧ d ≤ 10000) {q q' : Int} (hq : -200000 ≤ q ∧ q ≤ 200000) (hq' : -200000 ≤ q' ∧ q' ≤ 200000)
    (hbad : (clF N).1 < 0 ∨ (q' - q) * (bi (decide ((stateF N (brF N) (clF N).1 q).2.getD (N.cs.getD (clF N).1.toNat cn0).to.toNat 0 < (stateF (setD N k d) (brF N) (clF N).1 q').2.getD (N.cs.getD (clF N).1.toNat cn0).to.toNat 0)) - bi (decide ((stateF N (brF N) (clF N).1 q).2.getD (N.cs.getD (clF N).1.toNat cn0).fr.toNat 0 < (stateF (setD N k d) (brF N) (clF N).1 q').2.getD (N.cs.getD (clF N).1.toNat cn0).fr.toNat 0))) ≤ 0) :
    ∀ i, i < N.ns.length → (stateF (setD N k d) (brF N) (clF N).1 q').2.getD i 0 ≤ (stateF N (brF N) (clF N).1 q).2.getD i 0 := by
  have hdr := ((stOk hok).dr _ (getD_memN (ns := N.ns) (k := k) hk))
  have hok' := setD_ok hok hk hl (d := d) (by omega)
  have e1 := setD_br N k d hk
  have e2 := setD_cl N k d hk
  have K := kept_ok hok hF hq
  have K' := kept_ok hok' (by rw [e2]; exact hF) hq'
  rw [e1, e2] at K'
  refine maxp hok hF K K' rfl e2 (setD_ns N k d) (fun u hu => ?_) hbad
  show ((nsD N.ns k d).getD u nd0).lake = _ ∧ ((nsD N.ns k d).getD u nd0).head = _ ∧ _ ≤ ((nsD N.ns k d).getD u nd0).draw
  rw [nsD_getD _ _ _ _ hk]
  split
  · rename_i e
    subst e
    exact ⟨rfl, rfl, hd.1⟩
  · exact ⟨rfl, rfl, Int.le_refl _⟩
theorem bi_two (b : Bool) : bi b = 0 ∨ bi b = 1 := by cases b <;> simp [bi]
/-- Where more is drawn no head's lower end is greater than its upper end was. -/
theorem drawn_le {N : Net} {k : Nat} {d : Int} (hok : N.Ok) (hF : (clF N).2 = 0) (hq : flatQ N (brF N) (clF N).1 = false) (hk : k < N.ns.length) (hl : (N.ns.getD k nd0).lake = false) (hd : (N.ns.getD k nd0).draw ≤ d ∧ d ≤ 10000) (i : Nat) (hi : i < N.ns.length) :
    ((steadyF (setD N k d) (brF N) (clF N).1).2.getD i (0, 0)).1 ≤ ((steadyF N (brF N) (clF N).1).2.getD i (0, 0)).2 := by
  have hS := stOk hok
  have hne := net_ne hok hS.cl
  have hdr := (hS.dr _ (getD_memN (ns := N.ns) (k := k) hk))
  have hok' := setD_ok hok hk hl (d := d) (by omega)
  have e1 := setD_br N k d hk
  have e2 := setD_cl N k d hk
  have hS' := stOk hok'
  rw [e1, e2] at hS'
  have hq' := setD_flat hS hS' hne
  rw [hq] at hq'
  obtain ⟨a1, a2, a3, a4⟩ := circ_bd hS hne hq
  obtain ⟨b1, b2, b3, b4⟩ := circ_bd hS' hne hq'
  have hp := fun q q' hq hq' hb => drawn_pair hok hF hk hl hd (q := q) (q' := q') hq hq' hb i hi
  have gA := fun h0 => steady_gap hok h0 hq
  have gB := fun h0 => steady_gap hok' h0 (by rw [e1, e2]; exact hq')
  rw [e1, e2] at gB
  have lA := state_len N (brF N) (clF N).1
  have lB := state_len (setD N k d) (brF N) (clF N).1
  have gapA : ∀ q, gapF N (brF N) (clF N).1 q = lossF (N.cs.getD (clF N).1.toNat cn0).res q - ((stateF N (brF N) (clF N).1 q).2.getD (N.cs.getD (clF N).1.toNat cn0).fr.toNat 0 - (stateF N (brF N) (clF N).1 q).2.getD (N.cs.getD (clF N).1.toNat cn0).to.toNat 0) := fun _ => rfl
  have gapB : ∀ q, gapF (setD N k d) (brF N) (clF N).1 q = lossF (N.cs.getD (clF N).1.toNat cn0).res q - ((stateF (setD N k d) (brF N) (clF N).1 q).2.getD (N.cs.getD (clF N).1.toNat cn0).fr.toNat 0 - (stateF (setD N k d) (brF N) (clF N).1 q).2.getD (N.cs.getD (clF N).1.toNat cn0).to.toNat 0) := fun _ => rfl
  unfold steadyF
  simp only
  rw [rngL_getD (lA _).2 (lA _).2 hi, rngL_getD (n := N.ns.length) ((lB _).2.trans (setD_ns N k d)) ((lB _).2.trans (setD_ns N k d)) hi]
  simp only
  have hcl0 : 0 ≤ (clF N).1 → (clF N).1 < N.cs.length := fun _ => hS.cl
  have hres : 0 ≤ (clF N).1 → 0 ≤ (N.cs.getD (clF N).1.toNat cn0).res := fun h => (hS.res _ (mem_getD (by have := hS.cl; omega))).1
  generalize circF N (brF N) (clF N).1 = z at *
  generalize circF (setD N k d) (brF N) (clF N).1 = z' at *
  obtain ⟨lo, hi2⟩ := z
  obtain ⟨lo', hi'⟩ := z'
  simp only at *
  -- one pair is enough
  have one : ∀ q q', (q = lo ∨ q = hi2) → (q' = lo' ∨ q' = hi') → (stateF (setD N k d) (brF N) (clF N).1 q').2.getD i 0 ≤ (stateF N (brF N) (clF N).1 q).2.getD i 0 →
      (if (stateF (setD N k d) (brF N) (clF N).1 hi').2.getD i 0 < (stateF (setD N k d) (brF N) (clF N).1 lo').2.getD i 0 then (stateF (setD N k d) (brF N) (clF N).1 hi').2.getD i 0 else (stateF (setD N k d) (brF N) (clF N).1 lo').2.getD i 0) ≤
      (if (stateF N (brF N) (clF N).1 hi2).2.getD i 0 > (stateF N (brF N) (clF N).1 lo).2.getD i 0 then (stateF N (brF N) (clF N).1 hi2).2.getD i 0 else (stateF N (brF N) (clF N).1 lo).2.getD i 0) := fun q q' h1 h2 h => by
    rcases h1 with rfl | rfl <;> rcases h2 with rfl | rfl <;> split <;> split <;> omega
  by_cases hc : (clF N).1 < 0
  · exact one lo lo' (.inl rfl) (.inl rfl) (hp lo lo' a1 b1 (.inl hc))
  · have hc0 : 0 ≤ (clF N).1 := by omega
    have hr0 := hres hc0
    by_cases hh : hi' = hi2
    · exact one hi2 hi' (.inr rfl) (.inr rfl) (hp hi2 hi' a2 b2 (.inr (by rw [hh, Int.sub_self, Int.zero_mul]; exact Int.le_refl _)))
    · -- the ends of the closing conduit
      have gA := gA hc0
      have gB := gB hc0
      have gAlo : gapF N (brF N) (clF N).1 lo ≤ 0 := by omega
      have gAhi : 0 ≤ gapF N (brF N) (clF N).1 hi2 := by
        rcases gA with ⟨h1, h2⟩ | h
        · rw [← h2, h1]; exact Int.le_refl _
        · omega
      have gBlo : gapF (setD N k d) (brF N) (clF N).1 lo' ≤ 0 := by omega
      have gBhi : 0 ≤ gapF (setD N k d) (brF N) (clF N).1 hi' := by
        rcases gB with ⟨h1, h2⟩ | h
        · rw [← h2, h1]; exact Int.le_refl _
        · omega
      rw [gapA] at gAlo gAhi
      rw [gapB] at gBlo gBhi
      by_cases hlt : hi' ≤ lo
      · -- the pair hi', lo
        refine one lo hi' (.inl rfl) (.inr rfl) (hp lo hi' a1 b2 (.inr ?_))
        by_cases hT : (stateF N (brF N) (clF N).1 lo).2.getD (N.cs.getD (clF N).1.toNat cn0).to.toNat 0 < (stateF (setD N k d) (brF N) (clF N).1 hi').2.getD (N.cs.getD (clF N).1.toNat cn0).to.toNat 0
        · rw [decide_eq_true hT]
          have hb := bi_two (decide ((stateF N (brF N) (clF N).1 lo).2.getD (N.cs.getD (clF N).1.toNat cn0).fr.toNat 0 < (stateF (setD N k d) (brF N) (clF N).1 hi').2.getD (N.cs.getD (clF N).1.toNat cn0).fr.toNat 0))
          rcases hb with hb | hb <;> rw [hb] <;> simp only [bi, if_true] <;> omega
        · rw [decide_eq_false hT]
          by_cases hf : (stateF N (brF N) (clF N).1 lo).2.getD (N.cs.getD (clF N).1.toNat cn0).fr.toNat 0 < (stateF (setD N k d) (brF N) (clF N).1 hi').2.getD (N.cs.getD (clF N).1.toNat cn0).fr.toNat 0
          · exfalso
            have hm := loss_mono hr0 hlt
            omega
          · rw [decide_eq_false hf]; simp only [bi, Int.sub_self, Int.mul_zero]; exact Int.le_refl _
      · -- the pair lo', hi
        have hge : hi2 ≤ lo' := by omega
        refine one hi2 lo' (.inr rfl) (.inl rfl) (hp hi2 lo' a2 b1 (.inr ?_))
        by_cases hT : (stateF N (brF N) (clF N).1 hi2).2.getD (N.cs.getD (clF N).1.toNat cn0).to.toNat 0 < (stateF (setD N k d) (brF N) (clF N).1 lo').2.getD (N.cs.getD (clF N).1.toNat cn0).to.toNat 0
        · rw [decide_eq_true hT]
          by_cases hf : (stateF N (brF N) (clF N).1 hi2).2.getD (N.cs.getD (clF N).1.toNat cn0).fr.toNat 0 < (stateF (setD N k d) (brF N) (clF N).1 lo').2.getD (N.cs.getD (clF N).1.toNat cn0).fr.toNat 0
          · rw [decide_eq_true hf]; simp only [bi, Int.sub_self, Int.mul_zero]; exact Int.le_refl _
          · exfalso
            have hm := loss_mono hr0 hge
            omega
        · rw [decide_eq_false hT]
          have hb := bi_two (decide ((stateF N (brF N) (clF N).1 hi2).2.getD (N.cs.getD (clF N).1.toNat cn0).fr.toNat 0 < (stateF (setD N k d) (brF N) (clF N).1 lo').2.getD (N.cs.getD (clF N).1.toNat cn0).fr.toNat 0))
          rcases hb with hb | hb <;> rw [hb] <;> simp only [bi, Bool.false_eq_true, if_false] <;> omega

/-- A net with another draw is valid too. -/
theorem scan_set {α : Type} {e : List ByteArray → α → Int} {nm : α → ByteArray} : ∀ (l : List α) (j k : Nat) (seen : List ByteArray) (y : α) (d : α), j < l.length → nm y = nm (l.getD j d) → (∀ s, e s (l.getD j d) = 0 → e s y = 0) → scan e nm k seen l = none → scan e nm k seen (l.set j y) = none
  | [], j, k, seen, y, d, h, _, _, _ => by simp at h
  | x :: r, 0, k, seen, y, d, _, h1, h2, h => by
    rw [scan] at h
    split at h
    · rename_i h0
      rw [List.set_cons_zero, scan, if_pos (h2 seen h0), h1]
      exact h
    · cases h
  | x :: r, j + 1, k, seen, y, d, hj, h1, h2, h => by
    rw [scan] at h
    split at h
    · rename_i h0
      rw [List.set_cons_succ, scan, if_pos h0]
      exact scan_set r j _ _ y d (by simpa using hj) (by simpa using h1) (by simpa using h2) h
    · cases h
theorem nodeE_set {n : Nd} {d : Int} (hl : n.lake = false) (hd : -10000 ≤ d ∧ d ≤ 10000) (s : List ByteArray) (h : nodeE s n = 0) : nodeE s { n with draw := d } = 0 := by
  have e : nodeRight { n with draw := d } = true := by
    unfold nodeRight
    simp only [hl, Bool.false_eq_true, if_false]
    exact decide_eq_true hd
  have e2 : nodeOther { n with draw := d } = nodeOther n := by
    unfold nodeOther
    simp only [hl, Bool.false_eq_true, if_false]
  unfold nodeE at h ⊢
  rw [e, e2]
  rw [firstOf4] at h ⊢
  cases hr : nodeRight n with
  | true => rw [hr] at h; exact h
  | false =>
    exfalso
    rw [hr] at h
    split at h
    · split at h
      · split at h
        · rename_i h3; exact absurd h3 (by decide)
        · exact absurd h (by decide)
      · contradiction
    · contradiction
theorem setD_netE {N : Net} {k : Nat} {d : Int} (hn : netE N = 0) (hk : k < N.ns.length) (hl : (N.ns.getD k nd0).lake = false) (hd : -10000 ≤ d ∧ d ≤ 10000) : netE (setD N k d) = 0 := by
  unfold netE checkN at hn ⊢
  rw [setD_ns, show (setD N k d).cs = N.cs from rfl]
  split at hn
  · cases hn
  · rename_i h1
    split at hn
    · cases hn
    · rename_i h2
      rw [if_neg h1, if_neg h2]
      unfold midN at hn ⊢
      have ht : tailN (setD N k d) = tailN N := by
        unfold tailN
        rw [setD_ns]
        rfl
      cases hs : scan nodeE Nd.name 0 [] N.ns with
      | some x =>
        rw [hs] at hn
        exfalso
        obtain ⟨j, e⟩ := x
        exact scan_ne hs hn
      | none =>
        rw [hs] at hn
        have := scan_set (e := nodeE) (nm := Nd.name) N.ns k 0 [] { N.ns.getD k nd0 with draw := d } nd0 hk rfl (fun s h => nodeE_set hl hd s h) hs
        change scan nodeE Nd.name 0 [] (setD N k d).ns = none at this
        rw [this, ht]
        exact hn

theorem setD_in {N : Net} {k : Nat} {d : Int} (hN : N.In) (hk : k < N.ns.length) (hd : -10000 ≤ d ∧ d ≤ 10000) : (setD N k d).In where
  nl := by rw [setD_ns]; exact hN.nl
  cl := hN.cl
  ns := fun n hn => by
    rcases nd_mem hn with h | h
    · exact hN.ns n h
    · subst h
      have h0 := hN.ns _ (getD_memN hk)
      exact ⟨h0.name, h0.head, inK64 (by show (-9223372036854775808 : Int) ≤ d; omega) (by show d ≤ 9223372036854775807; omega)⟩
  cs := hN.cs
/-- What the opening of a net says does not depend on the draw. -/
theorem setD_flow {N : Net} {k : Nat} {d : Int} (hF : formE N = 0) (hk : k < N.ns.length) (hl : (N.ns.getD k nd0).lake = false) (hd : -10000 ≤ d ∧ d ≤ 10000) : formE (setD N k d) = 0 ∧ flowE (setD N k d) = flowE N := by
  have hn := formE_ok hF
  have hok := net_ok hn.1
  have hok' := setD_ok hok hk hl hd
  have e0 := setD_netE hn.1 hk hl hd
  have e1 := setD_br N k d hk
  have e2 := setD_cl N k d hk
  have hS := stOk hok
  have hS' := stOk hok'
  rw [e1, e2] at hS'
  have hf := setD_flat hS hS' (net_ne hok hS.cl)
  have hF' : formE (setD N k d) = 0 := by
    unfold formE
    rw [if_pos e0, e2]
    exact hn.2
  refine ⟨hF', ?_⟩
  unfold flowE
  rw [if_pos hF, if_pos hF', e1, e2, hf]
theorem mostS_spec (p : Nat → Bool) : ∀ n : Nat, mostS p n = (0, 12) ∨ ∃ m : Nat, m ≤ n ∧ mostS p n = ((m : Int), 0) ∧ p m = true ∧ (m < n → p (m + 1) = false)
  | 0 => by
    rw [mostS]
    split
    · exact .inr ⟨0, Nat.le_refl _, rfl, by assumption, fun h => by omega⟩
    · exact .inl rfl
  | n + 1 => by
    rw [mostS]
    split
    · exact .inr ⟨n + 1, Nat.le_refl _, rfl, by assumption, fun h => by omega⟩
    · rename_i h0
      rcases mostS_spec p n with h | ⟨m, h1, h2, h3, h4⟩
      · exact .inl h
      · refine .inr ⟨m, by omega, h2, h3, fun h => ?_⟩
        by_cases e : m < n
        · exact h4 e
        · rw [show m = n by omega]; exact Bool.eq_false_iff.2 h0
theorem steady_ord (N : Net) (b : List (Int × Int)) (c : Int) (i : Nat) (hi : i < N.ns.length) : ((steadyF N b c).2.getD i (0, 0)).1 ≤ ((steadyF N b c).2.getD i (0, 0)).2 := by
  unfold steadyF
  simp only
  rw [rngL_getD (state_len N b c _).2 (state_len N b c _).2 hi]
  simp only
  split <;> split <;> omega
set_option maxHeartbeats 0 in
theorem S12 (N : Net) (hN : N.In) (k lim more : Int) : SP 12 [netV N, i64 k, .agg [i64 lim, i64 more]] (vb true) false := by
  have h15 := S15 N hN
  cases hf : fewB N with
  | false =>
    rw [hf] at h15
    refine sound (d := 2) tok2 mixed2 Try.func12 (by kernel_rfl) (by kernel_rfl) ?_
    conv => whnf
    refine .inl ⟨_, _, byX rfl (Sound1.pl (S14) rfl), ?_⟩
    conv => whnf
    refine ⟨[], by kernel_rfl, ?_⟩
    conv => whnf
    refine ⟨⟨(by omega), (by omega)⟩, ?_⟩
    conv => whnf
    refine ⟨⟨(by omega), (by omega)⟩, ?_⟩
    conv => whnf
    refine .inl ⟨_, _, byX rfl (Sound1.pl (h15) rfl), ?_⟩
    conv => whnf
    refine ⟨?_, nofun⟩
    (rfl)
  | true =>
    rw [hf] at h15
    obtain ⟨b1, b2⟩ := few_bounds hf
    have h17 := S17o N (by omega) (by omega)
    have h38 := S38 N hN
    have h33 := S33 N hN.nl k
    have hA := S20 more 0 1000
    have hB := S20 lim 0 1000000000
    by_cases hF : formE N = 0
    · rw [hF] at h38
      by_cases hk : 0 ≤ k ∧ k < N.ns.length
      · have e6 : ndE N k = 0 := by unfold ndE; rw [if_pos (by omega)]
        rw [e6] at h33
        have hkl : k.toNat < N.ns.length := by omega
        cases hl : (N.ns.getD k.toNat nd0).lake with
        | true =>
          have hl2 : (N.ns.getD k.toNat nd0).lake = true := hl
          refine sound (d := 2) tok2 mixed2 Try.func12 (by kernel_rfl) (by kernel_rfl) ?_
          conv => whnf
          refine .inl ⟨_, _, byX rfl (Sound1.pl (S14) rfl), ?_⟩
          conv => whnf
          refine ⟨[], by kernel_rfl, ?_⟩
          conv => whnf
          refine ⟨⟨(by omega), (by omega)⟩, ?_⟩
          conv => whnf
          refine ⟨⟨(by omega), (by omega)⟩, ?_⟩
          conv => whnf
          refine .inl ⟨_, _, byX rfl (Sound1.pl (h15) rfl), ?_⟩
          conv => whnf
          refine .inl ⟨_, _, byX rfl (Sound1.pl (h38) rfl), ?_⟩
          conv => whnf
          refine .inl ⟨_, _, byX rfl (Sound1.pl (h33) rfl), ?_⟩
          conv => whnf
          refine ⟨⟨(by omega), (by omega)⟩, ?_⟩
          conv => whnf
          refine ifB_intro (fun w1 => ?_) (fun w1 => ?_)
          · conv => whnf
            refine ⟨?_, nofun⟩
            (rfl)
          · exact absurd (hl.symm.trans w1) nofun
        | false =>
          by_cases hall : (0 ≤ more ∧ more ≤ 1000) ∧ (N.ns.getD k.toNat nd0).draw ≤ 9000 ∧ 0 ≤ lim ∧ lim ≤ 1000000000
          · obtain ⟨m0, d0, l0⟩ := hall
            have hn := formE_ok hF
            have hok := net_ok hn.1
            have hS := stOk hok
            have hn1 := hok.n1
            have hdr := hS.dr _ (getD_memN hkl)
            have h50 := S50 N hN
            have hrow : ∀ (v : Int) (i : Nat), ndC ((nsD N.ns k.toNat v).getD i nd0) = bif Nat.beq i (0 + k.toNat) then splice (ndC (N.ns.getD i nd0)) 3 [i64 v] else ndC (N.ns.getD i nd0) := fun v i => by
              have h := nd_row N.ns k.toNat i (N.ns.getD k.toNat nd0).draw v hkl
              simp only [nsD_self _ _ _ hkl] at h
              exact h
            -- a net with another draw
            have one : ∀ d : Int, -10000 ≤ d ∧ d ≤ 10000 → SP 17 [.agg [.rslice 4 N.ns.length fun i => ndC ((nsD N.ns k.toNat d).getD i nd0), listA 6 cnC cn0 N.cs]] (.agg [.rslice 4 N.ns.length fun i => ndC ((nsD N.ns k.toNat d).getD i nd0), listA 6 cnC cn0 N.cs]) true ∧
                SP 50 [.agg [.rslice 4 N.ns.length fun i => ndC ((nsD N.ns k.toNat d).getD i nd0), listA 6 cnC cn0 N.cs]] (.tuple [sdA (if flowE N = 0 then steadyF (setD N k.toNat d) (brF N) (clF N).1 else ([], [])), i64 (flowE N)]) false ∧
                (flowE N = 0 → SP 61 [.agg [.rslice 4 N.ns.length fun i => ndC ((nsD N.ns k.toNat d).getD i nd0), listA 6 cnC cn0 N.cs], i64 k, i64 lim] (.tuple [i64 (ansN (setD N k.toNat d) (brF N) (clF N).1 k.toNat lim), i64 0]) false) := fun d hd => by
              have hI := setD_in hN hkl hd
              have hfl := setD_flow hF hkl hl hd
              have e1 := setD_br N k.toNat d hkl
              have e2 := setD_cl N k.toNat d hkl
              have a := S17o (setD N k.toNat d) (by rw [setD_ns]; omega) (by show N.cs.length ≤ 1000; omega)
              have b := S50 (setD N k.toNat d) hI
              have c := S61 (setD N k.toNat d) hI k lim
              rw [netV_set] at a b c
              rw [hfl.2, e1, e2] at b
              refine ⟨a, b, fun h0 => ?_⟩
              have hh : headE (setD N k.toNat d) k lim = 0 := by
                unfold headE ndE
                rw [setD_ns, hfl.2, h0, firstOf3, if_pos rfl, if_pos (by omega), decide_eq_true l0]
                rfl
              rw [if_pos hh, hh, e1, e2] at c
              exact c
            obtain ⟨p17, p50, _⟩ := one ((N.ns.getD k.toNat nd0).draw + more) (by omega)
            by_cases hE : flowE N = 0
            · rw [if_pos hE, hE] at h50 p50
              have hq := (flowE_ok hE).2
              have hle := drawn_le hok hn.2 hq hkl hl (d := (N.ns.getD k.toNat nd0).draw + more) (by omega)
              have o1 := steady_ord N (brF N) (clF N).1
              have o2 := steady_ord (setD N k.toNat ((N.ns.getD k.toNat nd0).draw + more)) (brF N) (clF N).1
              have h62 := S62 N hN k lim
              have hh : headE N k lim = 0 := by
                unfold headE ndE
                rw [hE, firstOf3, if_pos rfl, if_pos (by omega), decide_eq_true l0]
                rfl
              have hm : mostE N k.toNat = 0 := by
                unfold mostE
                rw [hl, firstOf2, decide_eq_true (by omega)]
                rfl
              unfold mostF at h62
              rw [if_pos hh, if_pos hm] at h62
              rw [sdA_n] at h50 p50
              rw [setD_ns] at p50 o2
              have hms := mostS_spec (keepB N (brF N) (clF N).1 k.toNat lim) 100
              generalize steadyF N (brF N) (clF N).1 = sd at *
              generalize steadyF (setD N k.toNat ((N.ns.getD k.toNat nd0).draw + more)) (brF N) (clF N).1 = sd1 at *
              generalize mostS (keepB N (brF N) (clF N).1 k.toNat lim) 100 = R at *
              refine sound (d := 2) tok2 mixed2 Try.func12 (by kernel_rfl) (by kernel_rfl) ?_
              conv => whnf
              refine .inl ⟨_, _, byX rfl (Sound1.pl (S14) rfl), ?_⟩
              conv => whnf
              refine ⟨[], by kernel_rfl, ?_⟩
              conv => whnf
              refine ⟨⟨(by omega), (by omega)⟩, ?_⟩
              conv => whnf
              refine ⟨⟨(by omega), (by omega)⟩, ?_⟩
              conv => whnf
              refine .inl ⟨_, _, byX rfl (Sound1.pl (h15) rfl), ?_⟩
              conv => whnf
              refine .inl ⟨_, _, byX rfl (Sound1.pl (h38) rfl), ?_⟩
              conv => whnf
              refine .inl ⟨_, _, byX rfl (Sound1.pl (h33) rfl), ?_⟩
              conv => whnf
              refine ⟨⟨(by omega), (by omega)⟩, ?_⟩
              conv => whnf
              refine ifB_intro (fun w1 => ?_) (fun w1 => ?_)
              · exact absurd (hl.symm.trans w1) nofun
              · conv => whnf
                refine .inl ⟨_, _, byX rfl (Sound1.pl (hA) rfl), ?_⟩
                conv => whnf
                refine ifB_not ?_
                conv => whnf
                refine ifB_dec (fun w2 => ?_) (fun w2 => ?_)
                · conv => whnf
                  refine ⟨⟨(by omega), (by omega)⟩, ?_⟩
                  conv => whnf
                  refine ifB_dec (fun w3 => ?_) (fun w3 => ?_)
                  · (exfalso; omega)
                  · conv => whnf
                    refine .inl ⟨_, _, byX rfl (Sound1.pl (hB) rfl), ?_⟩
                    conv => whnf
                    refine ifB_not ?_
                    conv => whnf
                    refine ifB_dec (fun w4 => ?_) (fun w4 => ?_)
                    · conv => whnf
                      refine .inl ⟨_, _, byX rfl (h17), ?_⟩
                      conv => whnf
                      refine .inl ⟨_, _, byX rfl (h50), ?_⟩
                      conv => whnf
                      refine .inl ⟨_, _, byX rfl (h17), ?_⟩
                      conv => whnf
                      refine ⟨[], by kernel_rfl, ?_⟩
                      conv => whnf
                      refine ⟨⟨(by omega), (by omega)⟩, ?_⟩
                      conv => whnf
                      refine ⟨inK64 (by omega) (by omega), ?_⟩
                      conv => whnf
                      refine ⟨⟨(by omega), (by omega)⟩, ?_⟩
                      refine ⟨_, fun i _ => hrow _ i, ?_⟩
                      conv => whnf
                      refine .inl ⟨_, _, byX rfl (p17), ?_⟩
                      conv => whnf
                      refine .inl ⟨_, _, byX rfl (p50), ?_⟩
                      conv => whnf
                      refine ifB_bne (fun w5 => ?_) (fun w5 => ?_)
                      · (exfalso; omega)
                      · conv => whnf
                        refine ifB_bne (fun w6 => ?_) (fun w6 => ?_)
                        · (exfalso; omega)
                        · conv => whnf
                          refine ⟨[], [1, 3, 7, 9, 11, 12, 14], fun st mq => ∃ (j : Nat), (j ≤ N.ns.length) ∧ st = ⟨[(1, i64 k), (3, .optr 0 0 0 0), (7, i64 lim), (9, .optr 4 0 0 0), (11, .optr 7 0 0 0), (12, .optr 10 0 0 0), (14, i64 j)], ⟨[netBlk N, ⟨2, 1, fun _ => [i64 lim, i64 more], 0, false, true, true⟩, ⟨4, N.ns.length, fun i => ndC (N.ns.getD i nd0), 0, true, true, false⟩, ⟨6, N.cs.length, fun i => cnC (N.cs.getD i cn0), 0, true, true, false⟩, ⟨2, 1, fun _ => [.rslice 2 N.cs.length fun i => brC (sd.1.getD i (0, 0)), .rslice 2 N.ns.length fun i => brC (sd.2.getD i (0, 0))], 0, false, true, true⟩, ⟨4, N.ns.length, fun i => ndC ((nsD N.ns k.toNat ((N.ns.getD k.toNat nd0).draw + more)).getD i nd0), 0, false, true, false⟩, ⟨6, N.cs.length, fun i => cnC (N.cs.getD i cn0), 0, false, true, false⟩, ⟨2, 1, fun _ => [.oslice 5 0 0 N.ns.length none, .oslice 6 0 0 N.cs.length none], 0, false, false, true⟩, ⟨4, N.ns.length, fun i => ndC ((nsD N.ns k.toNat ((N.ns.getD k.toNat nd0).draw + more)).getD i nd0), 0, true, true, false⟩, ⟨6, N.cs.length, fun i => cnC (N.cs.getD i cn0), 0, true, true, false⟩, ⟨2, 1, fun _ => [.rslice 2 N.cs.length fun i => brC (sd1.1.getD i (0, 0)), .rslice 2 N.ns.length fun i => brC (sd1.2.getD i (0, 0))], 0, false, true, true⟩], [], none, 0⟩, []⟩ ∧ mq = N.ns.length - j,
                            ⟨_, _, ⟨0, by omega, rfl, rfl⟩, ⟨⟨rfl, rfl, rfl, rfl⟩, ⟨⟨rfl, rfl, rfl, rfl, fun _ => rfl, fun _ _ => rfl⟩, ⟨⟨rfl, rfl, rfl, rfl, fun _ => rfl, fun _ _ => rfl⟩, ⟨⟨rfl, rfl, rfl, rfl, fun _ => rfl, fun _ _ => rfl⟩, ⟨⟨rfl, rfl, rfl, rfl, fun _ => rfl, fun _ _ => rfl⟩, ⟨⟨rfl, rfl, rfl, rfl, fun _ => rfl, fun _ _ => rfl⟩, ⟨⟨rfl, rfl, rfl, rfl, fun _ => rfl, fun _ _ => rfl⟩, ⟨⟨rfl, rfl, rfl, rfl, fun _ => rfl, fun _ _ => rfl⟩, ⟨⟨rfl, rfl, rfl, rfl, nofun, fun _ _ => rfl⟩, ⟨⟨rfl, rfl, rfl, rfl, fun _ => rfl, fun _ _ => rfl⟩, ⟨⟨rfl, rfl, rfl, rfl, fun _ => rfl, fun _ _ => rfl⟩, ⟨⟨rfl, rfl, rfl, rfl, fun _ => rfl, fun _ _ => rfl⟩, trivial⟩⟩⟩⟩⟩⟩⟩⟩⟩⟩⟩, trivial⟩⟩, ?_⟩
                          rintro s0 m0 ⟨j, hj, rfl, hmeas⟩
                          by_cases hjl : j < N.ns.length
                          · have o1 := o1 (j : Int).toNat hjl
                            have o2 := o2 (j : Int).toNat hjl
                            have hle := hle (j : Int).toNat hjl
                            conv => whnf
                            conv => whnf
                            refine ifB_dec (fun w7 => ?_) (fun w7 => ?_)
                            · conv => whnf
                              conv => whnf
                              refine ⟨[], by kernel_rfl, ?_⟩
                              conv => whnf
                              conv => whnf
                              refine ⟨⟨(by omega), (by omega)⟩, ?_⟩
                              conv => whnf
                              conv => whnf
                              refine ⟨⟨(by omega), (by omega)⟩, ?_⟩
                              conv => whnf
                              conv => whnf
                              refine ifB_dec (fun w8 => ?_) (fun w8 => ?_)
                              · (exfalso; omega)
                              · conv => whnf
                                conv => whnf
                                refine ⟨⟨(by omega), (by omega)⟩, ?_⟩
                                conv => whnf
                                conv => whnf
                                refine ⟨⟨(by omega), (by omega)⟩, ?_⟩
                                conv => whnf
                                conv => whnf
                                refine ifB_dec (fun w9 => ?_) (fun w9 => ?_)
                                · (exfalso; omega)
                                · conv => whnf
                                  conv => whnf
                                  refine ⟨⟨(by omega), (by omega)⟩, ?_⟩
                                  conv => whnf
                                  conv => whnf
                                  refine ⟨⟨(by omega), (by omega)⟩, ?_⟩
                                  conv => whnf
                                  conv => whnf
                                  refine ifB_dec (fun w10 => ?_) (fun w10 => ?_)
                                  · (exfalso; omega)
                                  · conv => whnf
                                    conv => whnf
                                    refine ⟨inK64 (by omega) (by omega), ?_⟩
                                    conv => whnf
                                    conv => whnf
                                    refine ⟨_, _, ⟨⟨j + 1, by omega, rfl, rfl⟩, by omega⟩, ⟨⟨rfl, rfl, rfl, rfl⟩, ⟨⟨rfl, rfl, rfl, rfl, fun _ => rfl, fun _ _ => rfl⟩, ⟨⟨rfl, rfl, rfl, rfl, fun _ => rfl, fun _ _ => rfl⟩, ⟨⟨rfl, rfl, rfl, rfl, fun _ => rfl, fun _ _ => rfl⟩, ⟨⟨rfl, rfl, rfl, rfl, fun _ => rfl, fun _ _ => rfl⟩, ⟨⟨rfl, rfl, rfl, rfl, fun _ => rfl, fun _ _ => rfl⟩, ⟨⟨rfl, rfl, rfl, rfl, fun _ => rfl, fun _ _ => rfl⟩, ⟨⟨rfl, rfl, rfl, rfl, fun _ => rfl, fun _ _ => rfl⟩, ⟨⟨rfl, rfl, rfl, rfl, nofun, fun _ _ => rfl⟩, ⟨⟨rfl, rfl, rfl, rfl, fun _ => rfl, fun _ _ => rfl⟩, ⟨⟨rfl, rfl, rfl, rfl, fun _ => rfl, fun _ _ => rfl⟩, ⟨⟨rfl, rfl, rfl, rfl, fun _ => rfl, fun _ _ => rfl⟩, trivial⟩⟩⟩⟩⟩⟩⟩⟩⟩⟩⟩, trivial⟩⟩
                            · (exfalso; omega)
                          · clear o1 o2 hle
                            rcases hms with rfl | ⟨m, h1, rfl, h3, h4⟩
                            · conv => whnf
                              conv => whnf
                              refine ifB_dec (fun w7 => ?_) (fun w7 => ?_)
                              · (exfalso; omega)
                              · conv => whnf
                                conv => whnf
                                refine .inl ⟨_, _, byX rfl (h17), ?_⟩
                                conv => whnf
                                conv => whnf
                                refine .inl ⟨_, _, byX rfl (Sound1.pl (h62) rfl), ?_⟩
                                conv => whnf
                                conv => whnf
                                refine ⟨?_, nofun⟩
                                (rfl)
                            · obtain ⟨_, _, p61⟩ := one ((N.ns.getD k.toNat nd0).draw + m) (by omega)
                              obtain ⟨q17, _, _⟩ := one ((N.ns.getD k.toNat nd0).draw + m) (by omega)
                              have p61 := p61 hE
                              have hC := S20 m 0 100
                              unfold keepB at h3 h4
                              rw [eq_of_beq h3] at p61
                              have hrow2 : ∀ (v : Int) (i : Nat), _ := fun v i => nd_row N.ns k.toNat i ((N.ns.getD k.toNat nd0).draw + more) v hkl
                              have hrow3 : ∀ (v : Int) (i : Nat), _ := fun v i => nd_row N.ns k.toNat i ((N.ns.getD k.toNat nd0).draw + m) v hkl
                              by_cases hm : m = 100
                              · subst hm
                                conv => whnf
                                conv => whnf
                                refine ifB_dec (fun w7 => ?_) (fun w7 => ?_)
                                · (exfalso; omega)
                                · conv => whnf
                                  conv => whnf
                                  refine .inl ⟨_, _, byX rfl (h17), ?_⟩
                                  conv => whnf
                                  conv => whnf
                                  refine .inl ⟨_, _, byX rfl (Sound1.pl (h62) rfl), ?_⟩
                                  conv => whnf
                                  conv => whnf
                                  refine .inl ⟨_, _, byX rfl (Sound1.pl (hC) rfl), ?_⟩
                                  conv => whnf
                                  conv => whnf
                                  refine ⟨[], by kernel_rfl, ?_⟩
                                  conv => whnf
                                  conv => whnf
                                  refine ⟨⟨(by omega), (by omega)⟩, ?_⟩
                                  conv => whnf
                                  conv => whnf
                                  refine ⟨inK64 (by omega) (by omega), ?_⟩
                                  conv => whnf
                                  conv => whnf
                                  refine ⟨⟨(by omega), (by omega)⟩, ?_⟩
                                  refine ⟨_, fun i _ => hrow2 _ i, ?_⟩
                                  conv => whnf
                                  conv => whnf
                                  refine .inl ⟨_, _, byX rfl (q17), ?_⟩
                                  conv => whnf
                                  conv => whnf
                                  refine .inl ⟨_, _, byX rfl (Sound1.pl (p61) rfl), ?_⟩
                                  conv => whnf
                                  conv => whnf
                                  refine ⟨?_, nofun⟩
                                  (rfl)
                              · obtain ⟨_, _, r61⟩ := one ((N.ns.getD k.toNat nd0).draw + m + 1) (by omega)
                                have r61 := r61 hE
                                have h5 := ne_of_beq_false (h4 (by omega))
                                rw [show (N.ns.getD k.toNat nd0).draw + ((m + 1 : Nat) : Int) = (N.ns.getD k.toNat nd0).draw + m + 1 by omega] at h5
                                generalize ansN (setD N k.toNat ((N.ns.getD k.toNat nd0).draw + m + 1)) (brF N) (clF N).1 k.toNat lim = A at *
                                conv => whnf
                                conv => whnf
                                refine ifB_dec (fun w7 => ?_) (fun w7 => ?_)
                                · (exfalso; omega)
                                · conv => whnf
                                  conv => whnf
                                  refine .inl ⟨_, _, byX rfl (h17), ?_⟩
                                  conv => whnf
                                  conv => whnf
                                  refine .inl ⟨_, _, byX rfl (Sound1.pl (h62) rfl), ?_⟩
                                  conv => whnf
                                  conv => whnf
                                  refine .inl ⟨_, _, byX rfl (Sound1.pl (hC) rfl), ?_⟩
                                  conv => whnf
                                  conv => whnf
                                  refine ifB_not ?_
                                  conv => whnf
                                  conv => whnf
                                  refine ifB_dec (fun w8 => ?_) (fun w8 => ?_)
                                  · conv => whnf
                                    conv => whnf
                                    refine ⟨[], by kernel_rfl, ?_⟩
                                    conv => whnf
                                    conv => whnf
                                    refine ⟨⟨(by omega), (by omega)⟩, ?_⟩
                                    conv => whnf
                                    conv => whnf
                                    refine ⟨inK64 (by omega) (by omega), ?_⟩
                                    conv => whnf
                                    conv => whnf
                                    refine ⟨⟨(by omega), (by omega)⟩, ?_⟩
                                    refine ⟨_, fun i _ => hrow2 _ i, ?_⟩
                                    conv => whnf
                                    conv => whnf
                                    refine .inl ⟨_, _, byX rfl (q17), ?_⟩
                                    conv => whnf
                                    conv => whnf
                                    refine .inl ⟨_, _, byX rfl (Sound1.pl (p61) rfl), ?_⟩
                                    conv => whnf
                                    conv => whnf
                                    refine ifB_beq (fun w9 => ?_) (fun w9 => ?_)
                                    · (exfalso; omega)
                                    · conv => whnf
                                      conv => whnf
                                      refine ⟨[], by kernel_rfl, ?_⟩
                                      conv => whnf
                                      conv => whnf
                                      refine ⟨⟨(by omega), (by omega)⟩, ?_⟩
                                      conv => whnf
                                      conv => whnf
                                      refine ⟨inK64 (by omega) (by omega), ?_⟩
                                      conv => whnf
                                      conv => whnf
                                      refine ⟨inK64 (by omega) (by omega), ?_⟩
                                      conv => whnf
                                      conv => whnf
                                      refine ⟨⟨(by omega), (by omega)⟩, ?_⟩
                                      refine ⟨_, fun i _ => hrow3 _ i, ?_⟩
                                      conv => whnf
                                      conv => whnf
                                      refine .inl ⟨_, _, byX rfl (Sound1.pl (r61) rfl), ?_⟩
                                      conv => whnf
                                      conv => whnf
                                      refine ⟨?_, nofun⟩
                                      (exact vbE (bne_iff_ne.2 h5))
                                  · (exfalso; omega)
                    · (exfalso; omega)
                · (exfalso; omega)
            · have e : flowE N = 11 := by
                unfold flowE at hE ⊢
                rw [if_pos hF] at hE ⊢
                split
                · rfl
                · rename_i h; rw [if_neg h] at hE; exact absurd rfl hE
              rw [if_neg hE, e] at h50 p50
              refine sound (d := 2) tok2 mixed2 Try.func12 (by kernel_rfl) (by kernel_rfl) ?_
              conv => whnf
              refine .inl ⟨_, _, byX rfl (Sound1.pl (S14) rfl), ?_⟩
              conv => whnf
              refine ⟨[], by kernel_rfl, ?_⟩
              conv => whnf
              refine ⟨⟨(by omega), (by omega)⟩, ?_⟩
              conv => whnf
              refine ⟨⟨(by omega), (by omega)⟩, ?_⟩
              conv => whnf
              refine .inl ⟨_, _, byX rfl (Sound1.pl (h15) rfl), ?_⟩
              conv => whnf
              refine .inl ⟨_, _, byX rfl (Sound1.pl (h38) rfl), ?_⟩
              conv => whnf
              refine .inl ⟨_, _, byX rfl (Sound1.pl (h33) rfl), ?_⟩
              conv => whnf
              refine ⟨⟨(by omega), (by omega)⟩, ?_⟩
              conv => whnf
              refine ifB_intro (fun w1 => ?_) (fun w1 => ?_)
              · exact absurd (hl.symm.trans w1) nofun
              · conv => whnf
                refine .inl ⟨_, _, byX rfl (Sound1.pl (hA) rfl), ?_⟩
                conv => whnf
                refine ifB_not ?_
                conv => whnf
                refine ifB_dec (fun w2 => ?_) (fun w2 => ?_)
                · conv => whnf
                  refine ⟨⟨(by omega), (by omega)⟩, ?_⟩
                  conv => whnf
                  refine ifB_dec (fun w3 => ?_) (fun w3 => ?_)
                  · (exfalso; omega)
                  · conv => whnf
                    refine .inl ⟨_, _, byX rfl (Sound1.pl (hB) rfl), ?_⟩
                    conv => whnf
                    refine ifB_not ?_
                    conv => whnf
                    refine ifB_dec (fun w4 => ?_) (fun w4 => ?_)
                    · conv => whnf
                      refine .inl ⟨_, _, byX rfl (h17), ?_⟩
                      conv => whnf
                      refine .inl ⟨_, _, byX rfl (h50), ?_⟩
                      conv => whnf
                      refine .inl ⟨_, _, byX rfl (h17), ?_⟩
                      conv => whnf
                      refine ⟨[], by kernel_rfl, ?_⟩
                      conv => whnf
                      refine ⟨⟨(by omega), (by omega)⟩, ?_⟩
                      conv => whnf
                      refine ⟨inK64 (by omega) (by omega), ?_⟩
                      conv => whnf
                      refine ⟨⟨(by omega), (by omega)⟩, ?_⟩
                      refine ⟨_, fun i _ => hrow _ i, ?_⟩
                      conv => whnf
                      refine .inl ⟨_, _, byX rfl (p17), ?_⟩
                      conv => whnf
                      refine .inl ⟨_, _, byX rfl (p50), ?_⟩
                      conv => whnf
                      refine ⟨?_, nofun⟩
                      (rfl)
                    · (exfalso; omega)
                · (exfalso; omega)
          · refine sound (d := 2) tok2 mixed2 Try.func12 (by kernel_rfl) (by kernel_rfl) ?_
            conv => whnf
            refine .inl ⟨_, _, byX rfl (Sound1.pl (S14) rfl), ?_⟩
            conv => whnf
            refine ⟨[], by kernel_rfl, ?_⟩
            conv => whnf
            refine ⟨⟨(by omega), (by omega)⟩, ?_⟩
            conv => whnf
            refine ⟨⟨(by omega), (by omega)⟩, ?_⟩
            conv => whnf
            refine .inl ⟨_, _, byX rfl (Sound1.pl (h15) rfl), ?_⟩
            conv => whnf
            refine .inl ⟨_, _, byX rfl (Sound1.pl (h38) rfl), ?_⟩
            conv => whnf
            refine .inl ⟨_, _, byX rfl (Sound1.pl (h33) rfl), ?_⟩
            conv => whnf
            refine ⟨⟨(by omega), (by omega)⟩, ?_⟩
            conv => whnf
            refine ifB_intro (fun w1 => ?_) (fun w1 => ?_)
            · exact absurd (hl.symm.trans w1) nofun
            · conv => whnf
              refine .inl ⟨_, _, byX rfl (Sound1.pl (hA) rfl), ?_⟩
              conv => whnf
              refine ifB_not ?_
              conv => whnf
              refine ifB_dec (fun w2 => ?_) (fun w2 => ?_)
              · conv => whnf
                refine ⟨⟨(by omega), (by omega)⟩, ?_⟩
                conv => whnf
                refine ifB_dec (fun w3 => ?_) (fun w3 => ?_)
                · conv => whnf
                  refine ⟨?_, nofun⟩
                  (rfl)
                · conv => whnf
                  refine .inl ⟨_, _, byX rfl (Sound1.pl (hB) rfl), ?_⟩
                  conv => whnf
                  refine ifB_not ?_
                  conv => whnf
                  refine ifB_dec (fun w4 => ?_) (fun w4 => ?_)
                  · (exfalso; omega)
                  · conv => whnf
                    refine ⟨?_, nofun⟩
                    (rfl)
              · conv => whnf
                refine ⟨?_, nofun⟩
                (rfl)
      · have e6 : ndE N k = 6 := by unfold ndE; rw [if_neg (by omega)]
        rw [e6] at h33
        refine sound (d := 2) tok2 mixed2 Try.func12 (by kernel_rfl) (by kernel_rfl) ?_
        conv => whnf
        refine .inl ⟨_, _, byX rfl (Sound1.pl (S14) rfl), ?_⟩
        conv => whnf
        refine ⟨[], by kernel_rfl, ?_⟩
        conv => whnf
        refine ⟨⟨(by omega), (by omega)⟩, ?_⟩
        conv => whnf
        refine ⟨⟨(by omega), (by omega)⟩, ?_⟩
        conv => whnf
        refine .inl ⟨_, _, byX rfl (Sound1.pl (h15) rfl), ?_⟩
        conv => whnf
        refine .inl ⟨_, _, byX rfl (Sound1.pl (h38) rfl), ?_⟩
        conv => whnf
        refine .inl ⟨_, _, byX rfl (Sound1.pl (h33) rfl), ?_⟩
        conv => whnf
        refine ⟨?_, nofun⟩
        (rfl)
    · refine sound (d := 2) tok2 mixed2 Try.func12 (by kernel_rfl) (by kernel_rfl) ?_
      conv => whnf
      refine .inl ⟨_, _, byX rfl (Sound1.pl (S14) rfl), ?_⟩
      conv => whnf
      refine ⟨[], by kernel_rfl, ?_⟩
      conv => whnf
      refine ⟨⟨(by omega), (by omega)⟩, ?_⟩
      conv => whnf
      refine ⟨⟨(by omega), (by omega)⟩, ?_⟩
      conv => whnf
      refine .inl ⟨_, _, byX rfl (Sound1.pl (h15) rfl), ?_⟩
      conv => whnf
      refine .inl ⟨_, _, byX rfl (Sound1.pl (h38) rfl), ?_⟩
      conv => whnf
      refine ifB_bne (fun w1 => ?_) (fun w1 => ?_)
      · conv => whnf
        refine ⟨?_, nofun⟩
        (rfl)
      · (exfalso; omega)
end Go.Tr

/- The end of a law's proof: what every law shares; further openings of arguments. Conditions: none. -/
namespace Go.Tr
open Go Go.Proofs Go.RowKit Go.WideShapes Go.ChangeShapes
section
variable {H : Type} {enc : TypeId × Value → H} {P : Program}
theorem post_of_below {f : Func} {s : ChangeSpec} {apart fresh handsOn again : Bool} {W W' : World} {args : Array Value} {v : Value} {ds gs : List (DataW H)} {before pa pv : List MemPlace}
    (hW : DataW.Whole enc P f.params.toList s.vars apart W args.toList ds gs before)
    (hres : ∀ (b : Nat) (sp : Nat → Bool) (hd : Bool), DataW.TrodAll enc P W' b sp hd f.resultTypes.toList (v.resultList f.resultTypes.size) (s.fn H (ds ++ gs)).results [])
    (hargs : ∀ sp : Nat → Bool, (∀ p ∈ before, sp p.block = true) → DataW.TrodAll enc P W' 0 sp true f.params.toList args.toList (s.fn H (ds ++ gs)).args pa)
    (hvars : ∀ sp : Nat → Bool, (∀ p ∈ before, sp p.block = true) → DataW.TrodVars enc P W' sp s.vars (s.fn H (ds ++ gs)).vars pv)
    (hps : before = pa ++ pv) (hb : Below W.heap.size W W')
    (hok : ∀ (j : Nat) (t : TypeId) (r : Value), f.resultTypes[j]? = some t → (v.resultList f.resultTypes.size)[j]? = some r → Value.okWide P W' .any 0 t r) :
    s.post enc P f apart fresh handsOn again W args v W' := by
  have hlt : ∀ p ∈ before, p.block < W.heap.size := fun p hp => hW.lt p hp
  have hold : ∀ p ∈ before, (fun b => decide (b < W.heap.size)) p.block = true := fun p hp => by simpa using hlt p hp
  refine ⟨ds, gs, before, [], pa, pv, hW, hres _ _ _, hargs _ hold, hvars _ hold, World.keptBut_mono (fun p hp => ⟨hp, ?_⟩) (hb.frame (· ∈ before)), fun _ => ?_⟩
  · rw [hps, List.mem_append] at hp
    exact Or.inr hp
  · obtain ⟨_, _, _, _, _, hz, hn⟩ := hW
    refine ⟨hok, _, _, ([] ++ pa) ++ pv, ⟨[] ++ pa, pv, trodAll_append (hargs _ (fun _ _ => rfl)) (hres _ _ _), hvars _ (fun _ _ => rfl), rfl, ?_, ?_⟩, ?_⟩
    · intro b off hp
      have hin : MemPlace.cell b off ∈ before := by rw [hps]; simpa using hp
      rw [hb.frozen (hlt _ hin)]
      exact hz b off hin
    · intro ha
      have := hn ha
      rw [hps] at this
      simpa using this
    · intro p hp _
      rw [hps]
      simpa using hp
end

set_option maxRecDepth 20000
theorem cells3 : Try.prog.cellsOf 3 = 1 := by kernel_rfl
theorem ints_open {x : AV} (h : TyA Try.prog 4 39 x) : ∃ l : List Int, AVE 5 x (ints l) ∧ l.length ≤ 9223372036854775807 ∧ ∀ a ∈ l, inK .i64 a := by
  simp only [TyA, Try.underlying39] at h
  unfold TyC at h
  simp only [Try.underlying39] at h
  obtain ⟨len, f, e, hl, hf⟩ := h
  cases e
  obtain ⟨l, n1, n2, n3⟩ := list_open (g := fun n : Int => [i64 n]) (p := fun n => inK .i64 n) 0 (fun i hi => int_open Try.underlying3 (hf i hi))
  rw [cells3]
  exact ⟨l, n3 4, by rw [n1]; exact hl, n2⟩
theorem arr2_open {x : AV} (h : TyA Try.prog 4 40 x) : ∃ a b : Int, AVE 5 x (.agg [i64 a, i64 b]) ∧ inK .i64 a ∧ inK .i64 b := by
  simp only [TyA, Try.underlying40] at h
  obtain ⟨xs, rfl, h⟩ := h
  unfold TyC at h
  simp only [Try.underlying40] at h
  obtain ⟨ps, rfl, hn, h⟩ := h
  match ps, hn with
  | [p, q], _ =>
    obtain ⟨a, rfl, ha⟩ := int_open Try.underlying3 (h p (by simp))
    obtain ⟨b, rfl, hb⟩ := int_open Try.underlying3 (h q (by simp))
    exact ⟨a, b, ave2 a b, ha, hb⟩
theorem pair_open {t : TypeId} {fs : Array Field} (hu : Try.prog.underlying t = some (.struct fs)) (hf : fs.toList.map (·.type) = [3, 3]) {x : AV} (h : TyA Try.prog 4 t x) : ∃ a b : Int, AVE 5 x (.agg [i64 a, i64 b]) ∧ inK .i64 a ∧ inK .i64 b := by
  simp only [TyA, hu] at h
  obtain ⟨xs, rfl, h⟩ := h
  unfold TyC at h
  simp only [hu] at h
  obtain ⟨ps, rfl, h⟩ := h
  generalize fs.toList = L at hf h
  match L with
  | [] => simp at hf
  | [_] => simp at hf
  | _ :: _ :: _ :: _ => simp at hf
  | [f, g] =>
    simp only [List.map_cons, List.map_nil, List.cons.injEq, and_true] at hf
    obtain ⟨p, q, rfl, h1, h2⟩ := all2_2 h
    rw [hf.1] at h1
    rw [hf.2] at h2
    obtain ⟨a, rfl, ha⟩ := int_open Try.underlying3 h1
    obtain ⟨b, rfl, hb⟩ := int_open Try.underlying3 h2
    exact ⟨a, b, ave2 a b, ha, hb⟩
theorem range_open {x : AV} (h : TyA Try.prog 4 43 x) : ∃ a b : Int, AVE 5 x (.agg [i64 a, i64 b]) ∧ inK .i64 a ∧ inK .i64 b := pair_open Try.underlying43 rfl h
theorem way_open {x : AV} (h : TyA Try.prog 4 87 x) : ∃ a b : Int, AVE 5 x (.agg [i64 a, i64 b]) ∧ inK .i64 a ∧ inK .i64 b := pair_open Try.underlying87 rfl h
end Go.Tr

namespace Go.Proofs.Ytkomdfgffgkphaa
open Go.ChangeShapes Go.WideShapes Go.ChangeAt Go.RowKit Go.Tr
theorem Try.own : ownKnob Try.prog.godebug = none := by kernel_rfl
theorem Try.laidOut : laidOutB Try.prog = true := by kernel_rfl
end Go.Proofs.Ytkomdfgffgkphaa

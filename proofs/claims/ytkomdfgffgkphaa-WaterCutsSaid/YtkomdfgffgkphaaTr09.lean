/- Contracts of chapter 2: the program's cut and the reference's. Conditions: none. -/
import Derived.Test.YtkomdfgffgkphaaTr08
import Derived.Test.YtkomdfgffgkphaaRows
import Derived.Test.YtkomdfgffgkphaaTr05
import Derived.ProofKit

namespace Go.Tr
open Go Go.Proofs
set_option maxRecDepth 20000
set_option maxHeartbeats 8000000

theorem S117 (l : List Int) (hl : l.length ≤ 1000) : SP 117 [ints l] (ints l) false := by
  refine sound (d := 2) tok2 mixed2 Try.func117 (by kernel_rfl) (by kernel_rfl) ?_
  rintro (_ | _) w1
  · conv => whnf
    refine ⟨⟨(by omega), (by show _ * (8 + 1) ≤ _; omega)⟩, ?_⟩
    conv => whnf
    refine ⟨?_, nofun⟩
    exact ⟨rfl, Nat.zero_add _, fun i _ => by show [i64 (l.getD (i - 0) 0)] = _; rw [Nat.sub_zero]⟩
  · conv => whnf
    refine ⟨?_, nofun⟩
    show l.length = 0
    rcases Nat.eq_zero_or_pos l.length with h | h
    · exact h
    · exact absurd (w1 h) nofun
/-- The error of a way; a net's own ahead. -/
def wayE (N : Net) (w : Int × Int) : Int := if ndE N w.1 = 0 ∧ ndE N w.2 = 0 then (if w.1 = w.2 then 13 else 0) else 6
def wE (N : Net) (w : Int × Int) : Int := if netE N = 0 then wayE N w else netE N
theorem ndE_two (N : Net) (k : Int) : ndE N k = 0 ∧ (0 ≤ k ∧ k < N.ns.length) ∨ ndE N k = 6 := by
  unfold ndE; split
  · exact .inl ⟨rfl, by omega⟩
  · exact .inr rfl
theorem firstOf4' (a b c d : Int) : firstOf [a, b, c, d] = if a = 0 then (if b = 0 then (if c = 0 then (if d = 0 then 0 else d) else c) else b) else a := rfl
theorem wE_eq (N : Net) (w : Int × Int) : firstOf [netE N, ndE N w.1, ndE N w.2, if (w.1 != w.2) = true then 0 else 13] = wE N w := by
  rw [firstOf4']
  unfold wE wayE
  by_cases h : netE N = 0
  · rw [if_pos h, if_pos h]
    rcases ndE_two N w.1 with ⟨e1, _⟩ | e1 <;> rw [e1]
    · rcases ndE_two N w.2 with ⟨e2, _⟩ | e2 <;> rw [e2]
      · by_cases hw : w.1 = w.2
        · simp [hw]
        · simp [hw]
      · simp
    · simp
  · rw [if_neg h, if_neg h]
theorem S71_4' (a b c d : Int) (f : Nat → List AV) (h : f 0 = [i64 a] ∧ f 1 = [i64 b] ∧ f 2 = [i64 c] ∧ f 3 = [i64 d]) : SP 71 [.rslice 1 4 f] (i64 (firstOf [a, b, c, d])) false :=
  S71f [a, b, c, d] f (Nat.le_of_ble_eq_true rfl) fun i hi => match i, hi with | 0, _ => h.1 | 1, _ => h.2.1 | 2, _ => h.2.2.1 | 3, _ => h.2.2.2
theorem S115 (N : Net) (hN : N.In) (w : Int × Int) : SP 115 [netV N, .agg [i64 w.1, i64 w.2]] (.tuple [netV N, i64 (wE N w)]) false := by
  have h87 := S87 N hN
  have h1 := S88 N hN.nl w.1
  have h2 := S88 N hN.nl w.2
  rw [← wE_eq]
  refine sound (d := 2) tok2 mixed2 Try.func115 (by kernel_rfl) (by kernel_rfl) ?_
  conv => whnf
  refine .inl ⟨_, _, byX rfl (h87), ?_⟩
  conv => whnf
  refine ⟨[], by kernel_rfl, ?_⟩
  conv => whnf
  refine .inl ⟨_, _, byX rfl (Sound1.pl (h1) rfl), ?_⟩
  conv => whnf
  refine .inl ⟨_, _, byX rfl (Sound1.pl (h2) rfl), ?_⟩
  conv => whnf
  refine .inl ⟨_, _, byX rfl (Sound1.pl (S72 _ _) rfl), ?_⟩
  conv => whnf
  refine .inl ⟨_, _, byX rfl (Sound1.pl (S71_4' _ _ _ _ _ ⟨rfl, rfl, rfl, rfl⟩) rfl), ?_⟩
  conv => whnf
  refine ⟨?_, nofun⟩
  exact ave_tup2 (k := 4) (ave_agg2 (k := 3) (a := .rslice 4 N.ns.length _) (b := .rslice 6 N.cs.length _) ⟨rfl, rfl, fun _ _ => rfl⟩ ⟨rfl, rfl, fun _ _ => rfl⟩) rfl
theorem wE_ok {N : Net} {w : Int × Int} (h : wE N w = 0) : netE N = 0 ∧ (0 ≤ w.1 ∧ w.1 < N.ns.length) ∧ (0 ≤ w.2 ∧ w.2 < N.ns.length) ∧ w.1 ≠ w.2 := by
  unfold wE at h
  split at h
  · rename_i h0
    unfold wayE at h
    split at h
    · rename_i h1
      split at h
      · cases h
      · rename_i h2
        refine ⟨h0, ?_, ?_, h2⟩
        · rcases ndE_two N w.1 with ⟨_, e⟩ | e
          · exact e
          · rw [e] at h1; exact absurd h1.1 (by decide)
        · rcases ndE_two N w.2 with ⟨_, e⟩ | e
          · exact e
          · rw [e] at h1; exact absurd h1.2 (by decide)
    · cases h
  · contradiction
def cutE (N : Net) (w : Int × Int) : Int := if wE N w = 0 then (if (optL (cutR N w)).2 then 0 else 12) else wE N w
theorem firstN_len {f : Nat → Option (List Int)} {B : Nat} (h : ∀ k s, f k = some s → s.length ≤ B) : ∀ n k s, firstN f n k = some s → s.length ≤ B
  | 0, k, s, e => by cases e
  | n + 1, k, s, e => by
    rw [firstN] at e
    split at e
    · rename_i s' e'
      cases e
      exact h k _ e'
    · exact firstN_len h n (k + 1) s e
theorem findS_len {P : List Int → Bool} : ∀ (r : List Int) (n : Nat) (b s : List Int), findS P r n b = some s → s.length = b.length + n
  | r, 0, b, s, h => by
    rw [findS_zero] at h
    split at h
    · cases h; rfl
    · cases h
  | [], n + 1, b, s, h => by cases h
  | x :: r, n + 1, b, s, h => by
    rw [findS] at h
    split at h
    · rename_i s' e
      cases h
      have := findS_len r n _ _ e
      rw [List.length_append, List.length_singleton] at this
      omega
    · exact findS_len r (n + 1) b s h
theorem vals_len (N : Net) : (valsF N).length ≤ N.cs.length := by
  have := whereF_len (N.cs.map fun c => c.valve && c.opn) 0
  rwa [List.length_map] at this
theorem findS_le {P : List Int → Bool} {r b s : List Int} {n : Nat} (h : findS P r n b = some s) : n ≤ r.length := by
  rcases Nat.lt_or_ge r.length n with h1 | h1
  · rw [findS_big r n b h1] at h; cases h
  · exact h1
theorem cutR_len (N : Net) (w : Int × Int) : (optL (cutR N w)).1.length ≤ N.cs.length := by
  have hv := vals_len N
  unfold cutR cutP
  cases h : firstN (fun n => findS (cutB N w) (valsF N) n []) ((valsF N).length + 1) 0 with
  | none => exact Nat.zero_le _
  | some s =>
    have := firstN_len (f := fun n => findS (cutB N w) (valsF N) n []) (B := (valsF N).length) (fun k s e => by
      have a := findS_len (valsF N) k [] s e
      have b := findS_le e
      rw [List.length_nil] at a
      omega) _ _ _ h
    show s.length ≤ _
    omega
theorem S55 (N : Net) (hN : N.In) (w : Int × Int) : SP 55 [netV N, .agg [i64 w.1, i64 w.2]] (.tuple [ints (if wE N w = 0 then (optL (cutR N w)).1 else []), i64 (cutE N w)]) false := by
  have h115 := S115 N hN w
  unfold cutE
  by_cases hE : wE N w = 0
  · rw [if_pos hE, if_pos hE]
    rw [hE] at h115
    obtain ⟨h0, h1, h2, h3⟩ := wE_ok hE
    have hok := net_ok h0
    have hn := hok.n1
    have hc := hok.c1
    have h116 := S116 N w (by omega) (by omega) hok.ends h1 h2
    have hl := cutR_len N w
    have h117 := S117 (optL (cutR N w)).1 (by omega)
    have hz : (optL (cutR N w)).2 = false → (optL (cutR N w)).1 = [] := by
      cases cutR N w with
      | none => intro _; rfl
      | some s => intro h; cases h
    generalize optL (cutR N w) = Q at *
    refine sound (d := 2) tok2 mixed2 Try.func55 (by kernel_rfl) (by kernel_rfl) ?_
    conv => whnf
    refine .inl ⟨_, _, byX rfl (h115), ?_⟩
    conv => whnf
    refine .inl ⟨_, _, byX rfl (h116), ?_⟩
    conv => whnf
    refine ifB_not ?_
    conv => whnf
    refine ifB_intro (fun w1 => ?_) (fun w1 => ?_)
    · conv => whnf
      refine .inl ⟨_, _, byX rfl (h117), ?_⟩
      conv => whnf
      refine ⟨?_, nofun⟩
      rw [if_pos (show Q.2 = true by assumption)]
      exact ave_tup2 (k := 4) (ave_ints rfl fun _ _ => rfl) rfl
    · conv => whnf
      refine ⟨?_, nofun⟩
      have e : Q.2 = false := by assumption
      rw [if_neg (by rw [e]; decide), hz e]
      exact ave_tup2 (k := 4) (show (0 : Nat) = 0 from rfl) rfl
  · rw [if_neg hE, if_neg hE]
    refine sound (d := 2) tok2 mixed2 Try.func55 (by kernel_rfl) (by kernel_rfl) ?_
    conv => whnf
    refine .inl ⟨_, _, byX rfl (h115), ?_⟩
    conv => whnf
    refine ifB_bne (fun w1 => ?_) (fun w1 => ?_)
    · conv => whnf
      refine ⟨?_, nofun⟩
      exact ave_tup2 (k := 4) (show (0 : Nat) = 0 from rfl) rfl
    · (exfalso; omega)
theorem S58 (N : Net) (hN : N.In) (w : Int × Int) : SP 58 [netV N, .agg [i64 w.1, i64 w.2]] (i64 (wayE N w)) false := by
  have h1 := S33 N hN.nl w.1
  have h2 := S33 N hN.nl w.2
  unfold wayE
  refine sound (d := 2) tok2 mixed2 Try.func58 (by kernel_rfl) (by kernel_rfl) ?_
  conv => whnf
  refine .inl ⟨_, _, byX rfl (Sound1.pl (h1) rfl), ?_⟩
  conv => whnf
  refine ifB_bne (fun w1 => ?_) (fun w1 => ?_)
  · conv => whnf
    refine ⟨?_, nofun⟩
    rw [if_neg (fun h => absurd h.1 w1)]; rfl
  · conv => whnf
    refine .inl ⟨_, _, byX rfl (Sound1.pl (h2) rfl), ?_⟩
    conv => whnf
    refine ifB_bne (fun w2 => ?_) (fun w2 => ?_)
    · conv => whnf
      refine ⟨?_, nofun⟩
      rw [if_neg (fun h => absurd h.2 w2)]; rfl
    · conv => whnf
      refine ifB_beq (fun w3 => ?_) (fun w3 => ?_)
      · conv => whnf
        refine ⟨?_, nofun⟩
        rw [if_pos ⟨w1, w2⟩, if_pos w3]; rfl
      · conv => whnf
        refine ⟨?_, nofun⟩
        rw [if_pos ⟨w1, w2⟩, if_neg w3]; rfl

/-! ### The reference's cut -/
theorem whereF_has {l : List Bool} {x : Int} (h0 : 0 ≤ x) (h1 : x < l.length) : (whereF 0 l).contains x = l.getD x.toNat false := by
  rw [Bool.eq_iff_iff, List.contains_iff_mem, whereF_memI]
  constructor
  · rintro ⟨i, _, h2, h3⟩
    rw [Nat.zero_add] at h2
    rw [h2]; exact h3
  · intro h
    exact ⟨x.toNat, by omega, by omega, h⟩
theorem S67 (N : Net) (s : List Int) (hs : ∀ x ∈ s, 0 ≤ x ∧ x < N.cs.length) (hl : s.length ≤ 1000) (h1 : N.ns.length ≤ 1000) (h2 : N.cs.length ≤ 1000) : SP 67 [netV N, ints s] (.agg [listA 4 ndC nd0 N.ns, .rslice 6 N.cs.length fun i => cnC ((closeC N.cs s).getD i cn0)]) false := by
  have h17 := S17o N h1 h2
  generalize hR : closeC N.cs s = R
  refine sound (d := 2) tok2 mixed2 Try.func67 (by kernel_rfl) (by kernel_rfl) ?_
  conv => whnf
  refine .inl ⟨_, _, byX rfl (h17), ?_⟩
  conv => whnf
  refine ⟨[], [1, 4, 5, 6], fun st mq => ∃ (k : Nat) (C : List Cn) (F0 : Nat → List AV), (k ≤ s.length) ∧ (C.length = N.cs.length) ∧ (closeC C (s.drop k) = R) ∧ st = ⟨[(1, ints s), (4, .optr 1 0 0 0), (5, .optr 4 0 0 0), (6, i64 k)], ⟨[⟨2, 1, F0, 0, false, true, false⟩, ⟨2, 1, fun _ => [.eslice, .eslice], 0, false, true, true⟩, ⟨4, N.ns.length, fun i => ndC (N.ns.getD i nd0), 0, false, true, false⟩, ⟨6, N.cs.length, fun i => cnC (C.getD i cn0), 0, false, true, false⟩, ⟨2, 1, fun _ => [.oslice 2 0 0 N.ns.length none, .oslice 3 0 0 N.cs.length none], 0, false, false, true⟩], [], none, 0⟩, []⟩ ∧ mq = s.length - k,
    ⟨_, _, ⟨0, N.cs, _, by omega, rfl, hR, rfl, rfl⟩, ⟨⟨rfl, rfl, rfl, rfl⟩, ⟨⟨rfl, rfl, rfl, rfl, fun _ => rfl, fun _ _ => rfl⟩, ⟨⟨rfl, rfl, rfl, rfl, fun _ => rfl, fun _ _ => rfl⟩, ⟨⟨rfl, rfl, rfl, rfl, fun _ => rfl, fun _ _ => rfl⟩, ⟨⟨rfl, rfl, rfl, rfl, fun _ => rfl, fun _ _ => rfl⟩, ⟨⟨rfl, rfl, rfl, rfl, nofun, fun _ _ => rfl⟩, trivial⟩⟩⟩⟩⟩, trivial⟩⟩, ?_⟩
  rintro s0 m0 ⟨k, C, F0, hk, hC, hf, rfl, hmeas⟩
  by_cases hkl : k < s.length
  · have hx := hs (s.getD (k : Int).toNat 0) (by simp [List.getD_eq_getElem?_getD, hkl])
    have e : s.drop k = s.getD (k : Int).toNat 0 :: s.drop (k + 1) := by
      rw [List.drop_eq_getElem_cons hkl]; simp [List.getD_eq_getElem?_getD, hkl]
    rw [e] at hf
    conv => whnf
    conv => whnf
    refine ifB_dec (fun w1 => ?_) (fun w1 => ?_)
    · conv => whnf
      conv => whnf
      refine ⟨[], by kernel_rfl, ?_⟩
      conv => whnf
      conv => whnf
      refine ⟨⟨(by omega), (by omega)⟩, ?_⟩
      conv => whnf
      conv => whnf
      refine ⟨⟨(by omega), (by omega)⟩, ?_⟩
      refine ⟨_, fun i _ => con_row C (s.getD (k : Int).toNat 0).toNat i false (by omega), ?_⟩
      conv => whnf
      conv => whnf
      refine ⟨inK64 (by omega) (by omega), ?_⟩
      conv => whnf
      conv => whnf
      refine ⟨_, _, ⟨⟨k + 1, _, _, by omega, (by rw [List.length_set]; exact hC), hf, rfl, rfl⟩, by omega⟩, ⟨⟨rfl, rfl, rfl, rfl⟩, ⟨⟨rfl, rfl, rfl, rfl, fun _ => rfl, fun _ _ => rfl⟩, ⟨⟨rfl, rfl, rfl, rfl, fun _ => rfl, fun _ _ => rfl⟩, ⟨⟨rfl, rfl, rfl, rfl, fun _ => rfl, fun _ _ => rfl⟩, ⟨⟨rfl, rfl, rfl, rfl, fun _ => rfl, fun _ _ => rfl⟩, ⟨⟨rfl, rfl, rfl, rfl, nofun, fun _ _ => rfl⟩, trivial⟩⟩⟩⟩⟩, trivial⟩⟩
    · (exfalso; omega)
  · have e : k = s.length := by omega
    subst e
    rw [List.drop_length] at hf
    have e : C = R := hf
    subst e
    conv => whnf
    conv => whnf
    refine ifB_dec (fun w1 => ?_) (fun w1 => ?_)
    · (exfalso; omega)
    · conv => whnf
      conv => whnf
      refine ⟨?_, nofun⟩
      exact ave_agg2 (k := 4) (a := .rslice 4 N.ns.length _) (b := .rslice 6 N.cs.length _) ⟨rfl, rfl, fun _ _ => rfl⟩ ⟨rfl, rfl, fun _ _ => rfl⟩

/-- Numbers of open valves. -/
def GoodS (N : Net) (s : List Int) : Prop := ∀ x ∈ s, 0 ≤ x ∧ x < N.cs.length ∧ (N.cs.getD x.toNat cn0).opn = true ∧ (N.cs.getD x.toNat cn0).valve = true
theorem GoodS.rng {N : Net} {s : List Int} (h : GoodS N s) : ∀ x ∈ s, 0 ≤ x ∧ x < N.cs.length := fun x hx => ⟨(h x hx).1, (h x hx).2.1⟩
theorem S121 (N : Net) (w : Int × Int) (s : List Int) (hs : GoodS N s) (hl : s.length ≤ 1000) (hn : N.ns.length ≤ 1000) (hc : N.cs.length ≤ 1000) (hr : inR N.ns.length N.cs) (h1 : 0 ≤ w.1 ∧ w.1 < N.ns.length) (h2 : 0 ≤ w.2 ∧ w.2 < N.ns.length) :
    SP 121 [netV N, .agg [i64 w.1, i64 w.2], ints s] (vb (cutB N w s)) false := by
  have h67 := S67 N s hs.rng hl hn hc
  have hcl := (closeC_get s N.cs hs.rng).1
  have h35 : SP 35 [.agg [listA 4 ndC nd0 N.ns, .rslice 6 N.cs.length fun i => cnC ((closeC N.cs s).getD i cn0)], i64 w.1] (ints (whereF 0 (reachB (closeN N s) w.1))) false :=
    (S35 (closeN N s) w.1 h1.1 h1.2 hn (by show (closeC N.cs s).length ≤ _; omega) (close_inR hs.rng hr)).args rfl fun i y x hy hx => by
      match i, hy, hx with
      | 0, hy, hx => cases hy; cases hx; exact ave_agg2 (k := 4) (a := .rslice 4 N.ns.length _) (b := .rslice 6 N.cs.length _) ⟨rfl, rfl, fun _ _ => rfl⟩ ⟨rfl, hcl.symm, fun _ _ => rfl⟩
      | 1, hy, hx => cases hy; cases hx; rfl
  rw [close_reach hs.rng] at h35
  have hrl : (clo (useS N s) N.cs (marks N.ns.length [w.1])).length = N.ns.length := by rw [clo_len, marks_len]
  unfold cutB
  generalize clo (useS N s) N.cs (marks N.ns.length [w.1]) = R at *
  have hwl := whereF_len R 0
  have h68 := S68 (whereF 0 R) w.2 (by omega)
  rw [whereF_has h2.1 (by omega)] at h68
  refine sound (d := 2) tok2 mixed2 Try.func121 (by kernel_rfl) (by kernel_rfl) ?_
  conv => whnf
  refine ⟨[], [2, 3, 4, 7], fun st mq => ∃ (k : Nat), (k ≤ s.length) ∧ st = ⟨[(2, ints s), (3, .optr 0 0 0 0), (4, .optr 1 0 0 0), (7, i64 k)], ⟨[netBlk N, ⟨2, 1, fun _ => [i64 w.1, i64 w.2], 0, false, true, true⟩], [], none, 0⟩, []⟩ ∧ mq = s.length - k,
    ⟨_, _, ⟨0, by omega, rfl, rfl⟩, ⟨⟨rfl, rfl, rfl, rfl⟩, ⟨⟨rfl, rfl, rfl, rfl, fun _ => rfl, fun _ _ => rfl⟩, ⟨⟨rfl, rfl, rfl, rfl, fun _ => rfl, fun _ _ => rfl⟩, trivial⟩⟩, trivial⟩⟩, ?_⟩
  rintro s0 m0 ⟨k, hk, rfl, hmeas⟩
  by_cases hkl : k < s.length
  · have hx := hs (s.getD (k : Int).toNat 0) (by simp [List.getD_eq_getElem?_getD, hkl])
    have hx1 := hx.1
    have hx2 := hx.2.1
    have hx3 := hx.2.2.1
    have hx4 := hx.2.2.2
    conv => whnf
    conv => whnf
    refine ifB_dec (fun w1 => ?_) (fun w1 => ?_)
    · conv => whnf
      conv => whnf
      refine ⟨[], by kernel_rfl, ?_⟩
      conv => whnf
      conv => whnf
      refine ⟨⟨(by omega), (by omega)⟩, ?_⟩
      conv => whnf
      conv => whnf
      refine ⟨⟨(by omega), (by omega)⟩, ?_⟩
      conv => whnf
      conv => whnf
      refine ifB_not ?_
      conv => whnf
      conv => whnf
      refine ifB_intro (fun w2 => ?_) (fun w2 => ?_)
      · conv => whnf
        conv => whnf
        refine ⟨⟨(by omega), (by omega)⟩, ?_⟩
        conv => whnf
        conv => whnf
        refine ⟨⟨(by omega), (by omega)⟩, ?_⟩
        conv => whnf
        conv => whnf
        refine ifB_not ?_
        conv => whnf
        conv => whnf
        refine ifB_intro (fun w3 => ?_) (fun w3 => ?_)
        · conv => whnf
          conv => whnf
          refine ⟨inK64 (by omega) (by omega), ?_⟩
          · conv => whnf
            conv => whnf
            refine ⟨_, _, ⟨⟨k + 1, by omega, rfl, rfl⟩, by omega⟩, ⟨⟨rfl, rfl, rfl, rfl⟩, ⟨⟨rfl, rfl, rfl, rfl, fun _ => rfl, fun _ _ => rfl⟩, ⟨⟨rfl, rfl, rfl, rfl, fun _ => rfl, fun _ _ => rfl⟩, trivial⟩⟩, trivial⟩⟩
        · exact absurd (hx4.symm.trans w3) nofun
      · exact absurd (hx3.symm.trans w2) nofun
    · (exfalso; omega)
  · have e : k = s.length := by omega
    subst e
    conv => whnf
    conv => whnf
    refine ifB_dec (fun w1 => ?_) (fun w1 => ?_)
    · (exfalso; omega)
    · conv => whnf
      conv => whnf
      refine ⟨[], by kernel_rfl, ?_⟩
      conv => whnf
      conv => whnf
      refine .inl ⟨_, _, byX rfl (h67), ?_⟩
      conv => whnf
      conv => whnf
      refine .inl ⟨_, _, byX rfl (h35), ?_⟩
      conv => whnf
      conv => whnf
      refine .inl ⟨_, _, byX rfl (Sound1.pl (h68) rfl), ?_⟩
      conv => whnf
      conv => whnf
      refine ⟨?_, nofun⟩
      rfl
/-- Sets one after the other, as the reference takes them. -/
theorem S122 (N : Net) (w : Int × Int) (hn : N.ns.length ≤ 1000) (hc : N.cs.length ≤ 1000) (hr : inR N.ns.length N.cs) (h1 : 0 ≤ w.1 ∧ w.1 < N.ns.length) (h2 : 0 ≤ w.2 ∧ w.2 < N.ns.length) :
    ∀ (n : Nat) (r b : List Int), GoodS N b → GoodS N r → b.length + n ≤ 100 → r.length ≤ 100 → SP 122 [netV N, .agg [i64 w.1, i64 w.2], ints r, ints b, i64 n] (.tuple [ints (resS (cutB N w) r n b).1, vb (resS (cutB N w) r n b).2]) false := by
  intro n
  induction n with
  | zero =>
    intro r b gb gr hb hr'
    have h121 := S121 N w b gb (by omega) hn hc hr h1 h2
    refine sound (d := 2) tok2 mixed2 Try.func122 (by kernel_rfl) (by kernel_rfl) ?_
    conv => whnf
    refine .inl ⟨_, _, byX rfl (Sound1.pl (h121) rfl), ?_⟩
    conv => whnf
    refine ⟨?_, nofun⟩
    exact ave_tup2 (k := 4) (ave_ints rfl fun _ _ => rfl) rfl
  | succ n ih =>
    intro r b gb gr hb hr'
    generalize hR : resS (cutB N w) r (n + 1) b = R
    unfold resS at hR
    simp only at hR
    have h26 := S26 b (by omega)
    refine sound (d := 2) tok2 mixed2 Try.func122 (by kernel_rfl) (by kernel_rfl) ?_
    conv => whnf
    refine ⟨[], [2, 3, 4, 5, 6, 12], fun st mq => ∃ (k : Nat), (k ≤ r.length) ∧ (findS (cutB N w) (r.drop k) (n + 1) b = findS (cutB N w) r (n + 1) b) ∧ st = ⟨[(2, ints r), (3, ints b), (4, i64 (n + 1)), (5, .optr 0 0 0 0), (6, .optr 1 0 0 0), (12, i64 k)], ⟨[netBlk N, ⟨2, 1, fun _ => [i64 w.1, i64 w.2], 0, false, true, true⟩], [], none, 0⟩, []⟩ ∧ mq = r.length - k,
      ⟨_, _, ⟨0, by omega, rfl, rfl, rfl⟩, ⟨⟨rfl, rfl, rfl, rfl⟩, ⟨⟨rfl, rfl, rfl, rfl, fun _ => rfl, fun _ _ => rfl⟩, ⟨⟨rfl, rfl, rfl, rfl, fun _ => rfl, fun _ _ => rfl⟩, trivial⟩⟩, trivial⟩⟩, ?_⟩
    rintro s0 m0 ⟨k, hk, hf, rfl, hmeas⟩
    by_cases hkl : k < r.length
    · have hxm : r.getD (k : Int).toNat 0 ∈ r := by simp [List.getD_eq_getElem?_getD, hkl]
      have ihk := ih (r.drop (k + 1)) (b ++ [r.getD (k : Int).toNat 0]) (fun x hx => by
        rcases List.mem_append.1 hx with h | h
        · exact gb x h
        · rw [List.mem_singleton] at h; rw [h]; exact gr _ hxm) (fun x hx => gr x (List.mem_of_mem_drop hx)) (by simp; omega) (by simp; omega)
      have ihf : ∀ (p : Nat) (f : Nat → List AV) (q : Nat) (g : Nat → List AV) (c : Int), p = b.length + 1 ∧ q = r.length - (k + 1) ∧ c = n → (∀ i, i < b.length + 1 → f i = [i64 ((b ++ [r.getD (k : Int).toNat 0]).getD i 0)]) → (∀ i, i < r.length - (k + 1) → g i = [i64 (r.getD (k + 1 + i) 0)]) →
          SP 122 [netV N, .agg [i64 w.1, i64 w.2], .rslice 1 q g, .rslice 1 p f, i64 c] (.tuple [ints (resS (cutB N w) (r.drop (k + 1)) n (b ++ [r.getD (k : Int).toNat 0])).1, vb (resS (cutB N w) (r.drop (k + 1)) n (b ++ [r.getD (k : Int).toNat 0])).2]) false := by
        rintro p f q g c ⟨rfl, rfl, rfl⟩ hf hg
        refine ihk.args rfl fun i y x hy hx => ?_
        match i, hy, hx with
        | 0, hy, hx => cases hy; cases hx; exact ave_agg2 (k := 4) (a := .rslice 4 N.ns.length _) (b := .rslice 6 N.cs.length _) ⟨rfl, rfl, fun _ _ => rfl⟩ ⟨rfl, rfl, fun _ _ => rfl⟩
        | 1, hy, hx => cases hy; cases hx; exact ave2 _ _
        | 2, hy, hx => cases hy; cases hx; exact ⟨rfl, by simp, fun i hi => by rw [hg i hi]; simp [List.getD_eq_getElem?_getD]⟩
        | 3, hy, hx => cases hy; cases hx; exact ⟨rfl, by simp, hf⟩
        | 4, hy, hx => cases hy; cases hx; rfl
      rw [findS_drop hkl] at hf
      have h2 := resS_two (cutB N w) (r.drop (k + 1)) n (b ++ [r.getD (k : Int).toNat 0])
      generalize resS (cutB N w) (r.drop (k + 1)) n (b ++ [r.getD (k : Int).toNat 0]) = Q at *
      conv => whnf
      conv => whnf
      refine ifB_dec (fun w1 => ?_) (fun w1 => ?_)
      · conv => whnf
        conv => whnf
        refine ⟨[], by kernel_rfl, ?_⟩
        conv => whnf
        conv => whnf
        refine .inl ⟨_, _, byX rfl (h26), ?_⟩
        conv => whnf
        conv => whnf
        refine ⟨⟨(by omega), (by omega)⟩, ?_⟩
        conv => whnf
        conv => whnf
        refine ⟨(by show _ * (8 + 1) ≤ _; omega), ?_⟩
        conv => whnf
        conv => whnf
        refine ⟨[], by kernel_rfl, ?_⟩
        conv => whnf
        conv => whnf
        refine ⟨inK64 (by omega) (by omega), ?_⟩
        conv => whnf
        conv => whnf
        refine ⟨⟨(by omega), ⟨(by omega), (by omega)⟩⟩, ?_⟩
        conv => whnf
        conv => whnf
        refine ⟨inK64 (by omega) (by omega), ?_⟩
        conv => whnf
        conv => whnf
        refine .inl ⟨_, _, byX rfl (ihf _ _ _ _ _ ?_ ?_ ?_), ?_⟩
        · exact ⟨rfl, by omega, by omega⟩
        · intro i hi
          exact (app_row (acc := b) rfl (r.getD (k : Int).toNat 0) i hi).symm
        · intro i hi
          rw [shiftF_eq]
          show [i64 (r.getD (((k : Int) + 1).toNat + i) 0)] = _
          rw [show ((k : Int) + 1).toNat = k + 1 by omega]
        · conv => whnf
          conv => whnf
          refine ifB_intro (fun w2 => ?_) (fun w2 => ?_)
          · conv => whnf
            conv => whnf
            refine ⟨?_, nofun⟩
            rcases h2 with ⟨s, e1, e2⟩ | ⟨e1, e2⟩
            · rw [show r.getD (k : Int).toNat 0 = r.getD k 0 from rfl] at e1
              rw [e1] at hf
              rw [← hf] at hR
              subst hR e2
              exact ave_tup2 (k := 4) (ave_ints rfl fun _ _ => rfl) rfl
            · rw [e2] at w2; cases w2
          · conv => whnf
            conv => whnf
            refine ⟨inK64 (by omega) (by omega), ?_⟩
            rcases h2 with ⟨s, e1, e2⟩ | ⟨e1, e2⟩
            · rw [e2] at w2; cases w2
            · rw [show r.getD (k : Int).toNat 0 = r.getD k 0 from rfl] at e1
              rw [e1] at hf
              conv => whnf
              conv => whnf
              refine ⟨_, _, ⟨⟨k + 1, by omega, hf, rfl, rfl⟩, by omega⟩, ⟨⟨rfl, rfl, rfl, rfl⟩, ⟨⟨rfl, rfl, rfl, rfl, fun _ => rfl, fun _ _ => rfl⟩, ⟨⟨rfl, rfl, rfl, rfl, fun _ => rfl, fun _ _ => rfl⟩, trivial⟩⟩, trivial⟩⟩
      · (exfalso; omega)
    · have e : k = r.length := by omega
      subst e
      rw [List.drop_length, findS] at hf
      rw [← hf] at hR
      subst hR
      conv => whnf
      conv => whnf
      refine ifB_dec (fun w1 => ?_) (fun w1 => ?_)
      · (exfalso; omega)
      · conv => whnf
        conv => whnf
        refine ⟨?_, nofun⟩
        exact ave_tup2 (k := 4) (show (0 : Nat) = 0 from rfl) rfl

theorem S59 (N : Net) (w : Int × Int) (hn : N.ns.length ≤ 1000) (hc : N.cs.length ≤ 90) (hr : inR N.ns.length N.cs) (h1 : 0 ≤ w.1 ∧ w.1 < N.ns.length) (h2 : 0 ≤ w.2 ∧ w.2 < N.ns.length) :
    SP 59 [netV N, .agg [i64 w.1, i64 w.2]] (.tuple [ints (optL (cutR N w)).1, vb (optL (cutR N w)).2]) false := by
  have gv : GoodS N (valsF N) := vals_mem N
  have h122 := fun j => S122 N w hn (by omega) hr h1 h2 j (valsF N) [] nofun gv
  have h121 := S121 N w (valsF N) gv (by have := vals_len N; omega) hn (by omega) hr h1 h2
  generalize hR : optL (cutR N w) = R
  unfold cutR at hR
  rw [cutP_ref (fun s hs h => cut_mono hr hs h)] at hR
  have hvl := vals_len N
  have hv : whereF 0 (N.cs.map fun c => c.valve && c.opn) = valsF N := rfl
  refine sound (d := 2) tok2 mixed2 Try.func59 (by kernel_rfl) (by kernel_rfl) ?_
  conv => whnf
  refine ⟨[.slot 6 1], [2, 3, 6, 7], fun st mq => ∃ (k : Nat) (n : Nat) (a : List Int), (k ≤ N.cs.length) ∧ (a.length = n) ∧ (n ≤ k) ∧ (a ++ whereF k ((N.cs.map fun c => c.valve && c.opn).drop k) = valsF N) ∧ st = ⟨[(2, .optr 0 0 0 0), (3, .optr 1 0 0 0), (6, .oslice 2 0 0 n none), (7, i64 k)], ⟨[netBlk N, ⟨2, 1, fun _ => [i64 w.1, i64 w.2], 0, false, true, true⟩, ⟨1, n, fun i => [i64 (a.getD i 0)], 0, false, true, false⟩], [], none, 0⟩, []⟩ ∧ mq = N.cs.length - k,
    ⟨_, _, ⟨0, 0, [], by omega, rfl, by omega, hv, rfl, rfl⟩, ⟨⟨rfl, rfl, rfl, rfl⟩, ⟨⟨rfl, rfl, rfl, rfl, fun _ => rfl, fun _ _ => rfl⟩, ⟨⟨rfl, rfl, rfl, rfl, fun _ => rfl, fun _ _ => rfl⟩, ⟨⟨rfl, rfl, rfl, rfl, fun _ => rfl, fun i h => absurd h (Nat.not_lt_zero i)⟩, trivial⟩⟩⟩, trivial⟩⟩, ?_⟩
  rintro s0 m0 ⟨k, n, a, hk, hn1, ha, hw, rfl, hmeas⟩
  by_cases hkl : k < N.cs.length
  · rw [whereF_drop (by simpa using hkl), vals_row N k hkl] at hw
    conv => whnf
    conv => whnf
    refine ifB_dec (fun w1 => ?_) (fun w1 => ?_)
    · conv => whnf
      conv => whnf
      refine ⟨⟨(by omega), (by omega)⟩, ?_⟩
      conv => whnf
      conv => whnf
      refine ifB_intro (fun w2 => ?_) (fun w2 => ?_)
      · conv => whnf
        conv => whnf
        refine ⟨⟨(by omega), (by omega)⟩, ?_⟩
        conv => whnf
        conv => whnf
        refine ifB_intro (fun w3 => ?_) (fun w3 => ?_)
        · conv => whnf
          conv => whnf
          refine ⟨(by show _ * (8 + 1) ≤ _; omega), ?_⟩
          conv => whnf
          conv => whnf
          refine ⟨inK64 (by omega) (by omega), ?_⟩
          have a1 : (N.cs.getD k cn0).valve = true := by first | exact w2 | exact w3
          have a2 : (N.cs.getD k cn0).opn = true := by first | exact w2 | exact w3
          rw [a1, a2] at hw
          conv => whnf
          conv => whnf
          refine ⟨_, _, ⟨⟨k + 1, n + 1, a ++ [(k : Int)], by omega, by simpa using hn1, by omega, by simpa using hw, rfl, rfl⟩, by omega⟩, ⟨⟨rfl, rfl, rfl, rfl⟩, ⟨⟨rfl, rfl, rfl, rfl, fun _ => rfl, fun _ _ => rfl⟩, ⟨⟨rfl, rfl, rfl, rfl, fun _ => rfl, fun _ _ => rfl⟩, ⟨⟨rfl, rfl, rfl, rfl, fun _ => rfl, fun i h => app_row hn1 _ i h⟩, trivial⟩⟩⟩, trivial⟩⟩
        · conv => whnf
          conv => whnf
          refine ⟨inK64 (by omega) (by omega), ?_⟩
          have a2 : (N.cs.getD k cn0).valve = false := by first | exact w2 | exact w3
          rw [a2, Bool.false_and] at hw
          conv => whnf
          conv => whnf
          refine ⟨_, _, ⟨⟨k + 1, n, a, by omega, hn1, by omega, hw, rfl, rfl⟩, by omega⟩, ⟨⟨rfl, rfl, rfl, rfl⟩, ⟨⟨rfl, rfl, rfl, rfl, fun _ => rfl, fun _ _ => rfl⟩, ⟨⟨rfl, rfl, rfl, rfl, fun _ => rfl, fun _ _ => rfl⟩, ⟨⟨rfl, rfl, rfl, rfl, fun _ => rfl, fun _ _ => rfl⟩, trivial⟩⟩⟩, trivial⟩⟩
      · conv => whnf
        conv => whnf
        refine ⟨inK64 (by omega) (by omega), ?_⟩
        have a2 : (N.cs.getD k cn0).opn = false := by first | exact w2 | exact w3
        rw [a2, Bool.and_false] at hw
        conv => whnf
        conv => whnf
        refine ⟨_, _, ⟨⟨k + 1, n, a, by omega, hn1, by omega, hw, rfl, rfl⟩, by omega⟩, ⟨⟨rfl, rfl, rfl, rfl⟩, ⟨⟨rfl, rfl, rfl, rfl, fun _ => rfl, fun _ _ => rfl⟩, ⟨⟨rfl, rfl, rfl, rfl, fun _ => rfl, fun _ _ => rfl⟩, ⟨⟨rfl, rfl, rfl, rfl, fun _ => rfl, fun _ _ => rfl⟩, trivial⟩⟩⟩, trivial⟩⟩
    · (exfalso; omega)
  · have e : k = N.cs.length := by omega
    subst e
    rw [List.drop_eq_nil_of_le (by simp), whereF, List.append_nil] at hw
    subst hw
    subst hn1
    generalize hF : (fun n => findS (cutB N w) (valsF N) n []) = F at hR
    have h122f : ∀ j : Nat, j ≤ (valsF N).length → SP 122 [netV N, .agg [i64 w.1, i64 w.2], ints (valsF N), .eslice, i64 j] (.tuple [ints (resS (cutB N w) (valsF N) j []).1, vb (resS (cutB N w) (valsF N) j []).2]) false := fun j hj =>
      (h122 j (by rw [List.length_nil]; omega) (by omega)).args rfl fun i y x hy hx => by
        match i, hy, hx with
        | 0, hy, hx => cases hy; cases hx; exact ave_agg2 (k := 4) (a := .rslice 4 N.ns.length _) (b := .rslice 6 N.cs.length _) ⟨rfl, rfl, fun _ _ => rfl⟩ ⟨rfl, rfl, fun _ _ => rfl⟩
        | 1, hy, hx => cases hy; cases hx; exact ave2 _ _
        | 2, hy, hx => cases hy; cases hx; exact ⟨rfl, rfl, fun _ _ => rfl⟩
        | 3, hy, hx => cases hy; cases hx; exact (show (0 : Nat) = 0 from rfl)
        | 4, hy, hx => cases hy; cases hx; rfl
    have h2 := resS_two (cutB N w) (valsF N)
    generalize valsF N = V at *
    by_cases hPV : cutB N w V = true
    · rw [if_pos hPV] at hR
      rw [hPV] at h121
      conv => whnf
      conv => whnf
      refine ifB_dec (fun w1 => ?_) (fun w1 => ?_)
      · (exfalso; omega)
      · conv => whnf
        conv => whnf
        refine .inl ⟨_, _, byX rfl (Sound1.pl (h121) rfl), ?_⟩
        conv => whnf
        conv => whnf
        refine ⟨[], [2, 3, 6, 8], fun st mq => ∃ (k : Nat) (o : Bool), (k ≤ V.length) ∧ (firstN F (V.length - k) k = firstN F V.length 0) ∧ st = ⟨[(2, .optr 0 0 0 0), (3, .optr 1 0 0 0), (6, .oslice 2 0 0 V.length none), (8, i64 k)], ⟨[netBlk N, ⟨2, 1, fun _ => [i64 w.1, i64 w.2], 0, false, true, true⟩, ⟨1, V.length, fun i => [i64 (V.getD i 0)], 0, o, true, false⟩], [], none, 0⟩, []⟩ ∧ mq = V.length - k,
          ⟨_, _, ⟨0, _, by omega, rfl, rfl, rfl⟩, ⟨⟨rfl, rfl, rfl, rfl⟩, ⟨⟨rfl, rfl, rfl, rfl, fun _ => rfl, fun _ _ => rfl⟩, ⟨⟨rfl, rfl, rfl, rfl, fun _ => rfl, fun _ _ => rfl⟩, ⟨⟨rfl, rfl, rfl, rfl, fun _ => rfl, fun _ _ => rfl⟩, trivial⟩⟩⟩, trivial⟩⟩, ?_⟩
        rintro s0 m0 ⟨k, o, hk, hf, rfl, hmeas⟩
        by_cases hkl : k < V.length
        · have h122k := h122f k (by omega)
          have h2 := h2 k []
          rw [show V.length - k = (V.length - (k + 1)) + 1 by omega, firstN_step] at hf
          have hFk : F k = findS (cutB N w) V k [] := by rw [← hF]
          rw [hFk] at hf
          generalize resS (cutB N w) V k [] = Q at *
          conv => whnf
          conv => whnf
          conv => whnf
          refine ifB_dec (fun w2 => ?_) (fun w2 => ?_)
          · conv => whnf
            conv => whnf
            conv => whnf
            refine .inl ⟨_, _, byX rfl (h122k), ?_⟩
            conv => whnf
            conv => whnf
            conv => whnf
            refine ifB_intro (fun w3 => ?_) (fun w3 => ?_)
            · conv => whnf
              conv => whnf
              conv => whnf
              refine ⟨?_, nofun⟩
              rcases h2 with ⟨s, e1, e2⟩ | ⟨e1, e2⟩
              · rw [e1] at hf
                rw [← hf] at hR
                subst hR e2
                exact ave_tup2 (k := 4) (ave_ints rfl fun _ _ => rfl) rfl
              · exfalso
                have w : Q.2 = true := by assumption
                rw [e2] at w; cases w
            · conv => whnf
              conv => whnf
              conv => whnf
              refine ⟨inK64 (by omega) (by omega), ?_⟩
              rcases h2 with ⟨s, e1, e2⟩ | ⟨e1, e2⟩
              · exfalso
                have w : Q.2 = false := by assumption
                rw [e2] at w; cases w
              · rw [e1] at hf
                conv => whnf
                conv => whnf
                conv => whnf
                refine ⟨_, _, ⟨⟨k + 1, _, by omega, hf, rfl, rfl⟩, by omega⟩, ⟨⟨rfl, rfl, rfl, rfl⟩, ⟨⟨rfl, rfl, rfl, rfl, fun _ => rfl, fun _ _ => rfl⟩, ⟨⟨rfl, rfl, rfl, rfl, fun _ => rfl, fun _ _ => rfl⟩, ⟨⟨rfl, rfl, rfl, rfl, fun _ => rfl, fun _ _ => rfl⟩, trivial⟩⟩⟩, trivial⟩⟩
          · (exfalso; omega)
        · have e : k = V.length := by omega
          subst e
          rw [Nat.sub_self, firstN] at hf
          rw [← hf] at hR
          subst hR
          conv => whnf
          conv => whnf
          conv => whnf
          refine ifB_dec (fun w2 => ?_) (fun w2 => ?_)
          · (exfalso; omega)
          · conv => whnf
            conv => whnf
            conv => whnf
            refine ⟨?_, nofun⟩
            exact ave_tup2 (k := 4) (ave_ints rfl fun _ _ => rfl) rfl
    · rw [if_neg hPV] at hR
      subst hR
      rw [Bool.eq_false_iff.2 hPV] at h121
      conv => whnf
      conv => whnf
      refine ifB_dec (fun w1 => ?_) (fun w1 => ?_)
      · (exfalso; omega)
      · conv => whnf
        conv => whnf
        refine .inl ⟨_, _, byX rfl (Sound1.pl (h121) rfl), ?_⟩
        conv => whnf
        conv => whnf
        refine ⟨?_, nofun⟩
        exact ave_tup2 (k := 4) (show (0 : Nat) = 0 from rfl) rfl
end Go.Tr

/- Contracts of chapter 2: which paths are apart. Conditions: none. -/
namespace Go.Tr
open Go Go.Proofs
set_option maxRecDepth 20000
set_option maxHeartbeats 8000000

theorem S149c (g : FuncId) (c : List AV) (p : Int → Bool) (l : List Int) (hl : l.length ≤ 1000000000) (hp : ∀ n, SP g [i64 n, .rptr c] (vb (p n)) true) : SP 149 [ints l, .func (.func g) 0 [.rptr c]] (i64 (idxF p 0 l)) false := by
  generalize hR : idxF p 0 l = R
  refine sound (d := 2) tok2 mixed2 Try.func149 (by kernel_rfl) (by kernel_rfl) ?_
  conv => whnf
  refine ⟨[], [0, 1, 7, 8], fun st mq => ∃ (k : Nat), (k ≤ l.length) ∧ (idxF p k (l.drop k) = R) ∧ st = ⟨[(0, ints l), (1, .func (.func g) 0 [.rptr c]), (7, i64 l.length), (8, i64 k)], ⟨[], [], none, 0⟩, []⟩ ∧ mq = l.length - k,
    ⟨_, _, ⟨0, by omega, hR, rfl, rfl⟩, ⟨⟨rfl, rfl, rfl, rfl⟩, trivial, trivial⟩⟩, ?_⟩
  rintro s0 m0 ⟨k, hk, hf, rfl, hmeas⟩
  conv => whnf
  conv => whnf
  refine ifB_dec (fun w1 => ?_) (fun w1 => ?_)
  · conv => whnf
    conv => whnf
    refine ⟨⟨(by omega), (by omega)⟩, ?_⟩
    conv => whnf
    conv => whnf
    refine .inl ⟨_, _, byX rfl (hp _), ?_⟩
    conv => whnf
    conv => whnf
    refine ifB_intro (fun w2 => ?_) (fun w2 => ?_)
    · conv => whnf
      conv => whnf
      refine ⟨?_, nofun⟩
      have h : p (l.getD k 0) = true := w2
      rw [idxF_drop p l k (by omega), if_pos h] at hf
      show i64 _ = i64 _
      rw [← hf]
    · conv => whnf
      conv => whnf
      refine ⟨inK64 (by omega) (by omega), ?_⟩
      have h : p (l.getD k 0) = false := w2
      rw [idxF_drop p l k (by omega), if_neg (by rw [h]; decide)] at hf
      conv => whnf
      conv => whnf
      refine ⟨_, _, ⟨⟨k + 1, by omega, hf, rfl, rfl⟩, by omega⟩, ⟨⟨rfl, rfl, rfl, rfl⟩, trivial, trivial⟩⟩
  · conv => whnf
    conv => whnf
    refine ⟨?_, nofun⟩
    have h : k = l.length := by omega
    subst h
    rw [List.drop_length] at hf
    show i64 _ = i64 _
    rw [← hf]; rfl

theorem S119c (g : FuncId) (c : List AV) (p : Int → Bool) (l : List Int) (hl : l.length ≤ 1000000000) (hp : ∀ n, SP g [i64 n, .rptr c] (vb (p n)) true) : SP 119 [ints l, .func (.func g) 0 [.rptr c]] (vb (l.any p)) false := by
  have h149 := S149c g c p l hl hp
  refine sound (d := 2) tok2 mixed2 Try.func119 (by kernel_rfl) (by kernel_rfl) ?_
  conv => whnf
  refine .inl ⟨_, _, byX rfl (Sound1.pl (h149) rfl), ?_⟩
  conv => whnf
  refine ⟨?_, nofun⟩
  exact vbEq (idxF_any p l 0)
theorem S120 (has : Value → Bool) (G : Value → Bool) (i : Int) : SP 120 [i64 i, .rptr [.rmap (some .i64) 4 has fun v => vb (G v)]] (vb (G (.int .i64 i))) true := by
  have h : SP 120 [i64 i, .rptr [.rmap (some .i64) 4 has fun v => vb (G v)]] (vb (G (.int .i64 i))) false := by
    refine sound (d := 2) tok2 mixed2 Try.func120 (by kernel_rfl) (by kernel_rfl) ?_
    conv => whnf
    refine ⟨?_, nofun⟩
    rfl
  exact h.pl rfl
/-- Lists of numbers. -/
def listsA (L : List (List Int)) : AV := .rslice 1 L.length fun i => [ints (L.getD i [])]
theorem S26n (l : List Int) (hl : l.length ≤ 10000000000) : SP 26 [ints l] (ints l) false := by
  refine sound (d := 2) tok2 mixed2 Try.func26 (by kernel_rfl) (by kernel_rfl) ?_
  conv => whnf
  refine ⟨⟨(by omega), (by show _ * (8 + 1) ≤ _; omega)⟩, ?_⟩
  conv => whnf
  refine ⟨?_, nofun⟩
  exact ⟨rfl, Nat.zero_add _, fun i _ => by show [i64 (l.getD (i - 0) 0)] = _; rw [Nat.sub_zero]⟩
theorem lists_row {L : List (List Int)} {k i : Nat} (hi : i < k + 1) : [ints (L.getD i [])] = if i < k then [ints (L.getD (0 + i) [])] else List.take 1 (List.drop ((i - k) * 1) [ints (L.getD k [])]) := by
  rw [Nat.zero_add]
  by_cases e : i < k
  · rw [if_pos e]
  · rw [if_neg e, show i = k by omega, Nat.sub_self, Nat.zero_mul]; rfl
theorem S57 (L : List (List Int)) (hL : L.length ≤ 1000000) (hl : ∀ l ∈ L, l.length ≤ 1000) : SP 57 [listsA L] (listsA L) false := by
  have h26 := fun l (h : l.length ≤ 1000) => S26n l (by omega)
  refine sound (d := 2) tok2 mixed2 Try.func57 (by kernel_rfl) (by kernel_rfl) ?_
  conv => whnf
  refine ⟨[.slot 3 1], [0, 3, 4], fun st mq => ∃ (k : Nat), (k ≤ L.length) ∧ st = ⟨[(0, listsA L), (3, .oslice 0 0 0 k none), (4, i64 k)], ⟨[⟨1, k, fun i => [ints (L.getD i [])], 0, false, true, false⟩], [], none, 0⟩, []⟩ ∧ mq = L.length - k,
    ⟨_, _, ⟨0, by omega, rfl, rfl⟩, ⟨⟨rfl, rfl, rfl, rfl⟩, ⟨⟨rfl, rfl, rfl, rfl, fun _ => rfl, fun i h => absurd h (Nat.not_lt_zero i)⟩, trivial⟩, trivial⟩⟩, ?_⟩
  rintro s0 m0 ⟨k, hk, rfl, hmeas⟩
  by_cases hkl : k < L.length
  · have hm := hl (L.getD (k : Int).toNat []) (by simp [List.getD_eq_getElem?_getD, hkl])
    have h26k := h26 _ hm
    conv => whnf
    conv => whnf
    refine ifB_dec (fun w1 => ?_) (fun w1 => ?_)
    · conv => whnf
      conv => whnf
      refine ⟨⟨(by omega), (by omega)⟩, ?_⟩
      conv => whnf
      conv => whnf
      refine .inl ⟨_, _, byX rfl (h26k), ?_⟩
      conv => whnf
      conv => whnf
      refine ⟨(by show _ * (24 + 1) ≤ _; omega), ?_⟩
      conv => whnf
      conv => whnf
      refine ⟨inK64 (by omega) (by omega), ?_⟩
      conv => whnf
      conv => whnf
      refine ⟨_, _, ⟨⟨k + 1, by omega, rfl, rfl⟩, by omega⟩, ⟨⟨rfl, rfl, rfl, rfl⟩, ⟨⟨rfl, rfl, rfl, rfl, fun _ => rfl, fun i h => lists_row h⟩, trivial⟩, trivial⟩⟩
    · (exfalso; omega)
  · have e : k = L.length := by omega
    subst e
    conv => whnf
    conv => whnf
    refine ifB_dec (fun w1 => ?_) (fun w1 => ?_)
    · (exfalso; omega)
    · conv => whnf
      conv => whnf
      refine ⟨?_, nofun⟩
      exact ⟨rfl, rfl, fun _ _ => rfl⟩

/-- The error of a path alone: what has been gone, where one is, what is left. -/
def pathE (N : Net) (to : Int) : List Int → Int → List Int → Int
  | _, a, [] => if a = to then 0 else 14
  | pre, a, i :: r =>
    if 0 ≤ i ∧ i ≤ (N.cs.length : Int) - 1 then
      (if pre.contains i = true then 23 else if (N.cs.getD i.toNat cn0).opn = true then
        (if (N.cs.getD i.toNat cn0).fr = a then pathE N to (pre ++ [i]) (N.cs.getD i.toNat cn0).to r
         else if (N.cs.getD i.toNat cn0).to = a then pathE N to (pre ++ [i]) (N.cs.getD i.toNat cn0).fr r else 14) else 22)
    else 6
def pathErr (N : Net) (w : Int × Int) (p : List Int) : Int := if p.length = 0 then 10 else pathE N w.2 [] w.1 p
theorem pathE_step {N : Net} {to a : Int} {p : List Int} {k : Nat} (h : k < p.length) : pathE N to (p.take k) a (p.drop k) =
    if 0 ≤ p.getD k 0 ∧ p.getD k 0 ≤ (N.cs.length : Int) - 1 then
      (if (p.take k).contains (p.getD k 0) = true then 23 else if (N.cs.getD (p.getD k 0).toNat cn0).opn = true then
        (if (N.cs.getD (p.getD k 0).toNat cn0).fr = a then pathE N to (p.take (k + 1)) (N.cs.getD (p.getD k 0).toNat cn0).to (p.drop (k + 1))
         else if (N.cs.getD (p.getD k 0).toNat cn0).to = a then pathE N to (p.take (k + 1)) (N.cs.getD (p.getD k 0).toNat cn0).fr (p.drop (k + 1)) else 14) else 22)
    else 6 := by
  have e : p.getD k 0 = p[k] := by simp [List.getD_eq_getElem?_getD, h]
  rw [List.drop_eq_getElem_cons h, pathE, e, List.take_succ_eq_append_getElem h]
theorem take_arg {p : List Int} {k : Nat} (h : k ≤ p.length) {q : Nat} (hq : q = k) : AVE 5 (.rslice 1 q fun i => [i64 (p.getD i 0)]) (ints (p.take k)) :=
  ⟨rfl, by rw [List.length_take]; omega, fun i hi => by
    show [i64 (p.getD i 0)] = [i64 ((p.take k).getD i 0)]
    rw [List.getD_eq_getElem?_getD, List.getD_eq_getElem?_getD, List.getElem?_take_of_lt (by omega)]⟩
theorem S147t {p : List Int} {k : Nat} (h : k ≤ p.length) (hl : p.length ≤ 1000) (x : Int) (q : Nat) (hq : q = k) : SP 147 [.rslice 1 q fun i => [i64 (p.getD i 0)], i64 x] (vb ((p.take k).contains x)) false :=
  (S147 (p.take k) x (by rw [List.length_take]; omega)).args rfl fun i y z hy hz => by
    match i, hy, hz with
    | 0, hy, hz => cases hy; cases hz; exact take_arg h hq
    | 1, hy, hz => cases hy; cases hz; rfl
theorem S68t {p : List Int} {k : Nat} (h : k ≤ p.length) (hl : p.length ≤ 1000) (x : Int) (q : Nat) (hq : q = k) : SP 68 [.rslice 1 q fun i => [i64 (p.getD i 0)], i64 x] (vb ((p.take k).contains x)) false :=
  (S68 (p.take k) x (by rw [List.length_take]; omega)).args rfl fun i y z hy hz => by
    match i, hy, hz with
    | 0, hy, hz => cases hy; cases hz; exact take_arg h hq
    | 1, hy, hz => cases hy; cases hz; rfl
theorem mem_cs {l : List Cn} {k : Nat} (h : k < l.length) : l.getD k cn0 ∈ l := by simp [List.getD_eq_getElem?_getD, h]
theorem fo3 (A B C : Bool) : firstOf [if (!A) = true then 0 else 23, if B = true then 0 else 22, if C = true then 0 else 14] = if A = true then 23 else if B = true then (if C = true then 0 else 14) else 22 := by
  cases A <;> cases B <;> cases C <;> rfl
theorem S118 (N : Net) (hc : N.cs.length ≤ 1000) (hn : N.ns.length ≤ 1000) (hr : inR N.ns.length N.cs) (w : Int × Int) (p : List Int) (hp : p.length ≤ 1000) : SP 118 [netV N, .agg [i64 w.1, i64 w.2], ints p] (i64 (pathErr N w p)) false := by
  generalize hR : pathErr N w p = R
  unfold pathErr at hR
  refine sound (d := 2) tok2 mixed2 Try.func118 (by kernel_rfl) (by kernel_rfl) ?_
  conv => whnf
  refine ifB_beq (fun w1 => ?_) (fun w1 => ?_)
  · conv => whnf
    refine ⟨?_, nofun⟩
    rw [if_pos (by omega)] at hR
    subst hR; rfl
  · rw [if_neg (by omega)] at hR
    conv => whnf
    refine ⟨[], [2, 3, 4, 7, 17, 18, 19], fun st mq => ∃ (k : Nat) (a : Int), (k ≤ p.length) ∧ (pathE N w.2 (p.take k) a (p.drop k) = R) ∧ st = ⟨[(2, ints p), (3, .optr 0 0 0 0), (4, .optr 1 0 0 0), (7, i64 a), (17, ints p), (18, i64 p.length), (19, i64 k)], ⟨[netBlk N, ⟨2, 1, fun _ => [i64 w.1, i64 w.2], 0, false, true, true⟩], [], none, 0⟩, []⟩ ∧ mq = p.length - k,
      ⟨_, _, ⟨0, w.1, by omega, hR, rfl, rfl⟩, ⟨⟨rfl, rfl, rfl, rfl⟩, ⟨⟨rfl, rfl, rfl, rfl, fun _ => rfl, fun _ _ => rfl⟩, ⟨⟨rfl, rfl, rfl, rfl, fun _ => rfl, fun _ _ => rfl⟩, trivial⟩⟩, trivial⟩⟩, ?_⟩
    rintro s0 m0 ⟨k, a, hk, hf, rfl, hmeas⟩
    by_cases hkl : k < p.length
    · have h74 := S74 (p.getD (k : Int).toNat 0) 0 ((N.cs.length : Int) - 1)
      have h147 := fun x q hq => S147t (p := p) (k := k) (by omega) hp x q hq
      rw [pathE_step hkl, show p.getD k 0 = p.getD (k : Int).toNat 0 from rfl] at hf
      have hen := fun h : (p.getD (k : Int).toNat 0).toNat < N.cs.length => hr (N.cs.getD (p.getD (k : Int).toNat 0).toNat cn0) (mem_cs h)
      conv => whnf
      conv => whnf
      refine ifB_dec (fun w2 => ?_) (fun w2 => ?_)
      · conv => whnf
        conv => whnf
        refine ⟨⟨(by omega), (by omega)⟩, ?_⟩
        conv => whnf
        conv => whnf
        refine ⟨inK64 (by omega) (by omega), ?_⟩
        conv => whnf
        conv => whnf
        refine .inl ⟨_, _, byX rfl (Sound1.pl (h74) rfl), ?_⟩
        conv => whnf
        conv => whnf
        refine ifB_not ?_
        conv => whnf
        conv => whnf
        refine ifB_dec (fun w3 => ?_) (fun w3 => ?_)
        · conv => whnf
          conv => whnf
          refine ⟨⟨(by omega), (by omega)⟩, ?_⟩
          conv => whnf
          conv => whnf
          refine ⟨[], by kernel_rfl, ?_⟩
          conv => whnf
          conv => whnf
          refine ⟨⟨(by omega), ⟨(by omega), (by omega)⟩⟩, ?_⟩
          conv => whnf
          conv => whnf
          refine .inl ⟨_, _, byX rfl (Sound1.pl (h147 _ _ (by omega)) rfl), ?_⟩
          conv => whnf
          conv => whnf
          refine .inl ⟨_, _, byX rfl (Sound1.pl (S72 _ _) rfl), ?_⟩
          conv => whnf
          conv => whnf
          refine .inl ⟨_, _, byX rfl (Sound1.pl (S72 _ _) rfl), ?_⟩
          conv => whnf
          conv => whnf
          refine ifB_beq (fun w4 => ?_) (fun w4 => ?_)
          · conv => whnf
            conv => whnf
            refine .inl ⟨_, _, byX rfl (Sound1.pl (S72 _ _) rfl), ?_⟩
            conv => whnf
            conv => whnf
            refine .inl ⟨_, _, byX rfl (Sound1.pl (S71_3 _ _ _ _ ⟨rfl, rfl, rfl⟩) rfl), ?_⟩
            conv => whnf
            conv => whnf
            refine ifB_bne (fun w5 => ?_) (fun w5 => ?_)
            · conv => whnf
              conv => whnf
              refine ⟨?_, nofun⟩
              show i64 (firstOf _) = i64 R
              have w := w5
              rw [if_pos w3, if_pos (show (N.cs.getD (p.getD (k : Int).toNat 0).toNat cn0).fr = a from w4)] at hf
              rw [fo3] at w ⊢
              rw [← hf]
              change ¬ (if (p.take k).contains (p.getD (k : Int).toNat 0) = true then 23 else if (N.cs.getD (p.getD (k : Int).toNat 0).toNat cn0).opn = true then _ else 22) = 0 at w
              show i64 (if (p.take k).contains (p.getD (k : Int).toNat 0) = true then 23 else if (N.cs.getD (p.getD (k : Int).toNat 0).toNat cn0).opn = true then _ else 22) = _
              split
              · rfl
              · rename_i a1
                split
                · rename_i a2
                  rw [if_neg a1, if_pos a2] at w
                  exact absurd rfl w
                · rfl
            · conv => whnf
              conv => whnf
              refine ⟨inK64 (by omega) (by omega), ?_⟩
              conv => whnf
              conv => whnf
              refine ⟨inK64 (by omega) (by omega), ?_⟩
              conv => whnf
              conv => whnf
              refine ⟨inK64 (by omega) (by omega), ?_⟩
              have w := w5
              rw [if_pos w3, if_pos (show (N.cs.getD (p.getD (k : Int).toNat 0).toNat cn0).fr = a from w4)] at hf
              rw [fo3] at w
              change (if (p.take k).contains (p.getD (k : Int).toNat 0) = true then (23 : Int) else if (N.cs.getD (p.getD (k : Int).toNat 0).toNat cn0).opn = true then _ else 22) = 0 at w
              split at w
              · cases w
              · rename_i a1
                split at w
                · rename_i a2
                  rw [if_neg a1, if_pos a2] at hf
                  have e : (N.cs.getD (p.getD (k : Int).toNat 0).toNat cn0).fr + (N.cs.getD (p.getD (k : Int).toNat 0).toNat cn0).to - a = (N.cs.getD (p.getD (k : Int).toNat 0).toNat cn0).to := by
                    have : (N.cs.getD (p.getD (k : Int).toNat 0).toNat cn0).fr = a := w4
                    omega
                  rw [← e] at hf
                  conv => whnf
                  conv => whnf
                  refine ⟨_, _, ⟨⟨k + 1, _, by omega, hf, rfl, rfl⟩, by omega⟩, ⟨⟨rfl, rfl, rfl, rfl⟩, ⟨⟨rfl, rfl, rfl, rfl, fun _ => rfl, fun _ _ => rfl⟩, ⟨⟨rfl, rfl, rfl, rfl, fun _ => rfl, fun _ _ => rfl⟩, trivial⟩⟩, trivial⟩⟩
                · cases w
          · conv => whnf
            conv => whnf
            refine .inl ⟨_, _, byX rfl (Sound1.pl (S72 _ _) rfl), ?_⟩
            conv => whnf
            conv => whnf
            refine .inl ⟨_, _, byX rfl (Sound1.pl (S71_3 _ _ _ _ ⟨rfl, rfl, rfl⟩) rfl), ?_⟩
            conv => whnf
            conv => whnf
            refine ifB_bne (fun w5 => ?_) (fun w5 => ?_)
            · conv => whnf
              conv => whnf
              refine ⟨?_, nofun⟩
              show i64 (firstOf _) = i64 R
              have w := w5
              rw [if_pos w3, if_neg (show ¬ (N.cs.getD (p.getD (k : Int).toNat 0).toNat cn0).fr = a from w4)] at hf
              rw [fo3] at w ⊢
              rw [← hf]
              change ¬ (if (p.take k).contains (p.getD (k : Int).toNat 0) = true then 23 else if (N.cs.getD (p.getD (k : Int).toNat 0).toNat cn0).opn = true then (if ((N.cs.getD (p.getD (k : Int).toNat 0).toNat cn0).to == a) = true then 0 else 14) else 22) = 0 at w
              show i64 (if (p.take k).contains (p.getD (k : Int).toNat 0) = true then 23 else if (N.cs.getD (p.getD (k : Int).toNat 0).toNat cn0).opn = true then (if ((N.cs.getD (p.getD (k : Int).toNat 0).toNat cn0).to == a) = true then 0 else 14) else 22) = _
              split
              · rfl
              · rename_i a1
                split
                · rename_i a2
                  split
                  · rename_i a3
                    rw [if_neg a1, if_pos a2, if_pos a3] at w
                    exact absurd rfl w
                  · rename_i a3
                    rw [if_neg (fun e => a3 (beq_iff_eq.2 e))]
                · rfl
            · conv => whnf
              conv => whnf
              refine ⟨inK64 (by omega) (by omega), ?_⟩
              conv => whnf
              conv => whnf
              refine ⟨?_, ?_⟩
              · have w := w5
                rw [fo3] at w
                refine inK64 ?_ ?_
                all_goals
                  split at w
                  · cases w
                  · split at w
                    · split at w
                      · rename_i a3
                        have := eq_of_beq a3
                        have := hen (by omega)
                        omega
                      · cases w
                    · cases w
              · conv => whnf
                conv => whnf
                refine ⟨inK64 (by omega) (by omega), ?_⟩
                have w := w5
                rw [if_pos w3, if_neg (show ¬ (N.cs.getD (p.getD (k : Int).toNat 0).toNat cn0).fr = a from w4)] at hf
                rw [fo3] at w
                change (if (p.take k).contains (p.getD (k : Int).toNat 0) = true then (23 : Int) else if (N.cs.getD (p.getD (k : Int).toNat 0).toNat cn0).opn = true then (if ((N.cs.getD (p.getD (k : Int).toNat 0).toNat cn0).to == a) = true then 0 else 14) else 22) = 0 at w
                split at w
                · cases w
                · rename_i a1
                  split at w
                  · rename_i a2
                    split at w
                    · rename_i a3
                      have a4 := eq_of_beq a3
                      rw [if_neg a1, if_pos a2, if_pos a4] at hf
                      have e : (N.cs.getD (p.getD (k : Int).toNat 0).toNat cn0).fr + (N.cs.getD (p.getD (k : Int).toNat 0).toNat cn0).to - a = (N.cs.getD (p.getD (k : Int).toNat 0).toNat cn0).fr := by
                        omega
                      rw [← e] at hf
                      conv => whnf
                      conv => whnf
                      refine ⟨_, _, ⟨⟨k + 1, _, by omega, hf, rfl, rfl⟩, by omega⟩, ⟨⟨rfl, rfl, rfl, rfl⟩, ⟨⟨rfl, rfl, rfl, rfl, fun _ => rfl, fun _ _ => rfl⟩, ⟨⟨rfl, rfl, rfl, rfl, fun _ => rfl, fun _ _ => rfl⟩, trivial⟩⟩, trivial⟩⟩
                    · cases w
                  · cases w
        · conv => whnf
          conv => whnf
          refine ⟨?_, nofun⟩
          rw [if_neg (show ¬ (0 ≤ p.getD (k : Int).toNat 0 ∧ p.getD (k : Int).toNat 0 ≤ (N.cs.length : Int) - 1) from w3)] at hf
          subst hf; rfl
      · (exfalso; omega)
    · have e : k = p.length := by omega
      subst e
      rw [List.drop_length, pathE] at hf
      subst hf
      conv => whnf
      conv => whnf
      refine ifB_dec (fun w2 => ?_) (fun w2 => ?_)
      · (exfalso; omega)
      · conv => whnf
        conv => whnf
        refine .inl ⟨_, _, byX rfl (Sound1.pl (S72 _ _) rfl), ?_⟩
        conv => whnf
        conv => whnf
        refine ⟨?_, nofun⟩
        show i64 _ = i64 _
        simp only [beq_iff_eq]

theorem S123 (N : Net) (hc : N.cs.length ≤ 1000) (w : Int × Int) (p : List Int) (hp : p.length ≤ 1000) : SP 123 [netV N, .agg [i64 w.1, i64 w.2], ints p] (i64 (pathErr N w p)) false := by
  generalize hR : pathErr N w p = R
  unfold pathErr at hR
  refine sound (d := 2) tok2 mixed2 Try.func123 (by kernel_rfl) (by kernel_rfl) ?_
  conv => whnf
  refine ifB_beq (fun w1 => ?_) (fun w1 => ?_)
  · conv => whnf
    refine ⟨?_, nofun⟩
    rw [if_pos (by omega)] at hR
    subst hR; rfl
  · rw [if_neg (by omega)] at hR
    conv => whnf
    refine ⟨[], [2, 3, 4, 7, 8], fun st mq => ∃ (k : Nat) (a : Int), (k ≤ p.length) ∧ (pathE N w.2 (p.take k) a (p.drop k) = R) ∧ st = ⟨[(2, ints p), (3, .optr 0 0 0 0), (4, .optr 1 0 0 0), (7, i64 a), (8, i64 k)], ⟨[netBlk N, ⟨2, 1, fun _ => [i64 w.1, i64 w.2], 0, false, true, true⟩], [], none, 0⟩, []⟩ ∧ mq = p.length - k,
      ⟨_, _, ⟨0, w.1, by omega, hR, rfl, rfl⟩, ⟨⟨rfl, rfl, rfl, rfl⟩, ⟨⟨rfl, rfl, rfl, rfl, fun _ => rfl, fun _ _ => rfl⟩, ⟨⟨rfl, rfl, rfl, rfl, fun _ => rfl, fun _ _ => rfl⟩, trivial⟩⟩, trivial⟩⟩, ?_⟩
    rintro s0 m0 ⟨k, a, hk, hf, rfl, hmeas⟩
    by_cases hkl : k < p.length
    · have h20 := S20 (p.getD (k : Int).toNat 0) 0 ((N.cs.length : Int) - 1)
      have h68 := fun x q hq => S68t (p := p) (k := k) (by omega) hp x q hq
      rw [pathE_step hkl, show p.getD k 0 = p.getD (k : Int).toNat 0 from rfl] at hf
      conv => whnf
      conv => whnf
      refine ifB_dec (fun w2 => ?_) (fun w2 => ?_)
      · conv => whnf
        conv => whnf
        refine ⟨[], by kernel_rfl, ?_⟩
        conv => whnf
        conv => whnf
        refine ⟨⟨(by omega), (by omega)⟩, ?_⟩
        conv => whnf
        conv => whnf
        refine ⟨inK64 (by omega) (by omega), ?_⟩
        conv => whnf
        conv => whnf
        refine .inl ⟨_, _, byX rfl (Sound1.pl (h20) rfl), ?_⟩
        conv => whnf
        conv => whnf
        refine ifB_not ?_
        conv => whnf
        conv => whnf
        refine ifB_dec (fun w3 => ?_) (fun w3 => ?_)
        · conv => whnf
          conv => whnf
          refine ⟨[], by kernel_rfl, ?_⟩
          conv => whnf
          conv => whnf
          refine ⟨⟨(by omega), ⟨(by omega), (by omega)⟩⟩, ?_⟩
          conv => whnf
          conv => whnf
          refine ⟨⟨(by omega), (by omega)⟩, ?_⟩
          conv => whnf
          conv => whnf
          refine .inl ⟨_, _, byX rfl (Sound1.pl (h68 _ _ (by omega)) rfl), ?_⟩
          conv => whnf
          conv => whnf
          refine ifB_intro (fun w4 => ?_) (fun w4 => ?_)
          · conv => whnf
            conv => whnf
            refine ⟨?_, nofun⟩
            rw [if_pos w3, if_pos w4] at hf
            subst hf; rfl
          · conv => whnf
            conv => whnf
            refine ⟨[], by kernel_rfl, ?_⟩
            conv => whnf
            conv => whnf
            refine ⟨⟨(by omega), (by omega)⟩, ?_⟩
            conv => whnf
            conv => whnf
            refine ⟨⟨(by omega), (by omega)⟩, ?_⟩
            conv => whnf
            conv => whnf
            refine ifB_not ?_
            conv => whnf
            conv => whnf
            refine ifB_intro (fun w5 => ?_) (fun w5 => ?_)
            · conv => whnf
              conv => whnf
              refine ifB_beq (fun w6 => ?_) (fun w6 => ?_)
              · conv => whnf
                conv => whnf
                refine ⟨inK64 (by omega) (by omega), ?_⟩
                rw [if_pos w3, if_neg (Bool.eq_false_iff.1 w4), if_pos w5, if_pos w6.symm] at hf
                conv => whnf
                conv => whnf
                refine ⟨_, _, ⟨⟨k + 1, _, by omega, hf, rfl, rfl⟩, by omega⟩, ⟨⟨rfl, rfl, rfl, rfl⟩, ⟨⟨rfl, rfl, rfl, rfl, fun _ => rfl, fun _ _ => rfl⟩, ⟨⟨rfl, rfl, rfl, rfl, fun _ => rfl, fun _ _ => rfl⟩, trivial⟩⟩, trivial⟩⟩
              · conv => whnf
                conv => whnf
                refine ifB_beq (fun w7 => ?_) (fun w7 => ?_)
                · conv => whnf
                  conv => whnf
                  refine ⟨inK64 (by omega) (by omega), ?_⟩
                  rw [if_pos w3, if_neg (Bool.eq_false_iff.1 w4), if_pos w5, if_neg (fun e => w6 e.symm), if_pos w7.symm] at hf
                  conv => whnf
                  conv => whnf
                  refine ⟨_, _, ⟨⟨k + 1, _, by omega, hf, rfl, rfl⟩, by omega⟩, ⟨⟨rfl, rfl, rfl, rfl⟩, ⟨⟨rfl, rfl, rfl, rfl, fun _ => rfl, fun _ _ => rfl⟩, ⟨⟨rfl, rfl, rfl, rfl, fun _ => rfl, fun _ _ => rfl⟩, trivial⟩⟩, trivial⟩⟩
                · conv => whnf
                  conv => whnf
                  refine ⟨?_, nofun⟩
                  rw [if_pos w3, if_neg (Bool.eq_false_iff.1 w4), if_pos w5, if_neg (fun e => w6 e.symm), if_neg (fun e => w7 e.symm)] at hf
                  subst hf; rfl
            · conv => whnf
              conv => whnf
              refine ⟨?_, nofun⟩
              rw [if_pos w3, if_neg (Bool.eq_false_iff.1 w4), if_neg (Bool.eq_false_iff.1 w5)] at hf
              subst hf; rfl
        · conv => whnf
          conv => whnf
          refine ⟨?_, nofun⟩
          rw [if_neg w3] at hf
          subst hf; rfl
      · (exfalso; omega)
    · have e : k = p.length := by omega
      subst e
      rw [List.drop_length, pathE] at hf
      subst hf
      conv => whnf
      conv => whnf
      refine ifB_dec (fun w2 => ?_) (fun w2 => ?_)
      · (exfalso; omega)
      · conv => whnf
        conv => whnf
        refine ifB_bne (fun w3 => ?_) (fun w3 => ?_)
        · conv => whnf
          conv => whnf
          refine ⟨?_, nofun⟩
          rw [if_neg w3]; rfl
        · conv => whnf
          conv => whnf
          refine ⟨?_, nofun⟩
          rw [if_pos w3]; rfl
/-- Which paths are apart: how many there were, what is used, what is left. -/
def chkP (N : Net) (w : Int × Int) : Nat → List Int → List (List Int) → Int × Int
  | k, _, [] => ((k : Int), 0)
  | k, u, p :: r => if pathErr N w p = 0 then (if p.any u.contains = true then ((k : Int), 13) else chkP N w (k + 1) (u ++ p.filter fun i => (N.cs.getD i.toNat cn0).valve) r) else ((k : Int), pathErr N w p)
theorem chkP_drop {N : Net} {w : Int × Int} {u : List Int} {L : List (List Int)} {k : Nat} (h : k < L.length) : chkP N w k u (L.drop k) =
    if pathErr N w (L.getD k []) = 0 then (if (L.getD k []).any u.contains = true then ((k : Int), 13) else chkP N w (k + 1) (u ++ (L.getD k []).filter fun i => (N.cs.getD i.toNat cn0).valve) (L.drop (k + 1))) else ((k : Int), pathErr N w (L.getD k [])) := by
  have e : L.getD k [] = L[k] := by simp [List.getD_eq_getElem?_getD, h]
  rw [List.drop_eq_getElem_cons h, chkP, e]
theorem pathE_rng {N : Net} {to : Int} : ∀ (r pre : List Int) (a : Int), pathE N to pre a r = 0 → ∀ x ∈ r, 0 ≤ x ∧ x < N.cs.length
  | [], _, _, _, x, hx => by simp at hx
  | i :: r, pre, a, h, x, hx => by
    rw [pathE] at h
    split at h
    · rename_i h0
      have hr : ∃ pre' a', pathE N to pre' a' r = 0 := by
        split at h
        · cases h
        · split at h
          · split at h
            · exact ⟨_, _, h⟩
            · split at h
              · exact ⟨_, _, h⟩
              · cases h
          · cases h
      obtain ⟨pre', a', h'⟩ := hr
      rcases List.mem_cons.1 hx with rfl | hx
      · omega
      · exact pathE_rng r pre' a' h' x hx
    · cases h
theorem path_rng {N : Net} {w : Int × Int} {p : List Int} (h : pathErr N w p = 0) : ∀ x ∈ p, 0 ≤ x ∧ x < N.cs.length := by
  unfold pathErr at h
  split at h
  · cases h
  · exact pathE_rng p [] w.1 h
/-- The error of paths. -/
def pathsF (N : Net) (w : Int × Int) (L : List (List Int)) : Int × Int :=
  if wE N w = 0 then (if L.length ≤ 14 then chkP N w 0 [] L else (0, 8)) else (0, wE N w)

theorem getD_mem' {p : List Int} {j : Nat} (h : j < p.length) : p.getD (j : Int).toNat 0 ∈ p := by simp [List.getD_eq_getElem?_getD, h]
theorem bif_vb (b x y : Bool) : vb (bif b then x else y) = bif b then vb x else vb y := by cases b <;> rfl
/-- One more is used. -/
theorem used_step {p u : List Int} {v : Int → Bool} {j : Nat} {G : Value → Bool} (h : j < p.length) (hno : p.any u.contains = false) (hG : ∀ x : Int, G (.int .i64 x) = (u ++ (p.take j).filter v).contains x) (y : Int) :
    (bif opEv.keyEq (.int .i64 y) (.int .i64 (p.getD (j : Int).toNat 0)) then v (p.getD (j : Int).toNat 0) else G (.int .i64 y)) = (u ++ (p.take (j + 1)).filter v).contains y := by
  have e : p[j] = p.getD (j : Int).toNat 0 := by simp [List.getD_eq_getElem?_getD, h]
  have hm := getD_mem' h
  have hu : u.contains (p.getD (j : Int).toNat 0) = false := by
    cases hc : u.contains (p.getD (j : Int).toNat 0) with
    | false => rfl
    | true =>
      have : p.any u.contains = true := List.any_eq_true.2 ⟨_, hm, hc⟩
      rw [hno] at this; cases this
  rw [List.take_succ_eq_append_getElem h, e]
  generalize p.getD (j : Int).toNat 0 = x at *
  have hk : opEv.keyEq (.int .i64 y) (.int .i64 x) = (y == x) := by
    show (decide (IntKind.i64 = IntKind.i64) && y == x) = _
    rw [decide_eq_true rfl, Bool.true_and]
  rw [hk, List.filter_append, hG]
  have hc : ∀ (a b : List Int), (a ++ b).contains y = (a.contains y || b.contains y) := fun a b => by
    rw [Bool.eq_iff_iff, Bool.or_eq_true, List.contains_iff_mem, List.contains_iff_mem, List.contains_iff_mem, List.mem_append]
  rw [hc, hc, hc]
  by_cases hy : y = x
  · subst hy
    rw [beq_self_eq_true, cond_true, hu, Bool.false_or]
    cases hv : v y with
    | true =>
      have : (List.filter v [y]).contains y = true := by rw [List.contains_iff_mem, List.mem_filter]; exact ⟨by simp, hv⟩
      rw [this, Bool.or_true]
    | false =>
      have a1 : (List.filter v [y]).contains y = false := by
        cases h : (List.filter v [y]).contains y with
        | false => rfl
        | true => rw [List.contains_iff_mem, List.mem_filter] at h; rw [hv] at h; exact absurd h.2 nofun
      have a2 : (List.filter v (p.take j)).contains y = false := by
        cases h : (List.filter v (p.take j)).contains y with
        | false => rfl
        | true => rw [List.contains_iff_mem, List.mem_filter] at h; rw [hv] at h; exact absurd h.2 nofun
      rw [a1, a2]; rfl
  · have hy2 : (y == x) = false := by simpa using hy
    have a1 : (List.filter v [x]).contains y = false := by
      cases h : (List.filter v [x]).contains y with
      | false => rfl
      | true => rw [List.contains_iff_mem, List.mem_filter] at h; exact absurd (by simpa using h.1) hy
    rw [hy2, cond_false, a1, Bool.or_false]
theorem S56 (N : Net) (hN : N.In) (w : Int × Int) (L : List (List Int)) (hL : L.length ≤ 1000000) (hl : ∀ l ∈ L, l.length ≤ 1000) : SP 56 [netV N, .agg [i64 w.1, i64 w.2], listsA L] (.tuple [i64 (pathsF N w L).1, i64 (pathsF N w L).2]) false := by
  have h115 := S115 N hN w
  generalize hR : pathsF N w L = R
  unfold pathsF at hR
  by_cases hE : wE N w = 0
  · rw [if_pos hE] at hR
    rw [hE] at h115
    obtain ⟨h0, h1, h2, h3⟩ := wE_ok hE
    have hok := net_ok h0
    have hn := hok.n1
    have hc := hok.c1
    by_cases hL14 : L.length ≤ 14
    · rw [if_pos hL14] at hR
      have e0 : (if decide ((L.length : Int) ≤ 14) = true then (0 : Int) else 8) = 0 := by rw [decide_eq_true (by omega)]; rfl
      have e1 : firstOf [0, if decide ((L.length : Int) ≤ 14) = true then (0 : Int) else 8] = 0 := by rw [e0]; rfl
      refine sound (d := 2) tok2 mixed2 Try.func56 (by kernel_rfl) (by kernel_rfl) ?_
      conv => whnf
      refine .inl ⟨_, _, byX rfl (h115), ?_⟩
      conv => whnf
      refine .inl ⟨_, _, byX rfl (Sound1.pl (S72 _ _) rfl), ?_⟩
      conv => whnf
      refine .inl ⟨_, _, byX rfl (Sound1.pl (S71_2 _ _ _ ⟨rfl, rfl⟩) rfl), ?_⟩
      conv => whnf
      refine ifB_bne (fun w1 => ?_) (fun w1 => ?_)
      · (exfalso; omega)
      · conv => whnf
        refine ⟨[], [2, 4, 8, 10, 33, 34, 35], fun st mq => ∃ (k : Nat) (u : List Int) (H : Value → Bool) (G : Value → Bool) (F3 : Nat → List AV), (k ≤ L.length) ∧ (∀ x : Int, G (.int .i64 x) = u.contains x) ∧ (chkP N w k u (L.drop k) = R) ∧ st = ⟨[(2, listsA L), (4, .optr 1 0 0 0), (8, .optr 2 0 0 0), (10, .optr 4 0 0 0), (33, listsA L), (34, i64 L.length), (35, i64 k)], ⟨[⟨2, 1, fun _ => [listA 4 ndC nd0 N.ns, listA 6 cnC cn0 N.cs], 0, false, true, true⟩, ⟨2, 1, fun _ => [i64 w.1, i64 w.2], 0, false, true, true⟩, ⟨2, 1, fun _ => [listA 4 ndC nd0 N.ns, listA 6 cnC cn0 N.cs], 0, false, true, true⟩, ⟨1, 2, F3, 0, false, true, false⟩, ⟨1, 1, fun _ => [.omap 0], 0, false, false, true⟩], [⟨some .i64, 4, H, fun v => vb (G v), false⟩], none, 0⟩, []⟩ ∧ mq = L.length - k,
          ⟨_, _, ⟨0, [], fun _ => false, fun _ => false, _, by omega, fun _ => rfl, hR, rfl, rfl⟩, ⟨⟨rfl, rfl, rfl, rfl⟩, ⟨⟨rfl, rfl, rfl, rfl, fun _ => rfl, fun _ _ => rfl⟩, ⟨⟨rfl, rfl, rfl, rfl, fun _ => rfl, fun _ _ => rfl⟩, ⟨⟨rfl, rfl, rfl, rfl, fun _ => rfl, fun _ _ => rfl⟩, ⟨⟨rfl, rfl, rfl, rfl, fun _ => rfl, fun _ _ => rfl⟩, ⟨⟨rfl, rfl, rfl, rfl, nofun, fun _ _ => rfl⟩, trivial⟩⟩⟩⟩⟩, ⟨⟨rfl, rfl, rfl, fun _ => ⟨rfl, rfl⟩⟩, trivial⟩⟩⟩, ?_⟩
        rintro s0 m0 ⟨k, u, H, G, F3, hk, hG, hf, rfl, hmeas⟩
        by_cases hkl : k < L.length
        · have hm := hl (L.getD (k : Int).toNat []) (by simp [List.getD_eq_getElem?_getD, hkl])
          have h118 := S118 N (by omega) (by omega) hok.ends w (L.getD (k : Int).toNat []) hm
          have h119 := S119c 120 [.rmap (some .i64) 4 H fun v => vb (G v)] (fun x => G (.int .i64 x)) (L.getD (k : Int).toNat []) (by omega) (fun n => S120 H G n)
          rw [chkP_drop hkl, show L.getD k [] = L.getD (k : Int).toNat [] from rfl] at hf
          have hGu : ((L.getD (k : Int).toNat []).any fun x => G (.int .i64 x)) = (L.getD (k : Int).toNat []).any u.contains := by
            congr 1; funext x; exact hG x
          rw [hGu] at h119
          have hpr := path_rng (N := N) (w := w) (p := L.getD (k : Int).toNat [])
          conv => whnf
          conv => whnf
          refine ifB_dec (fun w2 => ?_) (fun w2 => ?_)
          · conv => whnf
            conv => whnf
            refine ⟨⟨(by omega), (by omega)⟩, ?_⟩
            conv => whnf
            conv => whnf
            refine .inl ⟨_, _, byX rfl (Sound1.pl (h118) rfl), ?_⟩
            conv => whnf
            conv => whnf
            refine ifB_bne (fun w3 => ?_) (fun w3 => ?_)
            · conv => whnf
              conv => whnf
              refine ⟨?_, nofun⟩
              rw [if_neg (show ¬ pathErr N w (L.getD (k : Int).toNat []) = 0 by assumption)] at hf
              subst hf
              exact ave_tup2 (k := 4) rfl rfl
            · conv => whnf
              conv => whnf
              refine .inl ⟨_, _, byX rfl (Sound1.pl (h119) rfl), ?_⟩
              conv => whnf
              conv => whnf
              refine ifB_intro (fun w4 => ?_) (fun w4 => ?_)
              · conv => whnf
                conv => whnf
                refine ⟨?_, nofun⟩
                rw [if_pos (show pathErr N w (L.getD (k : Int).toNat []) = 0 by assumption), if_pos (show ((L.getD (k : Int).toNat []).any u.contains) = true by assumption)] at hf
                subst hf
                exact ave_tup2 (k := 4) rfl rfl
              · have hpe : pathErr N w (L.getD (k : Int).toNat []) = 0 := by assumption
                have hno : (L.getD (k : Int).toNat []).any u.contains = false := by assumption
                rw [if_pos hpe, if_neg (by rw [hno]; decide)] at hf
                have hpr := hpr hpe
                conv => whnf
                conv => whnf
                refine ⟨[], [2, 4, 8, 10, 33, 34, 35, 52, 53, 54], fun st mq => ∃ (j : Nat) (H2 : Value → Bool) (G2 : Value → Bool) (F3 : Nat → List AV), (j ≤ (L.getD (k : Int).toNat []).length) ∧ (∀ x : Int, G2 (.int .i64 x) = (u ++ ((L.getD (k : Int).toNat []).take j).filter fun i => (N.cs.getD i.toNat cn0).valve).contains x) ∧ st = ⟨[(2, listsA L), (4, .optr 1 0 0 0), (8, .optr 2 0 0 0), (10, .optr 4 0 0 0), (33, listsA L), (34, i64 L.length), (35, i64 k), (52, ints (L.getD (k : Int).toNat [])), (53, i64 (L.getD (k : Int).toNat []).length), (54, i64 j)], ⟨[⟨2, 1, fun _ => [listA 4 ndC nd0 N.ns, listA 6 cnC cn0 N.cs], 0, false, true, true⟩, ⟨2, 1, fun _ => [i64 w.1, i64 w.2], 0, false, true, true⟩, ⟨2, 1, fun _ => [listA 4 ndC nd0 N.ns, listA 6 cnC cn0 N.cs], 0, false, true, true⟩, ⟨1, 2, F3, 0, false, true, false⟩, ⟨1, 1, fun _ => [.omap 0], 0, false, false, true⟩], [⟨some .i64, 4, H2, fun v => vb (G2 v), false⟩], none, 0⟩, []⟩ ∧ mq = (L.getD (k : Int).toNat []).length - j,
                  ⟨_, _, ⟨0, H, G, _, by omega, (by simpa using hG), rfl, rfl⟩, ⟨⟨rfl, rfl, rfl, rfl⟩, ⟨⟨rfl, rfl, rfl, rfl, fun _ => rfl, fun _ _ => rfl⟩, ⟨⟨rfl, rfl, rfl, rfl, fun _ => rfl, fun _ _ => rfl⟩, ⟨⟨rfl, rfl, rfl, rfl, fun _ => rfl, fun _ _ => rfl⟩, ⟨⟨rfl, rfl, rfl, rfl, fun _ => rfl, fun _ _ => rfl⟩, ⟨⟨rfl, rfl, rfl, rfl, nofun, fun _ _ => rfl⟩, trivial⟩⟩⟩⟩⟩, ⟨⟨rfl, rfl, rfl, fun _ => ⟨rfl, rfl⟩⟩, trivial⟩⟩⟩, ?_⟩
                rintro s0 m0 ⟨j, H2, G2, F3, hj, hG2, rfl, hmeas⟩
                by_cases hjl : j < (L.getD (k : Int).toNat []).length
                · have hx := hpr ((L.getD (k : Int).toNat []).getD (j : Int).toNat 0) (getD_mem' hjl)
                  have hG3 := used_step (v := fun i => (N.cs.getD i.toNat cn0).valve) hjl hno hG2
                  conv => whnf
                  conv => whnf
                  conv => whnf
                  refine ifB_dec (fun w5 => ?_) (fun w5 => ?_)
                  · conv => whnf
                    conv => whnf
                    conv => whnf
                    refine ⟨⟨(by omega), (by omega)⟩, ?_⟩
                    conv => whnf
                    conv => whnf
                    conv => whnf
                    refine ⟨[], by kernel_rfl, ?_⟩
                    conv => whnf
                    conv => whnf
                    conv => whnf
                    refine ⟨⟨(by omega), (by omega)⟩, ?_⟩
                    conv => whnf
                    conv => whnf
                    conv => whnf
                    refine ⟨inK64 (by omega) (by omega), ?_⟩
                    conv => whnf
                    conv => whnf
                    conv => whnf
                    refine ⟨_, _, ⟨⟨j + 1, fun v => Bool.or (H2 v) (opEv.keyEq v (.int .i64 ((L.getD (k : Int).toNat []).getD (j : Int).toNat 0))), fun v => bif opEv.keyEq v (.int .i64 ((L.getD (k : Int).toNat []).getD (j : Int).toNat 0)) then (N.cs.getD ((L.getD (k : Int).toNat []).getD (j : Int).toNat 0).toNat cn0).valve else G2 v, _, by omega, hG3, rfl, rfl⟩, by omega⟩, ⟨⟨rfl, rfl, rfl, rfl⟩, ⟨⟨rfl, rfl, rfl, rfl, fun _ => rfl, fun _ _ => rfl⟩, ⟨⟨rfl, rfl, rfl, rfl, fun _ => rfl, fun _ _ => rfl⟩, ⟨⟨rfl, rfl, rfl, rfl, fun _ => rfl, fun _ _ => rfl⟩, ⟨⟨rfl, rfl, rfl, rfl, fun _ => rfl, fun _ _ => rfl⟩, ⟨⟨rfl, rfl, rfl, rfl, nofun, fun _ _ => rfl⟩, trivial⟩⟩⟩⟩⟩, ⟨⟨rfl, rfl, rfl, fun v => ⟨rfl, bif_vb _ _ _⟩⟩, trivial⟩⟩⟩
                  · (exfalso; omega)
                · have e : j = (L.getD (k : Int).toNat []).length := by omega
                  subst e
                  rw [List.take_length] at hG2
                  conv => whnf
                  conv => whnf
                  conv => whnf
                  refine ifB_dec (fun w5 => ?_) (fun w5 => ?_)
                  · (exfalso; omega)
                  · conv => whnf
                    conv => whnf
                    conv => whnf
                    refine ⟨inK64 (by omega) (by omega), ?_⟩
                    conv => whnf
                    conv => whnf
                    conv => whnf
                    refine ⟨_, _, ⟨⟨k + 1, u ++ (L.getD (k : Int).toNat []).filter (fun i => (N.cs.getD i.toNat cn0).valve), H2, G2, _, by omega, hG2, hf, rfl, rfl⟩, by omega⟩, ⟨⟨rfl, rfl, rfl, rfl⟩, ⟨⟨rfl, rfl, rfl, rfl, fun _ => rfl, fun _ _ => rfl⟩, ⟨⟨rfl, rfl, rfl, rfl, fun _ => rfl, fun _ _ => rfl⟩, ⟨⟨rfl, rfl, rfl, rfl, fun _ => rfl, fun _ _ => rfl⟩, ⟨⟨rfl, rfl, rfl, rfl, fun _ => rfl, fun _ _ => rfl⟩, ⟨⟨rfl, rfl, rfl, rfl, nofun, fun _ _ => rfl⟩, trivial⟩⟩⟩⟩⟩, ⟨⟨rfl, rfl, rfl, fun _ => ⟨rfl, rfl⟩⟩, trivial⟩⟩⟩
          · (exfalso; omega)
        · have e : k = L.length := by omega
          subst e
          rw [List.drop_length, chkP] at hf
          subst hf
          conv => whnf
          conv => whnf
          refine ifB_dec (fun w2 => ?_) (fun w2 => ?_)
          · (exfalso; omega)
          · conv => whnf
            conv => whnf
            refine ⟨?_, nofun⟩
            exact ave_tup2 (k := 4) rfl rfl
    · rw [if_neg hL14] at hR
      subst hR
      have e0 : (if decide ((L.length : Int) ≤ 14) = true then (0 : Int) else 8) = 8 := by rw [decide_eq_false (by omega)]; rfl
      have e1 : firstOf [0, if decide ((L.length : Int) ≤ 14) = true then (0 : Int) else 8] = 8 := by rw [e0]; rfl
      refine sound (d := 2) tok2 mixed2 Try.func56 (by kernel_rfl) (by kernel_rfl) ?_
      conv => whnf
      refine .inl ⟨_, _, byX rfl (h115), ?_⟩
      conv => whnf
      refine .inl ⟨_, _, byX rfl (Sound1.pl (S72 _ _) rfl), ?_⟩
      conv => whnf
      refine .inl ⟨_, _, byX rfl (Sound1.pl (S71_2 _ _ _ ⟨rfl, rfl⟩) rfl), ?_⟩
      conv => whnf
      refine ifB_bne (fun w1 => ?_) (fun w1 => ?_)
      · conv => whnf
        refine ⟨?_, nofun⟩
        exact ave_tup2 (k := 4) rfl (by show i64 _ = i64 _; rw [e1])
      · (exfalso; omega)
  · rw [if_neg hE] at hR
    subst hR
    have e1 : ∀ x, firstOf [wE N w, x] = wE N w := fun x => by rw [firstOf2, if_neg hE]
    refine sound (d := 2) tok2 mixed2 Try.func56 (by kernel_rfl) (by kernel_rfl) ?_
    conv => whnf
    refine .inl ⟨_, _, byX rfl (h115), ?_⟩
    conv => whnf
    refine .inl ⟨_, _, byX rfl (Sound1.pl (S72 _ _) rfl), ?_⟩
    conv => whnf
    refine .inl ⟨_, _, byX rfl (Sound1.pl (S71_2 _ _ _ ⟨rfl, rfl⟩) rfl), ?_⟩
    conv => whnf
    refine ifB_bne (fun w1 => ?_) (fun w1 => ?_)
    · conv => whnf
      refine ⟨?_, nofun⟩
      exact ave_tup2 (k := 4) rfl (by show i64 _ = i64 _; rw [e1])
    · exact absurd ((e1 _).symm.trans w1) hE

theorem filter_drop {v : Int → Bool} {p : List Int} {j : Nat} (h : j < p.length) : (p.drop j).filter v = if v (p.getD j 0) = true then p.getD j 0 :: (p.drop (j + 1)).filter v else (p.drop (j + 1)).filter v := by
  have e : p.getD j 0 = p[j] := by simp [List.getD_eq_getElem?_getD, h]
  rw [List.drop_eq_getElem_cons h, List.filter_cons, e]
theorem any_drop {f : Int → Bool} {p : List Int} {j : Nat} (h : j < p.length) : (p.drop j).any f = (f (p.getD j 0) || (p.drop (j + 1)).any f) := by
  have e : p.getD j 0 = p[j] := by simp [List.getD_eq_getElem?_getD, h]
  rw [List.drop_eq_getElem_cons h, List.any_cons, e]
/-- The reference's paths, for a valid net and a valid way. -/
theorem S60 (N : Net) (hok : N.Ok) (w : Int × Int) (L : List (List Int)) (hL : L.length ≤ 1000000) (hl : ∀ l ∈ L, l.length ≤ 1000) :
    SP 60 [netV N, .agg [i64 w.1, i64 w.2], listsA L] (.tuple [i64 (if L.length ≤ 14 then chkP N w 0 [] L else (0, 8)).1, i64 (if L.length ≤ 14 then chkP N w 0 [] L else (0, 8)).2]) false := by
  have hc := hok.c1
  generalize hR : (if L.length ≤ 14 then chkP N w 0 [] L else (0, 8)) = R
  refine sound (d := 2) tok2 mixed2 Try.func60 (by kernel_rfl) (by kernel_rfl) ?_
  conv => whnf
  refine ifB_dec (fun w1 => ?_) (fun w1 => ?_)
  · conv => whnf
    refine ⟨?_, nofun⟩
    rw [if_neg (by omega)] at hR
    subst hR
    exact ave_tup2 (k := 4) rfl rfl
  · rw [if_pos (by omega)] at hR
    conv => whnf
    refine ⟨[.slot 8 1], [2, 3, 4, 8, 9], fun st mq => ∃ (k : Nat) (n : Nat) (u : List Int), (k ≤ L.length) ∧ (u.length = n) ∧ (n ≤ k * 1000) ∧ (chkP N w k u (L.drop k) = R) ∧ st = ⟨[(2, listsA L), (3, .optr 0 0 0 0), (4, .optr 1 0 0 0), (8, .oslice 2 0 0 n none), (9, i64 k)], ⟨[netBlk N, ⟨2, 1, fun _ => [i64 w.1, i64 w.2], 0, false, true, true⟩, ⟨1, n, fun i => [i64 (u.getD i 0)], 0, false, true, false⟩], [], none, 0⟩, []⟩ ∧ mq = L.length - k,
      ⟨_, _, ⟨0, 0, [], by omega, rfl, by omega, hR, rfl, rfl⟩, ⟨⟨rfl, rfl, rfl, rfl⟩, ⟨⟨rfl, rfl, rfl, rfl, fun _ => rfl, fun _ _ => rfl⟩, ⟨⟨rfl, rfl, rfl, rfl, fun _ => rfl, fun _ _ => rfl⟩, ⟨⟨rfl, rfl, rfl, rfl, fun _ => rfl, fun i h => absurd h (Nat.not_lt_zero i)⟩, trivial⟩⟩⟩, trivial⟩⟩, ?_⟩
    rintro s0 m0 ⟨k, n, u, hk, hn, hb, hf, rfl, hmeas⟩
    by_cases hkl : k < L.length
    · have hm := hl (L.getD (k : Int).toNat []) (by simp [List.getD_eq_getElem?_getD, hkl])
      have h123 := S123 N (by omega) w (L.getD (k : Int).toNat []) hm
      have h68 : ∀ x, SP 68 [.rslice 1 n fun i => [i64 (u.getD i 0)], i64 x] (vb (u.contains x)) false := fun x => by
        have h := S68 u x (by omega)
        unfold ints at h
        rw [hn] at h
        exact h
      rw [chkP_drop hkl, show L.getD k [] = L.getD (k : Int).toNat [] from rfl] at hf
      have hpr := path_rng (N := N) (w := w) (p := L.getD (k : Int).toNat [])
      obtain ⟨p, hp⟩ : ∃ p, p = L.getD (k : Int).toNat [] := ⟨_, rfl⟩
      conv => whnf
      conv => whnf
      refine ifB_dec (fun w2 => ?_) (fun w2 => ?_)
      · conv => whnf
        conv => whnf
        refine ⟨[], by kernel_rfl, ?_⟩
        conv => whnf
        conv => whnf
        refine ⟨⟨(by omega), (by omega)⟩, ?_⟩
        conv => whnf
        conv => whnf
        refine .inl ⟨_, _, byX rfl (Sound1.pl (h123) rfl), ?_⟩
        conv => whnf
        conv => whnf
        refine ifB_bne (fun w3 => ?_) (fun w3 => ?_)
        · conv => whnf
          conv => whnf
          refine ⟨?_, nofun⟩
          rw [if_neg (show ¬ pathErr N w (L.getD (k : Int).toNat []) = 0 by assumption)] at hf
          subst hf
          exact ave_tup2 (k := 4) rfl rfl
        · have hpe : pathErr N w (L.getD (k : Int).toNat []) = 0 := by assumption
          rw [if_pos hpe] at hf
          have hpr := hpr hpe
          conv => whnf
          conv => whnf
          refine ⟨[], [2, 3, 4, 8, 9, 11], fun st mq => ∃ (j : Nat), (j ≤ (L.getD (k : Int).toNat []).length) ∧ (((L.getD (k : Int).toNat []).drop j).any u.contains = (L.getD (k : Int).toNat []).any u.contains) ∧ st = ⟨[(2, listsA L), (3, .optr 0 0 0 0), (4, .optr 1 0 0 0), (8, .oslice 2 0 0 n none), (9, i64 k), (11, i64 j)], ⟨[netBlk N, ⟨2, 1, fun _ => [i64 w.1, i64 w.2], 0, false, true, true⟩, ⟨1, n, fun i => [i64 (u.getD i 0)], 0, false, true, false⟩], [], none, 0⟩, []⟩ ∧ mq = (L.getD (k : Int).toNat []).length - j,
            ⟨_, _, ⟨0, by omega, rfl, rfl, rfl⟩, ⟨⟨rfl, rfl, rfl, rfl⟩, ⟨⟨rfl, rfl, rfl, rfl, fun _ => rfl, fun _ _ => rfl⟩, ⟨⟨rfl, rfl, rfl, rfl, fun _ => rfl, fun _ _ => rfl⟩, ⟨⟨rfl, rfl, rfl, rfl, fun _ => rfl, fun _ _ => rfl⟩, trivial⟩⟩⟩, trivial⟩⟩, ?_⟩
          rintro s0 m0 ⟨j, hj, ha, rfl, hmeas⟩
          by_cases hjl : j < (L.getD (k : Int).toNat []).length
          · rw [any_drop hjl, show (L.getD (k : Int).toNat []).getD j 0 = (L.getD (k : Int).toNat []).getD (j : Int).toNat 0 from rfl] at ha
            conv => whnf
            conv => whnf
            conv => whnf
            refine ⟨⟨(by omega), (by omega)⟩, ?_⟩
            conv => whnf
            conv => whnf
            conv => whnf
            refine ifB_dec (fun w4 => ?_) (fun w4 => ?_)
            · conv => whnf
              conv => whnf
              conv => whnf
              refine ⟨⟨(by omega), (by omega)⟩, ?_⟩
              conv => whnf
              conv => whnf
              conv => whnf
              refine ⟨⟨(by omega), (by omega)⟩, ?_⟩
              conv => whnf
              conv => whnf
              conv => whnf
              refine .inl ⟨_, _, byX rfl (Sound1.pl (h68 _) rfl), ?_⟩
              conv => whnf
              conv => whnf
              conv => whnf
              refine ifB_intro (fun w5 => ?_) (fun w5 => ?_)
              · conv => whnf
                conv => whnf
                conv => whnf
                refine ⟨?_, nofun⟩
                rw [show u.contains ((L.getD (k : Int).toNat []).getD (j : Int).toNat 0) = true by assumption, Bool.true_or] at ha
                rw [if_pos ha.symm] at hf
                subst hf
                exact ave_tup2 (k := 4) rfl rfl
              · conv => whnf
                conv => whnf
                conv => whnf
                refine ⟨inK64 (by omega) (by omega), ?_⟩
                rw [show u.contains ((L.getD (k : Int).toNat []).getD (j : Int).toNat 0) = false by assumption, Bool.false_or] at ha
                conv => whnf
                conv => whnf
                conv => whnf
                refine ⟨_, _, ⟨⟨j + 1, by omega, ha, rfl, rfl⟩, by omega⟩, ⟨⟨rfl, rfl, rfl, rfl⟩, ⟨⟨rfl, rfl, rfl, rfl, fun _ => rfl, fun _ _ => rfl⟩, ⟨⟨rfl, rfl, rfl, rfl, fun _ => rfl, fun _ _ => rfl⟩, ⟨⟨rfl, rfl, rfl, rfl, fun _ => rfl, fun _ _ => rfl⟩, trivial⟩⟩⟩, trivial⟩⟩
            · (exfalso; omega)
          · have e : j = (L.getD (k : Int).toNat []).length := by omega
            subst e
            rw [List.drop_length, List.any_nil] at ha
            rw [if_neg (by rw [← ha]; decide)] at hf
            conv => whnf
            conv => whnf
            conv => whnf
            refine ⟨⟨(by omega), (by omega)⟩, ?_⟩
            conv => whnf
            conv => whnf
            conv => whnf
            refine ifB_dec (fun w4 => ?_) (fun w4 => ?_)
            · (exfalso; omega)
            · conv => whnf
              conv => whnf
              conv => whnf
              refine ⟨[], [2, 3, 4, 8, 9, 12], fun st mq => ∃ (j : Nat) (n2 : Nat) (a : List Int), (j ≤ (L.getD (k : Int).toNat []).length) ∧ (a.length = n2) ∧ (n2 ≤ k * 1000 + j) ∧ (a ++ (((L.getD (k : Int).toNat []).drop j).filter fun i => (N.cs.getD i.toNat cn0).valve) = u ++ ((L.getD (k : Int).toNat []).filter fun i => (N.cs.getD i.toNat cn0).valve)) ∧ st = ⟨[(2, listsA L), (3, .optr 0 0 0 0), (4, .optr 1 0 0 0), (8, .oslice 2 0 0 n2 none), (9, i64 k), (12, i64 j)], ⟨[netBlk N, ⟨2, 1, fun _ => [i64 w.1, i64 w.2], 0, false, true, true⟩, ⟨1, n2, fun i => [i64 (a.getD i 0)], 0, false, true, false⟩], [], none, 0⟩, []⟩ ∧ mq = (L.getD (k : Int).toNat []).length - j,
                ⟨_, _, ⟨0, n, u, by omega, hn, by omega, rfl, rfl, rfl⟩, ⟨⟨rfl, rfl, rfl, rfl⟩, ⟨⟨rfl, rfl, rfl, rfl, fun _ => rfl, fun _ _ => rfl⟩, ⟨⟨rfl, rfl, rfl, rfl, fun _ => rfl, fun _ _ => rfl⟩, ⟨⟨rfl, rfl, rfl, rfl, fun _ => rfl, fun _ _ => rfl⟩, trivial⟩⟩⟩, trivial⟩⟩, ?_⟩
              rintro s0 m0 ⟨j, n2, a, hj, ha1, hb2, ha2, rfl, hmeas⟩
              by_cases hjl : j < (L.getD (k : Int).toNat []).length
              · have hx := hpr ((L.getD (k : Int).toNat []).getD (j : Int).toNat 0) (getD_mem' hjl)
                rw [filter_drop hjl, show (L.getD (k : Int).toNat []).getD j 0 = (L.getD (k : Int).toNat []).getD (j : Int).toNat 0 from rfl] at ha2
                conv => whnf
                conv => whnf
                conv => whnf
                conv => whnf
                refine ⟨⟨(by omega), (by omega)⟩, ?_⟩
                conv => whnf
                conv => whnf
                conv => whnf
                conv => whnf
                refine ifB_dec (fun w5 => ?_) (fun w5 => ?_)
                · conv => whnf
                  conv => whnf
                  conv => whnf
                  conv => whnf
                  refine ⟨[], by kernel_rfl, ?_⟩
                  conv => whnf
                  conv => whnf
                  conv => whnf
                  conv => whnf
                  refine ⟨⟨(by omega), (by omega)⟩, ?_⟩
                  conv => whnf
                  conv => whnf
                  conv => whnf
                  conv => whnf
                  refine ⟨⟨(by omega), (by omega)⟩, ?_⟩
                  conv => whnf
                  conv => whnf
                  conv => whnf
                  conv => whnf
                  refine ⟨⟨(by omega), (by omega)⟩, ?_⟩
                  conv => whnf
                  conv => whnf
                  conv => whnf
                  conv => whnf
                  refine ifB_intro (fun w6 => ?_) (fun w6 => ?_)
                  · conv => whnf
                    conv => whnf
                    conv => whnf
                    conv => whnf
                    refine ⟨⟨(by omega), (by omega)⟩, ?_⟩
                    conv => whnf
                    conv => whnf
                    conv => whnf
                    conv => whnf
                    refine ⟨⟨(by omega), (by omega)⟩, ?_⟩
                    conv => whnf
                    conv => whnf
                    conv => whnf
                    conv => whnf
                    refine ⟨(by show _ * (8 + 1) ≤ _; omega), ?_⟩
                    conv => whnf
                    conv => whnf
                    conv => whnf
                    conv => whnf
                    refine ⟨inK64 (by omega) (by omega), ?_⟩
                    rw [if_pos (by assumption)] at ha2
                    conv => whnf
                    conv => whnf
                    conv => whnf
                    conv => whnf
                    refine ⟨_, _, ⟨⟨j + 1, n2 + 1, a ++ [(L.getD (k : Int).toNat []).getD (j : Int).toNat 0], by omega, by simpa using ha1, by omega, by simpa using ha2, rfl, rfl⟩, by omega⟩, ⟨⟨rfl, rfl, rfl, rfl⟩, ⟨⟨rfl, rfl, rfl, rfl, fun _ => rfl, fun _ _ => rfl⟩, ⟨⟨rfl, rfl, rfl, rfl, fun _ => rfl, fun _ _ => rfl⟩, ⟨⟨rfl, rfl, rfl, rfl, fun _ => rfl, fun i h => app_row ha1 _ i h⟩, trivial⟩⟩⟩, trivial⟩⟩
                  · conv => whnf
                    conv => whnf
                    conv => whnf
                    conv => whnf
                    refine ⟨inK64 (by omega) (by omega), ?_⟩
                    rw [if_neg (Bool.eq_false_iff.1 (by assumption))] at ha2
                    conv => whnf
                    conv => whnf
                    conv => whnf
                    conv => whnf
                    refine ⟨_, _, ⟨⟨j + 1, n2, a, by omega, ha1, by omega, ha2, rfl, rfl⟩, by omega⟩, ⟨⟨rfl, rfl, rfl, rfl⟩, ⟨⟨rfl, rfl, rfl, rfl, fun _ => rfl, fun _ _ => rfl⟩, ⟨⟨rfl, rfl, rfl, rfl, fun _ => rfl, fun _ _ => rfl⟩, ⟨⟨rfl, rfl, rfl, rfl, fun _ => rfl, fun _ _ => rfl⟩, trivial⟩⟩⟩, trivial⟩⟩
                · (exfalso; omega)
              · have e : j = (L.getD (k : Int).toNat []).length := by omega
                subst e
                rw [List.drop_length, List.filter_nil, List.append_nil] at ha2
                rw [← ha2] at hf
                conv => whnf
                conv => whnf
                conv => whnf
                conv => whnf
                refine ⟨⟨(by omega), (by omega)⟩, ?_⟩
                conv => whnf
                conv => whnf
                conv => whnf
                conv => whnf
                refine ifB_dec (fun w5 => ?_) (fun w5 => ?_)
                · (exfalso; omega)
                · conv => whnf
                  conv => whnf
                  conv => whnf
                  conv => whnf
                  refine ⟨inK64 (by omega) (by omega), ?_⟩
                  conv => whnf
                  conv => whnf
                  conv => whnf
                  conv => whnf
                  refine ⟨_, _, ⟨⟨k + 1, n2, a, by omega, ha1, by omega, hf, rfl, rfl⟩, by omega⟩, ⟨⟨rfl, rfl, rfl, rfl⟩, ⟨⟨rfl, rfl, rfl, rfl, fun _ => rfl, fun _ _ => rfl⟩, ⟨⟨rfl, rfl, rfl, rfl, fun _ => rfl, fun _ _ => rfl⟩, ⟨⟨rfl, rfl, rfl, rfl, fun _ => rfl, fun _ _ => rfl⟩, trivial⟩⟩⟩, trivial⟩⟩
      · (exfalso; omega)
    · have e : k = L.length := by omega
      subst e
      rw [List.drop_length, chkP] at hf
      subst hf
      conv => whnf
      conv => whnf
      refine ifB_dec (fun w2 => ?_) (fun w2 => ?_)
      · (exfalso; omega)
      · conv => whnf
        conv => whnf
        refine ⟨?_, nofun⟩
        exact ave_tup2 (k := 4) rfl rfl
end Go.Tr

/- The end of a law's proof: what every law shares; further openings of arguments. Conditions: none. -/
namespace Go.Tr
open Go Go.Proofs Go.RowKit Go.WideShapes Go.ChangeShapes
section
variable {H : Type} {enc : TypeId × Value → H} {P : Program}
theorem post_of_below {f : Func} {s : ChangeSpec} {apart fresh handsOn again : Bool} {W W' : World} {args : Array Value} {v : Value} {ds gs : List (DataW H)} {before pa pv : List MemPlace}
    (hW : DataW.Whole enc P f.params.toList s.vars apart W args.toList ds gs before)
    (hres : ∀ (b : Nat) (sp : Nat → Bool) (hd : Bool), DataW.TrodAll enc P W' b sp hd f.resultTypes.toList (v.resultList f.resultTypes.size) (s.fn H (ds ++ gs)).results [])
    (hargs : ∀ sp : Nat → Bool, (∀ p ∈ before, sp p.block = true) → DataW.TrodAll enc P W' 0 sp true f.params.toList args.toList (s.fn H (ds ++ gs)).args pa)
    (hvars : ∀ sp : Nat → Bool, (∀ p ∈ before, sp p.block = true) → DataW.TrodVars enc P W' sp s.vars (s.fn H (ds ++ gs)).vars pv)
    (hps : before = pa ++ pv) (hb : Below W.heap.size W W')
    (hok : ∀ (j : Nat) (t : TypeId) (r : Value), f.resultTypes[j]? = some t → (v.resultList f.resultTypes.size)[j]? = some r → Value.okWide P W' .any 0 t r) :
    s.post enc P f apart fresh handsOn again W args v W' := by
  have hlt : ∀ p ∈ before, p.block < W.heap.size := fun p hp => hW.lt p hp
  have hold : ∀ p ∈ before, (fun b => decide (b < W.heap.size)) p.block = true := fun p hp => by simpa using hlt p hp
  refine ⟨ds, gs, before, [], pa, pv, hW, hres _ _ _, hargs _ hold, hvars _ hold, World.keptBut_mono (fun p hp => ⟨hp, ?_⟩) (hb.frame (· ∈ before)), fun _ => ?_⟩
  · rw [hps, List.mem_append] at hp
    exact Or.inr hp
  · obtain ⟨_, _, _, _, _, hz, hn⟩ := hW
    refine ⟨hok, _, _, ([] ++ pa) ++ pv, ⟨[] ++ pa, pv, trodAll_append (hargs _ (fun _ _ => rfl)) (hres _ _ _), hvars _ (fun _ _ => rfl), rfl, ?_, ?_⟩, ?_⟩
    · intro b off hp
      have hin : MemPlace.cell b off ∈ before := by rw [hps]; simpa using hp
      rw [hb.frozen (hlt _ hin)]
      exact hz b off hin
    · intro ha
      have := hn ha
      rw [hps] at this
      simpa using this
    · intro p hp _
      rw [hps]
      simpa using hp
end

set_option maxRecDepth 20000
theorem cells3 : Try.prog.cellsOf 3 = 1 := by kernel_rfl
theorem ints_open {x : AV} (h : TyA Try.prog 4 39 x) : ∃ l : List Int, AVE 5 x (ints l) ∧ l.length ≤ 9223372036854775807 ∧ ∀ a ∈ l, inK .i64 a := by
  simp only [TyA, Try.underlying39] at h
  unfold TyC at h
  simp only [Try.underlying39] at h
  obtain ⟨len, f, e, hl, hf⟩ := h
  cases e
  obtain ⟨l, n1, n2, n3⟩ := list_open (g := fun n : Int => [i64 n]) (p := fun n => inK .i64 n) 0 (fun i hi => int_open Try.underlying3 (hf i hi))
  rw [cells3]
  exact ⟨l, n3 4, by rw [n1]; exact hl, n2⟩
theorem arr2_open {x : AV} (h : TyA Try.prog 4 40 x) : ∃ a b : Int, AVE 5 x (.agg [i64 a, i64 b]) ∧ inK .i64 a ∧ inK .i64 b := by
  simp only [TyA, Try.underlying40] at h
  obtain ⟨xs, rfl, h⟩ := h
  unfold TyC at h
  simp only [Try.underlying40] at h
  obtain ⟨ps, rfl, hn, h⟩ := h
  match ps, hn with
  | [p, q], _ =>
    obtain ⟨a, rfl, ha⟩ := int_open Try.underlying3 (h p (by simp))
    obtain ⟨b, rfl, hb⟩ := int_open Try.underlying3 (h q (by simp))
    exact ⟨a, b, ave2 a b, ha, hb⟩
theorem pair_open {t : TypeId} {fs : Array Field} (hu : Try.prog.underlying t = some (.struct fs)) (hf : fs.toList.map (·.type) = [3, 3]) {x : AV} (h : TyA Try.prog 4 t x) : ∃ a b : Int, AVE 5 x (.agg [i64 a, i64 b]) ∧ inK .i64 a ∧ inK .i64 b := by
  simp only [TyA, hu] at h
  obtain ⟨xs, rfl, h⟩ := h
  unfold TyC at h
  simp only [hu] at h
  obtain ⟨ps, rfl, h⟩ := h
  generalize fs.toList = L at hf h
  match L with
  | [] => simp at hf
  | [_] => simp at hf
  | _ :: _ :: _ :: _ => simp at hf
  | [f, g] =>
    simp only [List.map_cons, List.map_nil, List.cons.injEq, and_true] at hf
    obtain ⟨p, q, rfl, h1, h2⟩ := all2_2 h
    rw [hf.1] at h1
    rw [hf.2] at h2
    obtain ⟨a, rfl, ha⟩ := int_open Try.underlying3 h1
    obtain ⟨b, rfl, hb⟩ := int_open Try.underlying3 h2
    exact ⟨a, b, ave2 a b, ha, hb⟩
theorem range_open {x : AV} (h : TyA Try.prog 4 43 x) : ∃ a b : Int, AVE 5 x (.agg [i64 a, i64 b]) ∧ inK .i64 a ∧ inK .i64 b := pair_open Try.underlying43 rfl h
theorem way_open {x : AV} (h : TyA Try.prog 4 87 x) : ∃ a b : Int, AVE 5 x (.agg [i64 a, i64 b]) ∧ inK .i64 a ∧ inK .i64 b := pair_open Try.underlying87 rfl h
end Go.Tr

namespace Go.Proofs.Ytkomdfgffgkphaa
open Go.ChangeShapes Go.WideShapes Go.ChangeAt Go.RowKit Go.Tr
theorem Try.own : ownKnob Try.prog.godebug = none := by kernel_rfl
theorem Try.laidOut : laidOutB Try.prog = true := by kernel_rfl
end Go.Proofs.Ytkomdfgffgkphaa

/- The law WaterCuts returns true; the opening of lists of lists. Conditions: none. -/
namespace Go.Tr
open Go Go.Proofs Go.RowKit Go.WideShapes Go.ChangeShapes
set_option maxRecDepth 20000
set_option maxHeartbeats 8000000

/-- Equal as far as it can be seen, slices within slices too. -/
def AVD : Nat → AV → AV → Prop
  | 0, _, _ => False
  | n + 1, .rslice es len f, .rslice es' len' g => es = es' ∧ len = len' ∧ ∀ i, i < len → (f i).length = (g i).length ∧ ∀ j x y, nth? (f i) j = some x → nth? (g i) j = some y → AVD n x y
  | _ + 1, x, y => x = y
theorem AVD_ok {P : Program} {w : World} {p : Nat → Prop} : ∀ (k : Nat) {x y : AV} {v : Value}, AVD k x y → VT P w p x v → VT P w p y v
  | 0, x, y, v, h, _ => h.elim
  | k + 1, x, y, v, h, hx => by
    have eqc : x = y → VT P w p y v := fun e => e ▸ hx
    cases x with
    | rslice es len f =>
      cases y with
      | rslice es' len' g =>
        obtain ⟨rfl, rfl, hf⟩ := h
        cases hx with
        | rslice0 => exact .rslice0 _ _ _ _
        | rslice _ _ _ b off kk gg h1 h2 h3 h4 h5 =>
          refine .rslice _ _ _ b off kk gg h1 h2 (fun i hi => by rw [← (hf i hi).1]; exact h3 i hi) h4 (fun i j y hi hy => ?_)
          have hl := (hf i hi).1
          have hlt : j < (f i).length := by rw [hl]; exact (List.getElem?_eq_some_iff.1 hy).1
          exact AVD_ok k ((hf i hi).2 j _ y (by rw [nth?_eq]; exact List.getElem?_eq_getElem hlt) (by rw [nth?_eq]; exact hy)) (h5 i j _ hi (List.getElem?_eq_getElem hlt))
      | _ => exact eqc h
    | _ => cases y <;> exact eqc h
theorem ints_deep {xs : List AV} (h : TyC Try.prog 3 39 xs) : ∃ l : List Int, ∃ x, xs = [x] ∧ AVD 4 x (ints l) := by
  unfold TyC at h
  simp only [Try.underlying39] at h
  obtain ⟨len, f, e, hl, hf⟩ := h
  obtain ⟨l, n1, n2, n3⟩ := list_open (es := 1) (g := fun n : Int => [i64 n]) (p := fun n => inK .i64 n) 0 (fun i hi => int_open Try.underlying3 (hf i hi))
  rw [cells3] at e
  refine ⟨l, _, e, rfl, n1.symm, fun i hi => ?_⟩
  have hr := (n3 0).2.2 i hi
  rw [hr]
  refine ⟨rfl, fun j x y hx hy => ?_⟩
  match j, hx, hy with
  | 0, hx, hy => cases hx; cases hy; rfl
theorem cells39 : Try.prog.cellsOf 39 = 1 := by kernel_rfl
theorem lists_open {x : AV} (h : TyA Try.prog 4 88 x) : ∃ L : List (List Int), AVD 5 x (listsA L) ∧ L.length ≤ 9223372036854775807 := by
  simp only [TyA, Try.underlying88] at h
  unfold TyC at h
  simp only [Try.underlying88] at h
  obtain ⟨len, f, e, hl, hf⟩ := h
  cases e
  have hx : ∀ i, ∃ l : List Int, i < len → ∃ x, f i = [x] ∧ AVD 4 x (ints l) := fun i => by
    by_cases hi : i < len
    · obtain ⟨l, x, h1, h2⟩ := ints_deep (hf i hi)
      exact ⟨l, fun _ => ⟨x, h1, h2⟩⟩
    · exact ⟨[], fun h => absurd h hi⟩
  refine ⟨(List.range len).map fun i => Classical.choose (hx i), ?_, by simpa using hl⟩
  rw [cells39]
  refine ⟨rfl, by simp, fun i hi => ?_⟩
  obtain ⟨x, h1, h2⟩ := Classical.choose_spec (hx i) hi
  have e : ((List.range len).map fun i => Classical.choose (hx i)).getD i [] = Classical.choose (hx i) := by simp [List.getD_eq_getElem?_getD, hi]
  rw [h1]
  show _ ∧ ∀ j x_1 y, _ → nth? [ints (((List.range len).map fun i => Classical.choose (hx i)).getD i [])] j = some y → _
  rw [e]
  refine ⟨rfl, fun j x y hx hy => ?_⟩
  match j, hx, hy with
  | 0, hx, hy => cases hx; cases hy; exact h2
set_option maxHeartbeats 0 in
theorem S9 (N : Net) (hN : N.In) (a b : Int) (L : List (List Int)) (hL : L.length ≤ 9223372036854775807) : SP 9 [netV N, .agg [i64 a, i64 b], listsA L] (vb true) false := by
  have h15 := S15 N hN
  cases hf : fewB N with
  | false =>
    rw [hf] at h15
    refine sound (d := 2) tok2 mixed2 Try.func9 (by kernel_rfl) (by kernel_rfl) ?_
    conv => whnf
    refine .inl ⟨_, _, byX rfl (Sound1.pl (S14) rfl), ?_⟩
    conv => whnf
    refine .inl ⟨_, _, byX rfl (Sound1.pl (h15) rfl), ?_⟩
    conv => whnf
    refine ⟨?_, nofun⟩
    (rfl)
  | true =>
    rw [hf] at h15
    obtain ⟨b1, b2⟩ := few_bounds hf
    by_cases hL16 : L.length ≤ 16
    · refine sound (d := 2) tok2 mixed2 Try.func9 (by kernel_rfl) (by kernel_rfl) ?_
      conv => whnf
      refine .inl ⟨_, _, byX rfl (Sound1.pl (S14) rfl), ?_⟩
      conv => whnf
      refine .inl ⟨_, _, byX rfl (Sound1.pl (h15) rfl), ?_⟩
      conv => whnf
      refine ifB_dec (fun w1 => ?_) (fun w1 => ?_)
      · (exfalso; omega)
      · conv => whnf
        refine ⟨[], [2, 3, 4, 7], fun st mq => ∃ (k : Nat), (k ≤ L.length) ∧ (∀ i, i < k → (L.getD i []).length ≤ 16) ∧ st = ⟨[(2, listsA L), (3, .optr 0 0 0 0), (4, .optr 1 0 0 0), (7, i64 k)], ⟨[netBlk N, ⟨2, 1, fun _ => [i64 a, i64 b], 0, false, true, true⟩], [], none, 0⟩, []⟩ ∧ mq = L.length - k,
          ⟨_, _, ⟨0, by omega, fun i h => absurd h (Nat.not_lt_zero i), rfl, rfl⟩, ⟨⟨rfl, rfl, rfl, rfl⟩, ⟨⟨rfl, rfl, rfl, rfl, fun _ => rfl, fun _ _ => rfl⟩, ⟨⟨rfl, rfl, rfl, rfl, fun _ => rfl, fun _ _ => rfl⟩, trivial⟩⟩, trivial⟩⟩, ?_⟩
        rintro s0 m0 ⟨k, hk, h16, rfl, hmeas⟩
        by_cases hkl : k < L.length
        · conv => whnf
          conv => whnf
          refine ifB_dec (fun w2 => ?_) (fun w2 => ?_)
          · conv => whnf
            conv => whnf
            refine ⟨⟨(by omega), (by omega)⟩, ?_⟩
            conv => whnf
            conv => whnf
            refine ifB_dec (fun w3 => ?_) (fun w3 => ?_)
            · conv => whnf
              conv => whnf
              refine ⟨?_, nofun⟩
              (rfl)
            · conv => whnf
              conv => whnf
              refine ⟨inK64 (by omega) (by omega), ?_⟩
              have w : (L.getD k []).length ≤ 16 := by
                have w := w3
                rw [Int.toNat_natCast] at w
                omega
              conv => whnf
              conv => whnf
              refine ⟨_, _, ⟨⟨k + 1, by omega, fun i hi => (by rcases Nat.lt_or_ge i k with h | h; exact h16 i h; rw [show i = k by omega]; exact w), rfl, rfl⟩, by omega⟩, ⟨⟨rfl, rfl, rfl, rfl⟩, ⟨⟨rfl, rfl, rfl, rfl, fun _ => rfl, fun _ _ => rfl⟩, ⟨⟨rfl, rfl, rfl, rfl, fun _ => rfl, fun _ _ => rfl⟩, trivial⟩⟩, trivial⟩⟩
          · (exfalso; omega)
        · have e : k = L.length := by omega
          subst e
          have hl : ∀ l ∈ L, l.length ≤ 1000 := fun l hm => by
            obtain ⟨i, hi, e⟩ := List.getElem_of_mem hm
            have := h16 i hi
            rw [List.getD_eq_getElem?_getD, List.getElem?_eq_getElem hi, Option.getD_some, e] at this
            omega
          have h17 := S17 N (by omega) (by omega)
          have h55 := S55 N hN (a, b)
          have h56 := S56 N hN (a, b) L (by omega) hl
          have h57 := S57 L (by omega) hl
          have h32 := S32 N hN
          have h58 := S58 N hN (a, b)
          simp only at h55 h56 h58
          unfold cutE at h55
          unfold pathsF at h56
          clear hk hmeas
          by_cases hE : wE N (a, b) = 0
          · rw [if_pos hE, if_pos hE] at h55
            rw [if_pos hE] at h56
            obtain ⟨h0, h1, h2, h3⟩ := wE_ok hE
            have hok := net_ok h0
            have hn := hok.n1
            have hc := hok.c1
            have hw0 : wayE N (a, b) = 0 := by unfold wE at hE; rw [if_pos h0] at hE; exact hE
            have h59 := S59 N (a, b) (by omega) (by omega) hok.ends h1 h2
            have h60 := S60 N hok (a, b) L (by omega) hl
            have hcl := cutR_len N (a, b)
            have h34 := S34 (optL (cutR N (a, b))).1 (optL (cutR N (a, b))).1 (by omega) (by omega)
            rw [decide_eq_true rfl] at h34
            have hz : (optL (cutR N (a, b))).2 = false → (optL (cutR N (a, b))).1 = [] := by
              cases cutR N (a, b) with
              | none => intro _; rfl
              | some s => intro h; cases h
            rw [h0] at h32
            rw [hw0] at h58
            simp only at h59 h60
            generalize optL (cutR N (a, b)) = Q at *
            generalize (if L.length ≤ 14 then chkP N (a, b) 0 [] L else (0, 8)) = R at *
            cases hQ : Q.2 with
            | true =>
              rw [hQ] at h55 h59
              conv => whnf
              conv => whnf
              refine ifB_dec (fun w2 => ?_) (fun w2 => ?_)
              · (exfalso; omega)
              · conv => whnf
                conv => whnf
                refine ⟨[], by kernel_rfl, ?_⟩
                conv => whnf
                conv => whnf
                refine .inl ⟨_, _, byX rfl (h17), ?_⟩
                conv => whnf
                conv => whnf
                refine .inl ⟨_, _, byX rfl (h55), ?_⟩
                conv => whnf
                conv => whnf
                refine ⟨[], by kernel_rfl, ?_⟩
                conv => whnf
                conv => whnf
                refine .inl ⟨_, _, byX rfl (h17), ?_⟩
                conv => whnf
                conv => whnf
                refine .inl ⟨_, _, byX rfl (h57), ?_⟩
                conv => whnf
                conv => whnf
                refine .inl ⟨_, _, byX rfl (Sound1.pl (h56) rfl), ?_⟩
                conv => whnf
                conv => whnf
                refine .inl ⟨_, _, byX rfl (Sound1.pl (h32) rfl), ?_⟩
                conv => whnf
                conv => whnf
                refine .inl ⟨_, _, byX rfl (Sound1.pl (h58) rfl), ?_⟩
                conv => whnf
                conv => whnf
                refine .inl ⟨_, _, byX rfl (h59), ?_⟩
                conv => whnf
                conv => whnf
                refine .inl ⟨_, _, byX rfl (Sound1.pl (h34) rfl), ?_⟩
                conv => whnf
                conv => whnf
                refine .inl ⟨_, _, byX rfl (Sound1.pl (h60) rfl), ?_⟩
                conv => whnf
                conv => whnf
                refine ifB_beq (fun w3 => ?_) (fun w3 => ?_)
                · conv => whnf
                  conv => whnf
                  refine ⟨?_, nofun⟩
                  (exact vbEq (beq_self_eq_true _))
                · (exfalso; omega)
            | false =>
              rw [hQ, hz hQ] at h55 h59
              conv => whnf
              conv => whnf
              refine ifB_dec (fun w2 => ?_) (fun w2 => ?_)
              · (exfalso; omega)
              · conv => whnf
                conv => whnf
                refine ⟨[], by kernel_rfl, ?_⟩
                conv => whnf
                conv => whnf
                refine .inl ⟨_, _, byX rfl (h17), ?_⟩
                conv => whnf
                conv => whnf
                refine .inl ⟨_, _, byX rfl (h55), ?_⟩
                conv => whnf
                conv => whnf
                refine ⟨[], by kernel_rfl, ?_⟩
                conv => whnf
                conv => whnf
                refine .inl ⟨_, _, byX rfl (h17), ?_⟩
                conv => whnf
                conv => whnf
                refine .inl ⟨_, _, byX rfl (h57), ?_⟩
                conv => whnf
                conv => whnf
                refine .inl ⟨_, _, byX rfl (Sound1.pl (h56) rfl), ?_⟩
                conv => whnf
                conv => whnf
                refine .inl ⟨_, _, byX rfl (Sound1.pl (h32) rfl), ?_⟩
                conv => whnf
                conv => whnf
                refine .inl ⟨_, _, byX rfl (Sound1.pl (h58) rfl), ?_⟩
                conv => whnf
                conv => whnf
                refine .inl ⟨_, _, byX rfl (h59), ?_⟩
                conv => whnf
                conv => whnf
                refine .inl ⟨_, _, byX rfl (Sound1.pl (h60) rfl), ?_⟩
                conv => whnf
                conv => whnf
                refine ifB_beq (fun w3 => ?_) (fun w3 => ?_)
                · conv => whnf
                  conv => whnf
                  refine ⟨?_, nofun⟩
                  (exact vbEq (beq_self_eq_true _))
                · (exfalso; omega)
          · rw [if_neg hE, if_neg hE] at h55
            rw [if_neg hE] at h56
            unfold wE at hE h55 h56
            by_cases h0 : netE N = 0
            · rw [if_pos h0] at hE h55 h56
              rw [h0] at h32
              conv => whnf
              conv => whnf
              refine ifB_dec (fun w2 => ?_) (fun w2 => ?_)
              · (exfalso; omega)
              · conv => whnf
                conv => whnf
                refine ⟨[], by kernel_rfl, ?_⟩
                conv => whnf
                conv => whnf
                refine .inl ⟨_, _, byX rfl (h17), ?_⟩
                conv => whnf
                conv => whnf
                refine .inl ⟨_, _, byX rfl (h55), ?_⟩
                conv => whnf
                conv => whnf
                refine ⟨[], by kernel_rfl, ?_⟩
                conv => whnf
                conv => whnf
                refine .inl ⟨_, _, byX rfl (h17), ?_⟩
                conv => whnf
                conv => whnf
                refine .inl ⟨_, _, byX rfl (h57), ?_⟩
                conv => whnf
                conv => whnf
                refine .inl ⟨_, _, byX rfl (Sound1.pl (h56) rfl), ?_⟩
                conv => whnf
                conv => whnf
                refine .inl ⟨_, _, byX rfl (Sound1.pl (h32) rfl), ?_⟩
                conv => whnf
                conv => whnf
                refine .inl ⟨_, _, byX rfl (Sound1.pl (h58) rfl), ?_⟩
                conv => whnf
                conv => whnf
                refine ifB_bne (fun w3 => ?_) (fun w3 => ?_)
                · conv => whnf
                  conv => whnf
                  refine ifB_beq (fun w4 => ?_) (fun w4 => ?_)
                  · conv => whnf
                    conv => whnf
                    refine ifB_beq (fun w5 => ?_) (fun w5 => ?_)
                    · conv => whnf
                      conv => whnf
                      refine ⟨?_, nofun⟩
                      (rfl)
                    · (exfalso; omega)
                  · (exfalso; omega)
                · (exfalso; omega)
            · rw [if_neg h0] at h55 h56
              conv => whnf
              conv => whnf
              refine ifB_dec (fun w2 => ?_) (fun w2 => ?_)
              · (exfalso; omega)
              · conv => whnf
                conv => whnf
                refine ⟨[], by kernel_rfl, ?_⟩
                conv => whnf
                conv => whnf
                refine .inl ⟨_, _, byX rfl (h17), ?_⟩
                conv => whnf
                conv => whnf
                refine .inl ⟨_, _, byX rfl (h55), ?_⟩
                conv => whnf
                conv => whnf
                refine ⟨[], by kernel_rfl, ?_⟩
                conv => whnf
                conv => whnf
                refine .inl ⟨_, _, byX rfl (h17), ?_⟩
                conv => whnf
                conv => whnf
                refine .inl ⟨_, _, byX rfl (h57), ?_⟩
                conv => whnf
                conv => whnf
                refine .inl ⟨_, _, byX rfl (Sound1.pl (h56) rfl), ?_⟩
                conv => whnf
                conv => whnf
                refine .inl ⟨_, _, byX rfl (Sound1.pl (h32) rfl), ?_⟩
                conv => whnf
                conv => whnf
                refine ifB_beq (fun w3 => ?_) (fun w3 => ?_)
                · (exfalso; omega)
                · conv => whnf
                  conv => whnf
                  refine ifB_bne (fun w4 => ?_) (fun w4 => ?_)
                  · conv => whnf
                    conv => whnf
                    refine ifB_beq (fun w5 => ?_) (fun w5 => ?_)
                    · conv => whnf
                      conv => whnf
                      refine ifB_beq (fun w6 => ?_) (fun w6 => ?_)
                      · conv => whnf
                        conv => whnf
                        refine ⟨?_, nofun⟩
                        (rfl)
                      · (exfalso; omega)
                    · (exfalso; omega)
                  · (exfalso; omega)
    · refine sound (d := 2) tok2 mixed2 Try.func9 (by kernel_rfl) (by kernel_rfl) ?_
      conv => whnf
      refine .inl ⟨_, _, byX rfl (Sound1.pl (S14) rfl), ?_⟩
      conv => whnf
      refine .inl ⟨_, _, byX rfl (Sound1.pl (h15) rfl), ?_⟩
      conv => whnf
      refine ifB_dec (fun w1 => ?_) (fun w1 => ?_)
      · conv => whnf
        refine ⟨?_, nofun⟩
        (rfl)
      · (exfalso; omega)
end Go.Tr

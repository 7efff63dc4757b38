/- Contracts of chapter 7: what the package's functions answer. Conditions: none. -/
import Derived.Test.YtflgajlngiojbaaDoorTr09
set_option linter.unusedSectionVars false
set_option linter.unnecessarySimpa false
set_option linter.unusedVariables false
set_option linter.unusedSimpArgs false

namespace Go.Tr
open Go Go.Proofs
set_option maxRecDepth 20000
set_option maxHeartbeats 8000000

abbrev tnA (f : Int × Bool) (c : Int) : AV := .agg [i64 f.1, vb f.2, i64 c]
def mayB (p : Pln) (s : S2) (c : Int) : Bool := decide (c = -1) || (decide ((stp p s).wait = 0) && hasI (stp p s).exits c)
def turnE (p : Pln) (s : S2) (f : Int × Bool) (c : Int) : Int := if openE p s f = 0 then (if mayB p s c then 0 else 24) else openE p s f
def turnR (p : Pln) (s : S2) (f : Int × Bool) (c : Int) : AV :=
  if turnE p s f c ≠ 0 then .tuple [stA (0, 0), i64 0, i64 (turnE p s f c)] else .tuple [stA (turnF p f s c).1, i64 (turnF p f s c).2, i64 0]
def homeR (p : Pln) (s : S2) (f : Int × Bool) : AV :=
  if openE p s f ≠ 0 then .tuple [sts [], i64 0, i64 (openE p s f)] else match homeF p f s with | none => .tuple [sts [], i64 0, i64 12] | some x => .tuple [sts x.1, i64 x.2, i64 0]
def htR (p : Pln) (s : S2) (f : Int × Bool) : AV :=
  if openE p s f ≠ 0 then .tuple [stA (0, 0), i64 0, i64 (openE p s f)] else match homeTurnF p f s with | none => .tuple [stA (0, 0), i64 0, i64 21] | some x => .tuple [stA x.1, i64 x.2, i64 0]
def seenR (p : Pln) (s : S2) (f : Int × Bool) : AV := if openE p s f ≠ 0 then t2 0 (openE p s f) else t2 (seenB s.2 f) 0
theorem S44 (p : Pln) (hp : FewP p) (s : S2) (f : Int × Bool) : SP 44 [planA p, stA s, ftA f] (seenR p s f) false := by
  have h67 := S67 p hp s f
  have h90 := S90 s.2 f
  unfold seenR
  refine sound (d := 2) tok2 mixed2 Tryd.func44 (by kernel_rfl) (by kernel_rfl) ?_
  conv => whnf
  refine .inl ⟨_, _, byX rfl (h67), ?_⟩
  conv => whnf
  refine ifB_bne (fun w1 => ?_) (fun w1 => ?_)
  · conv => whnf
    refine ⟨?_, nofun⟩
    rw [if_pos w1]; exact ave_tup2 rfl rfl
  · conv => whnf
    refine .inl ⟨_, _, byX rfl (Sound1.pl (h90) rfl), ?_⟩
    conv => whnf
    refine ⟨?_, nofun⟩
    rw [if_neg (not_not_intro w1)]; exact ave_tup2 rfl rfl
theorem S30 (p : Pln) (hp : FewP p) (s : S2) (f : Int × Bool) : SP 30 [planA p, stA s, ftA f] (htR p s f) false := by
  have h67 := S67 p hp s f
  unfold htR
  by_cases h0 : openE p s f = 0
  · rw [if_neg (not_not_intro h0)]
    rw [h0] at h67
    obtain ⟨hg, hs, hf⟩ := open_ok hp h0
    have h81 := S81 p s f hs.at
    cases hx : homeTurnF p f s with
    | none =>
      rw [hx] at h81
      refine sound (d := 2) tok2 mixed2 Tryd.func30 (by kernel_rfl) (by kernel_rfl) ?_
      conv => whnf
      refine .inl ⟨_, _, byX rfl (h67), ?_⟩
      conv => whnf
      refine .inl ⟨_, _, byX rfl (Sound1.pl (h81) rfl), ?_⟩
      conv => whnf
      refine ⟨[], by kernel_rfl, ?_⟩
      conv => whnf
      refine .inl ⟨_, _, byX rfl (Sound1.pl (S69 _ _) rfl), ?_⟩
      conv => whnf
      refine ⟨?_, nofun⟩
      exact ave_tup3 (ave_agg2 (k := 3) rfl rfl) rfl rfl
    | some x =>
      rw [hx] at h81
      refine sound (d := 2) tok2 mixed2 Tryd.func30 (by kernel_rfl) (by kernel_rfl) ?_
      conv => whnf
      refine .inl ⟨_, _, byX rfl (h67), ?_⟩
      conv => whnf
      refine .inl ⟨_, _, byX rfl (Sound1.pl (h81) rfl), ?_⟩
      conv => whnf
      refine ⟨[], by kernel_rfl, ?_⟩
      conv => whnf
      refine .inl ⟨_, _, byX rfl (Sound1.pl (S69 _ _) rfl), ?_⟩
      conv => whnf
      refine ⟨?_, nofun⟩
      exact ave_tup3 (ave_agg2 (k := 3) rfl rfl) rfl rfl
  · rw [if_pos h0]
    refine sound (d := 2) tok2 mixed2 Tryd.func30 (by kernel_rfl) (by kernel_rfl) ?_
    conv => whnf
    refine .inl ⟨_, _, byX rfl (h67), ?_⟩
    conv => whnf
    refine ifB_bne (fun w1 => ?_) (fun w1 => ?_)
    · conv => whnf
      refine ⟨?_, nofun⟩
      exact ave_tup3 (ave_agg2 (k := 3) rfl rfl) rfl rfl
    · (exfalso; omega)
theorem S27 (p : Pln) (hp : FewP p) (s : S2) (f : Int × Bool) : SP 27 [planA p, stA s, ftA f] (homeR p s f) false := by
  have h67 := S67 p hp s f
  unfold homeR
  by_cases h0 : openE p s f = 0
  · rw [if_neg (not_not_intro h0)]
    rw [h0] at h67
    obtain ⟨hg, hs, hf⟩ := open_ok hp h0
    have h79 := S79 p hg f s hs
    cases hx : homeF p f s with
    | none =>
      rw [hx] at h79
      refine sound (d := 2) tok2 mixed2 Tryd.func27 (by kernel_rfl) (by kernel_rfl) ?_
      conv => whnf
      refine .inl ⟨_, _, byX rfl (h67), ?_⟩
      conv => whnf
      refine .inl ⟨_, _, byX rfl (h79), ?_⟩
      conv => whnf
      refine .inl ⟨_, _, byX rfl (Sound1.pl (S69 _ _) rfl), ?_⟩
      conv => whnf
      refine ⟨?_, nofun⟩
      exact ave_tup3 ⟨rfl, rfl, fun _ _ => rfl⟩ rfl rfl
    | some x =>
      rw [hx] at h79
      refine sound (d := 2) tok2 mixed2 Tryd.func27 (by kernel_rfl) (by kernel_rfl) ?_
      conv => whnf
      refine .inl ⟨_, _, byX rfl (h67), ?_⟩
      conv => whnf
      refine .inl ⟨_, _, byX rfl (h79), ?_⟩
      conv => whnf
      refine .inl ⟨_, _, byX rfl (Sound1.pl (S69 _ _) rfl), ?_⟩
      conv => whnf
      refine ⟨?_, nofun⟩
      exact ave_tup3 ⟨rfl, rfl, fun _ _ => rfl⟩ rfl rfl
  · rw [if_pos h0]
    refine sound (d := 2) tok2 mixed2 Tryd.func27 (by kernel_rfl) (by kernel_rfl) ?_
    conv => whnf
    refine .inl ⟨_, _, byX rfl (h67), ?_⟩
    conv => whnf
    refine ifB_bne (fun w1 => ?_) (fun w1 => ?_)
    · conv => whnf
      refine ⟨?_, nofun⟩
      exact ave_tup3 rfl rfl rfl
    · (exfalso; omega)
theorem S45 (p : Pln) (hp : FewP p) (s : S2) (f : Int × Bool) (c : Int) : SP 45 [planA p, stA s, tnA f c] (turnR p s f c) false := by
  have h67 := S67 p hp s f
  unfold turnR
  by_cases h0 : openE p s f = 0
  · rw [h0] at h67
    obtain ⟨hg, hs, hf⟩ := open_ok hp h0
    have h91 := S91 (stp p s) c (by have := hp.exits _ hs.k; show (p.steps.getD s.1.toNat stp0).exits.length ≤ _; omega)
    have h92 := S92 p s f c hs.at
    have hat := hs.at
    have hE : turnE p s f c = if mayB p s c then 0 else 24 := by unfold turnE; rw [if_pos h0]
    rw [hE]
    cases hm : mayB p s c with
    | true =>
      rw [show (decide (c = -1) || (decide ((stp p s).wait = 0) && hasI (stp p s).exits c)) = true from hm] at h91
      refine sound (d := 2) tok2 mixed2 Tryd.func45 (by kernel_rfl) (by kernel_rfl) ?_
      conv => whnf
      refine .inl ⟨_, _, byX rfl (h67), ?_⟩
      conv => whnf
      refine ⟨[], by kernel_rfl, ?_⟩
      conv => whnf
      refine ⟨⟨(by omega), (by omega)⟩, ?_⟩
      conv => whnf
      refine .inl ⟨_, _, byX rfl (Sound1.pl (h91) rfl), ?_⟩
      conv => whnf
      refine .inl ⟨_, _, byX rfl (Sound1.pl (S69 _ _) rfl), ?_⟩
      conv => whnf
      refine .inl ⟨_, _, byX rfl (Sound1.pl (h92) rfl), ?_⟩
      conv => whnf
      refine ⟨?_, nofun⟩
      exact ave_tup3 (ave_agg2 (k := 3) rfl rfl) rfl rfl
    | false =>
      rw [show (decide (c = -1) || (decide ((stp p s).wait = 0) && hasI (stp p s).exits c)) = false from hm] at h91
      refine sound (d := 2) tok2 mixed2 Tryd.func45 (by kernel_rfl) (by kernel_rfl) ?_
      conv => whnf
      refine .inl ⟨_, _, byX rfl (h67), ?_⟩
      conv => whnf
      refine ⟨[], by kernel_rfl, ?_⟩
      conv => whnf
      refine ⟨⟨(by omega), (by omega)⟩, ?_⟩
      conv => whnf
      refine .inl ⟨_, _, byX rfl (Sound1.pl (h91) rfl), ?_⟩
      conv => whnf
      refine .inl ⟨_, _, byX rfl (Sound1.pl (S69 _ _) rfl), ?_⟩
      conv => whnf
      refine ⟨?_, nofun⟩
      exact ave_tup3 (ave_agg2 (k := 3) rfl rfl) rfl rfl
  · have hE : turnE p s f c = openE p s f := by unfold turnE; rw [if_neg h0]
    rw [hE, if_pos h0]
    refine sound (d := 2) tok2 mixed2 Tryd.func45 (by kernel_rfl) (by kernel_rfl) ?_
    conv => whnf
    refine .inl ⟨_, _, byX rfl (h67), ?_⟩
    conv => whnf
    refine ifB_beq (fun w1 => ?_) (fun w1 => ?_)
    · (exfalso; omega)
    · conv => whnf
      refine ifB_bne (fun w2 => ?_) (fun w2 => ?_)
      · conv => whnf
        refine ⟨?_, nofun⟩
        exact ave_tup3 (ave_agg2 (k := 3) rfl rfl) rfl rfl
      · (exfalso; omega)
theorem S23 (a b : List Int) (ha : a.length ≤ 1000000000) (hb : b.length ≤ 1000000000) : SP 23 [ints a, ints b] (vb (decide (a = b))) false := by
  refine sound (d := 2) tok2 mixed2 Tryd.func23 (by kernel_rfl) (by kernel_rfl) ?_
  conv => whnf
  refine ifB_bne (fun w1 => ?_) (fun w1 => ?_)
  · conv => whnf
    refine ⟨?_, nofun⟩
    show vb false = vb _
    rw [decide_eq_false]
    intro e; subst e; exact w1 rfl
  · have hab : a.length = b.length := by omega
    conv => whnf
    refine ⟨[], [0, 1, 5], fun st mq => ∃ (k : Nat), (k ≤ a.length) ∧ (∀ i, i < k → a.getD i 0 = b.getD i 0) ∧ st = ⟨[(0, ints a), (1, ints b), (5, i64 k)], ⟨[], [], none, 0⟩, []⟩ ∧ mq = a.length - k,
      ⟨_, _, ⟨0, by omega, fun i h => absurd h (Nat.not_lt_zero i), rfl, rfl⟩, ⟨⟨.inl rfl, rfl, rfl, rfl⟩, trivial, trivial⟩⟩, ?_⟩
    rintro s0 m0 ⟨k, hk, h1, rfl, hmeas⟩
    conv => whnf
    conv => whnf
    refine ifB_dec (fun w2 => ?_) (fun w2 => ?_)
    · conv => whnf
      conv => whnf
      refine ⟨[], by kernel_rfl, ?_⟩
      conv => whnf
      conv => whnf
      refine ⟨⟨(by omega), (by omega)⟩, ?_⟩
      conv => whnf
      conv => whnf
      refine ⟨⟨(by omega), (by omega)⟩, ?_⟩
      conv => whnf
      conv => whnf
      refine ifB_bne (fun w3 => ?_) (fun w3 => ?_)
      · conv => whnf
        conv => whnf
        refine ⟨?_, nofun⟩
        have e : ¬ a.getD k 0 = b.getD k 0 := w3
        show vb false = vb _
        rw [decide_eq_false]
        intro h; subst h; exact e rfl
      · conv => whnf
        conv => whnf
        refine ⟨inK64 (by omega) (by omega), ?_⟩
        have e : a.getD k 0 = b.getD k 0 := w3
        conv => whnf
        conv => whnf
        refine ⟨_, _, ⟨⟨k + 1, by omega, fun i hi => (by rcases Nat.lt_or_ge i k with h | h; exact h1 i h; rw [show i = k by omega]; exact e), rfl, rfl⟩, by omega⟩, ⟨⟨.inl rfl, rfl, rfl, rfl⟩, trivial, trivial⟩⟩
    · conv => whnf
      conv => whnf
      refine ⟨?_, nofun⟩
      have e : k = a.length := by omega
      subst e
      show vb true = vb _
      rw [decide_eq_true]
      apply List.ext_getElem hab
      intro i h2 h3
      have := h1 i h2
      simpa [List.getD_eq_getElem?_getD, h2, h3] using this
end Go.Tr

/- Contracts of chapter 7: the examples of the chapter. Conditions: none. -/
namespace Go.Tr
open Go Go.Proofs
set_option maxRecDepth 20000
set_option maxHeartbeats 8000000

def bS (l : List UInt8) : ByteArray := ⟨l.toArray⟩
def nOpen : ByteArray := bS [111, 112, 101, 110]
def nSpeed : ByteArray := bS [115, 112, 101, 101, 100]
def nRest : ByteArray := bS [114, 101, 115, 116]
def nStart : ByteArray := bS [115, 116, 97, 114, 116]
def nTurb : ByteArray := bS [116, 117, 114, 98, 105, 110, 101]
def nStop : ByteArray := bS [115, 116, 111, 112]
def nBrake : ByteArray := bS [98, 114, 97, 107, 101]
def plE : Pln := ⟨[nOpen, nSpeed], 0,
  [⟨nRest, true, 0, 0, 0, 1, [1], 0, 0, 0, 0, 0, 0, 0⟩,
   ⟨nStart, false, 0, 3, 60, 0, [], 3, 0, 3, 0, 30, 2, 3⟩,
   ⟨nTurb, false, 2, 3, 0, 3, [3], 0, 0, 0, 0, 0, 0, 0⟩,
   ⟨nStop, false, 0, 3, 40, 0, [], 0, 2, 0, 3, 20, 0, 4⟩,
   ⟨nBrake, false, 0, 4, 90, 0, [], 0, 1, 0, 3, 50, 0, 0⟩]⟩
def haE : Hal := ⟨2, [(2, 1, 0), (3, 0, 1)]⟩
theorem S66 : SP 66 [] (hallA haE) false := by
  refine sound (d := 2) tok2 mixed2 Tryd.func66 (by kernel_rfl) (by kernel_rfl) ?_
  conv => whnf
  refine ⟨?_, nofun⟩
  refine ave_agg2 (k := 4) rfl ⟨rfl, rfl, fun i hi => ?_⟩
  match i, hi with
  | 0, _ => rfl
  | 1, _ => rfl
/-- Lists equal in depth. -/
def AVL (n : Nat) (l l' : List AV) : Prop := l.length = l'.length ∧ ∀ j x y, nth? l j = some x → nth? l' j = some y → x = y ∨ AVF n x y
theorem AVL_nil (n : Nat) : AVL n [] [] := ⟨rfl, fun _ _ _ h => by cases h⟩
theorem AVL_cons {n : Nat} {x y : AV} {l l' : List AV} (h : x = y ∨ AVF n x y) (hl : AVL n l l') : AVL n (x :: l) (y :: l') := by
  refine ⟨congrArg (· + 1) hl.1, fun j a b ha hb => ?_⟩
  match j, ha, hb with
  | 0, ha, hb => cases ha; cases hb; exact h
  | j + 1, ha, hb => exact hl.2 j a b ha hb
theorem AVL_step {n : Nat} {a b c d e f x h i j k l m o : AV} {s : Stp} (hs : stpC s = [a, b, c, d, e, f, ints s.exits, h, i, j, k, l, m, o]) (hx : AVF n x (ints s.exits)) : AVL n [a, b, c, d, e, f, x, h, i, j, k, l, m, o] (stpC s) := by
  rw [hs]
  exact AVL_cons (.inl rfl) (AVL_cons (.inl rfl) (AVL_cons (.inl rfl) (AVL_cons (.inl rfl) (AVL_cons (.inl rfl) (AVL_cons (.inl rfl) (AVL_cons (.inr hx) (AVL_cons (.inl rfl) (AVL_cons (.inl rfl) (AVL_cons (.inl rfl) (AVL_cons (.inl rfl) (AVL_cons (.inl rfl) (AVL_cons (.inl rfl) (AVL_cons (.inl rfl) (AVL_nil n))))))))))))))
theorem ave_pl {a b c d : Nat} {f g : Nat → List AV} {v : Value} : AVE 5 (.agg [.rslice a b f, .val v, .rslice c d g]) (.agg [.rslice a b f, .val v, .rslice c d g]) := ave_agg3 ⟨rfl, rfl, fun _ _ => rfl⟩ rfl ⟨rfl, rfl, fun _ _ => rfl⟩
theorem S65 : SP 65 [] (planA plE) false := by
  have h : ∃ R, SP 65 [] R false ∧ AVF 5 R (planA plE) := by
    refine ⟨?R, ?h1, ?h2⟩
    case h1 =>
      refine sound (d := 2) tok2 mixed2 Tryd.func65 (by kernel_rfl) (by kernel_rfl) ?_
      conv => whnf
      refine ⟨?_, nofun⟩
      exact ave_pl
    case h2 =>
      refine AVL_cons (.inr ⟨rfl, rfl, fun i hi => ?_⟩) (AVL_cons (.inl rfl) (AVL_cons (.inr ⟨rfl, rfl, fun i hi => ?_⟩) (AVL_nil _)))
      · match i, hi with
        | 0, _ => exact AVL_cons (.inl rfl) (AVL_nil _)
        | 1, _ => exact AVL_cons (.inl rfl) (AVL_nil _)
      · match i, hi with
        | 0, _ => exact AVL_step rfl ⟨rfl, rfl, fun i hi => (by match i, hi with | 0, _ => exact AVL_cons (.inl rfl) (AVL_nil _))⟩
        | 1, _ => exact AVL_step rfl rfl
        | 2, _ => exact AVL_step rfl ⟨rfl, rfl, fun i hi => (by match i, hi with | 0, _ => exact AVL_cons (.inl rfl) (AVL_nil _))⟩
        | 3, _ => exact AVL_step rfl rfl
        | 4, _ => exact AVL_step rfl rfl
  obtain ⟨R, h1, h2⟩ := h
  exact h1.resD h2
theorem fewE : FewP plE := by
  refine ⟨by decide, by decide, fun i hi => ?_, fun i hi => ?_, fun i hi => ?_⟩
  · match i, hi with
    | 0, _ => decide
    | 1, _ => decide
  · match i, hi with
    | 0, _ => decide
    | 1, _ => decide
    | 2, _ => decide
    | 3, _ => decide
    | 4, _ => decide
  · match i, hi with
    | 0, _ => decide
    | 1, _ => decide
    | 2, _ => decide
    | 3, _ => decide
    | 4, _ => decide
theorem ex_turn : turnE plE (1, 0) noF (-1) = 0 ∧ turnF plE noF (1, 0) (-1) = ((2, 3), 30) := by decide +kernel
theorem ex_home : openE plE (2, 3) (1, true) = 0 ∧ (homeF plE (1, true) (2, 3)).map (fun x => (x.1.length, x.2)) = some (3, 91) := by decide +kernel
theorem ex_fast : fastE plE (0, 0) 2 = 0 ∧ bestW plE (0, 0) 2 11 = some ([1], 31) := by decide +kernel
theorem ex_hall : openH haE [2, 1] = 0 ∧ brokenF haE [2, 1] = some (0, 0) ∧ openH haE [0, 0] = 0 ∧ brokenF haE [0, 0] = none := by decide +kernel
theorem S35_2 (h : Hal) (hr : h.rules.length ≤ 1000) (a b : Int) {f : Nat → List AV} (hf : f 0 = [i64 a] ∧ f 1 = [i64 b]) : SP 35 [hallA h, .rslice 1 2 f] (brokenR h [a, b]) false := by
  have key : ∀ i, i < 2 → f i = [i64 (([a, b] : List Int).getD i 0)] := fun i hi => by
    match i, hi with
    | 0, _ => exact hf.1
    | 1, _ => exact hf.2
  refine (S35 h hr [a, b] (by simp)).argsD rfl fun i y x hy hx => ?_
  match i, hy, hx with
  | 0, hy, hx => cases hy; cases hx; exact .inl rfl
  | 1, hy, hx => cases hy; cases hx; exact .inr ⟨1, AVF_rows rfl key 0⟩
theorem S23_1 (l : List Int) (hl : l.length ≤ 1000000) (a : Int) {f : Nat → List AV} (hf : f 0 = [i64 a]) : SP 23 [ints l, .rslice 1 1 f] (vb (decide (l = [a]))) false := by
  have key : ∀ i, i < 1 → f i = [i64 (([a] : List Int).getD i 0)] := fun i hi => by
    match i, hi with
    | 0, _ => exact hf
  refine (S23 l [a] (by omega) (by simp)).argsD rfl fun i y x hy hx => ?_
  match i, hy, hx with
  | 0, hy, hx => cases hy; cases hx; exact .inl rfl
  | 1, hy, hx => cases hy; cases hx; exact .inr ⟨1, AVF_rows rfl key 0⟩
theorem S13 : SP 13 [] (vb true) false := by
  have h45 := S45 plE fewE (1, 0) noF (-1)
  have h27 := S27 plE fewE (2, 3) (1, true)
  have h17 := S17 plE fewE (0, 0) 2
  have h35a := @S35_2 haE (by decide) 2 1
  have h35b := @S35_2 haE (by decide) 0 0
  have h23 := @S23_1 [1] (by decide) 1
  have e1 : turnR plE (1, 0) noF (-1) = .tuple [stA (2, 3), i64 30, i64 0] := by unfold turnR; rw [ex_turn.1, ex_turn.2]; rfl
  have e2 : fastR plE (0, 0) 2 = .tuple [ints [1], i64 31, i64 0] := by unfold fastR; rw [ex_fast.1, ex_fast.2]; rfl
  have e3 : brokenR haE [2, 1] = .tuple [stA (0, 0), i64 0] := by unfold brokenR; rw [ex_hall.1, ex_hall.2.1]; rfl
  have e4 : brokenR haE [0, 0] = .tuple [stA (0, 0), i64 12] := by unfold brokenR; rw [ex_hall.2.2.1, ex_hall.2.2.2]; rfl
  obtain ⟨l, hl, e5⟩ : ∃ l : List S2, l.length = 3 ∧ homeR plE (2, 3) (1, true) = .tuple [sts l, i64 91, i64 0] := by
    obtain ⟨x, h1, h2⟩ := Option.map_eq_some_iff.1 ex_home.2
    refine ⟨x.1, congrArg Prod.fst h2, ?_⟩
    unfold homeR
    rw [ex_home.1, h1, if_neg (not_not_intro rfl)]
    show AV.tuple [sts x.1, i64 x.2, i64 0] = _
    rw [show x.2 = 91 from congrArg Prod.snd h2]
  rw [e1] at h45
  rw [e2] at h17
  rw [e5] at h27
  rw [e3] at h35a
  rw [e4] at h35b
  refine sound (d := 2) tok2 mixed2 Tryd.func13 (by kernel_rfl) (by kernel_rfl) ?_
  conv => whnf
  refine .inl ⟨_, _, byX rfl (S65), ?_⟩
  conv => whnf
  refine .inl ⟨_, _, byX rfl (Sound1.pl (S20) rfl), ?_⟩
  conv => whnf
  refine .inl ⟨_, _, byX rfl (Sound1.pl (h45) rfl), ?_⟩
  conv => whnf
  refine .inl ⟨_, _, byX rfl (S65), ?_⟩
  conv => whnf
  refine .inl ⟨_, _, byX rfl (h27), ?_⟩
  conv => whnf
  refine .inl ⟨_, _, byX rfl (S65), ?_⟩
  conv => whnf
  refine .inl ⟨_, _, byX rfl (h17), ?_⟩
  conv => whnf
  refine .inl ⟨_, _, byX rfl (S66), ?_⟩
  conv => whnf
  refine .inl ⟨_, _, byX rfl (Sound1.pl (h35a ⟨rfl, rfl⟩) rfl), ?_⟩
  conv => whnf
  refine .inl ⟨_, _, byX rfl (S66), ?_⟩
  conv => whnf
  refine .inl ⟨_, _, byX rfl (Sound1.pl (h35b ⟨rfl, rfl⟩) rfl), ?_⟩
  conv => whnf
  refine ifB_beq (fun w1 => ?_) (fun w1 => ?_)
  · conv => whnf
    refine .inl ⟨_, _, byX rfl (Sound1.pl (h23 rfl) rfl), ?_⟩
    conv => whnf
    refine ⟨?_, nofun⟩
    rfl
  · (exfalso; omega)
end Go.Tr

/- Data of chapter 7 that the ends share. Conditions: none. -/
namespace Go.Tr
open Go Go.Proofs
abbrev entsA (L : List (Int × Int)) : AV := .rslice 2 L.length fun i => [i64 (L.getD i (0, 0)).1, i64 (L.getD i (0, 0)).2]
end Go.Tr

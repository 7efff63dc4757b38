/- Contracts of chapter 7: what the package's functions answer. Conditions: none. -/
import Derived.Test.YtflgajlngiojbaaDoorTr09
set_option linter.unusedSectionVars false
set_option linter.unnecessarySimpa false
set_option linter.unusedVariables false
set_option linter.unusedSimpArgs false

namespace Go.Tr
open Go Go.Proofs
set_option maxRecDepth 20000
set_option maxHeartbeats 8000000

abbrev tnA (f : Int × Bool) (c : Int) : AV := .agg [i64 f.1, vb f.2, i64 c]
def mayB (p : Pln) (s : S2) (c : Int) : Bool := decide (c = -1) || (decide ((stp p s).wait = 0) && hasI (stp p s).exits c)
def turnE (p : Pln) (s : S2) (f : Int × Bool) (c : Int) : Int := if openE p s f = 0 then (if mayB p s c then 0 else 24) else openE p s f
def turnR (p : Pln) (s : S2) (f : Int × Bool) (c : Int) : AV :=
  if turnE p s f c ≠ 0 then .tuple [stA (0, 0), i64 0, i64 (turnE p s f c)] else .tuple [stA (turnF p f s c).1, i64 (turnF p f s c).2, i64 0]
def homeR (p : Pln) (s : S2) (f : Int × Bool) : AV :=
  if openE p s f ≠ 0 then .tuple [sts [], i64 0, i64 (openE p s f)] else match homeF p f s with | none => .tuple [sts [], i64 0, i64 12] | some x => .tuple [sts x.1, i64 x.2, i64 0]
def htR (p : Pln) (s : S2) (f : Int × Bool) : AV :=
  if openE p s f ≠ 0 then .tuple [stA (0, 0), i64 0, i64 (openE p s f)] else match homeTurnF p f s with | none => .tuple [stA (0, 0), i64 0, i64 21] | some x => .tuple [stA x.1, i64 x.2, i64 0]
def seenR (p : Pln) (s : S2) (f : Int × Bool) : AV := if openE p s f ≠ 0 then t2 0 (openE p s f) else t2 (seenB s.2 f) 0
theorem S44 (p : Pln) (hp : FewP p) (s : S2) (f : Int × Bool) : SP 44 [planA p, stA s, ftA f] (seenR p s f) false := by
  have h67 := S67 p hp s f
  have h90 := S90 s.2 f
  unfold seenR
  refine sound (d := 2) tok2 mixed2 Tryd.func44 (by kernel_rfl) (by kernel_rfl) ?_
  conv => whnf
  refine .inl ⟨_, _, byX rfl (h67), ?_⟩
  conv => whnf
  refine ifB_bne (fun w1 => ?_) (fun w1 => ?_)
  · conv => whnf
    refine ⟨?_, nofun⟩
    rw [if_pos w1]; exact ave_tup2 rfl rfl
  · conv => whnf
    refine .inl ⟨_, _, byX rfl (Sound1.pl (h90) rfl), ?_⟩
    conv => whnf
    refine ⟨?_, nofun⟩
    rw [if_neg (not_not_intro w1)]; exact ave_tup2 rfl rfl
theorem S30 (p : Pln) (hp : FewP p) (s : S2) (f : Int × Bool) : SP 30 [planA p, stA s, ftA f] (htR p s f) false := by
  have h67 := S67 p hp s f
  unfold htR
  by_cases h0 : openE p s f = 0
  · rw [if_neg (not_not_intro h0)]
    rw [h0] at h67
    obtain ⟨hg, hs, hf⟩ := open_ok hp h0
    have h81 := S81 p s f hs.at
    cases hx : homeTurnF p f s with
    | none =>
      rw [hx] at h81
      refine sound (d := 2) tok2 mixed2 Tryd.func30 (by kernel_rfl) (by kernel_rfl) ?_
      conv => whnf
      refine .inl ⟨_, _, byX rfl (h67), ?_⟩
      conv => whnf
      refine .inl ⟨_, _, byX rfl (Sound1.pl (h81) rfl), ?_⟩
      conv => whnf
      refine ⟨[], by kernel_rfl, ?_⟩
      conv => whnf
      refine .inl ⟨_, _, byX rfl (Sound1.pl (S69 _ _) rfl), ?_⟩
      conv => whnf
      refine ⟨?_, nofun⟩
      exact ave_tup3 (ave_agg2 (k := 3) rfl rfl) rfl rfl
    | some x =>
      rw [hx] at h81
      refine sound (d := 2) tok2 mixed2 Tryd.func30 (by kernel_rfl) (by kernel_rfl) ?_
      conv => whnf
      refine .inl ⟨_, _, byX rfl (h67), ?_⟩
      conv => whnf
      refine .inl ⟨_, _, byX rfl (Sound1.pl (h81) rfl), ?_⟩
      conv => whnf
      refine ⟨[], by kernel_rfl, ?_⟩
      conv => whnf
      refine .inl ⟨_, _, byX rfl (Sound1.pl (S69 _ _) rfl), ?_⟩
      conv => whnf
      refine ⟨?_, nofun⟩
      exact ave_tup3 (ave_agg2 (k := 3) rfl rfl) rfl rfl
  · rw [if_pos h0]
    refine sound (d := 2) tok2 mixed2 Tryd.func30 (by kernel_rfl) (by kernel_rfl) ?_
    conv => whnf
    refine .inl ⟨_, _, byX rfl (h67), ?_⟩
    conv => whnf
    refine ifB_bne (fun w1 => ?_) (fun w1 => ?_)
    · conv => whnf
      refine ⟨?_, nofun⟩
      exact ave_tup3 (ave_agg2 (k := 3) rfl rfl) rfl rfl
    · (exfalso; omega)
theorem S27 (p : Pln) (hp : FewP p) (s : S2) (f : Int × Bool) : SP 27 [planA p, stA s, ftA f] (homeR p s f) false := by
  have h67 := S67 p hp s f
  unfold homeR
  by_cases h0 : openE p s f = 0
  · rw [if_neg (not_not_intro h0)]
    rw [h0] at h67
    obtain ⟨hg, hs, hf⟩ := open_ok hp h0
    have h79 := S79 p hg f s hs
    cases hx : homeF p f s with
    | none =>
      rw [hx] at h79
      refine sound (d := 2) tok2 mixed2 Tryd.func27 (by kernel_rfl) (by kernel_rfl) ?_
      conv => whnf
      refine .inl ⟨_, _, byX rfl (h67), ?_⟩
      conv => whnf
      refine .inl ⟨_, _, byX rfl (h79), ?_⟩
      conv => whnf
      refine .inl ⟨_, _, byX rfl (Sound1.pl (S69 _ _) rfl), ?_⟩
      conv => whnf
      refine ⟨?_, nofun⟩
      exact ave_tup3 ⟨rfl, rfl, fun _ _ => rfl⟩ rfl rfl
    | some x =>
      rw [hx] at h79
      refine sound (d := 2) tok2 mixed2 Tryd.func27 (by kernel_rfl) (by kernel_rfl) ?_
      conv => whnf
      refine .inl ⟨_, _, byX rfl (h67), ?_⟩
      conv => whnf
      refine .inl ⟨_, _, byX rfl (h79), ?_⟩
      conv => whnf
      refine .inl ⟨_, _, byX rfl (Sound1.pl (S69 _ _) rfl), ?_⟩
      conv => whnf
      refine ⟨?_, nofun⟩
      exact ave_tup3 ⟨rfl, rfl, fun _ _ => rfl⟩ rfl rfl
  · rw [if_pos h0]
    refine sound (d := 2) tok2 mixed2 Tryd.func27 (by kernel_rfl) (by kernel_rfl) ?_
    conv => whnf
    refine .inl ⟨_, _, byX rfl (h67), ?_⟩
    conv => whnf
    refine ifB_bne (fun w1 => ?_) (fun w1 => ?_)
    · conv => whnf
      refine ⟨?_, nofun⟩
      exact ave_tup3 rfl rfl rfl
    · (exfalso; omega)
theorem S45 (p : Pln) (hp : FewP p) (s : S2) (f : Int × Bool) (c : Int) : SP 45 [planA p, stA s, tnA f c] (turnR p s f c) false := by
  have h67 := S67 p hp s f
  unfold turnR
  by_cases h0 : openE p s f = 0
  · rw [h0] at h67
    obtain ⟨hg, hs, hf⟩ := open_ok hp h0
    have h91 := S91 (stp p s) c (by have := hp.exits _ hs.k; show (p.steps.getD s.1.toNat stp0).exits.length ≤ _; omega)
    have h92 := S92 p s f c hs.at
    have hat := hs.at
    have hE : turnE p s f c = if mayB p s c then 0 else 24 := by unfold turnE; rw [if_pos h0]
    rw [hE]
    cases hm : mayB p s c with
    | true =>
      rw [show (decide (c = -1) || (decide ((stp p s).wait = 0) && hasI (stp p s).exits c)) = true from hm] at h91
      refine sound (d := 2) tok2 mixed2 Tryd.func45 (by kernel_rfl) (by kernel_rfl) ?_
      conv => whnf
      refine .inl ⟨_, _, byX rfl (h67), ?_⟩
      conv => whnf
      refine ⟨[], by kernel_rfl, ?_⟩
      conv => whnf
      refine ⟨⟨(by omega), (by omega)⟩, ?_⟩
      conv => whnf
      refine .inl ⟨_, _, byX rfl (Sound1.pl (h91) rfl), ?_⟩
      conv => whnf
      refine .inl ⟨_, _, byX rfl (Sound1.pl (S69 _ _) rfl), ?_⟩
      conv => whnf
      refine .inl ⟨_, _, byX rfl (Sound1.pl (h92) rfl), ?_⟩
      conv => whnf
      refine ⟨?_, nofun⟩
      exact ave_tup3 (ave_agg2 (k := 3) rfl rfl) rfl rfl
    | false =>
      rw [show (decide (c = -1) || (decide ((stp p s).wait = 0) && hasI (stp p s).exits c)) = false from hm] at h91
      refine sound (d := 2) tok2 mixed2 Tryd.func45 (by kernel_rfl) (by kernel_rfl) ?_
      conv => whnf
      refine .inl ⟨_, _, byX rfl (h67), ?_⟩
      conv => whnf
      refine ⟨[], by kernel_rfl, ?_⟩
      conv => whnf
      refine ⟨⟨(by omega), (by omega)⟩, ?_⟩
      conv => whnf
      refine .inl ⟨_, _, byX rfl (Sound1.pl (h91) rfl), ?_⟩
      conv => whnf
      refine .inl ⟨_, _, byX rfl (Sound1.pl (S69 _ _) rfl), ?_⟩
      conv => whnf
      refine ⟨?_, nofun⟩
      exact ave_tup3 (ave_agg2 (k := 3) rfl rfl) rfl rfl
  · have hE : turnE p s f c = openE p s f := by unfold turnE; rw [if_neg h0]
    rw [hE, if_pos h0]
    refine sound (d := 2) tok2 mixed2 Tryd.func45 (by kernel_rfl) (by kernel_rfl) ?_
    conv => whnf
    refine .inl ⟨_, _, byX rfl (h67), ?_⟩
    conv => whnf
    refine ifB_beq (fun w1 => ?_) (fun w1 => ?_)
    · (exfalso; omega)
    · conv => whnf
      refine ifB_bne (fun w2 => ?_) (fun w2 => ?_)
      · conv => whnf
        refine ⟨?_, nofun⟩
        exact ave_tup3 (ave_agg2 (k := 3) rfl rfl) rfl rfl
      · (exfalso; omega)
theorem S23 (a b : List Int) (ha : a.length ≤ 1000000000) (hb : b.length ≤ 1000000000) : SP 23 [ints a, ints b] (vb (decide (a = b))) false := by
  refine sound (d := 2) tok2 mixed2 Tryd.func23 (by kernel_rfl) (by kernel_rfl) ?_
  conv => whnf
  refine ifB_bne (fun w1 => ?_) (fun w1 => ?_)
  · conv => whnf
    refine ⟨?_, nofun⟩
    show vb false = vb _
    rw [decide_eq_false]
    intro e; subst e; exact w1 rfl
  · have hab : a.length = b.length := by omega
    conv => whnf
    refine ⟨[], [0, 1, 5], fun st mq => ∃ (k : Nat), (k ≤ a.length) ∧ (∀ i, i < k → a.getD i 0 = b.getD i 0) ∧ st = ⟨[(0, ints a), (1, ints b), (5, i64 k)], ⟨[], [], none, 0⟩, []⟩ ∧ mq = a.length - k,
      ⟨_, _, ⟨0, by omega, fun i h => absurd h (Nat.not_lt_zero i), rfl, rfl⟩, ⟨⟨.inl rfl, rfl, rfl, rfl⟩, trivial, trivial⟩⟩, ?_⟩
    rintro s0 m0 ⟨k, hk, h1, rfl, hmeas⟩
    conv => whnf
    conv => whnf
    refine ifB_dec (fun w2 => ?_) (fun w2 => ?_)
    · conv => whnf
      conv => whnf
      refine ⟨[], by kernel_rfl, ?_⟩
      conv => whnf
      conv => whnf
      refine ⟨⟨(by omega), (by omega)⟩, ?_⟩
      conv => whnf
      conv => whnf
      refine ⟨⟨(by omega), (by omega)⟩, ?_⟩
      conv => whnf
      conv => whnf
      refine ifB_bne (fun w3 => ?_) (fun w3 => ?_)
      · conv => whnf
        conv => whnf
        refine ⟨?_, nofun⟩
        have e : ¬ a.getD k 0 = b.getD k 0 := w3
        show vb false = vb _
        rw [decide_eq_false]
        intro h; subst h; exact e rfl
      · conv => whnf
        conv => whnf
        refine ⟨inK64 (by omega) (by omega), ?_⟩
        have e : a.getD k 0 = b.getD k 0 := w3
        conv => whnf
        conv => whnf
        refine ⟨_, _, ⟨⟨k + 1, by omega, fun i hi => (by rcases Nat.lt_or_ge i k with h | h; exact h1 i h; rw [show i = k by omega]; exact e), rfl, rfl⟩, by omega⟩, ⟨⟨.inl rfl, rfl, rfl, rfl⟩, trivial, trivial⟩⟩
    · conv => whnf
      conv => whnf
      refine ⟨?_, nofun⟩
      have e : k = a.length := by omega
      subst e
      show vb true = vb _
      rw [decide_eq_true]
      apply List.ext_getElem hab
      intro i h2 h3
      have := h1 i h2
      simpa [List.getD_eq_getElem?_getD, h2, h3] using this
end Go.Tr

/- Contracts of chapter 7: the examples of the chapter. Conditions: none. -/
namespace Go.Tr
open Go Go.Proofs
set_option maxRecDepth 20000
set_option maxHeartbeats 8000000

def bS (l : List UInt8) : ByteArray := ⟨l.toArray⟩
def nOpen : ByteArray := bS [111, 112, 101, 110]
def nSpeed : ByteArray := bS [115, 112, 101, 101, 100]
def nRest : ByteArray := bS [114, 101, 115, 116]
def nStart : ByteArray := bS [115, 116, 97, 114, 116]
def nTurb : ByteArray := bS [116, 117, 114, 98, 105, 110, 101]
def nStop : ByteArray := bS [115, 116, 111, 112]
def nBrake : ByteArray := bS [98, 114, 97, 107, 101]
def plE : Pln := ⟨[nOpen, nSpeed], 0,
  [⟨nRest, true, 0, 0, 0, 1, [1], 0, 0, 0, 0, 0, 0, 0⟩,
   ⟨nStart, false, 0, 3, 60, 0, [], 3, 0, 3, 0, 30, 2, 3⟩,
   ⟨nTurb, false, 2, 3, 0, 3, [3], 0, 0, 0, 0, 0, 0, 0⟩,
   ⟨nStop, false, 0, 3, 40, 0, [], 0, 2, 0, 3, 20, 0, 4⟩,
   ⟨nBrake, false, 0, 4, 90, 0, [], 0, 1, 0, 3, 50, 0, 0⟩]⟩
def haE : Hal := ⟨2, [(2, 1, 0), (3, 0, 1)]⟩
theorem S66 : SP 66 [] (hallA haE) false := by
  refine sound (d := 2) tok2 mixed2 Tryd.func66 (by kernel_rfl) (by kernel_rfl) ?_
  conv => whnf
  refine ⟨?_, nofun⟩
  refine ave_agg2 (k := 4) rfl ⟨rfl, rfl, fun i hi => ?_⟩
  match i, hi with
  | 0, _ => rfl
  | 1, _ => rfl
/-- Lists equal in depth. -/
def AVL (n : Nat) (l l' : List AV) : Prop := l.length = l'.length ∧ ∀ j x y, nth? l j = some x → nth? l' j = some y → x = y ∨ AVF n x y
theorem AVL_nil (n : Nat) : AVL n [] [] := ⟨rfl, fun _ _ _ h => by cases h⟩
theorem AVL_cons {n : Nat} {x y : AV} {l l' : List AV} (h : x = y ∨ AVF n x y) (hl : AVL n l l') : AVL n (x :: l) (y :: l') := by
  refine ⟨congrArg (· + 1) hl.1, fun j a b ha hb => ?_⟩
  match j, ha, hb with
  | 0, ha, hb => cases ha; cases hb; exact h
  | j + 1, ha, hb => exact hl.2 j a b ha hb
theorem AVL_step {n : Nat} {a b c d e f x h i j k l m o : AV} {s : Stp} (hs : stpC s = [a, b, c, d, e, f, ints s.exits, h, i, j, k, l, m, o]) (hx : AVF n x (ints s.exits)) : AVL n [a, b, c, d, e, f, x, h, i, j, k, l, m, o] (stpC s) := by
  rw [hs]
  exact AVL_cons (.inl rfl) (AVL_cons (.inl rfl) (AVL_cons (.inl rfl) (AVL_cons (.inl rfl) (AVL_cons (.inl rfl) (AVL_cons (.inl rfl) (AVL_cons (.inr hx) (AVL_cons (.inl rfl) (AVL_cons (.inl rfl) (AVL_cons (.inl rfl) (AVL_cons (.inl rfl) (AVL_cons (.inl rfl) (AVL_cons (.inl rfl) (AVL_cons (.inl rfl) (AVL_nil n))))))))))))))
theorem ave_pl {a b c d : Nat} {f g : Nat → List AV} {v : Value} : AVE 5 (.agg [.rslice a b f, .val v, .rslice c d g]) (.agg [.rslice a b f, .val v, .rslice c d g]) := ave_agg3 ⟨rfl, rfl, fun _ _ => rfl⟩ rfl ⟨rfl, rfl, fun _ _ => rfl⟩
theorem S65 : SP 65 [] (planA plE) false := by
  have h : ∃ R, SP 65 [] R false ∧ AVF 5 R (planA plE) := by
    refine ⟨?R, ?h1, ?h2⟩
    case h1 =>
      refine sound (d := 2) tok2 mixed2 Tryd.func65 (by kernel_rfl) (by kernel_rfl) ?_
      conv => whnf
      refine ⟨?_, nofun⟩
      exact ave_pl
    case h2 =>
      refine AVL_cons (.inr ⟨rfl, rfl, fun i hi => ?_⟩) (AVL_cons (.inl rfl) (AVL_cons (.inr ⟨rfl, rfl, fun i hi => ?_⟩) (AVL_nil _)))
      · match i, hi with
        | 0, _ => exact AVL_cons (.inl rfl) (AVL_nil _)
        | 1, _ => exact AVL_cons (.inl rfl) (AVL_nil _)
      · match i, hi with
        | 0, _ => exact AVL_step rfl ⟨rfl, rfl, fun i hi => (by match i, hi with | 0, _ => exact AVL_cons (.inl rfl) (AVL_nil _))⟩
        | 1, _ => exact AVL_step rfl rfl
        | 2, _ => exact AVL_step rfl ⟨rfl, rfl, fun i hi => (by match i, hi with | 0, _ => exact AVL_cons (.inl rfl) (AVL_nil _))⟩
        | 3, _ => exact AVL_step rfl rfl
        | 4, _ => exact AVL_step rfl rfl
  obtain ⟨R, h1, h2⟩ := h
  exact h1.resD h2
theorem fewE : FewP plE := by
  refine ⟨by decide, by decide, fun i hi => ?_, fun i hi => ?_, fun i hi => ?_⟩
  · match i, hi with
    | 0, _ => decide
    | 1, _ => decide
  · match i, hi with
    | 0, _ => decide
    | 1, _ => decide
    | 2, _ => decide
    | 3, _ => decide
    | 4, _ => decide
  · match i, hi with
    | 0, _ => decide
    | 1, _ => decide
    | 2, _ => decide
    | 3, _ => decide
    | 4, _ => decide
theorem ex_turn : turnE plE (1, 0) noF (-1) = 0 ∧ turnF plE noF (1, 0) (-1) = ((2, 3), 30) := by decide +kernel
theorem ex_home : openE plE (2, 3) (1, true) = 0 ∧ (homeF plE (1, true) (2, 3)).map (fun x => (x.1.length, x.2)) = some (3, 91) := by decide +kernel
theorem ex_fast : fastE plE (0, 0) 2 = 0 ∧ bestW plE (0, 0) 2 11 = some ([1], 31) := by decide +kernel
theorem ex_hall : openH haE [2, 1] = 0 ∧ brokenF haE [2, 1] = some (0, 0) ∧ openH haE [0, 0] = 0 ∧ brokenF haE [0, 0] = none := by decide +kernel
theorem S35_2 (h : Hal) (hr : h.rules.length ≤ 1000) (a b : Int) {f : Nat → List AV} (hf : f 0 = [i64 a] ∧ f 1 = [i64 b]) : SP 35 [hallA h, .rslice 1 2 f] (brokenR h [a, b]) false := by
  have key : ∀ i, i < 2 → f i = [i64 (([a, b] : List Int).getD i 0)] := fun i hi => by
    match i, hi with
    | 0, _ => exact hf.1
    | 1, _ => exact hf.2
  refine (S35 h hr [a, b] (by simp)).argsD rfl fun i y x hy hx => ?_
  match i, hy, hx with
  | 0, hy, hx => cases hy; cases hx; exact .inl rfl
  | 1, hy, hx => cases hy; cases hx; exact .inr ⟨1, AVF_rows rfl key 0⟩
theorem S23_1 (l : List Int) (hl : l.length ≤ 1000000) (a : Int) {f : Nat → List AV} (hf : f 0 = [i64 a]) : SP 23 [ints l, .rslice 1 1 f] (vb (decide (l = [a]))) false := by
  have key : ∀ i, i < 1 → f i = [i64 (([a] : List Int).getD i 0)] := fun i hi => by
    match i, hi with
    | 0, _ => exact hf
  refine (S23 l [a] (by omega) (by simp)).argsD rfl fun i y x hy hx => ?_
  match i, hy, hx with
  | 0, hy, hx => cases hy; cases hx; exact .inl rfl
  | 1, hy, hx => cases hy; cases hx; exact .inr ⟨1, AVF_rows rfl key 0⟩
theorem S13 : SP 13 [] (vb true) false := by
  have h45 := S45 plE fewE (1, 0) noF (-1)
  have h27 := S27 plE fewE (2, 3) (1, true)
  have h17 := S17 plE fewE (0, 0) 2
  have h35a := @S35_2 haE (by decide) 2 1
  have h35b := @S35_2 haE (by decide) 0 0
  have h23 := @S23_1 [1] (by decide) 1
  have e1 : turnR plE (1, 0) noF (-1) = .tuple [stA (2, 3), i64 30, i64 0] := by unfold turnR; rw [ex_turn.1, ex_turn.2]; rfl
  have e2 : fastR plE (0, 0) 2 = .tuple [ints [1], i64 31, i64 0] := by unfold fastR; rw [ex_fast.1, ex_fast.2]; rfl
  have e3 : brokenR haE [2, 1] = .tuple [stA (0, 0), i64 0] := by unfold brokenR; rw [ex_hall.1, ex_hall.2.1]; rfl
  have e4 : brokenR haE [0, 0] = .tuple [stA (0, 0), i64 12] := by unfold brokenR; rw [ex_hall.2.2.1, ex_hall.2.2.2]; rfl
  obtain ⟨l, hl, e5⟩ : ∃ l : List S2, l.length = 3 ∧ homeR plE (2, 3) (1, true) = .tuple [sts l, i64 91, i64 0] := by
    obtain ⟨x, h1, h2⟩ := Option.map_eq_some_iff.1 ex_home.2
    refine ⟨x.1, congrArg Prod.fst h2, ?_⟩
    unfold homeR
    rw [ex_home.1, h1, if_neg (not_not_intro rfl)]
    show AV.tuple [sts x.1, i64 x.2, i64 0] = _
    rw [show x.2 = 91 from congrArg Prod.snd h2]
  rw [e1] at h45
  rw [e2] at h17
  rw [e5] at h27
  rw [e3] at h35a
  rw [e4] at h35b
  refine sound (d := 2) tok2 mixed2 Tryd.func13 (by kernel_rfl) (by kernel_rfl) ?_
  conv => whnf
  refine .inl ⟨_, _, byX rfl (S65), ?_⟩
  conv => whnf
  refine .inl ⟨_, _, byX rfl (Sound1.pl (S20) rfl), ?_⟩
  conv => whnf
  refine .inl ⟨_, _, byX rfl (Sound1.pl (h45) rfl), ?_⟩
  conv => whnf
  refine .inl ⟨_, _, byX rfl (S65), ?_⟩
  conv => whnf
  refine .inl ⟨_, _, byX rfl (h27), ?_⟩
  conv => whnf
  refine .inl ⟨_, _, byX rfl (S65), ?_⟩
  conv => whnf
  refine .inl ⟨_, _, byX rfl (h17), ?_⟩
  conv => whnf
  refine .inl ⟨_, _, byX rfl (S66), ?_⟩
  conv => whnf
  refine .inl ⟨_, _, byX rfl (Sound1.pl (h35a ⟨rfl, rfl⟩) rfl), ?_⟩
  conv => whnf
  refine .inl ⟨_, _, byX rfl (S66), ?_⟩
  conv => whnf
  refine .inl ⟨_, _, byX rfl (Sound1.pl (h35b ⟨rfl, rfl⟩) rfl), ?_⟩
  conv => whnf
  refine ifB_beq (fun w1 => ?_) (fun w1 => ?_)
  · conv => whnf
    refine .inl ⟨_, _, byX rfl (Sound1.pl (h23 rfl) rfl), ?_⟩
    conv => whnf
    refine ⟨?_, nofun⟩
    rfl
  · (exfalso; omega)
end Go.Tr

/- Data of chapter 7 that the ends share. Conditions: none. -/
namespace Go.Tr
open Go Go.Proofs
abbrev entsA (L : List (Int × Int)) : AV := .rslice 2 L.length fun i => [i64 (L.getD i (0, 0)).1, i64 (L.getD i (0, 0)).2]
end Go.Tr

/- Contracts of chapter 7: few plans, copies. Conditions: none. -/
namespace Go.Tr
open Go Go.Proofs
set_option maxRecDepth 20000
set_option maxHeartbeats 8000000

def fewSt (s : Stp) : Bool := decide (s.name.size ≤ 30) && decide (s.exits.length ≤ 12)
def fewB (p : Pln) : Bool := decide (p.sig.length ≤ 7) && decide (p.steps.length ≤ 12) && (p.sig.all fun s => decide (s.size ≤ 30)) && p.steps.all fewSt
theorem FewP.of {p : Pln} (h : fewB p = true) : FewP p := by
  unfold fewB at h
  rw [Bool.and_eq_true, Bool.and_eq_true, Bool.and_eq_true, decide_eq_true_iff, decide_eq_true_iff, List.all_eq_true, List.all_eq_true] at h
  obtain ⟨⟨⟨h1, h2⟩, h3⟩, h4⟩ := h
  refine ⟨h1, h2, fun i hi => ?_, fun i hi => ?_, fun i hi => ?_⟩
  · have := h3 (p.sig.getD i ByteArray.empty) (by simp [List.getD_eq_getElem?_getD, hi])
    exact of_decide_eq_true this
  · have := h4 (p.steps.getD i stp0) (by simp [List.getD_eq_getElem?_getD, hi])
    unfold fewSt at this
    rw [Bool.and_eq_true, decide_eq_true_iff, decide_eq_true_iff] at this
    exact this.1
  · have := h4 (p.steps.getD i stp0) (by simp [List.getD_eq_getElem?_getD, hi])
    unfold fewSt at this
    rw [Bool.and_eq_true, decide_eq_true_iff, decide_eq_true_iff] at this
    exact this.2
theorem few_n1 {p : Pln} (h : ¬ p.sig.length ≤ 7) : fewB p = false := by
  unfold fewB
  rw [decide_eq_false h]; rfl
theorem few_n2 {p : Pln} (h : ¬ p.steps.length ≤ 12) : fewB p = false := by
  unfold fewB
  rw [decide_eq_false h, Bool.and_false]; rfl
theorem few_n3 {p : Pln} {k : Nat} (hk : k < p.sig.length) (h : ¬ (p.sig.getD k ByteArray.empty).size ≤ 30) : fewB p = false := by
  cases hf : fewB p with
  | false => rfl
  | true => exact absurd ((FewP.of hf).size k hk) h
theorem few_n4 {p : Pln} {k : Nat} (hk : k < p.steps.length) (h : ¬ ((p.steps.getD k stp0).name.size ≤ 30 ∧ (p.steps.getD k stp0).exits.length ≤ 12)) : fewB p = false := by
  cases hf : fewB p with
  | false => rfl
  | true => exact absurd ⟨(FewP.of hf).name k hk, (FewP.of hf).exits k hk⟩ h
theorem few_y {p : Pln} (h1 : p.sig.length ≤ 7) (h2 : p.steps.length ≤ 12) (h3 : ∀ i, i < p.sig.length → (p.sig.getD i ByteArray.empty).size ≤ 30) (h4 : ∀ i, i < p.steps.length → (p.steps.getD i stp0).name.size ≤ 30 ∧ (p.steps.getD i stp0).exits.length ≤ 12) : fewB p = true := by
  unfold fewB
  rw [decide_eq_true h1, decide_eq_true h2, Bool.true_and, Bool.true_and, Bool.and_eq_true, List.all_eq_true, List.all_eq_true]
  refine ⟨fun s hs => ?_, fun s hs => ?_⟩
  · obtain ⟨i, hi, rfl⟩ := List.getElem_of_mem hs
    have := h3 i hi
    exact decide_eq_true (by simpa [List.getD_eq_getElem?_getD, hi] using this)
  · obtain ⟨i, hi, rfl⟩ := List.getElem_of_mem hs
    have := h4 i hi
    unfold fewSt
    rw [Bool.and_eq_true, decide_eq_true_iff, decide_eq_true_iff]
    simpa [List.getD_eq_getElem?_getD, hi] using this
theorem S14 (p : Pln) (hl : p.sig.length ≤ 9223372036854775807 ∧ p.steps.length ≤ 9223372036854775807) : SP 14 [planA p] (vb (fewB p)) false := by
  refine sound (d := 2) tok2 mixed2 Tryd.func14 (by kernel_rfl) (by kernel_rfl) ?_
  conv => whnf
  refine ifB_dec (fun w1 => ?_) (fun w1 => ?_)
  · conv => whnf
    refine ⟨?_, nofun⟩
    exact endb (few_n1 (by omega)).symm
  · conv => whnf
    refine ifB_dec (fun w2 => ?_) (fun w2 => ?_)
    · conv => whnf
      refine ⟨?_, nofun⟩
      exact endb (few_n2 (by omega)).symm
    · conv => whnf
      refine ⟨[], [1, 3], fun st mq => ∃ (k : Nat), (k ≤ p.sig.length) ∧ (∀ i, i < k → (p.sig.getD i ByteArray.empty).size ≤ 30) ∧ st = ⟨[(1, .optr 0 0 0 0), (3, i64 k)], ⟨[⟨3, 1, fun _ => planC p, 0, false, true, true⟩], [], none, 0⟩, []⟩ ∧ mq = p.sig.length - k,
        ⟨_, _, ⟨0, by omega, fun i h => absurd h (Nat.not_lt_zero i), rfl, rfl⟩, ⟨⟨.inl rfl, rfl, rfl, rfl⟩, ⟨⟨rfl, rfl, rfl, rfl, fun _ => rfl, fun _ _ => .inl rfl⟩, trivial⟩, trivial⟩⟩, ?_⟩
      rintro s0 m0 ⟨k, hk, g3, rfl, hmeas⟩
      by_cases hlt : k < p.sig.length
      · conv => whnf
        conv => whnf
        refine ifB_dec (fun w3 => ?_) (fun w3 => ?_)
        · conv => whnf
          conv => whnf
          refine ⟨⟨(by omega), (by omega)⟩, ?_⟩
          conv => whnf
          conv => whnf
          refine ifB_dec (fun w4 => ?_) (fun w4 => ?_)
          · conv => whnf
            conv => whnf
            refine ⟨?_, nofun⟩
            exact endb (few_n3 hlt (by have w4 : ((p.sig.getD k ByteArray.empty).size : Int) > 30 := w4; omega)).symm
          · conv => whnf
            conv => whnf
            refine ⟨inK64 (by omega) (by omega), ?_⟩
            have w4 : ¬ ((p.sig.getD k ByteArray.empty).size : Int) > 30 := w4
            conv => whnf
            conv => whnf
            refine ⟨_, _, ⟨⟨k + 1, by omega, fun i hi => (by rcases Nat.lt_succ_iff_lt_or_eq.1 hi with h | h; exact g3 i h; rw [h]; omega), rfl, rfl⟩, by omega⟩, ⟨⟨.inl rfl, rfl, rfl, rfl⟩, ⟨⟨rfl, rfl, rfl, rfl, fun _ => rfl, fun _ _ => .inl rfl⟩, trivial⟩, trivial⟩⟩
        · (exfalso; omega)
      · have hks : k = p.sig.length := by omega
        subst hks
        conv => whnf
        conv => whnf
        refine ifB_dec (fun w3 => ?_) (fun w3 => ?_)
        · (exfalso; omega)
        · conv => whnf
          conv => whnf
          refine ⟨[], [1, 4], fun st mq => ∃ (k : Nat), (k ≤ p.steps.length) ∧ (∀ i, i < k → (p.steps.getD i stp0).name.size ≤ 30 ∧ (p.steps.getD i stp0).exits.length ≤ 12) ∧ st = ⟨[(1, .optr 0 0 0 0), (4, i64 k)], ⟨[⟨3, 1, fun _ => planC p, 0, false, true, true⟩], [], none, 0⟩, []⟩ ∧ mq = p.steps.length - k,
            ⟨_, _, ⟨0, by omega, fun i h => absurd h (Nat.not_lt_zero i), rfl, rfl⟩, ⟨⟨.inl rfl, rfl, rfl, rfl⟩, ⟨⟨rfl, rfl, rfl, rfl, fun _ => rfl, fun _ _ => .inl rfl⟩, trivial⟩, trivial⟩⟩, ?_⟩
          rintro s0 m0 ⟨k, hk2, g4, rfl, hmeas⟩
          by_cases hlt2 : k < p.steps.length
          · conv => whnf
            conv => whnf
            conv => whnf
            refine ifB_dec (fun w4 => ?_) (fun w4 => ?_)
            · conv => whnf
              conv => whnf
              conv => whnf
              refine ⟨⟨(by omega), (by omega)⟩, ?_⟩
              conv => whnf
              conv => whnf
              conv => whnf
              refine ifB_dec (fun w5 => ?_) (fun w5 => ?_)
              · conv => whnf
                conv => whnf
                conv => whnf
                refine ⟨?_, nofun⟩
                exact endb (few_n4 hlt2 (fun h => by have w5 : ((p.steps.getD k stp0).name.size : Int) > 30 := w5; omega)).symm
              · conv => whnf
                conv => whnf
                conv => whnf
                refine ⟨⟨(by omega), (by omega)⟩, ?_⟩
                conv => whnf
                conv => whnf
                conv => whnf
                refine ifB_dec (fun w6 => ?_) (fun w6 => ?_)
                · conv => whnf
                  conv => whnf
                  conv => whnf
                  refine ⟨?_, nofun⟩
                  exact endb (few_n4 hlt2 (fun h => by have w6 : ((p.steps.getD k stp0).exits.length : Int) > 12 := w6; omega)).symm
                · conv => whnf
                  conv => whnf
                  conv => whnf
                  refine ⟨inK64 (by omega) (by omega), ?_⟩
                  have w5 : ¬ ((p.steps.getD k stp0).name.size : Int) > 30 := w5
                  have w6 : ¬ ((p.steps.getD k stp0).exits.length : Int) > 12 := w6
                  conv => whnf
                  conv => whnf
                  conv => whnf
                  refine ⟨_, _, ⟨⟨k + 1, by omega, fun i hi => (by rcases Nat.lt_succ_iff_lt_or_eq.1 hi with h | h; exact g4 i h; rw [h]; omega), rfl, rfl⟩, by omega⟩, ⟨⟨.inl rfl, rfl, rfl, rfl⟩, ⟨⟨rfl, rfl, rfl, rfl, fun _ => rfl, fun _ _ => .inl rfl⟩, trivial⟩, trivial⟩⟩
            · (exfalso; omega)
          · have e2 : k = p.steps.length := by omega
            subst e2
            conv => whnf
            conv => whnf
            conv => whnf
            refine ifB_dec (fun w4 => ?_) (fun w4 => ?_)
            · (exfalso; omega)
            · conv => whnf
              conv => whnf
              conv => whnf
              refine ⟨?_, nofun⟩
              exact endb (few_y (by omega) (by omega) g3 g4).symm
theorem S36f (l : List Int) (hl : l.length ≤ 1000000) : SP 36 [ints l] (ints l) false := by
  refine sound (d := 2) tok2 mixed2 Tryd.func36 (by kernel_rfl) (by kernel_rfl) ?_
  conv => whnf
  refine .inl ?_
  conv => whnf
  refine ⟨⟨(by omega), (by show _ * (8 + 1) ≤ _; omega)⟩, ?_⟩
  conv => whnf
  refine ⟨?_, nofun⟩
  exact ⟨rfl, Nat.zero_add _, fun i hi => rfl⟩
theorem S73f (l : List ByteArray) (hl : l.length ≤ 1000000) : SP 73 [strs l] (strs l) false := by
  refine sound (d := 2) tok2 mixed2 Tryd.func73 (by kernel_rfl) (by kernel_rfl) ?_
  conv => whnf
  refine .inl ?_
  conv => whnf
  refine ⟨⟨(by omega), (by show _ * (16 + 1) ≤ _; omega)⟩, ?_⟩
  conv => whnf
  refine ⟨?_, nofun⟩
  exact ⟨rfl, Nat.zero_add _, fun i hi => rfl⟩
theorem steps_row {p : Pln} {k : Nat} (hk : k < p.steps.length) (i : Nat) (h : i < k + 1) : stpC (p.steps.getD i stp0) = if i < k then stpC (p.steps.getD (0 + i) stp0) else List.take 14 (List.drop ((i - k) * 14) (stpC (p.steps.getD k stp0))) := by
  rw [Nat.zero_add]
  by_cases hi : i < k
  · rw [if_pos hi]
  · have : i = k := by omega
    subst this
    rw [if_neg hi, Nat.sub_self]; rfl
theorem S18 (p : Pln) (hp : FewP p) : SP 18 [planA p] (planA p) false := by
  have h73 := S73f p.sig (by have := hp.sig; omega)
  have hst := hp.steps
  refine sound (d := 2) tok2 mixed2 Tryd.func18 (by kernel_rfl) (by kernel_rfl) ?_
  conv => whnf
  refine ⟨[], by kernel_rfl, ?_⟩
  conv => whnf
  refine .inl ⟨_, _, byX rfl (h73), ?_⟩
  conv => whnf
  refine ⟨[.cell 2 2 14], [1, 2, 3, 4], fun st mq => ∃ (k : Nat), (k ≤ p.steps.length) ∧ st = ⟨[(1, .optr 0 0 0 0), (2, .optr 1 0 0 0), (3, .optr 2 0 0 0), (4, i64 k)], ⟨[⟨3, 1, fun _ => planC p, 0, false, true, true⟩, ⟨3, 1, fun _ => [.eslice, i64 0, .eslice], 0, false, true, true⟩, ⟨3, 1, fun _ => [strs p.sig, i64 p.start, .oslice 3 0 0 k none], 0, false, false, true⟩, ⟨14, k, fun i => stpC (p.steps.getD i stp0), 0, false, true, false⟩], [], none, 0⟩, []⟩ ∧ mq = p.steps.length - k,
    ⟨_, _, ⟨0, by omega, rfl, rfl⟩, ⟨⟨.inl rfl, rfl, rfl, rfl⟩, ⟨⟨rfl, rfl, rfl, rfl, fun _ => rfl, fun _ _ => .inl rfl⟩, ⟨⟨rfl, rfl, rfl, rfl, fun _ => rfl, fun _ _ => .inl rfl⟩, ⟨⟨rfl, rfl, rfl, rfl, nofun, fun _ _ => .inl rfl⟩, ⟨⟨rfl, rfl, rfl, rfl, fun _ => rfl, fun i h => .inl (absurd h (Nat.not_lt_zero i))⟩, trivial⟩⟩⟩⟩, trivial⟩⟩, ?_⟩
  rintro s0 m0 ⟨k, hk, rfl, hmeas⟩
  by_cases hlt : k < p.steps.length
  · have h36 := S36f (p.steps.getD (k : Int).toNat stp0).exits (by have := hp.exits k hlt; show (p.steps.getD k stp0).exits.length ≤ _; omega)
    conv => whnf
    conv => whnf
    refine ifB_dec (fun w1 => ?_) (fun w1 => ?_)
    · conv => whnf
      conv => whnf
      refine ⟨⟨(by omega), (by omega)⟩, ?_⟩
      conv => whnf
      conv => whnf
      refine .inl ⟨_, _, byX rfl (h36), ?_⟩
      conv => whnf
      conv => whnf
      refine .inl ?_
      conv => whnf
      conv => whnf
      refine ⟨(by show _ * (136 + 1) ≤ _; omega), ?_⟩
      conv => whnf
      conv => whnf
      refine ⟨inK64 (by omega) (by omega), ?_⟩
      conv => whnf
      conv => whnf
      refine ⟨_, _, ⟨⟨k + 1, by omega, rfl, rfl⟩, by omega⟩, ⟨⟨.inl rfl, rfl, rfl, rfl⟩, ⟨⟨rfl, rfl, rfl, rfl, fun _ => rfl, fun _ _ => .inl rfl⟩, ⟨⟨rfl, rfl, rfl, rfl, fun _ => rfl, fun _ _ => .inl rfl⟩, ⟨⟨rfl, rfl, rfl, rfl, nofun, fun _ _ => .inl rfl⟩, ⟨⟨rfl, rfl, rfl, rfl, fun _ => rfl, fun i h => .inl (steps_row hlt i h)⟩, trivial⟩⟩⟩⟩, trivial⟩⟩
    · (exfalso; omega)
  · have e2 : k = p.steps.length := by omega
    subst e2
    conv => whnf
    conv => whnf
    refine ifB_dec (fun w1 => ?_) (fun w1 => ?_)
    · (exfalso; omega)
    · conv => whnf
      conv => whnf
      refine ⟨?_, nofun⟩
      exact ave_agg3 (k := 4) ⟨rfl, rfl, fun _ _ => rfl⟩ rfl ⟨rfl, rfl, fun _ _ => rfl⟩
end Go.Tr

/- The law SequencePlans returns true. Conditions: none. -/
namespace Go.Tr
open Go Go.Proofs
set_option maxRecDepth 20000
set_option maxHeartbeats 8000000

/-- The faults of a plan, in their order. -/
def fltAt (i : Nat) : Int × Bool := if i = 0 then (-1, false) else (((i - 1) / 2 : Nat), decide ((i - 1) % 2 = 1))
abbrev fltC (f : Int × Bool) : List AV := [i64 f.1, vb f.2]
abbrev fts (n : Nat) : AV := .rslice 2 (2 * n + 1) fun i => fltC (fltAt i)
theorem flt_row {k : Nat} (i : Nat) (h : i < 2 * k + 1 + 2) : fltC (fltAt i) = if i < 2 * k + 1 then fltC (fltAt (0 + i)) else List.take 2 (List.drop ((i - (2 * k + 1)) * 2) [i64 k, vb false, i64 k, vb true]) := by
  rw [Nat.zero_add]
  by_cases hi : i < 2 * k + 1
  · rw [if_pos hi]
  · rw [if_neg hi]
    rcases (show i = 2 * k + 1 ∨ i = 2 * k + 2 by omega) with h1 | h1
    · subst h1
      rw [Nat.sub_self]
      show fltC (fltAt _) = [i64 k, vb false]
      unfold fltAt
      rw [if_neg (by omega), show (2 * k + 1 - 1) / 2 = k by omega, decide_eq_false (by omega)]
    · subst h1
      rw [show 2 * k + 2 - (2 * k + 1) = 1 by omega]
      show fltC (fltAt _) = [i64 k, vb true]
      unfold fltAt
      rw [if_neg (by omega), show (2 * k + 2 - 1) / 2 = k by omega, decide_eq_true (by omega)]
theorem vEq_flt (a : Int) (b : Bool) : vEqL [.int .i64 a, .bool b] [.int .i64 a, .bool b] = true := by
  simp [vEqL]
theorem S59 (p : Pln) (hn : p.sig.length ≤ 1000) : SP 59 [planA p] (fts p.sig.length) false := by
  have h20 := S20
  refine sound (d := 2) tok2 mixed2 Tryd.func59 (by kernel_rfl) (by kernel_rfl) ?_
  conv => whnf
  refine .inl ⟨_, _, byX rfl (Sound1.pl (h20) rfl), ?_⟩
  conv => whnf
  refine ⟨[.uncap 3], [1, 3, 4], fun st mq => ∃ (k : Nat), (k ≤ p.sig.length) ∧ st = ⟨[(1, .optr 0 0 0 0), (3, .oslice 1 0 0 (2 * k + 1) none), (4, i64 k)], ⟨[⟨3, 1, fun _ => planC p, 0, false, true, true⟩, ⟨2, 2 * k + 1, fun i => fltC (fltAt i), 0, false, true, false⟩], [], none, 0⟩, []⟩ ∧ mq = p.sig.length - k,
    ⟨_, _, ⟨0, by omega, rfl, rfl⟩, ⟨⟨.inl rfl, rfl, rfl, rfl⟩, ⟨⟨rfl, rfl, rfl, rfl, fun _ => rfl, fun _ _ => .inl rfl⟩, ⟨⟨rfl, rfl, rfl, rfl, fun _ => rfl, fun i h => .inl ((by have h : i < 1 := h; obtain rfl : i = 0 := Nat.lt_one_iff.1 h; rfl))⟩, trivial⟩⟩, trivial⟩⟩, ?_⟩
  rintro s0 m0 ⟨k, hk, rfl, hmeas⟩
  conv => whnf
  conv => whnf
  refine ifB_dec (fun w1 => ?_) (fun w1 => ?_)
  · conv => whnf
    conv => whnf
    refine .inl ?_
    conv => whnf
    conv => whnf
    refine ⟨(by show _ * (16 + 1) ≤ _; omega), ?_⟩
    conv => whnf
    conv => whnf
    refine ⟨inK64 (by omega) (by omega), ?_⟩
    conv => whnf
    conv => whnf
    refine ⟨_, _, ⟨⟨k + 1, by omega, rfl, rfl⟩, by omega⟩, ⟨⟨.inl rfl, rfl, rfl, rfl⟩, ⟨⟨rfl, rfl, rfl, rfl, fun _ => rfl, fun _ _ => .inl rfl⟩, ⟨⟨rfl, rfl, rfl, rfl, fun _ => rfl, fun i h => .inl (flt_row i h)⟩, trivial⟩⟩, trivial⟩⟩
  · conv => whnf
    conv => whnf
    refine ⟨?_, nofun⟩
    obtain rfl : k = p.sig.length := by omega
    exact ⟨rfl, rfl, fun i hi => rfl⟩
theorem S102 (p : Pln) (hn : p.sig.length ≤ 1000) : SP 102 [planA p] (fts p.sig.length) false := by
  refine sound (d := 2) tok2 mixed2 Tryd.func102 (by kernel_rfl) (by kernel_rfl) ?_
  conv => whnf
  refine ⟨[.uncap 3], [3, 10, 11], fun st mq => ∃ (k : Nat), (k ≤ p.sig.length) ∧ st = ⟨[(3, .oslice 1 0 0 (2 * k + 1) none), (10, i64 p.sig.length), (11, i64 k)], ⟨[⟨3, 1, fun _ => planC p, 0, false, true, true⟩, ⟨2, 2 * k + 1, fun i => fltC (fltAt i), 0, false, true, false⟩], [], none, 0⟩, []⟩ ∧ mq = p.sig.length - k,
    ⟨_, _, ⟨0, by omega, rfl, rfl⟩, ⟨⟨.inl rfl, rfl, rfl, rfl⟩, ⟨⟨rfl, rfl, rfl, rfl, fun _ => rfl, fun _ _ => .inl rfl⟩, ⟨⟨rfl, rfl, rfl, rfl, fun _ => rfl, fun i h => .inl ((by have h : i < 1 := h; obtain rfl : i = 0 := Nat.lt_one_iff.1 h; rfl))⟩, trivial⟩⟩, trivial⟩⟩, ?_⟩
  rintro s0 m0 ⟨k, hk, rfl, hmeas⟩
  conv => whnf
  conv => whnf
  refine ifB_dec (fun w1 => ?_) (fun w1 => ?_)
  · conv => whnf
    conv => whnf
    refine .inl ?_
    conv => whnf
    conv => whnf
    refine ⟨(by show _ * (16 + 1) ≤ _; omega), ?_⟩
    conv => whnf
    conv => whnf
    refine ⟨inK64 (by omega) (by omega), ?_⟩
    conv => whnf
    conv => whnf
    refine ⟨_, _, ⟨⟨k + 1, by omega, rfl, rfl⟩, by omega⟩, ⟨⟨.inl rfl, rfl, rfl, rfl⟩, ⟨⟨rfl, rfl, rfl, rfl, fun _ => rfl, fun _ _ => .inl rfl⟩, ⟨⟨rfl, rfl, rfl, rfl, fun _ => rfl, fun i h => .inl (flt_row i h)⟩, trivial⟩⟩, trivial⟩⟩
  · conv => whnf
    conv => whnf
    refine ⟨?_, nofun⟩
    obtain rfl : k = p.sig.length := by omega
    exact ⟨rfl, rfl, fun i hi => rfl⟩
theorem S58 (a b : Nat) (ha : a ≤ 1000000) (hb : b ≤ 1000000) : SP 58 [fts a, fts b] (vb (decide (a = b))) false := by
  refine sound (d := 2) tok2 mixed2 Tryd.func58 (by kernel_rfl) (by kernel_rfl) ?_
  conv => whnf
  refine ifB_bne (fun w1 => ?_) (fun w1 => ?_)
  · conv => whnf
    refine ⟨?_, nofun⟩
    exact endb (decide_eq_false (by omega)).symm
  · conv => whnf
    refine ⟨[], [0, 1, 5], fun st mq => ∃ (k : Nat), (k ≤ 2 * a + 1) ∧ st = ⟨[(0, fts a), (1, fts b), (5, i64 k)], ⟨[], [], none, 0⟩, []⟩ ∧ mq = 2 * a + 1 - k,
      ⟨_, _, ⟨0, by omega, rfl, rfl⟩, ⟨⟨.inl rfl, rfl, rfl, rfl⟩, trivial, trivial⟩⟩, ?_⟩
    rintro s0 m0 ⟨k, hk, rfl, hmeas⟩
    conv => whnf
    conv => whnf
    refine ifB_dec (fun w2 => ?_) (fun w2 => ?_)
    · conv => whnf
      conv => whnf
      refine ⟨[], by kernel_rfl, ?_⟩
      conv => whnf
      conv => whnf
      refine ⟨⟨(by omega), (by omega)⟩, ?_⟩
      conv => whnf
      conv => whnf
      refine ⟨⟨(by omega), (by omega)⟩, ?_⟩
      conv => whnf
      conv => whnf
      refine ifB_not ?_
      conv => whnf
      conv => whnf
      refine ifB_intro (fun w3 => ?_) (fun w3 => ?_)
      · conv => whnf
        conv => whnf
        refine ⟨inK64 (by omega) (by omega), ?_⟩
        conv => whnf
        conv => whnf
        refine ⟨_, _, ⟨⟨k + 1, by omega, rfl, rfl⟩, by omega⟩, ⟨⟨.inl rfl, rfl, rfl, rfl⟩, trivial, trivial⟩⟩
      · conv => whnf
        conv => whnf
        refine ⟨?_, nofun⟩
        rw [vEq_flt] at w3
        cases w3
    · conv => whnf
      conv => whnf
      refine ⟨?_, nofun⟩
      exact endb (decide_eq_true (by omega)).symm
def faultsR (p : Pln) : AV := if (checkP p).2 ≠ 0 then .tuple [sts [], i64 (checkP p).2] else .tuple [fts p.sig.length, i64 0]
theorem S54 (p : Pln) (hp : FewP p) : SP 54 [planA p] (faultsR p) false := by
  have h101 := S101 p hp
  have h102 := S102 p (by have := hp.sig; omega)
  unfold faultsR
  by_cases h0 : (checkP p).2 = 0
  · rw [if_neg (not_not_intro h0)]
    rw [h0] at h101
    refine sound (d := 2) tok2 mixed2 Tryd.func54 (by kernel_rfl) (by kernel_rfl) ?_
    conv => whnf
    refine .inl ⟨_, _, byX rfl (h101), ?_⟩
    conv => whnf
    refine .inl ⟨_, _, byX rfl (h102), ?_⟩
    conv => whnf
    refine ⟨?_, nofun⟩
    exact ave_tup2 ⟨rfl, rfl, fun _ _ => rfl⟩ rfl
  · rw [if_pos h0]
    refine sound (d := 2) tok2 mixed2 Tryd.func54 (by kernel_rfl) (by kernel_rfl) ?_
    conv => whnf
    refine .inl ⟨_, _, byX rfl (h101), ?_⟩
    conv => whnf
    refine ifB_bne (fun w1 => ?_) (fun w1 => ?_)
    · conv => whnf
      refine ⟨?_, nofun⟩
      exact ave_tup2 rfl rfl
    · (exfalso; omega)
theorem fault_no (p : Pln) : faultE p (-1, false) = 0 := by
  unfold faultE
  rw [if_pos (decide_eq_true (show (-1 : Int) ≤ -1 ∧ (-1 : Int) ≤ (p.sig.length : Int) - 1 by omega))]
  rfl
def stateC (p : Pln) (s : S2) : Int := if (checkP p).2 = 0 then stateE p s else (checkP p).2
theorem S55 (p : Pln) (hp : FewP p) (s : S2) : SP 55 [planA p, stA s] (i64 (stateC p s)) false := by
  have h67 := S67 p hp s (-1, false)
  have e : openE p s (-1, false) = stateC p s := by
    unfold openE stateC
    rw [fault_no, first2]
    by_cases h : stateE p s = 0
    · rw [if_neg (not_not_intro h), h]
    · rw [if_pos h]
  rw [e] at h67
  refine sound (d := 2) tok2 mixed2 Tryd.func55 (by kernel_rfl) (by kernel_rfl) ?_
  conv => whnf
  refine .inl ⟨_, _, byX rfl (h67), ?_⟩
  conv => whnf
  refine ⟨?_, nofun⟩
  rfl
def faultC (p : Pln) (f : Int × Bool) : Int := if (checkP p).2 = 0 then faultE p f else (checkP p).2
theorem S56 (p : Pln) (hp : FewP p) (f : Int × Bool) : SP 56 [planA p, ftA f] (i64 (faultC p f)) false := by
  have h101 := S101 p hp
  have h103 := S103 p hp.sig f
  refine sound (d := 2) tok2 mixed2 Tryd.func56 (by kernel_rfl) (by kernel_rfl) ?_
  conv => whnf
  refine .inl ⟨_, _, byX rfl (h101), ?_⟩
  conv => whnf
  refine ifB_beq (fun w1 => ?_) (fun w1 => ?_)
  · conv => whnf
    refine .inl ⟨_, _, byX rfl (Sound1.pl (h103) rfl), ?_⟩
    conv => whnf
    refine ⟨?_, nofun⟩
    exact endi (if_pos w1).symm
  · conv => whnf
    refine ⟨?_, nofun⟩
    exact endi (if_neg w1).symm
theorem S11 (p : Pln) (hl : p.sig.length ≤ 9223372036854775807 ∧ p.steps.length ≤ 9223372036854775807) (s : S2) (f : Int × Bool) : SP 11 [planA p, stA s, ftA f] (vb true) false := by
  have h14 := S14 p hl
  cases hf : fewB p with
  | false =>
    rw [hf] at h14
    refine sound (d := 2) tok2 mixed2 Tryd.func11 (by kernel_rfl) (by kernel_rfl) ?_
    conv => whnf
    refine .inl ⟨_, _, byX rfl (Sound1.pl (S13) rfl), ?_⟩
    conv => whnf
    refine .inl ⟨_, _, byX rfl (Sound1.pl (h14) rfl), ?_⟩
    conv => whnf
    refine ⟨?_, nofun⟩
    (rfl)
  | true =>
    rw [hf] at h14
    have hp := FewP.of hf
    have hn := hp.sig
    have h18 := S18 p hp
    have h53 := S53 p hp
    have h54 := S54 p hp
    have h55 := S55 p hp s
    have h56 := S56 p hp f
    have h57 := S57 p hp
    have h58 := S58 p.sig.length p.sig.length (by omega) (by omega)
    have h59 := S59 p (by omega)
    have h60 := S60 p hn (by have := hp.steps; omega) s
    have h61 := S61 p hn f
    unfold faultsR at h54
    unfold stateC at h55
    unfold faultC at h56
    rw [decide_eq_true rfl] at h58
    by_cases h0 : (checkP p).2 = 0
    · rw [if_neg (not_not_intro h0)] at h54
      rw [if_pos h0] at h55 h56
      rw [h0] at h53 h57
      refine sound (d := 2) tok2 mixed2 Tryd.func11 (by kernel_rfl) (by kernel_rfl) ?_
      conv => whnf
      refine .inl ⟨_, _, byX rfl (Sound1.pl (S13) rfl), ?_⟩
      conv => whnf
      refine .inl ⟨_, _, byX rfl (Sound1.pl (h14) rfl), ?_⟩
      conv => whnf
      refine .inl ⟨_, _, byX rfl (h18), ?_⟩
      conv => whnf
      refine .inl ⟨_, _, byX rfl (Sound1.pl (h53) rfl), ?_⟩
      conv => whnf
      refine .inl ⟨_, _, byX rfl (h18), ?_⟩
      conv => whnf
      refine .inl ⟨_, _, byX rfl (h54), ?_⟩
      conv => whnf
      refine ⟨[], by kernel_rfl, ?_⟩
      conv => whnf
      refine .inl ⟨_, _, byX rfl (h18), ?_⟩
      conv => whnf
      refine .inl ⟨_, _, byX rfl (Sound1.pl (h55) rfl), ?_⟩
      conv => whnf
      refine .inl ⟨_, _, byX rfl (h18), ?_⟩
      conv => whnf
      refine .inl ⟨_, _, byX rfl (Sound1.pl (h56) rfl), ?_⟩
      conv => whnf
      refine .inl ⟨_, _, byX rfl (Sound1.pl (h57) rfl), ?_⟩
      conv => whnf
      refine ifB_bne (fun w1 => ?_) (fun w1 => ?_)
      · (exfalso; omega)
      · conv => whnf
        refine .inl ⟨_, _, byX rfl (h59), ?_⟩
        conv => whnf
        refine .inl ⟨_, _, byX rfl (Sound1.pl (h58) rfl), ?_⟩
        conv => whnf
        refine .inl ⟨_, _, byX rfl (Sound1.pl (h60) rfl), ?_⟩
        conv => whnf
        refine ifB_beq (fun w2 => ?_) (fun w2 => ?_)
        · conv => whnf
          refine .inl ⟨_, _, byX rfl (Sound1.pl (h61) rfl), ?_⟩
          conv => whnf
          refine ⟨?_, nofun⟩
          (exact endb (beq_self_eq_true _))
        · (exfalso; omega)
    · rw [if_pos h0] at h54
      rw [if_neg h0] at h55 h56
      refine sound (d := 2) tok2 mixed2 Tryd.func11 (by kernel_rfl) (by kernel_rfl) ?_
      conv => whnf
      refine .inl ⟨_, _, byX rfl (Sound1.pl (S13) rfl), ?_⟩
      conv => whnf
      refine .inl ⟨_, _, byX rfl (Sound1.pl (h14) rfl), ?_⟩
      conv => whnf
      refine .inl ⟨_, _, byX rfl (h18), ?_⟩
      conv => whnf
      refine .inl ⟨_, _, byX rfl (Sound1.pl (h53) rfl), ?_⟩
      conv => whnf
      refine .inl ⟨_, _, byX rfl (h18), ?_⟩
      conv => whnf
      refine .inl ⟨_, _, byX rfl (h54), ?_⟩
      conv => whnf
      refine ⟨[], by kernel_rfl, ?_⟩
      conv => whnf
      refine .inl ⟨_, _, byX rfl (h18), ?_⟩
      conv => whnf
      refine .inl ⟨_, _, byX rfl (Sound1.pl (h55) rfl), ?_⟩
      conv => whnf
      refine .inl ⟨_, _, byX rfl (h18), ?_⟩
      conv => whnf
      refine .inl ⟨_, _, byX rfl (Sound1.pl (h56) rfl), ?_⟩
      conv => whnf
      refine .inl ⟨_, _, byX rfl (Sound1.pl (h57) rfl), ?_⟩
      conv => whnf
      refine ifB_bne (fun w1 => ?_) (fun w1 => ?_)
      · (exfalso; omega)
      · conv => whnf
        refine ifB_bne (fun w2 => ?_) (fun w2 => ?_)
        · (exfalso; omega)
        · conv => whnf
          refine ifB_bne (fun w3 => ?_) (fun w3 => ?_)
          · conv => whnf
            refine ifB_beq (fun w4 => ?_) (fun w4 => ?_)
            · conv => whnf
              refine ifB_beq (fun w5 => ?_) (fun w5 => ?_)
              · conv => whnf
                refine ⟨?_, nofun⟩
                (exact endb (beq_self_eq_true _))
              · (exfalso; omega)
            · (exfalso; omega)
          · (exfalso; omega)
end Go.Tr

/- Contracts of chapter 7: ranks, the reference. Conditions: none. -/
namespace Go.Tr
open Go Go.Proofs
set_option maxRecDepth 20000
set_option maxHeartbeats 8000000

/-- A place: a state with a fault; a rank: a place with its number of turns. -/
abbrev Plc := S2 × (Int × Bool)
abbrev Rnk := Plc × Int
def rk0 : Rnk := (((0, 0), (0, false)), 0)
abbrev rkC (r : Rnk) : List AV := [i64 r.1.1.1, i64 r.1.1.2, i64 r.1.2.1, vb r.1.2.2, i64 r.2]
abbrev ranksA (l : List Rnk) : AV := .rslice 5 l.length fun i => rkC (l.getD i rk0)
def atP (l : List Rnk) (q : Plc) (i : Nat) : Bool := decide ((l.getD i rk0).1 = q)
def findN (l : List Rnk) (q : Plc) (k : Nat) : Option Nat := firstN (atP l q) k 0
def findI (l : List Rnk) (q : Plc) (k : Nat) : Int := match findN l q k with | some i => (i : Int) | none => -1
theorem plc_eq {a b : Plc} : a = b ↔ (a.1.1 = b.1.1 ∧ a.1.2 = b.1.2) ∧ (a.2.1 = b.2.1 ∧ a.2.2 = b.2.2) := by
  rw [Prod.ext_iff, Prod.ext_iff, Prod.ext_iff]
theorem veq_if {a c : Int} {b d : Bool} (h : vEqL [.int .i64 a, .bool b] [.int .i64 c, .bool d] = true) : a = c ∧ b = d := by
  simpa [vEqL] using h
theorem veq_no {a c : Int} {b d : Bool} (h : vEqL [.int .i64 a, .bool b] [.int .i64 c, .bool d] = false) : ¬ (a = c ∧ b = d) := fun e => by
  obtain ⟨rfl, rfl⟩ := e
  rw [vEq_flt] at h; cases h
theorem S111 (l : List Rnk) (q : Plc) {k : Nat} (hk : k ≤ 1000000) {f : Nat → List AV} (h : ∀ i, f i = rkC (l.getD i rk0)) : SP 111 [.rslice 5 k f, stA q.1, ftA q.2] (i64 (findI l q k)) false := by
  obtain rfl : f = fun i => rkC (l.getD i rk0) := funext h
  refine sound (d := 2) tok2 mixed2 Tryd.func111 (by kernel_rfl) (by kernel_rfl) ?_
  conv => whnf
  refine ⟨[], [0, 4, 5, 7], fun st mq => ∃ (j : Nat), (j ≤ k) ∧ (∀ i, i < j → atP l q i = false) ∧ st = ⟨[(0, .rslice 5 k fun i => rkC (l.getD i rk0)), (4, .optr 0 0 0 0), (5, .optr 1 0 0 0), (7, i64 j)], ⟨[⟨2, 1, fun _ => stC q.1, 0, false, true, true⟩, ⟨2, 1, fun _ => [i64 q.2.1, vb q.2.2], 0, false, true, true⟩], [], none, 0⟩, []⟩ ∧ mq = k - j,
    ⟨_, _, ⟨0, by omega, fun i h => absurd h (Nat.not_lt_zero i), rfl, rfl⟩, ⟨⟨.inl rfl, rfl, rfl, rfl⟩, ⟨⟨rfl, rfl, rfl, rfl, fun _ => rfl, fun _ _ => .inl rfl⟩, ⟨⟨rfl, rfl, rfl, rfl, fun _ => rfl, fun _ _ => .inl rfl⟩, trivial⟩⟩, trivial⟩⟩, ?_⟩
  rintro s0 m0 ⟨j, hj, hn, rfl, hmeas⟩
  conv => whnf
  conv => whnf
  refine ifB_dec (fun w1 => ?_) (fun w1 => ?_)
  · conv => whnf
    conv => whnf
    refine ⟨[], by kernel_rfl, ?_⟩
    conv => whnf
    conv => whnf
    refine ⟨⟨(by omega), (by omega)⟩, ?_⟩
    conv => whnf
    conv => whnf
    refine ifB_veq2 (fun w2 => ?_) (fun w2 => ?_)
    · conv => whnf
      conv => whnf
      refine ⟨⟨(by omega), (by omega)⟩, ?_⟩
      conv => whnf
      conv => whnf
      refine ifB_intro (fun w3 => ?_) (fun w3 => ?_)
      · conv => whnf
        conv => whnf
        refine ⟨?_, nofun⟩
        have w3 := veq_if w3
        refine endi ?_
        unfold findI findN
        rw [firstN_at (by omega) hn (decide_eq_true (plc_eq.2 ⟨w2, w3⟩))]
      · conv => whnf
        conv => whnf
        refine ⟨inK64 (by omega) (by omega), ?_⟩
        have w3 := veq_no w3
        conv => whnf
        conv => whnf
        refine ⟨_, _, ⟨⟨j + 1, by omega, inv_nextB hn (decide_eq_false fun e => w3 (plc_eq.1 e).2), rfl, rfl⟩, by omega⟩, ⟨⟨.inl rfl, rfl, rfl, rfl⟩, ⟨⟨rfl, rfl, rfl, rfl, fun _ => rfl, fun _ _ => .inl rfl⟩, ⟨⟨rfl, rfl, rfl, rfl, fun _ => rfl, fun _ _ => .inl rfl⟩, trivial⟩⟩, trivial⟩⟩
    · conv => whnf
      conv => whnf
      refine ⟨inK64 (by omega) (by omega), ?_⟩
      conv => whnf
      conv => whnf
      refine ⟨_, _, ⟨⟨j + 1, by omega, inv_nextB hn (decide_eq_false fun e => w2 (plc_eq.1 e).1), rfl, rfl⟩, by omega⟩, ⟨⟨.inl rfl, rfl, rfl, rfl⟩, ⟨⟨rfl, rfl, rfl, rfl, fun _ => rfl, fun _ _ => .inl rfl⟩, ⟨⟨rfl, rfl, rfl, rfl, fun _ => rfl, fun _ _ => .inl rfl⟩, trivial⟩⟩, trivial⟩⟩
  · conv => whnf
    conv => whnf
    refine ⟨?_, nofun⟩
    obtain rfl : j = k := by omega
    refine endi ?_
    unfold findI findN
    rw [firstN_none hn]
theorem S63 (l : List Rnk) (hl : l.length ≤ 1000000) : SP 63 [ranksA l] (ranksA l) false := by
  refine sound (d := 2) tok2 mixed2 Tryd.func63 (by kernel_rfl) (by kernel_rfl) ?_
  conv => whnf
  refine .inl ?_
  conv => whnf
  refine ⟨⟨(by omega), (by show _ * (40 + 1) ≤ _; omega)⟩, ?_⟩
  conv => whnf
  refine ⟨?_, nofun⟩
  exact ⟨rfl, Nat.zero_add _, fun i hi => rfl⟩
def succs (p : Pln) (f : Int × Bool) (s : S2) : List S2 := (turnF p f s (-1)).1 :: (stp p s).exits.map fun c => (turnF p f s c).1
theorem first_head {a : Int} {l : List Int} (h : firstOf (a :: l) = 0) : a = 0 := by
  by_cases h0 : a = 0
  · exact h0
  · unfold firstOf at h
    rw [if_neg h0] at h
    exact absurd h h0
theorem moving_exits {p : Pln} (hg : Good p) {s : Int × Int} (hs : OkS p s) (hw : ¬ (stp p s).wait = 0) : (stp p s).exits = [] := by
  have h1 := hg.step _ hs.k
  have h2 : _ = _ := (step_form p (stp p s) _).symm.trans h1
  split at h2
  · rename_i h3; exact absurd h2 h3
  split at h2
  · have h2 : movingE p.sig.length p.steps.length (stp p s) = 0 := h2
    unfold movingE at h2
    have h3 : (if (!(stp p s).safe && decide ((stp p s).home = 0) && decide ((stp p s).exits.length = 0)) = true then (0 : Int) else 3) = 0 := first_head h2
    split at h3
    · rename_i h4
      rw [Bool.and_eq_true, decide_eq_true_iff] at h4
      exact List.eq_nil_of_length_eq_zero h4.2
    · cases h3
  · cases h2
theorem exits_ok {p : Pln} (hg : Good p) {s : Int × Int} (hs : OkS p s) {c : Int} (h : c ∈ (stp p s).exits) : OkC p c := by
  by_cases hw : (stp p s).wait = 0
  · exact .inr (exit_ok hg hs hw (hasI_mem.2 h))
  · rw [moving_exits hg hs hw] at h; cases h
theorem S132 (p : Pln) (hg : Good p) (s : S2) (f : Int × Bool) (hs : OkS p s) (hff : OkF p f) : SP 132 [planA p, stA s, ftA f] (sts (succs p f s)) false := by
  have hat := hs.at
  have hxl : (stp p s).exits.length ≤ 12 := hg.few.exits _ hs.k
  have hb27 : Tryd.prog.types[27].bytes = 16 := by kernel_rfl
  have h49 := S49 p hg s f (-1) hs hff (.inl rfl)
  refine sound (d := 2) tok2 mixed2 Tryd.func132 (by kernel_rfl) (by kernel_rfl) ?_
  conv => whnf
  refine .inl ⟨_, _, byX rfl (Sound1.pl (h49) rfl), ?_⟩
  conv => whnf
  refine ⟨⟨(by omega), (by omega)⟩, ?_⟩
  conv => whnf
  refine ⟨[.uncap 9], [3, 4, 5, 7, 9, 10, 11], fun st mq => ∃ (k : Nat) (L : List S2) (n : Nat) (o : S2), (L.length = n) ∧ (k ≤ (stp p s).exits.length) ∧ (n = k + 1) ∧ (L = (turnF p f s (-1)).1 :: ((stp p s).exits.take k).map fun c => (turnF p f s c).1) ∧ st = ⟨[(3, .optr 0 0 0 0), (4, .optr 1 0 0 0), (5, .optr 2 0 0 0), (7, .optr 3 0 0 0), (9, .oslice 4 0 0 n none), (10, .optr 5 0 0 0), (11, i64 k)], ⟨[⟨3, 1, fun _ => planC p, 0, false, true, true⟩, ⟨2, 1, fun _ => stC s, 0, false, true, true⟩, ⟨2, 1, fun _ => [i64 f.1, vb f.2], 0, false, true, true⟩, ⟨2, 1, fun _ => stC o, 0, false, true, true⟩, ⟨2, n, fun i => stC (L.getD i (0, 0)), 0, false, true, false⟩, ⟨14, 1, fun _ => stpC (stp p s), 0, false, true, true⟩], [], none, 0⟩, []⟩ ∧ mq = (stp p s).exits.length - k,
    ⟨_, _, ⟨0, [(turnF p f s (-1)).1], 1, (turnF p f s (-1)).1, rfl, by omega, rfl, rfl, rfl, rfl⟩, ⟨⟨.inl rfl, rfl, rfl, rfl⟩, ⟨⟨rfl, rfl, rfl, rfl, fun _ => rfl, fun _ _ => .inl rfl⟩, ⟨⟨rfl, rfl, rfl, rfl, fun _ => rfl, fun _ _ => .inl rfl⟩, ⟨⟨rfl, rfl, rfl, rfl, fun _ => rfl, fun _ _ => .inl rfl⟩, ⟨⟨rfl, rfl, rfl, rfl, fun _ => rfl, fun _ _ => .inl rfl⟩, ⟨⟨rfl, rfl, rfl, rfl, fun _ => rfl, fun i h => .inl ((by have h : i < 1 := h; obtain rfl : i = 0 := Nat.lt_one_iff.1 h; rfl))⟩, ⟨⟨rfl, rfl, rfl, rfl, fun _ => rfl, fun _ _ => .inl rfl⟩, trivial⟩⟩⟩⟩⟩⟩, trivial⟩⟩, ?_⟩
  rintro s0 m0 ⟨k, L, n, o, hn, hk, hnk, hL, rfl, hmeas⟩
  by_cases hlt : k < (stp p s).exits.length
  · have hcm : (stp p s).exits.getD k 0 ∈ (stp p s).exits := by simp [List.getD_eq_getElem?_getD, hlt]
    have h49 := S49 p hg s f ((stp p s).exits.getD k 0) hs hff (exits_ok hg hs hcm)
    have htk : (stp p s).exits.take (k + 1) = (stp p s).exits.take k ++ [(stp p s).exits.getD k 0] := by
      rw [List.take_add_one]; simp [List.getD_eq_getElem?_getD, hlt]
    conv => whnf
    conv => whnf
    refine ifB_dec (fun w1 => ?_) (fun w1 => ?_)
    · conv => whnf
      conv => whnf
      refine ⟨[], by kernel_rfl, ?_⟩
      conv => whnf
      conv => whnf
      refine ⟨⟨(by omega), (by omega)⟩, ?_⟩
      conv => whnf
      conv => whnf
      refine .inl ⟨_, _, byX rfl (Sound1.pl (h49) rfl), ?_⟩
      conv => whnf
      conv => whnf
      refine .inl ?_
      conv => whnf
      conv => whnf
      refine ⟨(by show _ * (16 + 1) ≤ _; omega), ?_⟩
      conv => whnf
      conv => whnf
      refine ⟨inK64 (by omega) (by omega), ?_⟩
      conv => whnf
      conv => whnf
      refine ⟨_, _, ⟨⟨k + 1, L ++ [(turnF p f s ((stp p s).exits.getD k 0)).1], n + 1, (turnF p f s ((stp p s).exits.getD k 0)).1, (by rw [List.length_append, hn]; rfl), by omega, by omega, (by rw [htk, List.map_append, hL]; rfl), rfl, rfl⟩, by omega⟩, ⟨⟨.inl rfl, rfl, rfl, rfl⟩, ⟨⟨rfl, rfl, rfl, rfl, fun _ => rfl, fun _ _ => .inl rfl⟩, ⟨⟨rfl, rfl, rfl, rfl, fun _ => rfl, fun _ _ => .inl rfl⟩, ⟨⟨rfl, rfl, rfl, rfl, fun _ => rfl, fun _ _ => .inl rfl⟩, ⟨⟨rfl, rfl, rfl, rfl, fun _ => rfl, fun _ _ => .inl rfl⟩, ⟨⟨rfl, rfl, rfl, rfl, fun _ => rfl, fun i h => .inl (sts_row hn _ i h)⟩, ⟨⟨rfl, rfl, rfl, rfl, fun _ => rfl, fun _ _ => .inl rfl⟩, trivial⟩⟩⟩⟩⟩⟩, trivial⟩⟩
    · (exfalso; omega)
  · have e : L = succs p f s := by
      rw [hL, List.take_of_length_le (by omega)]; rfl
    conv => whnf
    conv => whnf
    refine ifB_dec (fun w1 => ?_) (fun w1 => ?_)
    · (exfalso; omega)
    · conv => whnf
      conv => whnf
      refine ⟨?_, nofun⟩
      rw [← e]
      exact ⟨rfl, hn.symm, fun _ _ => rfl⟩
def hasQ (l : List Rnk) (q : Plc) : Bool := (findN l q l.length).isSome
def lookQ (l : List Rnk) (q : Plc) : Int := match findN l q l.length with | some i => (l.getD i rk0).2 | none => 0
def missF (p : Pln) (l : List Rnk) (s : S2) : Bool := (firstN (fun i => !hasQ l (s, fltAt i)) (2 * p.sig.length + 1) 0).isSome
def missS (p : Pln) (l : List Rnk) (q : Plc) : Bool := (firstN (fun i => !hasQ l ((succs p q.2 q.1).getD i (0, 0), q.2)) (succs p q.2 q.1).length 0).isSome
def rank2E (p : Pln) (l : List Rnk) (r : Rnk) : Int :=
  if decide (r.1.2 = noF) && missF p l r.1.1 then 14 else if missS p l r.1 then 14
  else if homeB p r.1.2 r.1.1 != (r.2 == 0) then 3 else if homeB p r.1.2 r.1.1 then 0
  else match homeTurnF p r.1.2 r.1.1 with | none => 19 | some x => if lookQ l (x.1, r.1.2) < r.2 then 0 else 19
theorem hasQ_find {l : List Rnk} {q : Plc} : hasQ l q = decide (¬ findI l q l.length < 0) := by
  unfold hasQ findI
  cases findN l q l.length with
  | none => rfl
  | some i => exact (decide_eq_true (by show ¬ (i : Int) < 0; omega)).symm
theorem firstN_true {P : Nat → Bool} : ∀ (n i j : Nat), firstN P n i = some j → P j = true ∧ i ≤ j ∧ j < i + n
  | 0, i, j, h => by cases h
  | n + 1, i, j, h => by
    unfold firstN at h
    split at h
    · cases h; rename_i h1; exact ⟨h1, Nat.le_refl _, by omega⟩
    · have := firstN_true n (i + 1) j h; exact ⟨this.1, by omega, by omega⟩
theorem findN_lt {l : List Rnk} {q : Plc} {k i : Nat} (h : findN l q k = some i) : i < k := by
  have := (firstN_true _ _ _ h).2.2
  omega
theorem home_succ {p : Pln} (hg : Good p) {f : Int × Bool} {s : S2} (hs : OkS p s) {x : S2 × Int} (h : homeTurnF p f s = some x) : ∃ i, i < (succs p f s).length ∧ (succs p f s).getD i (0, 0) = x.1 := by
  have key : x.1 ∈ succs p f s := by
    unfold homeTurnF at h
    split at h
    · rename_i h1
      split at h
      · cases h
      · rename_i h2
        cases h
        have hh := ((hg.stp hs).steady h1.1).2.resolve_right h2
        exact List.mem_cons_of_mem _ (List.mem_map.2 ⟨_, hasI_mem.1 hh, rfl⟩)
    · cases h; exact List.mem_cons_self
  obtain ⟨i, hi, h1⟩ := List.getElem_of_mem key
  exact ⟨i, hi, by rw [List.getD_eq_getElem?_getD, List.getElem?_eq_getElem hi]; exact h1⟩
theorem succ_found {p : Pln} (hg : Good p) {l : List Rnk} {f : Int × Bool} {s : S2} (hs : OkS p s) {x : S2 × Int} (h : homeTurnF p f s = some x) (hn : ∀ i, i < (succs p f s).length → (!hasQ l ((succs p f s).getD i (0, 0), f)) = false) : ∃ i, findN l (x.1, f) l.length = some i := by
  obtain ⟨i, h1, h2⟩ := home_succ hg hs h
  have := hn i h1
  rw [h2] at this
  exact Option.isSome_iff_exists.1 (by simpa [hasQ] using this)
theorem rank_a {A e : Int} {h b : Bool} (hF : A = if h != b then 3 else if h then 0 else e) : (¬ h = b → A = 3) ∧ (h = b → h = true → A = 0) ∧ (h = b → h = false → A = e) := by
  refine ⟨fun h1 => hF.trans (if_pos (bne_iff_ne.2 h1)), fun h1 h2 => ?_, fun h1 h2 => ?_⟩
  · subst h1
    rw [hF, if_neg (by simp), if_pos h2]
  · subst h1
    rw [hF, if_neg (by simp), if_neg (by rw [h2]; nofun)]
theorem S112 (p : Pln) (hg : Good p) (l : List Rnk) (hl : l.length ≤ 1000000) (r : Rnk) (hs : OkS p r.1.1) (hff : OkF p r.1.2) : SP 112 [planA p, ranksA l, .agg (rkC r)] (i64 (rank2E p l r)) false := by
  have hat := hs.at
  have h20 := S20
  have hn5 := hg.n
  have hsl : (succs p r.1.2 r.1.1).length ≤ 13 := by
    have : (stp p r.1.1).exits.length ≤ 12 := hg.few.exits _ hs.k
    simp only [succs, List.length_cons, List.length_map]
    omega
  have h59 := S59 p (by omega)
  have h132 := S132 p hg r.1.1 r.1.2 hs hff
  have h31 := S31 p hg r.1.1 r.1.2 hs hff
  have h46 := S46 p hg r.1.1 r.1.2 hs hff
  refine sound (d := 2) tok2 mixed2 Tryd.func112 (by kernel_rfl) (by kernel_rfl) ?_
  conv => whnf
  refine ⟨[], by kernel_rfl, ?_⟩
  conv => whnf
  refine .inl ⟨_, _, byX rfl (Sound1.pl (h20) rfl), ?_⟩
  conv => whnf
  refine ifB_intro (fun w1 => ?_) (fun w1 => ?_)
  · conv => whnf
    refine .inl ⟨_, _, byX rfl (h59), ?_⟩
    have hf : r.1.2 = noF := Prod.ext (veq_if w1).1 (veq_if w1).2
    conv => whnf
    refine ⟨[], [1, 3, 5, 7, 8], fun st mq => ∃ (j : Nat), (j ≤ 2 * p.sig.length + 1) ∧ (∀ i, i < j → (!hasQ l (r.1.1, fltAt i)) = false) ∧ st = ⟨[(1, ranksA l), (3, .optr 0 0 0 0), (5, .optr 1 0 0 0), (7, fts p.sig.length), (8, i64 j)], ⟨[⟨3, 1, fun _ => planC p, 0, false, true, true⟩, ⟨5, 1, fun _ => rkC r, 0, false, true, true⟩], [], none, 0⟩, []⟩ ∧ mq = 2 * p.sig.length + 1 - j,
      ⟨_, _, ⟨0, by omega, fun i h => absurd h (Nat.not_lt_zero i), rfl, rfl⟩, ⟨⟨.inl rfl, rfl, rfl, rfl⟩, ⟨⟨rfl, rfl, rfl, rfl, fun _ => rfl, fun _ _ => .inl rfl⟩, ⟨⟨rfl, rfl, rfl, rfl, fun _ => rfl, fun _ _ => .inl rfl⟩, trivial⟩⟩, trivial⟩⟩, ?_⟩
    rintro s0 m0 ⟨j, hj, hn1, rfl, hmeas⟩
    by_cases hlt : j < 2 * p.sig.length + 1
    · have h111 := S111 l (r.1.1, fltAt (j : Int).toNat) hl (f := fun i => rkC (l.getD i rk0)) (fun _ => rfl)
      have hq := hasQ_find (l := l) (q := (r.1.1, fltAt (j : Int).toNat))
      conv => whnf
      conv => whnf
      refine ifB_dec (fun w2 => ?_) (fun w2 => ?_)
      · conv => whnf
        conv => whnf
        refine ⟨[], by kernel_rfl, ?_⟩
        conv => whnf
        conv => whnf
        refine ⟨⟨(by omega), (by omega)⟩, ?_⟩
        conv => whnf
        conv => whnf
        refine .inl ⟨_, _, byX rfl (Sound1.pl (h111) rfl), ?_⟩
        conv => whnf
        conv => whnf
        refine ifB_dec (fun w3 => ?_) (fun w3 => ?_)
        · conv => whnf
          conv => whnf
          refine ⟨?_, nofun⟩
          have hm : missF p l r.1.1 = true := by
            unfold missF
            rw [firstN_at hlt hn1 (by rw [show hasQ l (r.1.1, fltAt j) = false from hq.trans (decide_eq_false (not_not_intro w3))]; rfl)]; rfl
          refine endi ?_
          unfold rank2E
          rw [hm, decide_eq_true hf]; rfl
        · conv => whnf
          conv => whnf
          refine ⟨inK64 (by omega) (by omega), ?_⟩
          conv => whnf
          conv => whnf
          refine ⟨_, _, ⟨⟨j + 1, by omega, inv_nextB hn1 (by rw [show hasQ l (r.1.1, fltAt j) = true from hq.trans (decide_eq_true w3)]; rfl), rfl, rfl⟩, by omega⟩, ⟨⟨.inl rfl, rfl, rfl, rfl⟩, ⟨⟨rfl, rfl, rfl, rfl, fun _ => rfl, fun _ _ => .inl rfl⟩, ⟨⟨rfl, rfl, rfl, rfl, fun _ => rfl, fun _ _ => .inl rfl⟩, trivial⟩⟩, trivial⟩⟩
      · (exfalso; omega)
    · have hm : missF p l r.1.1 = false := by
        obtain rfl : j = 2 * p.sig.length + 1 := by omega
        unfold missF
        rw [firstN_none hn1]; rfl
      have hF : rank2E p l r = _ := if_neg (by rw [hm, Bool.and_false]; nofun)
      conv => whnf
      conv => whnf
      refine ifB_dec (fun w2 => ?_) (fun w2 => ?_)
      · (exfalso; omega)
      · conv => whnf
        conv => whnf
        refine .inl ⟨_, _, byX rfl (h132), ?_⟩
        conv => whnf
        conv => whnf
        refine ⟨[], [1, 3, 5, 9, 10], fun st mq => ∃ (j : Nat), (j ≤ (succs p r.1.2 r.1.1).length) ∧ (∀ i, i < j → (!hasQ l ((succs p r.1.2 r.1.1).getD i (0, 0), r.1.2)) = false) ∧ st = ⟨[(1, ranksA l), (3, .optr 0 0 0 0), (5, .optr 1 0 0 0), (9, sts (succs p r.1.2 r.1.1)), (10, i64 j)], ⟨[⟨3, 1, fun _ => planC p, 0, false, true, true⟩, ⟨5, 1, fun _ => rkC r, 0, false, true, true⟩], [], none, 0⟩, []⟩ ∧ mq = (succs p r.1.2 r.1.1).length - j,
          ⟨_, _, ⟨0, by omega, fun i h => absurd h (Nat.not_lt_zero i), rfl, rfl⟩, ⟨⟨.inl rfl, rfl, rfl, rfl⟩, ⟨⟨rfl, rfl, rfl, rfl, fun _ => rfl, fun _ _ => .inl rfl⟩, ⟨⟨rfl, rfl, rfl, rfl, fun _ => rfl, fun _ _ => .inl rfl⟩, trivial⟩⟩, trivial⟩⟩, ?_⟩
        rintro s0 m0 ⟨j, hj, hn2, rfl, hmeas⟩
        by_cases hlt : j < (succs p r.1.2 r.1.1).length
        · have h111 := S111 l ((succs p r.1.2 r.1.1).getD (j : Int).toNat (0, 0), r.1.2) hl (f := fun i => rkC (l.getD i rk0)) (fun _ => rfl)
          have hq := hasQ_find (l := l) (q := ((succs p r.1.2 r.1.1).getD (j : Int).toNat (0, 0), r.1.2))
          conv => whnf
          conv => whnf
          conv => whnf
          refine ifB_dec (fun w3 => ?_) (fun w3 => ?_)
          · conv => whnf
            conv => whnf
            conv => whnf
            refine ⟨[], by kernel_rfl, ?_⟩
            conv => whnf
            conv => whnf
            conv => whnf
            refine ⟨⟨(by omega), (by omega)⟩, ?_⟩
            conv => whnf
            conv => whnf
            conv => whnf
            refine .inl ⟨_, _, byX rfl (Sound1.pl (h111) rfl), ?_⟩
            conv => whnf
            conv => whnf
            conv => whnf
            refine ifB_dec (fun w4 => ?_) (fun w4 => ?_)
            · conv => whnf
              conv => whnf
              conv => whnf
              refine ⟨?_, nofun⟩
              rw [hF, missS, firstN_at hlt hn2 (by rw [show hasQ l ((succs p r.1.2 r.1.1).getD j (0, 0), r.1.2) = false from hq.trans (decide_eq_false (not_not_intro w4))]; rfl)]
              rfl
            · conv => whnf
              conv => whnf
              conv => whnf
              refine ⟨inK64 (by omega) (by omega), ?_⟩
              conv => whnf
              conv => whnf
              conv => whnf
              refine ⟨_, _, ⟨⟨j + 1, by omega, inv_nextB hn2 (by rw [show hasQ l ((succs p r.1.2 r.1.1).getD j (0, 0), r.1.2) = true from hq.trans (decide_eq_true w4)]; rfl), rfl, rfl⟩, by omega⟩, ⟨⟨.inl rfl, rfl, rfl, rfl⟩, ⟨⟨rfl, rfl, rfl, rfl, fun _ => rfl, fun _ _ => .inl rfl⟩, ⟨⟨rfl, rfl, rfl, rfl, fun _ => rfl, fun _ _ => .inl rfl⟩, trivial⟩⟩, trivial⟩⟩
          · (exfalso; omega)
        · obtain rfl : j = (succs p r.1.2 r.1.1).length := by omega
          have hS : missS p l r.1 = false := by
            unfold missS
            rw [firstN_none hn2]; rfl
          rw [hS] at hF
          have hF := hF.trans (if_neg nofun)
          cases hx : homeTurnF p r.1.2 r.1.1 with
          | none =>
            rw [hx] at h46 hF
            conv => whnf
            conv => whnf
            conv => whnf
            refine ifB_dec (fun w3 => ?_) (fun w3 => ?_)
            · (exfalso; omega)
            · conv => whnf
              conv => whnf
              conv => whnf
              refine .inl ⟨_, _, byX rfl (Sound1.pl (h31) rfl), ?_⟩
              conv => whnf
              conv => whnf
              conv => whnf
              refine ifB_not ?_
              conv => whnf
              conv => whnf
              conv => whnf
              refine ifB_beqB (fun w4 => ?_) (fun w4 => ?_)
              · conv => whnf
                conv => whnf
                conv => whnf
                refine ifB_intro (fun w5 => ?_) (fun w5 => ?_)
                · conv => whnf
                  conv => whnf
                  conv => whnf
                  refine ⟨?_, nofun⟩
                  exact endi ((rank_a hF).2.1 w4 w5).symm
                · conv => whnf
                  conv => whnf
                  conv => whnf
                  refine .inl ⟨_, _, byX rfl (Sound1.pl (h46) rfl), ?_⟩
                  conv => whnf
                  conv => whnf
                  conv => whnf
                  refine ⟨[], by kernel_rfl, ?_⟩
                  conv => whnf
                  conv => whnf
                  conv => whnf
                  refine ⟨?_, nofun⟩
                  exact endi ((rank_a hF).2.2 w4 w5).symm
              · conv => whnf
                conv => whnf
                conv => whnf
                refine ⟨?_, nofun⟩
                exact endi ((rank_a hF).1 w4).symm
          | some x =>
            rw [hx] at h46 hF
            obtain ⟨i0, hi0⟩ := succ_found hg hs hx hn2
            have hil := findN_lt hi0
            have h111 := S111 l (x.1, r.1.2) hl (f := fun i => rkC (l.getD i rk0)) (fun _ => rfl)
            have hfi : findI l (x.1, r.1.2) l.length = (i0 : Int) := by unfold findI; rw [hi0]
            rw [hfi] at h111
            have hlk : lookQ l (x.1, r.1.2) = (l.getD (i0 : Int).toNat rk0).2 := by unfold lookQ; rw [hi0]; rfl
            conv => whnf
            conv => whnf
            conv => whnf
            refine ifB_dec (fun w3 => ?_) (fun w3 => ?_)
            · (exfalso; omega)
            · conv => whnf
              conv => whnf
              conv => whnf
              refine .inl ⟨_, _, byX rfl (Sound1.pl (h31) rfl), ?_⟩
              conv => whnf
              conv => whnf
              conv => whnf
              refine ifB_not ?_
              conv => whnf
              conv => whnf
              conv => whnf
              refine ifB_beqB (fun w4 => ?_) (fun w4 => ?_)
              · conv => whnf
                conv => whnf
                conv => whnf
                refine ifB_intro (fun w5 => ?_) (fun w5 => ?_)
                · conv => whnf
                  conv => whnf
                  conv => whnf
                  refine ⟨?_, nofun⟩
                  exact endi ((rank_a hF).2.1 w4 w5).symm
                · conv => whnf
                  conv => whnf
                  conv => whnf
                  refine .inl ⟨_, _, byX rfl (Sound1.pl (h46) rfl), ?_⟩
                  conv => whnf
                  conv => whnf
                  conv => whnf
                  refine ⟨[], by kernel_rfl, ?_⟩
                  conv => whnf
                  conv => whnf
                  conv => whnf
                  refine .inl ⟨_, _, byX rfl (Sound1.pl (h111) rfl), ?_⟩
                  conv => whnf
                  conv => whnf
                  conv => whnf
                  refine ⟨⟨(by omega), (by omega)⟩, ?_⟩
                  conv => whnf
                  conv => whnf
                  conv => whnf
                  refine ifB_dec (fun w6 => ?_) (fun w6 => ?_)
                  · conv => whnf
                    conv => whnf
                    conv => whnf
                    refine ⟨?_, nofun⟩
                    exact endi (((rank_a hF).2.2 w4 w5).trans (if_neg (by rw [hlk]; omega))).symm
                  · conv => whnf
                    conv => whnf
                    conv => whnf
                    refine ⟨?_, nofun⟩
                    exact endi (((rank_a hF).2.2 w4 w5).trans (if_pos (by rw [hlk]; omega))).symm
              · conv => whnf
                conv => whnf
                conv => whnf
                refine ⟨?_, nofun⟩
                exact endi ((rank_a hF).1 w4).symm
  · conv => whnf
    refine .inl ⟨_, _, byX rfl (h132), ?_⟩
    have hf : ¬ r.1.2 = noF := fun e => veq_no w1 ⟨congrArg Prod.fst e, congrArg Prod.snd e⟩
    have hF : rank2E p l r = _ := if_neg (by rw [decide_eq_false hf, Bool.false_and]; nofun)
    conv => whnf
    refine ⟨[], [1, 3, 5, 9, 10], fun st mq => ∃ (j : Nat), (j ≤ (succs p r.1.2 r.1.1).length) ∧ (∀ i, i < j → (!hasQ l ((succs p r.1.2 r.1.1).getD i (0, 0), r.1.2)) = false) ∧ st = ⟨[(1, ranksA l), (3, .optr 0 0 0 0), (5, .optr 1 0 0 0), (9, sts (succs p r.1.2 r.1.1)), (10, i64 j)], ⟨[⟨3, 1, fun _ => planC p, 0, false, true, true⟩, ⟨5, 1, fun _ => rkC r, 0, false, true, true⟩], [], none, 0⟩, []⟩ ∧ mq = (succs p r.1.2 r.1.1).length - j,
      ⟨_, _, ⟨0, by omega, fun i h => absurd h (Nat.not_lt_zero i), rfl, rfl⟩, ⟨⟨.inl rfl, rfl, rfl, rfl⟩, ⟨⟨rfl, rfl, rfl, rfl, fun _ => rfl, fun _ _ => .inl rfl⟩, ⟨⟨rfl, rfl, rfl, rfl, fun _ => rfl, fun _ _ => .inl rfl⟩, trivial⟩⟩, trivial⟩⟩, ?_⟩
    rintro s0 m0 ⟨j, hj, hn2, rfl, hmeas⟩
    by_cases hlt : j < (succs p r.1.2 r.1.1).length
    · have h111 := S111 l ((succs p r.1.2 r.1.1).getD (j : Int).toNat (0, 0), r.1.2) hl (f := fun i => rkC (l.getD i rk0)) (fun _ => rfl)
      have hq := hasQ_find (l := l) (q := ((succs p r.1.2 r.1.1).getD (j : Int).toNat (0, 0), r.1.2))
      conv => whnf
      conv => whnf
      refine ifB_dec (fun w2 => ?_) (fun w2 => ?_)
      · conv => whnf
        conv => whnf
        refine ⟨[], by kernel_rfl, ?_⟩
        conv => whnf
        conv => whnf
        refine ⟨⟨(by omega), (by omega)⟩, ?_⟩
        conv => whnf
        conv => whnf
        refine .inl ⟨_, _, byX rfl (Sound1.pl (h111) rfl), ?_⟩
        conv => whnf
        conv => whnf
        refine ifB_dec (fun w3 => ?_) (fun w3 => ?_)
        · conv => whnf
          conv => whnf
          refine ⟨?_, nofun⟩
          rw [hF, missS, firstN_at hlt hn2 (by rw [show hasQ l ((succs p r.1.2 r.1.1).getD j (0, 0), r.1.2) = false from hq.trans (decide_eq_false (not_not_intro w3))]; rfl)]
          rfl
        · conv => whnf
          conv => whnf
          refine ⟨inK64 (by omega) (by omega), ?_⟩
          conv => whnf
          conv => whnf
          refine ⟨_, _, ⟨⟨j + 1, by omega, inv_nextB hn2 (by rw [show hasQ l ((succs p r.1.2 r.1.1).getD j (0, 0), r.1.2) = true from hq.trans (decide_eq_true w3)]; rfl), rfl, rfl⟩, by omega⟩, ⟨⟨.inl rfl, rfl, rfl, rfl⟩, ⟨⟨rfl, rfl, rfl, rfl, fun _ => rfl, fun _ _ => .inl rfl⟩, ⟨⟨rfl, rfl, rfl, rfl, fun _ => rfl, fun _ _ => .inl rfl⟩, trivial⟩⟩, trivial⟩⟩
      · (exfalso; omega)
    · obtain rfl : j = (succs p r.1.2 r.1.1).length := by omega
      have hS : missS p l r.1 = false := by
        unfold missS
        rw [firstN_none hn2]; rfl
      rw [hS] at hF
      have hF := hF.trans (if_neg nofun)
      cases hx : homeTurnF p r.1.2 r.1.1 with
      | none =>
        rw [hx] at h46 hF
        conv => whnf
        conv => whnf
        refine ifB_dec (fun w2 => ?_) (fun w2 => ?_)
        · (exfalso; omega)
        · conv => whnf
          conv => whnf
          refine .inl ⟨_, _, byX rfl (Sound1.pl (h31) rfl), ?_⟩
          conv => whnf
          conv => whnf
          refine ifB_not ?_
          conv => whnf
          conv => whnf
          refine ifB_beqB (fun w3 => ?_) (fun w3 => ?_)
          · conv => whnf
            conv => whnf
            refine ifB_intro (fun w4 => ?_) (fun w4 => ?_)
            · conv => whnf
              conv => whnf
              refine ⟨?_, nofun⟩
              exact endi ((rank_a hF).2.1 w3 w4).symm
            · conv => whnf
              conv => whnf
              refine .inl ⟨_, _, byX rfl (Sound1.pl (h46) rfl), ?_⟩
              conv => whnf
              conv => whnf
              refine ⟨[], by kernel_rfl, ?_⟩
              conv => whnf
              conv => whnf
              refine ⟨?_, nofun⟩
              exact endi ((rank_a hF).2.2 w3 w4).symm
          · conv => whnf
            conv => whnf
            refine ⟨?_, nofun⟩
            exact endi ((rank_a hF).1 w3).symm
      | some x =>
        rw [hx] at h46 hF
        obtain ⟨i0, hi0⟩ := succ_found hg hs hx hn2
        have hil := findN_lt hi0
        have h111 := S111 l (x.1, r.1.2) hl (f := fun i => rkC (l.getD i rk0)) (fun _ => rfl)
        have hfi : findI l (x.1, r.1.2) l.length = (i0 : Int) := by unfold findI; rw [hi0]
        rw [hfi] at h111
        have hlk : lookQ l (x.1, r.1.2) = (l.getD (i0 : Int).toNat rk0).2 := by unfold lookQ; rw [hi0]; rfl
        conv => whnf
        conv => whnf
        refine ifB_dec (fun w2 => ?_) (fun w2 => ?_)
        · (exfalso; omega)
        · conv => whnf
          conv => whnf
          refine .inl ⟨_, _, byX rfl (Sound1.pl (h31) rfl), ?_⟩
          conv => whnf
          conv => whnf
          refine ifB_not ?_
          conv => whnf
          conv => whnf
          refine ifB_beqB (fun w3 => ?_) (fun w3 => ?_)
          · conv => whnf
            conv => whnf
            refine ifB_intro (fun w4 => ?_) (fun w4 => ?_)
            · conv => whnf
              conv => whnf
              refine ⟨?_, nofun⟩
              exact endi ((rank_a hF).2.1 w3 w4).symm
            · conv => whnf
              conv => whnf
              refine .inl ⟨_, _, byX rfl (Sound1.pl (h46) rfl), ?_⟩
              conv => whnf
              conv => whnf
              refine ⟨[], by kernel_rfl, ?_⟩
              conv => whnf
              conv => whnf
              refine .inl ⟨_, _, byX rfl (Sound1.pl (h111) rfl), ?_⟩
              conv => whnf
              conv => whnf
              refine ⟨⟨(by omega), (by omega)⟩, ?_⟩
              conv => whnf
              conv => whnf
              refine ifB_dec (fun w5 => ?_) (fun w5 => ?_)
              · conv => whnf
                conv => whnf
                refine ⟨?_, nofun⟩
                exact endi (((rank_a hF).2.2 w3 w4).trans (if_neg (by rw [hlk]; omega))).symm
              · conv => whnf
                conv => whnf
                refine ⟨?_, nofun⟩
                exact endi (((rank_a hF).2.2 w3 w4).trans (if_pos (by rw [hlk]; omega))).symm
          · conv => whnf
            conv => whnf
            refine ⟨?_, nofun⟩
            exact endi ((rank_a hF).1 w3).symm
end Go.Tr

/- Contracts of chapter 7: which ranks are a proof, the reference. Conditions: none. -/
namespace Go.Tr
open Go Go.Proofs
set_option maxRecDepth 20000
set_option maxHeartbeats 8000000

def rank1E (p : Pln) (l : List Rnk) (i : Nat) : Int :=
  firstOf [stateE p (l.getD i rk0).1.1, faultE p (l.getD i rk0).1.2, if decide (0 ≤ (l.getD i rk0).2 ∧ (l.getD i rk0).2 ≤ 4000) then 0 else 2, if (findN l (l.getD i rk0).1 i).isSome then 23 else 0]
def rankS (p : Pln) : Plc := ((0, p.start), noF)
def ranksF (p : Pln) (l : List Rnk) : Int × Int :=
  match firstN (fun i => rank1E p l i != 0) l.length 0 with
  | some i => (i, rank1E p l i)
  | none => if findI l (rankS p) l.length < 0 then (0, 14) else match firstN (fun i => rank2E p l (l.getD i rk0) != 0) l.length 0 with
    | some i => (i, rank2E p l (l.getD i rk0))
    | none => (0, 0)
theorem ranks_1 {p : Pln} {l : List Rnk} {k : Nat} (hk : k < l.length) (h : ∀ i, i < k → (rank1E p l i != 0) = false) (hp : ¬ rank1E p l k = 0) : ranksF p l = ((k : Int), rank1E p l k) := by
  unfold ranksF
  rw [firstN_at hk h (bne_iff_ne.2 hp)]
theorem ranks_14 {p : Pln} {l : List Rnk} (h : ∀ i, i < l.length → (rank1E p l i != 0) = false) (hs : findI l (rankS p) l.length < 0) : ranksF p l = (0, 14) := by
  unfold ranksF
  rw [firstN_none h]
  exact if_pos hs
theorem ranks_2 {p : Pln} {l : List Rnk} {k : Nat} (h : ∀ i, i < l.length → (rank1E p l i != 0) = false) (hs : ¬ findI l (rankS p) l.length < 0) (hk : k < l.length) (h2 : ∀ i, i < k → (rank2E p l (l.getD i rk0) != 0) = false) (hp : ¬ rank2E p l (l.getD k rk0) = 0) : ranksF p l = ((k : Int), rank2E p l (l.getD k rk0)) := by
  unfold ranksF
  rw [firstN_none h]
  show (if _ then _ else _) = _
  rw [if_neg hs, firstN_at hk h2 (bne_iff_ne.2 hp)]
theorem ranks_0 {p : Pln} {l : List Rnk} (h : ∀ i, i < l.length → (rank1E p l i != 0) = false) (hs : ¬ findI l (rankS p) l.length < 0) (h2 : ∀ i, i < l.length → (rank2E p l (l.getD i rk0) != 0) = false) : ranksF p l = (0, 0) := by
  unfold ranksF
  rw [firstN_none h]
  show (if _ then _ else _) = _
  rw [if_neg hs, firstN_none h2]
theorem rank_ok {p : Pln} {l : List Rnk} {i : Nat} (h : (rank1E p l i != 0) = false) : OkS p (l.getD i rk0).1.1 ∧ OkF p (l.getD i rk0).1.2 := by
  have h := bne_eq_false_iff_eq.1 h
  unfold rank1E at h
  rw [first4_iff] at h
  exact ⟨state_ok.1 h.1, fault_ok h.2.1⟩
theorem rank1_form (p : Pln) (l : List Rnk) (k : Nat) : rank1E p l k = if firstOf [stateE p (l.getD k rk0).1.1, faultE p (l.getD k rk0).1.2] = 0 then (if 0 ≤ (l.getD k rk0).2 ∧ (l.getD k rk0).2 ≤ 4000 then (if findI l (l.getD k rk0).1 k ≥ 0 then 23 else 0) else 2) else firstOf [stateE p (l.getD k rk0).1.1, faultE p (l.getD k rk0).1.2] := by
  unfold rank1E
  generalize stateE p (l.getD k rk0).1.1 = A
  generalize faultE p (l.getD k rk0).1.2 = B
  have e : (if (findN l (l.getD k rk0).1 k).isSome = true then (23 : Int) else 0) = if findI l (l.getD k rk0).1 k ≥ 0 then 23 else 0 := by
    unfold findI
    cases findN l (l.getD k rk0).1 k with
    | none => rfl
    | some i => exact (if_pos (by show (i : Int) ≥ 0; omega)).symm
  rw [e]
  by_cases hA : A = 0
  · by_cases hB : B = 0
    · rw [if_pos (first2_iff.2 ⟨hA, hB⟩)]
      by_cases hW : 0 ≤ (l.getD k rk0).2 ∧ (l.getD k rk0).2 ≤ 4000
      · rw [if_pos hW, if_pos (decide_eq_true hW), hA, hB]
        split <;> rfl
      · rw [if_neg hW, decide_eq_false hW, hA, hB]; rfl
    · rw [if_neg (fun h => hB (first2_iff.1 h).2), hA]
      simp [firstOf, hB]
  · rw [if_neg (fun h => hA (first2_iff.1 h).1)]
    simp [firstOf, hA]
theorem S64b (p : Pln) (l : List Rnk) (hl : ¬ l.length ≤ 4000) : SP 64 [planA p, ranksA l] (t2 0 8) false := by
  refine sound (d := 2) tok2 mixed2 Tryd.func64 (by kernel_rfl) (by kernel_rfl) ?_
  conv => whnf
  refine ifB_dec (fun w1 => ?_) (fun w1 => ?_)
  · conv => whnf
    refine ⟨?_, nofun⟩
    exact ave_tup2 rfl rfl
  · (exfalso; omega)
theorem S64 (p : Pln) (hg : Good p) (l : List Rnk) (hl : l.length ≤ 4000) : SP 64 [planA p, ranksA l] (t2 (ranksF p l).1 (ranksF p l).2) false := by
  have hn5 := hg.n
  have hm10 := hg.m
  have h20 := S20
  refine sound (d := 2) tok2 mixed2 Tryd.func64 (by kernel_rfl) (by kernel_rfl) ?_
  conv => whnf
  refine ifB_dec (fun w1 => ?_) (fun w1 => ?_)
  · (exfalso; omega)
  · conv => whnf
    refine ⟨[], [1, 2, 6], fun st mq => ∃ (k : Nat), (k ≤ l.length) ∧ (∀ i, i < k → (rank1E p l i != 0) = false) ∧ st = ⟨[(1, ranksA l), (2, .optr 0 0 0 0), (6, i64 k)], ⟨[⟨3, 1, fun _ => planC p, 0, false, true, true⟩], [], none, 0⟩, []⟩ ∧ mq = l.length - k,
      ⟨_, _, ⟨0, by omega, fun i h => absurd h (Nat.not_lt_zero i), rfl, rfl⟩, ⟨⟨.inl rfl, rfl, rfl, rfl⟩, ⟨⟨rfl, rfl, rfl, rfl, fun _ => rfl, fun _ _ => .inl rfl⟩, trivial⟩, trivial⟩⟩, ?_⟩
    rintro s0 m0 ⟨k, hk, h1, rfl, hmeas⟩
    by_cases hlt : k < l.length
    · have h60 := S60 p (by omega) (by omega) (l.getD (k : Int).toNat rk0).1.1
      have h61 := S61 p (by omega) (l.getD (k : Int).toNat rk0).1.2
      have h41 := S41 (l.getD (k : Int).toNat rk0).2 0 4000
      have h111 := fun {f : Nat → List AV} h => @S111 l (l.getD (k : Int).toNat rk0).1 k (by omega) f h
      have hF := rank1_form p l k
      conv => whnf
      conv => whnf
      refine ifB_dec (fun w2 => ?_) (fun w2 => ?_)
      · conv => whnf
        conv => whnf
        refine ⟨[], by kernel_rfl, ?_⟩
        conv => whnf
        conv => whnf
        refine ⟨⟨(by omega), (by omega)⟩, ?_⟩
        conv => whnf
        conv => whnf
        refine .inl ⟨_, _, byX rfl (Sound1.pl (h60) rfl), ?_⟩
        conv => whnf
        conv => whnf
        refine ⟨⟨(by omega), (by omega)⟩, ?_⟩
        conv => whnf
        conv => whnf
        refine .inl ⟨_, _, byX rfl (Sound1.pl (h61) rfl), ?_⟩
        conv => whnf
        conv => whnf
        refine .inl ⟨_, _, byX rfl (Sound1.pl (S106_2 _ _ ⟨rfl, rfl⟩) rfl), ?_⟩
        conv => whnf
        conv => whnf
        refine ifB_beq (fun w3 => ?_) (fun w3 => ?_)
        · conv => whnf
          conv => whnf
          refine ⟨⟨(by omega), (by omega)⟩, ?_⟩
          conv => whnf
          conv => whnf
          refine .inl ⟨_, _, byX rfl (Sound1.pl (h41) rfl), ?_⟩
          conv => whnf
          conv => whnf
          refine ifB_not ?_
          conv => whnf
          conv => whnf
          refine ifB_dec (fun w4 => ?_) (fun w4 => ?_)
          · conv => whnf
            conv => whnf
            refine ⟨[], by kernel_rfl, ?_⟩
            conv => whnf
            conv => whnf
            refine ifB_beq (fun w5 => ?_) (fun w5 => ?_)
            · conv => whnf
              conv => whnf
              refine ⟨⟨(by omega), ⟨(by omega), (by omega)⟩⟩, ?_⟩
              conv => whnf
              conv => whnf
              refine ⟨⟨(by omega), (by omega)⟩, ?_⟩
              conv => whnf
              conv => whnf
              refine ⟨⟨(by omega), (by omega)⟩, ?_⟩
              conv => whnf
              conv => whnf
              refine .inl ⟨_, _, byX rfl (Sound1.pl (h111 (fun _ => rfl)) rfl), ?_⟩
              conv => whnf
              conv => whnf
              refine ifB_dec (fun w6 => ?_) (fun w6 => ?_)
              · conv => whnf
                conv => whnf
                refine ⟨?_, nofun⟩
                have e := (hF.trans (if_pos w3)).trans ((if_pos w4).trans (if_pos w6))
                rw [ranks_1 hlt h1 (by rw [e]; decide), e]
                exact ave_tup2 rfl rfl
              · conv => whnf
                conv => whnf
                refine ifB_bne (fun w7 => ?_) (fun w7 => ?_)
                · (exfalso; omega)
                · conv => whnf
                  conv => whnf
                  refine ⟨inK64 (by omega) (by omega), ?_⟩
                  have e := (hF.trans (if_pos w3)).trans ((if_pos w4).trans (if_neg w6))
                  conv => whnf
                  conv => whnf
                  refine ⟨_, _, ⟨⟨k + 1, by omega, inv_nextB h1 (by rw [e]; rfl), rfl, rfl⟩, by omega⟩, ⟨⟨.inl rfl, rfl, rfl, rfl⟩, ⟨⟨rfl, rfl, rfl, rfl, fun _ => rfl, fun _ _ => .inl rfl⟩, trivial⟩, trivial⟩⟩
            · (exfalso; omega)
          · conv => whnf
            conv => whnf
            refine ⟨[], by kernel_rfl, ?_⟩
            conv => whnf
            conv => whnf
            refine ⟨?_, nofun⟩
            have e := (hF.trans (if_pos w3)).trans (if_neg w4)
            rw [ranks_1 hlt h1 (by rw [e]; decide), e]
            exact ave_tup2 rfl rfl
        · conv => whnf
          conv => whnf
          refine ⟨[], by kernel_rfl, ?_⟩
          conv => whnf
          conv => whnf
          refine ifB_beq (fun w4 => ?_) (fun w4 => ?_)
          · (exfalso; omega)
          · conv => whnf
            conv => whnf
            refine ifB_bne (fun w5 => ?_) (fun w5 => ?_)
            · conv => whnf
              conv => whnf
              refine ⟨?_, nofun⟩
              have e := hF.trans (if_neg w3)
              rw [ranks_1 hlt h1 (by rw [e]; exact w3), e]
              exact ave_tup2 rfl rfl
            · (exfalso; omega)
      · (exfalso; omega)
    · obtain rfl : k = l.length := by omega
      have h111 := @S111 l (rankS p) l.length (by omega) (fun i => rkC (l.getD i rk0)) (fun _ => rfl)
      conv => whnf
      conv => whnf
      refine ifB_dec (fun w2 => ?_) (fun w2 => ?_)
      · (exfalso; omega)
      · conv => whnf
        conv => whnf
        refine ⟨[], by kernel_rfl, ?_⟩
        conv => whnf
        conv => whnf
        refine .inl ⟨_, _, byX rfl (Sound1.pl (h20) rfl), ?_⟩
        conv => whnf
        conv => whnf
        refine .inl ⟨_, _, byX rfl (Sound1.pl (h111) rfl), ?_⟩
        conv => whnf
        conv => whnf
        refine ifB_dec (fun w3 => ?_) (fun w3 => ?_)
        · conv => whnf
          conv => whnf
          refine ⟨?_, nofun⟩
          rw [ranks_14 h1 w3]
          exact ave_tup2 rfl rfl
        · conv => whnf
          conv => whnf
          refine ⟨[], [1, 2, 8], fun st mq => ∃ (j : Nat), (j ≤ l.length) ∧ (∀ i, i < j → (rank2E p l (l.getD i rk0) != 0) = false) ∧ st = ⟨[(1, ranksA l), (2, .optr 0 0 0 0), (8, i64 j)], ⟨[⟨3, 1, fun _ => planC p, 0, false, true, true⟩], [], none, 0⟩, []⟩ ∧ mq = l.length - j,
            ⟨_, _, ⟨0, by omega, fun i h => absurd h (Nat.not_lt_zero i), rfl, rfl⟩, ⟨⟨.inl rfl, rfl, rfl, rfl⟩, ⟨⟨rfl, rfl, rfl, rfl, fun _ => rfl, fun _ _ => .inl rfl⟩, trivial⟩, trivial⟩⟩, ?_⟩
          rintro s0 m0 ⟨j, hj, h2, rfl, hmeas⟩
          by_cases hlt2 : j < l.length
          · have hok := rank_ok (h1 j hlt2)
            have h112 := S112 p hg l (by omega) (l.getD (j : Int).toNat rk0) hok.1 hok.2
            conv => whnf
            conv => whnf
            conv => whnf
            refine ifB_dec (fun w4 => ?_) (fun w4 => ?_)
            · conv => whnf
              conv => whnf
              conv => whnf
              refine ⟨[], by kernel_rfl, ?_⟩
              conv => whnf
              conv => whnf
              conv => whnf
              refine ⟨⟨(by omega), (by omega)⟩, ?_⟩
              conv => whnf
              conv => whnf
              conv => whnf
              refine .inl ⟨_, _, byX rfl (Sound1.pl (h112) rfl), ?_⟩
              conv => whnf
              conv => whnf
              conv => whnf
              refine ifB_bne (fun w5 => ?_) (fun w5 => ?_)
              · conv => whnf
                conv => whnf
                conv => whnf
                refine ⟨?_, nofun⟩
                rw [ranks_2 h1 w3 hlt2 h2 w5]
                exact ave_tup2 rfl rfl
              · conv => whnf
                conv => whnf
                conv => whnf
                refine ⟨inK64 (by omega) (by omega), ?_⟩
                conv => whnf
                conv => whnf
                conv => whnf
                refine ⟨_, _, ⟨⟨j + 1, by omega, inv_nextB h2 (bne_eq_false_iff_eq.2 w5), rfl, rfl⟩, by omega⟩, ⟨⟨.inl rfl, rfl, rfl, rfl⟩, ⟨⟨rfl, rfl, rfl, rfl, fun _ => rfl, fun _ _ => .inl rfl⟩, trivial⟩, trivial⟩⟩
            · (exfalso; omega)
          · obtain rfl : j = l.length := by omega
            conv => whnf
            conv => whnf
            conv => whnf
            refine ifB_dec (fun w4 => ?_) (fun w4 => ?_)
            · (exfalso; omega)
            · conv => whnf
              conv => whnf
              conv => whnf
              refine ⟨?_, nofun⟩
              rw [ranks_0 h1 w3 h2]
              exact ave_tup2 rfl rfl
end Go.Tr

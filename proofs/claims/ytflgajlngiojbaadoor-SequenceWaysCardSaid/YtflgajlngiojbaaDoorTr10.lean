/- Contracts of chapter 7: what the package's functions answer. Conditions: none. -/
import Derived.Test.YtflgajlngiojbaaDoorTr09
set_option linter.unusedSectionVars false
set_option linter.unnecessarySimpa false
set_option linter.unusedVariables false
set_option linter.unusedSimpArgs false

namespace Go.Tr
open Go Go.Proofs
set_option maxRecDepth 20000
set_option maxHeartbeats 8000000

abbrev tnA (f : Int × Bool) (c : Int) : AV := .agg [i64 f.1, vb f.2, i64 c]
def mayB (p : Pln) (s : S2) (c : Int) : Bool := decide (c = -1) || (decide ((stp p s).wait = 0) && hasI (stp p s).exits c)
def turnE (p : Pln) (s : S2) (f : Int × Bool) (c : Int) : Int := if openE p s f = 0 then (if mayB p s c then 0 else 24) else openE p s f
def turnR (p : Pln) (s : S2) (f : Int × Bool) (c : Int) : AV :=
  if turnE p s f c ≠ 0 then .tuple [stA (0, 0), i64 0, i64 (turnE p s f c)] else .tuple [stA (turnF p f s c).1, i64 (turnF p f s c).2, i64 0]
def homeR (p : Pln) (s : S2) (f : Int × Bool) : AV :=
  if openE p s f ≠ 0 then .tuple [sts [], i64 0, i64 (openE p s f)] else match homeF p f s with | none => .tuple [sts [], i64 0, i64 12] | some x => .tuple [sts x.1, i64 x.2, i64 0]
def htR (p : Pln) (s : S2) (f : Int × Bool) : AV :=
  if openE p s f ≠ 0 then .tuple [stA (0, 0), i64 0, i64 (openE p s f)] else match homeTurnF p f s with | none => .tuple [stA (0, 0), i64 0, i64 21] | some x => .tuple [stA x.1, i64 x.2, i64 0]
def seenR (p : Pln) (s : S2) (f : Int × Bool) : AV := if openE p s f ≠ 0 then t2 0 (openE p s f) else t2 (seenB s.2 f) 0
theorem S44 (p : Pln) (hp : FewP p) (s : S2) (f : Int × Bool) : SP 44 [planA p, stA s, ftA f] (seenR p s f) false := by
  have h67 := S67 p hp s f
  have h90 := S90 s.2 f
  unfold seenR
  refine sound (d := 2) tok2 mixed2 Tryd.func44 (by kernel_rfl) (by kernel_rfl) ?_
  conv => whnf
  refine .inl ⟨_, _, byX rfl (h67), ?_⟩
  conv => whnf
  refine ifB_bne (fun w1 => ?_) (fun w1 => ?_)
  · conv => whnf
    refine ⟨?_, nofun⟩
    rw [if_pos w1]; exact ave_tup2 rfl rfl
  · conv => whnf
    refine .inl ⟨_, _, byX rfl (Sound1.pl (h90) rfl), ?_⟩
    conv => whnf
    refine ⟨?_, nofun⟩
    rw [if_neg (not_not_intro w1)]; exact ave_tup2 rfl rfl
theorem S30 (p : Pln) (hp : FewP p) (s : S2) (f : Int × Bool) : SP 30 [planA p, stA s, ftA f] (htR p s f) false := by
  have h67 := S67 p hp s f
  unfold htR
  by_cases h0 : openE p s f = 0
  · rw [if_neg (not_not_intro h0)]
    rw [h0] at h67
    obtain ⟨hg, hs, hf⟩ := open_ok hp h0
    have h81 := S81 p s f hs.at
    cases hx : homeTurnF p f s with
    | none =>
      rw [hx] at h81
      refine sound (d := 2) tok2 mixed2 Tryd.func30 (by kernel_rfl) (by kernel_rfl) ?_
      conv => whnf
      refine .inl ⟨_, _, byX rfl (h67), ?_⟩
      conv => whnf
      refine .inl ⟨_, _, byX rfl (Sound1.pl (h81) rfl), ?_⟩
      conv => whnf
      refine ⟨[], by kernel_rfl, ?_⟩
      conv => whnf
      refine .inl ⟨_, _, byX rfl (Sound1.pl (S69 _ _) rfl), ?_⟩
      conv => whnf
      refine ⟨?_, nofun⟩
      exact ave_tup3 (ave_agg2 (k := 3) rfl rfl) rfl rfl
    | some x =>
      rw [hx] at h81
      refine sound (d := 2) tok2 mixed2 Tryd.func30 (by kernel_rfl) (by kernel_rfl) ?_
      conv => whnf
      refine .inl ⟨_, _, byX rfl (h67), ?_⟩
      conv => whnf
      refine .inl ⟨_, _, byX rfl (Sound1.pl (h81) rfl), ?_⟩
      conv => whnf
      refine ⟨[], by kernel_rfl, ?_⟩
      conv => whnf
      refine .inl ⟨_, _, byX rfl (Sound1.pl (S69 _ _) rfl), ?_⟩
      conv => whnf
      refine ⟨?_, nofun⟩
      exact ave_tup3 (ave_agg2 (k := 3) rfl rfl) rfl rfl
  · rw [if_pos h0]
    refine sound (d := 2) tok2 mixed2 Tryd.func30 (by kernel_rfl) (by kernel_rfl) ?_
    conv => whnf
    refine .inl ⟨_, _, byX rfl (h67), ?_⟩
    conv => whnf
    refine ifB_bne (fun w1 => ?_) (fun w1 => ?_)
    · conv => whnf
      refine ⟨?_, nofun⟩
      exact ave_tup3 (ave_agg2 (k := 3) rfl rfl) rfl rfl
    · (exfalso; omega)
theorem S27 (p : Pln) (hp : FewP p) (s : S2) (f : Int × Bool) : SP 27 [planA p, stA s, ftA f] (homeR p s f) false := by
  have h67 := S67 p hp s f
  unfold homeR
  by_cases h0 : openE p s f = 0
  · rw [if_neg (not_not_intro h0)]
    rw [h0] at h67
    obtain ⟨hg, hs, hf⟩ := open_ok hp h0
    have h79 := S79 p hg f s hs
    cases hx : homeF p f s with
    | none =>
      rw [hx] at h79
      refine sound (d := 2) tok2 mixed2 Tryd.func27 (by kernel_rfl) (by kernel_rfl) ?_
      conv => whnf
      refine .inl ⟨_, _, byX rfl (h67), ?_⟩
      conv => whnf
      refine .inl ⟨_, _, byX rfl (h79), ?_⟩
      conv => whnf
      refine .inl ⟨_, _, byX rfl (Sound1.pl (S69 _ _) rfl), ?_⟩
      conv => whnf
      refine ⟨?_, nofun⟩
      exact ave_tup3 ⟨rfl, rfl, fun _ _ => rfl⟩ rfl rfl
    | some x =>
      rw [hx] at h79
      refine sound (d := 2) tok2 mixed2 Tryd.func27 (by kernel_rfl) (by kernel_rfl) ?_
      conv => whnf
      refine .inl ⟨_, _, byX rfl (h67), ?_⟩
      conv => whnf
      refine .inl ⟨_, _, byX rfl (h79), ?_⟩
      conv => whnf
      refine .inl ⟨_, _, byX rfl (Sound1.pl (S69 _ _) rfl), ?_⟩
      conv => whnf
      refine ⟨?_, nofun⟩
      exact ave_tup3 ⟨rfl, rfl, fun _ _ => rfl⟩ rfl rfl
  · rw [if_pos h0]
    refine sound (d := 2) tok2 mixed2 Tryd.func27 (by kernel_rfl) (by kernel_rfl) ?_
    conv => whnf
    refine .inl ⟨_, _, byX rfl (h67), ?_⟩
    conv => whnf
    refine ifB_bne (fun w1 => ?_) (fun w1 => ?_)
    · conv => whnf
      refine ⟨?_, nofun⟩
      exact ave_tup3 rfl rfl rfl
    · (exfalso; omega)
theorem S45 (p : Pln) (hp : FewP p) (s : S2) (f : Int × Bool) (c : Int) : SP 45 [planA p, stA s, tnA f c] (turnR p s f c) false := by
  have h67 := S67 p hp s f
  unfold turnR
  by_cases h0 : openE p s f = 0
  · rw [h0] at h67
    obtain ⟨hg, hs, hf⟩ := open_ok hp h0
    have h91 := S91 (stp p s) c (by have := hp.exits _ hs.k; show (p.steps.getD s.1.toNat stp0).exits.length ≤ _; omega)
    have h92 := S92 p s f c hs.at
    have hat := hs.at
    have hE : turnE p s f c = if mayB p s c then 0 else 24 := by unfold turnE; rw [if_pos h0]
    rw [hE]
    cases hm : mayB p s c with
    | true =>
      rw [show (decide (c = -1) || (decide ((stp p s).wait = 0) && hasI (stp p s).exits c)) = true from hm] at h91
      refine sound (d := 2) tok2 mixed2 Tryd.func45 (by kernel_rfl) (by kernel_rfl) ?_
      conv => whnf
      refine .inl ⟨_, _, byX rfl (h67), ?_⟩
      conv => whnf
      refine ⟨[], by kernel_rfl, ?_⟩
      conv => whnf
      refine ⟨⟨(by omega), (by omega)⟩, ?_⟩
      conv => whnf
      refine .inl ⟨_, _, byX rfl (Sound1.pl (h91) rfl), ?_⟩
      conv => whnf
      refine .inl ⟨_, _, byX rfl (Sound1.pl (S69 _ _) rfl), ?_⟩
      conv => whnf
      refine .inl ⟨_, _, byX rfl (Sound1.pl (h92) rfl), ?_⟩
      conv => whnf
      refine ⟨?_, nofun⟩
      exact ave_tup3 (ave_agg2 (k := 3) rfl rfl) rfl rfl
    | false =>
      rw [show (decide (c = -1) || (decide ((stp p s).wait = 0) && hasI (stp p s).exits c)) = false from hm] at h91
      refine sound (d := 2) tok2 mixed2 Tryd.func45 (by kernel_rfl) (by kernel_rfl) ?_
      conv => whnf
      refine .inl ⟨_, _, byX rfl (h67), ?_⟩
      conv => whnf
      refine ⟨[], by kernel_rfl, ?_⟩
      conv => whnf
      refine ⟨⟨(by omega), (by omega)⟩, ?_⟩
      conv => whnf
      refine .inl ⟨_, _, byX rfl (Sound1.pl (h91) rfl), ?_⟩
      conv => whnf
      refine .inl ⟨_, _, byX rfl (Sound1.pl (S69 _ _) rfl), ?_⟩
      conv => whnf
      refine ⟨?_, nofun⟩
      exact ave_tup3 (ave_agg2 (k := 3) rfl rfl) rfl rfl
  · have hE : turnE p s f c = openE p s f := by unfold turnE; rw [if_neg h0]
    rw [hE, if_pos h0]
    refine sound (d := 2) tok2 mixed2 Tryd.func45 (by kernel_rfl) (by kernel_rfl) ?_
    conv => whnf
    refine .inl ⟨_, _, byX rfl (h67), ?_⟩
    conv => whnf
    refine ifB_beq (fun w1 => ?_) (fun w1 => ?_)
    · (exfalso; omega)
    · conv => whnf
      refine ifB_bne (fun w2 => ?_) (fun w2 => ?_)
      · conv => whnf
        refine ⟨?_, nofun⟩
        exact ave_tup3 (ave_agg2 (k := 3) rfl rfl) rfl rfl
      · (exfalso; omega)
theorem S23 (a b : List Int) (ha : a.length ≤ 1000000000) (hb : b.length ≤ 1000000000) : SP 23 [ints a, ints b] (vb (decide (a = b))) false := by
  refine sound (d := 2) tok2 mixed2 Tryd.func23 (by kernel_rfl) (by kernel_rfl) ?_
  conv => whnf
  refine ifB_bne (fun w1 => ?_) (fun w1 => ?_)
  · conv => whnf
    refine ⟨?_, nofun⟩
    show vb false = vb _
    rw [decide_eq_false]
    intro e; subst e; exact w1 rfl
  · have hab : a.length = b.length := by omega
    conv => whnf
    refine ⟨[], [0, 1, 5], fun st mq => ∃ (k : Nat), (k ≤ a.length) ∧ (∀ i, i < k → a.getD i 0 = b.getD i 0) ∧ st = ⟨[(0, ints a), (1, ints b), (5, i64 k)], ⟨[], [], none, 0⟩, []⟩ ∧ mq = a.length - k,
      ⟨_, _, ⟨0, by omega, fun i h => absurd h (Nat.not_lt_zero i), rfl, rfl⟩, ⟨⟨.inl rfl, rfl, rfl, rfl⟩, trivial, trivial⟩⟩, ?_⟩
    rintro s0 m0 ⟨k, hk, h1, rfl, hmeas⟩
    conv => whnf
    conv => whnf
    refine ifB_dec (fun w2 => ?_) (fun w2 => ?_)
    · conv => whnf
      conv => whnf
      refine ⟨[], by kernel_rfl, ?_⟩
      conv => whnf
      conv => whnf
      refine ⟨⟨(by omega), (by omega)⟩, ?_⟩
      conv => whnf
      conv => whnf
      refine ⟨⟨(by omega), (by omega)⟩, ?_⟩
      conv => whnf
      conv => whnf
      refine ifB_bne (fun w3 => ?_) (fun w3 => ?_)
      · conv => whnf
        conv => whnf
        refine ⟨?_, nofun⟩
        have e : ¬ a.getD k 0 = b.getD k 0 := w3
        show vb false = vb _
        rw [decide_eq_false]
        intro h; subst h; exact e rfl
      · conv => whnf
        conv => whnf
        refine ⟨inK64 (by omega) (by omega), ?_⟩
        have e : a.getD k 0 = b.getD k 0 := w3
        conv => whnf
        conv => whnf
        refine ⟨_, _, ⟨⟨k + 1, by omega, fun i hi => (by rcases Nat.lt_or_ge i k with h | h; exact h1 i h; rw [show i = k by omega]; exact e), rfl, rfl⟩, by omega⟩, ⟨⟨.inl rfl, rfl, rfl, rfl⟩, trivial, trivial⟩⟩
    · conv => whnf
      conv => whnf
      refine ⟨?_, nofun⟩
      have e : k = a.length := by omega
      subst e
      show vb true = vb _
      rw [decide_eq_true]
      apply List.ext_getElem hab
      intro i h2 h3
      have := h1 i h2
      simpa [List.getD_eq_getElem?_getD, h2, h3] using this
end Go.Tr

/- Contracts of chapter 7: the examples of the chapter. Conditions: none. -/
namespace Go.Tr
open Go Go.Proofs
set_option maxRecDepth 20000
set_option maxHeartbeats 8000000

def bS (l : List UInt8) : ByteArray := ⟨l.toArray⟩
def nOpen : ByteArray := bS [111, 112, 101, 110]
def nSpeed : ByteArray := bS [115, 112, 101, 101, 100]
def nRest : ByteArray := bS [114, 101, 115, 116]
def nStart : ByteArray := bS [115, 116, 97, 114, 116]
def nTurb : ByteArray := bS [116, 117, 114, 98, 105, 110, 101]
def nStop : ByteArray := bS [115, 116, 111, 112]
def nBrake : ByteArray := bS [98, 114, 97, 107, 101]
def plE : Pln := ⟨[nOpen, nSpeed], 0,
  [⟨nRest, true, 0, 0, 0, 1, [1], 0, 0, 0, 0, 0, 0, 0⟩,
   ⟨nStart, false, 0, 3, 60, 0, [], 3, 0, 3, 0, 30, 2, 3⟩,
   ⟨nTurb, false, 2, 3, 0, 3, [3], 0, 0, 0, 0, 0, 0, 0⟩,
   ⟨nStop, false, 0, 3, 40, 0, [], 0, 2, 0, 3, 20, 0, 4⟩,
   ⟨nBrake, false, 0, 4, 90, 0, [], 0, 1, 0, 3, 50, 0, 0⟩]⟩
def haE : Hal := ⟨2, [(2, 1, 0), (3, 0, 1)]⟩
theorem S66 : SP 66 [] (hallA haE) false := by
  refine sound (d := 2) tok2 mixed2 Tryd.func66 (by kernel_rfl) (by kernel_rfl) ?_
  conv => whnf
  refine ⟨?_, nofun⟩
  refine ave_agg2 (k := 4) rfl ⟨rfl, rfl, fun i hi => ?_⟩
  match i, hi with
  | 0, _ => rfl
  | 1, _ => rfl
/-- Lists equal in depth. -/
def AVL (n : Nat) (l l' : List AV) : Prop := l.length = l'.length ∧ ∀ j x y, nth? l j = some x → nth? l' j = some y → x = y ∨ AVF n x y
theorem AVL_nil (n : Nat) : AVL n [] [] := ⟨rfl, fun _ _ _ h => by cases h⟩
theorem AVL_cons {n : Nat} {x y : AV} {l l' : List AV} (h : x = y ∨ AVF n x y) (hl : AVL n l l') : AVL n (x :: l) (y :: l') := by
  refine ⟨congrArg (· + 1) hl.1, fun j a b ha hb => ?_⟩
  match j, ha, hb with
  | 0, ha, hb => cases ha; cases hb; exact h
  | j + 1, ha, hb => exact hl.2 j a b ha hb
theorem AVL_step {n : Nat} {a b c d e f x h i j k l m o : AV} {s : Stp} (hs : stpC s = [a, b, c, d, e, f, ints s.exits, h, i, j, k, l, m, o]) (hx : AVF n x (ints s.exits)) : AVL n [a, b, c, d, e, f, x, h, i, j, k, l, m, o] (stpC s) := by
  rw [hs]
  exact AVL_cons (.inl rfl) (AVL_cons (.inl rfl) (AVL_cons (.inl rfl) (AVL_cons (.inl rfl) (AVL_cons (.inl rfl) (AVL_cons (.inl rfl) (AVL_cons (.inr hx) (AVL_cons (.inl rfl) (AVL_cons (.inl rfl) (AVL_cons (.inl rfl) (AVL_cons (.inl rfl) (AVL_cons (.inl rfl) (AVL_cons (.inl rfl) (AVL_cons (.inl rfl) (AVL_nil n))))))))))))))
theorem ave_pl {a b c d : Nat} {f g : Nat → List AV} {v : Value} : AVE 5 (.agg [.rslice a b f, .val v, .rslice c d g]) (.agg [.rslice a b f, .val v, .rslice c d g]) := ave_agg3 ⟨rfl, rfl, fun _ _ => rfl⟩ rfl ⟨rfl, rfl, fun _ _ => rfl⟩
theorem S65 : SP 65 [] (planA plE) false := by
  have h : ∃ R, SP 65 [] R false ∧ AVF 5 R (planA plE) := by
    refine ⟨?R, ?h1, ?h2⟩
    case h1 =>
      refine sound (d := 2) tok2 mixed2 Tryd.func65 (by kernel_rfl) (by kernel_rfl) ?_
      conv => whnf
      refine ⟨?_, nofun⟩
      exact ave_pl
    case h2 =>
      refine AVL_cons (.inr ⟨rfl, rfl, fun i hi => ?_⟩) (AVL_cons (.inl rfl) (AVL_cons (.inr ⟨rfl, rfl, fun i hi => ?_⟩) (AVL_nil _)))
      · match i, hi with
        | 0, _ => exact AVL_cons (.inl rfl) (AVL_nil _)
        | 1, _ => exact AVL_cons (.inl rfl) (AVL_nil _)
      · match i, hi with
        | 0, _ => exact AVL_step rfl ⟨rfl, rfl, fun i hi => (by match i, hi with | 0, _ => exact AVL_cons (.inl rfl) (AVL_nil _))⟩
        | 1, _ => exact AVL_step rfl rfl
        | 2, _ => exact AVL_step rfl ⟨rfl, rfl, fun i hi => (by match i, hi with | 0, _ => exact AVL_cons (.inl rfl) (AVL_nil _))⟩
        | 3, _ => exact AVL_step rfl rfl
        | 4, _ => exact AVL_step rfl rfl
  obtain ⟨R, h1, h2⟩ := h
  exact h1.resD h2
theorem fewE : FewP plE := by
  refine ⟨by decide, by decide, fun i hi => ?_, fun i hi => ?_, fun i hi => ?_⟩
  · match i, hi with
    | 0, _ => decide
    | 1, _ => decide
  · match i, hi with
    | 0, _ => decide
    | 1, _ => decide
    | 2, _ => decide
    | 3, _ => decide
    | 4, _ => decide
  · match i, hi with
    | 0, _ => decide
    | 1, _ => decide
    | 2, _ => decide
    | 3, _ => decide
    | 4, _ => decide
theorem ex_turn : turnE plE (1, 0) noF (-1) = 0 ∧ turnF plE noF (1, 0) (-1) = ((2, 3), 30) := by decide +kernel
theorem ex_home : openE plE (2, 3) (1, true) = 0 ∧ (homeF plE (1, true) (2, 3)).map (fun x => (x.1.length, x.2)) = some (3, 91) := by decide +kernel
theorem ex_fast : fastE plE (0, 0) 2 = 0 ∧ bestW plE (0, 0) 2 11 = some ([1], 31) := by decide +kernel
theorem ex_hall : openH haE [2, 1] = 0 ∧ brokenF haE [2, 1] = some (0, 0) ∧ openH haE [0, 0] = 0 ∧ brokenF haE [0, 0] = none := by decide +kernel
theorem S35_2 (h : Hal) (hr : h.rules.length ≤ 1000) (a b : Int) {f : Nat → List AV} (hf : f 0 = [i64 a] ∧ f 1 = [i64 b]) : SP 35 [hallA h, .rslice 1 2 f] (brokenR h [a, b]) false := by
  have key : ∀ i, i < 2 → f i = [i64 (([a, b] : List Int).getD i 0)] := fun i hi => by
    match i, hi with
    | 0, _ => exact hf.1
    | 1, _ => exact hf.2
  refine (S35 h hr [a, b] (by simp)).argsD rfl fun i y x hy hx => ?_
  match i, hy, hx with
  | 0, hy, hx => cases hy; cases hx; exact .inl rfl
  | 1, hy, hx => cases hy; cases hx; exact .inr ⟨1, AVF_rows rfl key 0⟩
theorem S23_1 (l : List Int) (hl : l.length ≤ 1000000) (a : Int) {f : Nat → List AV} (hf : f 0 = [i64 a]) : SP 23 [ints l, .rslice 1 1 f] (vb (decide (l = [a]))) false := by
  have key : ∀ i, i < 1 → f i = [i64 (([a] : List Int).getD i 0)] := fun i hi => by
    match i, hi with
    | 0, _ => exact hf
  refine (S23 l [a] (by omega) (by simp)).argsD rfl fun i y x hy hx => ?_
  match i, hy, hx with
  | 0, hy, hx => cases hy; cases hx; exact .inl rfl
  | 1, hy, hx => cases hy; cases hx; exact .inr ⟨1, AVF_rows rfl key 0⟩
theorem S13 : SP 13 [] (vb true) false := by
  have h45 := S45 plE fewE (1, 0) noF (-1)
  have h27 := S27 plE fewE (2, 3) (1, true)
  have h17 := S17 plE fewE (0, 0) 2
  have h35a := @S35_2 haE (by decide) 2 1
  have h35b := @S35_2 haE (by decide) 0 0
  have h23 := @S23_1 [1] (by decide) 1
  have e1 : turnR plE (1, 0) noF (-1) = .tuple [stA (2, 3), i64 30, i64 0] := by unfold turnR; rw [ex_turn.1, ex_turn.2]; rfl
  have e2 : fastR plE (0, 0) 2 = .tuple [ints [1], i64 31, i64 0] := by unfold fastR; rw [ex_fast.1, ex_fast.2]; rfl
  have e3 : brokenR haE [2, 1] = .tuple [stA (0, 0), i64 0] := by unfold brokenR; rw [ex_hall.1, ex_hall.2.1]; rfl
  have e4 : brokenR haE [0, 0] = .tuple [stA (0, 0), i64 12] := by unfold brokenR; rw [ex_hall.2.2.1, ex_hall.2.2.2]; rfl
  obtain ⟨l, hl, e5⟩ : ∃ l : List S2, l.length = 3 ∧ homeR plE (2, 3) (1, true) = .tuple [sts l, i64 91, i64 0] := by
    obtain ⟨x, h1, h2⟩ := Option.map_eq_some_iff.1 ex_home.2
    refine ⟨x.1, congrArg Prod.fst h2, ?_⟩
    unfold homeR
    rw [ex_home.1, h1, if_neg (not_not_intro rfl)]
    show AV.tuple [sts x.1, i64 x.2, i64 0] = _
    rw [show x.2 = 91 from congrArg Prod.snd h2]
  rw [e1] at h45
  rw [e2] at h17
  rw [e5] at h27
  rw [e3] at h35a
  rw [e4] at h35b
  refine sound (d := 2) tok2 mixed2 Tryd.func13 (by kernel_rfl) (by kernel_rfl) ?_
  conv => whnf
  refine .inl ⟨_, _, byX rfl (S65), ?_⟩
  conv => whnf
  refine .inl ⟨_, _, byX rfl (Sound1.pl (S20) rfl), ?_⟩
  conv => whnf
  refine .inl ⟨_, _, byX rfl (Sound1.pl (h45) rfl), ?_⟩
  conv => whnf
  refine .inl ⟨_, _, byX rfl (S65), ?_⟩
  conv => whnf
  refine .inl ⟨_, _, byX rfl (h27), ?_⟩
  conv => whnf
  refine .inl ⟨_, _, byX rfl (S65), ?_⟩
  conv => whnf
  refine .inl ⟨_, _, byX rfl (h17), ?_⟩
  conv => whnf
  refine .inl ⟨_, _, byX rfl (S66), ?_⟩
  conv => whnf
  refine .inl ⟨_, _, byX rfl (Sound1.pl (h35a ⟨rfl, rfl⟩) rfl), ?_⟩
  conv => whnf
  refine .inl ⟨_, _, byX rfl (S66), ?_⟩
  conv => whnf
  refine .inl ⟨_, _, byX rfl (Sound1.pl (h35b ⟨rfl, rfl⟩) rfl), ?_⟩
  conv => whnf
  refine ifB_beq (fun w1 => ?_) (fun w1 => ?_)
  · conv => whnf
    refine .inl ⟨_, _, byX rfl (Sound1.pl (h23 rfl) rfl), ?_⟩
    conv => whnf
    refine ⟨?_, nofun⟩
    rfl
  · (exfalso; omega)
end Go.Tr

/- Data of chapter 7 that the ends share. Conditions: none. -/
namespace Go.Tr
open Go Go.Proofs
abbrev entsA (L : List (Int × Int)) : AV := .rslice 2 L.length fun i => [i64 (L.getD i (0, 0)).1, i64 (L.getD i (0, 0)).2]
end Go.Tr

/- Contracts of chapter 7: few plans, copies. Conditions: none. -/
namespace Go.Tr
open Go Go.Proofs
set_option maxRecDepth 20000
set_option maxHeartbeats 8000000

def fewSt (s : Stp) : Bool := decide (s.name.size ≤ 30) && decide (s.exits.length ≤ 12)
def fewB (p : Pln) : Bool := decide (p.sig.length ≤ 7) && decide (p.steps.length ≤ 12) && (p.sig.all fun s => decide (s.size ≤ 30)) && p.steps.all fewSt
theorem FewP.of {p : Pln} (h : fewB p = true) : FewP p := by
  unfold fewB at h
  rw [Bool.and_eq_true, Bool.and_eq_true, Bool.and_eq_true, decide_eq_true_iff, decide_eq_true_iff, List.all_eq_true, List.all_eq_true] at h
  obtain ⟨⟨⟨h1, h2⟩, h3⟩, h4⟩ := h
  refine ⟨h1, h2, fun i hi => ?_, fun i hi => ?_, fun i hi => ?_⟩
  · have := h3 (p.sig.getD i ByteArray.empty) (by simp [List.getD_eq_getElem?_getD, hi])
    exact of_decide_eq_true this
  · have := h4 (p.steps.getD i stp0) (by simp [List.getD_eq_getElem?_getD, hi])
    unfold fewSt at this
    rw [Bool.and_eq_true, decide_eq_true_iff, decide_eq_true_iff] at this
    exact this.1
  · have := h4 (p.steps.getD i stp0) (by simp [List.getD_eq_getElem?_getD, hi])
    unfold fewSt at this
    rw [Bool.and_eq_true, decide_eq_true_iff, decide_eq_true_iff] at this
    exact this.2
theorem few_n1 {p : Pln} (h : ¬ p.sig.length ≤ 7) : fewB p = false := by
  unfold fewB
  rw [decide_eq_false h]; rfl
theorem few_n2 {p : Pln} (h : ¬ p.steps.length ≤ 12) : fewB p = false := by
  unfold fewB
  rw [decide_eq_false h, Bool.and_false]; rfl
theorem few_n3 {p : Pln} {k : Nat} (hk : k < p.sig.length) (h : ¬ (p.sig.getD k ByteArray.empty).size ≤ 30) : fewB p = false := by
  cases hf : fewB p with
  | false => rfl
  | true => exact absurd ((FewP.of hf).size k hk) h
theorem few_n4 {p : Pln} {k : Nat} (hk : k < p.steps.length) (h : ¬ ((p.steps.getD k stp0).name.size ≤ 30 ∧ (p.steps.getD k stp0).exits.length ≤ 12)) : fewB p = false := by
  cases hf : fewB p with
  | false => rfl
  | true => exact absurd ⟨(FewP.of hf).name k hk, (FewP.of hf).exits k hk⟩ h
theorem few_y {p : Pln} (h1 : p.sig.length ≤ 7) (h2 : p.steps.length ≤ 12) (h3 : ∀ i, i < p.sig.length → (p.sig.getD i ByteArray.empty).size ≤ 30) (h4 : ∀ i, i < p.steps.length → (p.steps.getD i stp0).name.size ≤ 30 ∧ (p.steps.getD i stp0).exits.length ≤ 12) : fewB p = true := by
  unfold fewB
  rw [decide_eq_true h1, decide_eq_true h2, Bool.true_and, Bool.true_and, Bool.and_eq_true, List.all_eq_true, List.all_eq_true]
  refine ⟨fun s hs => ?_, fun s hs => ?_⟩
  · obtain ⟨i, hi, rfl⟩ := List.getElem_of_mem hs
    have := h3 i hi
    exact decide_eq_true (by simpa [List.getD_eq_getElem?_getD, hi] using this)
  · obtain ⟨i, hi, rfl⟩ := List.getElem_of_mem hs
    have := h4 i hi
    unfold fewSt
    rw [Bool.and_eq_true, decide_eq_true_iff, decide_eq_true_iff]
    simpa [List.getD_eq_getElem?_getD, hi] using this
theorem S14 (p : Pln) (hl : p.sig.length ≤ 9223372036854775807 ∧ p.steps.length ≤ 9223372036854775807) : SP 14 [planA p] (vb (fewB p)) false := by
  refine sound (d := 2) tok2 mixed2 Tryd.func14 (by kernel_rfl) (by kernel_rfl) ?_
  conv => whnf
  refine ifB_dec (fun w1 => ?_) (fun w1 => ?_)
  · conv => whnf
    refine ⟨?_, nofun⟩
    exact endb (few_n1 (by omega)).symm
  · conv => whnf
    refine ifB_dec (fun w2 => ?_) (fun w2 => ?_)
    · conv => whnf
      refine ⟨?_, nofun⟩
      exact endb (few_n2 (by omega)).symm
    · conv => whnf
      refine ⟨[], [1, 3], fun st mq => ∃ (k : Nat), (k ≤ p.sig.length) ∧ (∀ i, i < k → (p.sig.getD i ByteArray.empty).size ≤ 30) ∧ st = ⟨[(1, .optr 0 0 0 0), (3, i64 k)], ⟨[⟨3, 1, fun _ => planC p, 0, false, true, true⟩], [], none, 0⟩, []⟩ ∧ mq = p.sig.length - k,
        ⟨_, _, ⟨0, by omega, fun i h => absurd h (Nat.not_lt_zero i), rfl, rfl⟩, ⟨⟨.inl rfl, rfl, rfl, rfl⟩, ⟨⟨rfl, rfl, rfl, rfl, fun _ => rfl, fun _ _ => .inl rfl⟩, trivial⟩, trivial⟩⟩, ?_⟩
      rintro s0 m0 ⟨k, hk, g3, rfl, hmeas⟩
      by_cases hlt : k < p.sig.length
      · conv => whnf
        conv => whnf
        refine ifB_dec (fun w3 => ?_) (fun w3 => ?_)
        · conv => whnf
          conv => whnf
          refine ⟨⟨(by omega), (by omega)⟩, ?_⟩
          conv => whnf
          conv => whnf
          refine ifB_dec (fun w4 => ?_) (fun w4 => ?_)
          · conv => whnf
            conv => whnf
            refine ⟨?_, nofun⟩
            exact endb (few_n3 hlt (by have w4 : ((p.sig.getD k ByteArray.empty).size : Int) > 30 := w4; omega)).symm
          · conv => whnf
            conv => whnf
            refine ⟨inK64 (by omega) (by omega), ?_⟩
            have w4 : ¬ ((p.sig.getD k ByteArray.empty).size : Int) > 30 := w4
            conv => whnf
            conv => whnf
            refine ⟨_, _, ⟨⟨k + 1, by omega, fun i hi => (by rcases Nat.lt_succ_iff_lt_or_eq.1 hi with h | h; exact g3 i h; rw [h]; omega), rfl, rfl⟩, by omega⟩, ⟨⟨.inl rfl, rfl, rfl, rfl⟩, ⟨⟨rfl, rfl, rfl, rfl, fun _ => rfl, fun _ _ => .inl rfl⟩, trivial⟩, trivial⟩⟩
        · (exfalso; omega)
      · have hks : k = p.sig.length := by omega
        subst hks
        conv => whnf
        conv => whnf
        refine ifB_dec (fun w3 => ?_) (fun w3 => ?_)
        · (exfalso; omega)
        · conv => whnf
          conv => whnf
          refine ⟨[], [1, 4], fun st mq => ∃ (k : Nat), (k ≤ p.steps.length) ∧ (∀ i, i < k → (p.steps.getD i stp0).name.size ≤ 30 ∧ (p.steps.getD i stp0).exits.length ≤ 12) ∧ st = ⟨[(1, .optr 0 0 0 0), (4, i64 k)], ⟨[⟨3, 1, fun _ => planC p, 0, false, true, true⟩], [], none, 0⟩, []⟩ ∧ mq = p.steps.length - k,
            ⟨_, _, ⟨0, by omega, fun i h => absurd h (Nat.not_lt_zero i), rfl, rfl⟩, ⟨⟨.inl rfl, rfl, rfl, rfl⟩, ⟨⟨rfl, rfl, rfl, rfl, fun _ => rfl, fun _ _ => .inl rfl⟩, trivial⟩, trivial⟩⟩, ?_⟩
          rintro s0 m0 ⟨k, hk2, g4, rfl, hmeas⟩
          by_cases hlt2 : k < p.steps.length
          · conv => whnf
            conv => whnf
            conv => whnf
            refine ifB_dec (fun w4 => ?_) (fun w4 => ?_)
            · conv => whnf
              conv => whnf
              conv => whnf
              refine ⟨⟨(by omega), (by omega)⟩, ?_⟩
              conv => whnf
              conv => whnf
              conv => whnf
              refine ifB_dec (fun w5 => ?_) (fun w5 => ?_)
              · conv => whnf
                conv => whnf
                conv => whnf
                refine ⟨?_, nofun⟩
                exact endb (few_n4 hlt2 (fun h => by have w5 : ((p.steps.getD k stp0).name.size : Int) > 30 := w5; omega)).symm
              · conv => whnf
                conv => whnf
                conv => whnf
                refine ⟨⟨(by omega), (by omega)⟩, ?_⟩
                conv => whnf
                conv => whnf
                conv => whnf
                refine ifB_dec (fun w6 => ?_) (fun w6 => ?_)
                · conv => whnf
                  conv => whnf
                  conv => whnf
                  refine ⟨?_, nofun⟩
                  exact endb (few_n4 hlt2 (fun h => by have w6 : ((p.steps.getD k stp0).exits.length : Int) > 12 := w6; omega)).symm
                · conv => whnf
                  conv => whnf
                  conv => whnf
                  refine ⟨inK64 (by omega) (by omega), ?_⟩
                  have w5 : ¬ ((p.steps.getD k stp0).name.size : Int) > 30 := w5
                  have w6 : ¬ ((p.steps.getD k stp0).exits.length : Int) > 12 := w6
                  conv => whnf
                  conv => whnf
                  conv => whnf
                  refine ⟨_, _, ⟨⟨k + 1, by omega, fun i hi => (by rcases Nat.lt_succ_iff_lt_or_eq.1 hi with h | h; exact g4 i h; rw [h]; omega), rfl, rfl⟩, by omega⟩, ⟨⟨.inl rfl, rfl, rfl, rfl⟩, ⟨⟨rfl, rfl, rfl, rfl, fun _ => rfl, fun _ _ => .inl rfl⟩, trivial⟩, trivial⟩⟩
            · (exfalso; omega)
          · have e2 : k = p.steps.length := by omega
            subst e2
            conv => whnf
            conv => whnf
            conv => whnf
            refine ifB_dec (fun w4 => ?_) (fun w4 => ?_)
            · (exfalso; omega)
            · conv => whnf
              conv => whnf
              conv => whnf
              refine ⟨?_, nofun⟩
              exact endb (few_y (by omega) (by omega) g3 g4).symm
theorem S36f (l : List Int) (hl : l.length ≤ 1000000) : SP 36 [ints l] (ints l) false := by
  refine sound (d := 2) tok2 mixed2 Tryd.func36 (by kernel_rfl) (by kernel_rfl) ?_
  conv => whnf
  refine .inl ?_
  conv => whnf
  refine ⟨⟨(by omega), (by show _ * (8 + 1) ≤ _; omega)⟩, ?_⟩
  conv => whnf
  refine ⟨?_, nofun⟩
  exact ⟨rfl, Nat.zero_add _, fun i hi => rfl⟩
theorem S73f (l : List ByteArray) (hl : l.length ≤ 1000000) : SP 73 [strs l] (strs l) false := by
  refine sound (d := 2) tok2 mixed2 Tryd.func73 (by kernel_rfl) (by kernel_rfl) ?_
  conv => whnf
  refine .inl ?_
  conv => whnf
  refine ⟨⟨(by omega), (by show _ * (16 + 1) ≤ _; omega)⟩, ?_⟩
  conv => whnf
  refine ⟨?_, nofun⟩
  exact ⟨rfl, Nat.zero_add _, fun i hi => rfl⟩
theorem steps_row {p : Pln} {k : Nat} (hk : k < p.steps.length) (i : Nat) (h : i < k + 1) : stpC (p.steps.getD i stp0) = if i < k then stpC (p.steps.getD (0 + i) stp0) else List.take 14 (List.drop ((i - k) * 14) (stpC (p.steps.getD k stp0))) := by
  rw [Nat.zero_add]
  by_cases hi : i < k
  · rw [if_pos hi]
  · have : i = k := by omega
    subst this
    rw [if_neg hi, Nat.sub_self]; rfl
theorem S18 (p : Pln) (hp : FewP p) : SP 18 [planA p] (planA p) false := by
  have h73 := S73f p.sig (by have := hp.sig; omega)
  have hst := hp.steps
  refine sound (d := 2) tok2 mixed2 Tryd.func18 (by kernel_rfl) (by kernel_rfl) ?_
  conv => whnf
  refine ⟨[], by kernel_rfl, ?_⟩
  conv => whnf
  refine .inl ⟨_, _, byX rfl (h73), ?_⟩
  conv => whnf
  refine ⟨[.cell 2 2 14], [1, 2, 3, 4], fun st mq => ∃ (k : Nat), (k ≤ p.steps.length) ∧ st = ⟨[(1, .optr 0 0 0 0), (2, .optr 1 0 0 0), (3, .optr 2 0 0 0), (4, i64 k)], ⟨[⟨3, 1, fun _ => planC p, 0, false, true, true⟩, ⟨3, 1, fun _ => [.eslice, i64 0, .eslice], 0, false, true, true⟩, ⟨3, 1, fun _ => [strs p.sig, i64 p.start, .oslice 3 0 0 k none], 0, false, false, true⟩, ⟨14, k, fun i => stpC (p.steps.getD i stp0), 0, false, true, false⟩], [], none, 0⟩, []⟩ ∧ mq = p.steps.length - k,
    ⟨_, _, ⟨0, by omega, rfl, rfl⟩, ⟨⟨.inl rfl, rfl, rfl, rfl⟩, ⟨⟨rfl, rfl, rfl, rfl, fun _ => rfl, fun _ _ => .inl rfl⟩, ⟨⟨rfl, rfl, rfl, rfl, fun _ => rfl, fun _ _ => .inl rfl⟩, ⟨⟨rfl, rfl, rfl, rfl, nofun, fun _ _ => .inl rfl⟩, ⟨⟨rfl, rfl, rfl, rfl, fun _ => rfl, fun i h => .inl (absurd h (Nat.not_lt_zero i))⟩, trivial⟩⟩⟩⟩, trivial⟩⟩, ?_⟩
  rintro s0 m0 ⟨k, hk, rfl, hmeas⟩
  by_cases hlt : k < p.steps.length
  · have h36 := S36f (p.steps.getD (k : Int).toNat stp0).exits (by have := hp.exits k hlt; show (p.steps.getD k stp0).exits.length ≤ _; omega)
    conv => whnf
    conv => whnf
    refine ifB_dec (fun w1 => ?_) (fun w1 => ?_)
    · conv => whnf
      conv => whnf
      refine ⟨⟨(by omega), (by omega)⟩, ?_⟩
      conv => whnf
      conv => whnf
      refine .inl ⟨_, _, byX rfl (h36), ?_⟩
      conv => whnf
      conv => whnf
      refine .inl ?_
      conv => whnf
      conv => whnf
      refine ⟨(by show _ * (136 + 1) ≤ _; omega), ?_⟩
      conv => whnf
      conv => whnf
      refine ⟨inK64 (by omega) (by omega), ?_⟩
      conv => whnf
      conv => whnf
      refine ⟨_, _, ⟨⟨k + 1, by omega, rfl, rfl⟩, by omega⟩, ⟨⟨.inl rfl, rfl, rfl, rfl⟩, ⟨⟨rfl, rfl, rfl, rfl, fun _ => rfl, fun _ _ => .inl rfl⟩, ⟨⟨rfl, rfl, rfl, rfl, fun _ => rfl, fun _ _ => .inl rfl⟩, ⟨⟨rfl, rfl, rfl, rfl, nofun, fun _ _ => .inl rfl⟩, ⟨⟨rfl, rfl, rfl, rfl, fun _ => rfl, fun i h => .inl (steps_row hlt i h)⟩, trivial⟩⟩⟩⟩, trivial⟩⟩
    · (exfalso; omega)
  · have e2 : k = p.steps.length := by omega
    subst e2
    conv => whnf
    conv => whnf
    refine ifB_dec (fun w1 => ?_) (fun w1 => ?_)
    · (exfalso; omega)
    · conv => whnf
      conv => whnf
      refine ⟨?_, nofun⟩
      exact ave_agg3 (k := 4) ⟨rfl, rfl, fun _ _ => rfl⟩ rfl ⟨rfl, rfl, fun _ _ => rfl⟩
end Go.Tr

/- The law SequenceHomes returns true. Conditions: none. -/
namespace Go.Tr
open Go Go.Proofs
set_option maxRecDepth 20000
set_option maxHeartbeats 8000000

theorem vEq_st (a b : Int) : vEqL [.int .i64 a, .int .i64 b] [.int .i64 a, .int .i64 b] = true := by
  simp [vEqL]
theorem S29 (l : List S2) (hl : l.length ≤ 1000000000) : SP 29 [sts l, sts l] (vb true) false := by
  refine sound (d := 2) tok2 mixed2 Tryd.func29 (by kernel_rfl) (by kernel_rfl) ?_
  conv => whnf
  refine ifB_bne (fun w1 => ?_) (fun w1 => ?_)
  · (exfalso; omega)
  · conv => whnf
    refine ⟨[], [0, 1, 5], fun st mq => ∃ (k : Nat), (k ≤ l.length) ∧ st = ⟨[(0, sts l), (1, sts l), (5, i64 k)], ⟨[], [], none, 0⟩, []⟩ ∧ mq = l.length - k,
      ⟨_, _, ⟨0, by omega, rfl, rfl⟩, ⟨⟨.inl rfl, rfl, rfl, rfl⟩, trivial, trivial⟩⟩, ?_⟩
    rintro s0 m0 ⟨k, hk, rfl, hmeas⟩
    conv => whnf
    conv => whnf
    refine ifB_dec (fun w2 => ?_) (fun w2 => ?_)
    · conv => whnf
      conv => whnf
      refine ⟨[], by kernel_rfl, ?_⟩
      conv => whnf
      conv => whnf
      refine ⟨⟨(by omega), (by omega)⟩, ?_⟩
      conv => whnf
      conv => whnf
      refine ⟨⟨(by omega), (by omega)⟩, ?_⟩
      conv => whnf
      conv => whnf
      refine ifB_not ?_
      conv => whnf
      conv => whnf
      refine ifB_veq2 (fun w3 => ?_) (fun w3 => ?_)
      · conv => whnf
        conv => whnf
        refine ⟨inK64 (by omega) (by omega), ?_⟩
        conv => whnf
        conv => whnf
        refine ⟨_, _, ⟨⟨k + 1, by omega, rfl, rfl⟩, by omega⟩, ⟨⟨.inl rfl, rfl, rfl, rfl⟩, trivial, trivial⟩⟩
      · (exfalso; omega)
    · conv => whnf
      conv => whnf
      refine ⟨?_, nofun⟩
      rfl
theorem open_same {p : Pln} {s s' : S2} {f : Int × Bool} (h : openE p s f = 0) (hs : OkS p s') : openE p s' f = 0 := by
  unfold openE at h ⊢
  split at h
  · rename_i h1
    rw [if_pos h1]
    rw [first2_iff] at h ⊢
    exact ⟨state_ok.2 hs, h.2⟩
  · rename_i h1; exact absurd h h1
section
variable {stop : S2 → Bool} {step : S2 → Option (S2 × Int)}
theorem goA_pre : ∀ (n : Nat) (s : S2) (l : List S2) (t : Int) (r : List S2 × Int), goA stop step n s l t = some r → (∃ m, r.1 = l ++ m) ∧ r.1.length ≤ l.length + n
  | 0, _, _, _, _, h => by cases h
  | n + 1, s, l, t, r, h => by
    unfold goA at h
    split at h
    · cases h; exact ⟨⟨[], by simp⟩, by show l.length ≤ _; omega⟩
    · cases hx : step s with
      | none => rw [hx] at h; cases h
      | some x =>
        rw [hx] at h
        obtain ⟨⟨m, h1⟩, h2⟩ := goA_pre n _ _ _ r h
        rw [List.length_append] at h2
        exact ⟨⟨x.1 :: m, by rw [h1]; simp⟩, by simp only [List.length_cons, List.length_nil] at h2; omega⟩
theorem goA_at {n : Nat} {s : S2} {L : List S2} {k : Nat} {t : Int} {T : Int} (hk : k ≤ L.length) (h : goA stop step n s (L.take k) t = some (L, T)) :
    (k = L.length → stop s = true ∧ t = T) ∧ (k < L.length → ∃ y m, n = m + 1 ∧ stop s = false ∧ step s = some y ∧ y.1 = L.getD k (0, 0) ∧ goA stop step m y.1 (L.take (k + 1)) (t + y.2) = some (L, T)) := by
  cases n with
  | zero => cases h
  | succ n =>
    unfold goA at h
    cases hs : stop s with
    | true =>
      rw [hs] at h
      injection h with h
      injection h with h1 h2
      have : k = L.length := by
        have := congrArg List.length h1
        rw [List.length_take] at this; omega
      exact ⟨fun _ => ⟨rfl, h2⟩, fun h => by omega⟩
    | false =>
      rw [hs] at h
      cases hx : step s with
      | none => rw [hx] at h; cases h
      | some y =>
        rw [hx] at h
        have h : goA stop step n y.1 (L.take k ++ [y.1]) (t + y.2) = some (L, T) := h
        obtain ⟨⟨m, h1⟩, _⟩ := goA_pre n _ _ _ _ h
        have h1 : L = L.take k ++ [y.1] ++ m := h1
        have hlt : k < L.length := by
          have := congrArg List.length h1
          simp only [List.length_append, List.length_take, List.length_cons, List.length_nil] at this
          omega
        have e : L.getD k (0, 0) = y.1 := by
          rw [h1, List.append_assoc, List.getD_eq_getElem?_getD, List.getElem?_append_right (by rw [List.length_take]; omega), List.length_take, Nat.min_eq_left hk, Nat.sub_self]; rfl
        refine ⟨fun h => by omega, fun _ => ⟨y, n, rfl, rfl, rfl, e.symm, ?_⟩⟩
        have e2 : L.take (k + 1) = L.take k ++ [y.1] := by
          rw [← e, List.getD_eq_getElem?_getD, List.getElem?_eq_getElem hlt]
          exact List.take_succ_eq_append_getElem hlt
        rw [e2]
        exact h
end
theorem S5 (p : Pln) (hl : p.sig.length ≤ 9223372036854775807 ∧ p.steps.length ≤ 9223372036854775807) (s : S2) (f : Int × Bool) : SP 5 [planA p, stA s, ftA f] (vb true) false := by
  have h14 := S14 p hl
  cases hf : fewB p with
  | false =>
    rw [hf] at h14
    refine sound (d := 2) tok2 mixed2 Tryd.func5 (by kernel_rfl) (by kernel_rfl) ?_
    conv => whnf
    refine .inl ⟨_, _, byX rfl (Sound1.pl (S13) rfl), ?_⟩
    conv => whnf
    refine .inl ⟨_, _, byX rfl (Sound1.pl (h14) rfl), ?_⟩
    conv => whnf
    refine ⟨?_, nofun⟩
    (rfl)
  | true =>
    rw [hf] at h14
    have hp := FewP.of hf
    have h18 := S18 p hp
    have h27 := S27 p hp s f
    have h19 := S19 p hp s f
    unfold homeR at h27
    by_cases h0 : openE p s f = 0
    · obtain ⟨hg, hs, hff⟩ := open_ok hp h0
      rw [if_neg (not_not_intro h0)] at h27
      rw [h0] at h19
      have h28 := S28 p hg f s hs hff
      cases hx : homeF p f s with
      | none =>
        rw [hx] at h27 h28
        refine sound (d := 2) tok2 mixed2 Tryd.func5 (by kernel_rfl) (by kernel_rfl) ?_
        conv => whnf
        refine .inl ⟨_, _, byX rfl (Sound1.pl (S13) rfl), ?_⟩
        conv => whnf
        refine .inl ⟨_, _, byX rfl (Sound1.pl (h14) rfl), ?_⟩
        conv => whnf
        refine ⟨[], by kernel_rfl, ?_⟩
        conv => whnf
        refine .inl ⟨_, _, byX rfl (h18), ?_⟩
        conv => whnf
        refine .inl ⟨_, _, byX rfl (h27), ?_⟩
        conv => whnf
        refine .inl ⟨_, _, byX rfl (Sound1.pl (h19) rfl), ?_⟩
        conv => whnf
        refine .inl ⟨_, _, byX rfl (h28), ?_⟩
        conv => whnf
        refine ⟨?_, nofun⟩
        (exact endb (beq_self_eq_true _))
      | some x =>
        have hlen := (goA_pre _ _ _ _ _ hx).2
        have hA := allN_le hg
        have hlen : x.1.length ≤ allN p + 1 := by simpa using hlen
        have h29 := S29 x.1 (by omega)
        rw [hx] at h27 h28
        refine sound (d := 2) tok2 mixed2 Tryd.func5 (by kernel_rfl) (by kernel_rfl) ?_
        conv => whnf
        refine .inl ⟨_, _, byX rfl (Sound1.pl (S13) rfl), ?_⟩
        conv => whnf
        refine .inl ⟨_, _, byX rfl (Sound1.pl (h14) rfl), ?_⟩
        conv => whnf
        refine ⟨[], by kernel_rfl, ?_⟩
        conv => whnf
        refine .inl ⟨_, _, byX rfl (h18), ?_⟩
        conv => whnf
        refine .inl ⟨_, _, byX rfl (h27), ?_⟩
        conv => whnf
        refine .inl ⟨_, _, byX rfl (Sound1.pl (h19) rfl), ?_⟩
        conv => whnf
        refine .inl ⟨_, _, byX rfl (h28), ?_⟩
        conv => whnf
        refine ifB_bne (fun w1 => ?_) (fun w1 => ?_)
        · (exfalso; omega)
        · conv => whnf
          refine .inl ⟨_, _, byX rfl (Sound1.pl (h29) rfl), ?_⟩
          conv => whnf
          refine ⟨[], [3, 5, 7, 8, 14, 15, 16], fun st mq => ∃ (k : Nat) (now : S2) (t : Int) (n : Nat), (k ≤ x.1.length) ∧ (goA (homeB p f) (homeTurnF p f) n now (x.1.take k) t = some (x.1, x.2)) ∧ (OkS p now) ∧ (0 ≤ t ∧ t ≤ 10000 * (k : Int)) ∧ st = ⟨[(3, .optr 0 0 0 0), (5, .optr 2 0 0 0), (7, sts x.1), (8, i64 x.2), (14, .optr 3 0 0 0), (15, i64 t), (16, i64 k)], ⟨[⟨3, 1, fun _ => planC p, 0, false, true, true⟩, ⟨2, 1, fun _ => stC s, 0, false, true, true⟩, ⟨2, 1, fun _ => [i64 f.1, vb f.2], 0, false, true, true⟩, ⟨2, 1, fun _ => stC now, 0, false, true, true⟩], [], none, 0⟩, []⟩ ∧ mq = x.1.length - k,
            ⟨_, _, ⟨0, s, 0, allN p + 1, by omega, hx, hs, by omega, rfl, rfl⟩, ⟨⟨.inl rfl, rfl, rfl, rfl⟩, ⟨⟨rfl, rfl, rfl, rfl, fun _ => rfl, fun _ _ => .inl rfl⟩, ⟨⟨rfl, rfl, rfl, rfl, fun _ => rfl, fun _ _ => .inl rfl⟩, ⟨⟨rfl, rfl, rfl, rfl, fun _ => rfl, fun _ _ => .inl rfl⟩, ⟨⟨rfl, rfl, rfl, rfl, fun _ => rfl, fun _ _ => .inl rfl⟩, trivial⟩⟩⟩⟩, trivial⟩⟩, ?_⟩
          rintro s0 m0 ⟨k, now, t, n, hk, hG, hnow, ht, rfl, hmeas⟩
          have h18 := S18 p hp
          have h30 := S30 p hp now f
          have h31 := S31 p hg now f hnow hff
          unfold htR at h30
          rw [if_neg (not_not_intro (open_same h0 hnow))] at h30
          obtain ⟨hA1, hA2⟩ := goA_at hk hG
          by_cases hlt : k < x.1.length
          · obtain ⟨y, m, _, hst, hy, hy1, hG2⟩ := hA2 hlt
            rw [hy] at h30
            have hok := home_ok hg hnow hy
            conv => whnf
            conv => whnf
            refine ifB_dec (fun w2 => ?_) (fun w2 => ?_)
            · conv => whnf
              conv => whnf
              refine ⟨[], by kernel_rfl, ?_⟩
              conv => whnf
              conv => whnf
              refine .inl ⟨_, _, byX rfl (h18), ?_⟩
              conv => whnf
              conv => whnf
              refine .inl ⟨_, _, byX rfl (Sound1.pl (h30) rfl), ?_⟩
              conv => whnf
              conv => whnf
              refine ⟨[], by kernel_rfl, ?_⟩
              conv => whnf
              conv => whnf
              refine ⟨⟨(by omega), (by omega)⟩, ?_⟩
              conv => whnf
              conv => whnf
              refine ifB_not ?_
              conv => whnf
              conv => whnf
              refine ifB_veq2 (fun w3 => ?_) (fun w3 => ?_)
              · conv => whnf
                conv => whnf
                refine ⟨inK64 (by omega) (by omega), ?_⟩
                conv => whnf
                conv => whnf
                refine ⟨inK64 (by omega) (by omega), ?_⟩
                conv => whnf
                conv => whnf
                refine ⟨_, _, ⟨⟨k + 1, y.1, t + y.2, m, by omega, hG2, hok.1, by omega, rfl, rfl⟩, by omega⟩, ⟨⟨.inl rfl, rfl, rfl, rfl⟩, ⟨⟨rfl, rfl, rfl, rfl, fun _ => rfl, fun _ _ => .inl rfl⟩, ⟨⟨rfl, rfl, rfl, rfl, fun _ => rfl, fun _ _ => .inl rfl⟩, ⟨⟨rfl, rfl, rfl, rfl, fun _ => rfl, fun _ _ => .inl rfl⟩, ⟨⟨rfl, rfl, rfl, rfl, fun _ => rfl, fun _ _ => .inl rfl⟩, trivial⟩⟩⟩⟩, trivial⟩⟩
              · conv => whnf
                conv => whnf
                refine ⟨?_, nofun⟩
                refine absurd ?_ w3
                rw [hy1]
                exact ⟨rfl, rfl⟩
            · (exfalso; omega)
          · obtain ⟨hst, htT⟩ := hA1 (by omega)
            rw [hst] at h31
            conv => whnf
            conv => whnf
            refine ifB_dec (fun w2 => ?_) (fun w2 => ?_)
            · (exfalso; omega)
            · conv => whnf
              conv => whnf
              refine ifB_beq (fun w3 => ?_) (fun w3 => ?_)
              · conv => whnf
                conv => whnf
                refine .inl ⟨_, _, byX rfl (Sound1.pl (h31) rfl), ?_⟩
                conv => whnf
                conv => whnf
                refine ⟨?_, nofun⟩
                (rfl)
              · (exfalso; omega)
    · rw [if_pos h0] at h27
      refine sound (d := 2) tok2 mixed2 Tryd.func5 (by kernel_rfl) (by kernel_rfl) ?_
      conv => whnf
      refine .inl ⟨_, _, byX rfl (Sound1.pl (S13) rfl), ?_⟩
      conv => whnf
      refine .inl ⟨_, _, byX rfl (Sound1.pl (h14) rfl), ?_⟩
      conv => whnf
      refine ⟨[], by kernel_rfl, ?_⟩
      conv => whnf
      refine .inl ⟨_, _, byX rfl (h18), ?_⟩
      conv => whnf
      refine .inl ⟨_, _, byX rfl (h27), ?_⟩
      conv => whnf
      refine .inl ⟨_, _, byX rfl (Sound1.pl (h19) rfl), ?_⟩
      conv => whnf
      refine ifB_bne (fun w1 => ?_) (fun w1 => ?_)
      · conv => whnf
        refine ifB_beq (fun w2 => ?_) (fun w2 => ?_)
        · conv => whnf
          refine ⟨?_, nofun⟩
          (exact endb (beq_self_eq_true _))
        · (exfalso; omega)
      · (exfalso; omega)
end Go.Tr

/- The law SequenceRuns returns true. Conditions: none. -/
namespace Go.Tr
open Go Go.Proofs
set_option maxRecDepth 20000
set_option maxHeartbeats 8000000

abbrev rnA (f : Int × Bool) (c : List Int) : AV := .agg [i64 f.1, vb f.2, ints c]
/-- Command after command. -/
def runG (p : Pln) (f : Int × Bool) : S2 → List Int → List S2 → Int → Int × List S2 × Int
  | _, [], L, T => (0, L, T)
  | s, c :: cs, L, T => if hasI (stp p s).exits c then (match commandF p f s c with | none => (12, [], 0) | some r => runG p f (lastOf r.1) cs (L ++ r.1) (T + r.2)) else (24, [], 0)
def runP (p : Pln) (s : S2) (f : Int × Bool) (cs : List Int) : Int × List S2 × Int :=
  if openE p s f ≠ 0 then (openE p s f, [], 0) else if (stp p s).wait ≠ 0 then (20, [], 0) else if cs.length > 10 then (8, [], 0) else runG p f s cs [] 0
def runT (x : Int × List S2 × Int) : AV := .tuple [sts x.2.1, i64 x.2.2, i64 x.1]
theorem S51 (f : Int × Bool) (c : List Int) (hc : c.length ≤ 1000000) : SP 51 [rnA f c] (rnA f c) false := by
  have h36 := S36f c hc
  refine sound (d := 2) tok2 mixed2 Tryd.func51 (by kernel_rfl) (by kernel_rfl) ?_
  conv => whnf
  refine ⟨[], by kernel_rfl, ?_⟩
  conv => whnf
  refine .inl ⟨_, _, byX rfl (h36), ?_⟩
  conv => whnf
  refine ⟨?_, nofun⟩
  exact ave_agg3 rfl rfl ⟨rfl, rfl, fun _ _ => rfl⟩
theorem run_head {p : Pln} {s : S2} {f : Int × Bool} {cs : List Int} (h0 : openE p s f = 0) :
    runP p s f cs = if firstOf [if decide ((stp p s).wait = 0) = true then 0 else 20, if decide ((cs.length : Int) ≤ 10) = true then 0 else 8] = 0 then runG p f s cs [] 0 else (firstOf [if decide ((stp p s).wait = 0) = true then 0 else 20, if decide ((cs.length : Int) ≤ 10) = true then 0 else 8], [], 0) := by
  unfold runP
  rw [if_neg (not_not_intro h0)]
  by_cases h1 : (stp p s).wait = 0
  · rw [if_neg (not_not_intro h1), decide_eq_true h1]
    by_cases h2 : cs.length > 10
    · rw [if_pos h2, decide_eq_false (by omega)]; rfl
    · rw [if_neg h2, decide_eq_true (by omega)]; rfl
  · rw [if_pos h1, decide_eq_false h1]; rfl
theorem run_go {s : Stp} {cs : List Int} (h : firstOf [if decide (s.wait = 0) = true then 0 else 20, if decide ((cs.length : Int) ≤ 10) = true then 0 else 8] = 0) : s.wait = 0 ∧ cs.length ≤ 10 := by
  by_cases h1 : s.wait = 0
  · rw [decide_eq_true h1] at h
    by_cases h2 : cs.length ≤ 10
    · exact ⟨h1, h2⟩
    · rw [decide_eq_false (by omega)] at h; cases h
  · rw [decide_eq_false h1] at h; cases h
theorem rows_app {l m : List S2} {n : Nat} (hn : l.length = n) (i : Nat) (h : i < n + m.length) : stC ((l ++ m).getD i (0, 0)) = if i < n then stC (l.getD (0 + i) (0, 0)) else stC (m.getD (i - n) (0, 0)) := by
  subst hn
  rw [Nat.zero_add]
  by_cases hi : i < l.length
  · rw [if_pos hi]; simp [List.getD_eq_getElem?_getD, hi, List.getElem?_append_left hi]
  · rw [if_neg hi]; simp [List.getD_eq_getElem?_getD, List.getElem?_append_right (Nat.le_of_not_lt hi)]
theorem last_row {l : List S2} (h : l ≠ []) : stC (lastOf l) = [i64 (l.getD ((l.length : Int) - 1).toNat (0, 0)).1, i64 (l.getD ((l.length : Int) - 1).toNat (0, 0)).2] := by
  have : 0 < l.length := List.length_pos_iff.2 h
  rw [show ((l.length : Int) - 1).toNat = l.length - 1 by omega, lastOf_get h]; rfl
theorem S50 (p : Pln) (hp : FewP p) (s0 : S2) (f : Int × Bool) (cs : List Int) (hcs : cs.length ≤ 1000000) : SP 50 [planA p, stA s0, rnA f cs] (runT (runP p s0 f cs)) false := by
  have h67 := S67 p hp s0 f
  by_cases h0 : openE p s0 f = 0
  · rw [h0] at h67
    obtain ⟨hg, hs0, hf⟩ := open_ok hp h0
    have hat0 := hs0.at
    have h70 := S70 (stp p s0)
    have hb27 : Tryd.prog.types[27].bytes = 16 := by kernel_rfl
    refine sound (d := 2) tok2 mixed2 Tryd.func50 (by kernel_rfl) (by kernel_rfl) ?_
    conv => whnf
    refine .inl ⟨_, _, byX rfl (h67), ?_⟩
    conv => whnf
    refine ⟨[], by kernel_rfl, ?_⟩
    conv => whnf
    refine ⟨⟨(by omega), (by omega)⟩, ?_⟩
    conv => whnf
    refine .inl ⟨_, _, byX rfl (Sound1.pl (h70) rfl), ?_⟩
    conv => whnf
    refine .inl ⟨_, _, byX rfl (Sound1.pl (S69 _ _) rfl), ?_⟩
    conv => whnf
    refine .inl ⟨_, _, byX rfl (Sound1.pl (S69 _ _) rfl), ?_⟩
    conv => whnf
    refine .inl ⟨_, _, byX rfl (Sound1.pl (S83_2 _ _ ⟨rfl, rfl⟩) rfl), ?_⟩
    conv => whnf
    refine ifB_bne (fun w1 => ?_) (fun w1 => ?_)
    · conv => whnf
      refine ⟨?_, nofun⟩
      rw [(run_head h0).trans (if_neg w1)]
      exact ave_tup3 rfl rfl rfl
    · have hR := (run_head h0).trans (if_pos w1)
      obtain ⟨hw0, hlen⟩ := run_go w1
      conv => whnf
      refine ⟨[.slot 11 2], [4, 5, 9, 11, 12, 48, 49, 50], fun st mq => ∃ (k : Nat) (s : S2) (L : List S2) (T : Int) (n : Nat) (F4 : Nat → List AV), (L.length = n) ∧ (k ≤ cs.length) ∧ (OkS p s) ∧ ((stp p s).wait = 0) ∧ (n ≤ 1000 * k) ∧ (0 ≤ T ∧ T ≤ 4000000 * (k : Int)) ∧ (runG p f s0 cs [] 0 = runG p f s (cs.drop k) L T) ∧ st = ⟨[(4, .optr 1 0 0 0), (5, .optr 2 0 0 0), (9, .optr 3 0 0 0), (11, .oslice 5 0 0 n none), (12, i64 T), (48, ints cs), (49, i64 cs.length), (50, i64 k)], ⟨[⟨3, 1, fun _ => planC p, 0, false, true, true⟩, ⟨2, 1, fun _ => stC s, 0, false, true, true⟩, ⟨3, 1, fun _ => [i64 f.1, vb f.2, ints cs], 0, false, true, true⟩, ⟨3, 1, fun _ => planC p, 0, false, true, true⟩, ⟨1, 2, F4, 0, false, true, false⟩, ⟨2, n, fun i => stC (L.getD i (0, 0)), 0, false, true, false⟩], [], none, 0⟩, []⟩ ∧ mq = cs.length - k,
        ⟨_, _, ⟨0, s0, [], 0, 0, _, rfl, by omega, hs0, hw0, by omega, by omega, rfl, rfl, rfl⟩, ⟨⟨.inl rfl, rfl, rfl, rfl⟩, ⟨⟨rfl, rfl, rfl, rfl, fun _ => rfl, fun _ _ => .inl rfl⟩, ⟨⟨rfl, rfl, rfl, rfl, fun _ => rfl, fun _ _ => .inl rfl⟩, ⟨⟨rfl, rfl, rfl, rfl, fun _ => rfl, fun _ _ => .inl rfl⟩, ⟨⟨rfl, rfl, rfl, rfl, fun _ => rfl, fun _ _ => .inl rfl⟩, ⟨⟨rfl, rfl, rfl, rfl, fun _ => rfl, fun _ _ => .inl rfl⟩, ⟨⟨rfl, rfl, rfl, rfl, fun _ => rfl, fun i h => .inl (absurd h (Nat.not_lt_zero i))⟩, trivial⟩⟩⟩⟩⟩⟩, trivial⟩⟩, ?_⟩
      rintro s0 m0 ⟨k, s, L, T, n, F4, hn, hk, hs, hw, hL, hT, hR1, rfl, hmeas⟩
      have hat := hs.at
      by_cases hlt : k < cs.length
      · have hR2 : runG p f s (cs.drop k) L T = if hasI (stp p s).exits (cs.getD k 0) then (match commandF p f s (cs.getD k 0) with | none => (12, [], 0) | some r => runG p f (lastOf r.1) (cs.drop (k + 1)) (L ++ r.1) (T + r.2)) else (24, [], 0) := by
          rw [List.drop_eq_getElem_cons hlt]
          rw [show cs.getD k 0 = cs[k] by simp [List.getD_eq_getElem?_getD, hlt]]
          rfl
        have h94 := S94 (stp p s).exits (by have := hp.exits _ hs.k; show (p.steps.getD s.1.toNat stp0).exits.length ≤ _; omega) (cs.getD k 0)
        cases hh : hasI (stp p s).exits (cs.getD k 0) with
        | false =>
          rw [hh] at h94 hR2
          conv => whnf
          conv => whnf
          refine ifB_dec (fun w2 => ?_) (fun w2 => ?_)
          · conv => whnf
            conv => whnf
            refine ⟨⟨(by omega), (by omega)⟩, ?_⟩
            conv => whnf
            conv => whnf
            refine ⟨⟨(by omega), (by omega)⟩, ?_⟩
            conv => whnf
            conv => whnf
            refine .inl ⟨_, _, byX rfl (Sound1.pl (h94) rfl), ?_⟩
            conv => whnf
            conv => whnf
            refine ⟨?_, nofun⟩
            rw [hR, hR1, hR2]
            exact ave_tup3 rfl rfl rfl
          · (exfalso; omega)
        | true =>
          rw [hh] at h94 hR2
          have hOC : OkC p (cs.getD k 0) := .inr (exit_ok hg hs hw hh)
          have h95 := S95 p hg f s (cs.getD k 0) hs hOC
          cases hx : commandF p f s (cs.getD k 0) with
          | none =>
            rw [hx] at h95 hR2
            conv => whnf
            conv => whnf
            refine ifB_dec (fun w2 => ?_) (fun w2 => ?_)
            · conv => whnf
              conv => whnf
              refine ⟨⟨(by omega), (by omega)⟩, ?_⟩
              conv => whnf
              conv => whnf
              refine ⟨⟨(by omega), (by omega)⟩, ?_⟩
              conv => whnf
              conv => whnf
              refine .inl ⟨_, _, byX rfl (Sound1.pl (h94) rfl), ?_⟩
              conv => whnf
              conv => whnf
              refine .inl ⟨_, _, byX rfl (h95), ?_⟩
              conv => whnf
              conv => whnf
              refine ⟨?_, nofun⟩
              rw [hR, hR1, hR2]
              exact ave_tup3 rfl rfl rfl
            · (exfalso; omega)
          | some r =>
            rw [hx] at h95 hR2
            have hok := command_ok hg hs hOC hx
            have q1 := hok.t1
            have q2 := hok.t2
            have q3 := hok.len
            have q4 : 0 < r.1.length := List.length_pos_iff.2 hok.ne
            conv => whnf
            conv => whnf
            refine ifB_dec (fun w2 => ?_) (fun w2 => ?_)
            · conv => whnf
              conv => whnf
              refine ⟨⟨(by omega), (by omega)⟩, ?_⟩
              conv => whnf
              conv => whnf
              refine ⟨⟨(by omega), (by omega)⟩, ?_⟩
              conv => whnf
              conv => whnf
              refine .inl ⟨_, _, byX rfl (Sound1.pl (h94) rfl), ?_⟩
              conv => whnf
              conv => whnf
              refine .inl ⟨_, _, byX rfl (h95), ?_⟩
              conv => whnf
              conv => whnf
              refine .inl ?_
              conv => whnf
              conv => whnf
              refine ⟨(by show _ * (16 + 1) ≤ _; omega), ?_⟩
              conv => whnf
              conv => whnf
              refine ⟨inK64 (by omega) (by omega), ?_⟩
              conv => whnf
              conv => whnf
              refine ⟨inK64 (by omega) (by omega), ?_⟩
              conv => whnf
              conv => whnf
              refine ⟨⟨(by omega), (by omega)⟩, ?_⟩
              conv => whnf
              conv => whnf
              refine ⟨inK64 (by omega) (by omega), ?_⟩
              conv => whnf
              conv => whnf
              refine ⟨_, _, ⟨⟨k + 1, lastOf r.1, L ++ r.1, T + r.2, n + r.1.length, _, (by rw [List.length_append, hn]), by omega, hok.ok, hok.steady, by omega, by omega, hR1.trans hR2, rfl, rfl⟩, by omega⟩, ⟨⟨.inl rfl, rfl, rfl, rfl⟩, ⟨⟨rfl, rfl, rfl, rfl, fun _ => rfl, fun _ _ => .inl rfl⟩, ⟨⟨rfl, rfl, rfl, rfl, fun _ => rfl, fun i h => .inl (last_row hok.ne)⟩, ⟨⟨rfl, rfl, rfl, rfl, fun _ => rfl, fun _ _ => .inl rfl⟩, ⟨⟨rfl, rfl, rfl, rfl, fun _ => rfl, fun _ _ => .inl rfl⟩, ⟨⟨rfl, rfl, rfl, rfl, fun _ => rfl, fun _ _ => .inl rfl⟩, ⟨⟨rfl, rfl, rfl, rfl, fun _ => rfl, fun i h => .inl (rows_app hn i h)⟩, trivial⟩⟩⟩⟩⟩⟩, trivial⟩⟩
            · (exfalso; omega)
      · conv => whnf
        conv => whnf
        refine ifB_dec (fun w2 => ?_) (fun w2 => ?_)
        · (exfalso; omega)
        · conv => whnf
          conv => whnf
          refine ⟨?_, nofun⟩
          rw [hR, hR1, List.drop_eq_nil_of_le (by omega)]
          exact ave_tup3 ⟨rfl, hn.symm, fun _ _ => rfl⟩ rfl rfl
  · refine sound (d := 2) tok2 mixed2 Tryd.func50 (by kernel_rfl) (by kernel_rfl) ?_
    conv => whnf
    refine .inl ⟨_, _, byX rfl (h67), ?_⟩
    conv => whnf
    refine ifB_beq (fun w1 => ?_) (fun w1 => ?_)
    · (exfalso; omega)
    · conv => whnf
      refine ifB_bne (fun w2 => ?_) (fun w2 => ?_)
      · conv => whnf
        refine ⟨?_, nofun⟩
        unfold runP
        rw [if_pos h0]
        exact ave_tup3 rfl rfl rfl
      · (exfalso; omega)
theorem S52 (p : Pln) (hg : Good p) (s0 : S2) (f : Int × Bool) (cs : List Int) (h0 : openE p s0 f = 0) (hs0 : OkS p s0) (hff : OkF p f) (hcs : cs.length ≤ 1000000) : SP 52 [planA p, stA s0, rnA f cs] (runT (runP p s0 f cs)) false := by
  have hat0 := hs0.at
  have hb27 : Tryd.prog.types[27].bytes = 16 := by kernel_rfl
  have hpn := pw_allN hg
  have hA := allN_le hg
  have hn5 := hg.n
  have h80 := S80 p (by omega)
  have hlen := hg.m
  have hRP : runP p s0 f cs = if (stp p s0).wait ≠ 0 then (20, [], 0) else if cs.length > 10 then (8, [], 0) else runG p f s0 cs [] 0 := by
    unfold runP
    rw [if_neg (not_not_intro h0)]
  refine sound (d := 2) tok2 mixed2 Tryd.func52 (by kernel_rfl) (by kernel_rfl) ?_
  conv => whnf
  refine ⟨⟨(by omega), (by omega)⟩, ?_⟩
  conv => whnf
  refine ifB_bne (fun w1 => ?_) (fun w1 => ?_)
  · conv => whnf
    refine ⟨?_, nofun⟩
    rw [hRP.trans (if_pos w1)]
    exact ave_tup3 rfl rfl rfl
  · conv => whnf
    refine ifB_dec (fun w2 => ?_) (fun w2 => ?_)
    · conv => whnf
      refine ⟨?_, nofun⟩
      rw [(hRP.trans (if_neg (not_not_intro w1))).trans (if_pos (by omega))]
      exact ave_tup3 rfl rfl rfl
    · have hR := (hRP.trans (if_neg (not_not_intro w1))).trans (if_neg (by omega))
      conv => whnf
      refine ⟨[.slot 9 2], [3, 4, 5, 9, 10, 11], fun st mq => ∃ (k : Nat) (s : S2) (L : List S2) (T : Int) (n : Nat), (L.length = n) ∧ (k ≤ cs.length) ∧ (OkS p s) ∧ ((stp p s).wait = 0) ∧ (n ≤ 1000 * k) ∧ (0 ≤ T ∧ T ≤ 4000000 * (k : Int)) ∧ (runG p f s0 cs [] 0 = runG p f s (cs.drop k) L T) ∧ st = ⟨[(3, .optr 0 0 0 0), (4, .optr 1 0 0 0), (5, .optr 2 0 0 0), (9, .oslice 3 0 0 n none), (10, i64 T), (11, i64 k)], ⟨[⟨3, 1, fun _ => planC p, 0, false, true, true⟩, ⟨2, 1, fun _ => stC s, 0, false, true, true⟩, ⟨3, 1, fun _ => [i64 f.1, vb f.2, ints cs], 0, false, true, true⟩, ⟨2, n, fun i => stC (L.getD i (0, 0)), 0, false, true, false⟩], [], none, 0⟩, []⟩ ∧ mq = cs.length - k,
        ⟨_, _, ⟨0, s0, [], 0, 0, rfl, by omega, hs0, w1, by omega, by omega, rfl, rfl, rfl⟩, ⟨⟨.inl rfl, rfl, rfl, rfl⟩, ⟨⟨rfl, rfl, rfl, rfl, fun _ => rfl, fun _ _ => .inl rfl⟩, ⟨⟨rfl, rfl, rfl, rfl, fun _ => rfl, fun _ _ => .inl rfl⟩, ⟨⟨rfl, rfl, rfl, rfl, fun _ => rfl, fun _ _ => .inl rfl⟩, ⟨⟨rfl, rfl, rfl, rfl, fun _ => rfl, fun i h => .inl (absurd h (Nat.not_lt_zero i))⟩, trivial⟩⟩⟩⟩, trivial⟩⟩, ?_⟩
      rintro s0 m0 ⟨k, s, L, T, n, hn, hk, hs, hw, hL, hT, hR1, rfl, hmeas⟩
      have hat := hs.at
      by_cases hlt : k < cs.length
      · have hR2 : runG p f s (cs.drop k) L T = if hasI (stp p s).exits (cs.getD k 0) then (match commandF p f s (cs.getD k 0) with | none => (12, [], 0) | some r => runG p f (lastOf r.1) (cs.drop (k + 1)) (L ++ r.1) (T + r.2)) else (24, [], 0) := by
          rw [List.drop_eq_getElem_cons hlt]
          rw [show cs.getD k 0 = cs[k] by simp [List.getD_eq_getElem?_getD, hlt]]
          rfl
        have hpos : hasI (stp p s).exits (cs.getD k 0) = true → inX p.steps.length (cs.getD k 0) = true := fun hh => exit_ok hg hs hw hh
        by_cases hneg : cs.getD k 0 < 0
        · have hh : hasI (stp p s).exits (cs.getD k 0) = false := by
            cases hh : hasI (stp p s).exits (cs.getD k 0) with
            | false => rfl
            | true => have := hpos hh; unfold inX at this; rw [decide_eq_true_iff] at this; omega
          rw [hh] at hR2
          have hneg' : cs.getD (k : Int).toNat 0 < 0 := hneg
          conv => whnf
          conv => whnf
          refine ifB_dec (fun w3 => ?_) (fun w3 => ?_)
          · conv => whnf
            conv => whnf
            refine ⟨[], by kernel_rfl, ?_⟩
            conv => whnf
            conv => whnf
            refine ⟨⟨(by omega), (by omega)⟩, ?_⟩
            conv => whnf
            conv => whnf
            refine ifB_dec (fun w4 => ?_) (fun w4 => ?_)
            · conv => whnf
              conv => whnf
              refine ⟨?_, nofun⟩
              rw [hR, hR1, hR2]
              exact ave_tup3 rfl rfl rfl
            · (exfalso; omega)
          · (exfalso; omega)
        · have h48 := S48 p hg s (cs.getD k 0) hs
          rw [decide_eq_false (by omega), decide_eq_true hw, Bool.false_or, Bool.true_and] at h48
          have hneg' : ¬ cs.getD (k : Int).toNat 0 < 0 := hneg
          cases hh : hasI (stp p s).exits (cs.getD k 0) with
          | false =>
            rw [hh] at h48 hR2
            conv => whnf
            conv => whnf
            refine ifB_dec (fun w3 => ?_) (fun w3 => ?_)
            · conv => whnf
              conv => whnf
              refine ⟨[], by kernel_rfl, ?_⟩
              conv => whnf
              conv => whnf
              refine ⟨⟨(by omega), (by omega)⟩, ?_⟩
              conv => whnf
              conv => whnf
              refine ifB_dec (fun w4 => ?_) (fun w4 => ?_)
              · (exfalso; omega)
              · conv => whnf
                conv => whnf
                refine ⟨⟨(by omega), (by omega)⟩, ?_⟩
                conv => whnf
                conv => whnf
                refine .inl ⟨_, _, byX rfl (Sound1.pl (h48) rfl), ?_⟩
                conv => whnf
                conv => whnf
                refine ⟨?_, nofun⟩
                rw [hR, hR1, hR2]
                exact ave_tup3 rfl rfl rfl
            · (exfalso; omega)
          | true =>
            rw [hh] at h48 hR2
            have hOC : OkC p (cs.getD k 0) := .inr (hpos hh)
            have h49 := S49 p hg s f (cs.getD k 0) hs hff hOC
            have htk := turn_ok hg hs (f := f) hOC
            conv => whnf
            conv => whnf
            refine ifB_dec (fun w3 => ?_) (fun w3 => ?_)
            · conv => whnf
              conv => whnf
              refine ⟨[], by kernel_rfl, ?_⟩
              conv => whnf
              conv => whnf
              refine ⟨⟨(by omega), (by omega)⟩, ?_⟩
              conv => whnf
              conv => whnf
              refine ifB_dec (fun w4 => ?_) (fun w4 => ?_)
              · (exfalso; omega)
              · conv => whnf
                conv => whnf
                refine ⟨⟨(by omega), (by omega)⟩, ?_⟩
                conv => whnf
                conv => whnf
                refine .inl ⟨_, _, byX rfl (Sound1.pl (h48) rfl), ?_⟩
                conv => whnf
                conv => whnf
                refine ⟨[], by kernel_rfl, ?_⟩
                conv => whnf
                conv => whnf
                refine ⟨⟨(by omega), (by omega)⟩, ?_⟩
                conv => whnf
                conv => whnf
                refine .inl ⟨_, _, byX rfl (Sound1.pl (h49) rfl), ?_⟩
                conv => whnf
                conv => whnf
                refine ⟨[(3, 7)], by kernel_rfl, ?_⟩
                conv => whnf
                conv => whnf
                refine .inl ?_
                conv => whnf
                conv => whnf
                refine ⟨(by show _ * (16 + 1) ≤ _; omega), ?_⟩
                conv => whnf
                conv => whnf
                refine ⟨inK64 (by omega) (by omega), ?_⟩
                conv => whnf
                conv => whnf
                refine ⟨[], [3, 4, 5, 9, 10, 11, 12, 14], fun st mq => ∃ (j : Nat) (now : S2) (l : List S2) (t : Int) (M : List S2) (n2 : Nat) (tt : Int) (F5 : Nat → List AV), (j ≤ allN p) ∧ (OkS p now) ∧ (lastOf l = now) ∧ (M = L ++ l) ∧ (tt = T + t) ∧ (M.length = n2) ∧ (n2 = n + j + 1) ∧ (0 ≤ t ∧ t ≤ 10000 * ((j : Int) + 1)) ∧ (commandF p f s (cs.getD k 0) = goA (stopS p) (stepS p f) (allN p + 1 - j) now l t) ∧ st = ⟨[(3, .optr 0 0 0 0), (4, .optr 1 0 0 0), (5, .optr 2 0 0 0), (9, .oslice 3 0 0 n2 none), (10, i64 tt), (11, i64 k), (12, .optr 4 0 0 0), (14, i64 j)], ⟨[⟨3, 1, fun _ => planC p, 0, false, true, true⟩, ⟨2, 1, fun _ => stC now, 0, false, true, true⟩, ⟨3, 1, fun _ => [i64 f.1, vb f.2, ints cs], 0, false, true, true⟩, ⟨2, n2, fun i => stC (M.getD i (0, 0)), 0, false, true, false⟩, ⟨2, 1, fun _ => stC now, 0, false, true, true⟩, ⟨2, 1, F5, 0, false, true, false⟩], [], none, 0⟩, []⟩ ∧ mq = allN p - j,
                  ⟨_, _, ⟨0, (turnF p f s (cs.getD k 0)).1, [(turnF p f s (cs.getD k 0)).1], (turnF p f s (cs.getD k 0)).2, L ++ [(turnF p f s (cs.getD k 0)).1], n + 1, T + (turnF p f s (cs.getD k 0)).2, _, by omega, htk.1, rfl, rfl, rfl, (by rw [List.length_append, hn]; rfl), by omega, by omega, rfl, rfl, rfl⟩, ⟨⟨.inl rfl, rfl, rfl, rfl⟩, ⟨⟨rfl, rfl, rfl, rfl, fun _ => rfl, fun _ _ => .inl rfl⟩, ⟨⟨rfl, rfl, rfl, rfl, fun _ => rfl, fun _ _ => .inl rfl⟩, ⟨⟨rfl, rfl, rfl, rfl, fun _ => rfl, fun _ _ => .inl rfl⟩, ⟨⟨rfl, rfl, rfl, rfl, fun _ => rfl, fun i h => .inl (sts_row hn _ i h)⟩, ⟨⟨rfl, rfl, rfl, rfl, fun _ => rfl, fun _ _ => .inl rfl⟩, ⟨⟨rfl, rfl, rfl, rfl, fun _ => rfl, fun _ _ => .inl rfl⟩, trivial⟩⟩⟩⟩⟩⟩, trivial⟩⟩, ?_⟩
                rintro s0 m0 ⟨j, now, l, t, M, n2, tt, F5, hj, hnow, hl, hM, htt, hn2, hn2b, ht, hC, rfl, hmeas⟩
                have hatn := hnow.at
                have h49n := S49 p hg now f (-1) hnow hff (.inl rfl)
                have htn := turn_ok hg hnow (f := f) (.inl rfl)
                have hCj : commandF p f s (cs.getD k 0) = goA (stopS p) (stepS p f) ((allN p - j) + 1) now l t := by rw [hC, show allN p + 1 - j = allN p - j + 1 by omega]
                conv => whnf
                conv => whnf
                conv => whnf
                refine ⟨⟨(by omega), (by omega)⟩, ?_⟩
                conv => whnf
                conv => whnf
                conv => whnf
                refine ifB_bne (fun w5 => ?_) (fun w5 => ?_)
                · conv => whnf
                  conv => whnf
                  conv => whnf
                  refine .inl ⟨_, _, byX rfl (Sound1.pl (h49n) rfl), ?_⟩
                  conv => whnf
                  conv => whnf
                  conv => whnf
                  refine ⟨[(3, 7)], by kernel_rfl, ?_⟩
                  conv => whnf
                  conv => whnf
                  conv => whnf
                  refine .inl ?_
                  conv => whnf
                  conv => whnf
                  conv => whnf
                  refine ⟨(by show _ * (16 + 1) ≤ _; omega), ?_⟩
                  conv => whnf
                  conv => whnf
                  conv => whnf
                  refine ⟨inK64 (by omega) (by omega), ?_⟩
                  conv => whnf
                  conv => whnf
                  conv => whnf
                  refine ⟨inK64 (by omega) (by omega), ?_⟩
                  conv => whnf
                  conv => whnf
                  conv => whnf
                  refine ⟨[], by kernel_rfl, ?_⟩
                  conv => whnf
                  conv => whnf
                  conv => whnf
                  refine .inl ⟨_, _, byX rfl (Sound1.pl (h80) rfl), ?_⟩
                  conv => whnf
                  conv => whnf
                  conv => whnf
                  refine ⟨inK64 (by omega) (by omega), ?_⟩
                  conv => whnf
                  conv => whnf
                  conv => whnf
                  refine ifB_dec (fun w6 => ?_) (fun w6 => ?_)
                  · conv => whnf
                    conv => whnf
                    conv => whnf
                    refine ⟨?_, nofun⟩
                    rw [hpn] at w6
                    have : commandF p f s (cs.getD k 0) = none := by rw [hCj, show allN p - j = 0 by omega, goA_step (show stopS p now = false from decide_eq_false w5) rfl]; rfl
                    rw [this] at hR2
                    rw [hR, hR1, hR2]
                    exact ave_tup3 rfl rfl rfl
                  · rw [hpn] at w6
                    have hC2 : commandF p f s (cs.getD k 0) = goA (stopS p) (stepS p f) (allN p + 1 - (j + 1)) (turnF p f now (-1)).1 (l ++ [(turnF p f now (-1)).1]) (t + (turnF p f now (-1)).2) := by rw [hCj, goA_step (show stopS p now = false from decide_eq_false w5) rfl, show allN p - j = allN p + 1 - (j + 1) by omega]
                    conv => whnf
                    conv => whnf
                    conv => whnf
                    refine ⟨_, _, ⟨⟨j + 1, (turnF p f now (-1)).1, l ++ [(turnF p f now (-1)).1], t + (turnF p f now (-1)).2, M ++ [(turnF p f now (-1)).1], n2 + 1, tt + (turnF p f now (-1)).2, _, by omega, htn.1, by simp [lastOf], (by rw [hM, List.append_assoc]), by omega, (by rw [List.length_append, hn2]; rfl), by omega, by omega, hC2, rfl, rfl⟩, by omega⟩, ⟨⟨.inl rfl, rfl, rfl, rfl⟩, ⟨⟨rfl, rfl, rfl, rfl, fun _ => rfl, fun _ _ => .inl rfl⟩, ⟨⟨rfl, rfl, rfl, rfl, fun _ => rfl, fun _ _ => .inl rfl⟩, ⟨⟨rfl, rfl, rfl, rfl, fun _ => rfl, fun _ _ => .inl rfl⟩, ⟨⟨rfl, rfl, rfl, rfl, fun _ => rfl, fun i h => .inl (sts_row hn2 _ i h)⟩, ⟨⟨rfl, rfl, rfl, rfl, fun _ => rfl, fun _ _ => .inl rfl⟩, ⟨⟨rfl, rfl, rfl, rfl, fun _ => rfl, fun _ _ => .inl rfl⟩, trivial⟩⟩⟩⟩⟩⟩, trivial⟩⟩
                · conv => whnf
                  conv => whnf
                  conv => whnf
                  refine ⟨inK64 (by omega) (by omega), ?_⟩
                  have hC2 : commandF p f s (cs.getD k 0) = some (l, t) := hCj.trans (goA_stop (show stopS p now = true from decide_eq_true w5))
                  have hok := command_ok hg hs hOC hC2
                  have q2 := hok.t2
                  have q1 := hok.t1
                  have q3 := hok.len
                  have q4 : n2 = n + l.length := by rw [← hn2, hM, List.length_append, hn]
                  rw [hC2] at hR2
                  have hR3 : runG p f s (cs.drop k) L T = runG p f now (cs.drop (k + 1)) M tt := by rw [hR2, hM, htt, ← hl]; rfl
                  conv => whnf
                  conv => whnf
                  conv => whnf
                  refine ⟨_, _, ⟨⟨k + 1, now, M, tt, n2, hn2, by omega, hnow, w5, by omega, by omega, hR1.trans hR3, rfl, rfl⟩, by omega⟩, ⟨⟨.inl rfl, rfl, rfl, rfl⟩, ⟨⟨rfl, rfl, rfl, rfl, fun _ => rfl, fun _ _ => .inl rfl⟩, ⟨⟨rfl, rfl, rfl, rfl, fun _ => rfl, fun _ _ => .inl rfl⟩, ⟨⟨rfl, rfl, rfl, rfl, fun _ => rfl, fun _ _ => .inl rfl⟩, ⟨⟨rfl, rfl, rfl, rfl, fun _ => rfl, fun _ _ => .inl rfl⟩, trivial⟩⟩⟩⟩, trivial⟩⟩
            · (exfalso; omega)
      · conv => whnf
        conv => whnf
        refine ifB_dec (fun w3 => ?_) (fun w3 => ?_)
        · (exfalso; omega)
        · conv => whnf
          conv => whnf
          refine ⟨?_, nofun⟩
          rw [hR, hR1, List.drop_eq_nil_of_le (by omega)]
          exact ave_tup3 ⟨rfl, hn.symm, fun _ _ => rfl⟩ rfl rfl
theorem S29e : SP 29 [sts [], .eslice] (vb true) false := by
  refine sound (d := 2) tok2 mixed2 Tryd.func29 (by kernel_rfl) (by kernel_rfl) ?_
  conv => whnf
  refine ⟨[], [0, 1, 5], fun st mq => ∃ (k : Nat), (k = 0) ∧ st = ⟨[(0, sts []), (1, .eslice), (5, i64 k)], ⟨[], [], none, 0⟩, []⟩ ∧ mq = 0,
    ⟨_, _, ⟨0, rfl, rfl, rfl⟩, ⟨⟨.inl rfl, rfl, rfl, rfl⟩, trivial, trivial⟩⟩, ?_⟩
  rintro s0 m0 ⟨k, hk, rfl, hmeas⟩
  subst hk
  conv => whnf
  conv => whnf
  refine ⟨?_, nofun⟩
  rfl
theorem runG_len {p : Pln} (hg : Good p) (f : Int × Bool) : ∀ (cs : List Int) (s : S2) (L : List S2) (T : Int), OkS p s → (stp p s).wait = 0 → (runG p f s cs L T).2.1.length ≤ L.length + 1000 * cs.length
  | [], s, L, T, _, _ => by show L.length ≤ _; omega
  | c :: cs, s, L, T, hs, hw => by
    unfold runG
    split
    · rename_i hh
      have hOC : OkC p c := .inr (exit_ok hg hs hw hh)
      cases hx : commandF p f s c with
      | none => show 0 ≤ _; omega
      | some r =>
        have hok := command_ok hg hs hOC hx
        have := runG_len hg f cs (lastOf r.1) (L ++ r.1) (T + r.2) hok.ok hok.steady
        rw [List.length_append] at this
        have h3 := hok.len
        show (runG p f (lastOf r.1) cs (L ++ r.1) (T + r.2)).2.1.length ≤ _
        rw [List.length_cons]
        omega
    · show 0 ≤ _; omega
theorem runP_len {p : Pln} (hg : Good p) {s : S2} {f : Int × Bool} {cs : List Int} (hs : OkS p s) : (runP p s f cs).2.1.length ≤ 10000 := by
  unfold runP
  split
  · show 0 ≤ _; omega
  split
  · show 0 ≤ _; omega
  split
  · show 0 ≤ _; omega
  · rename_i h1 h2 h3
    have := runG_len hg f cs s [] 0 hs (Decidable.of_not_not h2)
    simp only [List.length_nil] at this
    omega
theorem S9 (p : Pln) (hl : p.sig.length ≤ 9223372036854775807 ∧ p.steps.length ≤ 9223372036854775807) (s : S2) (f : Int × Bool) (cs : List Int) (hcs : cs.length ≤ 9223372036854775807) : SP 9 [planA p, stA s, rnA f cs] (vb true) false := by
  have h14 := S14 p hl
  cases hf : fewB p with
  | false =>
    rw [hf] at h14
    refine sound (d := 2) tok2 mixed2 Tryd.func9 (by kernel_rfl) (by kernel_rfl) ?_
    conv => whnf
    refine .inl ⟨_, _, byX rfl (Sound1.pl (S13) rfl), ?_⟩
    conv => whnf
    refine .inl ⟨_, _, byX rfl (Sound1.pl (h14) rfl), ?_⟩
    conv => whnf
    refine ⟨?_, nofun⟩
    (rfl)
  | true =>
    rw [hf] at h14
    have hp := FewP.of hf
    by_cases hc : cs.length ≤ 12
    · have h18 := S18 p hp
      have h51 := S51 f cs (by omega)
      have h50 := S50 p hp s f cs (by omega)
      have h19 := S19 p hp s f
      by_cases h0 : openE p s f = 0
      · obtain ⟨hg, hs, hff⟩ := open_ok hp h0
        have h52 := S52 p hg s f cs h0 hs hff (by omega)
        have h29 := S29 (runP p s f cs).2.1 (by have := runP_len (f := f) (cs := cs) hg hs; omega)
        rw [h0] at h19
        generalize runP p s f cs = R at h50 h52 h29
        unfold runT at h50 h52
        refine sound (d := 2) tok2 mixed2 Tryd.func9 (by kernel_rfl) (by kernel_rfl) ?_
        conv => whnf
        refine .inl ⟨_, _, byX rfl (Sound1.pl (S13) rfl), ?_⟩
        conv => whnf
        refine .inl ⟨_, _, byX rfl (Sound1.pl (h14) rfl), ?_⟩
        conv => whnf
        refine ifB_dec (fun w1 => ?_) (fun w1 => ?_)
        · (exfalso; omega)
        · conv => whnf
          refine ⟨[], by kernel_rfl, ?_⟩
          conv => whnf
          refine .inl ⟨_, _, byX rfl (h18), ?_⟩
          conv => whnf
          refine .inl ⟨_, _, byX rfl (h51), ?_⟩
          conv => whnf
          refine .inl ⟨_, _, byX rfl (h50), ?_⟩
          conv => whnf
          refine .inl ⟨_, _, byX rfl (Sound1.pl (h19) rfl), ?_⟩
          conv => whnf
          refine .inl ⟨_, _, byX rfl (h52), ?_⟩
          conv => whnf
          refine ifB_beq (fun w2 => ?_) (fun w2 => ?_)
          · conv => whnf
            refine ifB_beq (fun w3 => ?_) (fun w3 => ?_)
            · conv => whnf
              refine .inl ⟨_, _, byX rfl (Sound1.pl (h29) rfl), ?_⟩
              conv => whnf
              refine ⟨?_, nofun⟩
              (rfl)
            · (exfalso; omega)
          · (exfalso; omega)
      · have hR : runP p s f cs = (openE p s f, [], 0) := by
          unfold runP
          rw [if_pos h0]
        rw [hR] at h50
        unfold runT at h50
        refine sound (d := 2) tok2 mixed2 Tryd.func9 (by kernel_rfl) (by kernel_rfl) ?_
        conv => whnf
        refine .inl ⟨_, _, byX rfl (Sound1.pl (S13) rfl), ?_⟩
        conv => whnf
        refine .inl ⟨_, _, byX rfl (Sound1.pl (h14) rfl), ?_⟩
        conv => whnf
        refine ifB_dec (fun w1 => ?_) (fun w1 => ?_)
        · (exfalso; omega)
        · conv => whnf
          refine ⟨[], by kernel_rfl, ?_⟩
          conv => whnf
          refine .inl ⟨_, _, byX rfl (h18), ?_⟩
          conv => whnf
          refine .inl ⟨_, _, byX rfl (h51), ?_⟩
          conv => whnf
          refine .inl ⟨_, _, byX rfl (h50), ?_⟩
          conv => whnf
          refine .inl ⟨_, _, byX rfl (Sound1.pl (h19) rfl), ?_⟩
          conv => whnf
          refine ifB_beq (fun w2 => ?_) (fun w2 => ?_)
          · (exfalso; omega)
          · conv => whnf
            refine ifB_beq (fun w3 => ?_) (fun w3 => ?_)
            · conv => whnf
              refine .inl ⟨_, _, byX rfl (Sound1.pl (S29e) rfl), ?_⟩
              conv => whnf
              refine ⟨?_, nofun⟩
              (rfl)
            · (exfalso; omega)
    · refine sound (d := 2) tok2 mixed2 Tryd.func9 (by kernel_rfl) (by kernel_rfl) ?_
      conv => whnf
      refine .inl ⟨_, _, byX rfl (Sound1.pl (S13) rfl), ?_⟩
      conv => whnf
      refine .inl ⟨_, _, byX rfl (Sound1.pl (h14) rfl), ?_⟩
      conv => whnf
      refine ifB_dec (fun w1 => ?_) (fun w1 => ?_)
      · conv => whnf
        refine ⟨?_, nofun⟩
        (rfl)
      · (exfalso; omega)
end Go.Tr

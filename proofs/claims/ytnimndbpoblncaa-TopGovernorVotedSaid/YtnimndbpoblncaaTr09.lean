/- Contracts of chapter 6: what all share; its examples. Conditions: none. -/
import Derived.Test.YtnimndbpoblncaaTr07
import Derived.Test.YtnimndbpoblncaaTr08
import Derived.Test.YtnimndbpoblncaaProg
set_option linter.unusedSectionVars false
set_option linter.unnecessarySimpa false
set_option linter.unusedVariables false
set_option linter.unusedSimpArgs false

namespace Go.Tr
open Go Go.Proofs

abbrev i64 (n : Int) : AV := .val (.int .i64 n)
abbrev vb (b : Bool) : AV := .val (.bool b)
theorem mixed2 : Try.prog.follows .mixedOrders = true := by kernel_rfl
instance gtab : GTab := ⟨fun _ => none⟩
set_option maxRecDepth 20000
set_option maxHeartbeats 8000000
abbrev SP := Sound1 Try.prog
/-- The kinds of the types that are compared. -/
def K2 (t : Nat) : Option (List LK) :=
  bif Nat.beq t 23 then some [.int .i64, .int .i64, .int .i64, .int .i64] else bif Nat.beq t 40 then some [.int .i64, .bool, .bool, .bool] else bif Nat.beq t 38 then some [.bool, .bool, .bool] else none
theorem tok2 : TOK Try.prog (TK Try.prog K2) := TOK_TK fun t ks h => by
  unfold K2 at h
  cases e0 : Nat.beq t 23 with
  | true => rw [e0] at h; cases h; cases Nat.eq_of_beq_eq_true e0; exact ⟨_, Try.underlying23, by kernel_rfl⟩
  | false =>
  rw [e0] at h
  cases e1 : Nat.beq t 40 with
  | true => rw [e1] at h; cases h; cases Nat.eq_of_beq_eq_true e1; exact ⟨_, Try.underlying40, by kernel_rfl⟩
  | false =>
  rw [e1] at h
  cases e2 : Nat.beq t 38 with
  | true => rw [e2] at h; cases h; cases Nat.eq_of_beq_eq_true e2; exact ⟨_, Try.underlying38, by kernel_rfl⟩
  | false => rw [e2] at h; cases h

def boxE : AV := .agg [.rslice 2 4 fun i => [[i64 1, i64 1], [i64 2, i64 3], [i64 3, i64 4], [i64 1, i64 2]].getD i []]
theorem run10 : Run.ok Try.prog ⟨10, [boxE], .tuple [vb true, i64 0]⟩ := run_ok mixed2 (l := []) (by simp) 1000 60 (by kernel_rfl)
theorem S4 : SP 4 [] (vb true) false := run_ok mixed2 (l := [⟨10, [boxE], .tuple [vb true, i64 0]⟩]) (by
    intro x hx
    simp only [List.mem_cons, List.not_mem_nil, or_false] at hx
    rcases hx with rfl
    exact run10) 1000 60 (by kernel_rfl)
end Go.Tr

/- Contracts of chapter 6: small functions; gates and rules. Conditions: none. -/
namespace Go.Tr
open Go Go.Proofs
set_option maxRecDepth 20000
set_option maxHeartbeats 8000000

def firstOf : List Int → Int
  | [] => 0
  | x :: r => if x = 0 then firstOf r else x
theorem firstOf_drop (l : List Int) (k : Nat) (h : k < l.length) : firstOf (l.drop k) = if l.getD k 0 = 0 then firstOf (l.drop (k+1)) else l.getD k 0 := by
  rw [List.drop_eq_getElem_cons h, firstOf]; simp [List.getD, h]
def ints (l : List Int) : AV := .rslice 1 l.length fun i => [i64 (l.getD i 0)]
theorem endi {a b : Int} (h : a = b) : i64 a = i64 b := congrArg (fun x => i64 x) h
theorem endb {a b : Bool} (h : a = b) : vb a = vb b := congrArg (fun x => vb x) h
theorem first2 (a b : Int) : firstOf [a, b] = if a ≠ 0 then a else b := by
  unfold firstOf firstOf firstOf
  by_cases h : a = 0
  · subst h; by_cases h2 : b = 0 <;> simp [h2]
  · simp [h]
theorem first3 (a b c : Int) : firstOf [a, b, c] = if a ≠ 0 then a else if b ≠ 0 then b else c := by
  unfold firstOf
  by_cases h : a = 0
  · rw [if_pos h, if_neg (by simpa using h)]; exact first2 b c
  · rw [if_neg h, if_pos h]

/-- Is a number within bounds? -/
def win (x a b : Int) : Bool := decide (a ≤ x ∧ x ≤ b)
theorem S20 (x a b : Int) : SP 20 [i64 x, i64 a, i64 b] (vb (win x a b)) false := by
  refine sound (d := 2) tok2 mixed2 Try.func20 (by kernel_rfl) (by kernel_rfl) ?_
  unfold win
  conv => whnf
  refine ifB_dec (fun w1 => ?_) (fun w1 => ?_)
  · conv => whnf
    refine ⟨?_, nofun⟩
    exact endb (decide_eq_decide.2 ⟨fun h => ⟨w1, h⟩, fun h => h.2⟩)
  · conv => whnf
    refine ⟨?_, nofun⟩
    exact endb (decide_eq_false fun h => w1 h.1).symm
theorem S7 (x a b : Int) : SP 7 [i64 x, i64 a, i64 b] (vb (win x a b)) false := by
  refine sound (d := 2) tok2 mixed2 Try.func7 (by kernel_rfl) (by kernel_rfl) ?_
  unfold win
  conv => whnf
  refine ifB_dec (fun w1 => ?_) (fun w1 => ?_)
  · conv => whnf
    refine ⟨?_, nofun⟩
    exact endb (decide_eq_decide.2 ⟨fun h => ⟨w1, h⟩, fun h => h.2⟩)
  · conv => whnf
    refine ⟨?_, nofun⟩
    exact endb (decide_eq_false fun h => w1 h.1).symm
theorem S18 (x b : Int) (h1 : -9223372036854775807 ≤ b ∧ b ≤ 9223372036854775807) : SP 18 [i64 x, i64 b] (vb (win x (-b) b)) false := by
  have h := S20 x (-b) b
  refine sound (d := 2) tok2 mixed2 Try.func18 (by kernel_rfl) (by kernel_rfl) ?_
  conv => whnf
  refine ⟨inK64 (by omega) (by omega), ?_⟩
  conv => whnf
  refine .inl ⟨_, _, byX rfl (Sound1.pl (h) rfl), ?_⟩
  conv => whnf
  refine ⟨?_, nofun⟩
  rfl
def siz (x : Int) : Int := if -x > x then -x else x
theorem S22 (x : Int) (h : -9223372036854775807 ≤ x ∧ x ≤ 9223372036854775807) : SP 22 [i64 x] (i64 (siz x)) false := by
  refine sound (d := 2) tok2 mixed2 Try.func22 (by kernel_rfl) (by kernel_rfl) ?_
  conv => whnf
  refine ⟨inK64 (by omega) (by omega), ?_⟩
  conv => whnf
  refine ⟨?_, nofun⟩
  rfl
theorem S17 (c : Bool) (e : Int) : SP 17 [vb c, i64 e] (i64 (if c then 0 else e)) false := by
  refine sound (d := 2) tok2 mixed2 Try.func17 (by kernel_rfl) (by kernel_rfl) ?_
  cases c with
  | true =>
    conv => whnf
    refine ⟨?_, nofun⟩
    rfl
  | false =>
    conv => whnf
    refine ⟨?_, nofun⟩
    rfl
theorem S19 (l : List Int) (hl : l.length ≤ 1000000000) : SP 19 [ints l] (i64 (firstOf l)) false := by
  refine sound (d := 2) tok2 mixed2 Try.func19 (by kernel_rfl) (by kernel_rfl) ?_
  conv => whnf
  refine ⟨[], [5, 6, 7], fun st mq => ∃ (k : Nat), (k ≤ l.length) ∧ (firstOf (l.drop k) = firstOf l) ∧ st = ⟨[(5, ints l), (6, i64 l.length), (7, i64 k)], ⟨[], [], none, 0⟩, []⟩ ∧ mq = l.length - k,
    ⟨_, _, ⟨0, by omega, rfl, rfl, rfl⟩, ⟨⟨.inl rfl, rfl, rfl, rfl⟩, trivial, trivial⟩⟩, ?_⟩
  rintro s0 m0 ⟨k, hk, hf, rfl, hmeas⟩
  by_cases hlt : k < l.length
  · have hd := firstOf_drop l k hlt
    conv => whnf
    conv => whnf
    refine ifB_dec (fun w1 => ?_) (fun w1 => ?_)
    · conv => whnf
      conv => whnf
      refine ⟨⟨(by omega), (by omega)⟩, ?_⟩
      conv => whnf
      conv => whnf
      refine ifB_bne (fun w2 => ?_) (fun w2 => ?_)
      · conv => whnf
        conv => whnf
        refine ⟨?_, nofun⟩
        rw [if_neg (show ¬ l.getD k 0 = 0 from w2)] at hd
        show i64 _ = i64 _
        rw [← hf, hd]; rfl
      · conv => whnf
        conv => whnf
        refine ⟨inK64 (by omega) (by omega), ?_⟩
        rw [if_pos (show l.getD k 0 = 0 from w2)] at hd
        conv => whnf
        conv => whnf
        refine ⟨_, _, ⟨⟨k + 1, by omega, hd.symm.trans hf, rfl, rfl⟩, by omega⟩, ⟨⟨.inl rfl, rfl, rfl, rfl⟩, trivial, trivial⟩⟩
    · (exfalso; omega)
  · have e : k = l.length := by omega
    subst e
    conv => whnf
    conv => whnf
    refine ifB_dec (fun w1 => ?_) (fun w1 => ?_)
    · (exfalso; omega)
    · conv => whnf
      conv => whnf
      refine ⟨?_, nofun⟩
      simp [firstOf] at hf
      show i64 _ = i64 _
      rw [← hf]
end Go.Tr

/- Values equal in depth. Conditions: none. -/
namespace Go.Tr
open Go
variable [GTab]

/-- Equal as far as it can be seen, in depth. -/
def AVF : Nat → AV → AV → Prop
  | 0, _, _ => False
  | n + 1, .rslice es len f, .rslice es' len' g => es = es' ∧ len = len' ∧ ∀ i, i < len → (f i).length = (g i).length ∧ ∀ j x y, nth? (f i) j = some x → nth? (g i) j = some y → x = y ∨ AVF n x y
  | _ + 1, .eslice, .rslice _ len _ => len = 0
  | n + 1, .agg l, .agg l' => l.length = l'.length ∧ ∀ i x y, nth? l i = some x → nth? l' i = some y → x = y ∨ AVF n x y
  | n + 1, .tuple l, .tuple l' => l.length = l'.length ∧ ∀ i x y, nth? l i = some x → nth? l' i = some y → x = y ∨ AVF n x y
  | _ + 1, x, y => x = y
theorem AVF_ok {P : Program} {w : World} {p : Nat → Prop} : ∀ (k : Nat) {x y : AV} {v : Value}, AVF k x y → VT P w p x v → VT P w p y v
  | 0, x, y, v, h, _ => h.elim
  | k + 1, x, y, v, h, hx => by
    have eqc : x = y → VT P w p y v := fun e => e ▸ hx
    have list : ∀ (l l' : List AV) (vs : Array Value), l.length = l'.length → (∀ i x y, nth? l i = some x → nth? l' i = some y → x = y ∨ AVF k x y) → (∀ i x, l[i]? = some x → VT P w p x (vs.getD i undef)) → ∀ i x, l'[i]? = some x → VT P w p x (vs.getD i undef) := by
      intro l l' vs hl he hv i x hi
      have hlt : i < l.length := by rw [hl]; exact (List.getElem?_eq_some_iff.1 hi).1
      have hvi := hv i _ (List.getElem?_eq_getElem hlt)
      rcases he i _ _ (by rw [nth?_eq]; exact List.getElem?_eq_getElem hlt) (by rw [nth?_eq]; exact hi) with e | e
      · rw [← e]; exact hvi
      · exact AVF_ok k e hvi
    cases x with
    | rslice es len f =>
      cases y with
      | rslice es' len' g =>
        obtain ⟨rfl, rfl, hf⟩ := h
        cases hx with
        | rslice0 => exact .rslice0 _ _ _ _
        | rslice _ _ _ b off kk gg h1 h2 h3 h4 h5 =>
          refine .rslice _ _ _ b off kk gg h1 h2 (fun i hi => by rw [← (hf i hi).1]; exact h3 i hi) h4 (fun i j y hi hy => ?_)
          have hl := (hf i hi).1
          have hlt : j < (f i).length := by rw [hl]; exact (List.getElem?_eq_some_iff.1 hy).1
          have hvi := h5 i j _ hi (List.getElem?_eq_getElem hlt)
          rcases (hf i hi).2 j _ y (by rw [nth?_eq]; exact List.getElem?_eq_getElem hlt) (by rw [nth?_eq]; exact hy) with e | e
          · rw [← e]; exact hvi
          · exact AVF_ok k e hvi
      | _ => exact eqc h
    | eslice =>
      cases y with
      | rslice es' len' g =>
        have h : len' = 0 := h
        subst h
        cases hx with
        | eslice a => exact .rslice0 _ _ _ _
      | _ => exact eqc h
    | agg l =>
      cases y with
      | agg l' =>
        obtain ⟨h1, h2⟩ := h
        cases hx with
        | agg _ vs g1 g2 g3 => exact .agg l' vs (by rw [← h1]; exact g1) g2 (list l l' vs h1 h2 g3)
      | _ => exact eqc h
    | tuple l =>
      cases y with
      | tuple l' =>
        obtain ⟨h1, h2⟩ := h
        cases hx with
        | tuple _ vs g1 g3 => exact .tuple l' vs (by rw [← h1]; exact g1) (list l l' vs h1 h2 g3)
      | _ => exact eqc h
    | _ => cases y <;> exact eqc h
theorem Sound1.argsD {P : Program} {f : FuncId} {xs ys : List AV} {r : AV} {fr : Bool} (h : Sound1 P f xs r fr) (hl : ys.length = xs.length) (hx : ∀ i y x, nth? ys i = some y → nth? xs i = some x → y = x ∨ ∃ k, AVF k y x) : Sound1 P f ys r fr := by
  refine ⟨h.1, fun w q vs hq hg hs hv => h.2 w q vs hq hg (hs.trans hl) fun i x hi => ?_⟩
  have hlt : i < ys.length := by rw [hl]; exact (List.getElem?_eq_some_iff.1 hi).1
  have hvi := hv i _ (List.getElem?_eq_getElem hlt)
  rcases hx i _ x (by rw [nth?_eq]; exact List.getElem?_eq_getElem hlt) (by rw [nth?_eq]; exact hi) with e | ⟨k, hk⟩
  · rw [← e]; exact hvi
  · exact AVF_ok k hk hvi
theorem AVF_rows {es n n' : Nat} {f g : Nat → List AV} (hn : n = n') (h : ∀ i, i < n → f i = g i) (k : Nat) : AVF (k + 1) (.rslice es n f) (.rslice es n' g) := by
  refine ⟨rfl, hn, fun i hi => ⟨by rw [h i hi], fun j x y hx hy => .inl ?_⟩⟩
  rw [h i hi] at hx
  exact Option.some.inj (hx.symm.trans hy)
end Go.Tr

/- Contracts of chapter 6: gates and rules. Conditions: none. -/
namespace Go.Tr
open Go Go.Proofs
set_option maxRecDepth 20000
set_option maxHeartbeats 8000000

theorem S19_3 (a b c : Int) {f : Nat → List AV} (h : f 0 = [i64 a] ∧ f 1 = [i64 b] ∧ f 2 = [i64 c]) : SP 19 [.rslice 1 3 f] (i64 (firstOf [a, b, c])) false := by
  have key : ∀ i, i < 3 → f i = [i64 (([a, b, c] : List Int).getD i 0)] := fun i hi => by
    match i, hi with
    | 0, _ => exact h.1
    | 1, _ => exact h.2.1
    | 2, _ => exact h.2.2
  refine (S19 [a, b, c] (by simp)).argsD rfl fun i y x hy hx => ?_
  match i, hy, hx with
  | 0, hy, hx => cases hy; cases hx; exact .inr ⟨1, AVF_rows rfl key 0⟩
/-- A gate: where it is, its limits, its rate; rules: band, fraction, set point. -/
structure Gt where
  a : Int
  l : Int
  h : Int
  r : Int
structure Ru where
  b : Int
  n : Int
  d : Int
  s : Int
abbrev gtA (g : Gt) : AV := .agg [i64 g.a, i64 g.l, i64 g.h, i64 g.r]
abbrev ruA (r : Ru) : AV := .agg [i64 r.b, i64 r.n, i64 r.d, i64 r.s]
def gateE (g : Gt) : Int :=
  if (0 ≤ g.l ∧ g.l ≤ 10000) ∧ (0 ≤ g.h ∧ g.h ≤ 10000) ∧ (0 ≤ g.a ∧ g.a ≤ 10000) ∧ (1 ≤ g.r ∧ g.r ≤ 10000) then (if g.l ≤ g.h then (if g.l ≤ g.a ∧ g.a ≤ g.h then 0 else 22) else 9) else 2
def rulesE (r : Ru) : Int := if (0 ≤ r.b ∧ r.b ≤ 100000) ∧ (0 ≤ r.n ∧ r.n ≤ 1000) ∧ (1 ≤ r.d ∧ r.d ≤ 1000) ∧ (0 ≤ r.s ∧ r.s ≤ 10000) then 0 else 2
def speedE (n : Int) : Int := if -100000 ≤ n ∧ n ≤ 100000 then 0 else 2
theorem S40 (x : Int) : SP 40 [i64 x] (vb (win x 0 10000)) false := by
  have h := S20 x 0 10000
  refine sound (d := 2) tok2 mixed2 Try.func40 (by kernel_rfl) (by kernel_rfl) ?_
  conv => whnf
  refine .inl ⟨_, _, byX rfl (Sound1.pl (h) rfl), ?_⟩
  conv => whnf
  refine ⟨?_, nofun⟩
  rfl
theorem S27 (n : Int) : SP 27 [i64 n] (i64 (speedE n)) false := by
  have h := S18 n 100000
  have h93 := S17 (win n (-100000) 100000) 2
  refine sound (d := 2) tok2 mixed2 Try.func27 (by kernel_rfl) (by kernel_rfl) ?_
  conv => whnf
  refine .inl ⟨_, _, byX rfl (Sound1.pl (h (by omega)) rfl), ?_⟩
  conv => whnf
  refine .inl ⟨_, _, byX rfl (Sound1.pl (h93) rfl), ?_⟩
  conv => whnf
  refine ⟨?_, nofun⟩
  exact endi (by unfold speedE win; simp)
theorem S5 (g : Gt) : SP 5 [gtA g] (i64 (gateE g)) false := by
  refine sound (d := 2) tok2 mixed2 Try.func5 (by kernel_rfl) (by kernel_rfl) ?_
  conv => whnf
  refine .inl ⟨_, _, byX rfl (Sound1.pl (S7 _ _ _) rfl), ?_⟩
  conv => whnf
  refine ifB_not ?_
  conv => whnf
  refine ifB_dec (fun w1 => ?_) (fun w1 => ?_)
  · conv => whnf
    refine .inl ⟨_, _, byX rfl (Sound1.pl (S7 _ _ _) rfl), ?_⟩
    conv => whnf
    refine ifB_not ?_
    conv => whnf
    refine ifB_dec (fun w2 => ?_) (fun w2 => ?_)
    · conv => whnf
      refine .inl ⟨_, _, byX rfl (Sound1.pl (S7 _ _ _) rfl), ?_⟩
      conv => whnf
      refine ifB_not ?_
      conv => whnf
      refine ifB_dec (fun w3 => ?_) (fun w3 => ?_)
      · conv => whnf
        refine .inl ⟨_, _, byX rfl (Sound1.pl (S7 _ _ _) rfl), ?_⟩
        conv => whnf
        refine ifB_not ?_
        conv => whnf
        refine ifB_dec (fun w4 => ?_) (fun w4 => ?_)
        · conv => whnf
          refine ifB_dec (fun w5 => ?_) (fun w5 => ?_)
          · conv => whnf
            refine ⟨?_, nofun⟩
            (exact endi (by unfold gateE; (repeat' split) <;> omega))
          · conv => whnf
            refine .inl ⟨_, _, byX rfl (Sound1.pl (S7 _ _ _) rfl), ?_⟩
            conv => whnf
            refine ifB_not ?_
            conv => whnf
            refine ifB_dec (fun w6 => ?_) (fun w6 => ?_)
            · conv => whnf
              refine ⟨?_, nofun⟩
              (exact endi (by unfold gateE; (repeat' split) <;> omega))
            · conv => whnf
              refine ⟨?_, nofun⟩
              (exact endi (by unfold gateE; (repeat' split) <;> omega))
        · conv => whnf
          refine ⟨?_, nofun⟩
          (exact endi (by unfold gateE; (repeat' split) <;> omega))
      · conv => whnf
        refine ⟨?_, nofun⟩
        (exact endi (by unfold gateE; (repeat' split) <;> omega))
    · conv => whnf
      refine ⟨?_, nofun⟩
      (exact endi (by unfold gateE; (repeat' split) <;> omega))
  · conv => whnf
    refine ⟨?_, nofun⟩
    (exact endi (by unfold gateE; (repeat' split) <;> omega))
theorem S6 (r : Ru) : SP 6 [ruA r] (i64 (rulesE r)) false := by
  refine sound (d := 2) tok2 mixed2 Try.func6 (by kernel_rfl) (by kernel_rfl) ?_
  conv => whnf
  refine .inl ⟨_, _, byX rfl (Sound1.pl (S7 _ _ _) rfl), ?_⟩
  conv => whnf
  refine ifB_not ?_
  conv => whnf
  refine ifB_dec (fun w1 => ?_) (fun w1 => ?_)
  · conv => whnf
    refine .inl ⟨_, _, byX rfl (Sound1.pl (S7 _ _ _) rfl), ?_⟩
    conv => whnf
    refine ifB_not ?_
    conv => whnf
    refine ifB_dec (fun w2 => ?_) (fun w2 => ?_)
    · conv => whnf
      refine .inl ⟨_, _, byX rfl (Sound1.pl (S7 _ _ _) rfl), ?_⟩
      conv => whnf
      refine ifB_not ?_
      conv => whnf
      refine ifB_dec (fun w3 => ?_) (fun w3 => ?_)
      · conv => whnf
        refine .inl ⟨_, _, byX rfl (Sound1.pl (S7 _ _ _) rfl), ?_⟩
        conv => whnf
        refine ifB_not ?_
        conv => whnf
        refine ifB_dec (fun w4 => ?_) (fun w4 => ?_)
        · conv => whnf
          refine ⟨?_, nofun⟩
          (exact endi (by unfold rulesE; (repeat' split) <;> omega))
        · conv => whnf
          refine ⟨?_, nofun⟩
          (exact endi (by unfold rulesE; (repeat' split) <;> omega))
      · conv => whnf
        refine ⟨?_, nofun⟩
        (exact endi (by unfold rulesE; (repeat' split) <;> omega))
    · conv => whnf
      refine ⟨?_, nofun⟩
      (exact endi (by unfold rulesE; (repeat' split) <;> omega))
  · conv => whnf
    refine ⟨?_, nofun⟩
    (exact endi (by unfold rulesE; (repeat' split) <;> omega))
theorem S23 (g : Gt) : SP 23 [gtA g] (i64 (gateE g)) false := by
  have h90 := fun a b c => @S19_3 a b c
  refine sound (d := 2) tok2 mixed2 Try.func23 (by kernel_rfl) (by kernel_rfl) ?_
  conv => whnf
  refine .inl ⟨_, _, byX rfl (Sound1.pl (S40 _) rfl), ?_⟩
  conv => whnf
  refine ifB_dec (fun w1 => ?_) (fun w1 => ?_)
  · conv => whnf
    refine .inl ⟨_, _, byX rfl (Sound1.pl (S40 _) rfl), ?_⟩
    conv => whnf
    refine ifB_dec (fun w2 => ?_) (fun w2 => ?_)
    · conv => whnf
      refine .inl ⟨_, _, byX rfl (Sound1.pl (S40 _) rfl), ?_⟩
      conv => whnf
      refine ifB_dec (fun w3 => ?_) (fun w3 => ?_)
      · conv => whnf
        refine .inl ⟨_, _, byX rfl (Sound1.pl (S20 _ _ _) rfl), ?_⟩
        conv => whnf
        refine ⟨[], by kernel_rfl, ?_⟩
        conv => whnf
        refine .inl ⟨_, _, byX rfl (Sound1.pl (S17 _ _) rfl), ?_⟩
        conv => whnf
        refine .inl ⟨_, _, byX rfl (Sound1.pl (S17 _ _) rfl), ?_⟩
        conv => whnf
        refine .inl ⟨_, _, byX rfl (Sound1.pl (S20 _ _ _) rfl), ?_⟩
        conv => whnf
        refine .inl ⟨_, _, byX rfl (Sound1.pl (S17 _ _) rfl), ?_⟩
        conv => whnf
        refine .inl ⟨_, _, byX rfl (Sound1.pl (h90 _ _ _ ⟨rfl, rfl, rfl⟩) rfl), ?_⟩
        conv => whnf
        refine ⟨?_, nofun⟩
        (exact endi (by rw [first3]; unfold gateE win; simp only [decide_eq_true_eq]; (repeat' split) <;> first | omega | contradiction | simp_all))
      · conv => whnf
        refine ⟨[], by kernel_rfl, ?_⟩
        conv => whnf
        refine .inl ⟨_, _, byX rfl (Sound1.pl (S17 _ _) rfl), ?_⟩
        conv => whnf
        refine .inl ⟨_, _, byX rfl (Sound1.pl (S17 _ _) rfl), ?_⟩
        conv => whnf
        refine .inl ⟨_, _, byX rfl (Sound1.pl (S20 _ _ _) rfl), ?_⟩
        conv => whnf
        refine .inl ⟨_, _, byX rfl (Sound1.pl (S17 _ _) rfl), ?_⟩
        conv => whnf
        refine .inl ⟨_, _, byX rfl (Sound1.pl (h90 _ _ _ ⟨rfl, rfl, rfl⟩) rfl), ?_⟩
        conv => whnf
        refine ⟨?_, nofun⟩
        (exact endi (by rw [first3]; unfold gateE win; simp only [decide_eq_true_eq]; (repeat' split) <;> first | omega | contradiction | simp_all))
    · conv => whnf
      refine ⟨[], by kernel_rfl, ?_⟩
      conv => whnf
      refine .inl ⟨_, _, byX rfl (Sound1.pl (S17 _ _) rfl), ?_⟩
      conv => whnf
      refine .inl ⟨_, _, byX rfl (Sound1.pl (S17 _ _) rfl), ?_⟩
      conv => whnf
      refine .inl ⟨_, _, byX rfl (Sound1.pl (S20 _ _ _) rfl), ?_⟩
      conv => whnf
      refine .inl ⟨_, _, byX rfl (Sound1.pl (S17 _ _) rfl), ?_⟩
      conv => whnf
      refine .inl ⟨_, _, byX rfl (Sound1.pl (h90 _ _ _ ⟨rfl, rfl, rfl⟩) rfl), ?_⟩
      conv => whnf
      refine ⟨?_, nofun⟩
      (exact endi (by rw [first3]; unfold gateE win; simp only [decide_eq_true_eq]; (repeat' split) <;> first | omega | contradiction | simp_all))
  · conv => whnf
    refine ⟨[], by kernel_rfl, ?_⟩
    conv => whnf
    refine .inl ⟨_, _, byX rfl (Sound1.pl (S17 _ _) rfl), ?_⟩
    conv => whnf
    refine .inl ⟨_, _, byX rfl (Sound1.pl (S17 _ _) rfl), ?_⟩
    conv => whnf
    refine .inl ⟨_, _, byX rfl (Sound1.pl (S20 _ _ _) rfl), ?_⟩
    conv => whnf
    refine .inl ⟨_, _, byX rfl (Sound1.pl (S17 _ _) rfl), ?_⟩
    conv => whnf
    refine .inl ⟨_, _, byX rfl (Sound1.pl (h90 _ _ _ ⟨rfl, rfl, rfl⟩) rfl), ?_⟩
    conv => whnf
    refine ⟨?_, nofun⟩
    (exact endi (by rw [first3]; unfold gateE win; simp only [decide_eq_true_eq]; (repeat' split) <;> first | omega | contradiction | simp_all))
theorem S24 (r : Ru) : SP 24 [ruA r] (i64 (rulesE r)) false := by
  refine sound (d := 2) tok2 mixed2 Try.func24 (by kernel_rfl) (by kernel_rfl) ?_
  conv => whnf
  refine .inl ⟨_, _, byX rfl (Sound1.pl (S20 _ _ _) rfl), ?_⟩
  conv => whnf
  refine ifB_dec (fun w1 => ?_) (fun w1 => ?_)
  · conv => whnf
    refine .inl ⟨_, _, byX rfl (Sound1.pl (S20 _ _ _) rfl), ?_⟩
    conv => whnf
    refine ifB_dec (fun w2 => ?_) (fun w2 => ?_)
    · conv => whnf
      refine .inl ⟨_, _, byX rfl (Sound1.pl (S20 _ _ _) rfl), ?_⟩
      conv => whnf
      refine ifB_dec (fun w3 => ?_) (fun w3 => ?_)
      · conv => whnf
        refine .inl ⟨_, _, byX rfl (Sound1.pl (S40 _) rfl), ?_⟩
        conv => whnf
        refine .inl ⟨_, _, byX rfl (Sound1.pl (S17 _ _) rfl), ?_⟩
        conv => whnf
        refine ⟨?_, nofun⟩
        (exact endi (by unfold rulesE win; simp only [decide_eq_true_eq]; (repeat' split) <;> first | omega | contradiction | simp_all))
      · conv => whnf
        refine .inl ⟨_, _, byX rfl (Sound1.pl (S17 _ _) rfl), ?_⟩
        conv => whnf
        refine ⟨?_, nofun⟩
        (exact endi (by unfold rulesE; (repeat' split) <;> first | omega | contradiction | simp_all))
    · conv => whnf
      refine .inl ⟨_, _, byX rfl (Sound1.pl (S17 _ _) rfl), ?_⟩
      conv => whnf
      refine ⟨?_, nofun⟩
      (exact endi (by unfold rulesE; (repeat' split) <;> first | omega | contradiction | simp_all))
  · conv => whnf
    refine .inl ⟨_, _, byX rfl (Sound1.pl (S17 _ _) rfl), ?_⟩
    conv => whnf
    refine ⟨?_, nofun⟩
    (exact endi (by unfold rulesE; (repeat' split) <;> first | omega | contradiction | simp_all))
end Go.Tr

/- Contracts of chapter 6: the wanted position, steps of a gate. Conditions: none. -/
namespace Go.Tr
open Go Go.Proofs
set_option maxRecDepth 20000
set_option maxHeartbeats 8000000

theorem ave_tup2 {k : Nat} {a b a' b' : AV} (ha : AVE k a a') (hb : AVE k b b') : AVE (k + 1) (.tuple [a, b]) (.tuple [a', b']) := by
  refine ⟨rfl, fun i x y hx hy => ?_⟩
  match i, hx, hy with
  | 0, hx, hy => cases hx; cases hy; exact ha
  | 1, hx, hy => cases hx; cases hy; exact hb
theorem ave_agg4 {k : Nat} {a b c d a' b' c' d' : AV} (ha : AVE k a a') (hb : AVE k b b') (hc : AVE k c c') (hd : AVE k d d') : AVE (k + 1) (.agg [a, b, c, d]) (.agg [a', b', c', d']) := by
  refine ⟨rfl, fun i x y hx hy => ?_⟩
  match i, hx, hy with
  | 0, hx, hy => cases hx; cases hy; exact ha
  | 1, hx, hy => cases hx; cases hy; exact hb
  | 2, hx, hy => cases hx; cases hy; exact hc
  | 3, hx, hy => cases hx; cases hy; exact hd
structure GtOk (g : Gt) : Prop where
  l : 0 ≤ g.l ∧ g.l ≤ 10000
  h : 0 ≤ g.h ∧ g.h ≤ 10000
  a : 0 ≤ g.a ∧ g.a ≤ 10000
  r : 1 ≤ g.r ∧ g.r ≤ 10000
  lh : g.l ≤ g.h
  la : g.l ≤ g.a ∧ g.a ≤ g.h
theorem GtOk.of {g : Gt} (h : gateE g = 0) : GtOk g := by
  unfold gateE at h
  (repeat' split at h) <;> first | omega | skip
  rename_i h1 h2 h3
  exact ⟨h1.1, h1.2.1, h1.2.2.1, h1.2.2.2, h2, h3⟩
structure RuOk (r : Ru) : Prop where
  b : 0 ≤ r.b ∧ r.b ≤ 100000
  n : 0 ≤ r.n ∧ r.n ≤ 1000
  d : 1 ≤ r.d ∧ r.d ≤ 1000
  s : 0 ≤ r.s ∧ r.s ≤ 10000
theorem RuOk.of {r : Ru} (h : rulesE r = 0) : RuOk r := by
  unfold rulesE at h
  split at h
  · rename_i h1; exact ⟨h1.1, h1.2.1, h1.2.2.1, h1.2.2.2⟩
  · omega
theorem speed_ok {n : Int} (h : speedE n = 0) : -100000 ≤ n ∧ n ≤ 100000 := by
  unfold speedE at h
  split at h
  · assumption
  · omega
/-- By how much a deviation lies beyond the dead band; the wanted position. -/
def beyond (r : Ru) (d : Int) : Int := if d > r.b then d - r.b else if d < -r.b then d + r.b else 0
def wantI (r : Ru) (d : Int) : Int := r.s - (r.n * beyond r d).tdiv r.d
theorem tdiv_le {a b : Int} (hb : 1 ≤ b) : -(a.natAbs : Int) ≤ a.tdiv b ∧ a.tdiv b ≤ (a.natAbs : Int) := by
  have h : (a.tdiv b).natAbs ≤ a.natAbs := Int.natAbs_tdiv_le_natAbs a b
  omega
theorem beyond_le {r : Ru} (hr : RuOk r) {d : Int} (hd : -100000 ≤ d ∧ d ≤ 100000) : -100000 ≤ beyond r d ∧ beyond r d ≤ 100000 := by
  have := hr.b
  unfold beyond
  (repeat' split) <;> omega
theorem mulb {a b A B : Int} (ha : 0 ≤ a ∧ a ≤ A) (hb : -B ≤ b ∧ b ≤ B) (hB : 0 ≤ B) : -(A * B) ≤ a * b ∧ a * b ≤ A * B := by
  have h1 : a * B ≤ A * B := Int.mul_le_mul_of_nonneg_right ha.2 hB
  have h2 : a * b ≤ a * B := Int.mul_le_mul_of_nonneg_left hb.2 ha.1
  have h3 : a * (-B) ≤ a * b := Int.mul_le_mul_of_nonneg_left hb.1 ha.1
  rw [Int.mul_neg] at h3
  omega
theorem prod_le {r : Ru} (hr : RuOk r) {d : Int} (hd : -100000 ≤ d ∧ d ≤ 100000) : -100000000 ≤ r.n * beyond r d ∧ r.n * beyond r d ≤ 100000000 := by
  have := mulb hr.n (beyond_le hr hd) (by decide)
  omega
theorem S29 (r : Ru) (hr : RuOk r) (d : Int) (hd : -100000 ≤ d ∧ d ≤ 100000) : SP 29 [ruA r, i64 d] (i64 (wantI r d)) false := by
  have hb : (if d - r.b > 0 then d - r.b else 0) + (if d + r.b < 0 then d + r.b else 0) = beyond r d := by
    have := hr.b
    unfold beyond
    (repeat' split) <;> omega
  have h1 := prod_le hr hd
  have h2 := tdiv_le (a := r.n * beyond r d) hr.d.1
  have hs := hr.s
  have hrb := hr.b
  have hrd := hr.d
  unfold wantI
  rw [← hb] at h1 h2 ⊢
  refine sound (d := 2) tok2 mixed2 Try.func29 (by kernel_rfl) (by kernel_rfl) ?_
  conv => whnf
  refine ⟨inK64 (by omega) (by omega), ?_⟩
  conv => whnf
  refine ⟨inK64 (by omega) (by omega), ?_⟩
  conv => whnf
  refine ⟨inK64 (by omega) (by omega), ?_⟩
  conv => whnf
  refine ⟨[], by kernel_rfl, ?_⟩
  conv => whnf
  refine ⟨inK64 (by omega) (by omega), ?_⟩
  conv => whnf
  refine ⟨⟨(by omega), inK64 (by omega) (by omega)⟩, ?_⟩
  conv => whnf
  refine ⟨inK64 (by omega) (by omega), ?_⟩
  conv => whnf
  refine ⟨?_, nofun⟩
  rfl
/-- Where a gate goes; where it is after a step; how many steps it takes. -/
def goalI (g : Gt) (w : Int) : Int := if w < g.l then g.l else if g.h < w then g.h else w
def stepI (g : Gt) (w : Int) : Int := if goalI g w < g.a - g.r then g.a - g.r else if g.a + g.r < goalI g w then g.a + g.r else goalI g w
def stepG (g : Gt) (w : Int) : Gt := { g with a := stepI g w }
theorem goal_in {g : Gt} (h : g.l ≤ g.h) (w : Int) : g.l ≤ goalI g w ∧ goalI g w ≤ g.h := by
  unfold goalI
  (repeat' split) <;> omega
theorem S41 (g : Gt) (hg : g.l ≤ g.h) (w : Int) : SP 41 [gtA g, i64 w] (i64 (goalI g w)) false := by
  refine sound (d := 2) tok2 mixed2 Try.func41 (by kernel_rfl) (by kernel_rfl) ?_
  conv => whnf
  refine ⟨?_, nofun⟩
  exact endi (by unfold goalI; (repeat' split) <;> omega)
end Go.Tr

/- The law GovernorGates returns true. Conditions: none. -/
namespace Go.Tr
open Go Go.Proofs
set_option maxRecDepth 20000
set_option maxHeartbeats 8000000

theorem step_in {g : Gt} (hg : g.l ≤ g.h) (hr : 1 ≤ g.r) {w : Int} (ha : g.l ≤ g.a ∧ g.a ≤ g.h) : g.l ≤ stepI g w ∧ stepI g w ≤ g.h := by
  have := goal_in hg w
  unfold stepI
  (repeat' split) <;> omega
end Go.Tr

/- Contracts of chapter 6: lists of numbers; each one checked; runs of a gate. Conditions: none. -/
namespace Go.Tr
open Go Go.Proofs
set_option maxRecDepth 20000
set_option maxHeartbeats 8000000

/-- The first number that is not in order, with its place. -/
def eachI (g : Nat → Int → Int) : List Int → Nat → Int × Int
  | [], _ => (0, 0)
  | x :: r, k => if g k x = 0 then eachI g r (k + 1) else ((k : Int), g k x)
theorem eachI_drop (g : Nat → Int → Int) (l : List Int) (k : Nat) (h : k < l.length) : eachI g (l.drop k) k = if g k (l.getD k 0) = 0 then eachI g (l.drop (k + 1)) (k + 1) else ((k : Int), g k (l.getD k 0)) := by
  rw [List.drop_eq_getElem_cons h, eachI]; simp [List.getD, h]
theorem S25 (f : Nat) (g : Nat → Int → Int) (l : List Int) (hl : l.length ≤ 1000000000) (hf : ∀ k : Nat, k < l.length → SP f [i64 k, i64 (l.getD k 0)] (i64 (g k (l.getD k 0))) false) : SP 25 [ints l, .func (.func f) 0 []] (.tuple [i64 (eachI g l 0).1, i64 (eachI g l 0).2]) false := by
  refine sound (d := 2) tok2 mixed2 Try.func25 (by kernel_rfl) (by kernel_rfl) ?_
  conv => whnf
  refine ⟨[], [1, 9, 10, 11], fun st mq => ∃ (k : Nat), (k ≤ l.length) ∧ (eachI g (l.drop k) k = eachI g l 0) ∧ st = ⟨[(1, .func (.func f) 0 []), (9, ints l), (10, i64 l.length), (11, i64 k)], ⟨[], [], none, 0⟩, []⟩ ∧ mq = l.length - k,
    ⟨_, _, ⟨0, by omega, rfl, rfl, rfl⟩, ⟨⟨.inl rfl, rfl, rfl, rfl⟩, trivial, trivial⟩⟩, ?_⟩
  rintro s0 m0 ⟨k, hk, he, rfl, hmeas⟩
  by_cases hlt : k < l.length
  · have hd := eachI_drop g l k hlt
    have hc := hf k hlt
    conv => whnf
    conv => whnf
    refine ifB_dec (fun w1 => ?_) (fun w1 => ?_)
    · conv => whnf
      conv => whnf
      refine ⟨⟨(by omega), (by omega)⟩, ?_⟩
      conv => whnf
      conv => whnf
      refine .inl ⟨_, _, byX rfl (Sound1.pl (hc) rfl), ?_⟩
      conv => whnf
      conv => whnf
      refine ifB_bne (fun w2 => ?_) (fun w2 => ?_)
      · conv => whnf
        conv => whnf
        refine ⟨?_, nofun⟩
        rw [if_neg w2] at hd
        exact ave_tup2 (endi (by rw [← he, hd])) (endi (by rw [← he, hd]))
      · conv => whnf
        conv => whnf
        refine ⟨inK64 (by omega) (by omega), ?_⟩
        rw [if_pos w2] at hd
        conv => whnf
        conv => whnf
        refine ⟨_, _, ⟨⟨k + 1, by omega, hd.symm.trans he, rfl, rfl⟩, by omega⟩, ⟨⟨.inl rfl, rfl, rfl, rfl⟩, trivial, trivial⟩⟩
    · (exfalso; omega)
  · have e : k = l.length := by omega
    subst e
    rw [List.drop_length] at he
    conv => whnf
    conv => whnf
    refine ifB_dec (fun w1 => ?_) (fun w1 => ?_)
    · (exfalso; omega)
    · conv => whnf
      conv => whnf
      refine ⟨?_, nofun⟩
      exact ave_tup2 (endi (by rw [← he]; rfl)) (endi (by rw [← he]; rfl))
/-! ### Runs of a gate -/

def runL (r : Ru) : Gt → List Int → List Int
  | _, [] => []
  | g, d :: l => (stepG g (wantI r d)).a :: runL r (stepG g (wantI r d)) l
theorem runL_drop (r : Ru) (g : Gt) (l : List Int) (k : Nat) (h : k < l.length) : runL r g (l.drop k) = (stepG g (wantI r (l.getD k 0))).a :: runL r (stepG g (wantI r (l.getD k 0))) (l.drop (k + 1)) := by
  rw [List.drop_eq_getElem_cons h, runL]; simp [List.getD, h]
def devE (l : List Int) : Int := (eachI (fun _ x => speedE x) l 0).2
theorem dev_all : ∀ (l : List Int) (k : Nat), (eachI (fun _ x => speedE x) l k).2 = 0 → ∀ x ∈ l, -100000 ≤ x ∧ x ≤ 100000
  | [], _, _, x, hx => by cases hx
  | y :: l, k, h, x, hx => by
    unfold eachI at h
    by_cases hy : speedE y = 0
    · rw [if_pos hy] at h
      rcases List.mem_cons.1 hx with e | hx
      · rw [e]; exact speed_ok hy
      · exact dev_all l (k + 1) h x hx
    · rw [if_neg hy] at h; exact absurd h hy
theorem S26 (k x : Int) : SP 26 [i64 k, i64 x] (i64 (speedE x)) false := by
  have h := S27 x
  refine sound (d := 2) tok2 mixed2 Try.func26 (by kernel_rfl) (by kernel_rfl) ?_
  conv => whnf
  refine .inl ⟨_, _, byX rfl (Sound1.pl (h) rfl), ?_⟩
  conv => whnf
  refine ⟨?_, nofun⟩
  rfl
theorem getD_memI {l : List Int} {i : Nat} (h : i < l.length) : l.getD i 0 ∈ l := by
  rw [show l.getD i 0 = l[i] by simp [List.getD_eq_getElem?_getD, h]]
  exact List.getElem_mem h
theorem app_row (l : List Int) (c : Int) (n i : Nat) (hn : l.length = n) (hi : i < n + 1) : [i64 ((l ++ [c]).getD i 0)] = (if i < n then [i64 (l.getD (0 + i) 0)] else List.take 1 (List.drop ((i - n) * 1) [i64 c])) := by
  subst hn
  rw [Nat.zero_add]
  by_cases h : i < l.length
  · rw [if_pos h]; simp [List.getD_eq_getElem?_getD, h, List.getElem?_append_left h]
  · have : i = l.length := by omega
    subst this
    rw [if_neg h]; simp [List.getD_eq_getElem?_getD]
def runE (g : Gt) (r : Ru) (l : List Int) : Int := if firstOf [gateE g, rulesE r, if l.length ≤ 200 then 0 else 8] = 0 then devE l else firstOf [gateE g, rulesE r, if l.length ≤ 200 then 0 else 8]
theorem step_raw (g : Gt) (w : Int) (hr : 1 ≤ g.r) : stepI g w = if g.a + g.r < (if g.a - g.r > goalI g w then g.a - g.r else goalI g w) then g.a + g.r else (if g.a - g.r > goalI g w then g.a - g.r else goalI g w) := by
  unfold stepI
  (repeat' split) <;> omega
theorem S9 (g : Gt) (r : Ru) (l : List Int) (hl : l.length ≤ 1000) : SP 9 [gtA g, ruA r, ints l] (.tuple [ints (if runE g r l = 0 then runL r g l else []), i64 (runE g r l)]) false := by
  have h52 := S23 g
  have h53 := S24 r
  have h90 := @S19_3 (gateE g) (rulesE r) (if l.length ≤ 200 then 0 else 8)
  have h94 := S25 26 (fun _ x => speedE x) l (by omega) (fun k hk => S26 k (l.getD k 0))
  have hlen : (if decide ((l.length : Int) ≤ 200) = true then (0 : Int) else 8) = if l.length ≤ 200 then 0 else 8 := by
    by_cases h : l.length ≤ 200
    · rw [if_pos h, if_pos (decide_eq_true (by omega))]
    · rw [if_neg h, if_neg (by simp; omega)]
  rw [← hlen] at h90
  unfold runE devE
  rw [← hlen]
  have hgr : firstOf [gateE g, rulesE r, if decide ((l.length : Int) ≤ 200) = true then (0 : Int) else 8] = 0 → GtOk g ∧ RuOk r := fun h => by
    rw [first3] at h
    by_cases h1 : gateE g = 0
    · rw [if_neg (not_not_intro h1)] at h
      by_cases h2 : rulesE r = 0
      · exact ⟨GtOk.of h1, RuOk.of h2⟩
      · rw [if_pos h2] at h; exact absurd h h2
    · rw [if_pos h1] at h; exact absurd h h1
  generalize firstOf [gateE g, rulesE r, if decide ((l.length : Int) ≤ 200) = true then (0 : Int) else 8] = E at h90 hgr ⊢
  have hall := dev_all l 0
  generalize eachI (fun _ x => speedE x) l 0 = D at h94 hall ⊢
  by_cases hE : E = 0
  · obtain ⟨hg, hr⟩ := hgr hE
    rw [if_pos hE]
    by_cases hD : D.2 = 0
    · have hd := hall hD
      have g1 := hg.l
      have g2 := hg.h
      have g3 := hg.r
      rw [if_pos hD]
      refine sound (d := 2) tok2 mixed2 Try.func9 (by kernel_rfl) (by kernel_rfl) ?_
      conv => whnf
      refine ⟨[], by kernel_rfl, ?_⟩
      conv => whnf
      refine .inl ⟨_, _, byX rfl (Sound1.pl (h52) rfl), ?_⟩
      conv => whnf
      refine .inl ⟨_, _, byX rfl (Sound1.pl (h53) rfl), ?_⟩
      conv => whnf
      refine .inl ⟨_, _, byX rfl (Sound1.pl (S17 _ _) rfl), ?_⟩
      conv => whnf
      refine .inl ⟨_, _, byX rfl (Sound1.pl (h90 ⟨rfl, rfl, rfl⟩) rfl), ?_⟩
      conv => whnf
      refine ifB_beq (fun w1 => ?_) (fun w1 => ?_)
      · conv => whnf
        refine .inl ⟨_, _, byX rfl (Sound1.pl (h94) rfl), ?_⟩
        conv => whnf
        refine ifB_bne (fun w2 => ?_) (fun w2 => ?_)
        · (exfalso; omega)
        · conv => whnf
          refine ⟨[.slot 10 1], [4, 9, 10, 35, 36, 37], fun st mq => ∃ (k : Nat) (a : Int) (O : List Int) (F2 : Nat → List AV), (k ≤ l.length) ∧ (O.length = k) ∧ (g.l ≤ a ∧ a ≤ g.h) ∧ (O ++ runL r ⟨a, g.l, g.h, g.r⟩ (l.drop k) = runL r g l) ∧ st = ⟨[(4, .optr 1 0 0 0), (9, .optr 3 0 0 0), (10, .oslice 4 0 0 k none), (35, ints l), (36, i64 l.length), (37, i64 k)], ⟨[⟨4, 1, fun _ => [i64 g.a, i64 g.l, i64 g.h, i64 g.r], 0, false, true, true⟩, ⟨4, 1, fun _ => [i64 r.b, i64 r.n, i64 r.d, i64 r.s], 0, false, true, true⟩, ⟨1, 3, F2, 0, false, true, false⟩, ⟨4, 1, fun _ => [i64 a, i64 g.l, i64 g.h, i64 g.r], 0, false, true, true⟩, ⟨1, k, fun i => [i64 (O.getD i 0)], 0, false, true, false⟩], [], none, 0⟩, []⟩ ∧ mq = l.length - k,
            ⟨_, _, ⟨0, g.a, [], _, by omega, rfl, hg.la, rfl, rfl, rfl⟩, ⟨⟨.inl rfl, rfl, rfl, rfl⟩, ⟨⟨rfl, rfl, rfl, rfl, fun _ => rfl, fun _ _ => .inl rfl⟩, ⟨⟨rfl, rfl, rfl, rfl, fun _ => rfl, fun _ _ => .inl rfl⟩, ⟨⟨rfl, rfl, rfl, rfl, fun _ => rfl, fun _ _ => .inl rfl⟩, ⟨⟨rfl, rfl, rfl, rfl, fun _ => rfl, fun _ _ => .inl rfl⟩, ⟨⟨rfl, rfl, rfl, rfl, fun _ => rfl, fun i h => .inl (absurd h (Nat.not_lt_zero i))⟩, trivial⟩⟩⟩⟩⟩, trivial⟩⟩, ?_⟩
          rintro s0 m0 ⟨k, a, O, F2, hk, hO, ha, hR, rfl, hmeas⟩
          by_cases hlt : k < l.length
          · have hx := hd _ (getD_memI hlt)
            have h123 := S29 r hr (l.getD k 0) hx
            have h125 := S41 ⟨a, g.l, g.h, g.r⟩ hg.lh (wantI r (l.getD k 0))
            have hgo := goal_in (g := ⟨a, g.l, g.h, g.r⟩) hg.lh (wantI r (l.getD k 0))
            have hin := step_in (g := ⟨a, g.l, g.h, g.r⟩) (w := (wantI r (l.getD k 0))) hg.lh hg.r.1 ha
            have hdr := runL_drop r ⟨a, g.l, g.h, g.r⟩ l k hlt
            have hs : stepI ⟨a, g.l, g.h, g.r⟩ (wantI r (l.getD k 0)) = (if a + g.r < (if a - g.r > goalI ⟨a, g.l, g.h, g.r⟩ (wantI r (l.getD k 0)) then a - g.r else goalI ⟨a, g.l, g.h, g.r⟩ (wantI r (l.getD k 0))) then a + g.r else (if a - g.r > goalI ⟨a, g.l, g.h, g.r⟩ (wantI r (l.getD k 0)) then a - g.r else goalI ⟨a, g.l, g.h, g.r⟩ (wantI r (l.getD k 0)))) := step_raw ⟨a, g.l, g.h, g.r⟩ (wantI r (l.getD k 0)) hg.r.1
            rw [hdr] at hR
            unfold stepG at hR
            rw [hs] at hR hin
            conv => whnf
            conv => whnf
            refine ifB_dec (fun w3 => ?_) (fun w3 => ?_)
            · conv => whnf
              conv => whnf
              refine ⟨⟨(by omega), (by omega)⟩, ?_⟩
              conv => whnf
              conv => whnf
              refine .inl ⟨_, _, byX rfl (Sound1.pl (h123) rfl), ?_⟩
              conv => whnf
              conv => whnf
              refine .inr (.inl ⟨[], ?_⟩)
              conv => whnf
              conv => whnf
              refine ⟨[], by kernel_rfl, ?_⟩
              conv => whnf
              conv => whnf
              refine .inl ⟨_, _, byX rfl (Sound1.pl (h125) rfl), ?_⟩
              conv => whnf
              conv => whnf
              refine ⟨inK64 (by omega) (by omega), ?_⟩
              conv => whnf
              conv => whnf
              refine ⟨inK64 (by omega) (by omega), ?_⟩
              conv => whnf
              conv => whnf
              refine .inl ?_
              conv => whnf
              conv => whnf
              refine ⟨(by show _ * (8 + 1) ≤ _; omega), ?_⟩
              conv => whnf
              conv => whnf
              refine ⟨inK64 (by omega) (by omega), ?_⟩
              conv => whnf
              conv => whnf
              refine ⟨_, _, ⟨⟨k + 1, (if a + g.r < (if a - g.r > goalI ⟨a, g.l, g.h, g.r⟩ (wantI r (l.getD k 0)) then a - g.r else goalI ⟨a, g.l, g.h, g.r⟩ (wantI r (l.getD k 0))) then a + g.r else (if a - g.r > goalI ⟨a, g.l, g.h, g.r⟩ (wantI r (l.getD k 0)) then a - g.r else goalI ⟨a, g.l, g.h, g.r⟩ (wantI r (l.getD k 0)))), O ++ [(if a + g.r < (if a - g.r > goalI ⟨a, g.l, g.h, g.r⟩ (wantI r (l.getD k 0)) then a - g.r else goalI ⟨a, g.l, g.h, g.r⟩ (wantI r (l.getD k 0))) then a + g.r else (if a - g.r > goalI ⟨a, g.l, g.h, g.r⟩ (wantI r (l.getD k 0)) then a - g.r else goalI ⟨a, g.l, g.h, g.r⟩ (wantI r (l.getD k 0))))], _, by omega, (by rw [List.length_append, hO]; rfl), hin, (by rw [List.append_assoc]; exact hR), rfl, rfl⟩, by omega⟩, ⟨⟨.inl rfl, rfl, rfl, rfl⟩, ⟨⟨rfl, rfl, rfl, rfl, fun _ => rfl, fun _ _ => .inl rfl⟩, ⟨⟨rfl, rfl, rfl, rfl, fun _ => rfl, fun _ _ => .inl rfl⟩, ⟨⟨rfl, rfl, rfl, rfl, fun _ => rfl, fun _ _ => .inl rfl⟩, ⟨⟨rfl, rfl, rfl, rfl, fun _ => rfl, fun _ _ => .inl rfl⟩, ⟨⟨rfl, rfl, rfl, rfl, fun _ => rfl, fun i hi => .inl (app_row O _ k i hO hi)⟩, trivial⟩⟩⟩⟩⟩, trivial⟩⟩
            · (exfalso; omega)
          · have e : k = l.length := by omega
            subst e
            rw [List.drop_length] at hR
            have hR : O = runL r g l := by simpa [runL] using hR
            subst hR
            conv => whnf
            conv => whnf
            refine ifB_dec (fun w3 => ?_) (fun w3 => ?_)
            · (exfalso; omega)
            · conv => whnf
              conv => whnf
              refine ⟨?_, nofun⟩
              rw [hD]
              exact ave_tup2 ⟨rfl, hO.symm, fun i hi => rfl⟩ rfl
      · (exfalso; omega)
    · rw [if_neg hD]
      refine sound (d := 2) tok2 mixed2 Try.func9 (by kernel_rfl) (by kernel_rfl) ?_
      conv => whnf
      refine ⟨[], by kernel_rfl, ?_⟩
      conv => whnf
      refine .inl ⟨_, _, byX rfl (Sound1.pl (h52) rfl), ?_⟩
      conv => whnf
      refine .inl ⟨_, _, byX rfl (Sound1.pl (h53) rfl), ?_⟩
      conv => whnf
      refine .inl ⟨_, _, byX rfl (Sound1.pl (S17 _ _) rfl), ?_⟩
      conv => whnf
      refine .inl ⟨_, _, byX rfl (Sound1.pl (h90 ⟨rfl, rfl, rfl⟩) rfl), ?_⟩
      conv => whnf
      refine ifB_beq (fun w1 => ?_) (fun w1 => ?_)
      · conv => whnf
        refine .inl ⟨_, _, byX rfl (Sound1.pl (h94) rfl), ?_⟩
        conv => whnf
        refine ifB_bne (fun w2 => ?_) (fun w2 => ?_)
        · conv => whnf
          refine ⟨?_, nofun⟩
          exact ave_tup2 rfl rfl
        · (exfalso; omega)
      · (exfalso; omega)
  · rw [if_neg hE, if_neg hE]
    refine sound (d := 2) tok2 mixed2 Try.func9 (by kernel_rfl) (by kernel_rfl) ?_
    conv => whnf
    refine ⟨[], by kernel_rfl, ?_⟩
    conv => whnf
    refine .inl ⟨_, _, byX rfl (Sound1.pl (h52) rfl), ?_⟩
    conv => whnf
    refine .inl ⟨_, _, byX rfl (Sound1.pl (h53) rfl), ?_⟩
    conv => whnf
    refine .inl ⟨_, _, byX rfl (Sound1.pl (S17 _ _) rfl), ?_⟩
    conv => whnf
    refine .inl ⟨_, _, byX rfl (Sound1.pl (h90 ⟨rfl, rfl, rfl⟩) rfl), ?_⟩
    conv => whnf
    refine ifB_beq (fun w1 => ?_) (fun w1 => ?_)
    · (exfalso; omega)
    · conv => whnf
      refine ifB_bne (fun w2 => ?_) (fun w2 => ?_)
      · conv => whnf
        refine ⟨?_, nofun⟩
        exact ave_tup2 rfl rfl
      · (exfalso; omega)
end Go.Tr

/- The law GovernorRuns returns true. Conditions: none. -/
namespace Go.Tr
open Go Go.Proofs
set_option maxRecDepth 20000
set_option maxHeartbeats 8000000

def devsE (l : List Int) : Int := if l.length ≤ 200 then devE l else 8
theorem runE_eq (g : Gt) (r : Ru) (l : List Int) : runE g r l = if gateE g = 0 then (if rulesE r = 0 then devsE l else rulesE r) else gateE g := by
  unfold runE devsE
  rw [first3]
  by_cases h1 : gateE g = 0
  · rw [if_neg (not_not_intro h1), if_pos h1]
    by_cases h2 : rulesE r = 0
    · rw [if_neg (not_not_intro h2), if_pos h2]
      by_cases h3 : l.length ≤ 200
      · rw [if_pos h3, if_pos rfl, if_pos h3]
      · rw [if_neg h3, if_neg (by decide), if_neg h3]
    · rw [if_pos h2, if_neg h2, if_neg h2]
  · rw [if_pos h1, if_neg h1, if_neg h1]
theorem runL_len (r : Ru) : ∀ (g : Gt) (l : List Int), (runL r g l).length = l.length
  | _, [] => rfl
  | g, d :: l => congrArg (· + 1) (runL_len r (stepG g (wantI r d)) l)
end Go.Tr

/- Contracts of chapter 6: valid polynomials; entries; the greatest common divisor. Conditions: none. -/
namespace Go.Tr
open Go Go.Proofs
set_option maxRecDepth 20000
set_option maxHeartbeats 8000000

def coefE (x : Int) : Int := if -1000 ≤ x ∧ x ≤ 1000 then 0 else 2
def shapeE (n : Int) : Int := if n < 2 then 10 else if n > 5 then 8 else 0
def coefsE (l : List Int) : Int := (eachI (fun _ x => coefE x) l 0).2
/-- The error of a polynomial. -/
def polyE (l : List Int) : Int := if shapeE l.length ≠ 0 then shapeE l.length else if coefsE l ≠ 0 then coefsE l else if l.getD 0 0 > 0 then 0 else 3
theorem shape_ok {n : Nat} (h : shapeE n = 0) : 2 ≤ n ∧ n ≤ 5 := by
  unfold shapeE at h
  (repeat' split at h) <;> omega
def entL (l : List Int) (i : Nat) : Int := l.getD i 0
end Go.Tr

/- Contracts of chapter 6: rows divided by their greatest common divisor. Conditions: none. -/
namespace Go.Tr
open Go Go.Proofs
set_option maxRecDepth 20000
set_option maxHeartbeats 8000000

/-- The greatest common divisor of a row; the row divided by it. -/
def gcdR (l : List Int) : Nat := l.foldl (fun g x => Nat.gcd g x.natAbs) 0
def redL (l : List Int) : List Int := if gcdR l = 0 then l else l.map fun x => x.tdiv (gcdR l : Nat)
/-- All of a row are small. -/
def Sml (B : Nat) (l : List Int) : Prop := ∀ x ∈ l, x.natAbs ≤ B
theorem Sml.take {B : Nat} {l : List Int} (h : Sml B l) (k : Nat) : Sml B (l.take k) := fun x hx => h x (List.mem_of_mem_take hx)
theorem tdiv_sml (x : Int) (g : Nat) : (x.tdiv (g : Int)).natAbs ≤ x.natAbs := Int.natAbs_tdiv_le_natAbs x g
theorem redL_len (l : List Int) : (redL l).length = l.length := by
  unfold redL
  split <;> simp
theorem redL_sml {B : Nat} {l : List Int} (h : Sml B l) : Sml B (redL l) := by
  unfold redL
  split
  · exact h
  · intro x hx
    obtain ⟨y, hy, rfl⟩ := List.mem_map.1 hx
    exact Nat.le_trans (tdiv_sml y _) (h y hy)
end Go.Tr

/- Contracts of chapter 6: the next row of a table. Conditions: none. -/
namespace Go.Tr
open Go Go.Proofs
set_option maxRecDepth 20000
set_option maxHeartbeats 8000000

/-- How long a row is; its entries; the row. -/
abbrev rowN (m k : Nat) : Nat := (((m : Int) - 1 - k).tdiv 2 + 1).toNat
def rowAt (p : List Int) (R : List (List Int)) (j : Nat) : Int :=
  if R.length < 2 then entL p (2 * j + R.length) else (R.getD (R.length - 1) []).getD 0 0 * entL (R.getD (R.length - 2) []) (j + 1) - (R.getD (R.length - 2) []).getD 0 0 * entL (R.getD (R.length - 1) []) (j + 1)
def rawL (p : List Int) (R : List (List Int)) : List Int := (List.range (rowN p.length R.length)).map (rowAt p R)
def nextL (p : List Int) (R : List (List Int)) : List Int := redL (rawL p R)
/-- How great the entries of a row are at most. -/
def bnd : Nat → Nat
  | 0 => 1000
  | 1 => 1000
  | 2 => 2000000
  | 3 => 4000000000
  | _ => 16000000000000000
structure RowsOk (p : List Int) (R : List (List Int)) : Prop where
  p2 : 2 ≤ p.length ∧ p.length ≤ 5
  ps : Sml 1000 p
  lt : R.length < p.length
  ne : ∀ i, i < R.length → 1 ≤ (R.getD i []).length ∧ (R.getD i []).length ≤ 5
  sm : ∀ i, i < R.length → Sml (bnd i) (R.getD i [])
theorem ent_sml {B : Nat} {l : List Int} (h : Sml B l) (i : Nat) : (entL l i).natAbs ≤ B := by
  unfold entL
  by_cases hi : i < l.length
  · exact h _ (getD_memI hi)
  · simp [List.getD_eq_getElem?_getD, show l.length ≤ i by omega]
theorem mul_sml {a b : Int} {A B : Nat} (ha : a.natAbs ≤ A) (hb : b.natAbs ≤ B) : (a * b).natAbs ≤ A * B := by
  rw [Int.natAbs_mul]
  exact Nat.mul_le_mul ha hb
theorem rowAt_sml {p : List Int} {R : List (List Int)} (h : RowsOk p R) (j : Nat) : (rowAt p R j).natAbs ≤ bnd R.length := by
  unfold rowAt
  by_cases hk : R.length < 2
  · rw [if_pos hk]
    have := ent_sml h.ps (2 * j + R.length)
    match e : R.length, hk with
    | 0, _ => rw [e] at this; exact this
    | 1, _ => rw [e] at this; exact this
  · rw [if_neg hk]
    have hb := h.sm (R.length - 1) (by omega)
    have ha := h.sm (R.length - 2) (by omega)
    have e1 := mul_sml (ent_sml hb 0) (ent_sml ha (j + 1))
    have e2 := mul_sml (ent_sml ha 0) (ent_sml hb (j + 1))
    unfold entL at e1 e2 ⊢
    have h3 := h.lt
    have h4 := h.p2
    have h5 : R.length = 2 ∨ R.length = 3 ∨ R.length = 4 := by omega
    rcases h5 with h5 | h5 | h5 <;> rw [h5] at e1 e2 ⊢ <;> simp only [bnd, Nat.reduceSub] at e1 e2 ⊢ <;> omega
end Go.Tr

/- Contracts of chapter 6: the table of a polynomial; is it stable? Conditions: none. -/
namespace Go.Tr
open Go Go.Proofs
set_option maxRecDepth 20000
set_option maxHeartbeats 8000000

/-- Row after row, until one does not begin above 0. -/
def tabG (p : List Int) : Nat → List (List Int) → List (List Int)
  | 0, R => R
  | n + 1, R => if (nextL p R).getD 0 0 ≤ 0 then R ++ [nextL p R] else tabG p n (R ++ [nextL p R])
def tabL (p : List Int) : List (List Int) := tabG p p.length []
structure PolyOk (p : List Int) : Prop where
  p2 : 2 ≤ p.length ∧ p.length ≤ 5
  ps : Sml 1000 p
  p0 : 0 < p.getD 0 0
theorem coef_all : ∀ (l : List Int) (k : Nat), (eachI (fun _ x => coefE x) l k).2 = 0 → Sml 1000 l
  | [], _, _, x, hx => by cases hx
  | y :: l, k, h, x, hx => by
    unfold eachI at h
    by_cases hy : coefE y = 0
    · rw [if_pos hy] at h
      rcases List.mem_cons.1 hx with e | hx
      · rw [e]
        unfold coefE at hy
        split at hy
        · omega
        · omega
      · exact coef_all l (k + 1) h x hx
    · rw [if_neg hy] at h; exact absurd h hy
theorem PolyOk.of {p : List Int} (h : polyE p = 0) : PolyOk p := by
  unfold polyE at h
  by_cases h1 : shapeE p.length = 0
  · rw [if_neg (not_not_intro h1)] at h
    by_cases h2 : coefsE p = 0
    · rw [if_neg (not_not_intro h2)] at h
      by_cases h3 : p.getD 0 0 > 0
      · exact ⟨shape_ok h1, coef_all p 0 h2, h3⟩
      · rw [if_neg h3] at h; omega
    · rw [if_pos h2] at h; exact absurd h h2
  · rw [if_pos h1] at h; exact absurd h h1
theorem rowN_in {m k : Nat} (hm : m ≤ 5) (hk : k < m) : 1 ≤ rowN m k ∧ rowN m k ≤ 5 := by
  have h1 : 0 ≤ ((m : Int) - 1 - k).tdiv 2 := Int.tdiv_nonneg (by omega) (by decide)
  have h2 := tdiv_le (a := (m : Int) - 1 - k) (b := 2) (by decide)
  unfold rowN
  omega
theorem nextL_len (p : List Int) (R : List (List Int)) : (nextL p R).length = rowN p.length R.length := by
  unfold nextL
  rw [redL_len]; simp [rawL]
theorem nextL_sml {p : List Int} {R : List (List Int)} (h : RowsOk p R) : Sml (bnd R.length) (nextL p R) := by
  unfold nextL
  refine redL_sml fun x hx => ?_
  obtain ⟨i, _, rfl⟩ := List.mem_map.1 hx
  exact rowAt_sml h i
theorem getD_snoc {α : Type} (l : List α) (x d : α) (i : Nat) (hi : i < l.length + 1) : (l ++ [x]).getD i d = if i < l.length then l.getD i d else x := by
  by_cases h : i < l.length
  · rw [if_pos h]; simp [List.getD_eq_getElem?_getD, h, List.getElem?_append_left h]
  · obtain rfl : i = l.length := by omega
    rw [if_neg h]; simp [List.getD_eq_getElem?_getD]
/-- What holds of the rows so far. -/
structure RowsIn (p : List Int) (R : List (List Int)) : Prop where
  p2 : 2 ≤ p.length ∧ p.length ≤ 5
  ps : Sml 1000 p
  le : R.length ≤ p.length
  ne : ∀ i, i < R.length → 1 ≤ (R.getD i []).length ∧ (R.getD i []).length ≤ 5
  sm : ∀ i, i < R.length → Sml (bnd i) (R.getD i [])
theorem RowsIn.ok {p : List Int} {R : List (List Int)} (h : RowsIn p R) (hl : R.length < p.length) : RowsOk p R := ⟨h.p2, h.ps, hl, h.ne, h.sm⟩
theorem RowsIn.next {p : List Int} {R : List (List Int)} (h : RowsIn p R) (hl : R.length < p.length) : RowsIn p (R ++ [nextL p R]) := by
  have hr := rowN_in h.p2.2 hl
  have hL := nextL_len p R
  refine ⟨h.p2, h.ps, by rw [List.length_append]; show R.length + 1 ≤ _; omega, fun i hi => ?_, fun i hi => ?_⟩
  · rw [List.length_append] at hi
    have hi : i < R.length + 1 := hi
    rw [getD_snoc _ _ _ _ hi]
    by_cases hlt : i < R.length
    · rw [if_pos hlt]; exact h.ne i hlt
    · rw [if_neg hlt, hL]; exact hr
  · rw [List.length_append] at hi
    have hi : i < R.length + 1 := hi
    rw [getD_snoc _ _ _ _ hi]
    by_cases hlt : i < R.length
    · rw [if_pos hlt]; exact h.sm i hlt
    · rw [if_neg hlt, show i = R.length by omega]; exact nextL_sml (h.ok hl)
end Go.Tr

/- Contracts of chapter 6: lists of lists; the reference's table. Conditions: none. -/
/- Contracts of chapter 6: the reference's table. Conditions: none. -/
namespace Go.Tr
open Go Go.Proofs
set_option maxRecDepth 20000
set_option maxHeartbeats 8000000

theorem Sml.mono {A B : Nat} {l : List Int} (h : Sml A l) (hab : A ≤ B) : Sml B l := fun x hx => Nat.le_trans (h x hx) hab
end Go.Tr

/- Contracts of chapter 6: is a table accepted? Conditions: none. -/
namespace Go.Tr
open Go Go.Proofs
set_option maxRecDepth 20000
set_option maxHeartbeats 8000000

/-- Is this the row that follows, and does it begin above 0? -/
def rowE (p : List Int) (T : List (List Int)) (k : Nat) (r : List Int) : Int := if r = nextL p (T.take k) ∧ r.getD 0 0 > 0 then 0 else 19
theorem tabG_pre {p : List Int} : ∀ (n : Nat) (R : List (List Int)), ∃ E, tabG p n R = R ++ E
  | 0, R => ⟨[], by simp [tabG]⟩
  | n + 1, R => by
    unfold tabG
    split
    · exact ⟨_, rfl⟩
    · obtain ⟨E, hE⟩ := tabG_pre n (R ++ [nextL p R])
      exact ⟨nextL p R :: E, by rw [hE]; simp⟩
/-- Rows that are the beginning of the table: the next one is next in it. -/
theorem tab_at {p : List Int} {R : List (List Int)} {n : Nat} (h : tabG p (n + 1) R = tabL p) : R.length < (tabL p).length ∧ (tabL p).getD R.length [] = nextL p R ∧ (0 < (nextL p R).getD 0 0 → tabG p n (R ++ [nextL p R]) = tabL p) := by
  have hx : ∃ E, tabL p = R ++ (nextL p R :: E) := by
    rw [← h]
    unfold tabG
    split
    · exact ⟨[], rfl⟩
    · obtain ⟨E, hE⟩ := tabG_pre (p := p) n (R ++ [nextL p R])
      exact ⟨E, by rw [hE]; simp⟩
  obtain ⟨E, hE⟩ := hx
  refine ⟨by rw [hE]; simp, by rw [hE]; simp [List.getD_eq_getElem?_getD], fun h0 => ?_⟩
  unfold tabG at h
  rwa [if_neg (by omega)] at h
theorem take_snocL {L : List (List Int)} {k : Nat} (h : k < L.length) : L.take (k + 1) = L.take k ++ [L.getD k []] := by
  rw [List.take_add_one, show L.getD k [] = L[k] by simp [List.getD_eq_getElem?_getD, h]]
  simp [h]
structure Begun (p : List Int) (T : List (List Int)) (k : Nat) : Prop where
  len : (T.take k).length = k
  tab : tabG p (p.length - k) (T.take k) = tabL p
  ok : RowsIn p (T.take k)
theorem Begun.zero {p : List Int} (hp : PolyOk p) (T : List (List Int)) : Begun p T 0 := by
  refine ⟨by simp, rfl, ?_⟩
  exact ⟨hp.p2, hp.ps, Nat.zero_le _, (fun i h => absurd h (by simp)), fun i h => absurd h (by simp)⟩
theorem rowE_zero {p : List Int} {T : List (List Int)} {k : Nat} {r : List Int} (h : rowE p T k r = 0) : r = nextL p (T.take k) ∧ 0 < r.getD 0 0 := by
  unfold rowE at h
  by_cases hx : r = nextL p (T.take k) ∧ r.getD 0 0 > 0
  · exact hx
  · rw [if_neg hx] at h; omega
theorem Begun.next {p : List Int} {T : List (List Int)} {k : Nat} (h : Begun p T k) (hk : k < p.length) (ht : T.length = p.length) (h0 : rowE p T k (T.getD k []) = 0) : Begun p T (k + 1) := by
  have hr := rowE_zero h0
  have hs := take_snocL (show k < T.length by omega)
  have hl := h.len
  have ht1 : tabG p (p.length - (k + 1) + 1) (T.take k) = tabL p := by rw [show p.length - (k + 1) + 1 = p.length - k by omega]; exact h.tab
  refine ⟨?_, ?_, ?_⟩
  · rw [hs, List.length_append, hl]; rfl
  · rw [hs, hr.1]
    exact (tab_at ht1).2.2 (by rw [← hr.1]; exact hr.2)
  · rw [hs, hr.1]
    exact h.ok.next (by omega)
end Go.Tr

/- The law GovernorTables returns true. Conditions: none. -/
/- Contracts of chapter 6: a polynomial shifted. Conditions: none. -/
/- Contracts of chapter 6: the reference's shift, and margins. Conditions: none. -/
/- Contracts of chapter 6: margins; the law GovernorMargins. Conditions: none. -/
namespace Go.Tr
open Go Go.Proofs
set_option maxRecDepth 20000
set_option maxHeartbeats 8000000

theorem PolyOk.len {p : List Int} (h : PolyOk p) : p.length ≤ 1000 := by have := h.p2; omega
end Go.Tr

/- The law GovernorMargins returns true. Conditions: none. -/
/- Plain laws: when a polynomial of degree 1 to 4 is stable. Conditions: none. -/
/- Plain laws: a polynomial in a box whose corners are stable is stable. Conditions: none. -/
/- The evaluator of TrEv once more, for runs whose numbers may be variables: whole numbers are not made plain. Conditions: the program's rules take any order. -/
/-! ### Values made plain before they are used again -/
/-! ### The evaluator -/
/-! ### It tells the truth -/
/- Contracts of chapter 6: boxes, their errors and corners. Conditions: none. -/
/-! ### Runs of the evaluator whose numbers are variables -/
/-! ### Boxes -/
/- Contracts of chapter 6: the shares of a load. Conditions: none. -/
namespace Go.Tr
open Go Go.Proofs
set_option maxRecDepth 20000
set_option maxHeartbeats 8000000

/-! ### Plain -/

def DrOk (l : List Int) : Prop := ∀ x ∈ l, 1 ≤ x ∧ x ≤ 20
end Go.Tr

/- Contracts of chapter 6: the shares of a load. Conditions: none. -/
namespace Go.Tr
open Go Go.Proofs
set_option maxRecDepth 20000
set_option maxHeartbeats 8000000

/-- The error of shares. -/
def drE (l : List Int) : Int := (eachI (fun _ x => if 1 ≤ x ∧ x ≤ 20 then 0 else 2) l 0).2
def shaE (l : List Int) (load : Int) : Int := if l.length = 0 then 10 else if l.length > 6 then 8 else if drE l ≠ 0 then drE l else if -100000 ≤ load ∧ load ≤ 100000 then 0 else 2
theorem drOk_of : ∀ (l : List Int) (k : Nat), (eachI (fun _ x => if 1 ≤ x ∧ x ≤ 20 then 0 else 2) l k).2 = 0 → DrOk l
  | [], _, _, x, hx => by cases hx
  | y :: l, k, h, x, hx => by
    unfold eachI at h
    by_cases hy : 1 ≤ y ∧ y ≤ 20
    · rw [if_pos (if_pos hy)] at h
      rcases List.mem_cons.1 hx with e | hx
      · rw [e]; exact hy
      · exact drOk_of l (k + 1) h x hx
    · have e2 : (if 1 ≤ y ∧ y ≤ 20 then (0 : Int) else 2) = 2 := if_neg hy
      rw [e2, if_neg (show ¬ (2 : Int) = 0 by decide)] at h
      exact absurd h (by show ¬ (2 : Int) = 0; decide)
structure ShOk (l : List Int) (load : Int) : Prop where
  n : 1 ≤ l.length ∧ l.length ≤ 6
  dr : DrOk l
  ld : -100000 ≤ load ∧ load ≤ 100000
theorem ShOk.of {l : List Int} {load : Int} (h : shaE l load = 0) : ShOk l load := by
  unfold shaE at h
  by_cases h0 : l.length = 0
  · rw [if_pos h0] at h; exact absurd h (by decide)
  · rw [if_neg h0] at h
    by_cases h6 : l.length > 6
    · rw [if_pos h6] at h; exact absurd h (by decide)
    · rw [if_neg h6] at h
      by_cases hd : drE l = 0
      · rw [if_neg (not_not_intro hd)] at h
        by_cases hl : -100000 ≤ load ∧ load ≤ 100000
        · exact ⟨by omega, drOk_of l 0 hd, hl⟩
        · rw [if_neg hl] at h; exact absurd h (by decide)
      · rw [if_pos hd] at h; exact absurd h hd
end Go.Tr

/- Plain laws: sorting by insertion, votes. Conditions: none. -/
namespace Go.Tr
open Go Go.Proofs
set_option maxRecDepth 20000
set_option maxHeartbeats 8000000

/-- In order, as far as a place. -/
def SortTo (a : List Int) (n : Nat) : Prop := ∀ p q, p < q → q < n → a.getD p 0 ≤ a.getD q 0
/-- In order but for one that sinks. -/
structure Sink (a : List Int) (j n : Nat) : Prop where
  lo : ∀ p q, p < q → q < j → a.getD p 0 ≤ a.getD q 0
  hi : ∀ p q, j ≤ p → p < q → q < n → a.getD p 0 ≤ a.getD q 0
  cr : ∀ p q, p < j → j < q → q < n → a.getD p 0 ≤ a.getD q 0
def swapL (a : List Int) (j : Nat) : List Int := (a.set j (a.getD (j - 1) 0)).set (j - 1) (a.getD j 0)
theorem swapL_perm {a : List Int} {j : Nat} (h : j < a.length) : (swapL a j).Perm a := by
  have h1 : j - 1 < a.length := by omega
  have e1 : a.getD (j - 1) 0 = a[j - 1] := by simp [List.getD_eq_getElem?_getD, h1]
  have e2 : a.getD j 0 = a[j] := by simp [List.getD_eq_getElem?_getD, h]
  unfold swapL
  rw [e1, e2]
  exact List.set_set_perm h h1
theorem swapL_get {a : List Int} {j : Nat} (h0 : 0 < j) (h : j < a.length) (i : Nat) : (swapL a j).getD i 0 = if i = j - 1 then a.getD j 0 else if i = j then a.getD (j - 1) 0 else a.getD i 0 := by
  unfold swapL
  rw [getD_setI, getD_setI]
  by_cases h1 : i = j - 1
  · rw [if_pos ⟨h1, by rw [List.length_set]; omega⟩, if_pos h1]
  · rw [if_neg (fun e => h1 e.1), if_neg h1]
    by_cases h2 : i = j
    · rw [if_pos ⟨h2, h⟩, if_pos h2]
    · rw [if_neg (fun e => h2 e.1), if_neg h2]
theorem sink_swap {a : List Int} {j n : Nat} (h0 : 0 < j) (h : j < a.length) (hs : Sink a j n) (hlt : a.getD j 0 < a.getD (j - 1) 0) : Sink (swapL a j) (j - 1) n := by
  have g := swapL_get h0 h
  refine ⟨fun p q h1 h2 => ?_, fun p q h1 h2 h3 => ?_, fun p q h1 h2 h3 => ?_⟩
  · rw [g, g, if_neg (by omega), if_neg (by omega), if_neg (by omega), if_neg (by omega)]
    exact hs.lo p q h1 (by omega)
  · rw [g, g]
    by_cases e1 : p = j - 1
    · rw [if_pos e1, if_neg (show ¬ q = j - 1 by omega)]
      by_cases e2 : q = j
      · rw [if_pos e2]; omega
      · rw [if_neg e2]
        exact hs.hi j q (Nat.le_refl _) (by omega) h3
    · rw [if_neg e1, if_neg (show ¬ q = j - 1 by omega)]
      by_cases e2 : p = j
      · rw [if_pos e2, if_neg (by omega)]
        exact hs.cr (j - 1) q (by omega) (by omega) h3
      · rw [if_neg e2, if_neg (by omega)]
        exact hs.hi p q (by omega) h2 h3
  · rw [g, g, if_neg (show ¬ p = j - 1 by omega), if_neg (show ¬ p = j by omega), if_neg (show ¬ q = j - 1 by omega)]
    by_cases e2 : q = j
    · rw [if_pos e2]; exact hs.lo p (j - 1) (by omega) (by omega)
    · rw [if_neg e2]; exact hs.cr p q (by omega) (by omega) h3
theorem sink_end {a : List Int} {j n : Nat} (hs : Sink a j n) (h : j = 0 ∨ a.getD (j - 1) 0 ≤ a.getD j 0) : SortTo a n := fun p q h1 h2 => by
  by_cases e1 : q < j
  · exact hs.lo p q h1 e1
  · by_cases e2 : j ≤ p
    · exact hs.hi p q e2 h1 h2
    · by_cases e3 : q = j
      · subst e3
        rcases h with h | h
        · omega
        · by_cases e4 : p = q - 1
          · rw [e4]; exact h
          · exact Int.le_trans (hs.lo p (q - 1) (by omega) (by omega)) h
      · exact hs.cr p q (by omega) (by omega) h2
theorem sink_start {a : List Int} {i : Nat} (h : SortTo a i) : Sink a i (i + 1) :=
  ⟨h, fun p q h1 h2 h3 => by omega, fun p q h1 h2 h3 => by omega⟩

theorem perm2 {x y u v : Int} (h : [x, y].Perm [u, v]) : (x = u ∧ y = v) ∨ (x = v ∧ y = u) := by
  have hx : x ∈ [u, v] := h.subset (by simp)
  rcases List.mem_cons.1 hx with e | hx
  · subst e
    have := (List.perm_cons x).1 h
    have := List.perm_singleton.1 this
    simp at this
    exact .inl ⟨rfl, this⟩
  · have e := List.mem_singleton.1 hx
    subst e
    have h2 := h.trans (List.Perm.swap x u [])
    have := (List.perm_cons x).1 h2
    have := List.perm_singleton.1 this
    simp at this
    exact .inr ⟨rfl, this⟩
/-- The one in the middle of three. -/
def midI (u v w : Int) : Int := max (min u v) (min (max u v) w)
theorem perm3 {x y z u v w : Int} (h : [x, y, z].Perm [u, v, w]) (h1 : x ≤ y) (h2 : y ≤ z) : y = midI u v w := by
  unfold midI
  have hx : x ∈ [u, v, w] := h.subset (by simp)
  rcases List.mem_cons.1 hx with e | hx
  · subst e
    have h3 := perm2 ((List.perm_cons x).1 h)
    omega
  · rcases List.mem_cons.1 hx with e | hx
    · subst e
      have h3 := perm2 ((List.perm_cons x).1 (h.trans (List.Perm.swap x u [w])))
      omega
    · have e := List.mem_singleton.1 hx
      subst e
      have h4 : [u, v, x].Perm [x, u, v] := by
        exact (List.perm_append_comm (l₁ := [u, v]) (l₂ := [x]))
      have h3 := perm2 ((List.perm_cons x).1 (h.trans h4))
      omega
abbrev Rd := Int × Bool
def rdE (r : Rd) : Int := if r.2 = true then (if r.1 = 0 then 0 else 3) else (if -1000000 ≤ r.1 ∧ r.1 ≤ 1000000 then 0 else 2)
def presL (R : List Rd) : List Int := R.filterMap fun r => if r.2 = true then none else some r.1
theorem presL_snoc (R : List Rd) (r : Rd) : presL (R ++ [r]) = if r.2 = true then presL R else presL R ++ [r.1] := by
  unfold presL
  rw [List.filterMap_append]
  by_cases h : r.2 = true
  · rw [if_pos h]; simp [h]
  · rw [if_neg h]; simp [h]
end Go.Tr

/- Contracts of chapter 6: the vote of three channels. Conditions: none. -/
namespace Go.Tr
open Go Go.Proofs
set_option maxRecDepth 20000
set_option maxHeartbeats 8000000

theorem S16 (k : Int) (r : Rd) : SP 16 [i64 k, .agg [i64 r.1, vb r.2]] (i64 (rdE r)) false := by
  obtain ⟨v, m⟩ := r
  have h93a := S17 (v == 0) 3
  have h114 := S18 v 1000000 (by decide)
  have h93b := S17 (win v (-1000000) 1000000) 2
  unfold rdE
  cases m with
  | true =>
    refine sound (d := 2) tok2 mixed2 Try.func16 (by kernel_rfl) (by kernel_rfl) ?_
    conv => whnf
    refine .inl ⟨_, _, byX rfl (Sound1.pl (h93a) rfl), ?_⟩
    conv => whnf
    refine ⟨?_, nofun⟩
    exact endi (by simp)
  | false =>
    refine sound (d := 2) tok2 mixed2 Try.func16 (by kernel_rfl) (by kernel_rfl) ?_
    conv => whnf
    refine .inl ⟨_, _, byX rfl (Sound1.pl (h114) rfl), ?_⟩
    conv => whnf
    refine .inl ⟨_, _, byX rfl (Sound1.pl (h93b) rfl), ?_⟩
    conv => whnf
    refine ⟨?_, nofun⟩
    exact endi (by unfold win; simp)
theorem S39 (n : Nat) (h : n ≤ 3) : ∃ r, SP 39 [.val (.int .u64 n)] (i64 r) false := by
  have : n = 0 ∨ n = 1 ∨ n = 2 ∨ n = 3 := by omega
  rcases this with rfl | rfl | rfl | rfl
  · exact ⟨_, run_ok mixed2 (l := []) (by simp) 1000 60 (y := i64 0) (by kernel_rfl)⟩
  · exact ⟨_, run_ok mixed2 (l := []) (by simp) 1000 60 (y := i64 1) (by kernel_rfl)⟩
  · exact ⟨_, run_ok mixed2 (l := []) (by simp) 1000 60 (y := i64 2) (by kernel_rfl)⟩
  · exact ⟨_, run_ok mixed2 (l := []) (by simp) 1000 60 (y := i64 2) (by kernel_rfl)⟩
def eachD : List Rd → Nat → Int × Int
  | [], _ => (0, 0)
  | x :: l, k => if rdE x = 0 then eachD l (k + 1) else (k, rdE x)
theorem eachD_drop (l : List Rd) (k : Nat) (h : k < l.length) : eachD (l.drop k) k = if rdE (l.getD k (0, false)) = 0 then eachD (l.drop (k + 1)) (k + 1) else ((k : Int), rdE (l.getD k (0, false))) := by
  rw [List.drop_eq_getElem_cons h]
  simp [eachD, List.getD_eq_getElem?_getD, h]
def rds (L : List Rd) : AV := .rslice 2 L.length fun i => [i64 (L.getD i (0, false)).1, vb (L.getD i (0, false)).2]
theorem S15 (l : List Rd) (hl : l.length ≤ 1000000000) : SP 15 [rds l, .func (.func 16) 0 []] (.tuple [i64 (eachD l 0).1, i64 (eachD l 0).2]) false := by
  refine sound (d := 2) tok2 mixed2 Try.func15 (by kernel_rfl) (by kernel_rfl) ?_
  conv => whnf
  refine ⟨[], [1, 9, 10, 11], fun st mq => ∃ (k : Nat), (k ≤ l.length) ∧ (eachD (l.drop k) k = eachD l 0) ∧ st = ⟨[(1, .func (.func 16) 0 []), (9, rds l), (10, i64 l.length), (11, i64 k)], ⟨[], [], none, 0⟩, []⟩ ∧ mq = l.length - k,
    ⟨_, _, ⟨0, by omega, rfl, rfl, rfl⟩, ⟨⟨.inl rfl, rfl, rfl, rfl⟩, trivial, trivial⟩⟩, ?_⟩
  rintro s0 m0 ⟨k, hk, he, rfl, hmeas⟩
  by_cases hlt : k < l.length
  · have hd := eachD_drop l k hlt
    have hc := S16 k (l.getD k (0, false))
    conv => whnf
    conv => whnf
    refine ifB_dec (fun w1 => ?_) (fun w1 => ?_)
    · conv => whnf
      conv => whnf
      refine ⟨⟨(by omega), (by omega)⟩, ?_⟩
      conv => whnf
      conv => whnf
      refine .inl ⟨_, _, byX rfl (Sound1.pl (hc) rfl), ?_⟩
      conv => whnf
      conv => whnf
      refine ifB_bne (fun w2 => ?_) (fun w2 => ?_)
      · conv => whnf
        conv => whnf
        refine ⟨?_, nofun⟩
        rw [if_neg w2] at hd
        exact ave_tup2 (endi (by rw [← he, hd])) (endi (by rw [← he, hd]))
      · conv => whnf
        conv => whnf
        refine ⟨inK64 (by omega) (by omega), ?_⟩
        rw [if_pos w2] at hd
        conv => whnf
        conv => whnf
        refine ⟨_, _, ⟨⟨k + 1, by omega, hd.symm.trans he, rfl, rfl⟩, by omega⟩, ⟨⟨.inl rfl, rfl, rfl, rfl⟩, trivial, trivial⟩⟩
    · (exfalso; omega)
  · have e : k = l.length := by omega
    subst e
    rw [List.drop_length] at he
    conv => whnf
    conv => whnf
    refine ifB_dec (fun w1 => ?_) (fun w1 => ?_)
    · (exfalso; omega)
    · conv => whnf
      conv => whnf
      refine ⟨?_, nofun⟩
      exact ave_tup2 (endi (by rw [← he]; rfl)) (endi (by rw [← he]; rfl))
/-- Three readings. -/
structure R3 where
  a : Rd
  b : Rd
  c : Rd
def R3.l (x : R3) : List Rd := [x.a, x.b, x.c]
abbrev xA (x : R3) : AV := .agg [i64 x.a.1, vb x.a.2, i64 x.b.1, vb x.b.2, i64 x.c.1, vb x.c.2]
def rdsE (x : R3) : Int := (eachD x.l 0).2
theorem S15x (x : R3) (f : Nat → List AV) (h : f 0 = [i64 x.a.1, vb x.a.2] ∧ f 1 = [i64 x.b.1, vb x.b.2] ∧ f 2 = [i64 x.c.1, vb x.c.2]) : SP 15 [.rslice 2 3 f, .func (.func 16) 0 []] (.tuple [i64 (eachD x.l 0).1, i64 (rdsE x)]) false := by
  refine (S15 x.l (by show 3 ≤ 1000000000; decide)).argsD rfl fun i y z hy hz => ?_
  match i, hy, hz with
  | 0, hy, hz =>
    cases hy; cases hz
    refine .inr ⟨1, AVF_rows rfl (fun i hi => ?_) 0⟩
    match i, hi with
    | 0, _ => exact h.1
    | 1, _ => exact h.2.1
    | 2, _ => exact h.2.2
  | 1, hy, hz => cases hy; cases hz; exact .inl rfl
def tolE (t : Int) : Int := if 0 ≤ t ∧ t ≤ 1000000 then 0 else 2
/-- The error of a vote, but for channels that differ. -/
def votE (x : R3) (t : Int) : Int := firstOf [rdsE x, tolE t, if (presL x.l).length ≥ 2 then 0 else 14]
theorem S65 (a b : Int) : SP 65 [i64 a, i64 b] (vb (decide (a < b))) false := by
  have h : ∀ x : Int, SP 82 [i64 x] (vb false) false := fun x => by
    refine sound (d := 2) tok2 mixed2 Try.func82 (by kernel_rfl) (by kernel_rfl) ?_
    conv => whnf
    refine ⟨?_, nofun⟩
    exact endb (by simp)
  refine sound (d := 2) tok2 mixed2 Try.func65 (by kernel_rfl) (by kernel_rfl) ?_
  conv => whnf
  refine .inl ⟨_, _, byX rfl (Sound1.pl (h _) rfl), ?_⟩
  conv => whnf
  refine ⟨?_, nofun⟩
  exact endb rfl
def two (u v t : Int) : Int × Int := if ((u - v).natAbs : Int) > t then (0, 13) else ((u + v).fdiv 2, 0)
def oddB (m t z : Int) : Bool := decide (((z - m).natAbs : Int) > t)
def b01 (b : Bool) : Int := if b = true then 1 else 0
abbrev Vt := Int × Bool × Bool × Bool
abbrev vtA (v : Vt) : AV := .agg [i64 v.1, vb v.2.1, vb v.2.2.1, vb v.2.2.2]
def vt0 : Vt := (0, false, false, false)
/-- The vote. -/
def voteG (x : R3) (t : Int) : Vt × Int :=
  if votE x t ≠ 0 then (vt0, votE x t)
  else if (presL x.l).length = 2 then (((two ((presL x.l).getD 0 0) ((presL x.l).getD 1 0) t).1, false, false, false), (two ((presL x.l).getD 0 0) ((presL x.l).getD 1 0) t).2)
  else if b01 (oddB (midI x.a.1 x.b.1 x.c.1) t x.a.1) + b01 (oddB (midI x.a.1 x.b.1 x.c.1) t x.b.1) + b01 (oddB (midI x.a.1 x.b.1 x.c.1) t x.c.1) > 1 then (vt0, 13)
  else ((midI x.a.1 x.b.1 x.c.1, oddB (midI x.a.1 x.b.1 x.c.1) t x.a.1, oddB (midI x.a.1 x.b.1 x.c.1) t x.b.1, oddB (midI x.a.1 x.b.1 x.c.1) t x.c.1), 0)
theorem siz_abs (z : Int) : siz z = (z.natAbs : Nat) := by unfold siz; split <;> omega
theorem vot_in {x : R3} {t : Int} (h : votE x t = 0) : (∀ v ∈ presL x.l, v.natAbs ≤ 1000000) ∧ 0 ≤ t ∧ t ≤ 1000000 := by
  unfold votE at h
  rw [first3] at h
  by_cases h1 : rdsE x = 0
  · rw [if_neg (not_not_intro h1)] at h
    by_cases h2 : tolE t = 0
    · refine ⟨fun v hv => ?_, ?_⟩
      · have hall : ∀ (l : List Rd) (k : Nat), (eachD l k).2 = 0 → ∀ r ∈ l, rdE r = 0 := fun l => by
          induction l with
          | nil => intro _ _ r hr; cases hr
          | cons y l ih =>
            intro k h r hr
            unfold eachD at h
            by_cases hy : rdE y = 0
            · rw [if_pos hy] at h
              rcases List.mem_cons.1 hr with e | hr
              · rw [e]; exact hy
              · exact ih (k + 1) h r hr
            · rw [if_neg hy] at h; exact absurd h hy
        obtain ⟨r, hr, he⟩ := List.mem_filterMap.1 hv
        have h3 := hall x.l 0 h1 r hr
        unfold rdE at h3
        by_cases hm : r.2 = true
        · rw [if_pos hm] at he; exact absurd he (by simp)
        · rw [if_neg hm] at h3 he
          cases he
          split at h3
          · omega
          · exact absurd h3 (by decide)
      · unfold tolE at h2
        split at h2
        · assumption
        · exact absurd h2 (by decide)
    · rw [if_pos h2] at h; exact absurd h h2
  · rw [if_pos h1] at h; exact absurd h h1
theorem pres3 {x : R3} (h : (presL x.l).length = 3) : presL x.l = [x.a.1, x.b.1, x.c.1] := by
  obtain ⟨⟨a, ma⟩, ⟨b, mb⟩, ⟨c, mc⟩⟩ := x
  unfold presL R3.l at h ⊢
  cases ma <;> cases mb <;> cases mc <;> simp at h ⊢
theorem sorted2 {a O : List Int} (hp : a.Perm O) (hs : SortTo a 2) (hl : a.length = 2) (hO : O.length = 2) : (a.getD 1 0 - a.getD 0 0 = ((O.getD 0 0 - O.getD 1 0).natAbs : Nat)) ∧ a.getD 0 0 + a.getD 1 0 = O.getD 0 0 + O.getD 1 0 := by
  have h01 := hs 0 1 (by omega) (by omega)
  match a, O, hl, hO with
  | [p, q], [u, v], _, _ =>
    have h := perm2 hp
    have h01 : p ≤ q := h01
    show q - p = ((u - v).natAbs : Nat) ∧ p + q = u + v
    omega
theorem sorted3 {a : List Int} {u v w : Int} (hp : a.Perm [u, v, w]) (hs : SortTo a 3) (hl : a.length = 3) : a.getD 1 0 = midI u v w := by
  have h01 := hs 0 1 (by omega) (by omega)
  have h12 := hs 1 2 (by omega) (by omega)
  match a, hl with
  | [p, q, r], _ => exact perm3 hp h01 h12
set_option maxHeartbeats 4000000 in
theorem S8 (x : R3) (t : Int) : SP 8 [xA x, i64 t] (.tuple [vtA (voteG x t).1, i64 (voteG x t).2]) false := by
  have h137 := S15x x
  have h118 := S20 t 0 1000000
  have h93t := S17 (win t 0 1000000) 2
  have h90 := fun a b c => @S19_3 a b c
  refine sound (d := 5) tok2 mixed2 Try.func8 (by kernel_rfl) (by kernel_rfl) ?_
  conv => whnf
  refine ⟨⟨(by omega), ⟨(by omega), (by omega)⟩⟩, ?_⟩
  conv => whnf
  refine .inl ⟨_, _, byX rfl (Sound1.pl (h137 _ ⟨rfl, rfl, rfl⟩) rfl), ?_⟩
  conv => whnf
  refine ⟨[.slot 8 1], [1, 2, 4, 7, 8, 20, 21], fun st mq => ∃ (k : Nat) (O : List Int) (n : Nat), (k ≤ 3) ∧ (O = presL (x.l.take k)) ∧ (O.length = n) ∧ st = ⟨[(1, i64 t), (2, .optr 0 0 0 0), (4, .optr 1 0 0 0), (7, i64 (rdsE x)), (8, .oslice 2 0 0 n none), (20, xA x), (21, i64 k)], ⟨[⟨6, 1, fun _ => [i64 x.a.1, vb x.a.2, i64 x.b.1, vb x.b.2, i64 x.c.1, vb x.c.2], 0, true, true, true⟩, ⟨4, 1, fun _ => [i64 0, vb false, vb false, vb false], 0, false, true, true⟩, ⟨1, n, fun i => [i64 (O.getD i 0)], 0, false, true, false⟩], [], none, 0⟩, []⟩ ∧ mq = 3 - k,
    ⟨_, _, ⟨0, [], 0, by omega, rfl, rfl, rfl, rfl⟩, ⟨⟨.inl rfl, rfl, rfl, rfl⟩, ⟨⟨rfl, rfl, rfl, rfl, fun _ => rfl, fun _ _ => .inl rfl⟩, ⟨⟨rfl, rfl, rfl, rfl, fun _ => rfl, fun _ _ => .inl rfl⟩, ⟨⟨rfl, rfl, rfl, rfl, fun _ => rfl, fun i h => .inl (absurd h (Nat.not_lt_zero i))⟩, trivial⟩⟩⟩, trivial⟩⟩, ?_⟩
  rintro s0 m0 ⟨k, O, n, hk, hO, hn, rfl, hmeas⟩
  have hn3 : n ≤ 3 := by
    rw [← hn, hO]
    exact Nat.le_trans (List.length_filterMap_le ..) (by rw [List.length_take]; exact Nat.min_le_right _ _)
  have hc : k = 0 ∨ k = 1 ∨ k = 2 ∨ k = 3 := by omega
  rcases hc with rfl | rfl | rfl | rfl
  · have et : x.l.take 1 = x.l.take 0 ++ [x.a] := rfl
    conv => whnf
    conv => whnf
    refine ⟨⟨(by omega), (by omega)⟩, ?_⟩
    conv => whnf
    conv => whnf
    refine ifB_not ?_
    conv => whnf
    conv => whnf
    refine ifB_intro (fun w1 => ?_) (fun w1 => ?_)
    · conv => whnf
      conv => whnf
      refine ⟨inK64 (by omega) (by omega), ?_⟩
      conv => whnf
      conv => whnf
      refine ⟨_, _, ⟨⟨1, O, n, by omega, (by rw [et, presL_snoc, if_pos w1, hO]), hn, rfl, rfl⟩, by omega⟩, ⟨⟨.inl rfl, rfl, rfl, rfl⟩, ⟨⟨rfl, rfl, rfl, rfl, fun _ => rfl, fun _ _ => .inl rfl⟩, ⟨⟨rfl, rfl, rfl, rfl, fun _ => rfl, fun _ _ => .inl rfl⟩, ⟨⟨rfl, rfl, rfl, rfl, fun _ => rfl, fun _ _ => .inl rfl⟩, trivial⟩⟩⟩, trivial⟩⟩
    · conv => whnf
      conv => whnf
      refine .inl ?_
      conv => whnf
      conv => whnf
      refine ⟨(by show _ * (8 + 1) ≤ _; omega), ?_⟩
      conv => whnf
      conv => whnf
      refine ⟨inK64 (by omega) (by omega), ?_⟩
      conv => whnf
      conv => whnf
      refine ⟨_, _, ⟨⟨1, O ++ [x.a.1], n + 1, by omega, (by rw [et, presL_snoc, if_neg (by rw [w1]; nofun), hO]), (by rw [List.length_append, hn]; rfl), rfl, rfl⟩, by omega⟩, ⟨⟨.inl rfl, rfl, rfl, rfl⟩, ⟨⟨rfl, rfl, rfl, rfl, fun _ => rfl, fun _ _ => .inl rfl⟩, ⟨⟨rfl, rfl, rfl, rfl, fun _ => rfl, fun _ _ => .inl rfl⟩, ⟨⟨rfl, rfl, rfl, rfl, fun _ => rfl, fun i hi => .inl (app_row O _ n i hn hi)⟩, trivial⟩⟩⟩, trivial⟩⟩
  · have et : x.l.take 2 = x.l.take 1 ++ [x.b] := rfl
    conv => whnf
    conv => whnf
    refine ⟨⟨(by omega), (by omega)⟩, ?_⟩
    conv => whnf
    conv => whnf
    refine ifB_not ?_
    conv => whnf
    conv => whnf
    refine ifB_intro (fun w1 => ?_) (fun w1 => ?_)
    · conv => whnf
      conv => whnf
      refine ⟨inK64 (by omega) (by omega), ?_⟩
      conv => whnf
      conv => whnf
      refine ⟨_, _, ⟨⟨2, O, n, by omega, (by rw [et, presL_snoc, if_pos w1, hO]), hn, rfl, rfl⟩, by omega⟩, ⟨⟨.inl rfl, rfl, rfl, rfl⟩, ⟨⟨rfl, rfl, rfl, rfl, fun _ => rfl, fun _ _ => .inl rfl⟩, ⟨⟨rfl, rfl, rfl, rfl, fun _ => rfl, fun _ _ => .inl rfl⟩, ⟨⟨rfl, rfl, rfl, rfl, fun _ => rfl, fun _ _ => .inl rfl⟩, trivial⟩⟩⟩, trivial⟩⟩
    · conv => whnf
      conv => whnf
      refine .inl ?_
      conv => whnf
      conv => whnf
      refine ⟨(by show _ * (8 + 1) ≤ _; omega), ?_⟩
      conv => whnf
      conv => whnf
      refine ⟨inK64 (by omega) (by omega), ?_⟩
      conv => whnf
      conv => whnf
      refine ⟨_, _, ⟨⟨2, O ++ [x.b.1], n + 1, by omega, (by rw [et, presL_snoc, if_neg (by rw [w1]; nofun), hO]), (by rw [List.length_append, hn]; rfl), rfl, rfl⟩, by omega⟩, ⟨⟨.inl rfl, rfl, rfl, rfl⟩, ⟨⟨rfl, rfl, rfl, rfl, fun _ => rfl, fun _ _ => .inl rfl⟩, ⟨⟨rfl, rfl, rfl, rfl, fun _ => rfl, fun _ _ => .inl rfl⟩, ⟨⟨rfl, rfl, rfl, rfl, fun _ => rfl, fun i hi => .inl (app_row O _ n i hn hi)⟩, trivial⟩⟩⟩, trivial⟩⟩
  · have et : x.l.take 3 = x.l.take 2 ++ [x.c] := rfl
    conv => whnf
    conv => whnf
    refine ⟨⟨(by omega), (by omega)⟩, ?_⟩
    conv => whnf
    conv => whnf
    refine ifB_not ?_
    conv => whnf
    conv => whnf
    refine ifB_intro (fun w1 => ?_) (fun w1 => ?_)
    · conv => whnf
      conv => whnf
      refine ⟨inK64 (by omega) (by omega), ?_⟩
      conv => whnf
      conv => whnf
      refine ⟨_, _, ⟨⟨3, O, n, by omega, (by rw [et, presL_snoc, if_pos w1, hO]), hn, rfl, rfl⟩, by omega⟩, ⟨⟨.inl rfl, rfl, rfl, rfl⟩, ⟨⟨rfl, rfl, rfl, rfl, fun _ => rfl, fun _ _ => .inl rfl⟩, ⟨⟨rfl, rfl, rfl, rfl, fun _ => rfl, fun _ _ => .inl rfl⟩, ⟨⟨rfl, rfl, rfl, rfl, fun _ => rfl, fun _ _ => .inl rfl⟩, trivial⟩⟩⟩, trivial⟩⟩
    · conv => whnf
      conv => whnf
      refine .inl ?_
      conv => whnf
      conv => whnf
      refine ⟨(by show _ * (8 + 1) ≤ _; omega), ?_⟩
      conv => whnf
      conv => whnf
      refine ⟨inK64 (by omega) (by omega), ?_⟩
      conv => whnf
      conv => whnf
      refine ⟨_, _, ⟨⟨3, O ++ [x.c.1], n + 1, by omega, (by rw [et, presL_snoc, if_neg (by rw [w1]; nofun), hO]), (by rw [List.length_append, hn]; rfl), rfl, rfl⟩, by omega⟩, ⟨⟨.inl rfl, rfl, rfl, rfl⟩, ⟨⟨rfl, rfl, rfl, rfl, fun _ => rfl, fun _ _ => .inl rfl⟩, ⟨⟨rfl, rfl, rfl, rfl, fun _ => rfl, fun _ _ => .inl rfl⟩, ⟨⟨rfl, rfl, rfl, rfl, fun _ => rfl, fun i hi => .inl (app_row O _ n i hn hi)⟩, trivial⟩⟩⟩, trivial⟩⟩
  · have hO : O = presL x.l := hO
    have h93n := S17 (decide ((n : Int) ≥ 2)) 14
    have hE : firstOf [rdsE x, if win t 0 1000000 = true then 0 else 2, if decide ((n : Int) ≥ 2) = true then (0 : Int) else 14] = votE x t := by
      unfold votE tolE win
      rw [← hO, hn]
      simp only [decide_eq_true_eq]
      congr 4
      by_cases h : n ≥ 2
      · rw [if_pos h, if_pos (by omega)]
      · rw [if_neg h, if_neg (by omega)]
    have h90' : ∀ f : Nat → List AV, (f 0 = [i64 (rdsE x)] ∧ f 1 = [i64 (if win t 0 1000000 = true then 0 else 2)] ∧ f 2 = [i64 (if decide ((n : Int) ≥ 2) = true then 0 else 14)]) → SP 19 [.rslice 1 3 f] (i64 (votE x t)) false := fun f h => by
      have h := S19_3 _ _ _ h
      rwa [hE] at h
    by_cases hv : votE x t = 0
    · have hn2 : 2 ≤ n := by
        by_cases h2 : n ≥ 2
        · exact h2
        · exfalso
          rw [← hE, first3, if_neg (show ¬ decide ((n : Int) ≥ 2) = true by simp; omega)] at hv
          (repeat' split at hv) <;> first | contradiction | omega
      rw [hv] at h90'
      obtain ⟨rl, h161⟩ := S39 n (by omega)
      have h181 := S65
      have hu : inK .u64 (n : Int) := ⟨by
        have : IntKind.min .u64 = 0 := by decide
        omega, by
        have : IntKind.max .u64 = 18446744073709551615 := by decide
        omega⟩
      conv => whnf
      conv => whnf
      refine .inl ⟨_, _, byX rfl (Sound1.pl (h118) rfl), ?_⟩
      conv => whnf
      conv => whnf
      refine .inl ⟨_, _, byX rfl (Sound1.pl (h93t) rfl), ?_⟩
      conv => whnf
      conv => whnf
      refine .inl ⟨_, _, byX rfl (Sound1.pl (h93n) rfl), ?_⟩
      conv => whnf
      conv => whnf
      refine .inl ⟨_, _, byX rfl (Sound1.pl (h90' _ ⟨rfl, rfl, rfl⟩) rfl), ?_⟩
      conv => whnf
      conv => whnf
      refine .inr (.inl ⟨[], ?_⟩)
      conv => whnf
      conv => whnf
      refine ⟨by assumption, ?_⟩
      conv => whnf
      conv => whnf
      refine .inl ⟨_, _, byX rfl (Sound1.pl (h161) rfl), ?_⟩
      conv => whnf
      conv => whnf
      refine .inr (.inl ⟨[], ?_⟩)
      conv => whnf
      conv => whnf
      refine ⟨[.forget [0, 2, 3, 4, 5, 6, 7, 8, 9, 58, 55, 54, 53, 52, 51, 50, 49, 48, 47, 46, 45, 44, 33, 18, 31, 32]], [0, 1, 2, 3], fun st mq => ∃ (F3 : Nat → List AV), st = ⟨[(0, .oslice 2 0 0 n none), (1, i64 0), (2, i64 n), (3, i64 rl)], ⟨[⟨6, 1, fun _ => [i64 x.a.1, vb x.a.2, i64 x.b.1, vb x.b.2, i64 x.c.1, vb x.c.2], 0, true, true, true⟩, ⟨4, 1, fun _ => [i64 0, vb false, vb false, vb false], 0, false, true, true⟩, ⟨1, n, fun i => [i64 (O.getD i 0)], 0, false, true, false⟩, ⟨1, 3, F3, 0, false, true, false⟩], [], none, 0⟩, [(12, i64 t), (13, .optr 0 0 0 0), (15, .optr 1 0 0 0), (19, .oslice 2 0 0 n none)]⟩ ∧ mq = 0,
        ⟨_, _, ⟨_, rfl, rfl⟩, ⟨⟨.inl rfl, rfl, rfl, rfl⟩, ⟨⟨rfl, rfl, rfl, rfl, fun _ => rfl, fun _ _ => .inl rfl⟩, ⟨⟨rfl, rfl, rfl, rfl, fun _ => rfl, fun _ _ => .inl rfl⟩, ⟨⟨rfl, rfl, rfl, rfl, fun _ => rfl, fun _ _ => .inl rfl⟩, ⟨⟨rfl, rfl, rfl, rfl, fun _ => rfl, fun _ _ => .inl rfl⟩, trivial⟩⟩⟩⟩, trivial⟩⟩, ?_⟩
      rintro s0 m0 ⟨F3, rfl, hmeas⟩
      conv => whnf
      conv => whnf
      conv => whnf
      refine ⟨inK64 (by omega) (by omega), ?_⟩
      conv => whnf
      conv => whnf
      conv => whnf
      refine ifB_dec (fun w1 => ?_) (fun w1 => ?_)
      · conv => whnf
        conv => whnf
        conv => whnf
        refine .inr (.inl ⟨[], ?_⟩)
        conv => whnf
        conv => whnf
        conv => whnf
        refine ⟨inK64 (by omega) (by omega), ?_⟩
        conv => whnf
        conv => whnf
        conv => whnf
        refine ⟨[.forget [0, 1, 2, 3, 10, 19, 20, 21, 22, 23, 24, 25, 26]], [0, 1, 2, 6], fun st mq => ∃ (i : Nat) (a : List Int) (F3 : Nat → List AV), (1 ≤ i) ∧ (i ≤ n ∨ i = 1) ∧ (a.length = n) ∧ (a.Perm O) ∧ (SortTo a i) ∧ st = ⟨[(0, .oslice 2 0 0 n none), (1, i64 0), (2, i64 n), (6, i64 i)], ⟨[⟨6, 1, fun _ => [i64 x.a.1, vb x.a.2, i64 x.b.1, vb x.b.2, i64 x.c.1, vb x.c.2], 0, true, true, true⟩, ⟨4, 1, fun _ => [i64 0, vb false, vb false, vb false], 0, false, true, true⟩, ⟨1, n, fun i => [i64 (a.getD i 0)], 0, false, true, false⟩, ⟨1, 3, F3, 0, false, true, false⟩], [], none, 0⟩, [(146, i64 t), (147, .optr 0 0 0 0), (149, .optr 1 0 0 0), (153, .oslice 2 0 0 n none)]⟩ ∧ mq = n - i,
          ⟨_, _, ⟨1, O, _, by omega, by omega, hn, List.Perm.refl _, fun p q h1 h2 => by omega, rfl, rfl⟩, ⟨⟨.inl rfl, rfl, rfl, rfl⟩, ⟨⟨rfl, rfl, rfl, rfl, fun _ => rfl, fun _ _ => .inl rfl⟩, ⟨⟨rfl, rfl, rfl, rfl, fun _ => rfl, fun _ _ => .inl rfl⟩, ⟨⟨rfl, rfl, rfl, rfl, fun _ => rfl, fun _ _ => .inl rfl⟩, ⟨⟨rfl, rfl, rfl, rfl, fun _ => rfl, fun _ _ => .inl rfl⟩, trivial⟩⟩⟩⟩, trivial⟩⟩, ?_⟩
        rintro s0 m0 ⟨i, a, F3, hi1, hi2, hal, hp, hs, rfl, hmeas⟩
        by_cases hil : i < n
        · conv => whnf
          conv => whnf
          conv => whnf
          conv => whnf
          refine ifB_dec (fun w2 => ?_) (fun w2 => ?_)
          · conv => whnf
            conv => whnf
            conv => whnf
            conv => whnf
            refine ⟨[], [0, 1, 2, 6, 7], fun st mq => ∃ (j : Nat) (z : Int) (b : List Int) (F3 : Nat → List AV), (z = (j : Int)) ∧ (j ≤ i) ∧ (b.length = n) ∧ (b.Perm O) ∧ (Sink b j (i + 1)) ∧ st = ⟨[(0, .oslice 2 0 0 n none), (1, i64 0), (2, i64 n), (6, i64 i), (7, i64 z)], ⟨[⟨6, 1, fun _ => [i64 x.a.1, vb x.a.2, i64 x.b.1, vb x.b.2, i64 x.c.1, vb x.c.2], 0, true, true, true⟩, ⟨4, 1, fun _ => [i64 0, vb false, vb false, vb false], 0, false, true, true⟩, ⟨1, n, fun i => [i64 (b.getD i 0)], 0, false, true, false⟩, ⟨1, 3, F3, 0, false, true, false⟩], [], none, 0⟩, [(146, i64 t), (147, .optr 0 0 0 0), (149, .optr 1 0 0 0), (153, .oslice 2 0 0 n none)]⟩ ∧ mq = j,
              ⟨_, _, ⟨i, (i : Int), a, _, rfl, by omega, hal, hp, sink_start hs, rfl, rfl⟩, ⟨⟨.inl rfl, rfl, rfl, rfl⟩, ⟨⟨rfl, rfl, rfl, rfl, fun _ => rfl, fun _ _ => .inl rfl⟩, ⟨⟨rfl, rfl, rfl, rfl, fun _ => rfl, fun _ _ => .inl rfl⟩, ⟨⟨rfl, rfl, rfl, rfl, fun _ => rfl, fun _ _ => .inl rfl⟩, ⟨⟨rfl, rfl, rfl, rfl, fun _ => rfl, fun _ _ => .inl rfl⟩, trivial⟩⟩⟩⟩, trivial⟩⟩, ?_⟩
            rintro s0 m0 ⟨j, z, b, F3, hz, hj, hbl, hpb, hsb, rfl, hmeas⟩
            subst hz
            by_cases hj0 : j = 0
            · subst hj0
              conv => whnf
              conv => whnf
              conv => whnf
              conv => whnf
              conv => whnf
              refine ⟨[], by kernel_rfl, ?_⟩
              conv => whnf
              conv => whnf
              conv => whnf
              conv => whnf
              conv => whnf
              refine ⟨inK64 (by omega) (by omega), ?_⟩
              conv => whnf
              conv => whnf
              conv => whnf
              conv => whnf
              conv => whnf
              refine ⟨_, _, ⟨⟨i + 1, b, _, by omega, by omega, hbl, hpb, sink_end hsb (.inl rfl), rfl, rfl⟩, by omega⟩, ⟨⟨.inl rfl, rfl, rfl, rfl⟩, ⟨⟨rfl, rfl, rfl, rfl, fun _ => rfl, fun _ _ => .inl rfl⟩, ⟨⟨rfl, rfl, rfl, rfl, fun _ => rfl, fun _ _ => .inl rfl⟩, ⟨⟨rfl, rfl, rfl, rfl, fun _ => rfl, fun _ _ => .inl rfl⟩, ⟨⟨rfl, rfl, rfl, rfl, fun _ => rfl, fun _ _ => .inl rfl⟩, trivial⟩⟩⟩⟩, trivial⟩⟩
            · obtain ⟨j, rfl⟩ : ∃ k, j = k + 1 := ⟨j - 1, by omega⟩
              have e1 : (((j + 1 : Nat) : Int) - 1).toNat = j := by omega
              have hsw : ∀ x, [i64 ((swapL b (j + 1)).getD x 0)] = [i64 (((b.set ((j + 1 : Nat) : Int).toNat (b.getD (0 + (((j + 1 : Nat) : Int) - 1).toNat) 0)).set (((j + 1 : Nat) : Int) - 1).toNat (b.getD (0 + ((j + 1 : Nat) : Int).toNat) 0)).getD x 0)] := fun x => by
                rw [e1, Nat.zero_add, Nat.zero_add]; rfl
              conv => whnf
              conv => whnf
              conv => whnf
              conv => whnf
              conv => whnf
              refine ⟨[], by kernel_rfl, ?_⟩
              conv => whnf
              conv => whnf
              conv => whnf
              conv => whnf
              conv => whnf
              refine ifB_dec (fun w3 => ?_) (fun w3 => ?_)
              · conv => whnf
                conv => whnf
                conv => whnf
                conv => whnf
                conv => whnf
                refine ⟨⟨(by omega), (by omega)⟩, ?_⟩
                conv => whnf
                conv => whnf
                conv => whnf
                conv => whnf
                conv => whnf
                refine ⟨inK64 (by omega) (by omega), ?_⟩
                conv => whnf
                conv => whnf
                conv => whnf
                conv => whnf
                conv => whnf
                refine ⟨⟨(by omega), (by omega)⟩, ?_⟩
                conv => whnf
                conv => whnf
                conv => whnf
                conv => whnf
                conv => whnf
                refine .inl ⟨_, _, byX rfl (Sound1.pl (h181 _ _) rfl), ?_⟩
                conv => whnf
                conv => whnf
                conv => whnf
                conv => whnf
                conv => whnf
                refine ifB_dec (fun w4 => ?_) (fun w4 => ?_)
                · conv => whnf
                  conv => whnf
                  conv => whnf
                  conv => whnf
                  conv => whnf
                  refine ⟨[], by kernel_rfl, ?_⟩
                  conv => whnf
                  conv => whnf
                  conv => whnf
                  conv => whnf
                  conv => whnf
                  refine ⟨inK64 (by omega) (by omega), ?_⟩
                  conv => whnf
                  conv => whnf
                  conv => whnf
                  conv => whnf
                  conv => whnf
                  refine ⟨inK64 (by omega) (by omega), ?_⟩
                  conv => whnf
                  conv => whnf
                  conv => whnf
                  conv => whnf
                  conv => whnf
                  refine ⟨⟨(by omega), (by omega)⟩, ?_⟩
                  conv => whnf
                  conv => whnf
                  conv => whnf
                  conv => whnf
                  conv => whnf
                  refine ⟨⟨(by omega), (by omega)⟩, ?_⟩
                  conv => whnf
                  conv => whnf
                  conv => whnf
                  conv => whnf
                  conv => whnf
                  refine ⟨⟨(by omega), (by omega)⟩, ?_⟩
                  refine ⟨_, fun i _ => rowI _ _ i _ (by first | omega | (simp only [List.length_set]; omega) | (simp only [List.length_replicate]; omega) | (simp only [List.length_set, List.length_replicate]; omega)), ?_⟩
                  conv => whnf
                  conv => whnf
                  conv => whnf
                  conv => whnf
                  conv => whnf
                  refine ⟨⟨(by omega), (by omega)⟩, ?_⟩
                  refine ⟨_, fun i _ => rowI _ _ i _ (by first | omega | (simp only [List.length_set]; omega) | (simp only [List.length_replicate]; omega) | (simp only [List.length_set, List.length_replicate]; omega)), ?_⟩
                  conv => whnf
                  conv => whnf
                  conv => whnf
                  conv => whnf
                  conv => whnf
                  refine ⟨inK64 (by omega) (by omega), ?_⟩
                  have hlt : b.getD (j + 1) 0 < b.getD (j + 1 - 1) 0 := by
                    have e : b.getD (0 + ((j + 1 : Nat) : Int).toNat) 0 < b.getD (0 + (((j + 1 : Nat) : Int) - 1).toNat) 0 := by assumption
                    rw [e1, Nat.zero_add, Nat.zero_add] at e
                    exact e
                  conv => whnf
                  conv => whnf
                  conv => whnf
                  conv => whnf
                  conv => whnf
                  refine ⟨_, _, ⟨⟨j, ((j + 1 : Nat) : Int) - 1, swapL b (j + 1), _, by omega, by omega, by simpa [swapL] using hbl, (swapL_perm (by omega)).trans hpb, sink_swap (by omega) (by omega) hsb hlt, rfl, rfl⟩, by omega⟩, ⟨⟨.inl rfl, rfl, rfl, rfl⟩, ⟨⟨rfl, rfl, rfl, rfl, fun _ => rfl, fun _ _ => .inl rfl⟩, ⟨⟨rfl, rfl, rfl, rfl, fun _ => rfl, fun _ _ => .inl rfl⟩, ⟨⟨rfl, rfl, rfl, rfl, fun _ => rfl, fun x _ => .inl (hsw x)⟩, ⟨⟨rfl, rfl, rfl, rfl, fun _ => rfl, fun _ _ => .inl rfl⟩, trivial⟩⟩⟩⟩, trivial⟩⟩
                · conv => whnf
                  conv => whnf
                  conv => whnf
                  conv => whnf
                  conv => whnf
                  refine ⟨inK64 (by omega) (by omega), ?_⟩
                  have hlt : b.getD (j + 1 - 1) 0 ≤ b.getD (j + 1) 0 := by
                    have e : ¬ b.getD (0 + ((j + 1 : Nat) : Int).toNat) 0 < b.getD (0 + (((j + 1 : Nat) : Int) - 1).toNat) 0 := by assumption
                    rw [e1, Nat.zero_add, Nat.zero_add] at e
                    exact Int.not_lt.1 e
                  conv => whnf
                  conv => whnf
                  conv => whnf
                  conv => whnf
                  conv => whnf
                  refine ⟨_, _, ⟨⟨i + 1, b, _, by omega, by omega, hbl, hpb, sink_end hsb (.inr hlt), rfl, rfl⟩, by omega⟩, ⟨⟨.inl rfl, rfl, rfl, rfl⟩, ⟨⟨rfl, rfl, rfl, rfl, fun _ => rfl, fun _ _ => .inl rfl⟩, ⟨⟨rfl, rfl, rfl, rfl, fun _ => rfl, fun _ _ => .inl rfl⟩, ⟨⟨rfl, rfl, rfl, rfl, fun _ => rfl, fun _ _ => .inl rfl⟩, ⟨⟨rfl, rfl, rfl, rfl, fun _ => rfl, fun _ _ => .inl rfl⟩, trivial⟩⟩⟩⟩, trivial⟩⟩
              · (exfalso; omega)
          · (exfalso; omega)
        · have hsa : SortTo a n := fun p q h1 h2 => hs p q h1 (by omega)
          have hvi := vot_in hv
          rw [← hO] at hvi
          have hab : ∀ i, i < n → (a.getD i 0).natAbs ≤ 1000000 := fun i hi => hvi.1 _ (hp.subset (getD_memI (by omega)))
          have hb0 : (a.getD (0 + Int.toNat 0) 0).natAbs ≤ 1000000 := hab 0 (by omega)
          have hb1 : (a.getD (0 + Int.toNat 1) 0).natAbs ≤ 1000000 := hab 1 (by omega)
          by_cases h2 : n = 2
          · subst h2
            have h2s := sorted2 hp hsa hal hn
            have h2a : a.getD (0 + Int.toNat 1) 0 - a.getD (0 + Int.toNat 0) 0 = ((O.getD 0 0 - O.getD 1 0).natAbs : Nat) := h2s.1
            have hg : voteG x t = (((two (O.getD 0 0) (O.getD 1 0) t).1, false, false, false), (two (O.getD 0 0) (O.getD 1 0) t).2) := by
              unfold voteG
              rw [if_neg (not_not_intro hv), ← hO, if_pos hn]
            by_cases hd : ((O.getD 0 0 - O.getD 1 0).natAbs : Int) > t
            · have e : two (O.getD 0 0) (O.getD 1 0) t = (0, 13) := if_pos hd
              rw [hg, e]
              conv => whnf
              conv => whnf
              conv => whnf
              conv => whnf
              refine ifB_dec (fun w2 => ?_) (fun w2 => ?_)
              · (exfalso; omega)
              · conv => whnf
                conv => whnf
                conv => whnf
                conv => whnf
                refine ⟨[], by kernel_rfl, ?_⟩
                conv => whnf
                conv => whnf
                conv => whnf
                conv => whnf
                refine ⟨⟨(by omega), (by omega)⟩, ?_⟩
                conv => whnf
                conv => whnf
                conv => whnf
                conv => whnf
                refine ⟨⟨(by omega), (by omega)⟩, ?_⟩
                conv => whnf
                conv => whnf
                conv => whnf
                conv => whnf
                refine ⟨inK64 (by omega) (by omega), ?_⟩
                conv => whnf
                conv => whnf
                conv => whnf
                conv => whnf
                refine ifB_dec (fun w3 => ?_) (fun w3 => ?_)
                · conv => whnf
                  conv => whnf
                  conv => whnf
                  conv => whnf
                  refine ⟨?_, nofun⟩
                  exact ave_tup2 (ave_agg4 rfl rfl rfl rfl) rfl
                · (exfalso; omega)
            · have e : two (O.getD 0 0) (O.getD 1 0) t = ((O.getD 0 0 + O.getD 1 0).fdiv 2, 0) := if_neg hd
              rw [hg, e]
              conv => whnf
              conv => whnf
              conv => whnf
              conv => whnf
              refine ifB_dec (fun w2 => ?_) (fun w2 => ?_)
              · (exfalso; omega)
              · conv => whnf
                conv => whnf
                conv => whnf
                conv => whnf
                refine ⟨[], by kernel_rfl, ?_⟩
                conv => whnf
                conv => whnf
                conv => whnf
                conv => whnf
                refine ⟨⟨(by omega), (by omega)⟩, ?_⟩
                conv => whnf
                conv => whnf
                conv => whnf
                conv => whnf
                refine ⟨⟨(by omega), (by omega)⟩, ?_⟩
                conv => whnf
                conv => whnf
                conv => whnf
                conv => whnf
                refine ⟨inK64 (by omega) (by omega), ?_⟩
                conv => whnf
                conv => whnf
                conv => whnf
                conv => whnf
                refine ifB_dec (fun w3 => ?_) (fun w3 => ?_)
                · (exfalso; omega)
                · conv => whnf
                  conv => whnf
                  conv => whnf
                  conv => whnf
                  refine ⟨[], by kernel_rfl, ?_⟩
                  conv => whnf
                  conv => whnf
                  conv => whnf
                  conv => whnf
                  refine ⟨⟨(by omega), (by omega)⟩, ?_⟩
                  conv => whnf
                  conv => whnf
                  conv => whnf
                  conv => whnf
                  refine ⟨⟨(by omega), (by omega)⟩, ?_⟩
                  conv => whnf
                  conv => whnf
                  conv => whnf
                  conv => whnf
                  refine ⟨inK64 (by omega) (by omega), ?_⟩
                  conv => whnf
                  conv => whnf
                  conv => whnf
                  conv => whnf
                  refine ⟨(by omega), ?_⟩
                  conv => whnf
                  conv => whnf
                  conv => whnf
                  conv => whnf
                  refine ⟨?_, nofun⟩
                  refine ave_tup2 (ave_agg4 (endi ?_) rfl rfl rfl) rfl
                  show (a.getD 0 0 + a.getD 1 0).fdiv (2 ^ 1) = _
                  rw [h2s.2]
                  rfl
          · have h3 : n = 3 := by omega
            subst h3
            have hO3 := pres3 (hO ▸ hn)
            rw [hO3] at hO
            rw [hO] at hp hvi
            have hm := sorted3 hp hsa hal
            have hg : voteG x t = if b01 (oddB (midI x.a.1 x.b.1 x.c.1) t x.a.1) + b01 (oddB (midI x.a.1 x.b.1 x.c.1) t x.b.1) + b01 (oddB (midI x.a.1 x.b.1 x.c.1) t x.c.1) > 1 then (vt0, 13) else ((midI x.a.1 x.b.1 x.c.1, oddB (midI x.a.1 x.b.1 x.c.1) t x.a.1, oddB (midI x.a.1 x.b.1 x.c.1) t x.b.1, oddB (midI x.a.1 x.b.1 x.c.1) t x.c.1), 0) := by
              unfold voteG
              rw [if_neg (not_not_intro hv), hO3, if_neg (by show ¬ (3 : Nat) = 2; decide)]
            rw [hg, ← hm]
            have hb1' : (a.getD 1 0).natAbs ≤ 1000000 := hb1
            have hm1 : a.getD (0 + Int.toNat 1) 0 = a.getD 1 0 := rfl
            conv => whnf
            conv => whnf
            conv => whnf
            conv => whnf
            refine ifB_dec (fun w2 => ?_) (fun w2 => ?_)
            · (exfalso; omega)
            · conv => whnf
              conv => whnf
              conv => whnf
              conv => whnf
              refine ⟨⟨(by omega), (by omega)⟩, ?_⟩
              conv => whnf
              conv => whnf
              conv => whnf
              conv => whnf
              refine ⟨[], [1, 2, 4, 11, 12, 75, 76], fun st mq => ∃ (k : Nat) (b0 : Bool) (b1 : Bool) (b2 : Bool) (q : Int) (F2 : Nat → List AV) (F3 : Nat → List AV), (k ≤ 3) ∧ (b0 = (decide (0 < k) && oddB (a.getD 1 0) t x.a.1)) ∧ (b1 = (decide (1 < k) && oddB (a.getD 1 0) t x.b.1)) ∧ (b2 = (decide (2 < k) && oddB (a.getD 1 0) t x.c.1)) ∧ (q = b01 b0 + b01 b1 + b01 b2) ∧ st = ⟨[(1, i64 t), (2, .optr 0 0 0 0), (4, .optr 1 0 0 0), (11, .optr 4 0 0 0), (12, i64 q), (75, xA x), (76, i64 k)], ⟨[⟨6, 1, fun _ => [i64 x.a.1, vb x.a.2, i64 x.b.1, vb x.b.2, i64 x.c.1, vb x.c.2], 0, true, true, true⟩, ⟨4, 1, fun _ => [i64 0, vb false, vb false, vb false], 0, false, true, true⟩, ⟨1, 3, F2, 0, false, true, false⟩, ⟨1, 3, F3, 0, false, true, false⟩, ⟨4, 1, fun _ => [i64 (a.getD 1 0), vb b0, vb b1, vb b2], 0, false, true, true⟩], [], none, 0⟩, []⟩ ∧ mq = 3 - k,
                ⟨_, _, ⟨0, false, false, false, 0, _, _, by omega, rfl, rfl, rfl, rfl, rfl, rfl⟩, ⟨⟨.inl rfl, rfl, rfl, rfl⟩, ⟨⟨rfl, rfl, rfl, rfl, fun _ => rfl, fun _ _ => .inl rfl⟩, ⟨⟨rfl, rfl, rfl, rfl, fun _ => rfl, fun _ _ => .inl rfl⟩, ⟨⟨rfl, rfl, rfl, rfl, fun _ => rfl, fun _ _ => .inl rfl⟩, ⟨⟨rfl, rfl, rfl, rfl, fun _ => rfl, fun _ _ => .inl rfl⟩, ⟨⟨rfl, rfl, rfl, rfl, fun _ => rfl, fun _ _ => .inl rfl⟩, trivial⟩⟩⟩⟩⟩, trivial⟩⟩, ?_⟩
              rintro s0 m0 ⟨k, b0, b1, b2, q, F2, F3, hk, hq0, hq1, hq2, hq, rfl, hmeas⟩
              have hc3 : k = 0 ∨ k = 1 ∨ k = 2 ∨ k = 3 := by omega
              have hqb : 0 ≤ q ∧ q ≤ 3 := by
                rw [hq]
                unfold b01
                (repeat' split) <;> omega
              rcases hc3 with rfl | rfl | rfl | rfl
              · have ho : oddB (a.getD 1 0) t x.a.1 = decide (siz (x.a.1 - a.getD 1 0) > t) := by rw [siz_abs]; rfl
                have hxb : x.a.1.natAbs ≤ 1000000 := hvi.1 _ (by simp)
                have h115 := S22 (x.a.1 - a.getD 1 0) (by omega)
                have hz : b01 b0 = 0 := by rw [show b0 = false from hq0]; rfl
                have ht1 : b01 true = 1 := rfl
                conv => whnf
                conv => whnf
                conv => whnf
                conv => whnf
                conv => whnf
                refine ⟨⟨(by omega), (by omega)⟩, ?_⟩
                conv => whnf
                conv => whnf
                conv => whnf
                conv => whnf
                conv => whnf
                refine ⟨inK64 (by omega) (by omega), ?_⟩
                conv => whnf
                conv => whnf
                conv => whnf
                conv => whnf
                conv => whnf
                refine .inl ⟨_, _, byX rfl (Sound1.pl (h115) rfl), ?_⟩
                conv => whnf
                conv => whnf
                conv => whnf
                conv => whnf
                conv => whnf
                refine ifB_dec (fun w3 => ?_) (fun w3 => ?_)
                · conv => whnf
                  conv => whnf
                  conv => whnf
                  conv => whnf
                  conv => whnf
                  refine ⟨⟨(by omega), (by omega)⟩, ?_⟩
                  conv => whnf
                  conv => whnf
                  conv => whnf
                  conv => whnf
                  conv => whnf
                  refine ⟨inK64 (by omega) (by omega), ?_⟩
                  conv => whnf
                  conv => whnf
                  conv => whnf
                  conv => whnf
                  conv => whnf
                  refine ⟨inK64 (by omega) (by omega), ?_⟩
                  conv => whnf
                  conv => whnf
                  conv => whnf
                  conv => whnf
                  conv => whnf
                  refine ⟨_, _, ⟨⟨1, true, b1, b2, q + 1, _, _, by omega, (by rw [ho, decide_eq_true w3]; rfl), hq1, hq2, (by omega), rfl, rfl⟩, by omega⟩, ⟨⟨.inl rfl, rfl, rfl, rfl⟩, ⟨⟨rfl, rfl, rfl, rfl, fun _ => rfl, fun _ _ => .inl rfl⟩, ⟨⟨rfl, rfl, rfl, rfl, fun _ => rfl, fun _ _ => .inl rfl⟩, ⟨⟨rfl, rfl, rfl, rfl, fun _ => rfl, fun _ _ => .inl rfl⟩, ⟨⟨rfl, rfl, rfl, rfl, fun _ => rfl, fun _ _ => .inl rfl⟩, ⟨⟨rfl, rfl, rfl, rfl, fun _ => rfl, fun _ _ => .inl rfl⟩, trivial⟩⟩⟩⟩⟩, trivial⟩⟩
                · conv => whnf
                  conv => whnf
                  conv => whnf
                  conv => whnf
                  conv => whnf
                  refine ⟨inK64 (by omega) (by omega), ?_⟩
                  conv => whnf
                  conv => whnf
                  conv => whnf
                  conv => whnf
                  conv => whnf
                  refine ⟨_, _, ⟨⟨1, b0, b1, b2, q, _, _, by omega, (by rw [show b0 = false from hq0, ho, decide_eq_false w3]; rfl), hq1, hq2, hq, rfl, rfl⟩, by omega⟩, ⟨⟨.inl rfl, rfl, rfl, rfl⟩, ⟨⟨rfl, rfl, rfl, rfl, fun _ => rfl, fun _ _ => .inl rfl⟩, ⟨⟨rfl, rfl, rfl, rfl, fun _ => rfl, fun _ _ => .inl rfl⟩, ⟨⟨rfl, rfl, rfl, rfl, fun _ => rfl, fun _ _ => .inl rfl⟩, ⟨⟨rfl, rfl, rfl, rfl, fun _ => rfl, fun _ _ => .inl rfl⟩, ⟨⟨rfl, rfl, rfl, rfl, fun _ => rfl, fun _ _ => .inl rfl⟩, trivial⟩⟩⟩⟩⟩, trivial⟩⟩
              · have ho : oddB (a.getD 1 0) t x.b.1 = decide (siz (x.b.1 - a.getD 1 0) > t) := by rw [siz_abs]; rfl
                have hxb : x.b.1.natAbs ≤ 1000000 := hvi.1 _ (by simp)
                have h115 := S22 (x.b.1 - a.getD 1 0) (by omega)
                have hz : b01 b1 = 0 := by rw [show b1 = false from hq1]; rfl
                have ht1 : b01 true = 1 := rfl
                conv => whnf
                conv => whnf
                conv => whnf
                conv => whnf
                conv => whnf
                refine ⟨⟨(by omega), (by omega)⟩, ?_⟩
                conv => whnf
                conv => whnf
                conv => whnf
                conv => whnf
                conv => whnf
                refine ⟨inK64 (by omega) (by omega), ?_⟩
                conv => whnf
                conv => whnf
                conv => whnf
                conv => whnf
                conv => whnf
                refine .inl ⟨_, _, byX rfl (Sound1.pl (h115) rfl), ?_⟩
                conv => whnf
                conv => whnf
                conv => whnf
                conv => whnf
                conv => whnf
                refine ifB_dec (fun w3 => ?_) (fun w3 => ?_)
                · conv => whnf
                  conv => whnf
                  conv => whnf
                  conv => whnf
                  conv => whnf
                  refine ⟨⟨(by omega), (by omega)⟩, ?_⟩
                  conv => whnf
                  conv => whnf
                  conv => whnf
                  conv => whnf
                  conv => whnf
                  refine ⟨inK64 (by omega) (by omega), ?_⟩
                  conv => whnf
                  conv => whnf
                  conv => whnf
                  conv => whnf
                  conv => whnf
                  refine ⟨inK64 (by omega) (by omega), ?_⟩
                  conv => whnf
                  conv => whnf
                  conv => whnf
                  conv => whnf
                  conv => whnf
                  refine ⟨_, _, ⟨⟨2, b0, true, b2, q + 1, _, _, by omega, hq0, (by rw [ho, decide_eq_true w3]; rfl), hq2, (by omega), rfl, rfl⟩, by omega⟩, ⟨⟨.inl rfl, rfl, rfl, rfl⟩, ⟨⟨rfl, rfl, rfl, rfl, fun _ => rfl, fun _ _ => .inl rfl⟩, ⟨⟨rfl, rfl, rfl, rfl, fun _ => rfl, fun _ _ => .inl rfl⟩, ⟨⟨rfl, rfl, rfl, rfl, fun _ => rfl, fun _ _ => .inl rfl⟩, ⟨⟨rfl, rfl, rfl, rfl, fun _ => rfl, fun _ _ => .inl rfl⟩, ⟨⟨rfl, rfl, rfl, rfl, fun _ => rfl, fun _ _ => .inl rfl⟩, trivial⟩⟩⟩⟩⟩, trivial⟩⟩
                · conv => whnf
                  conv => whnf
                  conv => whnf
                  conv => whnf
                  conv => whnf
                  refine ⟨inK64 (by omega) (by omega), ?_⟩
                  conv => whnf
                  conv => whnf
                  conv => whnf
                  conv => whnf
                  conv => whnf
                  refine ⟨_, _, ⟨⟨2, b0, b1, b2, q, _, _, by omega, hq0, (by rw [show b1 = false from hq1, ho, decide_eq_false w3]; rfl), hq2, hq, rfl, rfl⟩, by omega⟩, ⟨⟨.inl rfl, rfl, rfl, rfl⟩, ⟨⟨rfl, rfl, rfl, rfl, fun _ => rfl, fun _ _ => .inl rfl⟩, ⟨⟨rfl, rfl, rfl, rfl, fun _ => rfl, fun _ _ => .inl rfl⟩, ⟨⟨rfl, rfl, rfl, rfl, fun _ => rfl, fun _ _ => .inl rfl⟩, ⟨⟨rfl, rfl, rfl, rfl, fun _ => rfl, fun _ _ => .inl rfl⟩, ⟨⟨rfl, rfl, rfl, rfl, fun _ => rfl, fun _ _ => .inl rfl⟩, trivial⟩⟩⟩⟩⟩, trivial⟩⟩
              · have ho : oddB (a.getD 1 0) t x.c.1 = decide (siz (x.c.1 - a.getD 1 0) > t) := by rw [siz_abs]; rfl
                have hxb : x.c.1.natAbs ≤ 1000000 := hvi.1 _ (by simp)
                have h115 := S22 (x.c.1 - a.getD 1 0) (by omega)
                have hz : b01 b2 = 0 := by rw [show b2 = false from hq2]; rfl
                have ht1 : b01 true = 1 := rfl
                conv => whnf
                conv => whnf
                conv => whnf
                conv => whnf
                conv => whnf
                refine ⟨⟨(by omega), (by omega)⟩, ?_⟩
                conv => whnf
                conv => whnf
                conv => whnf
                conv => whnf
                conv => whnf
                refine ⟨inK64 (by omega) (by omega), ?_⟩
                conv => whnf
                conv => whnf
                conv => whnf
                conv => whnf
                conv => whnf
                refine .inl ⟨_, _, byX rfl (Sound1.pl (h115) rfl), ?_⟩
                conv => whnf
                conv => whnf
                conv => whnf
                conv => whnf
                conv => whnf
                refine ifB_dec (fun w3 => ?_) (fun w3 => ?_)
                · conv => whnf
                  conv => whnf
                  conv => whnf
                  conv => whnf
                  conv => whnf
                  refine ⟨⟨(by omega), (by omega)⟩, ?_⟩
                  conv => whnf
                  conv => whnf
                  conv => whnf
                  conv => whnf
                  conv => whnf
                  refine ⟨inK64 (by omega) (by omega), ?_⟩
                  conv => whnf
                  conv => whnf
                  conv => whnf
                  conv => whnf
                  conv => whnf
                  refine ⟨inK64 (by omega) (by omega), ?_⟩
                  conv => whnf
                  conv => whnf
                  conv => whnf
                  conv => whnf
                  conv => whnf
                  refine ⟨_, _, ⟨⟨3, b0, b1, true, q + 1, _, _, by omega, hq0, hq1, (by rw [ho, decide_eq_true w3]; rfl), (by omega), rfl, rfl⟩, by omega⟩, ⟨⟨.inl rfl, rfl, rfl, rfl⟩, ⟨⟨rfl, rfl, rfl, rfl, fun _ => rfl, fun _ _ => .inl rfl⟩, ⟨⟨rfl, rfl, rfl, rfl, fun _ => rfl, fun _ _ => .inl rfl⟩, ⟨⟨rfl, rfl, rfl, rfl, fun _ => rfl, fun _ _ => .inl rfl⟩, ⟨⟨rfl, rfl, rfl, rfl, fun _ => rfl, fun _ _ => .inl rfl⟩, ⟨⟨rfl, rfl, rfl, rfl, fun _ => rfl, fun _ _ => .inl rfl⟩, trivial⟩⟩⟩⟩⟩, trivial⟩⟩
                · conv => whnf
                  conv => whnf
                  conv => whnf
                  conv => whnf
                  conv => whnf
                  refine ⟨inK64 (by omega) (by omega), ?_⟩
                  conv => whnf
                  conv => whnf
                  conv => whnf
                  conv => whnf
                  conv => whnf
                  refine ⟨_, _, ⟨⟨3, b0, b1, b2, q, _, _, by omega, hq0, hq1, (by rw [show b2 = false from hq2, ho, decide_eq_false w3]; rfl), hq, rfl, rfl⟩, by omega⟩, ⟨⟨.inl rfl, rfl, rfl, rfl⟩, ⟨⟨rfl, rfl, rfl, rfl, fun _ => rfl, fun _ _ => .inl rfl⟩, ⟨⟨rfl, rfl, rfl, rfl, fun _ => rfl, fun _ _ => .inl rfl⟩, ⟨⟨rfl, rfl, rfl, rfl, fun _ => rfl, fun _ _ => .inl rfl⟩, ⟨⟨rfl, rfl, rfl, rfl, fun _ => rfl, fun _ _ => .inl rfl⟩, ⟨⟨rfl, rfl, rfl, rfl, fun _ => rfl, fun _ _ => .inl rfl⟩, trivial⟩⟩⟩⟩⟩, trivial⟩⟩
              · have e0 : b0 = oddB (a.getD 1 0) t x.a.1 := hq0
                have e1 : b1 = oddB (a.getD 1 0) t x.b.1 := hq1
                have e2 : b2 = oddB (a.getD 1 0) t x.c.1 := hq2
                rw [← e0, ← e1, ← e2, ← hq]
                conv => whnf
                conv => whnf
                conv => whnf
                conv => whnf
                conv => whnf
                refine ifB_dec (fun w3 => ?_) (fun w3 => ?_)
                · conv => whnf
                  conv => whnf
                  conv => whnf
                  conv => whnf
                  conv => whnf
                  refine ⟨?_, nofun⟩
                  rw [if_pos w3]
                  exact ave_tup2 (ave_agg4 rfl rfl rfl rfl) rfl
                · conv => whnf
                  conv => whnf
                  conv => whnf
                  conv => whnf
                  conv => whnf
                  refine ⟨?_, nofun⟩
                  rw [if_neg w3]
                  exact ave_tup2 (ave_agg4 rfl rfl rfl rfl) rfl
      · (exfalso; omega)
    · have hg : voteG x t = (vt0, votE x t) := if_pos hv
      rw [hg]
      conv => whnf
      conv => whnf
      refine .inl ⟨_, _, byX rfl (Sound1.pl (h118) rfl), ?_⟩
      conv => whnf
      conv => whnf
      refine .inl ⟨_, _, byX rfl (Sound1.pl (h93t) rfl), ?_⟩
      conv => whnf
      conv => whnf
      refine .inl ⟨_, _, byX rfl (Sound1.pl (h93n) rfl), ?_⟩
      conv => whnf
      conv => whnf
      refine .inl ⟨_, _, byX rfl (Sound1.pl (h90' _ ⟨rfl, rfl, rfl⟩) rfl), ?_⟩
      conv => whnf
      conv => whnf
      refine ifB_bne (fun w1 => ?_) (fun w1 => ?_)
      · conv => whnf
        conv => whnf
        refine ⟨?_, nofun⟩
        exact ave_tup2 (ave_agg4 rfl rfl rfl rfl) rfl
      · (exfalso; omega)
end Go.Tr

/- Plain laws: votes with one channel that is wrong; gates that follow greater deviations. Conditions: none. -/
namespace Go.Tr
open Go Go.Proofs
set_option maxRecDepth 20000
set_option maxHeartbeats 8000000

theorem tdiv_mono {a b c : Int} (hc : 0 < c) (h : a ≤ b) : a.tdiv c ≤ b.tdiv c := Int.tdiv_le_tdiv hc h
theorem beyond_mono {r : Ru} (hb : 0 ≤ r.b) {d e : Int} (h : d ≤ e) : beyond r d ≤ beyond r e := by
  unfold beyond
  (repeat' split) <;> omega
theorem want_mono {r : Ru} (hr : RuOk r) {d e : Int} (h : d ≤ e) : wantI r e ≤ wantI r d := by
  have h1 := hr.b
  have h2 := hr.n
  have h3 := hr.d
  have h4 := Int.mul_le_mul_of_nonneg_left (beyond_mono h1.1 h) h2.1
  have h5 := tdiv_mono (c := r.d) (by omega) h4
  unfold wantI
  omega
theorem step_mono {a b l h r v w : Int} (hlh : l ≤ h) (hr : 0 ≤ r) (h1 : a ≤ b) (h2 : v ≤ w) : stepI ⟨a, l, h, r⟩ v ≤ stepI ⟨b, l, h, r⟩ w := by
  unfold stepI goalI
  dsimp only
  (repeat' split) <;> omega
/-- A gate that follows smaller deviations is never below one that follows greater ones. -/
theorem run_mono {r : Ru} (hr : RuOk r) {l h rt : Int} (hlh : l ≤ h) (hrt : 0 ≤ rt) : ∀ (A B : List Int) (a b : Int), A.length = B.length → (∀ i, i < A.length → A.getD i 0 ≤ B.getD i 0) → b ≤ a → ∀ i, i < A.length → (runL r ⟨b, l, h, rt⟩ B).getD i 0 ≤ (runL r ⟨a, l, h, rt⟩ A).getD i 0
  | [], _, _, _, _, _, _, i, hi => absurd hi (Nat.not_lt_zero i)
  | x :: A, [], _, _, hl, _, _, _, _ => by simp at hl
  | x :: A, y :: B, a, b, hl, hp, hab, i, hi => by
    have hxy : x ≤ y := hp 0 (by simp)
    have hs := step_mono (l := l) (h := h) (r := rt) hlh hrt hab (want_mono hr hxy)
    match i, hi with
    | 0, _ => exact hs
    | i + 1, hi => exact run_mono hr hlh hrt A B _ _ (by simpa using hl) (fun j hj => hp (j + 1) (by simpa using hj)) hs i (by simpa using hi)
/-- Three channels with numbers. -/
def r3 (u v w : Int) : R3 := ⟨(u, false), (v, false), (w, false)⟩
theorem vot0 {u v w t : Int} (hu : u.natAbs ≤ 1000000) (hv : v.natAbs ≤ 1000000) (hw : w.natAbs ≤ 1000000) (ht : 0 ≤ t ∧ t ≤ 1000000) : votE (r3 u v w) t = 0 := by
  have e1 : rdE (u, false) = 0 := by unfold rdE; rw [if_neg (by simp), if_pos (by dsimp only; omega)]
  have e2 : rdE (v, false) = 0 := by unfold rdE; rw [if_neg (by simp), if_pos (by dsimp only; omega)]
  have e3 : rdE (w, false) = 0 := by unfold rdE; rw [if_neg (by simp), if_pos (by dsimp only; omega)]
  have hr : rdsE (r3 u v w) = 0 := by
    unfold rdsE r3 R3.l
    dsimp only
    rw [eachD, if_pos e1, eachD, if_pos e2, eachD, if_pos e3]
    rfl
  have hp : presL (r3 u v w).l = [u, v, w] := rfl
  unfold votE tolE
  rw [first3, hr, if_pos ht, hp]
  rfl
theorem vote3 {u v w t : Int} (hu : u.natAbs ≤ 1000000) (hv : v.natAbs ≤ 1000000) (hw : w.natAbs ≤ 1000000) (ht : 0 ≤ t ∧ t ≤ 1000000) (hc : b01 (oddB (midI u v w) t u) + b01 (oddB (midI u v w) t v) + b01 (oddB (midI u v w) t w) ≤ 1) : (voteG (r3 u v w) t).2 = 0 ∧ (voteG (r3 u v w) t).1.1 = midI u v w := by
  have h0 := vot0 hu hv hw ht
  have hp : presL (r3 u v w).l = [u, v, w] := rfl
  unfold voteG
  rw [if_neg (not_not_intro h0), hp, if_neg (by show ¬ (3 : Nat) = 2; decide), if_neg (by show ¬ b01 (oddB (midI u v w) t u) + b01 (oddB (midI u v w) t v) + b01 (oddB (midI u v w) t w) > 1; omega)]
  exact ⟨rfl, rfl⟩
theorem b01_le (b : Bool) : b01 b ≤ 1 := by cases b <;> decide
theorem odd0 {m t z : Int} (h : ((z - m).natAbs : Int) ≤ t) : b01 (oddB m t z) = 0 := by
  unfold oddB
  rw [decide_eq_false (by omega)]
  rfl
theorem mid_in (u v w : Int) : (min u v ≤ midI w u v ∧ midI w u v ≤ max u v) ∧ (min u v ≤ midI v w u ∧ midI v w u ≤ max u v) ∧ (min u v ≤ midI u v w ∧ midI u v w ≤ max u v) := by
  unfold midI
  omega
/-- With one channel that is wrong the vote lies between the two right ones. -/
theorem vote_odd {u v w t : Int} (hu : u.natAbs ≤ 1000000) (hv : v.natAbs ≤ 1000000) (hw : w.natAbs ≤ 1000000) (ht : 0 ≤ t ∧ t ≤ 1000000) (h : ((u - v).natAbs : Int) ≤ t) :
    ((voteG (r3 w u v) t).2 = 0 ∧ min u v ≤ (voteG (r3 w u v) t).1.1 ∧ (voteG (r3 w u v) t).1.1 ≤ max u v) ∧
    ((voteG (r3 v w u) t).2 = 0 ∧ min u v ≤ (voteG (r3 v w u) t).1.1 ∧ (voteG (r3 v w u) t).1.1 ≤ max u v) ∧
    ((voteG (r3 u v w) t).2 = 0 ∧ min u v ≤ (voteG (r3 u v w) t).1.1 ∧ (voteG (r3 u v w) t).1.1 ≤ max u v) := by
  obtain ⟨m1, m2, m3⟩ := mid_in u v w
  have k1 := vote3 hw hu hv ht (by
    have a := odd0 (m := midI w u v) (t := t) (z := u) (by omega)
    have b := odd0 (m := midI w u v) (t := t) (z := v) (by omega)
    have c := b01_le (oddB (midI w u v) t w)
    omega)
  have k2 := vote3 hv hw hu ht (by
    have a := odd0 (m := midI v w u) (t := t) (z := u) (by omega)
    have b := odd0 (m := midI v w u) (t := t) (z := v) (by omega)
    have c := b01_le (oddB (midI v w u) t w)
    omega)
  have k3 := vote3 hu hv hw ht (by
    have a := odd0 (m := midI u v w) (t := t) (z := u) (by omega)
    have b := odd0 (m := midI u v w) (t := t) (z := v) (by omega)
    have c := b01_le (oddB (midI u v w) t w)
    omega)
  rw [k1.2, k2.2, k3.2]
  exact ⟨⟨k1.1, m1⟩, ⟨k2.1, m2⟩, k3.1, m3⟩
end Go.Tr

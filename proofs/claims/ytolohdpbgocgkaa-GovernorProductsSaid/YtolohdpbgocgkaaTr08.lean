/- Contracts of chapter 6: what all share; its examples. Conditions: none. -/
import Derived.Test.YtolohdpbgocgkaaTr06
import Derived.Test.YtolohdpbgocgkaaTr07
import Derived.Test.YtolohdpbgocgkaaProg
set_option linter.unusedSectionVars false
set_option linter.unnecessarySimpa false
set_option linter.unusedVariables false
set_option linter.unusedSimpArgs false

namespace Go.Tr
open Go Go.Proofs

abbrev i64 (n : Int) : AV := .val (.int .i64 n)
abbrev vb (b : Bool) : AV := .val (.bool b)
theorem mixed2 : Try.prog.follows .mixedOrders = true := by kernel_rfl
instance gtab : GTab := ⟨fun _ => none⟩
set_option maxRecDepth 20000
set_option maxHeartbeats 8000000
abbrev SP := Sound1 Try.prog
/-- The kinds of the types that are compared. -/
def K2 (t : Nat) : Option (List LK) :=
  bif Nat.beq t 67 then some [.int .i64, .int .i64] else bif Nat.beq t 50 then some [.int .i64, .bool, .bool, .bool] else bif Nat.beq t 48 then some [.bool, .bool, .bool] else none
theorem tok2 : TOK Try.prog (TK Try.prog K2) := TOK_TK fun t ks h => by
  unfold K2 at h
  cases e0 : Nat.beq t 67 with
  | true => rw [e0] at h; cases h; cases Nat.eq_of_beq_eq_true e0; exact ⟨_, Try.underlying67, by kernel_rfl⟩
  | false =>
  rw [e0] at h
  cases e1 : Nat.beq t 50 with
  | true => rw [e1] at h; cases h; cases Nat.eq_of_beq_eq_true e1; exact ⟨_, Try.underlying50, by kernel_rfl⟩
  | false =>
  rw [e1] at h
  cases e2 : Nat.beq t 48 with
  | true => rw [e2] at h; cases h; cases Nat.eq_of_beq_eq_true e2; exact ⟨_, Try.underlying48, by kernel_rfl⟩
  | false => rw [e2] at h; cases h

theorem run47 : Run.ok Try.prog ⟨9, [.agg [i64 2, i64 1, i64 2, i64 50], i64 7], .tuple [i64 48, i64 0]⟩ := run_ok mixed2 (l := []) (by simp) 1000 60 (by kernel_rfl)
def intsV (l : List Int) : AV := .rslice 1 l.length fun i => [i64 (l.getD i 0)]
def boxE : AV := .agg [.rslice 2 4 fun i => [[i64 1, i64 1], [i64 2, i64 3], [i64 3, i64 4], [i64 1, i64 2]].getD i []]
theorem run20 : Run.ok Try.prog ⟨11, [intsV [1, 2, 3, 1], intsV [0, 1, 2, 3]], .tuple [intsV [0, 1, 2, 2], i64 0]⟩ := run_ok mixed2 (l := []) (by simp) 1000 60 (by kernel_rfl)
theorem run30 : Run.ok Try.prog ⟨12, [boxE], .tuple [vb true, i64 0]⟩ := run_ok mixed2 (l := []) (by simp) 1000 60 (by kernel_rfl)
theorem run70 : Run.ok Try.prog ⟨16, [.agg [i64 100, vb false, i64 103, vb false, i64 200, vb false], i64 5], .tuple [.agg [i64 103, vb false, vb false, vb true], i64 0]⟩ := run_ok mixed2 (l := []) (by simp) 1000 60 (by kernel_rfl)
theorem S4 : SP 4 [] (vb true) false := run_ok mixed2 (l := [⟨9, [.agg [i64 2, i64 1, i64 2, i64 50], i64 7], .tuple [i64 48, i64 0]⟩, ⟨11, [intsV [1, 2, 3, 1], intsV [0, 1, 2, 3]], .tuple [intsV [0, 1, 2, 2], i64 0]⟩, ⟨12, [boxE], .tuple [vb true, i64 0]⟩,
  ⟨16, [.agg [i64 100, vb false, i64 103, vb false, i64 200, vb false], i64 5], .tuple [.agg [i64 103, vb false, vb false, vb true], i64 0]⟩]) (by
    intro x hx
    simp only [List.mem_cons, List.not_mem_nil, or_false] at hx
    rcases hx with rfl | rfl | rfl | rfl
    · exact run47
    · exact run20
    · exact run30
    · exact run70) 1000 60 (by kernel_rfl)
end Go.Tr

/- Contracts of chapter 6: small functions; gates and rules. Conditions: none. -/
namespace Go.Tr
open Go Go.Proofs
set_option maxRecDepth 20000
set_option maxHeartbeats 8000000

def firstOf : List Int → Int
  | [] => 0
  | x :: r => if x = 0 then firstOf r else x
theorem firstOf_drop (l : List Int) (k : Nat) (h : k < l.length) : firstOf (l.drop k) = if l.getD k 0 = 0 then firstOf (l.drop (k+1)) else l.getD k 0 := by
  rw [List.drop_eq_getElem_cons h, firstOf]; simp [List.getD, h]
def ints (l : List Int) : AV := .rslice 1 l.length fun i => [i64 (l.getD i 0)]
theorem endi {a b : Int} (h : a = b) : i64 a = i64 b := congrArg (fun x => i64 x) h
theorem endb {a b : Bool} (h : a = b) : vb a = vb b := congrArg (fun x => vb x) h
theorem first2 (a b : Int) : firstOf [a, b] = if a ≠ 0 then a else b := by
  unfold firstOf firstOf firstOf
  by_cases h : a = 0
  · subst h; by_cases h2 : b = 0 <;> simp [h2]
  · simp [h]
theorem first3 (a b c : Int) : firstOf [a, b, c] = if a ≠ 0 then a else if b ≠ 0 then b else c := by
  unfold firstOf
  by_cases h : a = 0
  · rw [if_pos h, if_neg (by simpa using h)]; exact first2 b c
  · rw [if_neg h, if_pos h]

/-- Is a number within bounds? -/
def win (x a b : Int) : Bool := decide (a ≤ x ∧ x ≤ b)
theorem S42 (x a b : Int) : SP 42 [i64 x, i64 a, i64 b] (vb (win x a b)) false := by
  refine sound (d := 2) tok2 mixed2 Try.func42 (by kernel_rfl) (by kernel_rfl) ?_
  unfold win
  conv => whnf
  refine ifB_dec (fun w1 => ?_) (fun w1 => ?_)
  · conv => whnf
    refine ⟨?_, nofun⟩
    exact endb (decide_eq_decide.2 ⟨fun h => ⟨w1, h⟩, fun h => h.2⟩)
  · conv => whnf
    refine ⟨?_, nofun⟩
    exact endb (decide_eq_false fun h => w1 h.1).symm
theorem S19 (x a b : Int) : SP 19 [i64 x, i64 a, i64 b] (vb (win x a b)) false := by
  refine sound (d := 2) tok2 mixed2 Try.func19 (by kernel_rfl) (by kernel_rfl) ?_
  unfold win
  conv => whnf
  refine ifB_dec (fun w1 => ?_) (fun w1 => ?_)
  · conv => whnf
    refine ⟨?_, nofun⟩
    exact endb (decide_eq_decide.2 ⟨fun h => ⟨w1, h⟩, fun h => h.2⟩)
  · conv => whnf
    refine ⟨?_, nofun⟩
    exact endb (decide_eq_false fun h => w1 h.1).symm
theorem S41 (x b : Int) (h1 : -9223372036854775807 ≤ b ∧ b ≤ 9223372036854775807) : SP 41 [i64 x, i64 b] (vb (win x (-b) b)) false := by
  have h := S42 x (-b) b
  refine sound (d := 2) tok2 mixed2 Try.func41 (by kernel_rfl) (by kernel_rfl) ?_
  conv => whnf
  refine ⟨inK64 (by omega) (by omega), ?_⟩
  conv => whnf
  refine .inl ⟨_, _, byX rfl (Sound1.pl (h) rfl), ?_⟩
  conv => whnf
  refine ⟨?_, nofun⟩
  rfl
def siz (x : Int) : Int := if -x > x then -x else x
theorem S44 (x : Int) (h : -9223372036854775807 ≤ x ∧ x ≤ 9223372036854775807) : SP 44 [i64 x] (i64 (siz x)) false := by
  refine sound (d := 2) tok2 mixed2 Try.func44 (by kernel_rfl) (by kernel_rfl) ?_
  conv => whnf
  refine ⟨inK64 (by omega) (by omega), ?_⟩
  conv => whnf
  refine ⟨?_, nofun⟩
  rfl
theorem S26 (c : Bool) (e : Int) : SP 26 [vb c, i64 e] (i64 (if c then 0 else e)) false := by
  refine sound (d := 2) tok2 mixed2 Try.func26 (by kernel_rfl) (by kernel_rfl) ?_
  cases c with
  | true =>
    conv => whnf
    refine ⟨?_, nofun⟩
    rfl
  | false =>
    conv => whnf
    refine ⟨?_, nofun⟩
    rfl
theorem S22 (l : List Int) (hl : l.length ≤ 1000000000) : SP 22 [ints l] (i64 (firstOf l)) false := by
  refine sound (d := 2) tok2 mixed2 Try.func22 (by kernel_rfl) (by kernel_rfl) ?_
  conv => whnf
  refine ⟨[], [5, 6, 7], fun st mq => ∃ (k : Nat), (k ≤ l.length) ∧ (firstOf (l.drop k) = firstOf l) ∧ st = ⟨[(5, ints l), (6, i64 l.length), (7, i64 k)], ⟨[], [], none, 0⟩, []⟩ ∧ mq = l.length - k,
    ⟨_, _, ⟨0, by omega, rfl, rfl, rfl⟩, ⟨⟨.inl rfl, rfl, rfl, rfl⟩, trivial, trivial⟩⟩, ?_⟩
  rintro s0 m0 ⟨k, hk, hf, rfl, hmeas⟩
  by_cases hlt : k < l.length
  · have hd := firstOf_drop l k hlt
    conv => whnf
    conv => whnf
    refine ifB_dec (fun w1 => ?_) (fun w1 => ?_)
    · conv => whnf
      conv => whnf
      refine ⟨⟨(by omega), (by omega)⟩, ?_⟩
      conv => whnf
      conv => whnf
      refine ifB_bne (fun w2 => ?_) (fun w2 => ?_)
      · conv => whnf
        conv => whnf
        refine ⟨?_, nofun⟩
        rw [if_neg (show ¬ l.getD k 0 = 0 from w2)] at hd
        show i64 _ = i64 _
        rw [← hf, hd]; rfl
      · conv => whnf
        conv => whnf
        refine ⟨inK64 (by omega) (by omega), ?_⟩
        rw [if_pos (show l.getD k 0 = 0 from w2)] at hd
        conv => whnf
        conv => whnf
        refine ⟨_, _, ⟨⟨k + 1, by omega, hd.symm.trans hf, rfl, rfl⟩, by omega⟩, ⟨⟨.inl rfl, rfl, rfl, rfl⟩, trivial, trivial⟩⟩
    · (exfalso; omega)
  · have e : k = l.length := by omega
    subst e
    conv => whnf
    conv => whnf
    refine ifB_dec (fun w1 => ?_) (fun w1 => ?_)
    · (exfalso; omega)
    · conv => whnf
      conv => whnf
      refine ⟨?_, nofun⟩
      simp [firstOf] at hf
      show i64 _ = i64 _
      rw [← hf]
end Go.Tr

/- Values equal in depth. Conditions: none. -/
namespace Go.Tr
open Go
variable [GTab]

/-- Equal as far as it can be seen, in depth. -/
def AVF : Nat → AV → AV → Prop
  | 0, _, _ => False
  | n + 1, .rslice es len f, .rslice es' len' g => es = es' ∧ len = len' ∧ ∀ i, i < len → (f i).length = (g i).length ∧ ∀ j x y, nth? (f i) j = some x → nth? (g i) j = some y → x = y ∨ AVF n x y
  | _ + 1, .eslice, .rslice _ len _ => len = 0
  | n + 1, .agg l, .agg l' => l.length = l'.length ∧ ∀ i x y, nth? l i = some x → nth? l' i = some y → x = y ∨ AVF n x y
  | n + 1, .tuple l, .tuple l' => l.length = l'.length ∧ ∀ i x y, nth? l i = some x → nth? l' i = some y → x = y ∨ AVF n x y
  | _ + 1, x, y => x = y
theorem AVF_ok {P : Program} {w : World} {p : Nat → Prop} : ∀ (k : Nat) {x y : AV} {v : Value}, AVF k x y → VT P w p x v → VT P w p y v
  | 0, x, y, v, h, _ => h.elim
  | k + 1, x, y, v, h, hx => by
    have eqc : x = y → VT P w p y v := fun e => e ▸ hx
    have list : ∀ (l l' : List AV) (vs : Array Value), l.length = l'.length → (∀ i x y, nth? l i = some x → nth? l' i = some y → x = y ∨ AVF k x y) → (∀ i x, l[i]? = some x → VT P w p x (vs.getD i undef)) → ∀ i x, l'[i]? = some x → VT P w p x (vs.getD i undef) := by
      intro l l' vs hl he hv i x hi
      have hlt : i < l.length := by rw [hl]; exact (List.getElem?_eq_some_iff.1 hi).1
      have hvi := hv i _ (List.getElem?_eq_getElem hlt)
      rcases he i _ _ (by rw [nth?_eq]; exact List.getElem?_eq_getElem hlt) (by rw [nth?_eq]; exact hi) with e | e
      · rw [← e]; exact hvi
      · exact AVF_ok k e hvi
    cases x with
    | rslice es len f =>
      cases y with
      | rslice es' len' g =>
        obtain ⟨rfl, rfl, hf⟩ := h
        cases hx with
        | rslice0 => exact .rslice0 _ _ _ _
        | rslice _ _ _ b off kk gg h1 h2 h3 h4 h5 =>
          refine .rslice _ _ _ b off kk gg h1 h2 (fun i hi => by rw [← (hf i hi).1]; exact h3 i hi) h4 (fun i j y hi hy => ?_)
          have hl := (hf i hi).1
          have hlt : j < (f i).length := by rw [hl]; exact (List.getElem?_eq_some_iff.1 hy).1
          have hvi := h5 i j _ hi (List.getElem?_eq_getElem hlt)
          rcases (hf i hi).2 j _ y (by rw [nth?_eq]; exact List.getElem?_eq_getElem hlt) (by rw [nth?_eq]; exact hy) with e | e
          · rw [← e]; exact hvi
          · exact AVF_ok k e hvi
      | _ => exact eqc h
    | eslice =>
      cases y with
      | rslice es' len' g =>
        have h : len' = 0 := h
        subst h
        cases hx with
        | eslice a => exact .rslice0 _ _ _ _
      | _ => exact eqc h
    | agg l =>
      cases y with
      | agg l' =>
        obtain ⟨h1, h2⟩ := h
        cases hx with
        | agg _ vs g1 g2 g3 => exact .agg l' vs (by rw [← h1]; exact g1) g2 (list l l' vs h1 h2 g3)
      | _ => exact eqc h
    | tuple l =>
      cases y with
      | tuple l' =>
        obtain ⟨h1, h2⟩ := h
        cases hx with
        | tuple _ vs g1 g3 => exact .tuple l' vs (by rw [← h1]; exact g1) (list l l' vs h1 h2 g3)
      | _ => exact eqc h
    | _ => cases y <;> exact eqc h
theorem Sound1.argsD {P : Program} {f : FuncId} {xs ys : List AV} {r : AV} {fr : Bool} (h : Sound1 P f xs r fr) (hl : ys.length = xs.length) (hx : ∀ i y x, nth? ys i = some y → nth? xs i = some x → y = x ∨ ∃ k, AVF k y x) : Sound1 P f ys r fr := by
  refine ⟨h.1, fun w q vs hq hg hs hv => h.2 w q vs hq hg (hs.trans hl) fun i x hi => ?_⟩
  have hlt : i < ys.length := by rw [hl]; exact (List.getElem?_eq_some_iff.1 hi).1
  have hvi := hv i _ (List.getElem?_eq_getElem hlt)
  rcases hx i _ x (by rw [nth?_eq]; exact List.getElem?_eq_getElem hlt) (by rw [nth?_eq]; exact hi) with e | ⟨k, hk⟩
  · rw [← e]; exact hvi
  · exact AVF_ok k hk hvi
theorem AVF_rows {es n n' : Nat} {f g : Nat → List AV} (hn : n = n') (h : ∀ i, i < n → f i = g i) (k : Nat) : AVF (k + 1) (.rslice es n f) (.rslice es n' g) := by
  refine ⟨rfl, hn, fun i hi => ⟨by rw [h i hi], fun j x y hx hy => .inl ?_⟩⟩
  rw [h i hi] at hx
  exact Option.some.inj (hx.symm.trans hy)
end Go.Tr

/- Contracts of chapter 6: gates and rules. Conditions: none. -/
namespace Go.Tr
open Go Go.Proofs
set_option maxRecDepth 20000
set_option maxHeartbeats 8000000

theorem S22_2 (a b : Int) {f : Nat → List AV} (h : f 0 = [i64 a] ∧ f 1 = [i64 b]) : SP 22 [.rslice 1 2 f] (i64 (firstOf [a, b])) false := by
  have key : ∀ i, i < 2 → f i = [i64 (([a, b] : List Int).getD i 0)] := fun i hi => by
    match i, hi with
    | 0, _ => exact h.1
    | 1, _ => exact h.2
  refine (S22 [a, b] (by simp)).argsD rfl fun i y x hy hx => ?_
  match i, hy, hx with
  | 0, hy, hx => cases hy; cases hx; exact .inr ⟨1, AVF_rows rfl key 0⟩
theorem S22_3 (a b c : Int) {f : Nat → List AV} (h : f 0 = [i64 a] ∧ f 1 = [i64 b] ∧ f 2 = [i64 c]) : SP 22 [.rslice 1 3 f] (i64 (firstOf [a, b, c])) false := by
  have key : ∀ i, i < 3 → f i = [i64 (([a, b, c] : List Int).getD i 0)] := fun i hi => by
    match i, hi with
    | 0, _ => exact h.1
    | 1, _ => exact h.2.1
    | 2, _ => exact h.2.2
  refine (S22 [a, b, c] (by simp)).argsD rfl fun i y x hy hx => ?_
  match i, hy, hx with
  | 0, hy, hx => cases hy; cases hx; exact .inr ⟨1, AVF_rows rfl key 0⟩
/-- A gate: where it is, its limits, its rate; rules: band, fraction, set point. -/
structure Gt where
  a : Int
  l : Int
  h : Int
  r : Int
structure Ru where
  b : Int
  n : Int
  d : Int
  s : Int
abbrev gtA (g : Gt) : AV := .agg [i64 g.a, i64 g.l, i64 g.h, i64 g.r]
abbrev ruA (r : Ru) : AV := .agg [i64 r.b, i64 r.n, i64 r.d, i64 r.s]
def gateE (g : Gt) : Int :=
  if (0 ≤ g.l ∧ g.l ≤ 10000) ∧ (0 ≤ g.h ∧ g.h ≤ 10000) ∧ (0 ≤ g.a ∧ g.a ≤ 10000) ∧ (1 ≤ g.r ∧ g.r ≤ 10000) then (if g.l ≤ g.h then (if g.l ≤ g.a ∧ g.a ≤ g.h then 0 else 22) else 9) else 2
def rulesE (r : Ru) : Int := if (0 ≤ r.b ∧ r.b ≤ 100000) ∧ (0 ≤ r.n ∧ r.n ≤ 1000) ∧ (1 ≤ r.d ∧ r.d ≤ 1000) ∧ (0 ≤ r.s ∧ r.s ≤ 10000) then 0 else 2
def speedE (n : Int) : Int := if -100000 ≤ n ∧ n ≤ 100000 then 0 else 2
theorem S49 (x : Int) : SP 49 [i64 x] (vb (win x 0 10000)) false := by
  have h := S42 x 0 10000
  refine sound (d := 2) tok2 mixed2 Try.func49 (by kernel_rfl) (by kernel_rfl) ?_
  conv => whnf
  refine .inl ⟨_, _, byX rfl (Sound1.pl (h) rfl), ?_⟩
  conv => whnf
  refine ⟨?_, nofun⟩
  rfl
theorem S24 (n : Int) : SP 24 [i64 n] (i64 (speedE n)) false := by
  have h := S41 n 100000
  have h93 := S26 (win n (-100000) 100000) 2
  refine sound (d := 2) tok2 mixed2 Try.func24 (by kernel_rfl) (by kernel_rfl) ?_
  conv => whnf
  refine .inl ⟨_, _, byX rfl (Sound1.pl (h (by omega)) rfl), ?_⟩
  conv => whnf
  refine .inl ⟨_, _, byX rfl (Sound1.pl (h93) rfl), ?_⟩
  conv => whnf
  refine ⟨?_, nofun⟩
  exact endi (by unfold speedE win; simp)
theorem S23 (r : Ru) : SP 23 [ruA r] (i64 (rulesE r)) false := by
  refine sound (d := 2) tok2 mixed2 Try.func23 (by kernel_rfl) (by kernel_rfl) ?_
  conv => whnf
  refine .inl ⟨_, _, byX rfl (Sound1.pl (S42 _ _ _) rfl), ?_⟩
  conv => whnf
  refine ifB_dec (fun w1 => ?_) (fun w1 => ?_)
  · conv => whnf
    refine .inl ⟨_, _, byX rfl (Sound1.pl (S42 _ _ _) rfl), ?_⟩
    conv => whnf
    refine ifB_dec (fun w2 => ?_) (fun w2 => ?_)
    · conv => whnf
      refine .inl ⟨_, _, byX rfl (Sound1.pl (S42 _ _ _) rfl), ?_⟩
      conv => whnf
      refine ifB_dec (fun w3 => ?_) (fun w3 => ?_)
      · conv => whnf
        refine .inl ⟨_, _, byX rfl (Sound1.pl (S49 _) rfl), ?_⟩
        conv => whnf
        refine .inl ⟨_, _, byX rfl (Sound1.pl (S26 _ _) rfl), ?_⟩
        conv => whnf
        refine ⟨?_, nofun⟩
        (exact endi (by unfold rulesE win; simp only [decide_eq_true_eq]; (repeat' split) <;> first | omega | contradiction | simp_all))
      · conv => whnf
        refine .inl ⟨_, _, byX rfl (Sound1.pl (S26 _ _) rfl), ?_⟩
        conv => whnf
        refine ⟨?_, nofun⟩
        (exact endi (by unfold rulesE; (repeat' split) <;> first | omega | contradiction | simp_all))
    · conv => whnf
      refine .inl ⟨_, _, byX rfl (Sound1.pl (S26 _ _) rfl), ?_⟩
      conv => whnf
      refine ⟨?_, nofun⟩
      (exact endi (by unfold rulesE; (repeat' split) <;> first | omega | contradiction | simp_all))
  · conv => whnf
    refine .inl ⟨_, _, byX rfl (Sound1.pl (S26 _ _) rfl), ?_⟩
    conv => whnf
    refine ⟨?_, nofun⟩
    (exact endi (by unfold rulesE; (repeat' split) <;> first | omega | contradiction | simp_all))
end Go.Tr

/- Contracts of chapter 6: the wanted position, steps of a gate. Conditions: none. -/
namespace Go.Tr
open Go Go.Proofs
set_option maxRecDepth 20000
set_option maxHeartbeats 8000000

theorem ave_tup2 {k : Nat} {a b a' b' : AV} (ha : AVE k a a') (hb : AVE k b b') : AVE (k + 1) (.tuple [a, b]) (.tuple [a', b']) := by
  refine ⟨rfl, fun i x y hx hy => ?_⟩
  match i, hx, hy with
  | 0, hx, hy => cases hx; cases hy; exact ha
  | 1, hx, hy => cases hx; cases hy; exact hb
theorem ave_tup3 {k : Nat} {a b c a' b' c' : AV} (ha : AVE k a a') (hb : AVE k b b') (hc : AVE k c c') : AVE (k + 1) (.tuple [a, b, c]) (.tuple [a', b', c']) := by
  refine ⟨rfl, fun i x y hx hy => ?_⟩
  match i, hx, hy with
  | 0, hx, hy => cases hx; cases hy; exact ha
  | 1, hx, hy => cases hx; cases hy; exact hb
  | 2, hx, hy => cases hx; cases hy; exact hc
theorem ave_agg2 {k : Nat} {a b a' b' : AV} (ha : AVE k a a') (hb : AVE k b b') : AVE (k + 1) (.agg [a, b]) (.agg [a', b']) := by
  refine ⟨rfl, fun i x y hx hy => ?_⟩
  match i, hx, hy with
  | 0, hx, hy => cases hx; cases hy; exact ha
  | 1, hx, hy => cases hx; cases hy; exact hb
theorem ave_agg4 {k : Nat} {a b c d a' b' c' d' : AV} (ha : AVE k a a') (hb : AVE k b b') (hc : AVE k c c') (hd : AVE k d d') : AVE (k + 1) (.agg [a, b, c, d]) (.agg [a', b', c', d']) := by
  refine ⟨rfl, fun i x y hx hy => ?_⟩
  match i, hx, hy with
  | 0, hx, hy => cases hx; cases hy; exact ha
  | 1, hx, hy => cases hx; cases hy; exact hb
  | 2, hx, hy => cases hx; cases hy; exact hc
  | 3, hx, hy => cases hx; cases hy; exact hd
structure GtOk (g : Gt) : Prop where
  l : 0 ≤ g.l ∧ g.l ≤ 10000
  h : 0 ≤ g.h ∧ g.h ≤ 10000
  a : 0 ≤ g.a ∧ g.a ≤ 10000
  r : 1 ≤ g.r ∧ g.r ≤ 10000
  lh : g.l ≤ g.h
  la : g.l ≤ g.a ∧ g.a ≤ g.h
theorem GtOk.of {g : Gt} (h : gateE g = 0) : GtOk g := by
  unfold gateE at h
  (repeat' split at h) <;> first | omega | skip
  rename_i h1 h2 h3
  exact ⟨h1.1, h1.2.1, h1.2.2.1, h1.2.2.2, h2, h3⟩
structure RuOk (r : Ru) : Prop where
  b : 0 ≤ r.b ∧ r.b ≤ 100000
  n : 0 ≤ r.n ∧ r.n ≤ 1000
  d : 1 ≤ r.d ∧ r.d ≤ 1000
  s : 0 ≤ r.s ∧ r.s ≤ 10000
theorem RuOk.of {r : Ru} (h : rulesE r = 0) : RuOk r := by
  unfold rulesE at h
  split at h
  · rename_i h1; exact ⟨h1.1, h1.2.1, h1.2.2.1, h1.2.2.2⟩
  · omega
theorem speed_ok {n : Int} (h : speedE n = 0) : -100000 ≤ n ∧ n ≤ 100000 := by
  unfold speedE at h
  split at h
  · assumption
  · omega
/-- By how much a deviation lies beyond the dead band; the wanted position. -/
def beyond (r : Ru) (d : Int) : Int := if d > r.b then d - r.b else if d < -r.b then d + r.b else 0
def wantI (r : Ru) (d : Int) : Int := r.s - (r.n * beyond r d).tdiv r.d
theorem tdiv_le {a b : Int} (hb : 1 ≤ b) : -(a.natAbs : Int) ≤ a.tdiv b ∧ a.tdiv b ≤ (a.natAbs : Int) := by
  have h : (a.tdiv b).natAbs ≤ a.natAbs := Int.natAbs_tdiv_le_natAbs a b
  omega
theorem beyond_le {r : Ru} (hr : RuOk r) {d : Int} (hd : -100000 ≤ d ∧ d ≤ 100000) : -100000 ≤ beyond r d ∧ beyond r d ≤ 100000 := by
  have := hr.b
  unfold beyond
  (repeat' split) <;> omega
theorem mulb {a b A B : Int} (ha : 0 ≤ a ∧ a ≤ A) (hb : -B ≤ b ∧ b ≤ B) (hB : 0 ≤ B) : -(A * B) ≤ a * b ∧ a * b ≤ A * B := by
  have h1 : a * B ≤ A * B := Int.mul_le_mul_of_nonneg_right ha.2 hB
  have h2 : a * b ≤ a * B := Int.mul_le_mul_of_nonneg_left hb.2 ha.1
  have h3 : a * (-B) ≤ a * b := Int.mul_le_mul_of_nonneg_left hb.1 ha.1
  rw [Int.mul_neg] at h3
  omega
theorem prod_le {r : Ru} (hr : RuOk r) {d : Int} (hd : -100000 ≤ d ∧ d ≤ 100000) : -100000000 ≤ r.n * beyond r d ∧ r.n * beyond r d ≤ 100000000 := by
  have := mulb hr.n (beyond_le hr hd) (by decide)
  omega
theorem want_le {r : Ru} (hr : RuOk r) {d : Int} (hd : -100000 ≤ d ∧ d ≤ 100000) : -100010000 ≤ wantI r d ∧ wantI r d ≤ 100010000 := by
  have h1 := prod_le hr hd
  have h2 := tdiv_le (a := r.n * beyond r d) hr.d.1
  have := hr.s
  unfold wantI
  omega
theorem S25 (r : Ru) (hr : RuOk r) (d : Int) (hd : -100000 ≤ d ∧ d ≤ 100000) : SP 25 [ruA r, i64 d] (i64 (wantI r d)) false := by
  have hb : (if d - r.b > 0 then d - r.b else 0) + (if d + r.b < 0 then d + r.b else 0) = beyond r d := by
    have := hr.b
    unfold beyond
    (repeat' split) <;> omega
  have h1 := prod_le hr hd
  have h2 := tdiv_le (a := r.n * beyond r d) hr.d.1
  have hs := hr.s
  have hrb := hr.b
  have hrd := hr.d
  unfold wantI
  rw [← hb] at h1 h2 ⊢
  refine sound (d := 2) tok2 mixed2 Try.func25 (by kernel_rfl) (by kernel_rfl) ?_
  conv => whnf
  refine ⟨inK64 (by omega) (by omega), ?_⟩
  conv => whnf
  refine ⟨inK64 (by omega) (by omega), ?_⟩
  conv => whnf
  refine ⟨inK64 (by omega) (by omega), ?_⟩
  conv => whnf
  refine ⟨[], by kernel_rfl, ?_⟩
  conv => whnf
  refine ⟨inK64 (by omega) (by omega), ?_⟩
  conv => whnf
  refine ⟨⟨(by omega), inK64 (by omega) (by omega)⟩, ?_⟩
  conv => whnf
  refine ⟨inK64 (by omega) (by omega), ?_⟩
  conv => whnf
  refine ⟨?_, nofun⟩
  rfl
theorem want_hi {r : Ru} {d : Int} (h : d > r.b) : wantI r d = r.s - (r.n * (d - r.b)).tdiv r.d := by
  unfold wantI beyond
  rw [if_pos h]
theorem want_lo {r : Ru} (hr : RuOk r) {d : Int} (h : d < -r.b) : wantI r d = r.s + (r.n * (-d - r.b)).tdiv r.d := by
  have := hr.b
  unfold wantI beyond
  rw [if_neg (by omega), if_pos h, show d + r.b = -(-d - r.b) by omega, Int.mul_neg, Int.neg_tdiv]
  omega
theorem want_mid {r : Ru} {d : Int} (h1 : ¬ d > r.b) (h2 : ¬ d < -r.b) : wantI r d = r.s := by
  unfold wantI beyond
  rw [if_neg h1, if_neg h2, Int.mul_zero, Int.zero_tdiv]
  omega
def wantT (r : Ru) (d : Int) : AV := .tuple [i64 (if firstOf [rulesE r, speedE d] = 0 then wantI r d else 0), i64 (firstOf [rulesE r, speedE d])]
theorem S9 (r : Ru) (d : Int) : SP 9 [ruA r, i64 d] (wantT r d) false := by
  have h90 := fun a b => @S22_2 a b
  unfold wantT
  by_cases h : firstOf [rulesE r, speedE d] = 0
  · have h' := h
    rw [first2] at h'
    have h1 : rulesE r = 0 := by
      by_cases h1 : rulesE r = 0
      · exact h1
      · rw [if_pos h1] at h'; exact absurd h' h1
    rw [if_neg (not_not_intro h1)] at h'
    have h123 := S25 r (RuOk.of h1) d (speed_ok h')
    rw [if_pos h]
    refine sound (d := 2) tok2 mixed2 Try.func9 (by kernel_rfl) (by kernel_rfl) ?_
    conv => whnf
    refine .inl ⟨_, _, byX rfl (Sound1.pl (S23 _) rfl), ?_⟩
    conv => whnf
    refine .inl ⟨_, _, byX rfl (Sound1.pl (S24 _) rfl), ?_⟩
    conv => whnf
    refine .inl ⟨_, _, byX rfl (Sound1.pl (h90 _ _ ⟨rfl, rfl⟩) rfl), ?_⟩
    conv => whnf
    refine ifB_bne (fun w1 => ?_) (fun w1 => ?_)
    · (exfalso; omega)
    · conv => whnf
      refine .inl ⟨_, _, byX rfl (Sound1.pl (h123) rfl), ?_⟩
      conv => whnf
      refine ⟨?_, nofun⟩
      rw [h]
      exact ave_tup2 rfl rfl
  · rw [if_neg h]
    refine sound (d := 2) tok2 mixed2 Try.func9 (by kernel_rfl) (by kernel_rfl) ?_
    conv => whnf
    refine .inl ⟨_, _, byX rfl (Sound1.pl (S23 _) rfl), ?_⟩
    conv => whnf
    refine .inl ⟨_, _, byX rfl (Sound1.pl (S24 _) rfl), ?_⟩
    conv => whnf
    refine .inl ⟨_, _, byX rfl (Sound1.pl (h90 _ _ ⟨rfl, rfl⟩) rfl), ?_⟩
    conv => whnf
    refine ifB_bne (fun w1 => ?_) (fun w1 => ?_)
    · conv => whnf
      refine ⟨?_, nofun⟩
      exact ave_tup2 rfl rfl
    · (exfalso; omega)
/-! ### Steps of a gate -/

/-- Where a gate goes; where it is after a step; how many steps it takes. -/
def goalI (g : Gt) (w : Int) : Int := if w < g.l then g.l else if g.h < w then g.h else w
def stepI (g : Gt) (w : Int) : Int := if goalI g w < g.a - g.r then g.a - g.r else if g.a + g.r < goalI g w then g.a + g.r else goalI g w
def stepG (g : Gt) (w : Int) : Gt := { g with a := stepI g w }
def ticksI (g : Gt) (w : Int) : Int := ((if goalI g w < g.a then g.a - goalI g w else goalI g w - g.a) + g.r - 1).tdiv g.r
theorem goal_in {g : Gt} (h : g.l ≤ g.h) (w : Int) : g.l ≤ goalI g w ∧ goalI g w ≤ g.h := by
  unfold goalI
  (repeat' split) <;> omega
def stepT (g : Gt) (w : Int) : AV := .tuple [if firstOf [gateE g, speedE w] = 0 then gtA (stepG g w) else gtA ⟨0, 0, 0, 0⟩, i64 (firstOf [gateE g, speedE w])]
end Go.Tr

/- The law GovernorGates returns true. Conditions: none. -/
namespace Go.Tr
open Go Go.Proofs
set_option maxRecDepth 20000
set_option maxHeartbeats 8000000

theorem ticks_nn {g : Gt} (hr : 1 ≤ g.r) (w : Int) : 0 ≤ ticksI g w := by
  unfold ticksI
  exact Int.tdiv_nonneg (by split <;> omega) (by omega)
theorem ticks_le {g : Gt} (hg : GtOk g) (w : Int) : ticksI g w ≤ 20000 := by
  have h1 := goal_in hg.lh w
  have h2 := hg.a; have h3 := hg.l; have h4 := hg.h; have h5 := hg.r
  have h := tdiv_le (a := (if goalI g w < g.a then g.a - goalI g w else goalI g w - g.a) + g.r - 1) hg.r.1
  have hx : 0 ≤ (if goalI g w < g.a then g.a - goalI g w else goalI g w - g.a) ∧ (if goalI g w < g.a then g.a - goalI g w else goalI g w - g.a) ≤ 10000 := by have := hg.la; split <;> omega
  unfold ticksI
  generalize (if goalI g w < g.a then g.a - goalI g w else goalI g w - g.a) = X at h hx ⊢
  omega
/-- The division of whole numbers, rounded up. -/
theorem up_one {d r : Int} (h1 : 1 ≤ d) (h2 : d ≤ r) : (d + r - 1).tdiv r = 1 := by
  rw [Int.tdiv_eq_ediv_of_nonneg (by omega), show d + r - 1 = (d - 1) + r by omega, Int.add_ediv_of_dvd_right (Int.dvd_refl r), Int.ediv_self (by omega), Int.ediv_eq_zero_of_lt (by omega) (by omega)]
  rfl
theorem up_zero {r : Int} (h : 1 ≤ r) : ((0 : Int) + r - 1).tdiv r = 0 := by
  rw [Int.tdiv_eq_ediv_of_nonneg (by omega), Int.ediv_eq_zero_of_lt (by omega) (by omega)]
theorem up_more {d r : Int} (h1 : 1 ≤ r) (h2 : r ≤ d) : (d + r - 1).tdiv r = (d - r + r - 1).tdiv r + 1 := by
  rw [Int.tdiv_eq_ediv_of_nonneg (by omega), Int.tdiv_eq_ediv_of_nonneg (by omega), show d + r - 1 = (d - r + r - 1) + r by omega, Int.add_ediv_of_dvd_right (Int.dvd_refl r), Int.ediv_self (by omega)]
theorem ticks_step {g : Gt} (hr : 1 ≤ g.r) (w : Int) (h : ¬ g.a = goalI g w) : ticksI g w = ticksI (stepG g w) w + 1 := by
  have e : goalI (stepG g w) w = goalI g w := rfl
  have e2 : (stepG g w).a = stepI g w := rfl
  have e3 : (stepG g w).r = g.r := rfl
  unfold ticksI
  rw [e, e2, e3]
  unfold stepI
  generalize goalI g w = G at h ⊢
  by_cases h1 : G < g.a - g.r
  · rw [if_pos h1, if_pos (by omega), if_pos (by omega), up_more hr (by omega), show g.a - G - g.r = g.a - g.r - G by omega]
  · rw [if_neg h1]
    by_cases h2 : g.a + g.r < G
    · rw [if_pos h2, if_neg (by omega), if_neg (by omega), up_more hr (by omega), show G - g.a - g.r = G - (g.a + g.r) by omega]
    · rw [if_neg h2, if_neg (show ¬ G < G by omega), show G - G = 0 by omega, up_zero hr]
      by_cases h3 : G < g.a
      · rw [if_pos h3, up_one (by omega) (by omega)]; rfl
      · rw [if_neg h3, up_one (by omega) (by omega)]; rfl
theorem ticks_end {g : Gt} (hr : 1 ≤ g.r) {w : Int} (h : g.a = goalI g w) : ticksI g w = 0 := by
  unfold ticksI
  rw [← h, if_neg (by omega), show g.a - g.a = 0 by omega, up_zero hr]
theorem step_in {g : Gt} (hg : g.l ≤ g.h) (hr : 1 ≤ g.r) {w : Int} (ha : g.l ≤ g.a ∧ g.a ≤ g.h) : g.l ≤ stepI g w ∧ stepI g w ≤ g.h := by
  have := goal_in hg w
  unfold stepI
  (repeat' split) <;> omega
def ticksT (g : Gt) (w : Int) : AV := .tuple [i64 (if firstOf [gateE g, speedE w] = 0 then ticksI g w else 0), i64 (firstOf [gateE g, speedE w])]
theorem first_z {a b : Int} (h : firstOf [a, b] = 0) : a = 0 ∧ b = 0 := by
  rw [first2] at h
  by_cases h1 : a = 0
  · rw [if_neg (not_not_intro h1)] at h; exact ⟨h1, h⟩
  · rw [if_pos h1] at h; exact absurd h h1
theorem first_nz {a b : Int} (h : a ≠ 0) : firstOf [a, b] = a := by rw [first2, if_pos h]
theorem first_zero (b : Int) : firstOf [0, b] = b := by rw [first2, if_neg (by simp)]
end Go.Tr

/- Contracts of chapter 6: lists of numbers; each one checked; runs of a gate. Conditions: none. -/
namespace Go.Tr
open Go Go.Proofs
set_option maxRecDepth 20000
set_option maxHeartbeats 8000000

theorem S7 (l : List Int) (hl : l.length ≤ 1000000) : SP 7 [ints l] (ints l) false := by
  refine sound (d := 2) tok2 mixed2 Try.func7 (by kernel_rfl) (by kernel_rfl) ?_
  conv => whnf
  refine .inl ?_
  conv => whnf
  refine ⟨⟨(by omega), (by show _ * (8 + 1) ≤ _; omega)⟩, ?_⟩
  conv => whnf
  refine ⟨?_, nofun⟩
  exact ⟨rfl, Nat.zero_add _, fun i hi => rfl⟩
theorem S17 (a b : List Int) (ha : a.length ≤ 1000000000) (hb : b.length ≤ 1000000000) : SP 17 [ints a, ints b] (vb (decide (a = b))) false := by
  refine sound (d := 2) tok2 mixed2 Try.func17 (by kernel_rfl) (by kernel_rfl) ?_
  conv => whnf
  refine ifB_bne (fun w1 => ?_) (fun w1 => ?_)
  · conv => whnf
    refine ⟨?_, nofun⟩
    show vb false = vb _
    rw [decide_eq_false]
    intro e; subst e; exact w1 rfl
  · have hab : a.length = b.length := by omega
    conv => whnf
    refine ⟨[], [0, 1, 5], fun st mq => ∃ (k : Nat), (k ≤ a.length) ∧ (∀ i, i < k → a.getD i 0 = b.getD i 0) ∧ st = ⟨[(0, ints a), (1, ints b), (5, i64 k)], ⟨[], [], none, 0⟩, []⟩ ∧ mq = a.length - k,
      ⟨_, _, ⟨0, by omega, fun i h => absurd h (Nat.not_lt_zero i), rfl, rfl⟩, ⟨⟨.inl rfl, rfl, rfl, rfl⟩, trivial, trivial⟩⟩, ?_⟩
    rintro s0 m0 ⟨k, hk, h1, rfl, hmeas⟩
    conv => whnf
    conv => whnf
    refine ifB_dec (fun w2 => ?_) (fun w2 => ?_)
    · conv => whnf
      conv => whnf
      refine ⟨[], by kernel_rfl, ?_⟩
      conv => whnf
      conv => whnf
      refine ⟨⟨(by omega), (by omega)⟩, ?_⟩
      conv => whnf
      conv => whnf
      refine ⟨⟨(by omega), (by omega)⟩, ?_⟩
      conv => whnf
      conv => whnf
      refine ifB_bne (fun w3 => ?_) (fun w3 => ?_)
      · conv => whnf
        conv => whnf
        refine ⟨?_, nofun⟩
        have e : ¬ a.getD k 0 = b.getD k 0 := w3
        show vb false = vb _
        rw [decide_eq_false]
        intro h; subst h; exact e rfl
      · conv => whnf
        conv => whnf
        refine ⟨inK64 (by omega) (by omega), ?_⟩
        have e : a.getD k 0 = b.getD k 0 := w3
        conv => whnf
        conv => whnf
        refine ⟨_, _, ⟨⟨k + 1, by omega, fun i hi => (by rcases Nat.lt_or_ge i k with h | h; exact h1 i h; rw [show i = k by omega]; exact e), rfl, rfl⟩, by omega⟩, ⟨⟨.inl rfl, rfl, rfl, rfl⟩, trivial, trivial⟩⟩
    · conv => whnf
      conv => whnf
      refine ⟨?_, nofun⟩
      have e : k = a.length := by omega
      subst e
      show vb true = vb _
      rw [decide_eq_true]
      apply List.ext_getElem hab
      intro i h2 h3
      have := h1 i h2
      simpa [List.getD_eq_getElem?_getD, h2, h3] using this
/-- The first number that is not in order, with its place. -/
def eachI (g : Nat → Int → Int) : List Int → Nat → Int × Int
  | [], _ => (0, 0)
  | x :: r, k => if g k x = 0 then eachI g r (k + 1) else ((k : Int), g k x)
theorem eachI_drop (g : Nat → Int → Int) (l : List Int) (k : Nat) (h : k < l.length) : eachI g (l.drop k) k = if g k (l.getD k 0) = 0 then eachI g (l.drop (k + 1)) (k + 1) else ((k : Int), g k (l.getD k 0)) := by
  rw [List.drop_eq_getElem_cons h, eachI]; simp [List.getD, h]
theorem S27 (f : Nat) (g : Nat → Int → Int) (l : List Int) (hl : l.length ≤ 1000000000) (hf : ∀ k : Nat, k < l.length → SP f [i64 k, i64 (l.getD k 0)] (i64 (g k (l.getD k 0))) false) : SP 27 [ints l, .func (.func f) 0 []] (.tuple [i64 (eachI g l 0).1, i64 (eachI g l 0).2]) false := by
  refine sound (d := 2) tok2 mixed2 Try.func27 (by kernel_rfl) (by kernel_rfl) ?_
  conv => whnf
  refine ⟨[], [1, 9, 10, 11], fun st mq => ∃ (k : Nat), (k ≤ l.length) ∧ (eachI g (l.drop k) k = eachI g l 0) ∧ st = ⟨[(1, .func (.func f) 0 []), (9, ints l), (10, i64 l.length), (11, i64 k)], ⟨[], [], none, 0⟩, []⟩ ∧ mq = l.length - k,
    ⟨_, _, ⟨0, by omega, rfl, rfl, rfl⟩, ⟨⟨.inl rfl, rfl, rfl, rfl⟩, trivial, trivial⟩⟩, ?_⟩
  rintro s0 m0 ⟨k, hk, he, rfl, hmeas⟩
  by_cases hlt : k < l.length
  · have hd := eachI_drop g l k hlt
    have hc := hf k hlt
    conv => whnf
    conv => whnf
    refine ifB_dec (fun w1 => ?_) (fun w1 => ?_)
    · conv => whnf
      conv => whnf
      refine ⟨⟨(by omega), (by omega)⟩, ?_⟩
      conv => whnf
      conv => whnf
      refine .inl ⟨_, _, byX rfl (Sound1.pl (hc) rfl), ?_⟩
      conv => whnf
      conv => whnf
      refine ifB_bne (fun w2 => ?_) (fun w2 => ?_)
      · conv => whnf
        conv => whnf
        refine ⟨?_, nofun⟩
        rw [if_neg w2] at hd
        exact ave_tup2 (endi (by rw [← he, hd])) (endi (by rw [← he, hd]))
      · conv => whnf
        conv => whnf
        refine ⟨inK64 (by omega) (by omega), ?_⟩
        rw [if_pos w2] at hd
        conv => whnf
        conv => whnf
        refine ⟨_, _, ⟨⟨k + 1, by omega, hd.symm.trans he, rfl, rfl⟩, by omega⟩, ⟨⟨.inl rfl, rfl, rfl, rfl⟩, trivial, trivial⟩⟩
    · (exfalso; omega)
  · have e : k = l.length := by omega
    subst e
    rw [List.drop_length] at he
    conv => whnf
    conv => whnf
    refine ifB_dec (fun w1 => ?_) (fun w1 => ?_)
    · (exfalso; omega)
    · conv => whnf
      conv => whnf
      refine ⟨?_, nofun⟩
      exact ave_tup2 (endi (by rw [← he]; rfl)) (endi (by rw [← he]; rfl))
/-! ### Runs of a gate -/

def runL (r : Ru) : Gt → List Int → List Int
  | _, [] => []
  | g, d :: l => (stepG g (wantI r d)).a :: runL r (stepG g (wantI r d)) l
theorem runL_drop (r : Ru) (g : Gt) (l : List Int) (k : Nat) (h : k < l.length) : runL r g (l.drop k) = (stepG g (wantI r (l.getD k 0))).a :: runL r (stepG g (wantI r (l.getD k 0))) (l.drop (k + 1)) := by
  rw [List.drop_eq_getElem_cons h, runL]; simp [List.getD, h]
def devE (l : List Int) : Int := (eachI (fun _ x => speedE x) l 0).2
theorem dev_all : ∀ (l : List Int) (k : Nat), (eachI (fun _ x => speedE x) l k).2 = 0 → ∀ x ∈ l, -100000 ≤ x ∧ x ≤ 100000
  | [], _, _, x, hx => by cases hx
  | y :: l, k, h, x, hx => by
    unfold eachI at h
    by_cases hy : speedE y = 0
    · rw [if_pos hy] at h
      rcases List.mem_cons.1 hx with e | hx
      · rw [e]; exact speed_ok hy
      · exact dev_all l (k + 1) h x hx
    · rw [if_neg hy] at h; exact absurd h hy
theorem getD_memI {l : List Int} {i : Nat} (h : i < l.length) : l.getD i 0 ∈ l := by
  rw [show l.getD i 0 = l[i] by simp [List.getD_eq_getElem?_getD, h]]
  exact List.getElem_mem h
theorem app_row (l : List Int) (c : Int) (n i : Nat) (hn : l.length = n) (hi : i < n + 1) : [i64 ((l ++ [c]).getD i 0)] = (if i < n then [i64 (l.getD (0 + i) 0)] else List.take 1 (List.drop ((i - n) * 1) [i64 c])) := by
  subst hn
  rw [Nat.zero_add]
  by_cases h : i < l.length
  · rw [if_pos h]; simp [List.getD_eq_getElem?_getD, h, List.getElem?_append_left h]
  · have : i = l.length := by omega
    subst this
    rw [if_neg h]; simp [List.getD_eq_getElem?_getD]
def runE (g : Gt) (r : Ru) (l : List Int) : Int := if firstOf [gateE g, rulesE r, if l.length ≤ 200 then 0 else 8] = 0 then devE l else firstOf [gateE g, rulesE r, if l.length ≤ 200 then 0 else 8]
theorem GtOk.stay {g : Gt} (hg : GtOk g) {a : Int} (ha : g.l ≤ a ∧ a ≤ g.h) : GtOk ⟨a, g.l, g.h, g.r⟩ := by
  have h1 := hg.l; have h2 := hg.h
  exact ⟨hg.l, hg.h, by simp only; omega, hg.r, hg.lh, ha⟩
theorem step_raw (g : Gt) (w : Int) (hr : 1 ≤ g.r) : stepI g w = if g.a + g.r < (if g.a - g.r > goalI g w then g.a - g.r else goalI g w) then g.a + g.r else (if g.a - g.r > goalI g w then g.a - g.r else goalI g w) := by
  unfold stepI
  (repeat' split) <;> omega
end Go.Tr

/- Contracts of chapter 6: valid polynomials; entries; the greatest common divisor. Conditions: none. -/
namespace Go.Tr
open Go Go.Proofs
set_option maxRecDepth 20000
set_option maxHeartbeats 8000000

def coefE (x : Int) : Int := if -1000 ≤ x ∧ x ≤ 1000 then 0 else 2
def shapeE (n : Int) : Int := if n < 2 then 10 else if n > 5 then 8 else 0
theorem S18 (n : Int) : SP 18 [i64 n] (i64 (shapeE n)) false := by
  refine sound (d := 2) tok2 mixed2 Try.func18 (by kernel_rfl) (by kernel_rfl) ?_
  conv => whnf
  refine ifB_dec (fun w1 => ?_) (fun w1 => ?_)
  · conv => whnf
    refine ⟨?_, nofun⟩
    (exact endi (by unfold shapeE; (repeat' split) <;> omega))
  · conv => whnf
    refine ifB_dec (fun w2 => ?_) (fun w2 => ?_)
    · conv => whnf
      refine ⟨?_, nofun⟩
      (exact endi (by unfold shapeE; (repeat' split) <;> omega))
    · conv => whnf
      refine ⟨?_, nofun⟩
      (exact endi (by unfold shapeE; (repeat' split) <;> omega))
theorem S45 (n : Int) : SP 45 [i64 n] (i64 (shapeE n)) false := by
  have h90 := fun a b => @S22_2 a b
  refine sound (d := 2) tok2 mixed2 Try.func45 (by kernel_rfl) (by kernel_rfl) ?_
  conv => whnf
  refine .inl ⟨_, _, byX rfl (Sound1.pl (S26 _ _) rfl), ?_⟩
  conv => whnf
  refine .inl ⟨_, _, byX rfl (Sound1.pl (S26 _ _) rfl), ?_⟩
  conv => whnf
  refine .inl ⟨_, _, byX rfl (Sound1.pl (h90 _ _ ⟨rfl, rfl⟩) rfl), ?_⟩
  conv => whnf
  refine ⟨?_, nofun⟩
  (exact endi (by rw [first2]; unfold shapeE; simp only [decide_eq_true_eq]; (repeat' split) <;> first | omega | contradiction | simp_all))
theorem S47 (x : Int) : SP 47 [i64 x] (i64 (coefE x)) false := by
  have h := S41 x 1000
  have h93 := S26 (win x (-1000) 1000) 2
  refine sound (d := 2) tok2 mixed2 Try.func47 (by kernel_rfl) (by kernel_rfl) ?_
  conv => whnf
  refine .inl ⟨_, _, byX rfl (Sound1.pl (h (by omega)) rfl), ?_⟩
  conv => whnf
  refine .inl ⟨_, _, byX rfl (Sound1.pl (h93) rfl), ?_⟩
  conv => whnf
  refine ⟨?_, nofun⟩
  exact endi (by unfold coefE win; simp)
theorem S46 (k x : Int) : SP 46 [i64 k, i64 x] (i64 (coefE x)) false := by
  have h := S47 x
  refine sound (d := 2) tok2 mixed2 Try.func46 (by kernel_rfl) (by kernel_rfl) ?_
  conv => whnf
  refine .inl ⟨_, _, byX rfl (Sound1.pl (h) rfl), ?_⟩
  conv => whnf
  refine ⟨?_, nofun⟩
  rfl
def coefsE (l : List Int) : Int := (eachI (fun _ x => coefE x) l 0).2
/-- The error of a polynomial. -/
def polyE (l : List Int) : Int := if shapeE l.length ≠ 0 then shapeE l.length else if coefsE l ≠ 0 then coefsE l else if l.getD 0 0 > 0 then 0 else 3
theorem shape_ok {n : Nat} (h : shapeE n = 0) : 2 ≤ n ∧ n ≤ 5 := by
  unfold shapeE at h
  (repeat' split at h) <;> omega
theorem S20 (l : List Int) (hl : l.length ≤ 1000000) : SP 20 [ints l] (i64 (polyE l)) false := by
  have h101 := S45 l.length
  have h94 := S27 46 (fun _ x => coefE x) l (by omega) (fun k hk => S46 k (l.getD k 0))
  have h90 := fun b => @S22_2 (coefsE l) b
  unfold polyE
  by_cases hs : shapeE l.length = 0
  · have hn := shape_ok hs
    rw [if_neg (not_not_intro hs)]
    rw [hs] at h101
    refine sound (d := 2) tok2 mixed2 Try.func20 (by kernel_rfl) (by kernel_rfl) ?_
    conv => whnf
    refine .inl ⟨_, _, byX rfl (Sound1.pl (h101) rfl), ?_⟩
    conv => whnf
    refine .inl ⟨_, _, byX rfl (Sound1.pl (h94) rfl), ?_⟩
    conv => whnf
    refine ⟨⟨(by omega), (by omega)⟩, ?_⟩
    conv => whnf
    refine .inl ⟨_, _, byX rfl (Sound1.pl (S26 _ _) rfl), ?_⟩
    conv => whnf
    refine .inl ⟨_, _, byX rfl (Sound1.pl (h90 _ ⟨rfl, rfl⟩) rfl), ?_⟩
    conv => whnf
    refine ⟨?_, nofun⟩
    exact endi (by rw [first2]; by_cases h : l.getD 0 0 > 0 <;> simp [h])
  · rw [if_pos hs]
    refine sound (d := 2) tok2 mixed2 Try.func20 (by kernel_rfl) (by kernel_rfl) ?_
    conv => whnf
    refine .inl ⟨_, _, byX rfl (Sound1.pl (h101) rfl), ?_⟩
    conv => whnf
    refine ifB_bne (fun w1 => ?_) (fun w1 => ?_)
    · conv => whnf
      refine ⟨?_, nofun⟩
      rfl
    · (exfalso; omega)
theorem coef_nz (x : Int) : coefE x ≠ 0 → coefE x = 2 := by
  unfold coefE
  split <;> simp
theorem S5 (l : List Int) (hl : l.length ≤ 1000000) : SP 5 [ints l] (i64 (polyE l)) false := by
  have h97 := S18 l.length
  unfold polyE
  by_cases hs : shapeE l.length = 0
  · have hn := shape_ok hs
    rw [if_neg (not_not_intro hs)]
    rw [hs] at h97
    unfold coefsE
    refine sound (d := 2) tok2 mixed2 Try.func5 (by kernel_rfl) (by kernel_rfl) ?_
    conv => whnf
    refine .inl ⟨_, _, byX rfl (Sound1.pl (h97) rfl), ?_⟩
    conv => whnf
    refine ⟨[], [0, 4], fun st mq => ∃ (k : Nat), (k ≤ l.length) ∧ ((eachI (fun _ x => coefE x) (l.drop k) k).2 = (eachI (fun _ x => coefE x) l 0).2) ∧ st = ⟨[(0, ints l), (4, i64 k)], ⟨[], [], none, 0⟩, []⟩ ∧ mq = l.length - k,
      ⟨_, _, ⟨0, by omega, rfl, rfl, rfl⟩, ⟨⟨.inl rfl, rfl, rfl, rfl⟩, trivial, trivial⟩⟩, ?_⟩
    rintro s0 m0 ⟨k, hk, he, rfl, hmeas⟩
    by_cases hlt : k < l.length
    · have hd := eachI_drop (fun _ x => coefE x) l k hlt
      conv => whnf
      conv => whnf
      refine ifB_dec (fun w1 => ?_) (fun w1 => ?_)
      · conv => whnf
        conv => whnf
        refine ⟨⟨(by omega), (by omega)⟩, ?_⟩
        conv => whnf
        conv => whnf
        refine .inl ⟨_, _, byX rfl (Sound1.pl (S19 _ _ _) rfl), ?_⟩
        conv => whnf
        conv => whnf
        refine ifB_not ?_
        conv => whnf
        conv => whnf
        refine ifB_dec (fun w2 => ?_) (fun w2 => ?_)
        · conv => whnf
          conv => whnf
          refine ⟨inK64 (by omega) (by omega), ?_⟩
          rw [if_pos (show coefE (l.getD k 0) = 0 from if_pos w2)] at hd
          rw [hd] at he
          conv => whnf
          conv => whnf
          refine ⟨_, _, ⟨⟨k + 1, by omega, he, rfl, rfl⟩, by omega⟩, ⟨⟨.inl rfl, rfl, rfl, rfl⟩, trivial, trivial⟩⟩
        · conv => whnf
          conv => whnf
          refine ⟨?_, nofun⟩
          have hc : coefE (l.getD k 0) = 2 := if_neg w2
          rw [hc, if_neg (by decide)] at hd
          rw [hd] at he
          exact endi (by rw [← he]; exact (if_pos (show (2 : Int) ≠ 0 by decide)).symm)
      · (exfalso; omega)
    · have e : k = l.length := by omega
      subst e
      rw [List.drop_length] at he
      rw [← he]
      conv => whnf
      conv => whnf
      refine ifB_dec (fun w1 => ?_) (fun w1 => ?_)
      · (exfalso; omega)
      · conv => whnf
        conv => whnf
        refine ⟨⟨(by omega), (by omega)⟩, ?_⟩
        conv => whnf
        conv => whnf
        refine ifB_dec (fun w2 => ?_) (fun w2 => ?_)
        · conv => whnf
          conv => whnf
          refine ⟨?_, nofun⟩
          have w2 : l.getD 0 0 < 1 := w2
          exact endi (by show (3 : Int) = if (0 : Int) ≠ 0 then 0 else if l.getD 0 0 > 0 then 0 else 3; rw [if_neg (by simp), if_neg (by omega)])
        · conv => whnf
          conv => whnf
          refine ⟨?_, nofun⟩
          have w2 : ¬ l.getD 0 0 < 1 := w2
          exact endi (by show (0 : Int) = if (0 : Int) ≠ 0 then 0 else if l.getD 0 0 > 0 then 0 else 3; rw [if_neg (by simp), if_pos (by omega)])
  · rw [if_pos hs]
    refine sound (d := 2) tok2 mixed2 Try.func5 (by kernel_rfl) (by kernel_rfl) ?_
    conv => whnf
    refine .inl ⟨_, _, byX rfl (Sound1.pl (h97) rfl), ?_⟩
    conv => whnf
    refine ifB_bne (fun w1 => ?_) (fun w1 => ?_)
    · conv => whnf
      refine ⟨?_, nofun⟩
      rfl
    · (exfalso; omega)
def entL (l : List Int) (i : Nat) : Int := l.getD i 0
theorem S82 (l : List Int) (hl : l.length ≤ 1000000) (i : Nat) : SP 82 [ints l, i64 i] (i64 (entL l i)) false := by
  refine sound (d := 2) tok2 mixed2 Try.func82 (by kernel_rfl) (by kernel_rfl) ?_
  conv => whnf
  refine ifB_dec (fun w1 => ?_) (fun w1 => ?_)
  · conv => whnf
    refine ⟨⟨(by omega), (by omega)⟩, ?_⟩
    conv => whnf
    refine ⟨?_, nofun⟩
    rfl
  · conv => whnf
    refine ⟨?_, nofun⟩
    exact endi (by unfold entL; simp [List.getD_eq_getElem?_getD, show l.length ≤ i by omega])
/-- Euclid's remainders, with their signs, so many rounds at most. -/
def gcdF : Nat → Int → Int → Int
  | 0, a, _ => a
  | n + 1, a, b => if b = 0 then a else gcdF n b (a.tmod b)
theorem gcdF_stop (n : Nat) (a : Int) : gcdF n a 0 = a := by
  cases n with
  | zero => rfl
  | succ n => exact if_pos rfl
theorem tmod_lt {a b : Int} (h : b ≠ 0) : (a.tmod b).natAbs < b.natAbs := by
  rw [Int.natAbs_tmod]
  exact Nat.mod_lt _ (by omega)
theorem gcdF_gcd : ∀ (n : Nat) (a b : Int), b.natAbs < n → (gcdF n a b).natAbs = Nat.gcd a.natAbs b.natAbs
  | 0, _, _, h => by omega
  | n + 1, a, b, h => by
    unfold gcdF
    by_cases hb : b = 0
    · subst hb
      rw [if_pos rfl]; simp
    · rw [if_neg hb, gcdF_gcd n b (a.tmod b) (by have := tmod_lt (a := a) hb; omega), Int.natAbs_tmod, Nat.gcd_comm a.natAbs, Nat.gcd_rec b.natAbs a.natAbs, Nat.gcd_comm]
end Go.Tr

/- Contracts of chapter 6: rows divided by their greatest common divisor. Conditions: none. -/
namespace Go.Tr
open Go Go.Proofs
set_option maxRecDepth 20000
set_option maxHeartbeats 8000000

/-- The greatest common divisor of a row; the row divided by it. -/
def gcdR (l : List Int) : Nat := l.foldl (fun g x => Nat.gcd g x.natAbs) 0
theorem gcdR_snoc (l : List Int) (x : Int) : gcdR (l ++ [x]) = Nat.gcd (gcdR l) x.natAbs := by simp [gcdR]
def redL (l : List Int) : List Int := if gcdR l = 0 then l else l.map fun x => x.tdiv (gcdR l : Nat)
/-- All of a row are small. -/
def Sml (B : Nat) (l : List Int) : Prop := ∀ x ∈ l, x.natAbs ≤ B
theorem foldl_le {B : Nat} : ∀ (l : List Int) (g : Nat), Sml B l → g ≤ B → l.foldl (fun g x => Nat.gcd g x.natAbs) g ≤ B
  | [], g, _, hg => hg
  | x :: l, g, h, hg => by
    refine foldl_le l _ (fun y hy => h y (List.mem_cons_of_mem _ hy)) ?_
    have hx := h x (List.mem_cons_self ..)
    by_cases h0 : g = 0
    · subst h0; simpa using hx
    · exact Nat.le_trans (Nat.gcd_le_left _ (by omega)) hg
theorem gcdR_le {B : Nat} {l : List Int} (h : Sml B l) : gcdR l ≤ B := foldl_le l 0 h (Nat.zero_le _)
theorem Sml.take {B : Nat} {l : List Int} (h : Sml B l) (k : Nat) : Sml B (l.take k) := fun x hx => h x (List.mem_of_mem_take hx)
theorem take_snocI {l : List Int} {i : Nat} (h : i < l.length) : l.take (i + 1) = l.take i ++ [l.getD i 0] := by
  rw [List.take_add_one, show l.getD i 0 = l[i] by simp [List.getD_eq_getElem?_getD, h]]
  simp [h]
theorem tdiv_sml (x : Int) (g : Nat) : (x.tdiv (g : Int)).natAbs ≤ x.natAbs := Int.natAbs_tdiv_le_natAbs x g
theorem redL_len (l : List Int) : (redL l).length = l.length := by
  unfold redL
  split <;> simp
theorem redL_sml {B : Nat} {l : List Int} (h : Sml B l) : Sml B (redL l) := by
  unfold redL
  split
  · exact h
  · intro x hx
    obtain ⟨y, hy, rfl⟩ := List.mem_map.1 hx
    exact Nat.le_trans (tdiv_sml y _) (h y hy)
theorem map_getD (f : Int → Int) (l : List Int) (i : Nat) (hi : i < l.length) : (l.map f).getD i 0 = f (l.getD i 0) := by
  simp [List.getD_eq_getElem?_getD, hi]
end Go.Tr

/- Contracts of chapter 6: the next row of a table. Conditions: none. -/
namespace Go.Tr
open Go Go.Proofs
set_option maxRecDepth 20000
set_option maxHeartbeats 8000000

theorem S82i (l : List Int) (hl : l.length ≤ 1000000) (i : Int) (hi : 0 ≤ i) : SP 82 [ints l, i64 i] (i64 (entL l i.toNat)) false := by
  have h := S82 l hl i.toNat
  rwa [Int.toNat_of_nonneg hi] at h
def listsA (R : List (List Int)) : AV := .rslice 1 R.length fun i => [ints (R.getD i [])]
/-- How long a row is; its entries; the row. -/
abbrev rowN (m k : Nat) : Nat := (((m : Int) - 1 - k).tdiv 2 + 1).toNat
def rowAt (p : List Int) (R : List (List Int)) (j : Nat) : Int :=
  if R.length < 2 then entL p (2 * j + R.length) else (R.getD (R.length - 1) []).getD 0 0 * entL (R.getD (R.length - 2) []) (j + 1) - (R.getD (R.length - 2) []).getD 0 0 * entL (R.getD (R.length - 1) []) (j + 1)
def rawL (p : List Int) (R : List (List Int)) : List Int := (List.range (rowN p.length R.length)).map (rowAt p R)
def nextL (p : List Int) (R : List (List Int)) : List Int := redL (rawL p R)
/-- How great the entries of a row are at most. -/
def bnd : Nat → Nat
  | 0 => 1000
  | 1 => 1000
  | 2 => 2000000
  | 3 => 4000000000
  | _ => 16000000000000000
structure RowsOk (p : List Int) (R : List (List Int)) : Prop where
  p2 : 2 ≤ p.length ∧ p.length ≤ 5
  ps : Sml 1000 p
  lt : R.length < p.length
  ne : ∀ i, i < R.length → 1 ≤ (R.getD i []).length ∧ (R.getD i []).length ≤ 5
  sm : ∀ i, i < R.length → Sml (bnd i) (R.getD i [])
theorem ent_sml {B : Nat} {l : List Int} (h : Sml B l) (i : Nat) : (entL l i).natAbs ≤ B := by
  unfold entL
  by_cases hi : i < l.length
  · exact h _ (getD_memI hi)
  · simp [List.getD_eq_getElem?_getD, show l.length ≤ i by omega]
theorem mul_sml {a b : Int} {A B : Nat} (ha : a.natAbs ≤ A) (hb : b.natAbs ≤ B) : (a * b).natAbs ≤ A * B := by
  rw [Int.natAbs_mul]
  exact Nat.mul_le_mul ha hb
theorem rowAt_sml {p : List Int} {R : List (List Int)} (h : RowsOk p R) (j : Nat) : (rowAt p R j).natAbs ≤ bnd R.length := by
  unfold rowAt
  by_cases hk : R.length < 2
  · rw [if_pos hk]
    have := ent_sml h.ps (2 * j + R.length)
    match e : R.length, hk with
    | 0, _ => rw [e] at this; exact this
    | 1, _ => rw [e] at this; exact this
  · rw [if_neg hk]
    have hb := h.sm (R.length - 1) (by omega)
    have ha := h.sm (R.length - 2) (by omega)
    have e1 := mul_sml (ent_sml hb 0) (ent_sml ha (j + 1))
    have e2 := mul_sml (ent_sml ha 0) (ent_sml hb (j + 1))
    unfold entL at e1 e2 ⊢
    have h3 := h.lt
    have h4 := h.p2
    have h5 : R.length = 2 ∨ R.length = 3 ∨ R.length = 4 := by omega
    rcases h5 with h5 | h5 | h5 <;> rw [h5] at e1 e2 ⊢ <;> simp only [bnd, Nat.reduceSub] at e1 e2 ⊢ <;> omega
theorem bnd_le (k : Nat) : bnd k ≤ 16000000000000000 := by
  unfold bnd
  split <;> decide
theorem row_prods {p : List Int} {R : List (List Int)} (h : RowsOk p R) (hk : ¬ R.length < 2) (j : Nat) :
    ((R.getD (R.length - 1) []).getD 0 0 * entL (R.getD (R.length - 2) []) (j + 1)).natAbs ≤ 8000000000000000 ∧ ((R.getD (R.length - 2) []).getD 0 0 * entL (R.getD (R.length - 1) []) (j + 1)).natAbs ≤ 8000000000000000 := by
  have hb := h.sm (R.length - 1) (by omega)
  have ha := h.sm (R.length - 2) (by omega)
  have e1 := mul_sml (ent_sml hb 0) (ent_sml ha (j + 1))
  have e2 := mul_sml (ent_sml ha 0) (ent_sml hb (j + 1))
  have h3 := h.lt
  have h4 := h.p2
  have h5 : R.length = 2 ∨ R.length = 3 ∨ R.length = 4 := by omega
  unfold entL at e1 e2 ⊢
  rcases h5 with h5 | h5 | h5 <;> rw [h5] at e1 e2 ⊢ <;> simp only [bnd, Nat.reduceSub] at e1 e2 ⊢ <;> omega
theorem set_ok {X : List Int} {j : Nat} {v : Int} {f : Nat → Int} (hj : j < X.length) (hE : ∀ i, i < j → X.getD i 0 = f i) (hv : v = f j) (i : Nat) (hi : i < j + 1) : (X.set j v).getD i 0 = f i := by
  rw [getD_setI]
  by_cases he : i = j
  · rw [if_pos ⟨he, hj⟩, he, hv]
  · rw [if_neg (fun h => he h.1)]
    exact hE i (by omega)
theorem rep_row {n i : Nat} (hi : i < n) : [i64 ((List.replicate n (0 : Int)).getD i 0)] = [i64 0] := by
  simp [List.getD_eq_getElem?_getD, hi]
theorem S65 (p : List Int) (R : List (List Int)) (h : RowsOk p R) : SP 65 [ints p, listsA R] (ints (nextL p R)) true := by
  have h1 := h.p2
  have h2 := h.lt
  have hpl : p.length ≤ 1000000 := by omega
  have htd := tdiv_le (a := (p.length : Int) - 1 - R.length) (b := 2) (by decide)
  have htn : 0 ≤ ((p.length : Int) - 1 - R.length).tdiv 2 := Int.tdiv_nonneg (by omega) (by decide)
  have hN : rowN p.length R.length ≤ 10 := by unfold rowN; omega
  have hb8 : Try.prog.types[3].bytes = 8 := by kernel_rfl
  refine sound (d := 2) tok2 mixed2 Try.func65 (by kernel_rfl) (by kernel_rfl) ?_
  conv => whnf
  refine ⟨inK64 (by omega) (by omega), ?_⟩
  conv => whnf
  refine ⟨inK64 (by omega) (by omega), ?_⟩
  conv => whnf
  refine ⟨⟨(by omega), inK64 (by omega) (by omega)⟩, ?_⟩
  conv => whnf
  refine ⟨inK64 (by omega) (by omega), ?_⟩
  conv => whnf
  refine ⟨⟨(by omega), ⟨(by omega), ⟨(by omega), (by show _ * ((8 : Nat) : Int) ≤ _; omega)⟩⟩⟩, ?_⟩
  conv => whnf
  refine ⟨[], [0, 1, 5, 6, 21, 22], fun st mq => ∃ (j : Nat) (X : List Int), (j ≤ rowN p.length R.length) ∧ (X.length = rowN p.length R.length) ∧ (∀ i, i < j → X.getD i 0 = rowAt p R i) ∧ st = ⟨[(0, ints p), (1, listsA R), (5, i64 R.length), (6, .oslice 0 0 0 (rowN p.length R.length) (some (rowN p.length R.length))), (21, i64 (rowN p.length R.length : Nat)), (22, i64 j)], ⟨[⟨1, rowN p.length R.length, fun i => [i64 (X.getD i 0)], 0, false, true, false⟩], [], none, 0⟩, []⟩ ∧ mq = rowN p.length R.length - j,
    ⟨_, _, ⟨0, List.replicate (rowN p.length R.length) 0, by omega, by simp, fun i h => absurd h (Nat.not_lt_zero i), rfl, rfl⟩, ⟨⟨.inl rfl, rfl, rfl, rfl⟩, ⟨⟨rfl, rfl, rfl, rfl, fun _ => rfl, fun i hi => .inl ((rep_row hi).trans rfl)⟩, trivial⟩, trivial⟩⟩, ?_⟩
  rintro s0 m0 ⟨j, X, hj, hX, hE, rfl, hmeas⟩
  by_cases hlt : j < rowN p.length R.length
  · by_cases hk : R.length < 2
    · have h158 := fun i hi => S82i p hpl i hi
      conv => whnf
      conv => whnf
      refine ifB_dec (fun w1 => ?_) (fun w1 => ?_)
      · conv => whnf
        conv => whnf
        refine ifB_dec (fun w2 => ?_) (fun w2 => ?_)
        · conv => whnf
          conv => whnf
          refine ⟨inK64 (by omega) (by omega), ?_⟩
          conv => whnf
          conv => whnf
          refine ⟨inK64 (by omega) (by omega), ?_⟩
          conv => whnf
          conv => whnf
          refine .inl ⟨_, _, byX rfl (Sound1.pl (h158 _ (by omega)) rfl), ?_⟩
          conv => whnf
          conv => whnf
          refine ⟨⟨(by omega), (by omega)⟩, ?_⟩
          refine ⟨_, fun i _ => rowI X j i _ (by omega), ?_⟩
          conv => whnf
          conv => whnf
          refine ⟨inK64 (by omega) (by omega), ?_⟩
          conv => whnf
          conv => whnf
          refine ⟨_, _, ⟨⟨j + 1, X.set j (entL p (2 * (j : Int) + R.length).toNat), by omega, (by rw [List.length_set]; exact hX), (set_ok (by omega) hE (by unfold rowAt; rw [if_pos hk, show (2 * (j : Int) + R.length).toNat = 2 * j + R.length by omega])), rfl, rfl⟩, by omega⟩, ⟨⟨.inl rfl, rfl, rfl, rfl⟩, ⟨⟨rfl, rfl, rfl, rfl, fun _ => rfl, fun _ _ => .inl rfl⟩, trivial⟩, trivial⟩⟩
        · (exfalso; omega)
      · (exfalso; omega)
    · have q1 := h.ne (R.length - 2) (by omega)
      have q2 := h.ne (R.length - 1) (by omega)
      have hra := rowAt_sml h j
      have e1 : ((R.length : Int) - 2).toNat = R.length - 2 := by omega
      have e2 : ((R.length : Int) - 1).toNat = R.length - 1 := by omega
      have hj1 : ((j : Int) + 1).toNat = j + 1 := by omega
      have hP := row_prods h hk j
      have hrw : rowAt p R j = (R.getD (R.length - 1) []).getD 0 0 * entL (R.getD (R.length - 2) []) (j + 1) - (R.getD (R.length - 2) []).getD 0 0 * entL (R.getD (R.length - 1) []) (j + 1) := by unfold rowAt; rw [if_neg hk]
      rw [← e1] at q1
      rw [← e2] at q2
      rw [← e1, ← e2, ← hj1] at hP hrw
      have P1 : ((R.getD ((R.length : Int) - 1).toNat []).getD (Int.toNat 0) 0 * entL (R.getD ((R.length : Int) - 2).toNat []) ((j : Int) + 1).toNat).natAbs ≤ 8000000000000000 := hP.1
      have P2 : ((R.getD ((R.length : Int) - 2).toNat []).getD (Int.toNat 0) 0 * entL (R.getD ((R.length : Int) - 1).toNat []) ((j : Int) + 1).toNat).natAbs ≤ 8000000000000000 := hP.2
      have h158 := fun l hl i hi => S82i l hl i hi
      conv => whnf
      conv => whnf
      refine ifB_dec (fun w1 => ?_) (fun w1 => ?_)
      · conv => whnf
        conv => whnf
        refine ifB_dec (fun w2 => ?_) (fun w2 => ?_)
        · (exfalso; omega)
        · conv => whnf
          conv => whnf
          refine ⟨[], by kernel_rfl, ?_⟩
          conv => whnf
          conv => whnf
          refine ⟨inK64 (by omega) (by omega), ?_⟩
          conv => whnf
          conv => whnf
          refine ⟨⟨(by omega), (by omega)⟩, ?_⟩
          conv => whnf
          conv => whnf
          refine ⟨inK64 (by omega) (by omega), ?_⟩
          conv => whnf
          conv => whnf
          refine ⟨⟨(by omega), (by omega)⟩, ?_⟩
          conv => whnf
          conv => whnf
          refine ⟨[], by kernel_rfl, ?_⟩
          conv => whnf
          conv => whnf
          refine ⟨⟨(by omega), (by omega)⟩, ?_⟩
          conv => whnf
          conv => whnf
          refine ⟨inK64 (by omega) (by omega), ?_⟩
          conv => whnf
          conv => whnf
          refine .inl ⟨_, _, byX rfl (Sound1.pl (h158 _ (by omega) _ (by omega)) rfl), ?_⟩
          conv => whnf
          conv => whnf
          refine ⟨inK64 (by omega) (by omega), ?_⟩
          conv => whnf
          conv => whnf
          refine ⟨⟨(by omega), (by omega)⟩, ?_⟩
          conv => whnf
          conv => whnf
          refine ⟨inK64 (by omega) (by omega), ?_⟩
          conv => whnf
          conv => whnf
          refine .inl ⟨_, _, byX rfl (Sound1.pl (h158 _ (by omega) _ (by omega)) rfl), ?_⟩
          conv => whnf
          conv => whnf
          refine ⟨inK64 (by omega) (by omega), ?_⟩
          conv => whnf
          conv => whnf
          refine ⟨inK64 (by omega) (by omega), ?_⟩
          conv => whnf
          conv => whnf
          refine ⟨⟨(by omega), (by omega)⟩, ?_⟩
          refine ⟨_, fun i _ => rowI X j i _ (by omega), ?_⟩
          conv => whnf
          conv => whnf
          refine ⟨inK64 (by omega) (by omega), ?_⟩
          conv => whnf
          conv => whnf
          refine ⟨_, _, ⟨⟨j + 1, X.set j ((R.getD ((R.length : Int) - 1).toNat []).getD (Int.toNat 0) 0 * entL (R.getD ((R.length : Int) - 2).toNat []) ((j : Int) + 1).toNat - (R.getD ((R.length : Int) - 2).toNat []).getD (Int.toNat 0) 0 * entL (R.getD ((R.length : Int) - 1).toNat []) ((j : Int) + 1).toNat), by omega, (by rw [List.length_set]; exact hX), (set_ok (by omega) hE (hrw ▸ rfl)), rfl, rfl⟩, by omega⟩, ⟨⟨.inl rfl, rfl, rfl, rfl⟩, ⟨⟨rfl, rfl, rfl, rfl, fun _ => rfl, fun _ _ => .inl rfl⟩, trivial⟩, trivial⟩⟩
      · (exfalso; omega)
  · have hXe : X = rawL p R := by
      refine List.ext_getElem (by rw [hX]; simp [rawL]) fun i g1 g2 => ?_
      have := hE i (by omega)
      rw [show X.getD i 0 = X[i] by simp [List.getD_eq_getElem?_getD, g1]] at this
      rw [this]; simp [rawL]
    have hXs : Sml 16000000000000000 X := fun x hx => by
      rw [hXe] at hx
      obtain ⟨i, _, rfl⟩ := List.mem_map.1 hx
      exact Nat.le_trans (rowAt_sml h i) (bnd_le _)
    unfold nextL
    rw [← hXe]
    clear hE hXe
    generalize rowN p.length R.length = N at hN hX hlt hj hmeas ⊢
    conv => whnf
    conv => whnf
    refine ifB_dec (fun w1 => ?_) (fun w1 => ?_)
    · (exfalso; omega)
    · conv => whnf
      conv => whnf
      refine .inr (.inl ⟨[], ?_⟩)
      conv => whnf
      conv => whnf
      refine ⟨[.forget [67, 23, 0, 1, 5, 6, 21, 22]], [0, 3, 7, 8, 9], fun st mq => ∃ (i : Nat) (a : Int), (i ≤ N) ∧ (a.natAbs = gcdR (X.take i)) ∧ st = ⟨[(0, .oslice 0 0 0 N (some N)), (3, i64 a), (7, .oslice 0 0 0 N (some N)), (8, i64 N), (9, i64 i)], ⟨[⟨1, N, fun i => [i64 (X.getD i 0)], 0, false, true, false⟩], [], none, 0⟩, []⟩ ∧ mq = N - i,
        ⟨_, _, ⟨0, 0, by omega, rfl, rfl, rfl⟩, ⟨⟨.inl rfl, rfl, rfl, rfl⟩, ⟨⟨rfl, rfl, rfl, rfl, fun _ => rfl, fun _ _ => .inl rfl⟩, trivial⟩, trivial⟩⟩, ?_⟩
      rintro s0 m0 ⟨i, a, hi, ha, rfl, hmeas⟩
      have hgl := gcdR_le (hXs.take i)
      by_cases hlt : i < N
      · have hx := hXs _ (getD_memI (show i < X.length by omega))
        have hi0 : 0 + (i : Int).toNat = i := by omega
        conv => whnf
        conv => whnf
        conv => whnf
        refine ifB_dec (fun w2 => ?_) (fun w2 => ?_)
        · conv => whnf
          conv => whnf
          conv => whnf
          refine ⟨⟨(by omega), (by omega)⟩, ?_⟩
          conv => whnf
          conv => whnf
          conv => whnf
          refine ⟨[], [0, 3, 5, 7, 8, 9], fun st mq => ∃ (c : Int) (b : Int), (c.natAbs ≤ 16000000000000000 ∧ b.natAbs ≤ 16000000000000000) ∧ (Nat.gcd c.natAbs b.natAbs = gcdR (X.take (i + 1))) ∧ st = ⟨[(0, .oslice 0 0 0 N (some N)), (3, i64 c), (5, i64 b), (7, .oslice 0 0 0 N (some N)), (8, i64 N), (9, i64 i)], ⟨[⟨1, N, fun i => [i64 (X.getD i 0)], 0, false, true, false⟩], [], none, 0⟩, []⟩ ∧ mq = b.natAbs,
            ⟨_, _, ⟨a, X.getD (0 + (i : Int).toNat) 0, ⟨by omega, (by rw [hi0]; exact hx)⟩, (by rw [hi0, take_snocI (by omega), gcdR_snoc, ha]), rfl, rfl⟩, ⟨⟨.inl rfl, rfl, rfl, rfl⟩, ⟨⟨rfl, rfl, rfl, rfl, fun _ => rfl, fun _ _ => .inl rfl⟩, trivial⟩, trivial⟩⟩, ?_⟩
          rintro s0 m0 ⟨c, b, hc, hg, rfl, hmeas⟩
          by_cases hb : b = 0
          · subst hb
            conv => whnf
            conv => whnf
            conv => whnf
            conv => whnf
            refine ⟨inK64 (by omega) (by omega), ?_⟩
            conv => whnf
            conv => whnf
            conv => whnf
            conv => whnf
            refine ⟨_, _, ⟨⟨i + 1, c, by omega, (by rw [← hg]; simp), rfl, rfl⟩, by omega⟩, ⟨⟨.inl rfl, rfl, rfl, rfl⟩, ⟨⟨rfl, rfl, rfl, rfl, fun _ => rfl, fun _ _ => .inl rfl⟩, trivial⟩, trivial⟩⟩
          · have ht := tmod_lt (a := c) hb
            conv => whnf
            conv => whnf
            conv => whnf
            conv => whnf
            refine ifB_bne (fun w3 => ?_) (fun w3 => ?_)
            · conv => whnf
              conv => whnf
              conv => whnf
              conv => whnf
              refine ⟨[], by kernel_rfl, ?_⟩
              conv => whnf
              conv => whnf
              conv => whnf
              conv => whnf
              refine ⟨(by omega), ?_⟩
              conv => whnf
              conv => whnf
              conv => whnf
              conv => whnf
              refine ⟨_, _, ⟨⟨b, c.tmod b, ⟨by omega, by omega⟩, (by rw [← hg, Int.natAbs_tmod, Nat.gcd_comm c.natAbs, Nat.gcd_rec b.natAbs c.natAbs, Nat.gcd_comm]), rfl, rfl⟩, by omega⟩, ⟨⟨.inl rfl, rfl, rfl, rfl⟩, ⟨⟨rfl, rfl, rfl, rfl, fun _ => rfl, fun _ _ => .inl rfl⟩, trivial⟩, trivial⟩⟩
            · (exfalso; omega)
        · (exfalso; omega)
      · have e : i = X.length := by omega
        rw [e, List.take_length] at ha
        rw [e, List.take_length] at hgl
        unfold redL
        rw [← ha]
        by_cases ha0 : a = 0
        · subst ha0
          rw [if_pos (show Int.natAbs 0 = 0 from rfl)]
          conv => whnf
          conv => whnf
          conv => whnf
          refine ifB_dec (fun w2 => ?_) (fun w2 => ?_)
          · (exfalso; omega)
          · conv => whnf
            conv => whnf
            conv => whnf
            refine ⟨?_, fun _ => ⟨rfl, ?_⟩⟩
            · exact ⟨rfl, hX.symm, fun i hi => rfl⟩
            · exact ⟨fun i _ x hx => ⟨_, List.mem_singleton.1 hx⟩, trivial⟩
        · rw [if_neg (by omega)]
          have h115 := S44 a (by omega)
          rw [show siz a = (a.natAbs : Nat) by unfold siz; split <;> omega] at h115
          conv => whnf
          conv => whnf
          conv => whnf
          refine ifB_dec (fun w2 => ?_) (fun w2 => ?_)
          · (exfalso; omega)
          · conv => whnf
            conv => whnf
            conv => whnf
            refine ifB_bne (fun w3 => ?_) (fun w3 => ?_)
            · conv => whnf
              conv => whnf
              conv => whnf
              refine ⟨[], [0, 3, 23, 24], fun st mq => ∃ (q : Nat) (Y : List Int), (q ≤ N) ∧ (Y.length = N) ∧ (∀ i, i < q → Y.getD i 0 = (X.getD i 0).tdiv (a.natAbs : Nat)) ∧ (∀ i, q ≤ i → Y.getD i 0 = X.getD i 0) ∧ st = ⟨[(0, .oslice 0 0 0 N (some N)), (3, i64 a), (23, i64 N), (24, i64 q)], ⟨[⟨1, N, fun i => [i64 (Y.getD i 0)], 0, false, true, false⟩], [], none, 0⟩, []⟩ ∧ mq = N - q,
                ⟨_, _, ⟨0, X, by omega, hX, (fun i h => absurd h (Nat.not_lt_zero i)), fun i _ => rfl, rfl, rfl⟩, ⟨⟨.inl rfl, rfl, rfl, rfl⟩, ⟨⟨rfl, rfl, rfl, rfl, fun _ => rfl, fun _ _ => .inl rfl⟩, trivial⟩, trivial⟩⟩, ?_⟩
              rintro s0 m0 ⟨q, Y, hq, hY, hYl, hYr, rfl, hmeas⟩
              by_cases hlq : q < N
              · have hq0 : 0 + (q : Int).toNat = q := by omega
                have hyq := hYr q (Nat.le_refl q)
                have hx := hXs _ (getD_memI (show q < X.length by omega))
                have ht := tdiv_sml (X.getD q 0) a.natAbs
                rw [← hyq] at hx ht
                rw [← hq0] at hx ht
                conv => whnf
                conv => whnf
                conv => whnf
                conv => whnf
                refine ifB_dec (fun w4 => ?_) (fun w4 => ?_)
                · conv => whnf
                  conv => whnf
                  conv => whnf
                  conv => whnf
                  refine ⟨[], by kernel_rfl, ?_⟩
                  conv => whnf
                  conv => whnf
                  conv => whnf
                  conv => whnf
                  refine ⟨⟨(by omega), (by omega)⟩, ?_⟩
                  conv => whnf
                  conv => whnf
                  conv => whnf
                  conv => whnf
                  refine .inl ⟨_, _, byX rfl (Sound1.pl (h115) rfl), ?_⟩
                  conv => whnf
                  conv => whnf
                  conv => whnf
                  conv => whnf
                  refine ⟨⟨(by omega), inK64 (by omega) (by omega)⟩, ?_⟩
                  conv => whnf
                  conv => whnf
                  conv => whnf
                  conv => whnf
                  refine ⟨⟨(by omega), (by omega)⟩, ?_⟩
                  refine ⟨_, fun i _ => rowI Y q i _ (by omega), ?_⟩
                  conv => whnf
                  conv => whnf
                  conv => whnf
                  conv => whnf
                  refine ⟨inK64 (by omega) (by omega), ?_⟩
                  conv => whnf
                  conv => whnf
                  conv => whnf
                  conv => whnf
                  refine ⟨_, _, ⟨⟨q + 1, Y.set q ((Y.getD (0 + (q : Int).toNat) 0).tdiv (a.natAbs : Nat)), by omega, (by rw [List.length_set]; exact hY), (set_ok (f := fun i => (X.getD i 0).tdiv (a.natAbs : Nat)) (by omega) hYl (by rw [hq0, hyq])), (fun i hi => by rw [getD_setI, if_neg (fun h => by omega)]; exact hYr i (by omega)), rfl, rfl⟩, by omega⟩, ⟨⟨.inl rfl, rfl, rfl, rfl⟩, ⟨⟨rfl, rfl, rfl, rfl, fun _ => rfl, fun _ _ => .inl rfl⟩, trivial⟩, trivial⟩⟩
                · (exfalso; omega)
              · have hYe : Y = X.map fun x => x.tdiv (a.natAbs : Nat) := by
                  refine List.ext_getElem (by rw [hY]; simp [hX]) fun i g1 g2 => ?_
                  have := hYl i (by omega)
                  rw [show Y.getD i 0 = Y[i] by simp [List.getD_eq_getElem?_getD, g1], show X.getD i 0 = X[i]'(by omega) by simp [List.getD_eq_getElem?_getD, show i < X.length by omega]] at this
                  rw [this]; simp
                rw [← hYe]
                conv => whnf
                conv => whnf
                conv => whnf
                conv => whnf
                refine ifB_dec (fun w4 => ?_) (fun w4 => ?_)
                · (exfalso; omega)
                · conv => whnf
                  conv => whnf
                  conv => whnf
                  conv => whnf
                  refine ⟨?_, fun _ => ⟨rfl, ?_⟩⟩
                  · exact ⟨rfl, hY.symm, fun i hi => rfl⟩
                  · exact ⟨fun i _ x hx => ⟨_, List.mem_singleton.1 hx⟩, trivial⟩
            · (exfalso; omega)
end Go.Tr

/- Contracts of chapter 6: the table of a polynomial; is it stable? Conditions: none. -/
namespace Go.Tr
open Go Go.Proofs
set_option maxRecDepth 20000
set_option maxHeartbeats 8000000

/-- Row after row, until one does not begin above 0. -/
def tabG (p : List Int) : Nat → List (List Int) → List (List Int)
  | 0, R => R
  | n + 1, R => if (nextL p R).getD 0 0 ≤ 0 then R ++ [nextL p R] else tabG p n (R ++ [nextL p R])
def tabL (p : List Int) : List (List Int) := tabG p p.length []
structure PolyOk (p : List Int) : Prop where
  p2 : 2 ≤ p.length ∧ p.length ≤ 5
  ps : Sml 1000 p
  p0 : 0 < p.getD 0 0
theorem coef_all : ∀ (l : List Int) (k : Nat), (eachI (fun _ x => coefE x) l k).2 = 0 → Sml 1000 l
  | [], _, _, x, hx => by cases hx
  | y :: l, k, h, x, hx => by
    unfold eachI at h
    by_cases hy : coefE y = 0
    · rw [if_pos hy] at h
      rcases List.mem_cons.1 hx with e | hx
      · rw [e]
        unfold coefE at hy
        split at hy
        · omega
        · omega
      · exact coef_all l (k + 1) h x hx
    · rw [if_neg hy] at h; exact absurd h hy
theorem PolyOk.of {p : List Int} (h : polyE p = 0) : PolyOk p := by
  unfold polyE at h
  by_cases h1 : shapeE p.length = 0
  · rw [if_neg (not_not_intro h1)] at h
    by_cases h2 : coefsE p = 0
    · rw [if_neg (not_not_intro h2)] at h
      by_cases h3 : p.getD 0 0 > 0
      · exact ⟨shape_ok h1, coef_all p 0 h2, h3⟩
      · rw [if_neg h3] at h; omega
    · rw [if_pos h2] at h; exact absurd h h2
  · rw [if_pos h1] at h; exact absurd h h1
theorem rowN_in {m k : Nat} (hm : m ≤ 5) (hk : k < m) : 1 ≤ rowN m k ∧ rowN m k ≤ 5 := by
  have h1 : 0 ≤ ((m : Int) - 1 - k).tdiv 2 := Int.tdiv_nonneg (by omega) (by decide)
  have h2 := tdiv_le (a := (m : Int) - 1 - k) (b := 2) (by decide)
  unfold rowN
  omega
theorem nextL_len (p : List Int) (R : List (List Int)) : (nextL p R).length = rowN p.length R.length := by
  unfold nextL
  rw [redL_len]; simp [rawL]
theorem nextL_sml {p : List Int} {R : List (List Int)} (h : RowsOk p R) : Sml (bnd R.length) (nextL p R) := by
  unfold nextL
  refine redL_sml fun x hx => ?_
  obtain ⟨i, _, rfl⟩ := List.mem_map.1 hx
  exact rowAt_sml h i
theorem getD_snoc {α : Type} (l : List α) (x d : α) (i : Nat) (hi : i < l.length + 1) : (l ++ [x]).getD i d = if i < l.length then l.getD i d else x := by
  by_cases h : i < l.length
  · rw [if_pos h]; simp [List.getD_eq_getElem?_getD, h, List.getElem?_append_left h]
  · obtain rfl : i = l.length := by omega
    rw [if_neg h]; simp [List.getD_eq_getElem?_getD]
/-- What holds of the rows so far. -/
structure RowsIn (p : List Int) (R : List (List Int)) : Prop where
  p2 : 2 ≤ p.length ∧ p.length ≤ 5
  ps : Sml 1000 p
  le : R.length ≤ p.length
  ne : ∀ i, i < R.length → 1 ≤ (R.getD i []).length ∧ (R.getD i []).length ≤ 5
  sm : ∀ i, i < R.length → Sml (bnd i) (R.getD i [])
theorem RowsIn.ok {p : List Int} {R : List (List Int)} (h : RowsIn p R) (hl : R.length < p.length) : RowsOk p R := ⟨h.p2, h.ps, hl, h.ne, h.sm⟩
theorem RowsIn.next {p : List Int} {R : List (List Int)} (h : RowsIn p R) (hl : R.length < p.length) : RowsIn p (R ++ [nextL p R]) := by
  have hr := rowN_in h.p2.2 hl
  have hL := nextL_len p R
  refine ⟨h.p2, h.ps, by rw [List.length_append]; show R.length + 1 ≤ _; omega, fun i hi => ?_, fun i hi => ?_⟩
  · rw [List.length_append] at hi
    have hi : i < R.length + 1 := hi
    rw [getD_snoc _ _ _ _ hi]
    by_cases hlt : i < R.length
    · rw [if_pos hlt]; exact h.ne i hlt
    · rw [if_neg hlt, hL]; exact hr
  · rw [List.length_append] at hi
    have hi : i < R.length + 1 := hi
    rw [getD_snoc _ _ _ _ hi]
    by_cases hlt : i < R.length
    · rw [if_pos hlt]; exact h.sm i hlt
    · rw [if_neg hlt, show i = R.length by omega]; exact nextL_sml (h.ok hl)
theorem approw {R : List (List Int)} {x : List Int} {m : Nat} (hm : R.length = m) (i : Nat) (hi : i < m + 1) : [ints ((R ++ [x]).getD i [])] = if i < m then [ints (R.getD (0 + i) [])] else List.take 1 (List.drop ((i - m) * 1) [ints x]) := by
  subst hm
  rw [Nat.zero_add, getD_snoc _ _ _ _ hi]
  by_cases h : i < R.length
  · rw [if_pos h, if_pos h]
  · rw [if_neg h, if_neg h, show i - R.length = 0 by omega]; rfl
theorem S48 (p : List Int) (hp : PolyOk p) : SP 48 [ints p] (listsA (tabL p)) false := by
  have h2 := hp.p2
  unfold tabL
  refine sound (d := 2) tok2 mixed2 Try.func48 (by kernel_rfl) (by kernel_rfl) ?_
  conv => whnf
  refine ⟨[.slot 3 1], [0, 3], fun st mq => ∃ (k : Nat) (R : List (List Int)) (n : Nat), (R.length = k) ∧ (k + n = p.length) ∧ (RowsIn p R) ∧ (tabG p n R = tabG p p.length []) ∧ st = ⟨[(0, ints p), (3, .oslice 0 0 0 k none)], ⟨[⟨1, k, fun i => [ints (R.getD i [])], 0, false, true, false⟩], [], none, 0⟩, []⟩ ∧ mq = n,
    ⟨_, _, ⟨0, [], p.length, rfl, by omega, ⟨h2, hp.ps, Nat.zero_le _, (fun i h => absurd h (Nat.not_lt_zero i)), fun i h => absurd h (Nat.not_lt_zero i)⟩, rfl, rfl, rfl⟩, ⟨⟨.inl rfl, rfl, rfl, rfl⟩, ⟨⟨rfl, rfl, rfl, rfl, fun _ => rfl, fun i h => .inl (absurd h (Nat.not_lt_zero i))⟩, trivial⟩, trivial⟩⟩, ?_⟩
  rintro s0 m0 ⟨k, R, n, hk, hn, hR, hT, rfl, hmeas⟩
  subst hk
  by_cases hlt : R.length < p.length
  · have h131 := S65 p R (hR.ok hlt)
    have hl := nextL_len p R
    have hrn := rowN_in h2.2 hlt
    have hT2 : tabG p n R = if (nextL p R).getD 0 0 ≤ 0 then R ++ [nextL p R] else tabG p (n - 1) (R ++ [nextL p R]) := by
      rw [show n = (n - 1) + 1 by omega]; rfl
    rw [hT2] at hT
    conv => whnf
    conv => whnf
    refine ifB_dec (fun w1 => ?_) (fun w1 => ?_)
    · conv => whnf
      conv => whnf
      refine .inr (.inr (.inr ⟨rfl, _, byX rfl (h131), ?_⟩))
      conv => whnf
      conv => whnf
      refine .inl ?_
      conv => whnf
      conv => whnf
      refine ⟨(by show _ * (24 + 1) ≤ _; omega), ?_⟩
      conv => whnf
      conv => whnf
      refine ⟨⟨(by omega), (by omega)⟩, ?_⟩
      conv => whnf
      conv => whnf
      refine ifB_dec (fun w2 => ?_) (fun w2 => ?_)
      · conv => whnf
        conv => whnf
        refine ⟨?_, nofun⟩
        have w2 : (nextL p R).getD 0 0 ≤ 0 := w2
        rw [if_pos w2] at hT
        rw [← hT]
        exact ⟨rfl, by rw [List.length_append]; rfl, fun i hi => (approw rfl i hi).symm⟩
      · have w2 : ¬ (nextL p R).getD 0 0 ≤ 0 := w2
        rw [if_neg w2] at hT
        conv => whnf
        conv => whnf
        refine ⟨_, _, ⟨⟨R.length + 1, R ++ [nextL p R], n - 1, (by rw [List.length_append]; rfl), by omega, hR.next hlt, hT, rfl, rfl⟩, by omega⟩, ⟨⟨.inl rfl, rfl, rfl, rfl⟩, ⟨⟨rfl, rfl, rfl, rfl, fun _ => rfl, fun i hi => .inl (approw rfl i hi)⟩, trivial⟩, trivial⟩⟩
    · (exfalso; omega)
  · have hn0 : n = 0 := by omega
    subst hn0
    rw [← hT]
    conv => whnf
    conv => whnf
    refine ifB_dec (fun w1 => ?_) (fun w1 => ?_)
    · (exfalso; omega)
    · conv => whnf
      conv => whnf
      refine ⟨?_, nofun⟩
      exact ⟨rfl, rfl, fun i hi => rfl⟩
theorem tabG_in {p : List Int} : ∀ (n : Nat) (R : List (List Int)), R.length + n = p.length → RowsIn p R → RowsIn p (tabG p n R) ∧ R.length ≤ (tabG p n R).length
  | 0, R, _, h => ⟨h, Nat.le_refl _⟩
  | n + 1, R, hn, h => by
    have hx := h.next (show R.length < p.length by omega)
    unfold tabG
    split
    · exact ⟨hx, by rw [List.length_append]; omega⟩
    · have := tabG_in n (R ++ [nextL p R]) (by rw [List.length_append]; show R.length + 1 + n = _; omega) hx
      exact ⟨this.1, by have h2 := this.2; rw [List.length_append] at h2; omega⟩
theorem tab_in {p : List Int} (hp : PolyOk p) : RowsIn p (tabL p) := (tabG_in p.length [] (by simp) ⟨hp.p2, hp.ps, Nat.zero_le _, (fun i h => absurd h (Nat.not_lt_zero i)), fun i h => absurd h (Nat.not_lt_zero i)⟩).1
/-- Has the table a row for each coefficient, and does the last one begin above 0? -/
def stabB (p : List Int) : Bool := decide ((tabL p).length = p.length) && decide (((tabL p).getD ((tabL p).length - 1) []).getD 0 0 > 0)
theorem S21 (p : List Int) (hp : PolyOk p) : SP 21 [ints p] (vb (stabB p)) false := by
  have h128 := S48 p hp
  have hi := tab_in hp
  have h2 := hp.p2
  have hle := hi.le
  unfold stabB
  generalize tabL p = R at h128 hi hle ⊢
  by_cases he : R.length = p.length
  · have hne := hi.ne (R.length - 1) (by omega)
    have e1 : ((R.length : Int) - 1).toNat = R.length - 1 := by omega
    rw [← e1] at hne ⊢
    rw [decide_eq_true he, Bool.true_and]
    refine sound (d := 2) tok2 mixed2 Try.func21 (by kernel_rfl) (by kernel_rfl) ?_
    conv => whnf
    refine .inl ⟨_, _, byX rfl (h128), ?_⟩
    conv => whnf
    refine ifB_beq (fun w1 => ?_) (fun w1 => ?_)
    · conv => whnf
      refine ⟨inK64 (by omega) (by omega), ?_⟩
      conv => whnf
      refine ⟨⟨(by omega), (by omega)⟩, ?_⟩
      conv => whnf
      refine ⟨⟨(by omega), (by omega)⟩, ?_⟩
      conv => whnf
      refine ⟨?_, nofun⟩
      rfl
    · (exfalso; omega)
  · rw [decide_eq_false he, Bool.false_and]
    refine sound (d := 2) tok2 mixed2 Try.func21 (by kernel_rfl) (by kernel_rfl) ?_
    conv => whnf
    refine .inl ⟨_, _, byX rfl (h128), ?_⟩
    conv => whnf
    refine ifB_beq (fun w1 => ?_) (fun w1 => ?_)
    · (exfalso; omega)
    · conv => whnf
      refine ⟨?_, nofun⟩
      rfl
theorem S6 (p : List Int) (hl : p.length ≤ 1000000) : SP 6 [ints p] (.tuple [vb (if polyE p = 0 then stabB p else false), i64 (polyE p)]) false := by
  have h64 := S20 p hl
  by_cases h : polyE p = 0
  · have h109 := S21 p (PolyOk.of h)
    rw [if_pos h]
    refine sound (d := 2) tok2 mixed2 Try.func6 (by kernel_rfl) (by kernel_rfl) ?_
    conv => whnf
    refine .inl ⟨_, _, byX rfl (Sound1.pl (h64) rfl), ?_⟩
    conv => whnf
    refine ifB_bne (fun w1 => ?_) (fun w1 => ?_)
    · (exfalso; omega)
    · conv => whnf
      refine .inl ⟨_, _, byX rfl (Sound1.pl (h109) rfl), ?_⟩
      conv => whnf
      refine ⟨?_, nofun⟩
      rw [h]
      exact ave_tup2 rfl rfl
  · rw [if_neg h]
    refine sound (d := 2) tok2 mixed2 Try.func6 (by kernel_rfl) (by kernel_rfl) ?_
    conv => whnf
    refine .inl ⟨_, _, byX rfl (Sound1.pl (h64) rfl), ?_⟩
    conv => whnf
    refine ifB_bne (fun w1 => ?_) (fun w1 => ?_)
    · conv => whnf
      refine ⟨?_, nofun⟩
      exact ave_tup2 rfl rfl
    · (exfalso; omega)
end Go.Tr

/- Contracts of chapter 6: lists of lists; the reference's table. Conditions: none. -/
namespace Go.Tr
open Go Go.Proofs
set_option maxRecDepth 20000
set_option maxHeartbeats 8000000

theorem lists_row {L : List (List Int)} {k i : Nat} (hi : i < k + 1) : [ints (L.getD i [])] = if i < k then [ints (L.getD (0 + i) [])] else List.take 1 (List.drop ((i - k) * 1) [ints (L.getD k [])]) := by
  rw [Nat.zero_add]
  by_cases e : i < k
  · rw [if_pos e]
  · rw [if_neg e, show i = k by omega, Nat.sub_self, Nat.zero_mul]; rfl
theorem getD_memL {L : List (List Int)} {i : Nat} (h : i < L.length) : L.getD i [] ∈ L := by
  simp [List.getD_eq_getElem?_getD, h]
end Go.Tr

/- Contracts of chapter 6: the reference's table. Conditions: none. -/
namespace Go.Tr
open Go Go.Proofs
set_option maxRecDepth 20000
set_option maxHeartbeats 8000000

def eveL (p : List Int) (n : Nat) : List Int := (List.range n).map fun j => entL p (2 * j)
def odL (p : List Int) (n : Nat) : List Int := (List.range n).map fun j => entL p (2 * j + 1)
theorem range_row {f : Nat → Int} (n i : Nat) (v : Int) (hv : v = f n) (hi : i < n + 1) : [i64 (((List.range (n + 1)).map f).getD i 0)] = if i < n then [i64 (((List.range n).map f).getD (0 + i) 0)] else List.take 1 (List.drop ((i - n) * 1) [i64 v]) := by
  subst hv
  rw [Nat.zero_add]
  by_cases h : i < n
  · rw [if_pos h]; simp [List.getD_eq_getElem?_getD, h, hi]
  · rw [if_neg h, show i = n by omega]; simp [List.getD_eq_getElem?_getD]
theorem rowN0 {m : Nat} (h : 2 ≤ m) : rowN m 0 = (m + 1) / 2 := by
  unfold rowN
  rw [Int.tdiv_eq_ediv_of_nonneg (by omega)]
  omega
theorem rowN1 {m : Nat} (h : 2 ≤ m) : rowN m 1 = m / 2 := by
  unfold rowN
  rw [Int.tdiv_eq_ediv_of_nonneg (by omega)]
  omega
theorem raw0 (p : List Int) (h : 2 ≤ p.length) : rawL p [] = eveL p ((p.length + 1) / 2) := by
  unfold rawL eveL
  rw [show ([] : List (List Int)).length = 0 from rfl, rowN0 h]
  rfl
theorem raw1 (p : List Int) (x : List Int) (h : 2 ≤ p.length) : rawL p [x] = odL p (p.length / 2) := by
  unfold rawL odL
  rw [show [x].length = 1 from rfl, rowN1 h]
  rfl
theorem ev_sml {p : List Int} (h : Sml 1000 p) (n : Nat) : Sml 1000 (eveL p n) := fun x hx => by
  obtain ⟨j, _, rfl⟩ := List.mem_map.1 hx
  exact ent_sml h _
theorem od_sml {p : List Int} (h : Sml 1000 p) (n : Nat) : Sml 1000 (odL p n) := fun x hx => by
  obtain ⟨j, _, rfl⟩ := List.mem_map.1 hx
  exact ent_sml h _
theorem Sml.mono {A B : Nat} {l : List Int} (h : Sml A l) (hab : A ≤ B) : Sml B l := fun x hx => Nat.le_trans (h x hx) hab
theorem tmod2 (i : Nat) : ((i : Int).tmod 2) = ((i % 2 : Nat) : Int) := by
  rw [Int.tmod_eq_emod_of_nonneg (by omega)]
  omega
end Go.Tr

/- Contracts of chapter 6: is a table accepted? Conditions: none. -/
namespace Go.Tr
open Go Go.Proofs
set_option maxRecDepth 20000
set_option maxHeartbeats 8000000

def eachL (g : Nat → List Int → Int) : List (List Int) → Nat → Int × Int
  | [], _ => (0, 0)
  | x :: l, k => if g k x = 0 then eachL g l (k + 1) else (k, g k x)
theorem eachL_drop (g : Nat → List Int → Int) (l : List (List Int)) (k : Nat) (h : k < l.length) : eachL g (l.drop k) k = if g k (l.getD k []) = 0 then eachL g (l.drop (k + 1)) (k + 1) else ((k : Int), g k (l.getD k [])) := by
  rw [List.drop_eq_getElem_cons h]
  simp [eachL, List.getD_eq_getElem?_getD, h]
theorem S53 (f : Nat) (X Y : List AV) (g : Nat → List Int → Int) (l : List (List Int)) (hl : l.length ≤ 1000000000) (hf : ∀ k : Nat, k < l.length → (∀ i, i < k → g i (l.getD i []) = 0) → SP f [i64 k, ints (l.getD k []), .rptr X, .rptr Y] (i64 (g k (l.getD k []))) false) : SP 53 [listsA l, .func (.func f) 0 [.rptr X, .rptr Y]] (.tuple [i64 (eachL g l 0).1, i64 (eachL g l 0).2]) false := by
  refine sound (d := 2) tok2 mixed2 Try.func53 (by kernel_rfl) (by kernel_rfl) ?_
  conv => whnf
  refine ⟨[], [1, 9, 10, 11], fun st mq => ∃ (k : Nat), (k ≤ l.length) ∧ (∀ i, i < k → g i (l.getD i []) = 0) ∧ (eachL g (l.drop k) k = eachL g l 0) ∧ st = ⟨[(1, .func (.func f) 0 [.rptr X, .rptr Y]), (9, listsA l), (10, i64 l.length), (11, i64 k)], ⟨[], [], none, 0⟩, []⟩ ∧ mq = l.length - k,
    ⟨_, _, ⟨0, by omega, (fun i h => absurd h (Nat.not_lt_zero i)), rfl, rfl, rfl⟩, ⟨⟨.inl rfl, rfl, rfl, rfl⟩, trivial, trivial⟩⟩, ?_⟩
  rintro s0 m0 ⟨k, hk, h0, he, rfl, hmeas⟩
  by_cases hlt : k < l.length
  · have hd := eachL_drop g l k hlt
    have hc := hf k hlt h0
    conv => whnf
    conv => whnf
    refine ifB_dec (fun w1 => ?_) (fun w1 => ?_)
    · conv => whnf
      conv => whnf
      refine ⟨⟨(by omega), (by omega)⟩, ?_⟩
      conv => whnf
      conv => whnf
      refine .inl ⟨_, _, byX rfl (Sound1.pl (hc) rfl), ?_⟩
      conv => whnf
      conv => whnf
      refine ifB_bne (fun w2 => ?_) (fun w2 => ?_)
      · conv => whnf
        conv => whnf
        refine ⟨?_, nofun⟩
        rw [if_neg w2] at hd
        exact ave_tup2 (endi (by rw [← he, hd])) (endi (by rw [← he, hd]))
      · conv => whnf
        conv => whnf
        refine ⟨inK64 (by omega) (by omega), ?_⟩
        rw [if_pos w2] at hd
        conv => whnf
        conv => whnf
        refine ⟨_, _, ⟨⟨k + 1, by omega, (fun i hi => by rcases Nat.lt_or_ge i k with h | h; exact h0 i h; rw [show i = k by omega]; exact w2), hd.symm.trans he, rfl, rfl⟩, by omega⟩, ⟨⟨.inl rfl, rfl, rfl, rfl⟩, trivial, trivial⟩⟩
    · (exfalso; omega)
  · have e : k = l.length := by omega
    subst e
    rw [List.drop_length] at he
    conv => whnf
    conv => whnf
    refine ifB_dec (fun w1 => ?_) (fun w1 => ?_)
    · (exfalso; omega)
    · conv => whnf
      conv => whnf
      refine ⟨?_, nofun⟩
      exact ave_tup2 (endi (by rw [← he]; rfl)) (endi (by rw [← he]; rfl))
/-- Is this the row that follows, and does it begin above 0? -/
def rowE (p : List Int) (T : List (List Int)) (k : Nat) (r : List Int) : Int := if r = nextL p (T.take k) ∧ r.getD 0 0 > 0 then 0 else 19
def chkT (p : List Int) (T : List (List Int)) : Int × Int := if T.length = p.length then eachL (rowE p T) T 0 else (0, 10)
theorem tabG_pre {p : List Int} : ∀ (n : Nat) (R : List (List Int)), ∃ E, tabG p n R = R ++ E
  | 0, R => ⟨[], by simp [tabG]⟩
  | n + 1, R => by
    unfold tabG
    split
    · exact ⟨_, rfl⟩
    · obtain ⟨E, hE⟩ := tabG_pre n (R ++ [nextL p R])
      exact ⟨nextL p R :: E, by rw [hE]; simp⟩
/-- Rows that are the beginning of the table: the next one is next in it. -/
theorem tab_at {p : List Int} {R : List (List Int)} {n : Nat} (h : tabG p (n + 1) R = tabL p) : R.length < (tabL p).length ∧ (tabL p).getD R.length [] = nextL p R ∧ (0 < (nextL p R).getD 0 0 → tabG p n (R ++ [nextL p R]) = tabL p) := by
  have hx : ∃ E, tabL p = R ++ (nextL p R :: E) := by
    rw [← h]
    unfold tabG
    split
    · exact ⟨[], rfl⟩
    · obtain ⟨E, hE⟩ := tabG_pre (p := p) n (R ++ [nextL p R])
      exact ⟨E, by rw [hE]; simp⟩
  obtain ⟨E, hE⟩ := hx
  refine ⟨by rw [hE]; simp, by rw [hE]; simp [List.getD_eq_getElem?_getD], fun h0 => ?_⟩
  unfold tabG at h
  rwa [if_neg (by omega)] at h
theorem take_snocL {L : List (List Int)} {k : Nat} (h : k < L.length) : L.take (k + 1) = L.take k ++ [L.getD k []] := by
  rw [List.take_add_one, show L.getD k [] = L[k] by simp [List.getD_eq_getElem?_getD, h]]
  simp [h]
structure Begun (p : List Int) (T : List (List Int)) (k : Nat) : Prop where
  len : (T.take k).length = k
  tab : tabG p (p.length - k) (T.take k) = tabL p
  ok : RowsIn p (T.take k)
theorem Begun.zero {p : List Int} (hp : PolyOk p) (T : List (List Int)) : Begun p T 0 := by
  refine ⟨by simp, rfl, ?_⟩
  exact ⟨hp.p2, hp.ps, Nat.zero_le _, (fun i h => absurd h (by simp)), fun i h => absurd h (by simp)⟩
theorem rowE_zero {p : List Int} {T : List (List Int)} {k : Nat} {r : List Int} (h : rowE p T k r = 0) : r = nextL p (T.take k) ∧ 0 < r.getD 0 0 := by
  unfold rowE at h
  by_cases hx : r = nextL p (T.take k) ∧ r.getD 0 0 > 0
  · exact hx
  · rw [if_neg hx] at h; omega
theorem Begun.next {p : List Int} {T : List (List Int)} {k : Nat} (h : Begun p T k) (hk : k < p.length) (ht : T.length = p.length) (h0 : rowE p T k (T.getD k []) = 0) : Begun p T (k + 1) := by
  have hr := rowE_zero h0
  have hs := take_snocL (show k < T.length by omega)
  have hl := h.len
  have ht1 : tabG p (p.length - (k + 1) + 1) (T.take k) = tabL p := by rw [show p.length - (k + 1) + 1 = p.length - k by omega]; exact h.tab
  refine ⟨?_, ?_, ?_⟩
  · rw [hs, List.length_append, hl]; rfl
  · rw [hs, hr.1]
    exact (tab_at ht1).2.2 (by rw [← hr.1]; exact hr.2)
  · rw [hs, hr.1]
    exact h.ok.next (by omega)
theorem begun_of {p : List Int} (hp : PolyOk p) {T : List (List Int)} (ht : T.length = p.length) : ∀ k, k ≤ p.length → (∀ i, i < k → rowE p T i (T.getD i []) = 0) → Begun p T k
  | 0, _, _ => Begun.zero hp T
  | k + 1, hk, h => (begun_of hp ht k (by omega) fun i hi => h i (by omega)).next (by omega) ht (h k (by omega))
end Go.Tr

/- The law GovernorTables returns true. Conditions: none. -/
namespace Go.Tr
open Go Go.Proofs
set_option maxRecDepth 20000
set_option maxHeartbeats 8000000

theorem tab_small {p : List Int} (hp : PolyOk p) : (tabL p).length ≤ 1000 ∧ ∀ l ∈ tabL p, l.length ≤ 1000 := by
  have h := tab_in hp
  have h1 := h.le
  have h2 := h.p2
  refine ⟨by omega, fun l hl => ?_⟩
  obtain ⟨i, hi, rfl⟩ := List.getElem_of_mem hl
  have := h.ne i hi
  rw [show (tabL p).getD i [] = (tabL p)[i] by simp [List.getD_eq_getElem?_getD, hi]] at this
  omega
end Go.Tr

/- Contracts of chapter 6: a polynomial shifted. Conditions: none. -/
namespace Go.Tr
open Go Go.Proofs
set_option maxRecDepth 20000
set_option maxHeartbeats 8000000

theorem S62 (l : List Int) (h : 0 < l.length) (hl : l.length ≤ 1000000) : SP 62 [ints l] (ints l) true := by
  refine sound (d := 2) tok2 mixed2 Try.func62 (by kernel_rfl) (by kernel_rfl) ?_
  rintro (_ | _) w1
  · conv => whnf
    refine .inl ?_
    conv => whnf
    refine ⟨⟨(by omega), (by show _ * (8 + 1) ≤ _; omega)⟩, ?_⟩
    conv => whnf
    refine ⟨?_, fun _ => ⟨rfl, ?_⟩⟩
    · exact ⟨rfl, Nat.zero_add _, fun i hi => rfl⟩
    · exact ⟨fun i _ x hx => ⟨_, List.mem_singleton.1 hx⟩, trivial⟩
  · (exact absurd (w1 (by omega)) nofun)
/-- One pass, so many steps from a place on; all passes. -/
def passG (t : Int) : Nat → Nat → List Int → List Int
  | 0, _, X => X
  | r + 1, i, X => passG t r (i + 1) (X.set i (X.getD i 0 + t * X.getD (i - 1) 0))
def shG (t : Int) : Nat → List Int → List Int
  | 0, X => X
  | k + 1, X => shG t k (passG t (k + 1) 1 X)
def shP (t : Int) (l : List Int) : List Int := shG t (l.length - 1) l
def tri : Nat → Nat
  | 0 => 0
  | k + 1 => tri k + (k + 1)
theorem tri_le {k : Nat} (h : k ≤ 4) : tri k ≤ 10 := by
  have : k = 0 ∨ k = 1 ∨ k = 2 ∨ k = 3 ∨ k = 4 := by omega
  rcases this with rfl | rfl | rfl | rfl | rfl <;> decide
theorem pass_len (t : Int) : ∀ (r i : Nat) (X : List Int), (passG t r i X).length = X.length
  | 0, _, _ => rfl
  | r + 1, i, X => by unfold passG; rw [pass_len t r, List.length_set]
theorem sh_len (t : Int) : ∀ (k : Nat) (X : List Int), (shG t k X).length = X.length
  | 0, _ => rfl
  | k + 1, X => by unfold shG; rw [sh_len t k, pass_len]
theorem shP_len (t : Int) (l : List Int) : (shP t l).length = l.length := sh_len t _ l
theorem set_sml {B : Nat} {X : List Int} {t : Int} (ht : t.natAbs ≤ 10) (h : Sml B X) (i : Nat) : Sml (11 * B) (X.set i (X.getD i 0 + t * X.getD (i - 1) 0)) := fun x hx => by
  rcases List.mem_or_eq_of_mem_set hx with hx | hx
  · have := h x hx; omega
  · rw [hx]
    have e1 : (X.getD i 0).natAbs ≤ B := ent_sml h i
    have e2 := mul_sml ht (show (X.getD (i - 1) 0).natAbs ≤ B from ent_sml h (i - 1))
    omega
theorem pow_sml {s : Nat} (h : s ≤ 10) : 1000 * 11 ^ s ≤ 30000000000000 := by
  have : 11 ^ s ≤ 11 ^ 10 := Nat.pow_le_pow_right (by decide) h
  omega
end Go.Tr

/- Contracts of chapter 6: the reference's shift, and margins. Conditions: none. -/
namespace Go.Tr
open Go Go.Proofs
set_option maxRecDepth 20000
set_option maxHeartbeats 8000000

/-- The reference's rounds. -/
def mxG (t : Int) (s : List Int) : Nat → Nat → List Int → List Int
  | 0, _, c => c
  | r + 1, j, c => mxG t s r (j + 1) (c.set (j + 1) (c.getD (j + 1) 0 + t * s.getD j 0))
def hoG (t : Int) (l : List Int) : Nat → Nat → List Int → List Int
  | 0, _, s => s
  | r + 1, i, s => hoG t l r (i + 1) ((mxG t s s.length 0 (s ++ [0])).set i ((mxG t s s.length 0 (s ++ [0])).getD i 0 + l.getD i 0))
def shR (t : Int) (l : List Int) : List Int := hoG t l (l.length - 1) 1 [l.getD 0 0]
theorem shR_eq (t : Int) (l : List Int) (h : 2 ≤ l.length ∧ l.length ≤ 5) : shR t l = shP t l := by
  match l, h with
  | [a, b], _ =>
    simp [shR, shP, hoG, mxG, shG, passG]
    grind
  | [a, b, c], _ =>
    simp [shR, shP, hoG, mxG, shG, passG]
    grind
  | [a, b, c, d], _ =>
    simp [shR, shP, hoG, mxG, shG, passG]
    grind
  | [a, b, c, d, e], _ =>
    simp [shR, shP, hoG, mxG, shG, passG]
    grind
  | [], h => simp at h
  | [_], h => simp at h
  | _ :: _ :: _ :: _ :: _ :: _ :: _, h => simp at h
theorem mx_len (t : Int) (s : List Int) : ∀ (r j : Nat) (c : List Int), (mxG t s r j c).length = c.length
  | 0, _, _ => rfl
  | r + 1, j, c => by unfold mxG; rw [mx_len t s r, List.length_set]
theorem S7x (l : List Int) (hl : l.length ≤ 1000000) : SP 7 [ints l] (ints l) true := by
  refine sound (d := 2) tok2 mixed2 Try.func7 (by kernel_rfl) (by kernel_rfl) ?_
  conv => whnf
  refine .inl ?_
  conv => whnf
  refine ⟨⟨(by omega), (by show _ * (8 + 1) ≤ _; omega)⟩, ?_⟩
  conv => whnf
  refine ⟨?_, fun _ => ⟨rfl, ?_⟩⟩
  · exact ⟨rfl, Nat.zero_add _, fun i hi => rfl⟩
  · exact ⟨fun i _ x hx => ⟨_, List.mem_singleton.1 hx⟩, trivial⟩
theorem set_sml2 {B : Nat} {X : List Int} {t y : Int} (ht : t.natAbs ≤ 10) (hy : y.natAbs ≤ B) (h : Sml B X) (k i : Nat) : Sml (11 * B) (X.set k (X.getD i 0 + t * y)) := fun x hx => by
  rcases List.mem_or_eq_of_mem_set hx with hx | hx
  · have := h x hx; omega
  · rw [hx]
    have e1 : (X.getD i 0).natAbs ≤ B := ent_sml h i
    have e2 := mul_sml ht hy
    omega
theorem pow_sml2 {s : Nat} (h : s ≤ 13) : 1000 * 11 ^ s ≤ 35000000000000000 := by
  have : 11 ^ s ≤ 11 ^ 13 := Nat.pow_le_pow_right (by decide) h
  omega
theorem pow_lo (s : Nat) : 1000 ≤ 1000 * 11 ^ s := by
  have : 1 ≤ 11 ^ s := Nat.one_le_pow _ _ (by decide)
  omega
/-- The error of a shift by a number. -/
def shE (t : Int) (l : List Int) : Int := if ¬(-10 ≤ t ∧ t ≤ 10) then 2 else if coefsE (shP t l) ≠ 0 then 8 else 0
end Go.Tr

/- Contracts of chapter 6: margins; the law GovernorMargins. Conditions: none. -/
namespace Go.Tr
open Go Go.Proofs
set_option maxRecDepth 20000
set_option maxHeartbeats 8000000

/-- The error of the package's shift. -/
def shftE (t : Int) (l : List Int) : Int := if polyE l = 0 then shE t l else polyE l
theorem PolyOk.len {p : List Int} (h : PolyOk p) : p.length ≤ 1000 := by have := h.p2; omega
theorem win10 (t : Int) : win t (-10) 10 = true ↔ -10 ≤ t ∧ t ≤ 10 := by unfold win; simp
/-- Shifted so far to the left a polynomial is one, and stable. -/
def okS (p : List Int) (d : Nat) : Bool := if polyE (shP (-(d : Int)) p) = 0 then stabB (shP (-(d : Int)) p) else false
def marF (p : List Int) : Nat → Nat
  | 0 => 0
  | d + 1 => if okS p (d + 1) = true then d + 1 else marF p d
theorem mar_le (p : List Int) : ∀ d, marF p d ≤ d
  | 0 => Nat.le_refl 0
  | d + 1 => by
    unfold marF
    split
    · exact Nat.le_refl _
    · exact Nat.le_succ_of_le (mar_le p d)
end Go.Tr

/- The law GovernorMargins returns true. Conditions: none. -/
namespace Go.Tr
open Go Go.Proofs
set_option maxRecDepth 20000
set_option maxHeartbeats 8000000

theorem coefs_of {l : List Int} (h : polyE l = 0) : coefsE l = 0 := by
  unfold polyE at h
  by_cases h1 : shapeE l.length = 0
  · rw [if_neg (not_not_intro h1)] at h
    by_cases h2 : coefsE l = 0
    · exact h2
    · rw [if_pos h2] at h; exact absurd h h2
  · rw [if_pos h1] at h; exact absurd h h1
theorem shE_in {t : Int} {l : List Int} (ht : -10 ≤ t ∧ t ≤ 10) : shE t l = if coefsE (shP t l) ≠ 0 then 8 else 0 := if_neg (not_not_intro ht)
end Go.Tr

/- Plain laws: when a polynomial of degree 1 to 4 is stable. Conditions: none. -/
namespace Go.Tr
open Go Go.Proofs
set_option maxRecDepth 20000
set_option maxHeartbeats 8000000

theorem gcd_fold : ∀ (l : List Int) (g : Nat), (l.foldl (fun g x => Nat.gcd g x.natAbs) g ∣ g) ∧ ∀ x ∈ l, (l.foldl (fun g x => Nat.gcd g x.natAbs) g) ∣ x.natAbs
  | [], _ => ⟨Nat.dvd_refl _, fun _ h => absurd h (by simp)⟩
  | x :: l, g => by
    have h := gcd_fold l (Nat.gcd g x.natAbs)
    refine ⟨Nat.dvd_trans h.1 (Nat.gcd_dvd_left _ _), fun y hy => ?_⟩
    rcases List.mem_cons.1 hy with e | hy
    · rw [e]; exact Nat.dvd_trans h.1 (Nat.gcd_dvd_right _ _)
    · exact h.2 y hy
/-- A row is a positive multiple of the row divided by its greatest common divisor. -/
theorem red_pos (l : List Int) : ∃ g : Int, 0 < g ∧ ∀ i, l.getD i 0 = g * (redL l).getD i 0 := by
  unfold redL
  by_cases h : gcdR l = 0
  · rw [if_pos h]; exact ⟨1, by decide, fun i => (Int.one_mul _).symm⟩
  · rw [if_neg h]
    refine ⟨(gcdR l : Nat), by omega, fun i => ?_⟩
    by_cases hi : i < l.length
    · rw [map_getD _ l i hi]
      exact (Int.mul_tdiv_cancel' (Int.ofNat_dvd_left.2 ((gcd_fold l 0).2 _ (getD_memI hi)))).symm
    · simp [List.getD_eq_getElem?_getD, show l.length ≤ i by omega]
theorem gpos {g x : Int} (hg : 0 < g) : 0 < g * x ↔ 0 < x := by
  constructor
  · intro h
    rcases Int.lt_or_le 0 x with h1 | h1
    · exact h1
    · have := Int.mul_le_mul_of_nonneg_left h1 (Int.le_of_lt hg)
      rw [Int.mul_zero] at this
      omega
  · exact fun h => Int.mul_pos hg h
/-- So many rows more all begin above 0. -/
def stG (p : List Int) : Nat → List (List Int) → Prop
  | 0, _ => True
  | n + 1, R => 0 < (nextL p R).getD 0 0 ∧ stG p n (R ++ [nextL p R])
theorem tab_st (p : List Int) : ∀ (n : Nat) (R : List (List Int)), R.length + (n + 1) = p.length → (((tabG p (n + 1) R).length = p.length ∧ 0 < ((tabG p (n + 1) R).getD ((tabG p (n + 1) R).length - 1) []).getD 0 0) ↔ stG p (n + 1) R)
  | n, R, h => by
    have hl : (R ++ [nextL p R]).getD ((R ++ [nextL p R]).length - 1) [] = nextL p R := by simp [List.getD_eq_getElem?_getD]
    by_cases h0 : (nextL p R).getD 0 0 ≤ 0
    · have e : tabG p (n + 1) R = R ++ [nextL p R] := if_pos h0
      rw [e, hl]
      exact ⟨fun hx => absurd hx.2 (by omega), fun hx => absurd hx.1 (by omega)⟩
    · have e : tabG p (n + 1) R = tabG p n (R ++ [nextL p R]) := if_neg h0
      rw [e]
      match n, h with
      | 0, h =>
        show ((R ++ [nextL p R]).length = p.length ∧ 0 < ((R ++ [nextL p R]).getD ((R ++ [nextL p R]).length - 1) []).getD 0 0) ↔ _
        rw [hl]
        exact ⟨fun hx => ⟨hx.2, trivial⟩, fun hx => ⟨by simp; omega, hx.1⟩⟩
      | n + 1, h =>
        rw [tab_st p n (R ++ [nextL p R]) (by simp; omega)]
        exact ⟨fun hx => ⟨by omega, hx⟩, fun hx => hx.2⟩
theorem stab_iff {p : List Int} {n : Nat} (h : p.length = n + 1) : stabB p = true ↔ stG p (n + 1) [] := by
  have ht := tab_st p n [] (by simp; omega)
  rw [← ht]
  unfold stabB tabL
  rw [h, Bool.and_eq_true, decide_eq_true_eq, decide_eq_true_eq]
theorem next_of {p : List Int} {R : List (List Int)} {m k n : Nat} (hm : p.length = m) (hk : R.length = k) (hn : rowN m k = n) : nextL p R = redL ((List.range n).map (rowAt p R)) := by
  unfold nextL rawL
  rw [hm, hk, hn]
theorem st2 (a b : Int) : stabB [a, b] = true ↔ 0 < a ∧ 0 < b := by
  rw [stab_iff (n := 1) rfl]
  obtain ⟨g0, p0, h0⟩ := red_pos [a]
  obtain ⟨g1, p1, h1⟩ := red_pos [b]
  have e0 : a = g0 * (redL [a]).getD 0 0 := h0 0
  have e1 : b = g1 * (redL [b]).getD 0 0 := h1 0
  have n0 : nextL [a, b] [] = redL [a] := (next_of (m := 2) (k := 0) (n := 1) rfl rfl (by decide)).trans rfl
  have n1 : ∀ X, nextL [a, b] [X] = redL [b] := fun _ => (next_of (m := 2) (k := 1) (n := 1) rfl rfl (by decide)).trans rfl
  show (0 < (nextL [a, b] []).getD 0 0 ∧ 0 < (nextL [a, b] [nextL [a, b] []]).getD 0 0 ∧ True) ↔ _
  rw [n1, n0]
  rw [e0, e1, gpos p0, gpos p1]
  simp only [and_true, ← e0, ← e1]
theorem st3 (a b c : Int) : stabB [a, b, c] = true ↔ 0 < a ∧ 0 < b ∧ 0 < c := by
  rw [stab_iff (n := 2) rfl]
  obtain ⟨g0, p0, h0⟩ := red_pos [a, c]
  obtain ⟨g1, p1, h1⟩ := red_pos [b]
  have e0 : a = g0 * (redL [a, c]).getD 0 0 := h0 0
  have e2 : c = g0 * (redL [a, c]).getD 1 0 := h0 1
  have e1 : b = g1 * (redL [b]).getD 0 0 := h1 0
  have z1 : (redL [b]).getD 1 0 = 0 := by
    have h := h1 1
    rcases Int.mul_eq_zero.1 h.symm with h | h
    · omega
    · exact h
  have n0 : nextL [a, b, c] [] = redL [a, c] := (next_of (m := 3) (k := 0) (n := 2) rfl rfl (by decide)).trans rfl
  have n1 : ∀ X, nextL [a, b, c] [X] = redL [b] := fun _ => (next_of (m := 3) (k := 1) (n := 1) rfl rfl (by decide)).trans rfl
  have n2 : ∀ X Y : List Int, nextL [a, b, c] [X, Y] = redL [Y.getD 0 0 * X.getD 1 0 - X.getD 0 0 * Y.getD 1 0] := fun _ _ => (next_of (m := 3) (k := 2) (n := 1) rfl rfl (by decide)).trans rfl
  show (0 < (nextL [a, b, c] []).getD 0 0 ∧ 0 < (nextL [a, b, c] [nextL [a, b, c] []]).getD 0 0 ∧ 0 < (nextL [a, b, c] [nextL [a, b, c] [], nextL [a, b, c] [nextL [a, b, c] []]]).getD 0 0 ∧ True) ↔ _
  rw [n2, n1, n0]
  rw [z1, Int.mul_zero, Int.sub_zero]
  obtain ⟨g2, p2, h2⟩ := red_pos [(redL [b]).getD 0 0 * (redL [a, c]).getD 1 0]
  have e3 := h2 0
  generalize (redL [(redL [b]).getD 0 0 * (redL [a, c]).getD 1 0]).getD 0 0 = z at e3 ⊢
  generalize (redL [a, c]).getD 0 0 = x at e0 e2 e3 ⊢
  generalize (redL [a, c]).getD 1 0 = w at e0 e2 e3 ⊢
  generalize (redL [b]).getD 0 0 = y at e1 e3 ⊢
  have e3 : y * w = g2 * z := e3
  subst e0 e1 e2
  rw [gpos p0, gpos p1, gpos p0]
  constructor
  · rintro ⟨q0, q1, q2, _⟩
    exact ⟨q0, q1, (gpos q1).1 (by rw [e3]; exact (gpos p2).2 q2)⟩
  · rintro ⟨q0, q1, q2⟩
    exact ⟨q0, q1, (gpos p2).1 (by rw [← e3]; exact (gpos q1).2 q2), trivial⟩
theorem st4 (a b c d : Int) : stabB [a, b, c, d] = true ↔ 0 < a ∧ 0 < b ∧ 0 < b * c - a * d ∧ 0 < d := by
  rw [stab_iff (n := 3) rfl]
  obtain ⟨g0, p0, h0⟩ := red_pos [a, c]
  obtain ⟨g1, p1, h1⟩ := red_pos [b, d]
  have ea : a = g0 * (redL [a, c]).getD 0 0 := h0 0
  have ec : c = g0 * (redL [a, c]).getD 1 0 := h0 1
  have eb : b = g1 * (redL [b, d]).getD 0 0 := h1 0
  have ed : d = g1 * (redL [b, d]).getD 1 0 := h1 1
  have n0 : nextL [a, b, c, d] [] = redL [a, c] := (next_of (m := 4) (k := 0) (n := 2) rfl rfl (by decide)).trans rfl
  have n1 : ∀ X, nextL [a, b, c, d] [X] = redL [b, d] := fun _ => (next_of (m := 4) (k := 1) (n := 2) rfl rfl (by decide)).trans rfl
  have n2 : ∀ X Y : List Int, nextL [a, b, c, d] [X, Y] = redL [Y.getD 0 0 * X.getD 1 0 - X.getD 0 0 * Y.getD 1 0] := fun _ _ => (next_of (m := 4) (k := 2) (n := 1) rfl rfl (by decide)).trans rfl
  have n3 : ∀ X Y Z : List Int, nextL [a, b, c, d] [X, Y, Z] = redL [Z.getD 0 0 * Y.getD 1 0 - Y.getD 0 0 * Z.getD 1 0] := fun _ _ _ => (next_of (m := 4) (k := 3) (n := 1) rfl rfl (by decide)).trans rfl
  unfold stG
  rw [n0]
  unfold stG
  simp only [List.nil_append]
  rw [n1]
  unfold stG
  simp only [List.cons_append, List.nil_append]
  rw [n2]
  unfold stG
  simp only [List.cons_append, List.nil_append]
  rw [n3]
  unfold stG
  generalize (redL [a, c]).getD 0 0 = x0 at ea ⊢
  generalize (redL [a, c]).getD 1 0 = x1 at ec ⊢
  generalize (redL [b, d]).getD 0 0 = y0 at eb ⊢
  generalize (redL [b, d]).getD 1 0 = y1 at ed ⊢
  obtain ⟨g2, p2, h2⟩ := red_pos [y0 * x1 - x0 * y1]
  have e2 : y0 * x1 - x0 * y1 = g2 * (redL [y0 * x1 - x0 * y1]).getD 0 0 := h2 0
  have z2 : (redL [y0 * x1 - x0 * y1]).getD 1 0 = 0 := by
    have h := h2 1
    rcases Int.mul_eq_zero.1 h.symm with h | h
    · omega
    · exact h
  rw [z2, Int.mul_zero, Int.sub_zero]
  generalize (redL [y0 * x1 - x0 * y1]).getD 0 0 = z at e2 ⊢
  obtain ⟨g3, p3, h3⟩ := red_pos [z * y1]
  have e3 : z * y1 = g3 * (redL [z * y1]).getD 0 0 := h3 0
  generalize (redL [z * y1]).getD 0 0 = u at e3 ⊢
  subst ea eb ec ed
  have e4 : g1 * y0 * (g0 * x1) - g0 * x0 * (g1 * y1) = g0 * g1 * (g2 * z) := by rw [← e2]; grind
  rw [e4, gpos p0, gpos p1, gpos p1, gpos (Int.mul_pos p0 p1), gpos p2]
  constructor
  · rintro ⟨q0, q1, q2, q3, _⟩
    exact ⟨q0, q1, q2, (gpos q2).1 (by rw [e3]; exact (gpos p3).2 q3)⟩
  · rintro ⟨q0, q1, q2, q3⟩
    exact ⟨q0, q1, q2, (gpos p3).1 (by rw [← e3]; exact (gpos q2).2 q3), trivial⟩
theorem st5 (a b c d e : Int) : stabB [a, b, c, d, e] = true ↔ 0 < a ∧ 0 < b ∧ 0 < b * c - a * d ∧ 0 < (b * c - a * d) * d - b * b * e ∧ 0 < e := by
  rw [stab_iff (n := 4) rfl]
  obtain ⟨g0, p0, h0⟩ := red_pos [a, c, e]
  obtain ⟨g1, p1, h1⟩ := red_pos [b, d]
  have ea : a = g0 * (redL [a, c, e]).getD 0 0 := h0 0
  have ec : c = g0 * (redL [a, c, e]).getD 1 0 := h0 1
  have ee : e = g0 * (redL [a, c, e]).getD 2 0 := h0 2
  have eb : b = g1 * (redL [b, d]).getD 0 0 := h1 0
  have ed : d = g1 * (redL [b, d]).getD 1 0 := h1 1
  have z1 : (redL [b, d]).getD 2 0 = 0 := by
    have h := h1 2
    rcases Int.mul_eq_zero.1 h.symm with h | h
    · omega
    · exact h
  have n0 : nextL [a, b, c, d, e] [] = redL [a, c, e] := (next_of (m := 5) (k := 0) (n := 3) rfl rfl (by decide)).trans rfl
  have n1 : ∀ X, nextL [a, b, c, d, e] [X] = redL [b, d] := fun _ => (next_of (m := 5) (k := 1) (n := 2) rfl rfl (by decide)).trans rfl
  unfold stG
  rw [n0]
  unfold stG
  simp only [List.nil_append]
  rw [n1]
  have n2 : nextL [a, b, c, d, e] [redL [a, c, e], redL [b, d]] = redL [(redL [b, d]).getD 0 0 * (redL [a, c, e]).getD 1 0 - (redL [a, c, e]).getD 0 0 * (redL [b, d]).getD 1 0, (redL [b, d]).getD 0 0 * (redL [a, c, e]).getD 2 0 - (redL [a, c, e]).getD 0 0 * (redL [b, d]).getD 2 0] := (next_of (m := 5) (k := 2) (n := 2) rfl rfl (by decide)).trans rfl
  rw [z1, Int.mul_zero, Int.sub_zero] at n2
  unfold stG
  simp only [List.cons_append, List.nil_append]
  rw [n2]
  have n3 : ∀ X Y Z : List Int, nextL [a, b, c, d, e] [X, Y, Z] = redL [Z.getD 0 0 * Y.getD 1 0 - Y.getD 0 0 * Z.getD 1 0] := fun _ _ _ => (next_of (m := 5) (k := 3) (n := 1) rfl rfl (by decide)).trans rfl
  have n4 : ∀ X Y Z U : List Int, nextL [a, b, c, d, e] [X, Y, Z, U] = redL [U.getD 0 0 * Z.getD 1 0 - Z.getD 0 0 * U.getD 1 0] := fun _ _ _ _ => (next_of (m := 5) (k := 4) (n := 1) rfl rfl (by decide)).trans rfl
  unfold stG
  simp only [List.cons_append, List.nil_append]
  rw [n3]
  unfold stG
  simp only [List.cons_append, List.nil_append]
  rw [n4]
  generalize (redL [a, c, e]).getD 0 0 = x0 at ea ⊢
  generalize (redL [a, c, e]).getD 1 0 = x1 at ec ⊢
  generalize (redL [a, c, e]).getD 2 0 = x2 at ee ⊢
  generalize (redL [b, d]).getD 0 0 = y0 at eb ⊢
  generalize (redL [b, d]).getD 1 0 = y1 at ed ⊢
  obtain ⟨g2, p2, h2⟩ := red_pos [y0 * x1 - x0 * y1, y0 * x2]
  have e2 : y0 * x1 - x0 * y1 = g2 * (redL [y0 * x1 - x0 * y1, y0 * x2]).getD 0 0 := h2 0
  have f2 : y0 * x2 = g2 * (redL [y0 * x1 - x0 * y1, y0 * x2]).getD 1 0 := h2 1
  generalize (redL [y0 * x1 - x0 * y1, y0 * x2]).getD 0 0 = z0 at e2 ⊢
  generalize (redL [y0 * x1 - x0 * y1, y0 * x2]).getD 1 0 = zz at f2 ⊢
  obtain ⟨g3, p3, h3⟩ := red_pos [z0 * y1 - y0 * zz]
  have e3 : z0 * y1 - y0 * zz = g3 * (redL [z0 * y1 - y0 * zz]).getD 0 0 := h3 0
  have u1 : (redL [z0 * y1 - y0 * zz]).getD 1 0 = 0 := by
    have h := h3 1
    rcases Int.mul_eq_zero.1 h.symm with h | h
    · omega
    · exact h
  rw [u1, Int.mul_zero, Int.sub_zero]
  generalize (redL [z0 * y1 - y0 * zz]).getD 0 0 = u at e3 ⊢
  obtain ⟨g4, p4, h4⟩ := red_pos [u * zz]
  have e4 : u * zz = g4 * (redL [u * zz]).getD 0 0 := h4 0
  generalize (redL [u * zz]).getD 0 0 = v at e4 ⊢
  subst ea eb ec ed ee
  have q2 : g1 * y0 * (g0 * x1) - g0 * x0 * (g1 * y1) = g0 * g1 * (g2 * z0) := by rw [← e2]; grind
  have q3 : (g1 * y0 * (g0 * x1) - g0 * x0 * (g1 * y1)) * (g1 * y1) - g1 * y0 * (g1 * y0) * (g0 * x2) = g0 * g1 * (g1 * (g2 * (g3 * u))) := by rw [← e3]; grind
  rw [q3, q2, gpos p0, gpos p1, gpos p0, gpos (Int.mul_pos p0 p1), gpos p2, gpos (Int.mul_pos p0 p1), gpos p1, gpos p2, gpos p3]
  constructor
  · rintro ⟨r0, r1, r2, r3, r4, _⟩
    have s1 : 0 < zz := (gpos r3).1 (by rw [e4]; exact (gpos p4).2 r4)
    exact ⟨r0, r1, r2, r3, (gpos r1).1 (by rw [f2]; exact (gpos p2).2 s1)⟩
  · rintro ⟨r0, r1, r2, r3, r4⟩
    have s1 : 0 < zz := (gpos p2).1 (by rw [← f2]; exact (gpos r1).2 r4)
    exact ⟨r0, r1, r2, r3, (gpos p4).1 (by rw [← e4]; exact (gpos r3).2 s1), trivial⟩
end Go.Tr

/- Plain laws: products of polynomials of degree 1 and 2 are stable exactly if both are. Conditions: none. -/
namespace Go.Tr
open Go Go.Proofs
set_option maxRecDepth 20000
set_option maxHeartbeats 8000000

theorem gneg {g x : Int} (hg : g < 0) : 0 < g * x ↔ x < 0 := by
  have h := gpos (g := -g) (x := -x) (by omega)
  rw [Int.neg_mul_neg] at h
  rw [h]; omega
theorem pr11 {a0 a1 b0 b1 : Int} (ha : 0 < a0) (hb : 0 < b0) : (0 < a0 * b1 + a1 * b0 ∧ 0 < a1 * b1) ↔ (0 < a1 ∧ 0 < b1) := by
  constructor
  · rintro ⟨h1, h2⟩
    rcases Int.lt_trichotomy a1 0 with h | h | h
    · have hb1 := (gneg h).1 h2
      have q1 := Int.mul_pos ha (show 0 < -b1 by omega)
      have q2 := Int.mul_pos (show 0 < -a1 by omega) hb
      exfalso; grind
    · subst h; simp at h2
    · exact ⟨h, (gpos h).1 h2⟩
  · rintro ⟨h1, h2⟩
    have q1 := Int.mul_pos ha h2
    have q2 := Int.mul_pos h1 hb
    exact ⟨by omega, Int.mul_pos h1 h2⟩
theorem pr12 {a0 a1 b0 b1 b2 : Int} (ha : 0 < a0) (hb : 0 < b0) : (0 < a0 * b1 + a1 * b0 ∧ 0 < (a0 * b1 + a1 * b0) * (a0 * b2 + a1 * b1) - a0 * b0 * (a1 * b2) ∧ 0 < a1 * b2) ↔ (0 < a1 ∧ 0 < b1 ∧ 0 < b2) := by
  have hQ : (a0 * b1 + a1 * b0) * (a0 * b2 + a1 * b1) - a0 * b0 * (a1 * b2) = (a0 * a0 * b2 + a1 * (a0 * b1 + a1 * b0)) * b1 := by grind
  rw [hQ]
  constructor
  · rintro ⟨h1, h2, h3⟩
    rcases Int.lt_trichotomy a1 0 with h | h | h
    · have hb2 := (gneg h).1 h3
      have q2 := Int.mul_pos (show 0 < -a1 by omega) hb
      have hb1 : 0 < b1 := (gpos ha).1 (by grind)
      have q3 := Int.mul_pos (Int.mul_pos ha ha) (show 0 < -b2 by omega)
      have q4 := Int.mul_pos (show 0 < -a1 by omega) h1
      have q5 : 0 < a0 * a0 * b2 + a1 * (a0 * b1 + a1 * b0) := (gpos hb1).1 (by rw [Int.mul_comm]; exact h2)
      exfalso; grind
    · subst h; simp at h3
    · have hb2 := (gpos h).1 h3
      have q3 := Int.mul_pos (Int.mul_pos ha ha) hb2
      have q4 := Int.mul_pos h h1
      exact ⟨h, (gpos (show 0 < a0 * a0 * b2 + a1 * (a0 * b1 + a1 * b0) by omega)).1 h2, hb2⟩
  · rintro ⟨h1, h2, h3⟩
    have q1 := Int.mul_pos ha h2
    have q2 := Int.mul_pos h1 hb
    have q3 := Int.mul_pos (Int.mul_pos ha ha) h3
    have q4 := Int.mul_pos h1 (show 0 < a0 * b1 + a1 * b0 by omega)
    exact ⟨by omega, Int.mul_pos (by omega) h2, Int.mul_pos h1 h3⟩
theorem sq_nn (x : Int) : 0 ≤ x * x := by
  rcases Int.le_total 0 x with h | h
  · exact Int.mul_nonneg h h
  · have := Int.mul_nonneg (show 0 ≤ -x by omega) (show 0 ≤ -x by omega)
    rwa [Int.neg_mul_neg] at this
theorem pr22 {a0 a1 a2 b0 b1 b2 : Int} (ha : 0 < a0) (hb : 0 < b0) :
    (0 < a0 * b1 + a1 * b0 ∧ 0 < (a0 * b1 + a1 * b0) * (a0 * b2 + a1 * b1 + a2 * b0) - a0 * b0 * (a1 * b2 + a2 * b1) ∧
      0 < ((a0 * b1 + a1 * b0) * (a0 * b2 + a1 * b1 + a2 * b0) - a0 * b0 * (a1 * b2 + a2 * b1)) * (a1 * b2 + a2 * b1) - (a0 * b1 + a1 * b0) * (a0 * b1 + a1 * b0) * (a2 * b2) ∧ 0 < a2 * b2) ↔
      ((0 < a1 ∧ 0 < a2) ∧ (0 < b1 ∧ 0 < b2)) := by
  have hQ : ((a0 * b1 + a1 * b0) * (a0 * b2 + a1 * b1 + a2 * b0) - a0 * b0 * (a1 * b2 + a2 * b1)) * (a1 * b2 + a2 * b1) - (a0 * b1 + a1 * b0) * (a0 * b1 + a1 * b0) * (a2 * b2) = ((a0 * b2 - a2 * b0) * (a0 * b2 - a2 * b0) + (a0 * b1 + a1 * b0) * (a1 * b2 + a2 * b1)) * (a1 * b1) := by grind
  constructor
  · rintro ⟨hB, hD2, hD3, hE⟩
    have q0 := Int.mul_pos (Int.mul_pos hB hB) hE
    have hD : 0 < a1 * b2 + a2 * b1 := (gpos hD2).1 (by omega)
    rw [hQ] at hD3
    have q1 := Int.mul_pos hB hD
    have q2 := sq_nn (a0 * b2 - a2 * b0)
    have h11 : 0 < a1 * b1 := (gpos (by omega)).1 hD3
    have h1 := (pr11 ha hb).1 ⟨hB, h11⟩
    -- both last ones have one sign
    rcases Int.lt_trichotomy a2 0 with h | h | h
    · have hb2 := (gneg h).1 hE
      have r1 := Int.mul_pos h1.1 (show 0 < -b2 by omega)
      have r2 := Int.mul_pos (show 0 < -a2 by omega) h1.2
      exfalso; grind
    · subst h; simp at hE
    · exact ⟨⟨h1.1, h⟩, h1.2, (gpos h).1 hE⟩
  · rintro ⟨⟨h1, h2⟩, h3, h4⟩
    have q1 := Int.mul_pos ha h3
    have q2 := Int.mul_pos h1 hb
    have hB : 0 < a0 * b1 + a1 * b0 := by omega
    have q3 := Int.mul_pos h1 h4
    have q4 := Int.mul_pos h2 h3
    have hD : 0 < a1 * b2 + a2 * b1 := by omega
    have hE := Int.mul_pos h2 h4
    have q5 := Int.mul_pos hB hD
    have q6 := sq_nn (a0 * b2 - a2 * b0)
    have q7 := Int.mul_pos (show 0 < (a0 * b2 - a2 * b0) * (a0 * b2 - a2 * b0) + (a0 * b1 + a1 * b0) * (a1 * b2 + a2 * b1) by omega) (Int.mul_pos h1 h3)
    rw [← hQ] at q7
    have q8 := Int.mul_pos (Int.mul_pos hB hB) hE
    refine ⟨hB, ?_, q7, hE⟩
    refine (gpos hD).1 ?_
    rw [Int.mul_comm]
    omega
end Go.Tr

/- Contracts of chapter 6: what all share; its examples. Conditions: none. -/
import Derived.Test.YtolohdpbgocgkaaGreatTr06
import Derived.Test.YtolohdpbgocgkaaGreatTr07
import Derived.Test.YtolohdpbgocgkaaGreatProg
set_option linter.unusedSectionVars false
set_option linter.unnecessarySimpa false
set_option linter.unusedVariables false
set_option linter.unusedSimpArgs false

namespace Go.Tr
open Go Go.Proofs

abbrev i64 (n : Int) : AV := .val (.int .i64 n)
abbrev vb (b : Bool) : AV := .val (.bool b)
theorem mixed2 : Tryz.prog.follows .mixedOrders = true := by kernel_rfl
instance gtab : GTab := ⟨fun _ => none⟩
set_option maxRecDepth 20000
set_option maxHeartbeats 8000000
abbrev SP := Sound1 Tryz.prog
/-- The kinds of the types that are compared. -/
def K2 (t : Nat) : Option (List LK) :=
  bif Nat.beq t 75 then some [.int .i64, .int .i64, .int .i64, .int .i64] else bif Nat.beq t 26 then some [.int .i64, .int .i64] else bif Nat.beq t 112 then some [.int .i64, .bool, .bool, .bool] else
  bif Nat.beq t 110 then some [.bool, .bool, .bool] else bif Nat.beq t 129 then some [.int .i64, .int .i64] else none
theorem tok2 : TOK Tryz.prog (TK Tryz.prog K2) := TOK_TK fun t ks h => by
  unfold K2 at h
  cases e1 : Nat.beq t 75 with
  | true => rw [e1] at h; cases h; cases Nat.eq_of_beq_eq_true e1; exact ⟨_, Tryz.underlying75, by kernel_rfl⟩
  | false =>
  rw [e1] at h
  cases e2 : Nat.beq t 26 with
  | true => rw [e2] at h; cases h; cases Nat.eq_of_beq_eq_true e2; exact ⟨_, Tryz.underlying26, by kernel_rfl⟩
  | false =>
  rw [e2] at h
  cases e3 : Nat.beq t 112 with
  | true => rw [e3] at h; cases h; cases Nat.eq_of_beq_eq_true e3; exact ⟨_, Tryz.underlying112, by kernel_rfl⟩
  | false =>
  rw [e3] at h
  cases e4 : Nat.beq t 110 with
  | true => rw [e4] at h; cases h; cases Nat.eq_of_beq_eq_true e4; exact ⟨_, Tryz.underlying110, by kernel_rfl⟩
  | false =>
  rw [e4] at h
  cases e5 : Nat.beq t 129 with
  | true => rw [e5] at h; cases h; cases Nat.eq_of_beq_eq_true e5; exact ⟨_, Tryz.underlying129, by kernel_rfl⟩
  | false => rw [e5] at h; cases h

theorem run47 : Run.ok Tryz.prog ⟨47, [.agg [i64 2, i64 1, i64 2, i64 50], i64 7], .tuple [i64 48, i64 0]⟩ := run_ok mixed2 (l := []) (by simp) 1000 60 (by kernel_rfl)
def intsV (l : List Int) : AV := .rslice 1 l.length fun i => [i64 (l.getD i 0)]
def boxE : AV := .agg [.rslice 2 4 fun i => [[i64 1, i64 1], [i64 2, i64 3], [i64 3, i64 4], [i64 1, i64 2]].getD i []]
theorem run20 : Run.ok Tryz.prog ⟨20, [intsV [1, 2, 3, 1], intsV [0, 1, 2, 3]], .tuple [intsV [0, 1, 2, 2], i64 0]⟩ := run_ok mixed2 (l := []) (by simp) 1000 60 (by kernel_rfl)
theorem run30 : Run.ok Tryz.prog ⟨30, [boxE], .tuple [vb true, i64 0]⟩ := run_ok mixed2 (l := []) (by simp) 1000 60 (by kernel_rfl)
theorem run70 : Run.ok Tryz.prog ⟨70, [.agg [i64 100, vb false, i64 103, vb false, i64 200, vb false], i64 5], .tuple [.agg [i64 103, vb false, vb false, vb true], i64 0]⟩ := run_ok mixed2 (l := []) (by simp) 1000 60 (by kernel_rfl)
theorem S16 : SP 16 [] (vb true) false := run_ok mixed2 (l := [⟨47, [.agg [i64 2, i64 1, i64 2, i64 50], i64 7], .tuple [i64 48, i64 0]⟩, ⟨20, [intsV [1, 2, 3, 1], intsV [0, 1, 2, 3]], .tuple [intsV [0, 1, 2, 2], i64 0]⟩, ⟨30, [boxE], .tuple [vb true, i64 0]⟩,
  ⟨70, [.agg [i64 100, vb false, i64 103, vb false, i64 200, vb false], i64 5], .tuple [.agg [i64 103, vb false, vb false, vb true], i64 0]⟩]) (by
    intro x hx
    simp only [List.mem_cons, List.not_mem_nil, or_false] at hx
    rcases hx with rfl | rfl | rfl | rfl
    · exact run47
    · exact run20
    · exact run30
    · exact run70) 1000 60 (by kernel_rfl)
end Go.Tr

/- Contracts of chapter 6: small functions; gates and rules. Conditions: none. -/
namespace Go.Tr
open Go Go.Proofs
set_option maxRecDepth 20000
set_option maxHeartbeats 8000000

def firstOf : List Int → Int
  | [] => 0
  | x :: r => if x = 0 then firstOf r else x
theorem firstOf_drop (l : List Int) (k : Nat) (h : k < l.length) : firstOf (l.drop k) = if l.getD k 0 = 0 then firstOf (l.drop (k+1)) else l.getD k 0 := by
  rw [List.drop_eq_getElem_cons h, firstOf]; simp [List.getD, h]
def ints (l : List Int) : AV := .rslice 1 l.length fun i => [i64 (l.getD i 0)]
theorem endi {a b : Int} (h : a = b) : i64 a = i64 b := congrArg (fun x => i64 x) h
theorem endb {a b : Bool} (h : a = b) : vb a = vb b := congrArg (fun x => vb x) h
theorem first2 (a b : Int) : firstOf [a, b] = if a ≠ 0 then a else b := by
  unfold firstOf firstOf firstOf
  by_cases h : a = 0
  · subst h; by_cases h2 : b = 0 <;> simp [h2]
  · simp [h]
theorem first3 (a b c : Int) : firstOf [a, b, c] = if a ≠ 0 then a else if b ≠ 0 then b else c := by
  unfold firstOf
  by_cases h : a = 0
  · rw [if_pos h, if_neg (by simpa using h)]; exact first2 b c
  · rw [if_neg h, if_pos h]

/-- Is a number within bounds? -/
def win (x a b : Int) : Bool := decide (a ≤ x ∧ x ≤ b)
theorem S118 (x a b : Int) : SP 118 [i64 x, i64 a, i64 b] (vb (win x a b)) false := by
  refine sound (d := 2) tok2 mixed2 Tryz.func118 (by kernel_rfl) (by kernel_rfl) ?_
  unfold win
  conv => whnf
  refine ifB_dec (fun w1 => ?_) (fun w1 => ?_)
  · conv => whnf
    refine ⟨?_, nofun⟩
    exact endb (decide_eq_decide.2 ⟨fun h => ⟨w1, h⟩, fun h => h.2⟩)
  · conv => whnf
    refine ⟨?_, nofun⟩
    exact endb (decide_eq_false fun h => w1 h.1).symm
theorem S68 (x a b : Int) : SP 68 [i64 x, i64 a, i64 b] (vb (win x a b)) false := by
  refine sound (d := 2) tok2 mixed2 Tryz.func68 (by kernel_rfl) (by kernel_rfl) ?_
  unfold win
  conv => whnf
  refine ifB_dec (fun w1 => ?_) (fun w1 => ?_)
  · conv => whnf
    refine ⟨?_, nofun⟩
    exact endb (decide_eq_decide.2 ⟨fun h => ⟨w1, h⟩, fun h => h.2⟩)
  · conv => whnf
    refine ⟨?_, nofun⟩
    exact endb (decide_eq_false fun h => w1 h.1).symm
theorem S114 (x b : Int) (h1 : -9223372036854775807 ≤ b ∧ b ≤ 9223372036854775807) : SP 114 [i64 x, i64 b] (vb (win x (-b) b)) false := by
  have h := S118 x (-b) b
  refine sound (d := 2) tok2 mixed2 Tryz.func114 (by kernel_rfl) (by kernel_rfl) ?_
  conv => whnf
  refine ⟨inK64 (by omega) (by omega), ?_⟩
  conv => whnf
  refine .inl ⟨_, _, byX rfl (Sound1.pl (h) rfl), ?_⟩
  conv => whnf
  refine ⟨?_, nofun⟩
  rfl
def siz (x : Int) : Int := if -x > x then -x else x
theorem S115 (x : Int) (h : -9223372036854775807 ≤ x ∧ x ≤ 9223372036854775807) : SP 115 [i64 x] (i64 (siz x)) false := by
  refine sound (d := 2) tok2 mixed2 Tryz.func115 (by kernel_rfl) (by kernel_rfl) ?_
  conv => whnf
  refine ⟨inK64 (by omega) (by omega), ?_⟩
  conv => whnf
  refine ⟨?_, nofun⟩
  rfl
theorem S93 (c : Bool) (e : Int) : SP 93 [vb c, i64 e] (i64 (if c then 0 else e)) false := by
  refine sound (d := 2) tok2 mixed2 Tryz.func93 (by kernel_rfl) (by kernel_rfl) ?_
  cases c with
  | true =>
    conv => whnf
    refine ⟨?_, nofun⟩
    rfl
  | false =>
    conv => whnf
    refine ⟨?_, nofun⟩
    rfl
theorem S90 (l : List Int) (hl : l.length ≤ 1000000000) : SP 90 [ints l] (i64 (firstOf l)) false := by
  refine sound (d := 2) tok2 mixed2 Tryz.func90 (by kernel_rfl) (by kernel_rfl) ?_
  conv => whnf
  refine ⟨[], [5, 6, 7], fun st mq => ∃ (k : Nat), (k ≤ l.length) ∧ (firstOf (l.drop k) = firstOf l) ∧ st = ⟨[(5, ints l), (6, i64 l.length), (7, i64 k)], ⟨[], [], none, 0⟩, []⟩ ∧ mq = l.length - k,
    ⟨_, _, ⟨0, by omega, rfl, rfl, rfl⟩, ⟨⟨.inl rfl, rfl, rfl, rfl⟩, trivial, trivial⟩⟩, ?_⟩
  rintro s0 m0 ⟨k, hk, hf, rfl, hmeas⟩
  by_cases hlt : k < l.length
  · have hd := firstOf_drop l k hlt
    conv => whnf
    conv => whnf
    refine ifB_dec (fun w1 => ?_) (fun w1 => ?_)
    · conv => whnf
      conv => whnf
      refine ⟨⟨(by omega), (by omega)⟩, ?_⟩
      conv => whnf
      conv => whnf
      refine ifB_bne (fun w2 => ?_) (fun w2 => ?_)
      · conv => whnf
        conv => whnf
        refine ⟨?_, nofun⟩
        rw [if_neg (show ¬ l.getD k 0 = 0 from w2)] at hd
        show i64 _ = i64 _
        rw [← hf, hd]; rfl
      · conv => whnf
        conv => whnf
        refine ⟨inK64 (by omega) (by omega), ?_⟩
        rw [if_pos (show l.getD k 0 = 0 from w2)] at hd
        conv => whnf
        conv => whnf
        refine ⟨_, _, ⟨⟨k + 1, by omega, hd.symm.trans hf, rfl, rfl⟩, by omega⟩, ⟨⟨.inl rfl, rfl, rfl, rfl⟩, trivial, trivial⟩⟩
    · (exfalso; omega)
  · have e : k = l.length := by omega
    subst e
    conv => whnf
    conv => whnf
    refine ifB_dec (fun w1 => ?_) (fun w1 => ?_)
    · (exfalso; omega)
    · conv => whnf
      conv => whnf
      refine ⟨?_, nofun⟩
      simp [firstOf] at hf
      show i64 _ = i64 _
      rw [← hf]
end Go.Tr

/- Values equal in depth. Conditions: none. -/
namespace Go.Tr
open Go
variable [GTab]

/-- Equal as far as it can be seen, in depth. -/
def AVF : Nat → AV → AV → Prop
  | 0, _, _ => False
  | n + 1, .rslice es len f, .rslice es' len' g => es = es' ∧ len = len' ∧ ∀ i, i < len → (f i).length = (g i).length ∧ ∀ j x y, nth? (f i) j = some x → nth? (g i) j = some y → x = y ∨ AVF n x y
  | _ + 1, .eslice, .rslice _ len _ => len = 0
  | n + 1, .agg l, .agg l' => l.length = l'.length ∧ ∀ i x y, nth? l i = some x → nth? l' i = some y → x = y ∨ AVF n x y
  | n + 1, .tuple l, .tuple l' => l.length = l'.length ∧ ∀ i x y, nth? l i = some x → nth? l' i = some y → x = y ∨ AVF n x y
  | _ + 1, x, y => x = y
theorem AVF_ok {P : Program} {w : World} {p : Nat → Prop} : ∀ (k : Nat) {x y : AV} {v : Value}, AVF k x y → VT P w p x v → VT P w p y v
  | 0, x, y, v, h, _ => h.elim
  | k + 1, x, y, v, h, hx => by
    have eqc : x = y → VT P w p y v := fun e => e ▸ hx
    have list : ∀ (l l' : List AV) (vs : Array Value), l.length = l'.length → (∀ i x y, nth? l i = some x → nth? l' i = some y → x = y ∨ AVF k x y) → (∀ i x, l[i]? = some x → VT P w p x (vs.getD i undef)) → ∀ i x, l'[i]? = some x → VT P w p x (vs.getD i undef) := by
      intro l l' vs hl he hv i x hi
      have hlt : i < l.length := by rw [hl]; exact (List.getElem?_eq_some_iff.1 hi).1
      have hvi := hv i _ (List.getElem?_eq_getElem hlt)
      rcases he i _ _ (by rw [nth?_eq]; exact List.getElem?_eq_getElem hlt) (by rw [nth?_eq]; exact hi) with e | e
      · rw [← e]; exact hvi
      · exact AVF_ok k e hvi
    cases x with
    | rslice es len f =>
      cases y with
      | rslice es' len' g =>
        obtain ⟨rfl, rfl, hf⟩ := h
        cases hx with
        | rslice0 => exact .rslice0 _ _ _ _
        | rslice _ _ _ b off kk gg h1 h2 h3 h4 h5 =>
          refine .rslice _ _ _ b off kk gg h1 h2 (fun i hi => by rw [← (hf i hi).1]; exact h3 i hi) h4 (fun i j y hi hy => ?_)
          have hl := (hf i hi).1
          have hlt : j < (f i).length := by rw [hl]; exact (List.getElem?_eq_some_iff.1 hy).1
          have hvi := h5 i j _ hi (List.getElem?_eq_getElem hlt)
          rcases (hf i hi).2 j _ y (by rw [nth?_eq]; exact List.getElem?_eq_getElem hlt) (by rw [nth?_eq]; exact hy) with e | e
          · rw [← e]; exact hvi
          · exact AVF_ok k e hvi
      | _ => exact eqc h
    | eslice =>
      cases y with
      | rslice es' len' g =>
        have h : len' = 0 := h
        subst h
        cases hx with
        | eslice a => exact .rslice0 _ _ _ _
      | _ => exact eqc h
    | agg l =>
      cases y with
      | agg l' =>
        obtain ⟨h1, h2⟩ := h
        cases hx with
        | agg _ vs g1 g2 g3 => exact .agg l' vs (by rw [← h1]; exact g1) g2 (list l l' vs h1 h2 g3)
      | _ => exact eqc h
    | tuple l =>
      cases y with
      | tuple l' =>
        obtain ⟨h1, h2⟩ := h
        cases hx with
        | tuple _ vs g1 g3 => exact .tuple l' vs (by rw [← h1]; exact g1) (list l l' vs h1 h2 g3)
      | _ => exact eqc h
    | _ => cases y <;> exact eqc h
theorem Sound1.argsD {P : Program} {f : FuncId} {xs ys : List AV} {r : AV} {fr : Bool} (h : Sound1 P f xs r fr) (hl : ys.length = xs.length) (hx : ∀ i y x, nth? ys i = some y → nth? xs i = some x → y = x ∨ ∃ k, AVF k y x) : Sound1 P f ys r fr := by
  refine ⟨h.1, fun w q vs hq hg hs hv => h.2 w q vs hq hg (hs.trans hl) fun i x hi => ?_⟩
  have hlt : i < ys.length := by rw [hl]; exact (List.getElem?_eq_some_iff.1 hi).1
  have hvi := hv i _ (List.getElem?_eq_getElem hlt)
  rcases hx i _ x (by rw [nth?_eq]; exact List.getElem?_eq_getElem hlt) (by rw [nth?_eq]; exact hi) with e | ⟨k, hk⟩
  · rw [← e]; exact hvi
  · exact AVF_ok k hk hvi
theorem AVF_rows {es n n' : Nat} {f g : Nat → List AV} (hn : n = n') (h : ∀ i, i < n → f i = g i) (k : Nat) : AVF (k + 1) (.rslice es n f) (.rslice es n' g) := by
  refine ⟨rfl, hn, fun i hi => ⟨by rw [h i hi], fun j x y hx hy => .inl ?_⟩⟩
  rw [h i hi] at hx
  exact Option.some.inj (hx.symm.trans hy)
end Go.Tr

/- Contracts of chapter 6: gates and rules. Conditions: none. -/
namespace Go.Tr
open Go Go.Proofs
set_option maxRecDepth 20000
set_option maxHeartbeats 8000000

theorem S90_2 (a b : Int) {f : Nat → List AV} (h : f 0 = [i64 a] ∧ f 1 = [i64 b]) : SP 90 [.rslice 1 2 f] (i64 (firstOf [a, b])) false := by
  have key : ∀ i, i < 2 → f i = [i64 (([a, b] : List Int).getD i 0)] := fun i hi => by
    match i, hi with
    | 0, _ => exact h.1
    | 1, _ => exact h.2
  refine (S90 [a, b] (by simp)).argsD rfl fun i y x hy hx => ?_
  match i, hy, hx with
  | 0, hy, hx => cases hy; cases hx; exact .inr ⟨1, AVF_rows rfl key 0⟩
theorem S90_3 (a b c : Int) {f : Nat → List AV} (h : f 0 = [i64 a] ∧ f 1 = [i64 b] ∧ f 2 = [i64 c]) : SP 90 [.rslice 1 3 f] (i64 (firstOf [a, b, c])) false := by
  have key : ∀ i, i < 3 → f i = [i64 (([a, b, c] : List Int).getD i 0)] := fun i hi => by
    match i, hi with
    | 0, _ => exact h.1
    | 1, _ => exact h.2.1
    | 2, _ => exact h.2.2
  refine (S90 [a, b, c] (by simp)).argsD rfl fun i y x hy hx => ?_
  match i, hy, hx with
  | 0, hy, hx => cases hy; cases hx; exact .inr ⟨1, AVF_rows rfl key 0⟩
/-- A gate: where it is, its limits, its rate; rules: band, fraction, set point. -/
structure Gt where
  a : Int
  l : Int
  h : Int
  r : Int
structure Ru where
  b : Int
  n : Int
  d : Int
  s : Int
abbrev gtA (g : Gt) : AV := .agg [i64 g.a, i64 g.l, i64 g.h, i64 g.r]
abbrev ruA (r : Ru) : AV := .agg [i64 r.b, i64 r.n, i64 r.d, i64 r.s]
def gateE (g : Gt) : Int :=
  if (0 ≤ g.l ∧ g.l ≤ 10000) ∧ (0 ≤ g.h ∧ g.h ≤ 10000) ∧ (0 ≤ g.a ∧ g.a ≤ 10000) ∧ (1 ≤ g.r ∧ g.r ≤ 10000) then (if g.l ≤ g.h then (if g.l ≤ g.a ∧ g.a ≤ g.h then 0 else 22) else 9) else 2
def rulesE (r : Ru) : Int := if (0 ≤ r.b ∧ r.b ≤ 100000) ∧ (0 ≤ r.n ∧ r.n ≤ 1000) ∧ (1 ≤ r.d ∧ r.d ≤ 1000) ∧ (0 ≤ r.s ∧ r.s ≤ 10000) then 0 else 2
def speedE (n : Int) : Int := if -100000 ≤ n ∧ n ≤ 100000 then 0 else 2
theorem S126 (x : Int) : SP 126 [i64 x] (vb (win x 0 10000)) false := by
  have h := S118 x 0 10000
  refine sound (d := 2) tok2 mixed2 Tryz.func126 (by kernel_rfl) (by kernel_rfl) ?_
  conv => whnf
  refine .inl ⟨_, _, byX rfl (Sound1.pl (h) rfl), ?_⟩
  conv => whnf
  refine ⟨?_, nofun⟩
  rfl
theorem S54 (n : Int) : SP 54 [i64 n] (i64 (speedE n)) false := by
  refine sound (d := 2) tok2 mixed2 Tryz.func54 (by kernel_rfl) (by kernel_rfl) ?_
  conv => whnf
  refine .inl ⟨_, _, byX rfl (Sound1.pl (S68 _ _ _) rfl), ?_⟩
  conv => whnf
  refine ifB_not ?_
  conv => whnf
  refine ifB_dec (fun w1 => ?_) (fun w1 => ?_)
  · conv => whnf
    refine ⟨?_, nofun⟩
    (exact endi (by unfold speedE; split <;> omega))
  · conv => whnf
    refine ⟨?_, nofun⟩
    (exact endi (by unfold speedE; split <;> omega))
theorem S122 (n : Int) : SP 122 [i64 n] (i64 (speedE n)) false := by
  have h := S114 n 100000
  have h93 := S93 (win n (-100000) 100000) 2
  refine sound (d := 2) tok2 mixed2 Tryz.func122 (by kernel_rfl) (by kernel_rfl) ?_
  conv => whnf
  refine .inl ⟨_, _, byX rfl (Sound1.pl (h (by omega)) rfl), ?_⟩
  conv => whnf
  refine .inl ⟨_, _, byX rfl (Sound1.pl (h93) rfl), ?_⟩
  conv => whnf
  refine ⟨?_, nofun⟩
  exact endi (by unfold speedE win; simp)
theorem S50 (g : Gt) : SP 50 [gtA g] (i64 (gateE g)) false := by
  refine sound (d := 2) tok2 mixed2 Tryz.func50 (by kernel_rfl) (by kernel_rfl) ?_
  conv => whnf
  refine .inl ⟨_, _, byX rfl (Sound1.pl (S68 _ _ _) rfl), ?_⟩
  conv => whnf
  refine ifB_not ?_
  conv => whnf
  refine ifB_dec (fun w1 => ?_) (fun w1 => ?_)
  · conv => whnf
    refine .inl ⟨_, _, byX rfl (Sound1.pl (S68 _ _ _) rfl), ?_⟩
    conv => whnf
    refine ifB_not ?_
    conv => whnf
    refine ifB_dec (fun w2 => ?_) (fun w2 => ?_)
    · conv => whnf
      refine .inl ⟨_, _, byX rfl (Sound1.pl (S68 _ _ _) rfl), ?_⟩
      conv => whnf
      refine ifB_not ?_
      conv => whnf
      refine ifB_dec (fun w3 => ?_) (fun w3 => ?_)
      · conv => whnf
        refine .inl ⟨_, _, byX rfl (Sound1.pl (S68 _ _ _) rfl), ?_⟩
        conv => whnf
        refine ifB_not ?_
        conv => whnf
        refine ifB_dec (fun w4 => ?_) (fun w4 => ?_)
        · conv => whnf
          refine ifB_dec (fun w5 => ?_) (fun w5 => ?_)
          · conv => whnf
            refine ⟨?_, nofun⟩
            (exact endi (by unfold gateE; (repeat' split) <;> omega))
          · conv => whnf
            refine .inl ⟨_, _, byX rfl (Sound1.pl (S68 _ _ _) rfl), ?_⟩
            conv => whnf
            refine ifB_not ?_
            conv => whnf
            refine ifB_dec (fun w6 => ?_) (fun w6 => ?_)
            · conv => whnf
              refine ⟨?_, nofun⟩
              (exact endi (by unfold gateE; (repeat' split) <;> omega))
            · conv => whnf
              refine ⟨?_, nofun⟩
              (exact endi (by unfold gateE; (repeat' split) <;> omega))
        · conv => whnf
          refine ⟨?_, nofun⟩
          (exact endi (by unfold gateE; (repeat' split) <;> omega))
      · conv => whnf
        refine ⟨?_, nofun⟩
        (exact endi (by unfold gateE; (repeat' split) <;> omega))
    · conv => whnf
      refine ⟨?_, nofun⟩
      (exact endi (by unfold gateE; (repeat' split) <;> omega))
  · conv => whnf
    refine ⟨?_, nofun⟩
    (exact endi (by unfold gateE; (repeat' split) <;> omega))
theorem S51 (r : Ru) : SP 51 [ruA r] (i64 (rulesE r)) false := by
  refine sound (d := 2) tok2 mixed2 Tryz.func51 (by kernel_rfl) (by kernel_rfl) ?_
  conv => whnf
  refine .inl ⟨_, _, byX rfl (Sound1.pl (S68 _ _ _) rfl), ?_⟩
  conv => whnf
  refine ifB_not ?_
  conv => whnf
  refine ifB_dec (fun w1 => ?_) (fun w1 => ?_)
  · conv => whnf
    refine .inl ⟨_, _, byX rfl (Sound1.pl (S68 _ _ _) rfl), ?_⟩
    conv => whnf
    refine ifB_not ?_
    conv => whnf
    refine ifB_dec (fun w2 => ?_) (fun w2 => ?_)
    · conv => whnf
      refine .inl ⟨_, _, byX rfl (Sound1.pl (S68 _ _ _) rfl), ?_⟩
      conv => whnf
      refine ifB_not ?_
      conv => whnf
      refine ifB_dec (fun w3 => ?_) (fun w3 => ?_)
      · conv => whnf
        refine .inl ⟨_, _, byX rfl (Sound1.pl (S68 _ _ _) rfl), ?_⟩
        conv => whnf
        refine ifB_not ?_
        conv => whnf
        refine ifB_dec (fun w4 => ?_) (fun w4 => ?_)
        · conv => whnf
          refine ⟨?_, nofun⟩
          (exact endi (by unfold rulesE; (repeat' split) <;> omega))
        · conv => whnf
          refine ⟨?_, nofun⟩
          (exact endi (by unfold rulesE; (repeat' split) <;> omega))
      · conv => whnf
        refine ⟨?_, nofun⟩
        (exact endi (by unfold rulesE; (repeat' split) <;> omega))
    · conv => whnf
      refine ⟨?_, nofun⟩
      (exact endi (by unfold rulesE; (repeat' split) <;> omega))
  · conv => whnf
    refine ⟨?_, nofun⟩
    (exact endi (by unfold rulesE; (repeat' split) <;> omega))
theorem S52 (g : Gt) : SP 52 [gtA g] (i64 (gateE g)) false := by
  have h90 := fun a b c => @S90_3 a b c
  refine sound (d := 2) tok2 mixed2 Tryz.func52 (by kernel_rfl) (by kernel_rfl) ?_
  conv => whnf
  refine .inl ⟨_, _, byX rfl (Sound1.pl (S126 _) rfl), ?_⟩
  conv => whnf
  refine ifB_dec (fun w1 => ?_) (fun w1 => ?_)
  · conv => whnf
    refine .inl ⟨_, _, byX rfl (Sound1.pl (S126 _) rfl), ?_⟩
    conv => whnf
    refine ifB_dec (fun w2 => ?_) (fun w2 => ?_)
    · conv => whnf
      refine .inl ⟨_, _, byX rfl (Sound1.pl (S126 _) rfl), ?_⟩
      conv => whnf
      refine ifB_dec (fun w3 => ?_) (fun w3 => ?_)
      · conv => whnf
        refine .inl ⟨_, _, byX rfl (Sound1.pl (S118 _ _ _) rfl), ?_⟩
        conv => whnf
        refine ⟨[], by kernel_rfl, ?_⟩
        conv => whnf
        refine .inl ⟨_, _, byX rfl (Sound1.pl (S93 _ _) rfl), ?_⟩
        conv => whnf
        refine .inl ⟨_, _, byX rfl (Sound1.pl (S93 _ _) rfl), ?_⟩
        conv => whnf
        refine .inl ⟨_, _, byX rfl (Sound1.pl (S118 _ _ _) rfl), ?_⟩
        conv => whnf
        refine .inl ⟨_, _, byX rfl (Sound1.pl (S93 _ _) rfl), ?_⟩
        conv => whnf
        refine .inl ⟨_, _, byX rfl (Sound1.pl (h90 _ _ _ ⟨rfl, rfl, rfl⟩) rfl), ?_⟩
        conv => whnf
        refine ⟨?_, nofun⟩
        (exact endi (by rw [first3]; unfold gateE win; simp only [decide_eq_true_eq]; (repeat' split) <;> first | omega | contradiction | simp_all))
      · conv => whnf
        refine ⟨[], by kernel_rfl, ?_⟩
        conv => whnf
        refine .inl ⟨_, _, byX rfl (Sound1.pl (S93 _ _) rfl), ?_⟩
        conv => whnf
        refine .inl ⟨_, _, byX rfl (Sound1.pl (S93 _ _) rfl), ?_⟩
        conv => whnf
        refine .inl ⟨_, _, byX rfl (Sound1.pl (S118 _ _ _) rfl), ?_⟩
        conv => whnf
        refine .inl ⟨_, _, byX rfl (Sound1.pl (S93 _ _) rfl), ?_⟩
        conv => whnf
        refine .inl ⟨_, _, byX rfl (Sound1.pl (h90 _ _ _ ⟨rfl, rfl, rfl⟩) rfl), ?_⟩
        conv => whnf
        refine ⟨?_, nofun⟩
        (exact endi (by rw [first3]; unfold gateE win; simp only [decide_eq_true_eq]; (repeat' split) <;> first | omega | contradiction | simp_all))
    · conv => whnf
      refine ⟨[], by kernel_rfl, ?_⟩
      conv => whnf
      refine .inl ⟨_, _, byX rfl (Sound1.pl (S93 _ _) rfl), ?_⟩
      conv => whnf
      refine .inl ⟨_, _, byX rfl (Sound1.pl (S93 _ _) rfl), ?_⟩
      conv => whnf
      refine .inl ⟨_, _, byX rfl (Sound1.pl (S118 _ _ _) rfl), ?_⟩
      conv => whnf
      refine .inl ⟨_, _, byX rfl (Sound1.pl (S93 _ _) rfl), ?_⟩
      conv => whnf
      refine .inl ⟨_, _, byX rfl (Sound1.pl (h90 _ _ _ ⟨rfl, rfl, rfl⟩) rfl), ?_⟩
      conv => whnf
      refine ⟨?_, nofun⟩
      (exact endi (by rw [first3]; unfold gateE win; simp only [decide_eq_true_eq]; (repeat' split) <;> first | omega | contradiction | simp_all))
  · conv => whnf
    refine ⟨[], by kernel_rfl, ?_⟩
    conv => whnf
    refine .inl ⟨_, _, byX rfl (Sound1.pl (S93 _ _) rfl), ?_⟩
    conv => whnf
    refine .inl ⟨_, _, byX rfl (Sound1.pl (S93 _ _) rfl), ?_⟩
    conv => whnf
    refine .inl ⟨_, _, byX rfl (Sound1.pl (S118 _ _ _) rfl), ?_⟩
    conv => whnf
    refine .inl ⟨_, _, byX rfl (Sound1.pl (S93 _ _) rfl), ?_⟩
    conv => whnf
    refine .inl ⟨_, _, byX rfl (Sound1.pl (h90 _ _ _ ⟨rfl, rfl, rfl⟩) rfl), ?_⟩
    conv => whnf
    refine ⟨?_, nofun⟩
    (exact endi (by rw [first3]; unfold gateE win; simp only [decide_eq_true_eq]; (repeat' split) <;> first | omega | contradiction | simp_all))
theorem S53 (r : Ru) : SP 53 [ruA r] (i64 (rulesE r)) false := by
  refine sound (d := 2) tok2 mixed2 Tryz.func53 (by kernel_rfl) (by kernel_rfl) ?_
  conv => whnf
  refine .inl ⟨_, _, byX rfl (Sound1.pl (S118 _ _ _) rfl), ?_⟩
  conv => whnf
  refine ifB_dec (fun w1 => ?_) (fun w1 => ?_)
  · conv => whnf
    refine .inl ⟨_, _, byX rfl (Sound1.pl (S118 _ _ _) rfl), ?_⟩
    conv => whnf
    refine ifB_dec (fun w2 => ?_) (fun w2 => ?_)
    · conv => whnf
      refine .inl ⟨_, _, byX rfl (Sound1.pl (S118 _ _ _) rfl), ?_⟩
      conv => whnf
      refine ifB_dec (fun w3 => ?_) (fun w3 => ?_)
      · conv => whnf
        refine .inl ⟨_, _, byX rfl (Sound1.pl (S126 _) rfl), ?_⟩
        conv => whnf
        refine .inl ⟨_, _, byX rfl (Sound1.pl (S93 _ _) rfl), ?_⟩
        conv => whnf
        refine ⟨?_, nofun⟩
        (exact endi (by unfold rulesE win; simp only [decide_eq_true_eq]; (repeat' split) <;> first | omega | contradiction | simp_all))
      · conv => whnf
        refine .inl ⟨_, _, byX rfl (Sound1.pl (S93 _ _) rfl), ?_⟩
        conv => whnf
        refine ⟨?_, nofun⟩
        (exact endi (by unfold rulesE; (repeat' split) <;> first | omega | contradiction | simp_all))
    · conv => whnf
      refine .inl ⟨_, _, byX rfl (Sound1.pl (S93 _ _) rfl), ?_⟩
      conv => whnf
      refine ⟨?_, nofun⟩
      (exact endi (by unfold rulesE; (repeat' split) <;> first | omega | contradiction | simp_all))
  · conv => whnf
    refine .inl ⟨_, _, byX rfl (Sound1.pl (S93 _ _) rfl), ?_⟩
    conv => whnf
    refine ⟨?_, nofun⟩
    (exact endi (by unfold rulesE; (repeat' split) <;> first | omega | contradiction | simp_all))
end Go.Tr

/- Contracts of chapter 6: the wanted position, steps of a gate. Conditions: none. -/
namespace Go.Tr
open Go Go.Proofs
set_option maxRecDepth 20000
set_option maxHeartbeats 8000000

theorem ave_tup2 {k : Nat} {a b a' b' : AV} (ha : AVE k a a') (hb : AVE k b b') : AVE (k + 1) (.tuple [a, b]) (.tuple [a', b']) := by
  refine ⟨rfl, fun i x y hx hy => ?_⟩
  match i, hx, hy with
  | 0, hx, hy => cases hx; cases hy; exact ha
  | 1, hx, hy => cases hx; cases hy; exact hb
theorem ave_tup3 {k : Nat} {a b c a' b' c' : AV} (ha : AVE k a a') (hb : AVE k b b') (hc : AVE k c c') : AVE (k + 1) (.tuple [a, b, c]) (.tuple [a', b', c']) := by
  refine ⟨rfl, fun i x y hx hy => ?_⟩
  match i, hx, hy with
  | 0, hx, hy => cases hx; cases hy; exact ha
  | 1, hx, hy => cases hx; cases hy; exact hb
  | 2, hx, hy => cases hx; cases hy; exact hc
theorem ave_agg2 {k : Nat} {a b a' b' : AV} (ha : AVE k a a') (hb : AVE k b b') : AVE (k + 1) (.agg [a, b]) (.agg [a', b']) := by
  refine ⟨rfl, fun i x y hx hy => ?_⟩
  match i, hx, hy with
  | 0, hx, hy => cases hx; cases hy; exact ha
  | 1, hx, hy => cases hx; cases hy; exact hb
theorem ave_agg4 {k : Nat} {a b c d a' b' c' d' : AV} (ha : AVE k a a') (hb : AVE k b b') (hc : AVE k c c') (hd : AVE k d d') : AVE (k + 1) (.agg [a, b, c, d]) (.agg [a', b', c', d']) := by
  refine ⟨rfl, fun i x y hx hy => ?_⟩
  match i, hx, hy with
  | 0, hx, hy => cases hx; cases hy; exact ha
  | 1, hx, hy => cases hx; cases hy; exact hb
  | 2, hx, hy => cases hx; cases hy; exact hc
  | 3, hx, hy => cases hx; cases hy; exact hd
structure GtOk (g : Gt) : Prop where
  l : 0 ≤ g.l ∧ g.l ≤ 10000
  h : 0 ≤ g.h ∧ g.h ≤ 10000
  a : 0 ≤ g.a ∧ g.a ≤ 10000
  r : 1 ≤ g.r ∧ g.r ≤ 10000
  lh : g.l ≤ g.h
  la : g.l ≤ g.a ∧ g.a ≤ g.h
theorem GtOk.of {g : Gt} (h : gateE g = 0) : GtOk g := by
  unfold gateE at h
  (repeat' split at h) <;> first | omega | skip
  rename_i h1 h2 h3
  exact ⟨h1.1, h1.2.1, h1.2.2.1, h1.2.2.2, h2, h3⟩
structure RuOk (r : Ru) : Prop where
  b : 0 ≤ r.b ∧ r.b ≤ 100000
  n : 0 ≤ r.n ∧ r.n ≤ 1000
  d : 1 ≤ r.d ∧ r.d ≤ 1000
  s : 0 ≤ r.s ∧ r.s ≤ 10000
theorem RuOk.of {r : Ru} (h : rulesE r = 0) : RuOk r := by
  unfold rulesE at h
  split at h
  · rename_i h1; exact ⟨h1.1, h1.2.1, h1.2.2.1, h1.2.2.2⟩
  · omega
theorem speed_ok {n : Int} (h : speedE n = 0) : -100000 ≤ n ∧ n ≤ 100000 := by
  unfold speedE at h
  split at h
  · assumption
  · omega
/-- By how much a deviation lies beyond the dead band; the wanted position. -/
def beyond (r : Ru) (d : Int) : Int := if d > r.b then d - r.b else if d < -r.b then d + r.b else 0
def wantI (r : Ru) (d : Int) : Int := r.s - (r.n * beyond r d).tdiv r.d
theorem tdiv_le {a b : Int} (hb : 1 ≤ b) : -(a.natAbs : Int) ≤ a.tdiv b ∧ a.tdiv b ≤ (a.natAbs : Int) := by
  have h : (a.tdiv b).natAbs ≤ a.natAbs := Int.natAbs_tdiv_le_natAbs a b
  omega
theorem beyond_le {r : Ru} (hr : RuOk r) {d : Int} (hd : -100000 ≤ d ∧ d ≤ 100000) : -100000 ≤ beyond r d ∧ beyond r d ≤ 100000 := by
  have := hr.b
  unfold beyond
  (repeat' split) <;> omega
theorem mulb {a b A B : Int} (ha : 0 ≤ a ∧ a ≤ A) (hb : -B ≤ b ∧ b ≤ B) (hB : 0 ≤ B) : -(A * B) ≤ a * b ∧ a * b ≤ A * B := by
  have h1 : a * B ≤ A * B := Int.mul_le_mul_of_nonneg_right ha.2 hB
  have h2 : a * b ≤ a * B := Int.mul_le_mul_of_nonneg_left hb.2 ha.1
  have h3 : a * (-B) ≤ a * b := Int.mul_le_mul_of_nonneg_left hb.1 ha.1
  rw [Int.mul_neg] at h3
  omega
theorem prod_le {r : Ru} (hr : RuOk r) {d : Int} (hd : -100000 ≤ d ∧ d ≤ 100000) : -100000000 ≤ r.n * beyond r d ∧ r.n * beyond r d ≤ 100000000 := by
  have := mulb hr.n (beyond_le hr hd) (by decide)
  omega
theorem want_le {r : Ru} (hr : RuOk r) {d : Int} (hd : -100000 ≤ d ∧ d ≤ 100000) : -100010000 ≤ wantI r d ∧ wantI r d ≤ 100010000 := by
  have h1 := prod_le hr hd
  have h2 := tdiv_le (a := r.n * beyond r d) hr.d.1
  have := hr.s
  unfold wantI
  omega
theorem S123 (r : Ru) (hr : RuOk r) (d : Int) (hd : -100000 ≤ d ∧ d ≤ 100000) : SP 123 [ruA r, i64 d] (i64 (wantI r d)) false := by
  have hb : (if d - r.b > 0 then d - r.b else 0) + (if d + r.b < 0 then d + r.b else 0) = beyond r d := by
    have := hr.b
    unfold beyond
    (repeat' split) <;> omega
  have h1 := prod_le hr hd
  have h2 := tdiv_le (a := r.n * beyond r d) hr.d.1
  have hs := hr.s
  have hrb := hr.b
  have hrd := hr.d
  unfold wantI
  rw [← hb] at h1 h2 ⊢
  refine sound (d := 2) tok2 mixed2 Tryz.func123 (by kernel_rfl) (by kernel_rfl) ?_
  conv => whnf
  refine ⟨inK64 (by omega) (by omega), ?_⟩
  conv => whnf
  refine ⟨inK64 (by omega) (by omega), ?_⟩
  conv => whnf
  refine ⟨inK64 (by omega) (by omega), ?_⟩
  conv => whnf
  refine ⟨[], by kernel_rfl, ?_⟩
  conv => whnf
  refine ⟨inK64 (by omega) (by omega), ?_⟩
  conv => whnf
  refine ⟨⟨(by omega), inK64 (by omega) (by omega)⟩, ?_⟩
  conv => whnf
  refine ⟨inK64 (by omega) (by omega), ?_⟩
  conv => whnf
  refine ⟨?_, nofun⟩
  rfl
theorem want_hi {r : Ru} {d : Int} (h : d > r.b) : wantI r d = r.s - (r.n * (d - r.b)).tdiv r.d := by
  unfold wantI beyond
  rw [if_pos h]
theorem want_lo {r : Ru} (hr : RuOk r) {d : Int} (h : d < -r.b) : wantI r d = r.s + (r.n * (-d - r.b)).tdiv r.d := by
  have := hr.b
  unfold wantI beyond
  rw [if_neg (by omega), if_pos h, show d + r.b = -(-d - r.b) by omega, Int.mul_neg, Int.neg_tdiv]
  omega
theorem want_mid {r : Ru} {d : Int} (h1 : ¬ d > r.b) (h2 : ¬ d < -r.b) : wantI r d = r.s := by
  unfold wantI beyond
  rw [if_neg h1, if_neg h2, Int.mul_zero, Int.zero_tdiv]
  omega
theorem S55 (r : Ru) (hr : RuOk r) (d : Int) (hd : -100000 ≤ d ∧ d ≤ 100000) : SP 55 [ruA r, i64 d] (i64 (wantI r d)) false := by
  have hs := hr.s
  have hrb := hr.b
  have hrd := hr.d
  have hp := prod_le hr hd
  have h2 := tdiv_le (a := r.n * beyond r d) hr.d.1
  by_cases hh : d > r.b
  · rw [show beyond r d = d - r.b from if_pos hh] at hp h2
    rw [want_hi hh]
    refine sound (d := 2) tok2 mixed2 Tryz.func55 (by kernel_rfl) (by kernel_rfl) ?_
    conv => whnf
    refine ifB_dec (fun w1 => ?_) (fun w1 => ?_)
    · conv => whnf
      refine ⟨[], by kernel_rfl, ?_⟩
      conv => whnf
      refine ⟨inK64 (by omega) (by omega), ?_⟩
      conv => whnf
      refine ⟨inK64 (by omega) (by omega), ?_⟩
      conv => whnf
      refine ⟨⟨(by omega), inK64 (by omega) (by omega)⟩, ?_⟩
      conv => whnf
      refine ⟨inK64 (by omega) (by omega), ?_⟩
      conv => whnf
      refine ⟨?_, nofun⟩
      rfl
    · (exfalso; omega)
  · by_cases hl : d < -r.b
    · have e : r.n * beyond r d = -(r.n * (-d - r.b)) := by
        rw [show beyond r d = d + r.b by unfold beyond; rw [if_neg hh, if_pos hl], ← Int.mul_neg]
        congr 1; omega
      rw [e] at hp
      have h3 := tdiv_le (a := r.n * (-d - r.b)) hr.d.1
      rw [want_lo hr hl]
      refine sound (d := 2) tok2 mixed2 Tryz.func55 (by kernel_rfl) (by kernel_rfl) ?_
      conv => whnf
      refine ifB_dec (fun w1 => ?_) (fun w1 => ?_)
      · (exfalso; omega)
      · conv => whnf
        refine ⟨inK64 (by omega) (by omega), ?_⟩
        conv => whnf
        refine ifB_dec (fun w2 => ?_) (fun w2 => ?_)
        · conv => whnf
          refine ⟨[], by kernel_rfl, ?_⟩
          conv => whnf
          refine ⟨inK64 (by omega) (by omega), ?_⟩
          conv => whnf
          refine ⟨inK64 (by omega) (by omega), ?_⟩
          conv => whnf
          refine ⟨inK64 (by omega) (by omega), ?_⟩
          conv => whnf
          refine ⟨⟨(by omega), inK64 (by omega) (by omega)⟩, ?_⟩
          conv => whnf
          refine ⟨inK64 (by omega) (by omega), ?_⟩
          conv => whnf
          refine ⟨?_, nofun⟩
          rfl
        · (exfalso; omega)
    · rw [want_mid hh hl]
      refine sound (d := 2) tok2 mixed2 Tryz.func55 (by kernel_rfl) (by kernel_rfl) ?_
      conv => whnf
      refine ifB_dec (fun w1 => ?_) (fun w1 => ?_)
      · (exfalso; omega)
      · conv => whnf
        refine ⟨inK64 (by omega) (by omega), ?_⟩
        conv => whnf
        refine ifB_dec (fun w2 => ?_) (fun w2 => ?_)
        · (exfalso; omega)
        · conv => whnf
          refine ⟨?_, nofun⟩
          rfl
def wantT (r : Ru) (d : Int) : AV := .tuple [i64 (if firstOf [rulesE r, speedE d] = 0 then wantI r d else 0), i64 (firstOf [rulesE r, speedE d])]
theorem S47 (r : Ru) (d : Int) : SP 47 [ruA r, i64 d] (wantT r d) false := by
  have h90 := fun a b => @S90_2 a b
  unfold wantT
  by_cases h : firstOf [rulesE r, speedE d] = 0
  · have h' := h
    rw [first2] at h'
    have h1 : rulesE r = 0 := by
      by_cases h1 : rulesE r = 0
      · exact h1
      · rw [if_pos h1] at h'; exact absurd h' h1
    rw [if_neg (not_not_intro h1)] at h'
    have h123 := S123 r (RuOk.of h1) d (speed_ok h')
    rw [if_pos h]
    refine sound (d := 2) tok2 mixed2 Tryz.func47 (by kernel_rfl) (by kernel_rfl) ?_
    conv => whnf
    refine .inl ⟨_, _, byX rfl (Sound1.pl (S53 _) rfl), ?_⟩
    conv => whnf
    refine .inl ⟨_, _, byX rfl (Sound1.pl (S122 _) rfl), ?_⟩
    conv => whnf
    refine .inl ⟨_, _, byX rfl (Sound1.pl (h90 _ _ ⟨rfl, rfl⟩) rfl), ?_⟩
    conv => whnf
    refine ifB_bne (fun w1 => ?_) (fun w1 => ?_)
    · (exfalso; omega)
    · conv => whnf
      refine .inl ⟨_, _, byX rfl (Sound1.pl (h123) rfl), ?_⟩
      conv => whnf
      refine ⟨?_, nofun⟩
      rw [h]
      exact ave_tup2 rfl rfl
  · rw [if_neg h]
    refine sound (d := 2) tok2 mixed2 Tryz.func47 (by kernel_rfl) (by kernel_rfl) ?_
    conv => whnf
    refine .inl ⟨_, _, byX rfl (Sound1.pl (S53 _) rfl), ?_⟩
    conv => whnf
    refine .inl ⟨_, _, byX rfl (Sound1.pl (S122 _) rfl), ?_⟩
    conv => whnf
    refine .inl ⟨_, _, byX rfl (Sound1.pl (h90 _ _ ⟨rfl, rfl⟩) rfl), ?_⟩
    conv => whnf
    refine ifB_bne (fun w1 => ?_) (fun w1 => ?_)
    · conv => whnf
      refine ⟨?_, nofun⟩
      exact ave_tup2 rfl rfl
    · (exfalso; omega)
/-! ### Steps of a gate -/

/-- Where a gate goes; where it is after a step; how many steps it takes. -/
def goalI (g : Gt) (w : Int) : Int := if w < g.l then g.l else if g.h < w then g.h else w
def stepI (g : Gt) (w : Int) : Int := if goalI g w < g.a - g.r then g.a - g.r else if g.a + g.r < goalI g w then g.a + g.r else goalI g w
def stepG (g : Gt) (w : Int) : Gt := { g with a := stepI g w }
def ticksI (g : Gt) (w : Int) : Int := ((if goalI g w < g.a then g.a - goalI g w else goalI g w - g.a) + g.r - 1).tdiv g.r
theorem goal_in {g : Gt} (h : g.l ≤ g.h) (w : Int) : g.l ≤ goalI g w ∧ goalI g w ≤ g.h := by
  unfold goalI
  (repeat' split) <;> omega
theorem S125 (g : Gt) (hg : g.l ≤ g.h) (w : Int) : SP 125 [gtA g, i64 w] (i64 (goalI g w)) false := by
  refine sound (d := 2) tok2 mixed2 Tryz.func125 (by kernel_rfl) (by kernel_rfl) ?_
  conv => whnf
  refine ⟨?_, nofun⟩
  exact endi (by unfold goalI; (repeat' split) <;> omega)
theorem S56 (g : Gt) (hg : GtOk g) (w : Int) : SP 56 [gtA g, i64 w] (gtA (stepG g w)) false := by
  have h1 := hg.a
  have h2 := hg.r
  have h3 := hg.lh
  refine sound (d := 2) tok2 mixed2 Tryz.func56 (by kernel_rfl) (by kernel_rfl) ?_
  conv => whnf
  refine ⟨inK64 (by omega) (by omega), ?_⟩
  conv => whnf
  refine ⟨inK64 (by omega) (by omega), ?_⟩
  conv => whnf
  refine ⟨?_, nofun⟩
  exact ave_agg4 (endi (by unfold stepG stepI goalI; simp only; (repeat' split) <;> omega)) rfl rfl rfl
def stepT (g : Gt) (w : Int) : AV := .tuple [if firstOf [gateE g, speedE w] = 0 then gtA (stepG g w) else gtA ⟨0, 0, 0, 0⟩, i64 (firstOf [gateE g, speedE w])]
theorem S48 (g : Gt) (w : Int) : SP 48 [gtA g, i64 w] (stepT g w) false := by
  have h90 := fun a b => @S90_2 a b
  unfold stepT
  by_cases h : firstOf [gateE g, speedE w] = 0
  · have h' := h
    rw [first2] at h'
    have h1 : gateE g = 0 := by
      by_cases h1 : gateE g = 0
      · exact h1
      · rw [if_pos h1] at h'; exact absurd h' h1
    have hg := GtOk.of h1
    have h125 := S125 g hg.lh w
    have g1 := hg.a
    have g2 := hg.r
    have g3 := goal_in hg.lh w
    have g4 := hg.l
    have g5 := hg.h
    rw [if_pos h]
    refine sound (d := 2) tok2 mixed2 Tryz.func48 (by kernel_rfl) (by kernel_rfl) ?_
    conv => whnf
    refine .inl ⟨_, _, byX rfl (Sound1.pl (S52 _) rfl), ?_⟩
    conv => whnf
    refine .inl ⟨_, _, byX rfl (Sound1.pl (S122 _) rfl), ?_⟩
    conv => whnf
    refine .inl ⟨_, _, byX rfl (Sound1.pl (h90 _ _ ⟨rfl, rfl⟩) rfl), ?_⟩
    conv => whnf
    refine ifB_bne (fun w1 => ?_) (fun w1 => ?_)
    · (exfalso; omega)
    · conv => whnf
      refine .inr (.inl ⟨[], ?_⟩)
      conv => whnf
      refine ⟨[], by kernel_rfl, ?_⟩
      conv => whnf
      refine .inl ⟨_, _, byX rfl (Sound1.pl (h125) rfl), ?_⟩
      conv => whnf
      refine ⟨inK64 (by omega) (by omega), ?_⟩
      conv => whnf
      refine ⟨inK64 (by omega) (by omega), ?_⟩
      conv => whnf
      refine ⟨?_, nofun⟩
      rw [h]
      exact ave_tup2 (ave_agg4 (endi (by unfold stepG stepI; simp only; (repeat' split) <;> omega)) rfl rfl rfl) rfl
  · rw [if_neg h]
    refine sound (d := 2) tok2 mixed2 Tryz.func48 (by kernel_rfl) (by kernel_rfl) ?_
    conv => whnf
    refine .inl ⟨_, _, byX rfl (Sound1.pl (S52 _) rfl), ?_⟩
    conv => whnf
    refine .inl ⟨_, _, byX rfl (Sound1.pl (S122 _) rfl), ?_⟩
    conv => whnf
    refine .inl ⟨_, _, byX rfl (Sound1.pl (h90 _ _ ⟨rfl, rfl⟩) rfl), ?_⟩
    conv => whnf
    refine ifB_bne (fun w1 => ?_) (fun w1 => ?_)
    · conv => whnf
      refine ⟨?_, nofun⟩
      exact ave_tup2 (ave_agg4 rfl rfl rfl rfl) rfl
    · (exfalso; omega)
end Go.Tr

/- The law GovernorGates returns true. Conditions: none. -/
namespace Go.Tr
open Go Go.Proofs
set_option maxRecDepth 20000
set_option maxHeartbeats 8000000

theorem ticks_nn {g : Gt} (hr : 1 ≤ g.r) (w : Int) : 0 ≤ ticksI g w := by
  unfold ticksI
  exact Int.tdiv_nonneg (by split <;> omega) (by omega)
theorem ticks_le {g : Gt} (hg : GtOk g) (w : Int) : ticksI g w ≤ 20000 := by
  have h1 := goal_in hg.lh w
  have h2 := hg.a; have h3 := hg.l; have h4 := hg.h; have h5 := hg.r
  have h := tdiv_le (a := (if goalI g w < g.a then g.a - goalI g w else goalI g w - g.a) + g.r - 1) hg.r.1
  have hx : 0 ≤ (if goalI g w < g.a then g.a - goalI g w else goalI g w - g.a) ∧ (if goalI g w < g.a then g.a - goalI g w else goalI g w - g.a) ≤ 10000 := by have := hg.la; split <;> omega
  unfold ticksI
  generalize (if goalI g w < g.a then g.a - goalI g w else goalI g w - g.a) = X at h hx ⊢
  omega
/-- The division of whole numbers, rounded up. -/
theorem up_one {d r : Int} (h1 : 1 ≤ d) (h2 : d ≤ r) : (d + r - 1).tdiv r = 1 := by
  rw [Int.tdiv_eq_ediv_of_nonneg (by omega), show d + r - 1 = (d - 1) + r by omega, Int.add_ediv_of_dvd_right (Int.dvd_refl r), Int.ediv_self (by omega), Int.ediv_eq_zero_of_lt (by omega) (by omega)]
  rfl
theorem up_zero {r : Int} (h : 1 ≤ r) : ((0 : Int) + r - 1).tdiv r = 0 := by
  rw [Int.tdiv_eq_ediv_of_nonneg (by omega), Int.ediv_eq_zero_of_lt (by omega) (by omega)]
theorem up_more {d r : Int} (h1 : 1 ≤ r) (h2 : r ≤ d) : (d + r - 1).tdiv r = (d - r + r - 1).tdiv r + 1 := by
  rw [Int.tdiv_eq_ediv_of_nonneg (by omega), Int.tdiv_eq_ediv_of_nonneg (by omega), show d + r - 1 = (d - r + r - 1) + r by omega, Int.add_ediv_of_dvd_right (Int.dvd_refl r), Int.ediv_self (by omega)]
theorem ticks_step {g : Gt} (hr : 1 ≤ g.r) (w : Int) (h : ¬ g.a = goalI g w) : ticksI g w = ticksI (stepG g w) w + 1 := by
  have e : goalI (stepG g w) w = goalI g w := rfl
  have e2 : (stepG g w).a = stepI g w := rfl
  have e3 : (stepG g w).r = g.r := rfl
  unfold ticksI
  rw [e, e2, e3]
  unfold stepI
  generalize goalI g w = G at h ⊢
  by_cases h1 : G < g.a - g.r
  · rw [if_pos h1, if_pos (by omega), if_pos (by omega), up_more hr (by omega), show g.a - G - g.r = g.a - g.r - G by omega]
  · rw [if_neg h1]
    by_cases h2 : g.a + g.r < G
    · rw [if_pos h2, if_neg (by omega), if_neg (by omega), up_more hr (by omega), show G - g.a - g.r = G - (g.a + g.r) by omega]
    · rw [if_neg h2, if_neg (show ¬ G < G by omega), show G - G = 0 by omega, up_zero hr]
      by_cases h3 : G < g.a
      · rw [if_pos h3, up_one (by omega) (by omega)]; rfl
      · rw [if_neg h3, up_one (by omega) (by omega)]; rfl
theorem ticks_end {g : Gt} (hr : 1 ≤ g.r) {w : Int} (h : g.a = goalI g w) : ticksI g w = 0 := by
  unfold ticksI
  rw [← h, if_neg (by omega), show g.a - g.a = 0 by omega, up_zero hr]
theorem step_in {g : Gt} (hg : g.l ≤ g.h) (hr : 1 ≤ g.r) {w : Int} (ha : g.l ≤ g.a ∧ g.a ≤ g.h) : g.l ≤ stepI g w ∧ stepI g w ≤ g.h := by
  have := goal_in hg w
  unfold stepI
  (repeat' split) <;> omega
def ticksT (g : Gt) (w : Int) : AV := .tuple [i64 (if firstOf [gateE g, speedE w] = 0 then ticksI g w else 0), i64 (firstOf [gateE g, speedE w])]
theorem S49 (g : Gt) (w : Int) : SP 49 [gtA g, i64 w] (ticksT g w) false := by
  have h90 := fun a b => @S90_2 a b
  unfold ticksT
  by_cases h : firstOf [gateE g, speedE w] = 0
  · have h' := h
    rw [first2] at h'
    have h1 : gateE g = 0 := by
      by_cases h1 : gateE g = 0
      · exact h1
      · rw [if_pos h1] at h'; exact absurd h' h1
    have hg := GtOk.of h1
    have h125 := S125 g hg.lh w
    have h115 := S115 (goalI g w - g.a)
    have g1 := hg.a
    have g2 := hg.r
    have g3 := goal_in hg.lh w
    have g4 := hg.l
    have g5 := hg.h
    have hsz : siz (goalI g w - g.a) = if goalI g w < g.a then g.a - goalI g w else goalI g w - g.a := by
      unfold siz
      (repeat' split) <;> omega
    have hb := tdiv_le (a := siz (goalI g w - g.a) + g.r - 1) g2.1
    have hs : 0 ≤ siz (goalI g w - g.a) ∧ siz (goalI g w - g.a) ≤ 10000 := by rw [hsz]; split <;> omega
    have h115 := h115 (by omega)
    unfold ticksI
    rw [if_pos h, ← hsz]
    refine sound (d := 2) tok2 mixed2 Tryz.func49 (by kernel_rfl) (by kernel_rfl) ?_
    conv => whnf
    refine .inl ⟨_, _, byX rfl (Sound1.pl (S52 _) rfl), ?_⟩
    conv => whnf
    refine .inl ⟨_, _, byX rfl (Sound1.pl (S122 _) rfl), ?_⟩
    conv => whnf
    refine .inl ⟨_, _, byX rfl (Sound1.pl (h90 _ _ ⟨rfl, rfl⟩) rfl), ?_⟩
    conv => whnf
    refine ifB_bne (fun w1 => ?_) (fun w1 => ?_)
    · (exfalso; omega)
    · conv => whnf
      refine ⟨[], by kernel_rfl, ?_⟩
      conv => whnf
      refine .inl ⟨_, _, byX rfl (Sound1.pl (h125) rfl), ?_⟩
      conv => whnf
      refine ⟨inK64 (by omega) (by omega), ?_⟩
      conv => whnf
      refine .inl ⟨_, _, byX rfl (Sound1.pl (h115) rfl), ?_⟩
      conv => whnf
      refine ⟨inK64 (by omega) (by omega), ?_⟩
      conv => whnf
      refine ⟨inK64 (by omega) (by omega), ?_⟩
      conv => whnf
      refine ⟨⟨(by omega), inK64 (by omega) (by omega)⟩, ?_⟩
      conv => whnf
      refine ⟨?_, nofun⟩
      rw [h]
      exact ave_tup2 rfl rfl
  · rw [if_neg h]
    refine sound (d := 2) tok2 mixed2 Tryz.func49 (by kernel_rfl) (by kernel_rfl) ?_
    conv => whnf
    refine .inl ⟨_, _, byX rfl (Sound1.pl (S52 _) rfl), ?_⟩
    conv => whnf
    refine .inl ⟨_, _, byX rfl (Sound1.pl (S122 _) rfl), ?_⟩
    conv => whnf
    refine .inl ⟨_, _, byX rfl (Sound1.pl (h90 _ _ ⟨rfl, rfl⟩) rfl), ?_⟩
    conv => whnf
    refine ifB_bne (fun w1 => ?_) (fun w1 => ?_)
    · conv => whnf
      refine ⟨?_, nofun⟩
      exact ave_tup2 rfl rfl
    · (exfalso; omega)
theorem S57 (g : Gt) (hg : GtOk g) (w : Int) : SP 57 [gtA g, i64 w] (i64 (ticksI g w)) false := by
  have g1 := hg.a
  have g2 := hg.r
  have g3 := goal_in hg.lh w
  have g4 := hg.l
  have g5 := hg.h
  have g6 := hg.lh
  refine sound (d := 2) tok2 mixed2 Tryz.func57 (by kernel_rfl) (by kernel_rfl) ?_
  conv => whnf
  refine ⟨[], by kernel_rfl, ?_⟩
  conv => whnf
  refine ⟨[], [1, 2, 5, 6], fun st mq => ∃ (a : Int) (n : Nat) (t : Int), (t = goalI g w) ∧ (g.l ≤ a ∧ a ≤ g.h) ∧ ((n : Int) + ticksI ⟨a, g.l, g.h, g.r⟩ w = ticksI g w) ∧ st = ⟨[(1, i64 w), (2, .optr 0 0 0 0), (5, i64 n), (6, i64 t)], ⟨[⟨4, 1, fun _ => [i64 a, i64 g.l, i64 g.h, i64 g.r], 0, false, true, true⟩], [], none, 0⟩, []⟩ ∧ mq = (ticksI ⟨a, g.l, g.h, g.r⟩ w).toNat,
    ⟨_, _, ⟨g.a, 0, _, (by unfold goalI; (repeat' split) <;> omega), hg.la, (by simp), rfl, rfl⟩, ⟨⟨.inl rfl, rfl, rfl, rfl⟩, ⟨⟨rfl, rfl, rfl, rfl, fun _ => rfl, fun _ _ => .inl rfl⟩, trivial⟩, trivial⟩⟩, ?_⟩
  rintro s0 m0 ⟨a, n, t, ht, ha, hn, rfl, hmeas⟩
  have hok : GtOk ⟨a, g.l, g.h, g.r⟩ := ⟨g4, g5, by simp only; omega, g2, g6, ha⟩
  have h56 := S56 ⟨a, g.l, g.h, g.r⟩ hok w
  have hnn := ticks_nn (g := ⟨a, g.l, g.h, g.r⟩) g2.1 w
  have hle := ticks_le hg w
  by_cases hat : a = t
  · conv => whnf
    conv => whnf
    refine ifB_bne (fun w1 => ?_) (fun w1 => ?_)
    · (exfalso; omega)
    · conv => whnf
      conv => whnf
      refine ⟨?_, nofun⟩
      exact endi (by rw [← hn, ticks_end (g := ⟨a, g.l, g.h, g.r⟩) g2.1 (hat.trans ht)]; omega)
  · have hts := ticks_step (g := ⟨a, g.l, g.h, g.r⟩) g2.1 w (fun h => hat (h.trans ht.symm))
    have hn2 := ticks_nn (g := stepG ⟨a, g.l, g.h, g.r⟩ w) g2.1 w
    have hin := step_in (g := ⟨a, g.l, g.h, g.r⟩) (w := w) g6 g2.1 ha
    conv => whnf
    conv => whnf
    refine ifB_bne (fun w1 => ?_) (fun w1 => ?_)
    · conv => whnf
      conv => whnf
      refine .inl ⟨_, _, byX rfl (Sound1.pl (h56) rfl), ?_⟩
      conv => whnf
      conv => whnf
      refine ⟨inK64 (by omega) (by omega), ?_⟩
      conv => whnf
      conv => whnf
      refine ⟨_, _, ⟨⟨stepI ⟨a, g.l, g.h, g.r⟩ w, n + 1, t, ht, hin, (show ((n + 1 : Nat) : Int) + ticksI (stepG ⟨a, g.l, g.h, g.r⟩ w) w = _ by omega), rfl, rfl⟩, (show (ticksI (stepG ⟨a, g.l, g.h, g.r⟩ w) w).toNat < _ by omega)⟩, ⟨⟨.inl rfl, rfl, rfl, rfl⟩, ⟨⟨rfl, rfl, rfl, rfl, fun _ => rfl, fun _ _ => .inl rfl⟩, trivial⟩, trivial⟩⟩
    · (exfalso; omega)
theorem first_z {a b : Int} (h : firstOf [a, b] = 0) : a = 0 ∧ b = 0 := by
  rw [first2] at h
  by_cases h1 : a = 0
  · rw [if_neg (not_not_intro h1)] at h; exact ⟨h1, h⟩
  · rw [if_pos h1] at h; exact absurd h h1
theorem first_nz {a b : Int} (h : a ≠ 0) : firstOf [a, b] = a := by rw [first2, if_pos h]
theorem first_zero (b : Int) : firstOf [0, b] = b := by rw [first2, if_neg (by simp)]
theorem S7 (g : Gt) (r : Ru) (n : Int) : SP 7 [gtA g, ruA r, i64 n] (vb true) false := by
  have h16 := S16
  have h47 := S47 r n
  have h48 := S48 g n
  have h49 := S49 g n
  have h50 := S50 g
  have h51 := S51 r
  have h52 := S52 g
  have h53 := S53 r
  have h54 := S54 n
  have h55 := fun h1 h2 => S55 r (RuOk.of h1) n (speed_ok h2)
  have h56 := fun h1 => S56 g (GtOk.of h1) n
  have h57 := fun h1 => S57 g (GtOk.of h1) n
  unfold wantT at h47
  unfold stepT at h48
  unfold ticksT at h49
  generalize rulesE r = R at h47 h51 h53 h55
  generalize gateE g = E at h48 h49 h50 h52 h56 h57
  generalize speedE n = Z at h47 h48 h49 h54 h55
  by_cases hR : R = 0
  · subst hR
    by_cases hE : E = 0
    · subst hE
      by_cases hZ : Z = 0
      · subst hZ
        have h55 := h55 rfl rfl
        have h56 := h56 rfl
        have h57 := h57 rfl
        simp only [first_zero, if_true] at h47 h48 h49
        refine sound (d := 2) tok2 mixed2 Tryz.func7 (by kernel_rfl) (by kernel_rfl) ?_
        conv => whnf
        refine .inl ⟨_, _, byX rfl (Sound1.pl (h16) rfl), ?_⟩
        conv => whnf
        refine .inl ⟨_, _, byX rfl (Sound1.pl (h47) rfl), ?_⟩
        conv => whnf
        refine .inl ⟨_, _, byX rfl (Sound1.pl (h48) rfl), ?_⟩
        conv => whnf
        refine .inl ⟨_, _, byX rfl (Sound1.pl (h49) rfl), ?_⟩
        conv => whnf
        refine ⟨[], by kernel_rfl, ?_⟩
        conv => whnf
        refine .inl ⟨_, _, byX rfl (Sound1.pl (h50) rfl), ?_⟩
        conv => whnf
        refine .inl ⟨_, _, byX rfl (Sound1.pl (h51) rfl), ?_⟩
        conv => whnf
        refine .inl ⟨_, _, byX rfl (Sound1.pl (h52) rfl), ?_⟩
        conv => whnf
        refine .inl ⟨_, _, byX rfl (Sound1.pl (h53) rfl), ?_⟩
        conv => whnf
        refine .inl ⟨_, _, byX rfl (Sound1.pl (h54) rfl), ?_⟩
        conv => whnf
        refine .inl ⟨_, _, byX rfl (Sound1.pl (h55) rfl), ?_⟩
        conv => whnf
        refine ifB_bne (fun w1 => ?_) (fun w1 => ?_)
        · (exfalso; omega)
        · conv => whnf
          refine .inl ⟨_, _, byX rfl (Sound1.pl (h54) rfl), ?_⟩
          conv => whnf
          refine ⟨[], by kernel_rfl, ?_⟩
          conv => whnf
          refine .inl ⟨_, _, byX rfl (Sound1.pl (h56) rfl), ?_⟩
          conv => whnf
          refine ifB_intro (fun w2 => ?_) (fun w2 => ?_)
          · conv => whnf
            refine .inl ⟨_, _, byX rfl (Sound1.pl (h57) rfl), ?_⟩
            conv => whnf
            refine ⟨?_, nofun⟩
            (exact endb (beq_self_eq_true _))
          · conv => whnf
            refine ⟨?_, nofun⟩
            (exact absurd w2 (by simp [vEqL]))
      · simp only [first_zero, if_neg hZ] at h47 h48 h49
        refine sound (d := 2) tok2 mixed2 Tryz.func7 (by kernel_rfl) (by kernel_rfl) ?_
        conv => whnf
        refine .inl ⟨_, _, byX rfl (Sound1.pl (h16) rfl), ?_⟩
        conv => whnf
        refine .inl ⟨_, _, byX rfl (Sound1.pl (h47) rfl), ?_⟩
        conv => whnf
        refine .inl ⟨_, _, byX rfl (Sound1.pl (h48) rfl), ?_⟩
        conv => whnf
        refine .inl ⟨_, _, byX rfl (Sound1.pl (h49) rfl), ?_⟩
        conv => whnf
        refine ⟨[], by kernel_rfl, ?_⟩
        conv => whnf
        refine .inl ⟨_, _, byX rfl (Sound1.pl (h50) rfl), ?_⟩
        conv => whnf
        refine .inl ⟨_, _, byX rfl (Sound1.pl (h51) rfl), ?_⟩
        conv => whnf
        refine .inl ⟨_, _, byX rfl (Sound1.pl (h52) rfl), ?_⟩
        conv => whnf
        refine .inl ⟨_, _, byX rfl (Sound1.pl (h53) rfl), ?_⟩
        conv => whnf
        refine .inl ⟨_, _, byX rfl (Sound1.pl (h54) rfl), ?_⟩
        conv => whnf
        refine ifB_bne (fun w1 => ?_) (fun w1 => ?_)
        · conv => whnf
          refine ifB_bne (fun w2 => ?_) (fun w2 => ?_)
          · (exfalso; omega)
          · conv => whnf
            refine ifB_beq (fun w3 => ?_) (fun w3 => ?_)
            · (exfalso; omega)
            · conv => whnf
              refine .inl ⟨_, _, byX rfl (Sound1.pl (h54) rfl), ?_⟩
              conv => whnf
              refine ifB_bne (fun w4 => ?_) (fun w4 => ?_)
              · conv => whnf
                refine ifB_beq (fun w5 => ?_) (fun w5 => ?_)
                · conv => whnf
                  refine ifB_beq (fun w6 => ?_) (fun w6 => ?_)
                  · conv => whnf
                    refine ⟨?_, nofun⟩
                    (rfl)
                  · (exfalso; omega)
                · (exfalso; omega)
              · (exfalso; omega)
        · (exfalso; omega)
    · by_cases hZ : Z = 0
      · subst hZ
        have h55 := h55 rfl rfl
        simp only [first_zero, first_nz hE, if_true, if_neg hE] at h47 h48 h49
        refine sound (d := 2) tok2 mixed2 Tryz.func7 (by kernel_rfl) (by kernel_rfl) ?_
        conv => whnf
        refine .inl ⟨_, _, byX rfl (Sound1.pl (h16) rfl), ?_⟩
        conv => whnf
        refine .inl ⟨_, _, byX rfl (Sound1.pl (h47) rfl), ?_⟩
        conv => whnf
        refine .inl ⟨_, _, byX rfl (Sound1.pl (h48) rfl), ?_⟩
        conv => whnf
        refine .inl ⟨_, _, byX rfl (Sound1.pl (h49) rfl), ?_⟩
        conv => whnf
        refine ⟨[], by kernel_rfl, ?_⟩
        conv => whnf
        refine .inl ⟨_, _, byX rfl (Sound1.pl (h50) rfl), ?_⟩
        conv => whnf
        refine .inl ⟨_, _, byX rfl (Sound1.pl (h51) rfl), ?_⟩
        conv => whnf
        refine .inl ⟨_, _, byX rfl (Sound1.pl (h52) rfl), ?_⟩
        conv => whnf
        refine ifB_bne (fun w1 => ?_) (fun w1 => ?_)
        · (exfalso; omega)
        · conv => whnf
          refine .inl ⟨_, _, byX rfl (Sound1.pl (h53) rfl), ?_⟩
          conv => whnf
          refine .inl ⟨_, _, byX rfl (Sound1.pl (h54) rfl), ?_⟩
          conv => whnf
          refine .inl ⟨_, _, byX rfl (Sound1.pl (h55) rfl), ?_⟩
          conv => whnf
          refine ifB_bne (fun w2 => ?_) (fun w2 => ?_)
          · (exfalso; omega)
          · conv => whnf
            refine ifB_beq (fun w3 => ?_) (fun w3 => ?_)
            · (exfalso; omega)
            · conv => whnf
              refine ifB_bne (fun w4 => ?_) (fun w4 => ?_)
              · conv => whnf
                refine ifB_beq (fun w5 => ?_) (fun w5 => ?_)
                · conv => whnf
                  refine ifB_beq (fun w6 => ?_) (fun w6 => ?_)
                  · conv => whnf
                    refine ⟨?_, nofun⟩
                    (rfl)
                  · (exfalso; omega)
                · (exfalso; omega)
              · (exfalso; omega)
      · simp only [first_zero, first_nz hE, if_neg hZ, if_neg hE] at h47 h48 h49
        refine sound (d := 2) tok2 mixed2 Tryz.func7 (by kernel_rfl) (by kernel_rfl) ?_
        conv => whnf
        refine .inl ⟨_, _, byX rfl (Sound1.pl (h16) rfl), ?_⟩
        conv => whnf
        refine .inl ⟨_, _, byX rfl (Sound1.pl (h47) rfl), ?_⟩
        conv => whnf
        refine .inl ⟨_, _, byX rfl (Sound1.pl (h48) rfl), ?_⟩
        conv => whnf
        refine .inl ⟨_, _, byX rfl (Sound1.pl (h49) rfl), ?_⟩
        conv => whnf
        refine ⟨[], by kernel_rfl, ?_⟩
        conv => whnf
        refine .inl ⟨_, _, byX rfl (Sound1.pl (h50) rfl), ?_⟩
        conv => whnf
        refine .inl ⟨_, _, byX rfl (Sound1.pl (h51) rfl), ?_⟩
        conv => whnf
        refine .inl ⟨_, _, byX rfl (Sound1.pl (h52) rfl), ?_⟩
        conv => whnf
        refine ifB_bne (fun w1 => ?_) (fun w1 => ?_)
        · (exfalso; omega)
        · conv => whnf
          refine .inl ⟨_, _, byX rfl (Sound1.pl (h53) rfl), ?_⟩
          conv => whnf
          refine .inl ⟨_, _, byX rfl (Sound1.pl (h54) rfl), ?_⟩
          conv => whnf
          refine ifB_bne (fun w2 => ?_) (fun w2 => ?_)
          · conv => whnf
            refine ifB_bne (fun w3 => ?_) (fun w3 => ?_)
            · (exfalso; omega)
            · conv => whnf
              refine ifB_beq (fun w4 => ?_) (fun w4 => ?_)
              · (exfalso; omega)
              · conv => whnf
                refine ifB_beq (fun w5 => ?_) (fun w5 => ?_)
                · (exfalso; omega)
                · conv => whnf
                  refine ifB_bne (fun w6 => ?_) (fun w6 => ?_)
                  · conv => whnf
                    refine ifB_beq (fun w7 => ?_) (fun w7 => ?_)
                    · conv => whnf
                      refine ifB_beq (fun w8 => ?_) (fun w8 => ?_)
                      · conv => whnf
                        refine ⟨?_, nofun⟩
                        (rfl)
                      · (exfalso; omega)
                    · (exfalso; omega)
                  · (exfalso; omega)
          · (exfalso; omega)
  · by_cases hE : E = 0
    · subst hE
      have h56 := h56 rfl
      have h57 := h57 rfl
      by_cases hZ : Z = 0
      · subst hZ
        simp only [first_zero, first_nz hR, if_true, if_neg hR] at h47 h48 h49
        refine sound (d := 2) tok2 mixed2 Tryz.func7 (by kernel_rfl) (by kernel_rfl) ?_
        conv => whnf
        refine .inl ⟨_, _, byX rfl (Sound1.pl (h16) rfl), ?_⟩
        conv => whnf
        refine .inl ⟨_, _, byX rfl (Sound1.pl (h47) rfl), ?_⟩
        conv => whnf
        refine .inl ⟨_, _, byX rfl (Sound1.pl (h48) rfl), ?_⟩
        conv => whnf
        refine .inl ⟨_, _, byX rfl (Sound1.pl (h49) rfl), ?_⟩
        conv => whnf
        refine ⟨[], by kernel_rfl, ?_⟩
        conv => whnf
        refine .inl ⟨_, _, byX rfl (Sound1.pl (h50) rfl), ?_⟩
        conv => whnf
        refine .inl ⟨_, _, byX rfl (Sound1.pl (h51) rfl), ?_⟩
        conv => whnf
        refine .inl ⟨_, _, byX rfl (Sound1.pl (h52) rfl), ?_⟩
        conv => whnf
        refine .inl ⟨_, _, byX rfl (Sound1.pl (h53) rfl), ?_⟩
        conv => whnf
        refine ifB_bne (fun w1 => ?_) (fun w1 => ?_)
        · (exfalso; omega)
        · conv => whnf
          refine ifB_beq (fun w2 => ?_) (fun w2 => ?_)
          · (exfalso; omega)
          · conv => whnf
            refine ifB_bne (fun w3 => ?_) (fun w3 => ?_)
            · conv => whnf
              refine ifB_bne (fun w4 => ?_) (fun w4 => ?_)
              · (exfalso; omega)
              · conv => whnf
                refine ifB_beq (fun w5 => ?_) (fun w5 => ?_)
                · (exfalso; omega)
                · conv => whnf
                  refine .inl ⟨_, _, byX rfl (Sound1.pl (h54) rfl), ?_⟩
                  conv => whnf
                  refine ⟨[], by kernel_rfl, ?_⟩
                  conv => whnf
                  refine .inl ⟨_, _, byX rfl (Sound1.pl (h56) rfl), ?_⟩
                  conv => whnf
                  refine ifB_intro (fun w6 => ?_) (fun w6 => ?_)
                  · conv => whnf
                    refine .inl ⟨_, _, byX rfl (Sound1.pl (h57) rfl), ?_⟩
                    conv => whnf
                    refine ⟨?_, nofun⟩
                    (exact endb (beq_self_eq_true _))
                  · conv => whnf
                    refine ⟨?_, nofun⟩
                    (exact absurd w6 (by simp [vEqL]))
            · (exfalso; omega)
      · simp only [first_zero, first_nz hR, if_neg hZ, if_neg hR] at h47 h48 h49
        refine sound (d := 2) tok2 mixed2 Tryz.func7 (by kernel_rfl) (by kernel_rfl) ?_
        conv => whnf
        refine .inl ⟨_, _, byX rfl (Sound1.pl (h16) rfl), ?_⟩
        conv => whnf
        refine .inl ⟨_, _, byX rfl (Sound1.pl (h47) rfl), ?_⟩
        conv => whnf
        refine .inl ⟨_, _, byX rfl (Sound1.pl (h48) rfl), ?_⟩
        conv => whnf
        refine .inl ⟨_, _, byX rfl (Sound1.pl (h49) rfl), ?_⟩
        conv => whnf
        refine ⟨[], by kernel_rfl, ?_⟩
        conv => whnf
        refine .inl ⟨_, _, byX rfl (Sound1.pl (h50) rfl), ?_⟩
        conv => whnf
        refine .inl ⟨_, _, byX rfl (Sound1.pl (h51) rfl), ?_⟩
        conv => whnf
        refine .inl ⟨_, _, byX rfl (Sound1.pl (h52) rfl), ?_⟩
        conv => whnf
        refine .inl ⟨_, _, byX rfl (Sound1.pl (h53) rfl), ?_⟩
        conv => whnf
        refine ifB_bne (fun w1 => ?_) (fun w1 => ?_)
        · (exfalso; omega)
        · conv => whnf
          refine ifB_beq (fun w2 => ?_) (fun w2 => ?_)
          · (exfalso; omega)
          · conv => whnf
            refine ifB_bne (fun w3 => ?_) (fun w3 => ?_)
            · conv => whnf
              refine ifB_bne (fun w4 => ?_) (fun w4 => ?_)
              · (exfalso; omega)
              · conv => whnf
                refine ifB_beq (fun w5 => ?_) (fun w5 => ?_)
                · (exfalso; omega)
                · conv => whnf
                  refine .inl ⟨_, _, byX rfl (Sound1.pl (h54) rfl), ?_⟩
                  conv => whnf
                  refine ifB_bne (fun w6 => ?_) (fun w6 => ?_)
                  · conv => whnf
                    refine ifB_beq (fun w7 => ?_) (fun w7 => ?_)
                    · conv => whnf
                      refine ifB_beq (fun w8 => ?_) (fun w8 => ?_)
                      · conv => whnf
                        refine ⟨?_, nofun⟩
                        (rfl)
                      · (exfalso; omega)
                    · (exfalso; omega)
                  · (exfalso; omega)
            · (exfalso; omega)
    · simp only [first_nz hE, first_nz hR, if_neg hE, if_neg hR] at h47 h48 h49
      refine sound (d := 2) tok2 mixed2 Tryz.func7 (by kernel_rfl) (by kernel_rfl) ?_
      conv => whnf
      refine .inl ⟨_, _, byX rfl (Sound1.pl (h16) rfl), ?_⟩
      conv => whnf
      refine .inl ⟨_, _, byX rfl (Sound1.pl (h47) rfl), ?_⟩
      conv => whnf
      refine .inl ⟨_, _, byX rfl (Sound1.pl (h48) rfl), ?_⟩
      conv => whnf
      refine .inl ⟨_, _, byX rfl (Sound1.pl (h49) rfl), ?_⟩
      conv => whnf
      refine ⟨[], by kernel_rfl, ?_⟩
      conv => whnf
      refine .inl ⟨_, _, byX rfl (Sound1.pl (h50) rfl), ?_⟩
      conv => whnf
      refine .inl ⟨_, _, byX rfl (Sound1.pl (h51) rfl), ?_⟩
      conv => whnf
      refine .inl ⟨_, _, byX rfl (Sound1.pl (h52) rfl), ?_⟩
      conv => whnf
      refine ifB_bne (fun w1 => ?_) (fun w1 => ?_)
      · (exfalso; omega)
      · conv => whnf
        refine .inl ⟨_, _, byX rfl (Sound1.pl (h53) rfl), ?_⟩
        conv => whnf
        refine ifB_bne (fun w2 => ?_) (fun w2 => ?_)
        · (exfalso; omega)
        · conv => whnf
          refine ifB_beq (fun w3 => ?_) (fun w3 => ?_)
          · (exfalso; omega)
          · conv => whnf
            refine ifB_bne (fun w4 => ?_) (fun w4 => ?_)
            · conv => whnf
              refine ifB_bne (fun w5 => ?_) (fun w5 => ?_)
              · (exfalso; omega)
              · conv => whnf
                refine ifB_beq (fun w6 => ?_) (fun w6 => ?_)
                · (exfalso; omega)
                · conv => whnf
                  refine ifB_beq (fun w7 => ?_) (fun w7 => ?_)
                  · (exfalso; omega)
                  · conv => whnf
                    refine ifB_bne (fun w8 => ?_) (fun w8 => ?_)
                    · conv => whnf
                      refine ifB_beq (fun w9 => ?_) (fun w9 => ?_)
                      · conv => whnf
                        refine ifB_beq (fun w10 => ?_) (fun w10 => ?_)
                        · conv => whnf
                          refine ⟨?_, nofun⟩
                          (rfl)
                        · (exfalso; omega)
                      · (exfalso; omega)
                    · (exfalso; omega)
            · (exfalso; omega)
end Go.Tr

/- Contracts of chapter 6: lists of numbers; each one checked; runs of a gate. Conditions: none. -/
namespace Go.Tr
open Go Go.Proofs
set_option maxRecDepth 20000
set_option maxHeartbeats 8000000

theorem S19 (l : List Int) (hl : l.length ≤ 1000000) : SP 19 [ints l] (ints l) false := by
  refine sound (d := 2) tok2 mixed2 Tryz.func19 (by kernel_rfl) (by kernel_rfl) ?_
  conv => whnf
  refine .inl ?_
  conv => whnf
  refine ⟨⟨(by omega), (by show _ * (8 + 1) ≤ _; omega)⟩, ?_⟩
  conv => whnf
  refine ⟨?_, nofun⟩
  exact ⟨rfl, Nat.zero_add _, fun i hi => rfl⟩
theorem S26 (a b : List Int) (ha : a.length ≤ 1000000000) (hb : b.length ≤ 1000000000) : SP 26 [ints a, ints b] (vb (decide (a = b))) false := by
  refine sound (d := 2) tok2 mixed2 Tryz.func26 (by kernel_rfl) (by kernel_rfl) ?_
  conv => whnf
  refine ifB_bne (fun w1 => ?_) (fun w1 => ?_)
  · conv => whnf
    refine ⟨?_, nofun⟩
    show vb false = vb _
    rw [decide_eq_false]
    intro e; subst e; exact w1 rfl
  · have hab : a.length = b.length := by omega
    conv => whnf
    refine ⟨[], [0, 1, 5], fun st mq => ∃ (k : Nat), (k ≤ a.length) ∧ (∀ i, i < k → a.getD i 0 = b.getD i 0) ∧ st = ⟨[(0, ints a), (1, ints b), (5, i64 k)], ⟨[], [], none, 0⟩, []⟩ ∧ mq = a.length - k,
      ⟨_, _, ⟨0, by omega, fun i h => absurd h (Nat.not_lt_zero i), rfl, rfl⟩, ⟨⟨.inl rfl, rfl, rfl, rfl⟩, trivial, trivial⟩⟩, ?_⟩
    rintro s0 m0 ⟨k, hk, h1, rfl, hmeas⟩
    conv => whnf
    conv => whnf
    refine ifB_dec (fun w2 => ?_) (fun w2 => ?_)
    · conv => whnf
      conv => whnf
      refine ⟨[], by kernel_rfl, ?_⟩
      conv => whnf
      conv => whnf
      refine ⟨⟨(by omega), (by omega)⟩, ?_⟩
      conv => whnf
      conv => whnf
      refine ⟨⟨(by omega), (by omega)⟩, ?_⟩
      conv => whnf
      conv => whnf
      refine ifB_bne (fun w3 => ?_) (fun w3 => ?_)
      · conv => whnf
        conv => whnf
        refine ⟨?_, nofun⟩
        have e : ¬ a.getD k 0 = b.getD k 0 := w3
        show vb false = vb _
        rw [decide_eq_false]
        intro h; subst h; exact e rfl
      · conv => whnf
        conv => whnf
        refine ⟨inK64 (by omega) (by omega), ?_⟩
        have e : a.getD k 0 = b.getD k 0 := w3
        conv => whnf
        conv => whnf
        refine ⟨_, _, ⟨⟨k + 1, by omega, fun i hi => (by rcases Nat.lt_or_ge i k with h | h; exact h1 i h; rw [show i = k by omega]; exact e), rfl, rfl⟩, by omega⟩, ⟨⟨.inl rfl, rfl, rfl, rfl⟩, trivial, trivial⟩⟩
    · conv => whnf
      conv => whnf
      refine ⟨?_, nofun⟩
      have e : k = a.length := by omega
      subst e
      show vb true = vb _
      rw [decide_eq_true]
      apply List.ext_getElem hab
      intro i h2 h3
      have := h1 i h2
      simpa [List.getD_eq_getElem?_getD, h2, h3] using this
/-- The first number that is not in order, with its place. -/
def eachI (g : Nat → Int → Int) : List Int → Nat → Int × Int
  | [], _ => (0, 0)
  | x :: r, k => if g k x = 0 then eachI g r (k + 1) else ((k : Int), g k x)
theorem eachI_drop (g : Nat → Int → Int) (l : List Int) (k : Nat) (h : k < l.length) : eachI g (l.drop k) k = if g k (l.getD k 0) = 0 then eachI g (l.drop (k + 1)) (k + 1) else ((k : Int), g k (l.getD k 0)) := by
  rw [List.drop_eq_getElem_cons h, eachI]; simp [List.getD, h]
theorem S94 (f : Nat) (g : Nat → Int → Int) (l : List Int) (hl : l.length ≤ 1000000000) (hf : ∀ k : Nat, k < l.length → SP f [i64 k, i64 (l.getD k 0)] (i64 (g k (l.getD k 0))) false) : SP 94 [ints l, .func (.func f) 0 []] (.tuple [i64 (eachI g l 0).1, i64 (eachI g l 0).2]) false := by
  refine sound (d := 2) tok2 mixed2 Tryz.func94 (by kernel_rfl) (by kernel_rfl) ?_
  conv => whnf
  refine ⟨[], [1, 9, 10, 11], fun st mq => ∃ (k : Nat), (k ≤ l.length) ∧ (eachI g (l.drop k) k = eachI g l 0) ∧ st = ⟨[(1, .func (.func f) 0 []), (9, ints l), (10, i64 l.length), (11, i64 k)], ⟨[], [], none, 0⟩, []⟩ ∧ mq = l.length - k,
    ⟨_, _, ⟨0, by omega, rfl, rfl, rfl⟩, ⟨⟨.inl rfl, rfl, rfl, rfl⟩, trivial, trivial⟩⟩, ?_⟩
  rintro s0 m0 ⟨k, hk, he, rfl, hmeas⟩
  by_cases hlt : k < l.length
  · have hd := eachI_drop g l k hlt
    have hc := hf k hlt
    conv => whnf
    conv => whnf
    refine ifB_dec (fun w1 => ?_) (fun w1 => ?_)
    · conv => whnf
      conv => whnf
      refine ⟨⟨(by omega), (by omega)⟩, ?_⟩
      conv => whnf
      conv => whnf
      refine .inl ⟨_, _, byX rfl (Sound1.pl (hc) rfl), ?_⟩
      conv => whnf
      conv => whnf
      refine ifB_bne (fun w2 => ?_) (fun w2 => ?_)
      · conv => whnf
        conv => whnf
        refine ⟨?_, nofun⟩
        rw [if_neg w2] at hd
        exact ave_tup2 (endi (by rw [← he, hd])) (endi (by rw [← he, hd]))
      · conv => whnf
        conv => whnf
        refine ⟨inK64 (by omega) (by omega), ?_⟩
        rw [if_pos w2] at hd
        conv => whnf
        conv => whnf
        refine ⟨_, _, ⟨⟨k + 1, by omega, hd.symm.trans he, rfl, rfl⟩, by omega⟩, ⟨⟨.inl rfl, rfl, rfl, rfl⟩, trivial, trivial⟩⟩
    · (exfalso; omega)
  · have e : k = l.length := by omega
    subst e
    rw [List.drop_length] at he
    conv => whnf
    conv => whnf
    refine ifB_dec (fun w1 => ?_) (fun w1 => ?_)
    · (exfalso; omega)
    · conv => whnf
      conv => whnf
      refine ⟨?_, nofun⟩
      exact ave_tup2 (endi (by rw [← he]; rfl)) (endi (by rw [← he]; rfl))
/-! ### Runs of a gate -/

def runL (r : Ru) : Gt → List Int → List Int
  | _, [] => []
  | g, d :: l => (stepG g (wantI r d)).a :: runL r (stepG g (wantI r d)) l
theorem runL_drop (r : Ru) (g : Gt) (l : List Int) (k : Nat) (h : k < l.length) : runL r g (l.drop k) = (stepG g (wantI r (l.getD k 0))).a :: runL r (stepG g (wantI r (l.getD k 0))) (l.drop (k + 1)) := by
  rw [List.drop_eq_getElem_cons h, runL]; simp [List.getD, h]
def devE (l : List Int) : Int := (eachI (fun _ x => speedE x) l 0).2
theorem dev_all : ∀ (l : List Int) (k : Nat), (eachI (fun _ x => speedE x) l k).2 = 0 → ∀ x ∈ l, -100000 ≤ x ∧ x ≤ 100000
  | [], _, _, x, hx => by cases hx
  | y :: l, k, h, x, hx => by
    unfold eachI at h
    by_cases hy : speedE y = 0
    · rw [if_pos hy] at h
      rcases List.mem_cons.1 hx with e | hx
      · rw [e]; exact speed_ok hy
      · exact dev_all l (k + 1) h x hx
    · rw [if_neg hy] at h; exact absurd h hy
theorem S127 (k x : Int) : SP 127 [i64 k, i64 x] (i64 (speedE x)) false := by
  have h := S122 x
  refine sound (d := 2) tok2 mixed2 Tryz.func127 (by kernel_rfl) (by kernel_rfl) ?_
  conv => whnf
  refine .inl ⟨_, _, byX rfl (Sound1.pl (h) rfl), ?_⟩
  conv => whnf
  refine ⟨?_, nofun⟩
  rfl
theorem getD_memI {l : List Int} {i : Nat} (h : i < l.length) : l.getD i 0 ∈ l := by
  rw [show l.getD i 0 = l[i] by simp [List.getD_eq_getElem?_getD, h]]
  exact List.getElem_mem h
theorem app_row (l : List Int) (c : Int) (n i : Nat) (hn : l.length = n) (hi : i < n + 1) : [i64 ((l ++ [c]).getD i 0)] = (if i < n then [i64 (l.getD (0 + i) 0)] else List.take 1 (List.drop ((i - n) * 1) [i64 c])) := by
  subst hn
  rw [Nat.zero_add]
  by_cases h : i < l.length
  · rw [if_pos h]; simp [List.getD_eq_getElem?_getD, h, List.getElem?_append_left h]
  · have : i = l.length := by omega
    subst this
    rw [if_neg h]; simp [List.getD_eq_getElem?_getD]
def runE (g : Gt) (r : Ru) (l : List Int) : Int := if firstOf [gateE g, rulesE r, if l.length ≤ 200 then 0 else 8] = 0 then devE l else firstOf [gateE g, rulesE r, if l.length ≤ 200 then 0 else 8]
theorem GtOk.stay {g : Gt} (hg : GtOk g) {a : Int} (ha : g.l ≤ a ∧ a ≤ g.h) : GtOk ⟨a, g.l, g.h, g.r⟩ := by
  have h1 := hg.l; have h2 := hg.h
  exact ⟨hg.l, hg.h, by simp only; omega, hg.r, hg.lh, ha⟩
theorem S60 (g : Gt) (hg : GtOk g) (r : Ru) (hr : RuOk r) (l : List Int) (hl : l.length ≤ 1000) (hd : ∀ x ∈ l, -100000 ≤ x ∧ x ≤ 100000) : SP 60 [gtA g, ruA r, ints l] (ints (runL r g l)) false := by
  refine sound (d := 2) tok2 mixed2 Tryz.func60 (by kernel_rfl) (by kernel_rfl) ?_
  conv => whnf
  refine ⟨[.slot 7 1], [2, 3, 4, 7, 8], fun st mq => ∃ (k : Nat) (a : Int) (O : List Int), (k ≤ l.length) ∧ (O.length = k) ∧ (g.l ≤ a ∧ a ≤ g.h) ∧ (O ++ runL r ⟨a, g.l, g.h, g.r⟩ (l.drop k) = runL r g l) ∧ st = ⟨[(2, ints l), (3, .optr 0 0 0 0), (4, .optr 1 0 0 0), (7, .oslice 2 0 0 k none), (8, i64 k)], ⟨[⟨4, 1, fun _ => [i64 a, i64 g.l, i64 g.h, i64 g.r], 0, false, true, true⟩, ⟨4, 1, fun _ => [i64 r.b, i64 r.n, i64 r.d, i64 r.s], 0, false, true, true⟩, ⟨1, k, fun i => [i64 (O.getD i 0)], 0, false, true, false⟩], [], none, 0⟩, []⟩ ∧ mq = l.length - k,
    ⟨_, _, ⟨0, g.a, [], by omega, rfl, hg.la, rfl, rfl, rfl⟩, ⟨⟨.inl rfl, rfl, rfl, rfl⟩, ⟨⟨rfl, rfl, rfl, rfl, fun _ => rfl, fun _ _ => .inl rfl⟩, ⟨⟨rfl, rfl, rfl, rfl, fun _ => rfl, fun _ _ => .inl rfl⟩, ⟨⟨rfl, rfl, rfl, rfl, fun _ => rfl, fun i h => .inl (absurd h (Nat.not_lt_zero i))⟩, trivial⟩⟩⟩, trivial⟩⟩, ?_⟩
  rintro s0 m0 ⟨k, a, O, hk, hO, ha, hR, rfl, hmeas⟩
  by_cases hlt : k < l.length
  · have hok := hg.stay ha
    have hx := hd _ (getD_memI hlt)
    have h55 := S55 r hr (l.getD k 0) hx
    have h56 := S56 ⟨a, g.l, g.h, g.r⟩ hok (wantI r (l.getD k 0))
    have hin := step_in (g := ⟨a, g.l, g.h, g.r⟩) (w := wantI r (l.getD k 0)) hg.lh hg.r.1 ha
    have hdr := runL_drop r ⟨a, g.l, g.h, g.r⟩ l k hlt
    rw [hdr] at hR
    conv => whnf
    conv => whnf
    refine ifB_dec (fun w1 => ?_) (fun w1 => ?_)
    · conv => whnf
      conv => whnf
      refine ⟨[], by kernel_rfl, ?_⟩
      conv => whnf
      conv => whnf
      refine ⟨⟨(by omega), (by omega)⟩, ?_⟩
      conv => whnf
      conv => whnf
      refine .inl ⟨_, _, byX rfl (Sound1.pl (h55) rfl), ?_⟩
      conv => whnf
      conv => whnf
      refine .inl ⟨_, _, byX rfl (Sound1.pl (h56) rfl), ?_⟩
      conv => whnf
      conv => whnf
      refine .inl ?_
      conv => whnf
      conv => whnf
      refine ⟨(by show _ * (8 + 1) ≤ _; omega), ?_⟩
      conv => whnf
      conv => whnf
      refine ⟨inK64 (by omega) (by omega), ?_⟩
      conv => whnf
      conv => whnf
      refine ⟨_, _, ⟨⟨k + 1, (stepI ⟨a, g.l, g.h, g.r⟩ (wantI r (l.getD k 0))), O ++ [(stepI ⟨a, g.l, g.h, g.r⟩ (wantI r (l.getD k 0)))], by omega, (by rw [List.length_append, hO]; rfl), hin, (by rw [List.append_assoc]; exact hR), rfl, rfl⟩, by omega⟩, ⟨⟨.inl rfl, rfl, rfl, rfl⟩, ⟨⟨rfl, rfl, rfl, rfl, fun _ => rfl, fun _ _ => .inl rfl⟩, ⟨⟨rfl, rfl, rfl, rfl, fun _ => rfl, fun _ _ => .inl rfl⟩, ⟨⟨rfl, rfl, rfl, rfl, fun _ => rfl, fun i hi => .inl (app_row O _ k i hO hi)⟩, trivial⟩⟩⟩, trivial⟩⟩
    · (exfalso; omega)
  · have e : k = l.length := by omega
    subst e
    rw [List.drop_length] at hR
    have hR : O = runL r g l := by simpa [runL] using hR
    subst hR
    conv => whnf
    conv => whnf
    refine ifB_dec (fun w1 => ?_) (fun w1 => ?_)
    · (exfalso; omega)
    · conv => whnf
      conv => whnf
      refine ⟨?_, nofun⟩
      exact ⟨rfl, hO.symm, fun i hi => rfl⟩
theorem step_raw (g : Gt) (w : Int) (hr : 1 ≤ g.r) : stepI g w = if g.a + g.r < (if g.a - g.r > goalI g w then g.a - g.r else goalI g w) then g.a + g.r else (if g.a - g.r > goalI g w then g.a - g.r else goalI g w) := by
  unfold stepI
  (repeat' split) <;> omega
theorem S58 (g : Gt) (r : Ru) (l : List Int) (hl : l.length ≤ 1000) : SP 58 [gtA g, ruA r, ints l] (.tuple [ints (if runE g r l = 0 then runL r g l else []), i64 (runE g r l)]) false := by
  have h52 := S52 g
  have h53 := S53 r
  have h90 := @S90_3 (gateE g) (rulesE r) (if l.length ≤ 200 then 0 else 8)
  have h94 := S94 127 (fun _ x => speedE x) l (by omega) (fun k hk => S127 k (l.getD k 0))
  have hlen : (if decide ((l.length : Int) ≤ 200) = true then (0 : Int) else 8) = if l.length ≤ 200 then 0 else 8 := by
    by_cases h : l.length ≤ 200
    · rw [if_pos h, if_pos (decide_eq_true (by omega))]
    · rw [if_neg h, if_neg (by simp; omega)]
  rw [← hlen] at h90
  unfold runE devE
  rw [← hlen]
  have hgr : firstOf [gateE g, rulesE r, if decide ((l.length : Int) ≤ 200) = true then (0 : Int) else 8] = 0 → GtOk g ∧ RuOk r := fun h => by
    rw [first3] at h
    by_cases h1 : gateE g = 0
    · rw [if_neg (not_not_intro h1)] at h
      by_cases h2 : rulesE r = 0
      · exact ⟨GtOk.of h1, RuOk.of h2⟩
      · rw [if_pos h2] at h; exact absurd h h2
    · rw [if_pos h1] at h; exact absurd h h1
  generalize firstOf [gateE g, rulesE r, if decide ((l.length : Int) ≤ 200) = true then (0 : Int) else 8] = E at h90 hgr ⊢
  have hall := dev_all l 0
  generalize eachI (fun _ x => speedE x) l 0 = D at h94 hall ⊢
  by_cases hE : E = 0
  · obtain ⟨hg, hr⟩ := hgr hE
    rw [if_pos hE]
    by_cases hD : D.2 = 0
    · have hd := hall hD
      have g1 := hg.l
      have g2 := hg.h
      have g3 := hg.r
      rw [if_pos hD]
      refine sound (d := 2) tok2 mixed2 Tryz.func58 (by kernel_rfl) (by kernel_rfl) ?_
      conv => whnf
      refine ⟨[], by kernel_rfl, ?_⟩
      conv => whnf
      refine .inl ⟨_, _, byX rfl (Sound1.pl (h52) rfl), ?_⟩
      conv => whnf
      refine .inl ⟨_, _, byX rfl (Sound1.pl (h53) rfl), ?_⟩
      conv => whnf
      refine .inl ⟨_, _, byX rfl (Sound1.pl (S93 _ _) rfl), ?_⟩
      conv => whnf
      refine .inl ⟨_, _, byX rfl (Sound1.pl (h90 ⟨rfl, rfl, rfl⟩) rfl), ?_⟩
      conv => whnf
      refine ifB_beq (fun w1 => ?_) (fun w1 => ?_)
      · conv => whnf
        refine .inl ⟨_, _, byX rfl (Sound1.pl (h94) rfl), ?_⟩
        conv => whnf
        refine ifB_bne (fun w2 => ?_) (fun w2 => ?_)
        · (exfalso; omega)
        · conv => whnf
          refine ⟨[.slot 10 1], [4, 9, 10, 35, 36, 37], fun st mq => ∃ (k : Nat) (a : Int) (O : List Int) (F2 : Nat → List AV), (k ≤ l.length) ∧ (O.length = k) ∧ (g.l ≤ a ∧ a ≤ g.h) ∧ (O ++ runL r ⟨a, g.l, g.h, g.r⟩ (l.drop k) = runL r g l) ∧ st = ⟨[(4, .optr 1 0 0 0), (9, .optr 3 0 0 0), (10, .oslice 4 0 0 k none), (35, ints l), (36, i64 l.length), (37, i64 k)], ⟨[⟨4, 1, fun _ => [i64 g.a, i64 g.l, i64 g.h, i64 g.r], 0, false, true, true⟩, ⟨4, 1, fun _ => [i64 r.b, i64 r.n, i64 r.d, i64 r.s], 0, false, true, true⟩, ⟨1, 3, F2, 0, false, true, false⟩, ⟨4, 1, fun _ => [i64 a, i64 g.l, i64 g.h, i64 g.r], 0, false, true, true⟩, ⟨1, k, fun i => [i64 (O.getD i 0)], 0, false, true, false⟩], [], none, 0⟩, []⟩ ∧ mq = l.length - k,
            ⟨_, _, ⟨0, g.a, [], _, by omega, rfl, hg.la, rfl, rfl, rfl⟩, ⟨⟨.inl rfl, rfl, rfl, rfl⟩, ⟨⟨rfl, rfl, rfl, rfl, fun _ => rfl, fun _ _ => .inl rfl⟩, ⟨⟨rfl, rfl, rfl, rfl, fun _ => rfl, fun _ _ => .inl rfl⟩, ⟨⟨rfl, rfl, rfl, rfl, fun _ => rfl, fun _ _ => .inl rfl⟩, ⟨⟨rfl, rfl, rfl, rfl, fun _ => rfl, fun _ _ => .inl rfl⟩, ⟨⟨rfl, rfl, rfl, rfl, fun _ => rfl, fun i h => .inl (absurd h (Nat.not_lt_zero i))⟩, trivial⟩⟩⟩⟩⟩, trivial⟩⟩, ?_⟩
          rintro s0 m0 ⟨k, a, O, F2, hk, hO, ha, hR, rfl, hmeas⟩
          by_cases hlt : k < l.length
          · have hx := hd _ (getD_memI hlt)
            have h123 := S123 r hr (l.getD k 0) hx
            have h125 := S125 ⟨a, g.l, g.h, g.r⟩ hg.lh (wantI r (l.getD k 0))
            have hgo := goal_in (g := ⟨a, g.l, g.h, g.r⟩) hg.lh (wantI r (l.getD k 0))
            have hin := step_in (g := ⟨a, g.l, g.h, g.r⟩) (w := (wantI r (l.getD k 0))) hg.lh hg.r.1 ha
            have hdr := runL_drop r ⟨a, g.l, g.h, g.r⟩ l k hlt
            have hs : stepI ⟨a, g.l, g.h, g.r⟩ (wantI r (l.getD k 0)) = (if a + g.r < (if a - g.r > goalI ⟨a, g.l, g.h, g.r⟩ (wantI r (l.getD k 0)) then a - g.r else goalI ⟨a, g.l, g.h, g.r⟩ (wantI r (l.getD k 0))) then a + g.r else (if a - g.r > goalI ⟨a, g.l, g.h, g.r⟩ (wantI r (l.getD k 0)) then a - g.r else goalI ⟨a, g.l, g.h, g.r⟩ (wantI r (l.getD k 0)))) := step_raw ⟨a, g.l, g.h, g.r⟩ (wantI r (l.getD k 0)) hg.r.1
            rw [hdr] at hR
            unfold stepG at hR
            rw [hs] at hR hin
            conv => whnf
            conv => whnf
            refine ifB_dec (fun w3 => ?_) (fun w3 => ?_)
            · conv => whnf
              conv => whnf
              refine ⟨⟨(by omega), (by omega)⟩, ?_⟩
              conv => whnf
              conv => whnf
              refine .inl ⟨_, _, byX rfl (Sound1.pl (h123) rfl), ?_⟩
              conv => whnf
              conv => whnf
              refine .inr (.inl ⟨[], ?_⟩)
              conv => whnf
              conv => whnf
              refine ⟨[], by kernel_rfl, ?_⟩
              conv => whnf
              conv => whnf
              refine .inl ⟨_, _, byX rfl (Sound1.pl (h125) rfl), ?_⟩
              conv => whnf
              conv => whnf
              refine ⟨inK64 (by omega) (by omega), ?_⟩
              conv => whnf
              conv => whnf
              refine ⟨inK64 (by omega) (by omega), ?_⟩
              conv => whnf
              conv => whnf
              refine .inl ?_
              conv => whnf
              conv => whnf
              refine ⟨(by show _ * (8 + 1) ≤ _; omega), ?_⟩
              conv => whnf
              conv => whnf
              refine ⟨inK64 (by omega) (by omega), ?_⟩
              conv => whnf
              conv => whnf
              refine ⟨_, _, ⟨⟨k + 1, (if a + g.r < (if a - g.r > goalI ⟨a, g.l, g.h, g.r⟩ (wantI r (l.getD k 0)) then a - g.r else goalI ⟨a, g.l, g.h, g.r⟩ (wantI r (l.getD k 0))) then a + g.r else (if a - g.r > goalI ⟨a, g.l, g.h, g.r⟩ (wantI r (l.getD k 0)) then a - g.r else goalI ⟨a, g.l, g.h, g.r⟩ (wantI r (l.getD k 0)))), O ++ [(if a + g.r < (if a - g.r > goalI ⟨a, g.l, g.h, g.r⟩ (wantI r (l.getD k 0)) then a - g.r else goalI ⟨a, g.l, g.h, g.r⟩ (wantI r (l.getD k 0))) then a + g.r else (if a - g.r > goalI ⟨a, g.l, g.h, g.r⟩ (wantI r (l.getD k 0)) then a - g.r else goalI ⟨a, g.l, g.h, g.r⟩ (wantI r (l.getD k 0))))], _, by omega, (by rw [List.length_append, hO]; rfl), hin, (by rw [List.append_assoc]; exact hR), rfl, rfl⟩, by omega⟩, ⟨⟨.inl rfl, rfl, rfl, rfl⟩, ⟨⟨rfl, rfl, rfl, rfl, fun _ => rfl, fun _ _ => .inl rfl⟩, ⟨⟨rfl, rfl, rfl, rfl, fun _ => rfl, fun _ _ => .inl rfl⟩, ⟨⟨rfl, rfl, rfl, rfl, fun _ => rfl, fun _ _ => .inl rfl⟩, ⟨⟨rfl, rfl, rfl, rfl, fun _ => rfl, fun _ _ => .inl rfl⟩, ⟨⟨rfl, rfl, rfl, rfl, fun _ => rfl, fun i hi => .inl (app_row O _ k i hO hi)⟩, trivial⟩⟩⟩⟩⟩, trivial⟩⟩
            · (exfalso; omega)
          · have e : k = l.length := by omega
            subst e
            rw [List.drop_length] at hR
            have hR : O = runL r g l := by simpa [runL] using hR
            subst hR
            conv => whnf
            conv => whnf
            refine ifB_dec (fun w3 => ?_) (fun w3 => ?_)
            · (exfalso; omega)
            · conv => whnf
              conv => whnf
              refine ⟨?_, nofun⟩
              rw [hD]
              exact ave_tup2 ⟨rfl, hO.symm, fun i hi => rfl⟩ rfl
      · (exfalso; omega)
    · rw [if_neg hD]
      refine sound (d := 2) tok2 mixed2 Tryz.func58 (by kernel_rfl) (by kernel_rfl) ?_
      conv => whnf
      refine ⟨[], by kernel_rfl, ?_⟩
      conv => whnf
      refine .inl ⟨_, _, byX rfl (Sound1.pl (h52) rfl), ?_⟩
      conv => whnf
      refine .inl ⟨_, _, byX rfl (Sound1.pl (h53) rfl), ?_⟩
      conv => whnf
      refine .inl ⟨_, _, byX rfl (Sound1.pl (S93 _ _) rfl), ?_⟩
      conv => whnf
      refine .inl ⟨_, _, byX rfl (Sound1.pl (h90 ⟨rfl, rfl, rfl⟩) rfl), ?_⟩
      conv => whnf
      refine ifB_beq (fun w1 => ?_) (fun w1 => ?_)
      · conv => whnf
        refine .inl ⟨_, _, byX rfl (Sound1.pl (h94) rfl), ?_⟩
        conv => whnf
        refine ifB_bne (fun w2 => ?_) (fun w2 => ?_)
        · conv => whnf
          refine ⟨?_, nofun⟩
          exact ave_tup2 rfl rfl
        · (exfalso; omega)
      · (exfalso; omega)
  · rw [if_neg hE, if_neg hE]
    refine sound (d := 2) tok2 mixed2 Tryz.func58 (by kernel_rfl) (by kernel_rfl) ?_
    conv => whnf
    refine ⟨[], by kernel_rfl, ?_⟩
    conv => whnf
    refine .inl ⟨_, _, byX rfl (Sound1.pl (h52) rfl), ?_⟩
    conv => whnf
    refine .inl ⟨_, _, byX rfl (Sound1.pl (h53) rfl), ?_⟩
    conv => whnf
    refine .inl ⟨_, _, byX rfl (Sound1.pl (S93 _ _) rfl), ?_⟩
    conv => whnf
    refine .inl ⟨_, _, byX rfl (Sound1.pl (h90 ⟨rfl, rfl, rfl⟩) rfl), ?_⟩
    conv => whnf
    refine ifB_beq (fun w1 => ?_) (fun w1 => ?_)
    · (exfalso; omega)
    · conv => whnf
      refine ifB_bne (fun w2 => ?_) (fun w2 => ?_)
      · conv => whnf
        refine ⟨?_, nofun⟩
        exact ave_tup2 rfl rfl
      · (exfalso; omega)
end Go.Tr

/- Contracts of chapter 6: valid polynomials; entries; the greatest common divisor. Conditions: none. -/
namespace Go.Tr
open Go Go.Proofs
set_option maxRecDepth 20000
set_option maxHeartbeats 8000000

def coefE (x : Int) : Int := if -1000 ≤ x ∧ x ≤ 1000 then 0 else 2
def shapeE (n : Int) : Int := if n < 2 then 10 else if n > 5 then 8 else 0
theorem S97 (n : Int) : SP 97 [i64 n] (i64 (shapeE n)) false := by
  refine sound (d := 2) tok2 mixed2 Tryz.func97 (by kernel_rfl) (by kernel_rfl) ?_
  conv => whnf
  refine ifB_dec (fun w1 => ?_) (fun w1 => ?_)
  · conv => whnf
    refine ⟨?_, nofun⟩
    (exact endi (by unfold shapeE; (repeat' split) <;> omega))
  · conv => whnf
    refine ifB_dec (fun w2 => ?_) (fun w2 => ?_)
    · conv => whnf
      refine ⟨?_, nofun⟩
      (exact endi (by unfold shapeE; (repeat' split) <;> omega))
    · conv => whnf
      refine ⟨?_, nofun⟩
      (exact endi (by unfold shapeE; (repeat' split) <;> omega))
theorem S101 (n : Int) : SP 101 [i64 n] (i64 (shapeE n)) false := by
  have h90 := fun a b => @S90_2 a b
  refine sound (d := 2) tok2 mixed2 Tryz.func101 (by kernel_rfl) (by kernel_rfl) ?_
  conv => whnf
  refine .inl ⟨_, _, byX rfl (Sound1.pl (S93 _ _) rfl), ?_⟩
  conv => whnf
  refine .inl ⟨_, _, byX rfl (Sound1.pl (S93 _ _) rfl), ?_⟩
  conv => whnf
  refine .inl ⟨_, _, byX rfl (Sound1.pl (h90 _ _ ⟨rfl, rfl⟩) rfl), ?_⟩
  conv => whnf
  refine ⟨?_, nofun⟩
  (exact endi (by rw [first2]; unfold shapeE; simp only [decide_eq_true_eq]; (repeat' split) <;> first | omega | contradiction | simp_all))
theorem S104 (x : Int) : SP 104 [i64 x] (i64 (coefE x)) false := by
  have h := S114 x 1000
  have h93 := S93 (win x (-1000) 1000) 2
  refine sound (d := 2) tok2 mixed2 Tryz.func104 (by kernel_rfl) (by kernel_rfl) ?_
  conv => whnf
  refine .inl ⟨_, _, byX rfl (Sound1.pl (h (by omega)) rfl), ?_⟩
  conv => whnf
  refine .inl ⟨_, _, byX rfl (Sound1.pl (h93) rfl), ?_⟩
  conv => whnf
  refine ⟨?_, nofun⟩
  exact endi (by unfold coefE win; simp)
theorem S132 (k x : Int) : SP 132 [i64 k, i64 x] (i64 (coefE x)) false := by
  have h := S104 x
  refine sound (d := 2) tok2 mixed2 Tryz.func132 (by kernel_rfl) (by kernel_rfl) ?_
  conv => whnf
  refine .inl ⟨_, _, byX rfl (Sound1.pl (h) rfl), ?_⟩
  conv => whnf
  refine ⟨?_, nofun⟩
  rfl
def coefsE (l : List Int) : Int := (eachI (fun _ x => coefE x) l 0).2
/-- The error of a polynomial. -/
def polyE (l : List Int) : Int := if shapeE l.length ≠ 0 then shapeE l.length else if coefsE l ≠ 0 then coefsE l else if l.getD 0 0 > 0 then 0 else 3
theorem shape_ok {n : Nat} (h : shapeE n = 0) : 2 ≤ n ∧ n ≤ 5 := by
  unfold shapeE at h
  (repeat' split at h) <;> omega
theorem S64 (l : List Int) (hl : l.length ≤ 1000000) : SP 64 [ints l] (i64 (polyE l)) false := by
  have h101 := S101 l.length
  have h94 := S94 132 (fun _ x => coefE x) l (by omega) (fun k hk => S132 k (l.getD k 0))
  have h90 := fun b => @S90_2 (coefsE l) b
  unfold polyE
  by_cases hs : shapeE l.length = 0
  · have hn := shape_ok hs
    rw [if_neg (not_not_intro hs)]
    rw [hs] at h101
    refine sound (d := 2) tok2 mixed2 Tryz.func64 (by kernel_rfl) (by kernel_rfl) ?_
    conv => whnf
    refine .inl ⟨_, _, byX rfl (Sound1.pl (h101) rfl), ?_⟩
    conv => whnf
    refine .inl ⟨_, _, byX rfl (Sound1.pl (h94) rfl), ?_⟩
    conv => whnf
    refine ⟨⟨(by omega), (by omega)⟩, ?_⟩
    conv => whnf
    refine .inl ⟨_, _, byX rfl (Sound1.pl (S93 _ _) rfl), ?_⟩
    conv => whnf
    refine .inl ⟨_, _, byX rfl (Sound1.pl (h90 _ ⟨rfl, rfl⟩) rfl), ?_⟩
    conv => whnf
    refine ⟨?_, nofun⟩
    exact endi (by rw [first2]; by_cases h : l.getD 0 0 > 0 <;> simp [h])
  · rw [if_pos hs]
    refine sound (d := 2) tok2 mixed2 Tryz.func64 (by kernel_rfl) (by kernel_rfl) ?_
    conv => whnf
    refine .inl ⟨_, _, byX rfl (Sound1.pl (h101) rfl), ?_⟩
    conv => whnf
    refine ifB_bne (fun w1 => ?_) (fun w1 => ?_)
    · conv => whnf
      refine ⟨?_, nofun⟩
      rfl
    · (exfalso; omega)
theorem coef_nz (x : Int) : coefE x ≠ 0 → coefE x = 2 := by
  unfold coefE
  split <;> simp
theorem S21 (l : List Int) (hl : l.length ≤ 1000000) : SP 21 [ints l] (i64 (polyE l)) false := by
  have h97 := S97 l.length
  unfold polyE
  by_cases hs : shapeE l.length = 0
  · have hn := shape_ok hs
    rw [if_neg (not_not_intro hs)]
    rw [hs] at h97
    unfold coefsE
    refine sound (d := 2) tok2 mixed2 Tryz.func21 (by kernel_rfl) (by kernel_rfl) ?_
    conv => whnf
    refine .inl ⟨_, _, byX rfl (Sound1.pl (h97) rfl), ?_⟩
    conv => whnf
    refine ⟨[], [0, 4], fun st mq => ∃ (k : Nat), (k ≤ l.length) ∧ ((eachI (fun _ x => coefE x) (l.drop k) k).2 = (eachI (fun _ x => coefE x) l 0).2) ∧ st = ⟨[(0, ints l), (4, i64 k)], ⟨[], [], none, 0⟩, []⟩ ∧ mq = l.length - k,
      ⟨_, _, ⟨0, by omega, rfl, rfl, rfl⟩, ⟨⟨.inl rfl, rfl, rfl, rfl⟩, trivial, trivial⟩⟩, ?_⟩
    rintro s0 m0 ⟨k, hk, he, rfl, hmeas⟩
    by_cases hlt : k < l.length
    · have hd := eachI_drop (fun _ x => coefE x) l k hlt
      conv => whnf
      conv => whnf
      refine ifB_dec (fun w1 => ?_) (fun w1 => ?_)
      · conv => whnf
        conv => whnf
        refine ⟨⟨(by omega), (by omega)⟩, ?_⟩
        conv => whnf
        conv => whnf
        refine .inl ⟨_, _, byX rfl (Sound1.pl (S68 _ _ _) rfl), ?_⟩
        conv => whnf
        conv => whnf
        refine ifB_not ?_
        conv => whnf
        conv => whnf
        refine ifB_dec (fun w2 => ?_) (fun w2 => ?_)
        · conv => whnf
          conv => whnf
          refine ⟨inK64 (by omega) (by omega), ?_⟩
          rw [if_pos (show coefE (l.getD k 0) = 0 from if_pos w2)] at hd
          rw [hd] at he
          conv => whnf
          conv => whnf
          refine ⟨_, _, ⟨⟨k + 1, by omega, he, rfl, rfl⟩, by omega⟩, ⟨⟨.inl rfl, rfl, rfl, rfl⟩, trivial, trivial⟩⟩
        · conv => whnf
          conv => whnf
          refine ⟨?_, nofun⟩
          have hc : coefE (l.getD k 0) = 2 := if_neg w2
          rw [hc, if_neg (by decide)] at hd
          rw [hd] at he
          exact endi (by rw [← he]; exact (if_pos (show (2 : Int) ≠ 0 by decide)).symm)
      · (exfalso; omega)
    · have e : k = l.length := by omega
      subst e
      rw [List.drop_length] at he
      rw [← he]
      conv => whnf
      conv => whnf
      refine ifB_dec (fun w1 => ?_) (fun w1 => ?_)
      · (exfalso; omega)
      · conv => whnf
        conv => whnf
        refine ⟨⟨(by omega), (by omega)⟩, ?_⟩
        conv => whnf
        conv => whnf
        refine ifB_dec (fun w2 => ?_) (fun w2 => ?_)
        · conv => whnf
          conv => whnf
          refine ⟨?_, nofun⟩
          have w2 : l.getD 0 0 < 1 := w2
          exact endi (by show (3 : Int) = if (0 : Int) ≠ 0 then 0 else if l.getD 0 0 > 0 then 0 else 3; rw [if_neg (by simp), if_neg (by omega)])
        · conv => whnf
          conv => whnf
          refine ⟨?_, nofun⟩
          have w2 : ¬ l.getD 0 0 < 1 := w2
          exact endi (by show (0 : Int) = if (0 : Int) ≠ 0 then 0 else if l.getD 0 0 > 0 then 0 else 3; rw [if_neg (by simp), if_pos (by omega)])
  · rw [if_pos hs]
    refine sound (d := 2) tok2 mixed2 Tryz.func21 (by kernel_rfl) (by kernel_rfl) ?_
    conv => whnf
    refine .inl ⟨_, _, byX rfl (Sound1.pl (h97) rfl), ?_⟩
    conv => whnf
    refine ifB_bne (fun w1 => ?_) (fun w1 => ?_)
    · conv => whnf
      refine ⟨?_, nofun⟩
      rfl
    · (exfalso; omega)
def entL (l : List Int) (i : Nat) : Int := l.getD i 0
theorem S158 (l : List Int) (hl : l.length ≤ 1000000) (i : Nat) : SP 158 [ints l, i64 i] (i64 (entL l i)) false := by
  refine sound (d := 2) tok2 mixed2 Tryz.func158 (by kernel_rfl) (by kernel_rfl) ?_
  conv => whnf
  refine ifB_dec (fun w1 => ?_) (fun w1 => ?_)
  · conv => whnf
    refine ⟨⟨(by omega), (by omega)⟩, ?_⟩
    conv => whnf
    refine ⟨?_, nofun⟩
    rfl
  · conv => whnf
    refine ⟨?_, nofun⟩
    exact endi (by unfold entL; simp [List.getD_eq_getElem?_getD, show l.length ≤ i by omega])
theorem S134 (l : List Int) (hl : l.length ≤ 1000000) (i : Nat) : SP 134 [ints l, i64 i] (i64 (entL l i)) false := by
  refine sound (d := 2) tok2 mixed2 Tryz.func134 (by kernel_rfl) (by kernel_rfl) ?_
  conv => whnf
  refine ifB_dec (fun w1 => ?_) (fun w1 => ?_)
  · conv => whnf
    refine ⟨⟨(by omega), (by omega)⟩, ?_⟩
    conv => whnf
    refine ⟨?_, nofun⟩
    rfl
  · conv => whnf
    refine ⟨?_, nofun⟩
    exact endi (by unfold entL; simp [List.getD_eq_getElem?_getD, show l.length ≤ i by omega])
/-! ### The greatest common divisor -/

/-- Euclid's remainders, with their signs, so many rounds at most. -/
def gcdF : Nat → Int → Int → Int
  | 0, a, _ => a
  | n + 1, a, b => if b = 0 then a else gcdF n b (a.tmod b)
theorem gcdF_stop (n : Nat) (a : Int) : gcdF n a 0 = a := by
  cases n with
  | zero => rfl
  | succ n => exact if_pos rfl
theorem tmod_lt {a b : Int} (h : b ≠ 0) : (a.tmod b).natAbs < b.natAbs := by
  rw [Int.natAbs_tmod]
  exact Nat.mod_lt _ (by omega)
theorem gcdF_gcd : ∀ (n : Nat) (a b : Int), b.natAbs < n → (gcdF n a b).natAbs = Nat.gcd a.natAbs b.natAbs
  | 0, _, _, h => by omega
  | n + 1, a, b, h => by
    unfold gcdF
    by_cases hb : b = 0
    · subst hb
      rw [if_pos rfl]; simp
    · rw [if_neg hb, gcdF_gcd n b (a.tmod b) (by have := tmod_lt (a := a) hb; omega), Int.natAbs_tmod, Nat.gcd_comm a.natAbs, Nat.gcd_rec b.natAbs a.natAbs, Nat.gcd_comm]
theorem S82 (x : Int) (h : -9223372036854775807 ≤ x ∧ x ≤ 9223372036854775807) : SP 82 [i64 x] (i64 (x.natAbs : Nat)) false := by
  refine sound (d := 2) tok2 mixed2 Tryz.func82 (by kernel_rfl) (by kernel_rfl) ?_
  conv => whnf
  refine ⟨inK64 (by omega) (by omega), ?_⟩
  conv => whnf
  refine ⟨?_, nofun⟩
  exact endi (by split <;> omega)
theorem S143 (a b : Int) (ha : -9223372036854775807 ≤ a ∧ a ≤ 9223372036854775807) (hb : -9223372036854775807 ≤ b ∧ b ≤ 9223372036854775807) : SP 143 [i64 a, i64 b] (i64 (Nat.gcd a.natAbs b.natAbs : Nat)) false := by
  refine sound (d := 2) tok2 mixed2 Tryz.func143 (by kernel_rfl) (by kernel_rfl) ?_
  conv => whnf
  refine ⟨[], [0, 1], fun st mq => ∃ (x : Int) (y : Int), (-9223372036854775807 ≤ x ∧ x ≤ 9223372036854775807) ∧ (-9223372036854775807 ≤ y ∧ y ≤ 9223372036854775807) ∧ (Nat.gcd x.natAbs y.natAbs = Nat.gcd a.natAbs b.natAbs) ∧ st = ⟨[(0, i64 x), (1, i64 y)], ⟨[], [], none, 0⟩, []⟩ ∧ mq = y.natAbs,
    ⟨_, _, ⟨a, b, ha, hb, rfl, rfl, rfl⟩, ⟨⟨.inl rfl, rfl, rfl, rfl⟩, trivial, trivial⟩⟩, ?_⟩
  rintro s0 m0 ⟨x, y, hx, hy, hg, rfl, hmeas⟩
  by_cases h0 : y = 0
  · have h82 := S82 x hx
    subst h0
    conv => whnf
    conv => whnf
    refine .inl ⟨_, _, byX rfl (Sound1.pl (h82) rfl), ?_⟩
    conv => whnf
    conv => whnf
    refine ⟨?_, nofun⟩
    exact endi (by rw [← hg]; simp)
  · have ht := tmod_lt (a := x) h0
    conv => whnf
    conv => whnf
    refine ifB_bne (fun w1 => ?_) (fun w1 => ?_)
    · conv => whnf
      conv => whnf
      refine ⟨[], by kernel_rfl, ?_⟩
      conv => whnf
      conv => whnf
      refine ⟨(by omega), ?_⟩
      conv => whnf
      conv => whnf
      refine ⟨_, _, ⟨⟨y, x.tmod y, hy, by omega, (by rw [← hg, Int.natAbs_tmod, Nat.gcd_comm x.natAbs, Nat.gcd_rec y.natAbs x.natAbs, Nat.gcd_comm]), rfl, rfl⟩, by omega⟩, ⟨⟨.inl rfl, rfl, rfl, rfl⟩, trivial, trivial⟩⟩
    · (exfalso; omega)
end Go.Tr

/- Contracts of chapter 6: rows divided by their greatest common divisor. Conditions: none. -/
namespace Go.Tr
open Go Go.Proofs
set_option maxRecDepth 20000
set_option maxHeartbeats 8000000

/-- The greatest common divisor of a row; the row divided by it. -/
def gcdR (l : List Int) : Nat := l.foldl (fun g x => Nat.gcd g x.natAbs) 0
theorem gcdR_snoc (l : List Int) (x : Int) : gcdR (l ++ [x]) = Nat.gcd (gcdR l) x.natAbs := by simp [gcdR]
def redL (l : List Int) : List Int := if gcdR l = 0 then l else l.map fun x => x.tdiv (gcdR l : Nat)
/-- All of a row are small. -/
def Sml (B : Nat) (l : List Int) : Prop := ∀ x ∈ l, x.natAbs ≤ B
theorem foldl_le {B : Nat} : ∀ (l : List Int) (g : Nat), Sml B l → g ≤ B → l.foldl (fun g x => Nat.gcd g x.natAbs) g ≤ B
  | [], g, _, hg => hg
  | x :: l, g, h, hg => by
    refine foldl_le l _ (fun y hy => h y (List.mem_cons_of_mem _ hy)) ?_
    have hx := h x (List.mem_cons_self ..)
    by_cases h0 : g = 0
    · subst h0; simpa using hx
    · exact Nat.le_trans (Nat.gcd_le_left _ (by omega)) hg
theorem gcdR_le {B : Nat} {l : List Int} (h : Sml B l) : gcdR l ≤ B := foldl_le l 0 h (Nat.zero_le _)
theorem Sml.take {B : Nat} {l : List Int} (h : Sml B l) (k : Nat) : Sml B (l.take k) := fun x hx => h x (List.mem_of_mem_take hx)
theorem take_snocI {l : List Int} {i : Nat} (h : i < l.length) : l.take (i + 1) = l.take i ++ [l.getD i 0] := by
  rw [List.take_add_one, show l.getD i 0 = l[i] by simp [List.getD_eq_getElem?_getD, h]]
  simp [h]
theorem tdiv_sml (x : Int) (g : Nat) : (x.tdiv (g : Int)).natAbs ≤ x.natAbs := Int.natAbs_tdiv_le_natAbs x g
theorem redL_len (l : List Int) : (redL l).length = l.length := by
  unfold redL
  split <;> simp
theorem redL_sml {B : Nat} {l : List Int} (h : Sml B l) : Sml B (redL l) := by
  unfold redL
  split
  · exact h
  · intro x hx
    obtain ⟨y, hy, rfl⟩ := List.mem_map.1 hx
    exact Nat.le_trans (tdiv_sml y _) (h y hy)
theorem map_getD (f : Int → Int) (l : List Int) (i : Nat) (hi : i < l.length) : (l.map f).getD i 0 = f (l.getD i 0) := by
  simp [List.getD_eq_getElem?_getD, hi]
theorem S133 (l : List Int) (hl : l.length ≤ 1000) (h : Sml 9223372036854775807 l) : SP 133 [ints l] (ints (redL l)) false := by
  unfold redL
  refine sound (d := 2) tok2 mixed2 Tryz.func133 (by kernel_rfl) (by kernel_rfl) ?_
  conv => whnf
  refine ⟨[], [0, 3, 4], fun st mq => ∃ (k : Nat), (k ≤ l.length) ∧ st = ⟨[(0, ints l), (3, i64 (gcdR (l.take k) : Nat)), (4, i64 k)], ⟨[], [], none, 0⟩, []⟩ ∧ mq = l.length - k,
    ⟨_, _, ⟨0, by omega, rfl, rfl⟩, ⟨⟨.inl rfl, rfl, rfl, rfl⟩, trivial, trivial⟩⟩, ?_⟩
  rintro s0 m0 ⟨k, hk, rfl, hmeas⟩
  have hgl := gcdR_le (h.take k)
  by_cases hlt : k < l.length
  · have hx := h _ (getD_memI hlt)
    have h143 := S143 (gcdR (l.take k) : Nat) (l.getD k 0) (by omega) (by omega)
    rw [Int.natAbs_natCast, ← gcdR_snoc, ← take_snocI hlt] at h143
    conv => whnf
    conv => whnf
    refine ifB_dec (fun w1 => ?_) (fun w1 => ?_)
    · conv => whnf
      conv => whnf
      refine ⟨⟨(by omega), (by omega)⟩, ?_⟩
      conv => whnf
      conv => whnf
      refine .inl ⟨_, _, byX rfl (Sound1.pl (h143) rfl), ?_⟩
      conv => whnf
      conv => whnf
      refine ⟨inK64 (by omega) (by omega), ?_⟩
      conv => whnf
      conv => whnf
      refine ⟨_, _, ⟨⟨k + 1, by omega, rfl, rfl⟩, by omega⟩, ⟨⟨.inl rfl, rfl, rfl, rfl⟩, trivial, trivial⟩⟩
    · (exfalso; omega)
  · have e : k = l.length := by omega
    subst e
    rw [List.take_length] at hgl ⊢
    by_cases h0 : gcdR l = 0
    · rw [h0, if_pos rfl]
      conv => whnf
      conv => whnf
      refine ifB_dec (fun w1 => ?_) (fun w1 => ?_)
      · (exfalso; omega)
      · conv => whnf
        conv => whnf
        refine ⟨?_, nofun⟩
        exact ⟨rfl, rfl, fun i hi => rfl⟩
    · rw [if_neg h0]
      conv => whnf
      conv => whnf
      refine ifB_dec (fun w1 => ?_) (fun w1 => ?_)
      · (exfalso; omega)
      · conv => whnf
        conv => whnf
        refine ifB_beq (fun w2 => ?_) (fun w2 => ?_)
        · (exfalso; omega)
        · conv => whnf
          conv => whnf
          refine ⟨[.slot 5 1], [0, 3, 5, 6], fun st mq => ∃ (j : Nat) (O : List Int), (j ≤ l.length) ∧ (O = (l.take j).map fun x => x.tdiv (gcdR l : Nat)) ∧ st = ⟨[(0, ints l), (3, i64 (gcdR l : Nat)), (5, .oslice 0 0 0 j none), (6, i64 j)], ⟨[⟨1, j, fun i => [i64 (O.getD i 0)], 0, false, true, false⟩], [], none, 0⟩, []⟩ ∧ mq = l.length - j,
            ⟨_, _, ⟨0, [], by omega, rfl, rfl, rfl⟩, ⟨⟨.inl rfl, rfl, rfl, rfl⟩, ⟨⟨rfl, rfl, rfl, rfl, fun _ => rfl, fun i h => .inl (absurd h (Nat.not_lt_zero i))⟩, trivial⟩, trivial⟩⟩, ?_⟩
          rintro s0 m0 ⟨j, O, hj, hO, rfl, hmeas⟩
          have hOl : O.length = j := by rw [hO]; simp; omega
          by_cases hlt : j < l.length
          · have hx := h _ (getD_memI hlt)
            have ht := tdiv_sml (l.getD j 0) (gcdR l)
            have hx' : (l.getD (j : Int).toNat 0).natAbs ≤ 9223372036854775807 := hx
            have ht' : ((l.getD (j : Int).toNat 0).tdiv (gcdR l : Nat)).natAbs ≤ (l.getD (j : Int).toNat 0).natAbs := ht
            conv => whnf
            conv => whnf
            conv => whnf
            refine ifB_dec (fun w3 => ?_) (fun w3 => ?_)
            · conv => whnf
              conv => whnf
              conv => whnf
              refine ⟨⟨(by omega), (by omega)⟩, ?_⟩
              conv => whnf
              conv => whnf
              conv => whnf
              refine ⟨⟨(by omega), inK64 (by omega) (by omega)⟩, ?_⟩
              conv => whnf
              conv => whnf
              conv => whnf
              refine .inl ?_
              conv => whnf
              conv => whnf
              conv => whnf
              refine ⟨(by show _ * (8 + 1) ≤ _; omega), ?_⟩
              conv => whnf
              conv => whnf
              conv => whnf
              refine ⟨inK64 (by omega) (by omega), ?_⟩
              conv => whnf
              conv => whnf
              conv => whnf
              refine ⟨_, _, ⟨⟨j + 1, O ++ [(l.getD j 0).tdiv (gcdR l : Nat)], by omega, (by rw [take_snocI hlt, List.map_append, hO]; rfl), rfl, rfl⟩, by omega⟩, ⟨⟨.inl rfl, rfl, rfl, rfl⟩, ⟨⟨rfl, rfl, rfl, rfl, fun _ => rfl, fun i hi => .inl (app_row O _ j i hOl hi)⟩, trivial⟩, trivial⟩⟩
            · (exfalso; omega)
          · have e : j = l.length := by omega
            subst e
            rw [List.take_length] at hO
            subst hO
            conv => whnf
            conv => whnf
            conv => whnf
            refine ifB_dec (fun w3 => ?_) (fun w3 => ?_)
            · (exfalso; omega)
            · conv => whnf
              conv => whnf
              conv => whnf
              refine ⟨?_, nofun⟩
              exact ⟨rfl, by simp, fun i hi => rfl⟩
end Go.Tr

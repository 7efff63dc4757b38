/- Chapter 7: plans as plain data; which plans are valid. Conditions: none. -/
import Derived.Test.YtflgajlngiojbaaDoorTr06
set_option linter.unusedSectionVars false
set_option linter.unnecessarySimpa false
set_option linter.unusedVariables false
set_option linter.unusedSimpArgs false

namespace Go.Tr
open Go Go.Proofs
set_option maxRecDepth 20000
set_option maxHeartbeats 8000000

/-! ### Equality in depth -/

/-- Equal as far as it can be seen, in depth. -/
def AVF : Nat → AV → AV → Prop
  | 0, _, _ => False
  | n + 1, .rslice es len f, .rslice es' len' g => es = es' ∧ len = len' ∧ ∀ i, i < len → (f i).length = (g i).length ∧ ∀ j x y, nth? (f i) j = some x → nth? (g i) j = some y → x = y ∨ AVF n x y
  | _ + 1, .eslice, .rslice _ len _ => len = 0
  | n + 1, .agg l, .agg l' => l.length = l'.length ∧ ∀ i x y, nth? l i = some x → nth? l' i = some y → x = y ∨ AVF n x y
  | n + 1, .tuple l, .tuple l' => l.length = l'.length ∧ ∀ i x y, nth? l i = some x → nth? l' i = some y → x = y ∨ AVF n x y
  | _ + 1, x, y => x = y
theorem AVF_ok {P : Program} {w : World} {p : Nat → Prop} : ∀ (k : Nat) {x y : AV} {v : Value}, AVF k x y → VT P w p x v → VT P w p y v
  | 0, x, y, v, h, _ => h.elim
  | k + 1, x, y, v, h, hx => by
    have eqc : x = y → VT P w p y v := fun e => e ▸ hx
    have list : ∀ (l l' : List AV) (vs : Array Value), l.length = l'.length → (∀ i x y, nth? l i = some x → nth? l' i = some y → x = y ∨ AVF k x y) → (∀ i x, l[i]? = some x → VT P w p x (vs.getD i undef)) → ∀ i x, l'[i]? = some x → VT P w p x (vs.getD i undef) := by
      intro l l' vs hl he hv i x hi
      have hlt : i < l.length := by rw [hl]; exact (List.getElem?_eq_some_iff.1 hi).1
      have hvi := hv i _ (List.getElem?_eq_getElem hlt)
      rcases he i _ _ (by rw [nth?_eq]; exact List.getElem?_eq_getElem hlt) (by rw [nth?_eq]; exact hi) with e | e
      · rw [← e]; exact hvi
      · exact AVF_ok k e hvi
    cases x with
    | rslice es len f =>
      cases y with
      | rslice es' len' g =>
        obtain ⟨rfl, rfl, hf⟩ := h
        cases hx with
        | rslice0 => exact .rslice0 _ _ _ _
        | rslice _ _ _ b off kk gg h1 h2 h3 h4 h5 =>
          refine .rslice _ _ _ b off kk gg h1 h2 (fun i hi => by rw [← (hf i hi).1]; exact h3 i hi) h4 (fun i j y hi hy => ?_)
          have hl := (hf i hi).1
          have hlt : j < (f i).length := by rw [hl]; exact (List.getElem?_eq_some_iff.1 hy).1
          have hvi := h5 i j _ hi (List.getElem?_eq_getElem hlt)
          rcases (hf i hi).2 j _ y (by rw [nth?_eq]; exact List.getElem?_eq_getElem hlt) (by rw [nth?_eq]; exact hy) with e | e
          · rw [← e]; exact hvi
          · exact AVF_ok k e hvi
      | _ => exact eqc h
    | eslice =>
      cases y with
      | rslice es' len' g =>
        have h : len' = 0 := h
        subst h
        cases hx with
        | eslice a => exact .rslice0 _ _ _ _
      | _ => exact eqc h
    | agg l =>
      cases y with
      | agg l' =>
        obtain ⟨h1, h2⟩ := h
        cases hx with
        | agg _ vs g1 g2 g3 => exact .agg l' vs (by rw [← h1]; exact g1) g2 (list l l' vs h1 h2 g3)
      | _ => exact eqc h
    | tuple l =>
      cases y with
      | tuple l' =>
        obtain ⟨h1, h2⟩ := h
        cases hx with
        | tuple _ vs g1 g3 => exact .tuple l' vs (by rw [← h1]; exact g1) (list l l' vs h1 h2 g3)
      | _ => exact eqc h
    | _ => cases y <;> exact eqc h
theorem Sound1.argsD {P : Program} {f : FuncId} {xs ys : List AV} {r : AV} {fr : Bool} (h : Sound1 P f xs r fr) (hl : ys.length = xs.length) (hx : ∀ i y x, nth? ys i = some y → nth? xs i = some x → y = x ∨ ∃ k, AVF k y x) : Sound1 P f ys r fr := by
  refine ⟨h.1, fun w q vs hq hg hs hv => h.2 w q vs hq hg (hs.trans hl) fun i x hi => ?_⟩
  have hlt : i < ys.length := by rw [hl]; exact (List.getElem?_eq_some_iff.1 hi).1
  have hvi := hv i _ (List.getElem?_eq_getElem hlt)
  rcases hx i _ x (by rw [nth?_eq]; exact List.getElem?_eq_getElem hlt) (by rw [nth?_eq]; exact hi) with e | ⟨k, hk⟩
  · rw [← e]; exact hvi
  · exact AVF_ok k hk hvi
theorem Sound1.resD {P : Program} {f : FuncId} {xs : List AV} {r r' : AV} (h : Sound1 P f xs r false) {k : Nat} (hr : AVF k r r') : Sound1 P f xs r' false := by
  refine ⟨h.1, fun w q vs hq hg hs hv => Calls.mono (h.2 w q vs hq hg hs hv) ?_⟩
  rintro e w' ⟨u, h1, h2, h3⟩
  exact ⟨u, h1, h2, AVF_ok k hr h3⟩

/-! ### Plans -/

structure Stp where
  name : ByteArray
  safe : Bool
  needs : Int
  trip : Int
  wait : Int
  home : Int
  exits : List Int
  on : Int
  off : Int
  mon : Int
  mof : Int
  time : Int
  next : Int
  back : Int
structure Pln where
  sig : List ByteArray
  start : Int
  steps : List Stp
def stpC (s : Stp) : List AV := [sv s.name, vb s.safe, i64 s.needs, i64 s.trip, i64 s.wait, i64 s.home, ints s.exits, i64 s.on, i64 s.off, i64 s.mon, i64 s.mof, i64 s.time, i64 s.next, i64 s.back]
def stp0 : Stp := ⟨ByteArray.empty, false, 0, 0, 0, 0, [], 0, 0, 0, 0, 0, 0, 0⟩
def stepsA (l : List Stp) : AV := .rslice 14 l.length fun i => stpC (l.getD i stp0)
def planC (p : Pln) : List AV := [strs p.sig, i64 p.start, stepsA p.steps]
def planA (p : Pln) : AV := .agg (planC p)
def stepA (s : Stp) : AV := .agg (stpC s)

/-- 2 to the power n, as the code has it. -/
abbrev pw (n : Nat) : Int := shlI .i64 1 (n : Int)
theorem pw_eq : ∀ n : Nat, n ≤ 7 → pw n = 2 ^ n := by
  intro n hn
  match n, hn with
  | 0, _ => rfl | 1, _ => rfl | 2, _ => rfl | 3, _ => rfl | 4, _ => rfl | 5, _ => rfl | 6, _ => rfl | 7, _ => rfl
theorem pw_le : ∀ n : Nat, n ≤ 7 → 1 ≤ shlI .i64 1 (n : Int) ∧ shlI .i64 1 (n : Int) ≤ 128 := by
  intro n hn
  match n, hn with
  | 0, _ => decide | 1, _ => decide | 2, _ => decide | 3, _ => decide | 4, _ => decide | 5, _ => decide | 6, _ => decide | 7, _ => decide

def inS (n : Nat) (x : Int) : Bool := decide (0 ≤ x ∧ x ≤ pw n - 1)
def inX (m : Nat) (x : Int) : Bool := decide (0 ≤ x ∧ x ≤ (m : Int) - 1)
def setE (n : Nat) (x : Int) : Int := if inS n x then 0 else 2
def idxE (m : Nat) (x : Int) : Int := if inX m x then 0 else 6
def setsE (n : Nat) (l : List Int) : Int := if l.all (inS n) then 0 else 2
def idxsE (m : Nat) (l : List Int) : Int := if l.all (inX m) then 0 else 6

theorem S126 (p : Pln) (hn : p.sig.length ≤ 7) (x : Int) : SP 126 [i64 x, .rptr (planC p)] (vb (!inS p.sig.length x)) false := by
  have hp := pw_le _ hn
  refine sound (d := 2) tok2 mixed2 Tryd.func126 (by kernel_rfl) (by kernel_rfl) ?_
  conv => whnf
  refine ⟨(by omega), ?_⟩
  conv => whnf
  refine ⟨inK64 (by omega) (by omega), ?_⟩
  conv => whnf
  refine .inl ⟨_, _, byX rfl (Sound1.pl (S78 _ _ _) rfl), ?_⟩
  conv => whnf
  refine ⟨?_, nofun⟩
  rfl
theorem S113 (p : Pln) (hm : p.steps.length ≤ 1000) (x : Int) : SP 113 [i64 x, .rptr (planC p)] (vb (!inX p.steps.length x)) false := by
  refine sound (d := 2) tok2 mixed2 Tryd.func113 (by kernel_rfl) (by kernel_rfl) ?_
  conv => whnf
  refine ⟨inK64 (by omega) (by omega), ?_⟩
  conv => whnf
  refine .inl ⟨_, _, byX rfl (Sound1.pl (S78 _ _ _) rfl), ?_⟩
  conv => whnf
  refine ⟨?_, nofun⟩
  rfl

/-- Where the first of some numbers stands of which something holds, or -1. -/
def idxF (P : Int → Bool) : List Int → Nat → Int
  | [], _ => -1
  | y :: r, k => if P y then k else idxF P r (k + 1)
theorem idxF_any (P : Int → Bool) : ∀ (l : List Int) (k : Nat), decide (idxF P l k ≥ 0) = l.any P
  | [], k => by simp [idxF]
  | y :: r, k => by
    have ih := idxF_any P r (k + 1)
    unfold idxF
    rw [List.any_cons]
    cases h : P y with
    | true => simp
    | false => simp only [Bool.false_eq_true, if_false, ih, Bool.false_or]
theorem idxF_drop (P : Int → Bool) (l : List Int) (k : Nat) (h : k < l.length) : idxF P (l.drop k) k = if P (l.getD k 0) then (k : Int) else idxF P (l.drop (k + 1)) (k + 1) := by
  rw [List.drop_eq_getElem_cons h, idxF]; simp [List.getD, h]
theorem S117 (l : List Int) (hl : l.length ≤ 9223372036854775807) (g : FuncId) (C : List AV) (P : Int → Bool) (hg : ∀ x, SP g [i64 x, .rptr C] (vb (P x)) false) : SP 117 [ints l, .func (.func g) 0 [.rptr C]] (i64 (idxF P l 0)) false := by
  refine sound (d := 2) tok2 mixed2 Tryd.func117 (by kernel_rfl) (by kernel_rfl) ?_
  conv => whnf
  refine ⟨[], [0, 1, 7, 8], fun st mq => ∃ (k : Nat), (k ≤ l.length) ∧ (idxF P (l.drop k) k = idxF P l 0) ∧ st = ⟨[(0, ints l), (1, .func (.func g) 0 [.rptr C]), (7, i64 l.length), (8, i64 k)], ⟨[], [], none, 0⟩, []⟩ ∧ mq = l.length - k,
    ⟨_, _, ⟨0, by omega, rfl, rfl, rfl⟩, ⟨⟨.inl rfl, rfl, rfl, rfl⟩, trivial, trivial⟩⟩, ?_⟩
  rintro s0 m0 ⟨k, hk, hf, rfl, hmeas⟩
  by_cases hlt : k < l.length
  · have hd := idxF_drop P l k hlt
    have hgx := hg (l.getD k 0)
    conv => whnf
    conv => whnf
    refine ifB_dec (fun w1 => ?_) (fun w1 => ?_)
    · conv => whnf
      conv => whnf
      refine ⟨⟨(by omega), (by omega)⟩, ?_⟩
      conv => whnf
      conv => whnf
      refine .inl ⟨_, _, byX rfl (Sound1.pl (hgx) rfl), ?_⟩
      conv => whnf
      conv => whnf
      refine ifB_intro (fun w2 => ?_) (fun w2 => ?_)
      · conv => whnf
        conv => whnf
        refine ⟨?_, nofun⟩
        rw [if_pos w2] at hd
        show i64 _ = i64 _
        rw [← hf, hd]
      · conv => whnf
        conv => whnf
        refine ⟨inK64 (by omega) (by omega), ?_⟩
        rw [if_neg (by rw [w2]; nofun)] at hd
        conv => whnf
        conv => whnf
        refine ⟨_, _, ⟨⟨k + 1, by omega, hd.symm.trans hf, rfl, rfl⟩, by omega⟩, ⟨⟨.inl rfl, rfl, rfl, rfl⟩, trivial, trivial⟩⟩
    · (exfalso; omega)
  · have e : k = l.length := by omega
    subst e
    conv => whnf
    conv => whnf
    refine ifB_dec (fun w1 => ?_) (fun w1 => ?_)
    · (exfalso; omega)
    · conv => whnf
      conv => whnf
      refine ⟨?_, nofun⟩
      simp [idxF] at hf
      show i64 _ = i64 _
      rw [← hf]
theorem S117n (l : List Int) (hl : l.length ≤ 9223372036854775807) (g : FuncId) (P : Int → Bool) (hg : ∀ x, SP g [i64 x] (vb (P x)) false) : SP 117 [ints l, .func (.func g) 0 []] (i64 (idxF P l 0)) false := by
  refine sound (d := 2) tok2 mixed2 Tryd.func117 (by kernel_rfl) (by kernel_rfl) ?_
  conv => whnf
  refine ⟨[], [0, 1, 7, 8], fun st mq => ∃ (k : Nat), (k ≤ l.length) ∧ (idxF P (l.drop k) k = idxF P l 0) ∧ st = ⟨[(0, ints l), (1, .func (.func g) 0 []), (7, i64 l.length), (8, i64 k)], ⟨[], [], none, 0⟩, []⟩ ∧ mq = l.length - k,
    ⟨_, _, ⟨0, by omega, rfl, rfl, rfl⟩, ⟨⟨.inl rfl, rfl, rfl, rfl⟩, trivial, trivial⟩⟩, ?_⟩
  rintro s0 m0 ⟨k, hk, hf, rfl, hmeas⟩
  by_cases hlt : k < l.length
  · have hd := idxF_drop P l k hlt
    have hgx := hg (l.getD k 0)
    conv => whnf
    conv => whnf
    refine ifB_dec (fun w1 => ?_) (fun w1 => ?_)
    · conv => whnf
      conv => whnf
      refine ⟨⟨(by omega), (by omega)⟩, ?_⟩
      conv => whnf
      conv => whnf
      refine .inl ⟨_, _, byX rfl (Sound1.pl (hgx) rfl), ?_⟩
      conv => whnf
      conv => whnf
      refine ifB_intro (fun w2 => ?_) (fun w2 => ?_)
      · conv => whnf
        conv => whnf
        refine ⟨?_, nofun⟩
        rw [if_pos w2] at hd
        show i64 _ = i64 _
        rw [← hf, hd]
      · conv => whnf
        conv => whnf
        refine ⟨inK64 (by omega) (by omega), ?_⟩
        rw [if_neg (by rw [w2]; nofun)] at hd
        conv => whnf
        conv => whnf
        refine ⟨_, _, ⟨⟨k + 1, by omega, hd.symm.trans hf, rfl, rfl⟩, by omega⟩, ⟨⟨.inl rfl, rfl, rfl, rfl⟩, trivial, trivial⟩⟩
    · (exfalso; omega)
  · have e : k = l.length := by omega
    subst e
    conv => whnf
    conv => whnf
    refine ifB_dec (fun w1 => ?_) (fun w1 => ?_)
    · (exfalso; omega)
    · conv => whnf
      conv => whnf
      refine ⟨?_, nofun⟩
      simp [idxF] at hf
      show i64 _ = i64 _
      rw [← hf]
theorem S76 (l : List Int) (hl : l.length ≤ 9223372036854775807) (g : FuncId) (C : List AV) (P : Int → Bool) (hg : ∀ x, SP g [i64 x, .rptr C] (vb (P x)) false) : SP 76 [ints l, .func (.func g) 0 [.rptr C]] (vb (l.any P)) false := by
  have h := S117 l hl g C P hg
  refine sound (d := 2) tok2 mixed2 Tryd.func76 (by kernel_rfl) (by kernel_rfl) ?_
  conv => whnf
  refine .inl ⟨_, _, byX rfl (Sound1.pl (h) rfl), ?_⟩
  conv => whnf
  refine ⟨?_, nofun⟩
  show vb (decide (idxF P l 0 ≥ 0)) = _
  rw [idxF_any]
theorem S76n (l : List Int) (hl : l.length ≤ 9223372036854775807) (g : FuncId) (P : Int → Bool) (hg : ∀ x, SP g [i64 x] (vb (P x)) false) : SP 76 [ints l, .func (.func g) 0 []] (vb (l.any P)) false := by
  have h := S117n l hl g P hg
  refine sound (d := 2) tok2 mixed2 Tryd.func76 (by kernel_rfl) (by kernel_rfl) ?_
  conv => whnf
  refine .inl ⟨_, _, byX rfl (Sound1.pl (h) rfl), ?_⟩
  conv => whnf
  refine ⟨?_, nofun⟩
  show vb (decide (idxF P l 0 ≥ 0)) = _
  rw [idxF_any]
theorem any_not (l : List Int) (P : Int → Bool) : (!l.any fun x => !P x) = l.all P := by
  rw [List.not_any_eq_all_not]; simp
theorem S98 (p : Pln) (hn : p.sig.length ≤ 7) (l : List Int) (hl : l.length ≤ 9223372036854775807) : SP 98 [planA p, ints l] (i64 (setsE p.sig.length l)) false := by
  have h := S76 l hl 126 (planC p) _ (S126 p hn)
  refine sound (d := 2) tok2 mixed2 Tryd.func98 (by kernel_rfl) (by kernel_rfl) ?_
  conv => whnf
  refine .inl ⟨_, _, byX rfl (Sound1.pl (h) rfl), ?_⟩
  conv => whnf
  refine .inl ⟨_, _, byX rfl (Sound1.pl (S69 _ _) rfl), ?_⟩
  conv => whnf
  refine ⟨?_, nofun⟩
  show i64 (if (!l.any fun x => !inS p.sig.length x) = true then 0 else 2) = _
  rw [any_not]; rfl
theorem S68 (p : Pln) (hm : p.steps.length ≤ 1000) (l : List Int) (hl : l.length ≤ 9223372036854775807) : SP 68 [planA p, ints l] (i64 (idxsE p.steps.length l)) false := by
  have h := S76 l hl 113 (planC p) _ (S113 p hm)
  refine sound (d := 2) tok2 mixed2 Tryd.func68 (by kernel_rfl) (by kernel_rfl) ?_
  conv => whnf
  refine .inl ⟨_, _, byX rfl (Sound1.pl (h) rfl), ?_⟩
  conv => whnf
  refine .inl ⟨_, _, byX rfl (Sound1.pl (S69 _ _) rfl), ?_⟩
  conv => whnf
  refine ⟨?_, nofun⟩
  show i64 (if (!l.any fun x => !inX p.steps.length x) = true then 0 else 6) = _
  rw [any_not]; rfl

/-! ### Slices that are built of so many numbers -/

theorem AVF_rows {es n n' : Nat} {f g : Nat → List AV} (hn : n = n') (h : ∀ i, i < n → f i = g i) (k : Nat) : AVF (k + 1) (.rslice es n f) (.rslice es n' g) := by
  refine ⟨rfl, hn, fun i hi => ⟨by rw [h i hi], fun j x y hx hy => .inl ?_⟩⟩
  rw [h i hi] at hx
  exact Option.some.inj (hx.symm.trans hy)
theorem S83_2 (a b : Int) {f : Nat → List AV} (h : f 0 = [i64 a] ∧ f 1 = [i64 b]) : SP 83 [.rslice 1 2 f] (i64 (firstOf [a, b])) false := by
  have key : ∀ i, i < 2 → f i = [i64 (([a, b] : List Int).getD i 0)] := fun i hi => by
    match i, hi with
    | 0, _ => exact h.1
    | 1, _ => exact h.2
  refine (S83 [a, b] (by simp)).argsD rfl fun i y x hy hx => ?_
  match i, hy, hx with
  | 0, hy, hx => cases hy; cases hx; exact .inr ⟨1, AVF_rows rfl key 0⟩
theorem S83_3 (a b c : Int) {f : Nat → List AV} (h : f 0 = [i64 a] ∧ f 1 = [i64 b] ∧ f 2 = [i64 c]) : SP 83 [.rslice 1 3 f] (i64 (firstOf [a, b, c])) false := by
  have key : ∀ i, i < 3 → f i = [i64 (([a, b, c] : List Int).getD i 0)] := fun i hi => by
    match i, hi with
    | 0, _ => exact h.1
    | 1, _ => exact h.2.1
    | 2, _ => exact h.2.2
  refine (S83 [a, b, c] (by simp)).argsD rfl fun i y x hy hx => ?_
  match i, hy, hx with
  | 0, hy, hx => cases hy; cases hx; exact .inr ⟨1, AVF_rows rfl key 0⟩
theorem S83_5 (a b c d e : Int) {f : Nat → List AV} (h : f 0 = [i64 a] ∧ f 1 = [i64 b] ∧ f 2 = [i64 c] ∧ f 3 = [i64 d] ∧ f 4 = [i64 e]) : SP 83 [.rslice 1 5 f] (i64 (firstOf [a, b, c, d, e])) false := by
  have key : ∀ i, i < 5 → f i = [i64 (([a, b, c, d, e] : List Int).getD i 0)] := fun i hi => by
    match i, hi with
    | 0, _ => exact h.1
    | 1, _ => exact h.2.1
    | 2, _ => exact h.2.2.1
    | 3, _ => exact h.2.2.2.1
    | 4, _ => exact h.2.2.2.2
  refine (S83 [a, b, c, d, e] (by simp)).argsD rfl fun i y x hy hx => ?_
  match i, hy, hx with
  | 0, hy, hx => cases hy; cases hx; exact .inr ⟨1, AVF_rows rfl key 0⟩
theorem S106_2 (a b : Int) {f : Nat → List AV} (h : f 0 = [i64 a] ∧ f 1 = [i64 b]) : SP 106 [.rslice 1 2 f] (i64 (firstOf [a, b])) false := by
  have key : ∀ i, i < 2 → f i = [i64 (([a, b] : List Int).getD i 0)] := fun i hi => by
    match i, hi with
    | 0, _ => exact h.1
    | 1, _ => exact h.2
  refine (S106 [a, b] (by simp)).argsD rfl fun i y x hy hx => ?_
  match i, hy, hx with
  | 0, hy, hx => cases hy; cases hx; exact .inr ⟨1, AVF_rows rfl key 0⟩
theorem S106_3 (a b c : Int) {f : Nat → List AV} (h : f 0 = [i64 a] ∧ f 1 = [i64 b] ∧ f 2 = [i64 c]) : SP 106 [.rslice 1 3 f] (i64 (firstOf [a, b, c])) false := by
  have key : ∀ i, i < 3 → f i = [i64 (([a, b, c] : List Int).getD i 0)] := fun i hi => by
    match i, hi with
    | 0, _ => exact h.1
    | 1, _ => exact h.2.1
    | 2, _ => exact h.2.2
  refine (S106 [a, b, c] (by simp)).argsD rfl fun i y x hy hx => ?_
  match i, hy, hx with
  | 0, hy, hx => cases hy; cases hx; exact .inr ⟨1, AVF_rows rfl key 0⟩
theorem S106_4 (a b c d : Int) {f : Nat → List AV} (h : f 0 = [i64 a] ∧ f 1 = [i64 b] ∧ f 2 = [i64 c] ∧ f 3 = [i64 d]) : SP 106 [.rslice 1 4 f] (i64 (firstOf [a, b, c, d])) false := by
  have key : ∀ i, i < 4 → f i = [i64 (([a, b, c, d] : List Int).getD i 0)] := fun i hi => by
    match i, hi with
    | 0, _ => exact h.1
    | 1, _ => exact h.2.1
    | 2, _ => exact h.2.2.1
    | 3, _ => exact h.2.2.2
  refine (S106 [a, b, c, d] (by simp)).argsD rfl fun i y x hy hx => ?_
  match i, hy, hx with
  | 0, hy, hx => cases hy; cases hx; exact .inr ⟨1, AVF_rows rfl key 0⟩
theorem S114_2 (a b : Int) {f : Nat → List AV} (h : f 0 = [i64 a] ∧ f 1 = [i64 b]) : SP 114 [.rslice 1 2 f] (i64 (firstOf [a, b])) false := by
  have key : ∀ i, i < 2 → f i = [i64 (([a, b] : List Int).getD i 0)] := fun i hi => by
    match i, hi with
    | 0, _ => exact h.1
    | 1, _ => exact h.2
  refine (S114 [a, b] (by simp)).argsD rfl fun i y x hy hx => ?_
  match i, hy, hx with
  | 0, hy, hx => cases hy; cases hx; exact .inr ⟨1, AVF_rows rfl key 0⟩
theorem S98_1 (p : Pln) (hn : p.sig.length ≤ 7) (a : Int) {f : Nat → List AV} (h : f 0 = [i64 a]) : SP 98 [planA p, .rslice 1 1 f] (i64 (setsE p.sig.length [a])) false := by
  have key : ∀ i, i < 1 → f i = [i64 (([a] : List Int).getD i 0)] := fun i hi => by
    match i, hi with
    | 0, _ => exact h
  refine (S98 p hn [a] (by simp)).argsD rfl fun i y x hy hx => ?_
  match i, hy, hx with
  | 0, hy, hx => cases hy; cases hx; exact .inl rfl
  | 1, hy, hx => cases hy; cases hx; exact .inr ⟨1, AVF_rows rfl key 0⟩
theorem S98_4 (p : Pln) (hn : p.sig.length ≤ 7) (a b c d : Int) {f : Nat → List AV} (h : f 0 = [i64 a] ∧ f 1 = [i64 b] ∧ f 2 = [i64 c] ∧ f 3 = [i64 d]) : SP 98 [planA p, .rslice 1 4 f] (i64 (setsE p.sig.length [a, b, c, d])) false := by
  have key : ∀ i, i < 4 → f i = [i64 (([a, b, c, d] : List Int).getD i 0)] := fun i hi => by
    match i, hi with
    | 0, _ => exact h.1
    | 1, _ => exact h.2.1
    | 2, _ => exact h.2.2.1
    | 3, _ => exact h.2.2.2
  refine (S98 p hn [a, b, c, d] (by simp)).argsD rfl fun i y x hy hx => ?_
  match i, hy, hx with
  | 0, hy, hx => cases hy; cases hx; exact .inl rfl
  | 1, hy, hx => cases hy; cases hx; exact .inr ⟨1, AVF_rows rfl key 0⟩
theorem S68_1 (p : Pln) (hm : p.steps.length ≤ 1000) (a : Int) {f : Nat → List AV} (h : f 0 = [i64 a]) : SP 68 [planA p, .rslice 1 1 f] (i64 (idxsE p.steps.length [a])) false := by
  have key : ∀ i, i < 1 → f i = [i64 (([a] : List Int).getD i 0)] := fun i hi => by
    match i, hi with
    | 0, _ => exact h
  refine (S68 p hm [a] (by simp)).argsD rfl fun i y x hy hx => ?_
  match i, hy, hx with
  | 0, hy, hx => cases hy; cases hx; exact .inl rfl
  | 1, hy, hx => cases hy; cases hx; exact .inr ⟨1, AVF_rows rfl key 0⟩
theorem S68_2 (p : Pln) (hm : p.steps.length ≤ 1000) (a b : Int) {f : Nat → List AV} (h : f 0 = [i64 a] ∧ f 1 = [i64 b]) : SP 68 [planA p, .rslice 1 2 f] (i64 (idxsE p.steps.length [a, b])) false := by
  have key : ∀ i, i < 2 → f i = [i64 (([a, b] : List Int).getD i 0)] := fun i hi => by
    match i, hi with
    | 0, _ => exact h.1
    | 1, _ => exact h.2
  refine (S68 p hm [a, b] (by simp)).argsD rfl fun i y x hy hx => ?_
  match i, hy, hx with
  | 0, hy, hx => cases hy; cases hx; exact .inl rfl
  | 1, hy, hx => cases hy; cases hx; exact .inr ⟨1, AVF_rows rfl key 0⟩
end Go.Tr

/- Contracts of chapter 7: the errors of plans, by the program and by the reference. Conditions: none. -/
namespace Go.Tr
open Go Go.Proofs
set_option maxRecDepth 20000
set_option maxHeartbeats 8000000

theorem S80 (p : Pln) (hn : p.sig.length ≤ 7) : SP 80 [planA p] (i64 (shlI .i64 1 (p.sig.length : Int))) false := by
  refine sound (d := 2) tok2 mixed2 Tryd.func80 (by kernel_rfl) (by kernel_rfl) ?_
  conv => whnf
  refine ⟨(by omega), ?_⟩
  conv => whnf
  refine ⟨?_, nofun⟩
  rfl
theorem S105 (p : Pln) (hn : p.sig.length ≤ 7) (x : Int) : SP 105 [planA p, i64 x] (i64 (setE p.sig.length x)) false := by
  have h := S80 p hn
  have hp := pw_le _ hn
  refine sound (d := 2) tok2 mixed2 Tryd.func105 (by kernel_rfl) (by kernel_rfl) ?_
  unfold setE inS
  conv => whnf
  refine .inl ⟨_, _, byX rfl (Sound1.pl (h) rfl), ?_⟩
  conv => whnf
  refine ⟨inK64 (by omega) (by omega), ?_⟩
  conv => whnf
  refine .inl ⟨_, _, byX rfl (Sound1.pl (S41 _ _ _) rfl), ?_⟩
  conv => whnf
  refine ifB_not ?_
  conv => whnf
  refine ifB_dec (fun w1 => ?_) (fun w1 => ?_)
  · conv => whnf
    refine ⟨?_, nofun⟩
    show i64 0 = i64 _
    rw [decide_eq_true w1]; rfl
  · conv => whnf
    refine ⟨?_, nofun⟩
    show i64 2 = i64 _
    rw [decide_eq_false w1]; rfl
theorem S21 (p : Pln) (hm : p.steps.length ≤ 1000) (x : Int) : SP 21 [planA p, i64 x] (i64 (idxE p.steps.length x)) false := by
  refine sound (d := 2) tok2 mixed2 Tryd.func21 (by kernel_rfl) (by kernel_rfl) ?_
  unfold idxE inX
  conv => whnf
  refine ⟨inK64 (by omega) (by omega), ?_⟩
  conv => whnf
  refine .inl ⟨_, _, byX rfl (Sound1.pl (S41 _ _ _) rfl), ?_⟩
  conv => whnf
  refine ifB_not ?_
  conv => whnf
  refine ifB_dec (fun w1 => ?_) (fun w1 => ?_)
  · conv => whnf
    refine ⟨?_, nofun⟩
    show i64 0 = i64 _
    rw [decide_eq_true w1]; rfl
  · conv => whnf
    refine ⟨?_, nofun⟩
    show i64 6 = i64 _
    rw [decide_eq_false w1]; rfl
theorem S70 (s : Stp) : SP 70 [stepA s] (vb (decide (s.wait = 0))) false := by
  refine sound (d := 2) tok2 mixed2 Tryd.func70 (by kernel_rfl) (by kernel_rfl) ?_
  conv => whnf
  refine ⟨?_, nofun⟩
  show vb (s.wait == 0) = vb _
  rfl
theorem S100 (s : Stp) : SP 100 [stepA s] (vb (s.safe && decide (s.wait = 0))) false := by
  have h := S70 s
  refine sound (d := 2) tok2 mixed2 Tryd.func100 (by kernel_rfl) (by kernel_rfl) ?_
  conv => whnf
  refine ifB_intro (fun w1 => ?_) (fun w1 => ?_)
  · conv => whnf
    refine .inl ⟨_, _, byX rfl (Sound1.pl (h) rfl), ?_⟩
    conv => whnf
    refine ⟨?_, nofun⟩
    show vb _ = vb _
    rw [w1, Bool.true_and]
  · conv => whnf
    refine ⟨?_, nofun⟩
    show vb _ = vb _
    rw [w1]; rfl

/-! ### What is wrong with a step -/

/-- The first place, from the i-th on, among so many, where something is not 0; what it is. -/
def scan (f : Nat → Int) : Nat → Nat → Int × Int
  | 0, _ => (0, 0)
  | n + 1, i => if f i = 0 then scan f n (i + 1) else (i, f i)
theorem scan_at {f : Nat → Int} {n k : Nat} (hk : k < n) (h : ∀ j, j < k → f j = 0) (hf : f k ≠ 0) : scan f n 0 = ((k : Int), f k) := by
  have key : ∀ (n i : Nat), i ≤ k → k < i + n → scan f n i = ((k : Int), f k) := by
    intro n
    induction n with
    | zero => intro i h1 h2; omega
    | succ n ih =>
      intro i h1 h2
      unfold scan
      by_cases hi : i = k
      · subst hi; rw [if_neg hf]
      · rw [if_pos (h i (by omega)), ih (i + 1) (by omega) (by omega)]
  exact key n 0 (by omega) (by omega)
theorem scan_all {f : Nat → Int} {n : Nat} (h : ∀ j, j < n → f j = 0) : scan f n 0 = (0, 0) := by
  have key : ∀ (m i : Nat), i + m = n → scan f m i = (0, 0) := by
    intro m
    induction m with
    | zero => intro i _; rfl
    | succ m ih => intro i hi; unfold scan; rw [if_pos (h i (by omega)), ih (i + 1) (by omega)]
  exact key n 0 (by omega)
theorem scan_zero {f : Nat → Int} {n : Nat} (h : (scan f n 0).2 = 0) : ∀ j, j < n → f j = 0 := by
  have key : ∀ (m i : Nat), (scan f m i).2 = 0 → ∀ j, i ≤ j → j < i + m → f j = 0 := by
    intro m
    induction m with
    | zero => intro i _ j h1 h2; omega
    | succ m ih =>
      intro i hs j h1 h2
      unfold scan at hs
      by_cases hz : f i = 0
      · rw [if_pos hz] at hs
        rcases Nat.eq_or_lt_of_le h1 with e | e
        · rw [← e]; exact hz
        · exact ih (i + 1) hs j (by omega) (by omega)
      · rw [if_neg hz] at hs; exact absurd hs hz
  intro j hj
  exact key n 0 h j (by omega) (by omega)
theorem inv_next {f : Nat → Int} {k : Nat} (h : ∀ j, j < k → f j = 0) (hk : f k = 0) : ∀ j, j < k + 1 → f j = 0 := fun j hj => by
  rcases Nat.lt_succ_iff_lt_or_eq.1 hj with h1 | rfl
  · exact h j h1
  · exact hk
theorem inv_none {f : Nat → Int} : ∀ j, j < 0 → f j = 0 := fun j hj => absurd hj (Nat.not_lt_zero j)

def exAt (m : Nat) (l : List Int) (i : Nat) : Int :=
  if idxE m (l.getD i 0) ≠ 0 then idxE m (l.getD i 0) else if i = 0 ∨ l.getD i 0 > l.getD (i - 1) 0 then 0 else 9
def steadyE (m : Nat) (s : Stp) : Int :=
  if ¬ (s.on = 0 ∧ s.off = 0 ∧ s.mon = 0 ∧ s.mof = 0 ∧ s.time = 0 ∧ s.next = 0 ∧ s.back = 0) then 3
  else if (scan (exAt m s.exits) s.exits.length 0).2 ≠ 0 then (scan (exAt m s.exits) s.exits.length 0).2
  else if hasI s.exits s.home || (decide (s.exits.length = 0) && decide (s.home = 0)) then 0 else 21
def movingE (n m : Nat) (s : Stp) : Int :=
  firstOf [if !s.safe && decide (s.home = 0) && decide (s.exits.length = 0) then 0 else 3, setsE n [s.on, s.off, s.mon, s.mof],
    if decide (bitI .and .i64 s.on s.off = 0) && decide (bitI .and .i64 s.mon s.mof = 0) then 0 else 13, if 1 ≤ s.time ∧ s.time ≤ s.wait then 0 else 2, idxsE m [s.next, s.back]]

theorem veq7 {a b c d e f g : Int} : vEqL [.int .i64 a, .int .i64 b, .int .i64 c, .int .i64 d, .int .i64 e, .int .i64 f, .int .i64 g] [.int .i64 0, .int .i64 0, .int .i64 0, .int .i64 0, .int .i64 0, .int .i64 0, .int .i64 0] = true ↔
    a = 0 ∧ b = 0 ∧ c = 0 ∧ d = 0 ∧ e = 0 ∧ f = 0 ∧ g = 0 := by simp [vEqL]
theorem endi {a b : Int} (h : a = b) : i64 a = i64 b := congrArg (fun x => i64 x) h
theorem endb {a b : Bool} (h : a = b) : vb a = vb b := congrArg (fun x => vb x) h
theorem first2 (a b : Int) : firstOf [a, b] = if a ≠ 0 then a else b := by
  unfold firstOf firstOf firstOf
  by_cases h : a = 0
  · rw [if_pos h, if_neg (not_not_intro h)]
    by_cases h2 : b = 0
    · rw [if_pos h2, h2]
    · rw [if_neg h2]
  · rw [if_neg h, if_pos h]
theorem idxs1 (m : Nat) (x : Int) : idxsE m [x] = idxE m x := by simp [idxsE, idxE]
theorem sets1 (n : Nat) (x : Int) : setsE n [x] = setE n x := by simp [setsE, setE]
theorem exAt_zero {m : Nat} {l : List Int} {k : Nat} (h : idxE m (l.getD k 0) = 0) : exAt m l k = if k = 0 ∨ l.getD k 0 > l.getD (k - 1) 0 then 0 else 9 := by
  unfold exAt
  rw [if_neg (fun e => e h)]
theorem sets4 (n : Nat) (a b c d : Int) : setsE n [a, b, c, d] = firstOf [setE n a, setE n b, setE n c, setE n d] := by
  show (if (inS n a && (inS n b && (inS n c && (inS n d && true)))) = true then (0 : Int) else 2) = firstOf [if inS n a = true then 0 else 2, if inS n b = true then 0 else 2, if inS n c = true then 0 else 2, if inS n d = true then 0 else 2]
  generalize inS n a = A
  generalize inS n b = B
  generalize inS n c = C
  generalize inS n d = D
  cases A <;> cases B <;> cases C <;> cases D <;> rfl
theorem idxs2 (m : Nat) (a b : Int) : idxsE m [a, b] = firstOf [idxE m a, idxE m b] := by
  show (if (inX m a && (inX m b && true)) = true then (0 : Int) else 6) = firstOf [if inX m a = true then 0 else 6, if inX m b = true then 0 else 6]
  generalize inX m a = A
  generalize inX m b = B
  cases A <;> cases B <;> rfl
theorem steady_bad {m : Nat} {s : Stp} {k : Nat} {e : Int} (w : s.on = 0 ∧ s.off = 0 ∧ s.mon = 0 ∧ s.mof = 0 ∧ s.time = 0 ∧ s.next = 0 ∧ s.back = 0) (hk : k < s.exits.length) (hf : ∀ j, j < k → exAt m s.exits j = 0) (he : exAt m s.exits k = e) (h0 : ¬ e = 0) : steadyE m s = e := by
  unfold steadyE
  rw [if_neg (fun h => h w), scan_at hk hf (by rw [he]; exact h0)]
  show (if exAt m s.exits k ≠ 0 then exAt m s.exits k else _) = e
  rw [he, if_pos h0]
theorem steady_end {m : Nat} {s : Stp} (w : s.on = 0 ∧ s.off = 0 ∧ s.mon = 0 ∧ s.mof = 0 ∧ s.time = 0 ∧ s.next = 0 ∧ s.back = 0) (hf : ∀ j, j < s.exits.length → exAt m s.exits j = 0) : steadyE m s = if hasI s.exits s.home || (decide (s.exits.length = 0) && decide (s.home = 0)) then 0 else 21 := by
  unfold steadyE
  rw [if_neg (fun h => h w), scan_all hf, if_neg (fun h => h rfl)]
theorem S127 (p : Pln) (s : Stp) (hm : p.steps.length ≤ 1000) (he : s.exits.length ≤ 1000) : SP 127 [planA p, stepA s] (i64 (steadyE p.steps.length s)) false := by
  have h68 := @S68_1 p hm
  have h94 := S94 s.exits (by omega) s.home
  refine sound (d := 2) tok2 mixed2 Tryd.func127 (by kernel_rfl) (by kernel_rfl) ?_
  conv => whnf
  refine ifB_not ?_
  conv => whnf
  refine ifB_intro (fun w1 => ?_) (fun w1 => ?_)
  · have w := w1
    rw [veq7] at w
    conv => whnf
    refine ⟨[], [2, 3, 29, 30, 31], fun st mq => ∃ (k : Nat) (F2 : Nat → List AV), (k ≤ s.exits.length) ∧ (∀ j, j < k → exAt p.steps.length s.exits j = 0) ∧ st = ⟨[(2, .optr 0 0 0 0), (3, .optr 1 0 0 0), (29, ints s.exits), (30, i64 s.exits.length), (31, i64 k)], ⟨[⟨3, 1, fun _ => planC p, 0, false, true, true⟩, ⟨14, 1, fun _ => stpC s, 0, false, true, true⟩, ⟨7, 1, F2, 0, false, true, false⟩], [], none, 0⟩, []⟩ ∧ mq = s.exits.length - k,
      ⟨_, _, ⟨0, _, by omega, inv_none, rfl, rfl⟩, ⟨⟨.inl rfl, rfl, rfl, rfl⟩, ⟨⟨rfl, rfl, rfl, rfl, fun _ => rfl, fun _ _ => .inl rfl⟩, ⟨⟨rfl, rfl, rfl, rfl, fun _ => rfl, fun _ _ => .inl rfl⟩, ⟨⟨rfl, rfl, rfl, rfl, fun _ => rfl, fun _ _ => .inl rfl⟩, trivial⟩⟩⟩, trivial⟩⟩, ?_⟩
    rintro s0 m0 ⟨k, F2, hk, hf, rfl, hmeas⟩
    by_cases hlt : k < s.exits.length
    · have hx : ∀ (b : Bool), (b = true ↔ (k = 0 ∨ s.exits.getD k 0 > s.exits.getD (k - 1) 0)) → firstOf [idxsE p.steps.length [s.exits.getD k 0], if b then 0 else 9] = exAt p.steps.length s.exits k := fun b hb => by
        rw [first2, idxs1]
        unfold exAt
        by_cases h : k = 0 ∨ s.exits.getD k 0 > s.exits.getD (k - 1) 0
        · rw [if_pos h, if_pos (hb.2 h)]
        · rw [if_neg h, if_neg (fun e => h (hb.1 e))]
      conv => whnf
      conv => whnf
      refine ifB_dec (fun w2 => ?_) (fun w2 => ?_)
      · conv => whnf
        conv => whnf
        refine ⟨⟨(by omega), (by omega)⟩, ?_⟩
        conv => whnf
        conv => whnf
        refine .inl ⟨_, _, byX rfl (Sound1.pl (h68 _ rfl) rfl), ?_⟩
        conv => whnf
        conv => whnf
        refine ifB_beq (fun w3 => ?_) (fun w3 => ?_)
        · conv => whnf
          conv => whnf
          refine .inl ⟨_, _, byX rfl (Sound1.pl (S69 _ _) rfl), ?_⟩
          conv => whnf
          conv => whnf
          refine .inl ⟨_, _, byX rfl (Sound1.pl (S83_2 _ _ ⟨rfl, rfl⟩) rfl), ?_⟩
          conv => whnf
          conv => whnf
          refine ifB_bne (fun w4 => ?_) (fun w4 => ?_)
          · conv => whnf
            conv => whnf
            refine ⟨?_, nofun⟩
            refine endi (Eq.trans ?_ (steady_bad w hlt hf (hx true (by simp; omega)).symm w4).symm)
            rfl
          · conv => whnf
            conv => whnf
            refine ⟨inK64 (by omega) (by omega), ?_⟩
            conv => whnf
            conv => whnf
            refine ⟨_, _, ⟨⟨k + 1, _, by omega, inv_next hf ((hx true (by simp; omega)).symm.trans w4), rfl, rfl⟩, by omega⟩, ⟨⟨.inl rfl, rfl, rfl, rfl⟩, ⟨⟨rfl, rfl, rfl, rfl, fun _ => rfl, fun _ _ => .inl rfl⟩, ⟨⟨rfl, rfl, rfl, rfl, fun _ => rfl, fun _ _ => .inl rfl⟩, ⟨⟨rfl, rfl, rfl, rfl, fun _ => rfl, fun _ _ => .inl rfl⟩, trivial⟩⟩⟩, trivial⟩⟩
        · conv => whnf
          conv => whnf
          refine ⟨inK64 (by omega) (by omega), ?_⟩
          conv => whnf
          conv => whnf
          refine ⟨⟨(by omega), (by omega)⟩, ?_⟩
          conv => whnf
          conv => whnf
          refine .inl ⟨_, _, byX rfl (Sound1.pl (S69 _ _) rfl), ?_⟩
          conv => whnf
          conv => whnf
          refine .inl ⟨_, _, byX rfl (Sound1.pl (S83_2 _ _ ⟨rfl, rfl⟩) rfl), ?_⟩
          conv => whnf
          conv => whnf
          refine ifB_bne (fun w4 => ?_) (fun w4 => ?_)
          · conv => whnf
            conv => whnf
            refine ⟨?_, nofun⟩
            have e2 : (if (k : Int) - 1 > 0 then (k : Int) - 1 else 0).toNat = k - 1 := by split <;> omega
            have hv : firstOf [idxsE p.steps.length [s.exits.getD (k : Int).toNat 0], if decide (s.exits.getD (k : Int).toNat 0 > s.exits.getD (if (k : Int) - 1 > 0 then (k : Int) - 1 else 0).toNat 0) = true then 0 else 9] = exAt p.steps.length s.exits k := by
              rw [e2]
              exact hx (decide (s.exits.getD k 0 > s.exits.getD (k - 1) 0)) (by simp; omega)
            refine endi (Eq.trans hv (steady_bad w hlt hf rfl ?_).symm)
            rw [← hv]; exact w4
          · conv => whnf
            conv => whnf
            refine ⟨inK64 (by omega) (by omega), ?_⟩
            have e2 : (if (k : Int) - 1 > 0 then (k : Int) - 1 else 0).toNat = k - 1 := by split <;> omega
            rw [e2] at w4
            conv => whnf
            conv => whnf
            refine ⟨_, _, ⟨⟨k + 1, _, by omega, inv_next hf ((hx (decide (s.exits.getD k 0 > s.exits.getD (k - 1) 0)) (by simp; omega)).symm.trans w4), rfl, rfl⟩, by omega⟩, ⟨⟨.inl rfl, rfl, rfl, rfl⟩, ⟨⟨rfl, rfl, rfl, rfl, fun _ => rfl, fun _ _ => .inl rfl⟩, ⟨⟨rfl, rfl, rfl, rfl, fun _ => rfl, fun _ _ => .inl rfl⟩, ⟨⟨rfl, rfl, rfl, rfl, fun _ => rfl, fun _ _ => .inl rfl⟩, trivial⟩⟩⟩, trivial⟩⟩
      · (exfalso; omega)
    · have e : k = s.exits.length := by omega
      have hst := steady_end w (by rw [e] at hf; exact hf)
      conv => whnf
      conv => whnf
      refine ifB_dec (fun w2 => ?_) (fun w2 => ?_)
      · (exfalso; omega)
      · conv => whnf
        conv => whnf
        refine .inl ⟨_, _, byX rfl (Sound1.pl (h94) rfl), ?_⟩
        conv => whnf
        conv => whnf
        refine ifB_intro (fun w3 => ?_) (fun w3 => ?_)
        · conv => whnf
          conv => whnf
          refine .inl ⟨_, _, byX rfl (Sound1.pl (S69 _ _) rfl), ?_⟩
          conv => whnf
          conv => whnf
          refine ⟨?_, nofun⟩
          refine endi (Eq.trans ?_ hst.symm)
          rw [show hasI s.exits s.home = true from w3]; rfl
        · conv => whnf
          conv => whnf
          refine ifB_beq (fun w4 => ?_) (fun w4 => ?_)
          · conv => whnf
            conv => whnf
            refine .inl ⟨_, _, byX rfl (Sound1.pl (S69 _ _) rfl), ?_⟩
            conv => whnf
            conv => whnf
            refine ⟨?_, nofun⟩
            refine endi (Eq.trans ?_ hst.symm)
            have h0 : s.exits.length = 0 := by omega
            rw [show hasI s.exits s.home = false from w3, decide_eq_true h0]
            simp
          · conv => whnf
            conv => whnf
            refine .inl ⟨_, _, byX rfl (Sound1.pl (S69 _ _) rfl), ?_⟩
            conv => whnf
            conv => whnf
            refine ⟨?_, nofun⟩
            refine endi (Eq.trans ?_ hst.symm)
            have h0 : ¬ s.exits.length = 0 := by omega
            rw [show hasI s.exits s.home = false from w3, decide_eq_false h0]; rfl
  · conv => whnf
    refine ⟨?_, nofun⟩
    refine endi (b := steadyE _ _) ?_
    unfold steadyE
    rw [if_pos]
    intro h
    rw [veq7.2 h] at w1
    cases w1
theorem S128 (p : Pln) (s : Stp) (hn : p.sig.length ≤ 7) (hm : p.steps.length ≤ 1000) : SP 128 [planA p, stepA s] (i64 (movingE p.sig.length p.steps.length s)) false := by
  have h68 := @S68_2 p hm s.next s.back
  have h98 := @S98_4 p hn s.on s.off s.mon s.mof
  refine sound (d := 2) tok2 mixed2 Tryd.func128 (by kernel_rfl) (by kernel_rfl) ?_
  conv => whnf
  refine ⟨[], by kernel_rfl, ?_⟩
  conv => whnf
  refine ifB_not ?_
  conv => whnf
  refine ifB_intro (fun w1 => ?_) (fun w1 => ?_)
  · conv => whnf
    refine .inl ⟨_, _, byX rfl (Sound1.pl (S69 _ _) rfl), ?_⟩
    conv => whnf
    refine .inl ⟨_, _, byX rfl (Sound1.pl (h98 ⟨rfl, rfl, rfl, rfl⟩) rfl), ?_⟩
    conv => whnf
    refine ifB_beq (fun w2 => ?_) (fun w2 => ?_)
    · conv => whnf
      refine .inl ⟨_, _, byX rfl (Sound1.pl (S69 _ _) rfl), ?_⟩
      conv => whnf
      refine .inl ⟨_, _, byX rfl (Sound1.pl (S78 _ _ _) rfl), ?_⟩
      conv => whnf
      refine .inl ⟨_, _, byX rfl (Sound1.pl (S69 _ _) rfl), ?_⟩
      conv => whnf
      refine .inl ⟨_, _, byX rfl (Sound1.pl (h68 ⟨rfl, rfl⟩) rfl), ?_⟩
      conv => whnf
      refine .inl ⟨_, _, byX rfl (Sound1.pl (S83_5 _ _ _ _ _ ⟨rfl, rfl, rfl, rfl, rfl⟩) rfl), ?_⟩
      conv => whnf
      refine ⟨?_, nofun⟩
      show i64 (firstOf _) = i64 (movingE _ _ _)
      unfold movingE; simp_all
    · conv => whnf
      refine .inl ⟨_, _, byX rfl (Sound1.pl (S69 _ _) rfl), ?_⟩
      conv => whnf
      refine .inl ⟨_, _, byX rfl (Sound1.pl (S78 _ _ _) rfl), ?_⟩
      conv => whnf
      refine .inl ⟨_, _, byX rfl (Sound1.pl (S69 _ _) rfl), ?_⟩
      conv => whnf
      refine .inl ⟨_, _, byX rfl (Sound1.pl (h68 ⟨rfl, rfl⟩) rfl), ?_⟩
      conv => whnf
      refine .inl ⟨_, _, byX rfl (Sound1.pl (S83_5 _ _ _ _ _ ⟨rfl, rfl, rfl, rfl, rfl⟩) rfl), ?_⟩
      conv => whnf
      refine ⟨?_, nofun⟩
      show i64 (firstOf _) = i64 (movingE _ _ _)
      unfold movingE; simp_all
  · conv => whnf
    refine ifB_beq (fun w2 => ?_) (fun w2 => ?_)
    · conv => whnf
      refine .inl ⟨_, _, byX rfl (Sound1.pl (S69 _ _) rfl), ?_⟩
      conv => whnf
      refine .inl ⟨_, _, byX rfl (Sound1.pl (h98 ⟨rfl, rfl, rfl, rfl⟩) rfl), ?_⟩
      conv => whnf
      refine ifB_beq (fun w3 => ?_) (fun w3 => ?_)
      · conv => whnf
        refine .inl ⟨_, _, byX rfl (Sound1.pl (S69 _ _) rfl), ?_⟩
        conv => whnf
        refine .inl ⟨_, _, byX rfl (Sound1.pl (S78 _ _ _) rfl), ?_⟩
        conv => whnf
        refine .inl ⟨_, _, byX rfl (Sound1.pl (S69 _ _) rfl), ?_⟩
        conv => whnf
        refine .inl ⟨_, _, byX rfl (Sound1.pl (h68 ⟨rfl, rfl⟩) rfl), ?_⟩
        conv => whnf
        refine .inl ⟨_, _, byX rfl (Sound1.pl (S83_5 _ _ _ _ _ ⟨rfl, rfl, rfl, rfl, rfl⟩) rfl), ?_⟩
        conv => whnf
        refine ⟨?_, nofun⟩
        show i64 (firstOf _) = i64 (movingE _ _ _)
        unfold movingE; simp_all
      · conv => whnf
        refine .inl ⟨_, _, byX rfl (Sound1.pl (S69 _ _) rfl), ?_⟩
        conv => whnf
        refine .inl ⟨_, _, byX rfl (Sound1.pl (S78 _ _ _) rfl), ?_⟩
        conv => whnf
        refine .inl ⟨_, _, byX rfl (Sound1.pl (S69 _ _) rfl), ?_⟩
        conv => whnf
        refine .inl ⟨_, _, byX rfl (Sound1.pl (h68 ⟨rfl, rfl⟩) rfl), ?_⟩
        conv => whnf
        refine .inl ⟨_, _, byX rfl (Sound1.pl (S83_5 _ _ _ _ _ ⟨rfl, rfl, rfl, rfl, rfl⟩) rfl), ?_⟩
        conv => whnf
        refine ⟨?_, nofun⟩
        show i64 (firstOf _) = i64 (movingE _ _ _)
        unfold movingE; simp_all
    · conv => whnf
      refine .inl ⟨_, _, byX rfl (Sound1.pl (S69 _ _) rfl), ?_⟩
      conv => whnf
      refine .inl ⟨_, _, byX rfl (Sound1.pl (h98 ⟨rfl, rfl, rfl, rfl⟩) rfl), ?_⟩
      conv => whnf
      refine ifB_beq (fun w3 => ?_) (fun w3 => ?_)
      · conv => whnf
        refine .inl ⟨_, _, byX rfl (Sound1.pl (S69 _ _) rfl), ?_⟩
        conv => whnf
        refine .inl ⟨_, _, byX rfl (Sound1.pl (S78 _ _ _) rfl), ?_⟩
        conv => whnf
        refine .inl ⟨_, _, byX rfl (Sound1.pl (S69 _ _) rfl), ?_⟩
        conv => whnf
        refine .inl ⟨_, _, byX rfl (Sound1.pl (h68 ⟨rfl, rfl⟩) rfl), ?_⟩
        conv => whnf
        refine .inl ⟨_, _, byX rfl (Sound1.pl (S83_5 _ _ _ _ _ ⟨rfl, rfl, rfl, rfl, rfl⟩) rfl), ?_⟩
        conv => whnf
        refine ⟨?_, nofun⟩
        show i64 (firstOf _) = i64 (movingE _ _ _)
        unfold movingE; simp_all
      · conv => whnf
        refine .inl ⟨_, _, byX rfl (Sound1.pl (S69 _ _) rfl), ?_⟩
        conv => whnf
        refine .inl ⟨_, _, byX rfl (Sound1.pl (S78 _ _ _) rfl), ?_⟩
        conv => whnf
        refine .inl ⟨_, _, byX rfl (Sound1.pl (S69 _ _) rfl), ?_⟩
        conv => whnf
        refine .inl ⟨_, _, byX rfl (Sound1.pl (h68 ⟨rfl, rfl⟩) rfl), ?_⟩
        conv => whnf
        refine .inl ⟨_, _, byX rfl (Sound1.pl (S83_5 _ _ _ _ _ ⟨rfl, rfl, rfl, rfl, rfl⟩) rfl), ?_⟩
        conv => whnf
        refine ⟨?_, nofun⟩
        show i64 (firstOf _) = i64 (movingE _ _ _)
        unfold movingE; simp_all

/-! ### The reference's -/

theorem steady_form {m : Nat} {s : Stp} (h : ¬ (s.on = 0 ∧ s.off = 0 ∧ s.mon = 0 ∧ s.mof = 0 ∧ s.time = 0 ∧ s.next = 0 ∧ s.back = 0)) : steadyE m s = 3 := by
  unfold steadyE
  rw [if_pos h]
theorem moving_form (n m : Nat) (s : Stp) : movingE n m s = if s.safe = true then 3 else if ¬ s.home = 0 then 3 else if ¬ s.exits.length = 0 then 3 else
    if ¬ firstOf [setE n s.on, setE n s.off, setE n s.mon, setE n s.mof] = 0 then firstOf [setE n s.on, setE n s.off, setE n s.mon, setE n s.mof] else
    if ¬ bitI .and .i64 s.on s.off = 0 then 13 else if ¬ bitI .and .i64 s.mon s.mof = 0 then 13 else
    if 1 ≤ s.time ∧ s.time ≤ s.wait then firstOf [idxE m s.next, idxE m s.back] else 2 := by
  unfold movingE
  rw [sets4, idxs2]
  unfold firstOf
  cases s.safe with
  | true => simp
  | false =>
    by_cases h1 : s.home = 0
    · by_cases h2 : s.exits.length = 0
      · simp [h1, h2, firstOf]
        repeat' split
        all_goals simp_all
      · simp [h1, h2]
    · simp [h1]
theorem S107 (p : Pln) (s : Stp) (hm : p.steps.length ≤ 1000) (he : s.exits.length ≤ 1000) : SP 107 [planA p, stepA s] (i64 (steadyE p.steps.length s)) false := by
  have h21 := S21 p hm
  have h93 := S93 s.exits (by omega) s.home
  refine sound (d := 2) tok2 mixed2 Tryd.func107 (by kernel_rfl) (by kernel_rfl) ?_
  by_cases w : s.on = 0 ∧ s.off = 0 ∧ s.mon = 0 ∧ s.mof = 0 ∧ s.time = 0 ∧ s.next = 0 ∧ s.back = 0
  · obtain ⟨q1, q2, q3, q4, q5, q6, q7⟩ := w
    have w : s.on = 0 ∧ s.off = 0 ∧ s.mon = 0 ∧ s.mof = 0 ∧ s.time = 0 ∧ s.next = 0 ∧ s.back = 0 := ⟨q1, q2, q3, q4, q5, q6, q7⟩
    conv => whnf
    refine ifB_bne (fun w1 => ?_) (fun w1 => ?_)
    · (exfalso; omega)
    · conv => whnf
      refine ifB_bne (fun w2 => ?_) (fun w2 => ?_)
      · (exfalso; omega)
      · conv => whnf
        refine ifB_bne (fun w3 => ?_) (fun w3 => ?_)
        · (exfalso; omega)
        · conv => whnf
          refine ifB_bne (fun w4 => ?_) (fun w4 => ?_)
          · (exfalso; omega)
          · conv => whnf
            refine ifB_bne (fun w5 => ?_) (fun w5 => ?_)
            · (exfalso; omega)
            · conv => whnf
              refine ifB_bne (fun w6 => ?_) (fun w6 => ?_)
              · (exfalso; omega)
              · conv => whnf
                refine ifB_bne (fun w7 => ?_) (fun w7 => ?_)
                · (exfalso; omega)
                · conv => whnf
                  refine ⟨[], [2, 3, 5], fun st mq => ∃ (k : Nat), (k ≤ s.exits.length) ∧ (∀ j, j < k → exAt p.steps.length s.exits j = 0) ∧ st = ⟨[(2, .optr 0 0 0 0), (3, .optr 1 0 0 0), (5, i64 k)], ⟨[⟨3, 1, fun _ => planC p, 0, false, true, true⟩, ⟨14, 1, fun _ => stpC s, 0, false, true, true⟩], [], none, 0⟩, []⟩ ∧ mq = s.exits.length - k,
                    ⟨_, _, ⟨0, by omega, inv_none, rfl, rfl⟩, ⟨⟨.inl rfl, rfl, rfl, rfl⟩, ⟨⟨rfl, rfl, rfl, rfl, fun _ => rfl, fun _ _ => .inl rfl⟩, ⟨⟨rfl, rfl, rfl, rfl, fun _ => rfl, fun _ _ => .inl rfl⟩, trivial⟩⟩, trivial⟩⟩, ?_⟩
                  rintro s0 m0 ⟨k, hk, hf, rfl, hmeas⟩
                  by_cases hlt : k < s.exits.length
                  · have e2 : 0 < k → ((k : Int) - 1).toNat = k - 1 := by omega
                    conv => whnf
                    conv => whnf
                    refine ifB_dec (fun w8 => ?_) (fun w8 => ?_)
                    · conv => whnf
                      conv => whnf
                      refine ⟨[], by kernel_rfl, ?_⟩
                      conv => whnf
                      conv => whnf
                      refine ⟨⟨(by omega), (by omega)⟩, ?_⟩
                      conv => whnf
                      conv => whnf
                      refine .inl ⟨_, _, byX rfl (Sound1.pl (h21 _) rfl), ?_⟩
                      conv => whnf
                      conv => whnf
                      refine ifB_bne (fun w9 => ?_) (fun w9 => ?_)
                      · conv => whnf
                        conv => whnf
                        refine ⟨?_, nofun⟩
                        exact endi (steady_bad w hlt hf (if_pos w9) w9).symm
                      · conv => whnf
                        conv => whnf
                        refine ⟨[], by kernel_rfl, ?_⟩
                        conv => whnf
                        conv => whnf
                        refine ifB_dec (fun w10 => ?_) (fun w10 => ?_)
                        · conv => whnf
                          conv => whnf
                          refine ⟨⟨(by omega), (by omega)⟩, ?_⟩
                          conv => whnf
                          conv => whnf
                          refine ⟨inK64 (by omega) (by omega), ?_⟩
                          conv => whnf
                          conv => whnf
                          refine ⟨⟨(by omega), (by omega)⟩, ?_⟩
                          conv => whnf
                          conv => whnf
                          refine ifB_dec (fun w11 => ?_) (fun w11 => ?_)
                          · conv => whnf
                            conv => whnf
                            refine ⟨?_, nofun⟩
                            have hk0 : 0 < k := by omega
                            have w9 : idxE p.steps.length (s.exits.getD k 0) = 0 := w9
                            rw [e2 hk0] at w11
                            have w11 : s.exits.getD k 0 ≤ s.exits.getD (k - 1) 0 := w11
                            exact endi (steady_bad w hlt hf ((exAt_zero w9).trans (if_neg (by omega))) (by decide)).symm
                          · conv => whnf
                            conv => whnf
                            refine ⟨inK64 (by omega) (by omega), ?_⟩
                            have hk0 : 0 < k := by omega
                            have w9 : idxE p.steps.length (s.exits.getD k 0) = 0 := w9
                            rw [e2 hk0] at w11
                            have w11 : ¬ s.exits.getD k 0 ≤ s.exits.getD (k - 1) 0 := w11
                            conv => whnf
                            conv => whnf
                            refine ⟨_, _, ⟨⟨k + 1, by omega, inv_next hf ((exAt_zero w9).trans (if_pos (by omega))), rfl, rfl⟩, by omega⟩, ⟨⟨.inl rfl, rfl, rfl, rfl⟩, ⟨⟨rfl, rfl, rfl, rfl, fun _ => rfl, fun _ _ => .inl rfl⟩, ⟨⟨rfl, rfl, rfl, rfl, fun _ => rfl, fun _ _ => .inl rfl⟩, trivial⟩⟩, trivial⟩⟩
                        · conv => whnf
                          conv => whnf
                          refine ⟨inK64 (by omega) (by omega), ?_⟩
                          conv => whnf
                          conv => whnf
                          refine ⟨_, _, ⟨⟨k + 1, by omega, inv_next hf ((exAt_zero w9).trans (if_pos (by omega))), rfl, rfl⟩, by omega⟩, ⟨⟨.inl rfl, rfl, rfl, rfl⟩, ⟨⟨rfl, rfl, rfl, rfl, fun _ => rfl, fun _ _ => .inl rfl⟩, ⟨⟨rfl, rfl, rfl, rfl, fun _ => rfl, fun _ _ => .inl rfl⟩, trivial⟩⟩, trivial⟩⟩
                    · (exfalso; omega)
                  · have e : k = s.exits.length := by omega
                    have hst := steady_end w (by rw [e] at hf; exact hf)
                    conv => whnf
                    conv => whnf
                    refine ifB_dec (fun w8 => ?_) (fun w8 => ?_)
                    · (exfalso; omega)
                    · conv => whnf
                      conv => whnf
                      refine ifB_beq (fun w9 => ?_) (fun w9 => ?_)
                      · conv => whnf
                        conv => whnf
                        refine ifB_bne (fun w10 => ?_) (fun w10 => ?_)
                        · conv => whnf
                          conv => whnf
                          refine ⟨?_, nofun⟩
                          have e0 : s.exits = [] := List.length_eq_zero_iff.1 (by omega)
                          refine endi (Eq.trans ?_ hst.symm)
                          rw [e0]; simp [hasI, w10]
                        · conv => whnf
                          conv => whnf
                          refine ifB_dec (fun w11 => ?_) (fun w11 => ?_)
                          · (exfalso; omega)
                          · conv => whnf
                            conv => whnf
                            refine ⟨?_, nofun⟩
                            have e0 : s.exits = [] := List.length_eq_zero_iff.1 (by omega)
                            refine endi (Eq.trans ?_ hst.symm)
                            rw [e0]; simp [hasI, w10]
                      · conv => whnf
                        conv => whnf
                        refine ifB_dec (fun w10 => ?_) (fun w10 => ?_)
                        · conv => whnf
                          conv => whnf
                          refine .inl ⟨_, _, byX rfl (Sound1.pl (h93) rfl), ?_⟩
                          conv => whnf
                          conv => whnf
                          refine ifB_not ?_
                          conv => whnf
                          conv => whnf
                          refine ifB_intro (fun w11 => ?_) (fun w11 => ?_)
                          · conv => whnf
                            conv => whnf
                            refine ⟨?_, nofun⟩
                            refine endi (Eq.trans ?_ hst.symm)
                            rw [show hasI s.exits s.home = true by first | exact w10 | exact w11 | exact w12]; rfl
                          · conv => whnf
                            conv => whnf
                            refine ⟨?_, nofun⟩
                            refine endi (Eq.trans ?_ hst.symm)
                            have h0 : ¬ s.exits.length = 0 := by omega
                            rw [show hasI s.exits s.home = false by first | exact w10 | exact w11 | exact w12, decide_eq_false h0]; rfl
                        · (exfalso; omega)
  · have hst := steady_form (m := p.steps.length) w
    conv => whnf
    refine ifB_bne (fun w1 => ?_) (fun w1 => ?_)
    · conv => whnf
      refine ⟨?_, nofun⟩
      (exact congrArg (fun x => i64 x) hst.symm)
    · conv => whnf
      refine ifB_bne (fun w2 => ?_) (fun w2 => ?_)
      · conv => whnf
        refine ⟨?_, nofun⟩
        (exact congrArg (fun x => i64 x) hst.symm)
      · conv => whnf
        refine ifB_bne (fun w3 => ?_) (fun w3 => ?_)
        · conv => whnf
          refine ⟨?_, nofun⟩
          (exact congrArg (fun x => i64 x) hst.symm)
        · conv => whnf
          refine ifB_bne (fun w4 => ?_) (fun w4 => ?_)
          · conv => whnf
            refine ⟨?_, nofun⟩
            (exact congrArg (fun x => i64 x) hst.symm)
          · conv => whnf
            refine ifB_bne (fun w5 => ?_) (fun w5 => ?_)
            · conv => whnf
              refine ⟨?_, nofun⟩
              (exact congrArg (fun x => i64 x) hst.symm)
            · conv => whnf
              refine ifB_bne (fun w6 => ?_) (fun w6 => ?_)
              · conv => whnf
                refine ⟨?_, nofun⟩
                (exact congrArg (fun x => i64 x) hst.symm)
              · conv => whnf
                refine ifB_bne (fun w7 => ?_) (fun w7 => ?_)
                · conv => whnf
                  refine ⟨?_, nofun⟩
                  (exact congrArg (fun x => i64 x) hst.symm)
                · (exfalso; omega)
theorem S108 (p : Pln) (s : Stp) (hn : p.sig.length ≤ 7) (hm : p.steps.length ≤ 1000) : SP 108 [planA p, stepA s] (i64 (movingE p.sig.length p.steps.length s)) false := by
  have h21 := S21 p hm
  have h105 := S105 p hn
  refine sound (d := 2) tok2 mixed2 Tryd.func108 (by kernel_rfl) (by kernel_rfl) ?_
  have h41 := S41 s.time 1 s.wait
  conv => whnf
  refine ifB_intro (fun w1 => ?_) (fun w1 => ?_)
  · conv => whnf
    refine ⟨?_, nofun⟩
    refine endi (Eq.trans ?_ (moving_form p.sig.length p.steps.length s).symm)
    simp_all
  · conv => whnf
    refine ifB_bne (fun w2 => ?_) (fun w2 => ?_)
    · conv => whnf
      refine ⟨?_, nofun⟩
      refine endi (Eq.trans ?_ (moving_form p.sig.length p.steps.length s).symm)
      simp_all
    · conv => whnf
      refine ifB_dec (fun w3 => ?_) (fun w3 => ?_)
      · conv => whnf
        refine ⟨?_, nofun⟩
        refine endi (Eq.trans ?_ (moving_form p.sig.length p.steps.length s).symm)
        have h0 : ¬ s.exits.length = 0 := by omega
        simp_all
      · conv => whnf
        refine ⟨[], by kernel_rfl, ?_⟩
        conv => whnf
        refine .inl ⟨_, _, byX rfl (Sound1.pl (h105 _) rfl), ?_⟩
        conv => whnf
        refine .inl ⟨_, _, byX rfl (Sound1.pl (h105 _) rfl), ?_⟩
        conv => whnf
        refine .inl ⟨_, _, byX rfl (Sound1.pl (h105 _) rfl), ?_⟩
        conv => whnf
        refine .inl ⟨_, _, byX rfl (Sound1.pl (h105 _) rfl), ?_⟩
        conv => whnf
        refine .inl ⟨_, _, byX rfl (Sound1.pl (S106_4 _ _ _ _ ⟨rfl, rfl, rfl, rfl⟩) rfl), ?_⟩
        conv => whnf
        refine ifB_bne (fun w4 => ?_) (fun w4 => ?_)
        · conv => whnf
          refine ⟨?_, nofun⟩
          refine endi (Eq.trans ?_ (moving_form p.sig.length p.steps.length s).symm)
          simp_all
        · conv => whnf
          refine ifB_bne (fun w5 => ?_) (fun w5 => ?_)
          · conv => whnf
            refine ⟨?_, nofun⟩
            refine endi (Eq.trans ?_ (moving_form p.sig.length p.steps.length s).symm)
            simp_all
          · conv => whnf
            refine ifB_bne (fun w6 => ?_) (fun w6 => ?_)
            · conv => whnf
              refine ⟨?_, nofun⟩
              refine endi (Eq.trans ?_ (moving_form p.sig.length p.steps.length s).symm)
              simp_all
            · conv => whnf
              refine .inl ⟨_, _, byX rfl (Sound1.pl (h41) rfl), ?_⟩
              conv => whnf
              refine ifB_not ?_
              conv => whnf
              refine ifB_dec (fun w7 => ?_) (fun w7 => ?_)
              · conv => whnf
                refine ⟨[], by kernel_rfl, ?_⟩
                conv => whnf
                refine .inl ⟨_, _, byX rfl (Sound1.pl (h21 _) rfl), ?_⟩
                conv => whnf
                refine .inl ⟨_, _, byX rfl (Sound1.pl (h21 _) rfl), ?_⟩
                conv => whnf
                refine .inl ⟨_, _, byX rfl (Sound1.pl (S106_2 _ _ ⟨rfl, rfl⟩) rfl), ?_⟩
                conv => whnf
                refine ⟨?_, nofun⟩
                refine endi (Eq.trans ?_ (moving_form p.sig.length p.steps.length s).symm)
                simp_all
              · conv => whnf
                refine ⟨?_, nofun⟩
                refine endi (Eq.trans ?_ (moving_form p.sig.length p.steps.length s).symm)
                simp_all
                intros; omega
end Go.Tr

/- Contracts of chapter 7: which plans are valid, by the program and by the reference. Conditions: none. -/
namespace Go.Tr
open Go Go.Proofs
set_option maxRecDepth 20000
set_option maxHeartbeats 8000000

theorem toList_loop (bs : ByteArray) : ∀ (n i : Nat) (r : List UInt8), n = bs.size - i → ByteArray.toList.loop bs i r = r.reverse ++ bs.data.toList.drop i := by
  intro n
  induction n with
  | zero =>
    intro i r h
    unfold ByteArray.toList.loop
    have hz : bs.data.toList.length = bs.size := rfl
    rw [if_neg (by omega), List.drop_of_length_le (by omega), List.append_nil]
  | succ n ih =>
    intro i r h
    unfold ByteArray.toList.loop
    have hz : bs.data.toList.length = bs.size := rfl
    rw [if_pos (by omega), ih (i + 1) _ (by omega), List.drop_eq_getElem_cons (show i < bs.data.toList.length by omega)]
    have : bs.get! i = bs.data.toList[i]'(by omega) := by
      show bs.data[i]! = _
      rw [getElem!_pos bs.data i (by show i < bs.size; omega)]
      rfl
    rw [this]; simp
theorem toList_eq (bs : ByteArray) : bs.toList = bs.data.toList := by
  unfold ByteArray.toList
  rw [toList_loop bs (bs.size) 0 [] (by omega)]; simp
theorem toList_inj {a b : ByteArray} : a.toList = b.toList ↔ a = b := by
  rw [toList_eq, toList_eq]
  exact ⟨fun h => by cases a; cases b; simp at h; simp [h], fun h => by rw [h]⟩
theorem keyS (a b : ByteArray) : opEv.keyEq (.string a) (.string b) = (b.toList == a.toList) := by
  have h : (a == b) = true ↔ a = b := by
    cases a with | mk a => cases b with | mk b =>
    show (a == b) = true ↔ _
    rw [beq_iff_eq]
    exact ⟨fun h => h ▸ rfl, fun h => by cases h; rfl⟩
  show (a == b) = _
  rw [Bool.eq_iff_iff, h, beq_iff_eq, toList_inj]
  exact ⟨fun h => h.symm, fun h => h.symm⟩
theorem bif_vb (b x y : Bool) : vb (bif b then x else y) = bif b then vb x else vb y := by cases b <;> rfl
theorem ave_tup2 {k : Nat} {a b a' b' : AV} (ha : AVE k a a') (hb : AVE k b b') : AVE (k + 1) (.tuple [a, b]) (.tuple [a', b']) := by
  refine ⟨rfl, fun i x y h1 h2 => ?_⟩
  match i, h1, h2 with
  | 0, h1, h2 => cases h1; cases h2; exact ha
  | 1, h1, h2 => cases h1; cases h2; exact hb

/-- The first of some strings, as a slice of the slice of all. -/
theorem S97t (l : List ByteArray) (hl : l.length ≤ 9223372036854775807) (x : ByteArray) {k : Nat} (hk : k ≤ l.length) {f : Nat → List AV} (h : ∀ i, f i = [sv (l.getD i ByteArray.empty)]) : SP 97 [.rslice 1 k f, sv x] (vb (hasS (l.take k) x)) false := by
  have h1 : (l.take k).length = k := by simp; omega
  have key : ∀ i, i < k → f i = [sv ((l.take k).getD i ByteArray.empty)] := fun i hi => by
    rw [h i]
    simp [List.getD, hi]
  refine (S97 (l.take k) (by omega) x).argsD rfl fun i y z hy hz => ?_
  match i, hy, hz with
  | 0, hy, hz => cases hy; cases hz; exact .inr ⟨1, AVF_rows h1.symm key 0⟩
  | 1, hy, hz => cases hy; cases hz; exact .inl rfl
theorem S130t (l : List ByteArray) (hl : l.length ≤ 9223372036854775807) (x : ByteArray) {k : Nat} (hk : k ≤ l.length) {f : Nat → List AV} (h : ∀ i, f i = [sv (l.getD i ByteArray.empty)]) : SP 130 [.rslice 1 k f, sv x] (vb (hasS (l.take k) x)) false := by
  have h1 : (l.take k).length = k := by simp; omega
  have key : ∀ i, i < k → f i = [sv ((l.take k).getD i ByteArray.empty)] := fun i hi => by
    rw [h i]
    simp [List.getD, hi]
  refine (S130 (l.take k) (by omega) x).argsD rfl fun i y z hy hz => ?_
  match i, hy, hz with
  | 0, hy, hz => cases hy; cases hz; exact .inr ⟨1, AVF_rows h1.symm key 0⟩
  | 1, hy, hz => cases hy; cases hz; exact .inl rfl

/-- What the limits of Few leave. -/
structure FewP (p : Pln) : Prop where
  sig : p.sig.length ≤ 7
  steps : p.steps.length ≤ 12
  size : ∀ i, i < p.sig.length → (p.sig.getD i ByteArray.empty).size ≤ 30
  name : ∀ i, i < p.steps.length → (p.steps.getD i stp0).name.size ≤ 30
  exits : ∀ i, i < p.steps.length → (p.steps.getD i stp0).exits.length ≤ 12

def nameE (s : ByteArray) (seen : Bool) : Int := firstOf [if nameB s then 0 else 4, if !seen then 0 else 5]
def stepE (p : Pln) (s : Stp) (seen : Bool) : Int :=
  if firstOf [if nameB s.name then 0 else 4, if !seen then 0 else 5, setsE p.sig.length [s.needs], idxsE p.steps.length [s.trip], if decide (0 ≤ s.wait ∧ s.wait ≤ 10000) then 0 else 2] ≠ 0 then
    firstOf [if nameB s.name then 0 else 4, if !seen then 0 else 5, setsE p.sig.length [s.needs], idxsE p.steps.length [s.trip], if decide (0 ≤ s.wait ∧ s.wait ≤ 10000) then 0 else 2]
  else if s.wait = 0 then steadyE p.steps.length s else movingE p.sig.length p.steps.length s
theorem step_form (p : Pln) (s : Stp) (seen : Bool) : stepE p s seen = if ¬ firstOf [nameE s.name seen, setE p.sig.length s.needs, idxE p.steps.length s.trip] = 0 then firstOf [nameE s.name seen, setE p.sig.length s.needs, idxE p.steps.length s.trip]
    else if 0 ≤ s.wait ∧ s.wait ≤ 10000 then (if s.wait = 0 then steadyE p.steps.length s else movingE p.sig.length p.steps.length s) else 2 := by
  unfold stepE nameE
  rw [sets1, idxs1]
  generalize (if nameB s.name = true then (0 : Int) else 4) = A
  generalize (if (!seen) = true then (0 : Int) else 5) = B
  generalize setE p.sig.length s.needs = C
  generalize idxE p.steps.length s.trip = D
  by_cases h : 0 ≤ s.wait ∧ s.wait ≤ 10000
  · rw [if_pos h, decide_eq_true h]
    unfold firstOf firstOf firstOf firstOf firstOf firstOf
    by_cases hA : A = 0 <;> by_cases hB : B = 0 <;> by_cases hC : C = 0 <;> by_cases hD : D = 0 <;> simp [hA, hB, hC, hD]
  · rw [if_neg h, decide_eq_false h]
    unfold firstOf firstOf firstOf firstOf firstOf firstOf
    by_cases hA : A = 0 <;> by_cases hB : B = 0 <;> by_cases hC : C = 0 <;> by_cases hD : D = 0 <;> simp [hA, hB, hC, hD]
theorem S99 (p : Pln) (s : Stp) (seen : Bool) (hn : p.sig.length ≤ 7) (hm : p.steps.length ≤ 1000) (he : s.exits.length ≤ 1000) (hs : s.name.size ≤ 1000) : SP 99 [planA p, stepA s, vb seen] (i64 (stepE p s seen)) false := by
  have h96 := S96 s.name (by omega)
  have h127 := S127 p s hm he
  have h128 := S128 p s hn hm
  have h98 := @S98_1 p hn s.needs
  have h68 := @S68_1 p hm s.trip
  have h78 := S78 s.wait 0 10000
  refine sound (d := 2) tok2 mixed2 Tryd.func99 (by kernel_rfl) (by kernel_rfl) ?_
  conv => whnf
  refine ⟨[], by kernel_rfl, ?_⟩
  conv => whnf
  refine .inl ⟨_, _, byX rfl (Sound1.pl (h96) rfl), ?_⟩
  conv => whnf
  refine .inl ⟨_, _, byX rfl (Sound1.pl (S69 _ _) rfl), ?_⟩
  conv => whnf
  refine .inl ⟨_, _, byX rfl (Sound1.pl (S69 _ _) rfl), ?_⟩
  conv => whnf
  refine .inl ⟨_, _, byX rfl (Sound1.pl (h98 rfl) rfl), ?_⟩
  conv => whnf
  refine .inl ⟨_, _, byX rfl (Sound1.pl (h68 rfl) rfl), ?_⟩
  conv => whnf
  refine .inl ⟨_, _, byX rfl (Sound1.pl (h78) rfl), ?_⟩
  conv => whnf
  refine .inl ⟨_, _, byX rfl (Sound1.pl (S69 _ _) rfl), ?_⟩
  conv => whnf
  refine .inl ⟨_, _, byX rfl (Sound1.pl (S83_5 _ _ _ _ _ ⟨rfl, rfl, rfl, rfl, rfl⟩) rfl), ?_⟩
  conv => whnf
  refine ifB_bne (fun w1 => ?_) (fun w1 => ?_)
  · conv => whnf
    refine ⟨?_, nofun⟩
    refine endi (b := stepE p s seen) (Eq.trans ?_ (if_pos w1).symm)
    rfl
  · conv => whnf
    refine ifB_beq (fun w2 => ?_) (fun w2 => ?_)
    · conv => whnf
      refine .inl ⟨_, _, byX rfl (Sound1.pl (h127) rfl), ?_⟩
      conv => whnf
      refine ⟨?_, nofun⟩
      refine endi (b := stepE p s seen) (Eq.trans ?_ (if_neg (not_not_intro w1)).symm)
      rw [if_pos w2]
    · conv => whnf
      refine .inl ⟨_, _, byX rfl (Sound1.pl (h128) rfl), ?_⟩
      conv => whnf
      refine ⟨?_, nofun⟩
      refine endi (b := stepE p s seen) (Eq.trans ?_ (if_neg (not_not_intro w1)).symm)
      rw [if_neg w2]

/-- The names of the first steps. -/
def hasN (p : Pln) (k : Nat) (s : ByteArray) : Bool := hasS ((p.steps.map Stp.name).take k) s
def sigAt (p : Pln) (i : Nat) : Int := nameE (p.sig.getD i ByteArray.empty) (hasS (p.sig.take i) (p.sig.getD i ByteArray.empty))
def stepAt (p : Pln) (i : Nat) : Int := stepE p (p.steps.getD i stp0) (hasN p i (p.steps.getD i stp0).name)
def headE (p : Pln) : Int := firstOf [setsE p.sig.length [p.start], if decide ((p.steps.length : Int) > 0) then 0 else 10, if decide ((p.steps.length : Int) ≤ 10) then 0 else 8]
/-- Where a plan is wrong, and how. -/
def checkP (p : Pln) : Int × Int :=
  if p.sig.length > 5 then (0, 8)
  else if (scan (sigAt p) p.sig.length 0).2 ≠ 0 then (0, (scan (sigAt p) p.sig.length 0).2)
  else if headE p ≠ 0 then (0, headE p)
  else if (scan (stepAt p) p.steps.length 0).2 ≠ 0 then scan (stepAt p) p.steps.length 0
  else (0, if (p.steps.getD 0 stp0).safe && decide ((p.steps.getD 0 stp0).wait = 0) then 0 else 20)
abbrev t2 (a b : Int) : AV := .tuple [i64 a, i64 b]
theorem check_1 {p : Pln} (h : p.sig.length > 5) : checkP p = (0, 8) := if_pos h
theorem check_2 {p : Pln} {k : Nat} {e : Int} (h : ¬ p.sig.length > 5) (hk : k < p.sig.length) (hf : ∀ j, j < k → sigAt p j = 0) (he : sigAt p k = e) (h0 : ¬ e = 0) : checkP p = (0, e) := by
  unfold checkP
  rw [if_neg h, scan_at hk hf (by rw [he]; exact h0), he]
  exact if_pos h0
theorem check_3 {p : Pln} (h : ¬ p.sig.length > 5) (hf : ∀ j, j < p.sig.length → sigAt p j = 0) (h0 : ¬ headE p = 0) : checkP p = (0, headE p) := by
  unfold checkP
  rw [if_neg h, scan_all hf, if_neg (fun e => e rfl), if_pos h0]
theorem check_4 {p : Pln} {k : Nat} {e : Int} (h : ¬ p.sig.length > 5) (hf : ∀ j, j < p.sig.length → sigAt p j = 0) (hh : headE p = 0) (hk : k < p.steps.length) (hg : ∀ j, j < k → stepAt p j = 0) (he : stepAt p k = e) (h0 : ¬ e = 0) : checkP p = (↑k, e) := by
  unfold checkP
  rw [if_neg h, scan_all hf, if_neg (fun e => e rfl), if_neg (not_not_intro hh), scan_at hk hg (by rw [he]; exact h0), he, if_pos h0]
theorem check_5 {p : Pln} (h : ¬ p.sig.length > 5) (hf : ∀ j, j < p.sig.length → sigAt p j = 0) (hh : headE p = 0) (hg : ∀ j, j < p.steps.length → stepAt p j = 0) :
    checkP p = (0, if (p.steps.getD 0 stp0).safe && decide ((p.steps.getD 0 stp0).wait = 0) then 0 else 20) := by
  unfold checkP
  rw [if_neg h, scan_all hf, if_neg (fun e => e rfl), if_neg (not_not_intro hh), scan_all hg, if_neg (fun e => e rfl)]
theorem first3_iff {a b c : Int} : firstOf [a, b, c] = 0 ↔ a = 0 ∧ b = 0 ∧ c = 0 := by
  unfold firstOf firstOf firstOf firstOf
  by_cases h : a = 0 <;> by_cases h2 : b = 0 <;> by_cases h3 : c = 0 <;> simp [h, h2, h3]
theorem head_len {p : Pln} (hh : headE p = 0) : 0 < p.steps.length := by
  unfold headE at hh
  rw [first3_iff] at hh
  have := hh.2.1
  by_cases h : (p.steps.length : Int) > 0
  · omega
  · rw [decide_eq_false h] at this; cases this

/-- The names of the steps. -/
def nms (p : Pln) : List ByteArray := p.steps.map Stp.name
theorem hasN_succ {p : Pln} {k : Nat} (hk : k < p.steps.length) (s : ByteArray) : hasN p (k + 1) s = (hasN p k s || (p.steps.getD k stp0).name.toList == s.toList) := by
  unfold hasN hasS
  rw [List.take_add_one, List.any_append]
  congr 1
  simp [List.getD, hk]
theorem endp {a b : Int} {q : Int × Int} (h : q = (a, b)) : AVE 5 (t2 a b) (t2 q.1 q.2) := by
  rw [h]
  exact ave_tup2 (k := 4) rfl rfl
theorem head_form (p : Pln) : headE p = if ¬ setE p.sig.length p.start = 0 then setE p.sig.length p.start else if p.steps.length = 0 then 10 else if p.steps.length > 10 then 8 else 0 := by
  unfold headE
  rw [sets1]
  unfold firstOf firstOf firstOf firstOf
  by_cases h : setE p.sig.length p.start = 0
  · rw [if_pos h, if_neg (not_not_intro h)]
    by_cases h2 : p.steps.length = 0
    · rw [if_pos h2, decide_eq_false (by omega)]; rfl
    · rw [if_neg h2, decide_eq_true (by omega)]
      by_cases h3 : p.steps.length > 10
      · rw [if_pos h3, decide_eq_false (by omega)]; rfl
      · rw [if_neg h3, decide_eq_true (by omega)]; rfl
  · rw [if_neg h, if_pos h]
theorem nms_row {p : Pln} {k : Nat} (hk : k < p.steps.length) (i : Nat) (h : i < k + 1) : [sv ((nms p).getD i ByteArray.empty)] = if i < k then [sv ((nms p).getD (0 + i) ByteArray.empty)] else List.take 1 (List.drop ((i - k) * 1) [sv (p.steps.getD k stp0).name]) := by
  rw [Nat.zero_add]
  by_cases hi : i < k
  · rw [if_pos hi]
  · have : i = k := by omega
    subst this
    rw [if_neg hi]; simp [nms, List.getD_eq_getElem?_getD, hk]
theorem S53 (p : Pln) (hp : FewP p) : SP 53 [planA p] (t2 (checkP p).1 (checkP p).2) false := by
  have hn := hp.sig
  have hm := hp.steps
  refine sound (d := 2) tok2 mixed2 Tryd.func53 (by kernel_rfl) (by kernel_rfl) ?_
  conv => whnf
  refine ifB_dec (fun w1 => ?_) (fun w1 => ?_)
  · conv => whnf
    refine ⟨?_, nofun⟩
    exact endp (check_1 (p := p) (by omega))
  · conv => whnf
    refine ⟨[], [4, 22, 23, 24], fun st mq => ∃ (k : Nat), (k ≤ p.sig.length) ∧ (∀ j, j < k → sigAt p j = 0) ∧ st = ⟨[(4, .optr 1 0 0 0), (22, strs p.sig), (23, i64 p.sig.length), (24, i64 k)], ⟨[⟨3, 1, fun _ => planC p, 0, false, true, true⟩, ⟨3, 1, fun _ => planC p, 0, false, true, true⟩], [], none, 0⟩, []⟩ ∧ mq = p.sig.length - k,
      ⟨_, _, ⟨0, by omega, inv_none, rfl, rfl⟩, ⟨⟨.inl rfl, rfl, rfl, rfl⟩, ⟨⟨rfl, rfl, rfl, rfl, fun _ => rfl, fun _ _ => .inl rfl⟩, ⟨⟨rfl, rfl, rfl, rfl, fun _ => rfl, fun _ _ => .inl rfl⟩, trivial⟩⟩, trivial⟩⟩, ?_⟩
    rintro s0 m0 ⟨k, hk, hf, rfl, hmeas⟩
    by_cases hlt : k < p.sig.length
    · have hz := hp.size k hlt
      have h96 := S96 (p.sig.getD (k : Int).toNat ByteArray.empty) (by show (p.sig.getD k ByteArray.empty).size ≤ _; omega)
      have h97 := @S97t p.sig (by omega) (p.sig.getD (k : Int).toNat ByteArray.empty) k (by omega)
      conv => whnf
      conv => whnf
      refine ifB_dec (fun w2 => ?_) (fun w2 => ?_)
      · conv => whnf
        conv => whnf
        refine ⟨⟨(by omega), (by omega)⟩, ?_⟩
        conv => whnf
        conv => whnf
        refine ⟨[], by kernel_rfl, ?_⟩
        conv => whnf
        conv => whnf
        refine .inl ⟨_, _, byX rfl (Sound1.pl (h96) rfl), ?_⟩
        conv => whnf
        conv => whnf
        refine .inl ⟨_, _, byX rfl (Sound1.pl (S69 _ _) rfl), ?_⟩
        conv => whnf
        conv => whnf
        refine ⟨⟨(by omega), ⟨(by omega), (by omega)⟩⟩, ?_⟩
        conv => whnf
        conv => whnf
        refine .inl ⟨_, _, byX rfl (Sound1.pl (h97 (fun _ => rfl)) rfl), ?_⟩
        conv => whnf
        conv => whnf
        refine .inl ⟨_, _, byX rfl (Sound1.pl (S69 _ _) rfl), ?_⟩
        conv => whnf
        conv => whnf
        refine .inl ⟨_, _, byX rfl (Sound1.pl (S83_2 _ _ ⟨rfl, rfl⟩) rfl), ?_⟩
        conv => whnf
        conv => whnf
        refine ifB_bne (fun w3 => ?_) (fun w3 => ?_)
        · conv => whnf
          conv => whnf
          refine ⟨?_, nofun⟩
          exact endp (check_2 (by omega) hlt hf rfl (by first | exact w2 | exact w3))
        · conv => whnf
          conv => whnf
          refine ⟨inK64 (by omega) (by omega), ?_⟩
          conv => whnf
          conv => whnf
          refine ⟨_, _, ⟨⟨k + 1, by omega, inv_next hf (by first | exact w2 | exact w3), rfl, rfl⟩, by omega⟩, ⟨⟨.inl rfl, rfl, rfl, rfl⟩, ⟨⟨rfl, rfl, rfl, rfl, fun _ => rfl, fun _ _ => .inl rfl⟩, ⟨⟨rfl, rfl, rfl, rfl, fun _ => rfl, fun _ _ => .inl rfl⟩, trivial⟩⟩, trivial⟩⟩
      · (exfalso; omega)
    · have e : k = p.sig.length := by omega
      subst e
      have h98 := @S98_1 p hn p.start
      conv => whnf
      conv => whnf
      refine ifB_dec (fun w2 => ?_) (fun w2 => ?_)
      · (exfalso; omega)
      · conv => whnf
        conv => whnf
        refine ⟨[], by kernel_rfl, ?_⟩
        conv => whnf
        conv => whnf
        refine .inl ⟨_, _, byX rfl (Sound1.pl (h98 rfl) rfl), ?_⟩
        conv => whnf
        conv => whnf
        refine .inl ⟨_, _, byX rfl (Sound1.pl (S69 _ _) rfl), ?_⟩
        conv => whnf
        conv => whnf
        refine .inl ⟨_, _, byX rfl (Sound1.pl (S69 _ _) rfl), ?_⟩
        conv => whnf
        conv => whnf
        refine .inl ⟨_, _, byX rfl (Sound1.pl (S83_3 _ _ _ ⟨rfl, rfl, rfl⟩) rfl), ?_⟩
        conv => whnf
        conv => whnf
        refine ifB_bne (fun w3 => ?_) (fun w3 => ?_)
        · conv => whnf
          conv => whnf
          refine ⟨?_, nofun⟩
          exact endp (check_3 (by omega) hf (by first | exact w2 | exact w3))
        · have hh : headE p = 0 := by first | exact w2 | exact w3
          conv => whnf
          conv => whnf
          refine ⟨[], [4, 9, 73, 74, 75], fun st mq => ∃ (k : Nat) (H : Value → Bool) (G : Value → Bool) (F2 : Nat → List AV) (F3 : Nat → List AV), (k ≤ p.steps.length) ∧ (∀ s, G (.string s) = hasN p k s) ∧ (∀ j, j < k → stepAt p j = 0) ∧ st = ⟨[(4, .optr 1 0 0 0), (9, .omap 0), (73, stepsA p.steps), (74, i64 p.steps.length), (75, i64 k)], ⟨[⟨3, 1, fun _ => planC p, 0, false, true, true⟩, ⟨3, 1, fun _ => planC p, 0, false, true, true⟩, ⟨1, 1, F2, 0, false, true, false⟩, ⟨1, 3, F3, 0, false, true, false⟩], [⟨.str, 4, H, fun v => vb (G v), false, none, 0, .top⟩], none, 0⟩, []⟩ ∧ mq = p.steps.length - k,
            ⟨_, _, ⟨0, fun _ => false, fun _ => false, _, _, by omega, fun _ => rfl, inv_none, rfl, rfl⟩, ⟨⟨.inl rfl, rfl, rfl, rfl⟩, ⟨⟨rfl, rfl, rfl, rfl, fun _ => rfl, fun _ _ => .inl rfl⟩, ⟨⟨rfl, rfl, rfl, rfl, fun _ => rfl, fun _ _ => .inl rfl⟩, ⟨⟨rfl, rfl, rfl, rfl, fun _ => rfl, fun _ _ => .inl rfl⟩, ⟨⟨rfl, rfl, rfl, rfl, fun _ => rfl, fun _ _ => .inl rfl⟩, trivial⟩⟩⟩⟩, ⟨⟨rfl, rfl, rfl, trivial, .inl rfl, fun _ => ⟨rfl, .inl rfl⟩⟩, trivial⟩⟩⟩, ?_⟩
          rintro s0 m0 ⟨k, H, G, F2, F3, hk, hG, hg, rfl, hmeas⟩
          by_cases hlt : k < p.steps.length
          · have hz := hp.name k hlt
            have hx := hp.exits k hlt
            have h99 := S99 p (p.steps.getD (k : Int).toNat stp0) (G (.string (p.steps.getD (k : Int).toNat stp0).name)) hn (by omega) (by show (p.steps.getD k stp0).exits.length ≤ _; omega) (by show (p.steps.getD k stp0).name.size ≤ _; omega)
            rw [show stepE p (p.steps.getD (k : Int).toNat stp0) (G (.string (p.steps.getD (k : Int).toNat stp0).name)) = stepAt p k by rw [hG]; rfl] at h99
            have hG2 : ∀ s, (bif opEv.keyEq (.string s) (.string (p.steps.getD (k : Int).toNat stp0).name) then true else G (.string s)) = hasN p (k + 1) s := fun s => by
              rw [keyS, hG, hasN_succ hlt, show (k : Int).toNat = k from rfl]
              generalize ((p.steps.getD k stp0).name.toList == s.toList) = A
              generalize hasN p k s = B
              cases A <;> cases B <;> rfl
            conv => whnf
            conv => whnf
            conv => whnf
            refine ifB_dec (fun w4 => ?_) (fun w4 => ?_)
            · conv => whnf
              conv => whnf
              conv => whnf
              refine ⟨⟨(by omega), (by omega)⟩, ?_⟩
              conv => whnf
              conv => whnf
              conv => whnf
              refine .inl ⟨_, _, byX rfl (Sound1.pl (h99) rfl), ?_⟩
              conv => whnf
              conv => whnf
              conv => whnf
              refine ifB_bne (fun w5 => ?_) (fun w5 => ?_)
              · conv => whnf
                conv => whnf
                conv => whnf
                refine ⟨?_, nofun⟩
                exact endp (check_4 (by omega) hf hh hlt hg rfl (by first | exact w5 | exact w4 | exact w3 | exact w2))
              · conv => whnf
                conv => whnf
                conv => whnf
                refine ⟨inK64 (by omega) (by omega), ?_⟩
                conv => whnf
                conv => whnf
                conv => whnf
                refine ⟨_, _, ⟨⟨k + 1, fun v => Bool.or (H v) (opEv.keyEq v (.string (p.steps.getD (k : Int).toNat stp0).name)), fun v => bif opEv.keyEq v (.string (p.steps.getD (k : Int).toNat stp0).name) then true else G v, _, _, by omega, hG2, inv_next hg (by first | exact w5 | exact w4 | exact w3 | exact w2), rfl, rfl⟩, by omega⟩, ⟨⟨.inl rfl, rfl, rfl, rfl⟩, ⟨⟨rfl, rfl, rfl, rfl, fun _ => rfl, fun _ _ => .inl rfl⟩, ⟨⟨rfl, rfl, rfl, rfl, fun _ => rfl, fun _ _ => .inl rfl⟩, ⟨⟨rfl, rfl, rfl, rfl, fun _ => rfl, fun _ _ => .inl rfl⟩, ⟨⟨rfl, rfl, rfl, rfl, fun _ => rfl, fun _ _ => .inl rfl⟩, trivial⟩⟩⟩⟩, ⟨⟨rfl, rfl, rfl, trivial, .inl rfl, fun v => And.imp id Or.inl (⟨rfl, bif_vb _ _ _⟩)⟩, trivial⟩⟩⟩
            · (exfalso; omega)
          · have e : k = p.steps.length := by omega
            subst e
            have h100 := S100 (p.steps.getD 0 stp0)
            have h0 := head_len hh
            conv => whnf
            conv => whnf
            conv => whnf
            refine ifB_dec (fun w4 => ?_) (fun w4 => ?_)
            · (exfalso; omega)
            · conv => whnf
              conv => whnf
              conv => whnf
              refine ⟨⟨(by omega), (by omega)⟩, ?_⟩
              conv => whnf
              conv => whnf
              conv => whnf
              refine .inl ⟨_, _, byX rfl (Sound1.pl (h100) rfl), ?_⟩
              conv => whnf
              conv => whnf
              conv => whnf
              refine .inl ⟨_, _, byX rfl (Sound1.pl (S69 _ _) rfl), ?_⟩
              conv => whnf
              conv => whnf
              conv => whnf
              refine ⟨?_, nofun⟩
              exact endp (check_5 (by omega) hf hh hg)
theorem S104 (s : ByteArray) (hs : s.size ≤ 1000) (l : List ByteArray) (hl : l.length ≤ 1000) {k : Nat} (hk : k ≤ l.length) {f : Nat → List AV} (h : ∀ i, f i = [sv (l.getD i ByteArray.empty)]) : SP 104 [sv s, .rslice 1 k f] (i64 (nameE s (hasS (l.take k) s))) false := by
  have h129 := S129 s (by omega)
  have h130 := @S130t l (by omega) s k hk f h
  refine sound (d := 2) tok2 mixed2 Tryd.func104 (by kernel_rfl) (by kernel_rfl) ?_
  unfold nameE
  conv => whnf
  refine .inl ⟨_, _, byX rfl (Sound1.pl (h129) rfl), ?_⟩
  conv => whnf
  refine ifB_not ?_
  conv => whnf
  refine ifB_intro (fun w1 => ?_) (fun w1 => ?_)
  · conv => whnf
    refine .inl ⟨_, _, byX rfl (Sound1.pl (h130) rfl), ?_⟩
    conv => whnf
    refine ifB_intro (fun w2 => ?_) (fun w2 => ?_)
    · conv => whnf
      refine ⟨?_, nofun⟩
      refine endi ?_
      rw [w1, w2]; rfl
    · conv => whnf
      refine ⟨?_, nofun⟩
      refine endi ?_
      rw [w1, w2]; rfl
  · conv => whnf
    refine ⟨?_, nofun⟩
    refine endi ?_
    rw [w1]; rfl
theorem S57 (p : Pln) (hp : FewP p) : SP 57 [planA p] (t2 (checkP p).1 (checkP p).2) false := by
  have hn := hp.sig
  have hm := hp.steps
  refine sound (d := 2) tok2 mixed2 Tryd.func57 (by kernel_rfl) (by kernel_rfl) ?_
  conv => whnf
  refine ifB_dec (fun w1 => ?_) (fun w1 => ?_)
  · conv => whnf
    refine ⟨?_, nofun⟩
    exact endp (check_1 (p := p) (by omega))
  · conv => whnf
    refine ⟨[], [1, 4], fun st mq => ∃ (k : Nat), (k ≤ p.sig.length) ∧ (∀ j, j < k → sigAt p j = 0) ∧ st = ⟨[(1, .optr 0 0 0 0), (4, i64 k)], ⟨[⟨3, 1, fun _ => planC p, 0, false, true, true⟩], [], none, 0⟩, []⟩ ∧ mq = p.sig.length - k,
      ⟨_, _, ⟨0, by omega, inv_none, rfl, rfl⟩, ⟨⟨.inl rfl, rfl, rfl, rfl⟩, ⟨⟨rfl, rfl, rfl, rfl, fun _ => rfl, fun _ _ => .inl rfl⟩, trivial⟩, trivial⟩⟩, ?_⟩
    rintro s0 m0 ⟨k, hk, hf, rfl, hmeas⟩
    by_cases hlt : k < p.sig.length
    · have hz := hp.size k hlt
      have h104 := @S104 (p.sig.getD (k : Int).toNat ByteArray.empty) (by show (p.sig.getD k ByteArray.empty).size ≤ _; omega) p.sig (by omega) ((k : Int) - 0).toNat (by omega)
      conv => whnf
      conv => whnf
      refine ifB_dec (fun w2 => ?_) (fun w2 => ?_)
      · conv => whnf
        conv => whnf
        refine ⟨[], by kernel_rfl, ?_⟩
        conv => whnf
        conv => whnf
        refine ⟨⟨(by omega), (by omega)⟩, ?_⟩
        conv => whnf
        conv => whnf
        refine ⟨⟨(by omega), ⟨(by omega), (by omega)⟩⟩, ?_⟩
        conv => whnf
        conv => whnf
        refine .inl ⟨_, _, byX rfl (Sound1.pl (h104 (fun _ => rfl)) rfl), ?_⟩
        conv => whnf
        conv => whnf
        refine ifB_bne (fun w3 => ?_) (fun w3 => ?_)
        · conv => whnf
          conv => whnf
          refine ⟨?_, nofun⟩
          exact endp (check_2 (by omega) hlt hf rfl (by first | exact w2 | exact w3))
        · conv => whnf
          conv => whnf
          refine ⟨inK64 (by omega) (by omega), ?_⟩
          conv => whnf
          conv => whnf
          refine ⟨_, _, ⟨⟨k + 1, by omega, inv_next hf (by first | exact w2 | exact w3), rfl, rfl⟩, by omega⟩, ⟨⟨.inl rfl, rfl, rfl, rfl⟩, ⟨⟨rfl, rfl, rfl, rfl, fun _ => rfl, fun _ _ => .inl rfl⟩, trivial⟩, trivial⟩⟩
      · (exfalso; omega)
    · have e : k = p.sig.length := by omega
      subst e
      have h105 := S105 p hn p.start
      conv => whnf
      conv => whnf
      refine ifB_dec (fun w2 => ?_) (fun w2 => ?_)
      · (exfalso; omega)
      · conv => whnf
        conv => whnf
        refine .inl ⟨_, _, byX rfl (Sound1.pl (h105) rfl), ?_⟩
        conv => whnf
        conv => whnf
        refine ifB_bne (fun w3 => ?_) (fun w3 => ?_)
        · conv => whnf
          conv => whnf
          refine ⟨?_, nofun⟩
          exact endp ((check_3 (by omega) hf (by rw [head_form]; simp_all)).trans (by rw [head_form, if_pos (by first | exact w2 | exact w3)]))
        · conv => whnf
          conv => whnf
          refine ifB_beq (fun w4 => ?_) (fun w4 => ?_)
          · conv => whnf
            conv => whnf
            refine ⟨?_, nofun⟩
            exact endp ((check_3 (by omega) hf (by rw [head_form]; simp_all)).trans (by rw [head_form, if_neg (not_not_intro (by first | exact w2 | exact w3)), if_pos (by omega)]))
          · conv => whnf
            conv => whnf
            refine ifB_dec (fun w5 => ?_) (fun w5 => ?_)
            · conv => whnf
              conv => whnf
              refine ⟨?_, nofun⟩
              have h8 : headE p = 8 := by rw [head_form, if_neg (not_not_intro (by first | exact w2 | exact w3)), if_neg (by omega), if_pos (by omega)]
              exact endp ((check_3 (by omega) hf (by rw [h8]; decide)).trans (by rw [h8]))
            · have hh : headE p = 0 := by rw [head_form, if_neg (not_not_intro (by first | exact w2 | exact w3)), if_neg (by omega), if_neg (by omega)]
              conv => whnf
              conv => whnf
              refine ⟨[.slot 7 1], [1, 7, 8], fun st mq => ∃ (k : Nat), (k ≤ p.steps.length) ∧ (∀ j, j < k → stepAt p j = 0) ∧ st = ⟨[(1, .optr 0 0 0 0), (7, .oslice 1 0 0 k none), (8, i64 k)], ⟨[⟨3, 1, fun _ => planC p, 0, false, true, true⟩, ⟨1, k, fun i => [sv ((nms p).getD i ByteArray.empty)], 0, false, true, false⟩], [], none, 0⟩, []⟩ ∧ mq = p.steps.length - k,
                ⟨_, _, ⟨0, by omega, inv_none, rfl, rfl⟩, ⟨⟨.inl rfl, rfl, rfl, rfl⟩, ⟨⟨rfl, rfl, rfl, rfl, fun _ => rfl, fun _ _ => .inl rfl⟩, ⟨⟨rfl, rfl, rfl, rfl, fun _ => rfl, fun i h => .inl (absurd h (Nat.not_lt_zero i))⟩, trivial⟩⟩, trivial⟩⟩, ?_⟩
              rintro s0 m0 ⟨k, hk, hg, rfl, hmeas⟩
              by_cases hlt : k < p.steps.length
              · have hz := hp.name k hlt
                have hx := hp.exits k hlt
                have hl : (nms p).length = p.steps.length := by simp [nms]
                have h104 := @S104 (p.steps.getD (k : Int).toNat stp0).name (by show (p.steps.getD k stp0).name.size ≤ _; omega) (nms p) (by omega) k (by omega)
                have h105 := S105 p hn (p.steps.getD (k : Int).toNat stp0).needs
                have h21 := S21 p (by omega) (p.steps.getD (k : Int).toNat stp0).trip
                have h41 := S41 (p.steps.getD (k : Int).toNat stp0).wait 0 10000
                have h107 := S107 p (p.steps.getD (k : Int).toNat stp0) (by omega) (by show (p.steps.getD k stp0).exits.length ≤ _; omega)
                have h108 := S108 p (p.steps.getD (k : Int).toNat stp0) hn (by omega)
                have hform : stepAt p k = _ := step_form p (p.steps.getD (k : Int).toNat stp0) (hasS (List.take k (nms p)) (p.steps.getD (k : Int).toNat stp0).name)
                conv => whnf
                conv => whnf
                conv => whnf
                refine ifB_dec (fun w6 => ?_) (fun w6 => ?_)
                · conv => whnf
                  conv => whnf
                  conv => whnf
                  refine ⟨⟨(by omega), (by omega)⟩, ?_⟩
                  conv => whnf
                  conv => whnf
                  conv => whnf
                  refine ⟨[], by kernel_rfl, ?_⟩
                  conv => whnf
                  conv => whnf
                  conv => whnf
                  refine .inl ⟨_, _, byX rfl (Sound1.pl (h104 (fun _ => rfl)) rfl), ?_⟩
                  conv => whnf
                  conv => whnf
                  conv => whnf
                  refine .inl ⟨_, _, byX rfl (Sound1.pl (h105) rfl), ?_⟩
                  conv => whnf
                  conv => whnf
                  conv => whnf
                  refine .inl ⟨_, _, byX rfl (Sound1.pl (h21) rfl), ?_⟩
                  conv => whnf
                  conv => whnf
                  conv => whnf
                  refine .inl ⟨_, _, byX rfl (Sound1.pl (S106_3 _ _ _ ⟨rfl, rfl, rfl⟩) rfl), ?_⟩
                  conv => whnf
                  conv => whnf
                  conv => whnf
                  refine ifB_beq (fun w7 => ?_) (fun w7 => ?_)
                  · conv => whnf
                    conv => whnf
                    conv => whnf
                    refine .inl ⟨_, _, byX rfl (Sound1.pl (h41) rfl), ?_⟩
                    conv => whnf
                    conv => whnf
                    conv => whnf
                    refine ifB_not ?_
                    conv => whnf
                    conv => whnf
                    conv => whnf
                    refine ifB_dec (fun w8 => ?_) (fun w8 => ?_)
                    · conv => whnf
                      conv => whnf
                      conv => whnf
                      refine ifB_beq (fun w9 => ?_) (fun w9 => ?_)
                      · conv => whnf
                        conv => whnf
                        conv => whnf
                        refine ifB_beq (fun w10 => ?_) (fun w10 => ?_)
                        · conv => whnf
                          conv => whnf
                          conv => whnf
                          refine .inl ⟨_, _, byX rfl (Sound1.pl (h107) rfl), ?_⟩
                          conv => whnf
                          conv => whnf
                          conv => whnf
                          refine ifB_bne (fun w11 => ?_) (fun w11 => ?_)
                          · conv => whnf
                            conv => whnf
                            conv => whnf
                            refine ⟨?_, nofun⟩
                            rw [if_neg (not_not_intro w7), if_pos w8, if_pos (by first | exact w9 | exact w10)] at hform
                            exact endp (check_4 (by omega) hf hh hlt hg hform (by first | exact w10 | exact w11 | exact w12))
                          · conv => whnf
                            conv => whnf
                            conv => whnf
                            refine .inl ?_
                            conv => whnf
                            conv => whnf
                            conv => whnf
                            refine ⟨(by show _ * (16 + 1) ≤ _; omega), ?_⟩
                            conv => whnf
                            conv => whnf
                            conv => whnf
                            refine ⟨inK64 (by omega) (by omega), ?_⟩
                            rw [if_neg (not_not_intro w7), if_pos w8, if_pos (by first | exact w9 | exact w10)] at hform
                            conv => whnf
                            conv => whnf
                            conv => whnf
                            refine ⟨_, _, ⟨⟨k + 1, by omega, inv_next hg (hform.trans (by first | exact w10 | exact w11 | exact w12)), rfl, rfl⟩, by omega⟩, ⟨⟨.inl rfl, rfl, rfl, rfl⟩, ⟨⟨rfl, rfl, rfl, rfl, fun _ => rfl, fun _ _ => .inl rfl⟩, ⟨⟨rfl, rfl, rfl, rfl, fun _ => rfl, fun i h => .inl (nms_row hlt i h)⟩, trivial⟩⟩, trivial⟩⟩
                        · conv => whnf
                          conv => whnf
                          conv => whnf
                          refine ifB_beq (fun w11 => ?_) (fun w11 => ?_)
                          · conv => whnf
                            conv => whnf
                            conv => whnf
                            refine .inl ⟨_, _, byX rfl (Sound1.pl (h108) rfl), ?_⟩
                            conv => whnf
                            conv => whnf
                            conv => whnf
                            refine ifB_bne (fun w12 => ?_) (fun w12 => ?_)
                            · conv => whnf
                              conv => whnf
                              conv => whnf
                              refine ⟨?_, nofun⟩
                              rw [if_neg (not_not_intro w7), if_pos w8, if_neg (by first | exact w9 | exact w10)] at hform
                              exact endp (check_4 (by omega) hf hh hlt hg hform (by first | exact w10 | exact w11 | exact w12))
                            · conv => whnf
                              conv => whnf
                              conv => whnf
                              refine .inl ?_
                              conv => whnf
                              conv => whnf
                              conv => whnf
                              refine ⟨(by show _ * (16 + 1) ≤ _; omega), ?_⟩
                              conv => whnf
                              conv => whnf
                              conv => whnf
                              refine ⟨inK64 (by omega) (by omega), ?_⟩
                              rw [if_neg (not_not_intro w7), if_pos w8, if_neg (by first | exact w9 | exact w10)] at hform
                              conv => whnf
                              conv => whnf
                              conv => whnf
                              refine ⟨_, _, ⟨⟨k + 1, by omega, inv_next hg (hform.trans (by first | exact w10 | exact w11 | exact w12)), rfl, rfl⟩, by omega⟩, ⟨⟨.inl rfl, rfl, rfl, rfl⟩, ⟨⟨rfl, rfl, rfl, rfl, fun _ => rfl, fun _ _ => .inl rfl⟩, ⟨⟨rfl, rfl, rfl, rfl, fun _ => rfl, fun i h => .inl (nms_row hlt i h)⟩, trivial⟩⟩, trivial⟩⟩
                          · (exfalso; omega)
                      · (exfalso; omega)
                    · conv => whnf
                      conv => whnf
                      conv => whnf
                      refine ⟨?_, nofun⟩
                      rw [if_neg (not_not_intro w7), if_neg w8] at hform
                      exact endp (check_4 (by omega) hf hh hlt hg hform (by decide))
                  · conv => whnf
                    conv => whnf
                    conv => whnf
                    refine ifB_beq (fun w8 => ?_) (fun w8 => ?_)
                    · (exfalso; omega)
                    · conv => whnf
                      conv => whnf
                      conv => whnf
                      refine ifB_beq (fun w9 => ?_) (fun w9 => ?_)
                      · (exfalso; omega)
                      · conv => whnf
                        conv => whnf
                        conv => whnf
                        refine ifB_bne (fun w10 => ?_) (fun w10 => ?_)
                        · conv => whnf
                          conv => whnf
                          conv => whnf
                          refine ⟨?_, nofun⟩
                          rw [if_pos w7] at hform
                          exact endp (check_4 (by omega) hf hh hlt hg hform w7)
                        · (exfalso; omega)
                · (exfalso; omega)
              · have e : k = p.steps.length := by omega
                subst e
                have h5 := check_5 (by omega) hf hh hg
                conv => whnf
                conv => whnf
                conv => whnf
                refine ifB_dec (fun w6 => ?_) (fun w6 => ?_)
                · (exfalso; omega)
                · conv => whnf
                  conv => whnf
                  conv => whnf
                  refine ⟨⟨(by omega), (by omega)⟩, ?_⟩
                  conv => whnf
                  conv => whnf
                  conv => whnf
                  refine ifB_bne (fun w7 => ?_) (fun w7 => ?_)
                  · conv => whnf
                    conv => whnf
                    conv => whnf
                    refine ⟨?_, nofun⟩
                    exact endp (h5.trans (by rw [decide_eq_false (show ¬ (p.steps.getD 0 stp0).wait = 0 from w7), Bool.and_false]; rfl))
                  · conv => whnf
                    conv => whnf
                    conv => whnf
                    refine ⟨⟨(by omega), (by omega)⟩, ?_⟩
                    conv => whnf
                    conv => whnf
                    conv => whnf
                    refine ifB_not ?_
                    conv => whnf
                    conv => whnf
                    conv => whnf
                    refine ifB_intro (fun w8 => ?_) (fun w8 => ?_)
                    · conv => whnf
                      conv => whnf
                      conv => whnf
                      refine ⟨?_, nofun⟩
                      exact endp (h5.trans (by rw [decide_eq_true (show (p.steps.getD 0 stp0).wait = 0 from w7), show (p.steps.getD 0 stp0).safe = true from w8]; rfl))
                    · conv => whnf
                      conv => whnf
                      conv => whnf
                      refine ⟨?_, nofun⟩
                      exact endp (h5.trans (by rw [decide_eq_true (show (p.steps.getD 0 stp0).wait = 0 from w7), show (p.steps.getD 0 stp0).safe = false from w8]; rfl))
end Go.Tr

/- Contracts of chapter 7: states, faults, turns. Conditions: none. -/
namespace Go.Tr
open Go Go.Proofs
set_option maxRecDepth 20000
set_option maxHeartbeats 8000000

abbrev stA (s : Int × Int) : AV := .agg [i64 s.1, i64 s.2]
abbrev ftA (f : Int × Bool) : AV := .agg [i64 f.1, vb f.2]
def stateE (p : Pln) (s : Int × Int) : Int := firstOf [idxE p.steps.length s.1, setE p.sig.length s.2]
def faultE (p : Pln) (f : Int × Bool) : Int := firstOf [if decide (-1 ≤ f.1 ∧ f.1 ≤ (p.sig.length : Int) - 1) then 0 else 2, if decide (f.1 ≥ 0) || !f.2 then 0 else 3]
def openE (p : Pln) (s : Int × Int) (f : Int × Bool) : Int := if (checkP p).2 = 0 then firstOf [stateE p s, faultE p f] else (checkP p).2

theorem ave_agg2 {k : Nat} {a b a' b' : AV} (ha : AVE k a a') (hb : AVE k b b') : AVE (k + 1) (.agg [a, b]) (.agg [a', b']) := by
  refine ⟨rfl, fun i x y hx hy => ?_⟩
  match i, hx, hy with
  | 0, hx, hy => cases hx; cases hy; exact ha
  | 1, hx, hy => cases hx; cases hy; exact hb
theorem ave_agg3 {k : Nat} {a b c a' b' c' : AV} (ha : AVE k a a') (hb : AVE k b b') (hc : AVE k c c') : AVE (k + 1) (.agg [a, b, c]) (.agg [a', b', c']) := by
  refine ⟨rfl, fun i x y hx hy => ?_⟩
  match i, hx, hy with
  | 0, hx, hy => cases hx; cases hy; exact ha
  | 1, hx, hy => cases hx; cases hy; exact hb
  | 2, hx, hy => cases hx; cases hy; exact hc
theorem ave_tup3 {k : Nat} {a b c a' b' c' : AV} (ha : AVE k a a') (hb : AVE k b b') (hc : AVE k c c') : AVE (k + 1) (.tuple [a, b, c]) (.tuple [a', b', c']) := by
  refine ⟨rfl, fun i x y hx hy => ?_⟩
  match i, hx, hy with
  | 0, hx, hy => cases hx; cases hy; exact ha
  | 1, hx, hy => cases hx; cases hy; exact hb
  | 2, hx, hy => cases hx; cases hy; exact hc
theorem ave_plan (k : Nat) (p : Pln) : AVE (k + 2) (planA p) (planA p) := ave_agg3 ⟨rfl, rfl, fun _ _ => rfl⟩ rfl ⟨rfl, rfl, fun _ _ => rfl⟩
theorem ave_i64 (k : Nat) {a b : Int} (h : a = b) : AVE (k + 1) (i64 a) (i64 b) := h ▸ rfl
theorem ave_st (k : Nat) {s s' : Int × Int} (h : s = s') : AVE (k + 2) (stA s) (stA s') := h ▸ ave_agg2 rfl rfl
theorem endPl {p : Pln} {a b : Int} (h : a = b) : AVE 5 (.tuple [planA p, i64 a]) (.tuple [planA p, i64 b]) := ave_tup2 (ave_plan 2 p) (ave_i64 3 h)
theorem S109 (p : Pln) (hn : p.sig.length ≤ 7) (hm : p.steps.length ≤ 1000) (s : Int × Int) : SP 109 [planA p, stA s] (i64 (stateE p s)) false := by
  have h68 := @S68_1 p hm s.1
  have h98 := @S98_1 p hn s.2
  rw [idxs1] at h68
  rw [sets1] at h98
  refine sound (d := 2) tok2 mixed2 Tryd.func109 (by kernel_rfl) (by kernel_rfl) ?_
  conv => whnf
  refine ⟨[], by kernel_rfl, ?_⟩
  conv => whnf
  refine .inl ⟨_, _, byX rfl (Sound1.pl (h68 rfl) rfl), ?_⟩
  conv => whnf
  refine .inl ⟨_, _, byX rfl (Sound1.pl (h98 rfl) rfl), ?_⟩
  conv => whnf
  refine .inl ⟨_, _, byX rfl (Sound1.pl (S83_2 _ _ ⟨rfl, rfl⟩) rfl), ?_⟩
  conv => whnf
  refine ⟨?_, nofun⟩
  rfl
theorem S103 (p : Pln) (hn : p.sig.length ≤ 7) (f : Int × Bool) : SP 103 [planA p, ftA f] (i64 (faultE p f)) false := by
  have h78 := S78 f.1 (-1) ((p.sig.length : Int) - 1)
  refine sound (d := 2) tok2 mixed2 Tryd.func103 (by kernel_rfl) (by kernel_rfl) ?_
  unfold faultE
  conv => whnf
  refine ⟨[], by kernel_rfl, ?_⟩
  conv => whnf
  refine ⟨inK64 (by omega) (by omega), ?_⟩
  conv => whnf
  refine .inl ⟨_, _, byX rfl (Sound1.pl (h78) rfl), ?_⟩
  conv => whnf
  refine .inl ⟨_, _, byX rfl (Sound1.pl (S69 _ _) rfl), ?_⟩
  conv => whnf
  refine ifB_dec (fun w1 => ?_) (fun w1 => ?_)
  · conv => whnf
    refine .inl ⟨_, _, byX rfl (Sound1.pl (S69 _ _) rfl), ?_⟩
    conv => whnf
    refine .inl ⟨_, _, byX rfl (Sound1.pl (S83_2 _ _ ⟨rfl, rfl⟩) rfl), ?_⟩
    conv => whnf
    refine ⟨?_, nofun⟩
    refine endi ?_
    rw [decide_eq_true w1]; rfl
  · conv => whnf
    refine .inl ⟨_, _, byX rfl (Sound1.pl (S69 _ _) rfl), ?_⟩
    conv => whnf
    refine .inl ⟨_, _, byX rfl (Sound1.pl (S83_2 _ _ ⟨rfl, rfl⟩) rfl), ?_⟩
    conv => whnf
    refine ⟨?_, nofun⟩
    refine endi ?_
    rw [decide_eq_false w1]; rfl
theorem S60 (p : Pln) (hn : p.sig.length ≤ 7) (hm : p.steps.length ≤ 1000) (s : Int × Int) : SP 60 [planA p, stA s] (i64 (stateE p s)) false := by
  have h21 := S21 p hm s.1
  have h105 := S105 p hn s.2
  refine sound (d := 2) tok2 mixed2 Tryd.func60 (by kernel_rfl) (by kernel_rfl) ?_
  conv => whnf
  refine ⟨[], by kernel_rfl, ?_⟩
  conv => whnf
  refine .inl ⟨_, _, byX rfl (Sound1.pl (h21) rfl), ?_⟩
  conv => whnf
  refine .inl ⟨_, _, byX rfl (Sound1.pl (h105) rfl), ?_⟩
  conv => whnf
  refine .inl ⟨_, _, byX rfl (Sound1.pl (S106_2 _ _ ⟨rfl, rfl⟩) rfl), ?_⟩
  conv => whnf
  refine ⟨?_, nofun⟩
  rfl
theorem S61 (p : Pln) (hn : p.sig.length ≤ 7) (f : Int × Bool) : SP 61 [planA p, ftA f] (i64 (faultE p f)) false := by
  have h41 := S41 f.1 (-1) ((p.sig.length : Int) - 1)
  refine sound (d := 2) tok2 mixed2 Tryd.func61 (by kernel_rfl) (by kernel_rfl) ?_
  unfold faultE
  conv => whnf
  refine ⟨inK64 (by omega) (by omega), ?_⟩
  conv => whnf
  refine .inl ⟨_, _, byX rfl (Sound1.pl (h41) rfl), ?_⟩
  conv => whnf
  refine ifB_not ?_
  conv => whnf
  refine ifB_dec (fun w1 => ?_) (fun w1 => ?_)
  · conv => whnf
    refine ifB_beq (fun w2 => ?_) (fun w2 => ?_)
    · conv => whnf
      refine ifB_intro (fun w3 => ?_) (fun w3 => ?_)
      · conv => whnf
        refine ⟨?_, nofun⟩
        refine endi ?_
        rw [decide_eq_true w1, decide_eq_false (by omega), w3]; rfl
      · conv => whnf
        refine ⟨?_, nofun⟩
        refine endi ?_
        rw [decide_eq_true w1, w3]; simp [firstOf]
    · conv => whnf
      refine ⟨?_, nofun⟩
      refine endi ?_
      rw [decide_eq_true w1, decide_eq_true (by omega)]; simp [firstOf]
  · conv => whnf
    refine ⟨?_, nofun⟩
    refine endi ?_
    rw [decide_eq_false w1]; rfl
theorem S101 (p : Pln) (hp : FewP p) : SP 101 [planA p] (.tuple [planA p, i64 (checkP p).2]) false := by
  have h := S53 p hp
  refine sound (d := 2) tok2 mixed2 Tryd.func101 (by kernel_rfl) (by kernel_rfl) ?_
  conv => whnf
  refine .inl ⟨_, _, byX rfl (Sound1.pl (h) rfl), ?_⟩
  conv => whnf
  refine ⟨?_, nofun⟩
  exact endPl rfl
theorem S15 (p : Pln) (hp : FewP p) : SP 15 [planA p] (i64 (checkP p).2) false := by
  have h := S57 p hp
  refine sound (d := 2) tok2 mixed2 Tryd.func15 (by kernel_rfl) (by kernel_rfl) ?_
  conv => whnf
  refine .inl ⟨_, _, byX rfl (Sound1.pl (h) rfl), ?_⟩
  conv => whnf
  refine ⟨?_, nofun⟩
  rfl
theorem S67 (p : Pln) (hp : FewP p) (s : Int × Int) (f : Int × Bool) : SP 67 [planA p, stA s, ftA f] (.tuple [planA p, i64 (openE p s f)]) false := by
  have hn := hp.sig
  have hm := hp.steps
  have h101 := S101 p hp
  have h109 := S109 p hn (by omega) s
  have h103 := S103 p hn f
  refine sound (d := 2) tok2 mixed2 Tryd.func67 (by kernel_rfl) (by kernel_rfl) ?_
  conv => whnf
  refine .inl ⟨_, _, byX rfl (h101), ?_⟩
  conv => whnf
  refine ifB_beq (fun w1 => ?_) (fun w1 => ?_)
  · conv => whnf
    refine ⟨[], by kernel_rfl, ?_⟩
    conv => whnf
    refine .inl ⟨_, _, byX rfl (Sound1.pl (h109) rfl), ?_⟩
    conv => whnf
    refine .inl ⟨_, _, byX rfl (Sound1.pl (h103) rfl), ?_⟩
    conv => whnf
    refine .inl ⟨_, _, byX rfl (Sound1.pl (S83_2 _ _ ⟨rfl, rfl⟩) rfl), ?_⟩
    conv => whnf
    refine ⟨?_, nofun⟩
    exact endPl (if_pos w1).symm
  · conv => whnf
    refine ⟨?_, nofun⟩
    exact endPl (if_neg w1).symm
theorem S19 (p : Pln) (hp : FewP p) (s : Int × Int) (f : Int × Bool) : SP 19 [planA p, stA s, ftA f] (i64 (openE p s f)) false := by
  have hn := hp.sig
  have hm := hp.steps
  have h15 := S15 p hp
  have h60 := S60 p hn (by omega) s
  have h61 := S61 p hn f
  refine sound (d := 2) tok2 mixed2 Tryd.func19 (by kernel_rfl) (by kernel_rfl) ?_
  conv => whnf
  refine .inl ⟨_, _, byX rfl (Sound1.pl (h15) rfl), ?_⟩
  conv => whnf
  refine ifB_bne (fun w1 => ?_) (fun w1 => ?_)
  · conv => whnf
    refine ⟨?_, nofun⟩
    exact endi (if_neg w1).symm
  · conv => whnf
    refine .inl ⟨_, _, byX rfl (Sound1.pl (h60) rfl), ?_⟩
    conv => whnf
    refine ifB_bne (fun w2 => ?_) (fun w2 => ?_)
    · conv => whnf
      refine ⟨?_, nofun⟩
      refine endi (Eq.trans ?_ (if_pos w1).symm)
      rw [first2, if_pos w2]
    · conv => whnf
      refine .inl ⟨_, _, byX rfl (Sound1.pl (h61) rfl), ?_⟩
      conv => whnf
      refine ⟨?_, nofun⟩
      refine endi (Eq.trans ?_ (if_pos w1).symm)
      rw [first2, if_neg (not_not_intro w2)]
theorem S20 : SP 20 [] (ftA (-1, false)) false := by
  refine sound (d := 2) tok2 mixed2 Tryd.func20 (by kernel_rfl) (by kernel_rfl) ?_
  conv => whnf
  refine ⟨?_, nofun⟩
  exact ave_agg2 (k := 4) rfl rfl

/-! ### Turns -/

def seenB (w : Int) (f : Int × Bool) : Int := if f.1 < 0 then w else if f.2 then bitI .or .i64 w (shlI .i64 1 f.1) else bitI .andNot .i64 w (shlI .i64 1 f.1)
def lacksB (a b : Int) : Bool := decide (¬ bitI .andNot .i64 b a = 0)
def stp (p : Pln) (s : Int × Int) : Stp := p.steps.getD s.1.toNat stp0
def movedW (p : Pln) (s : Int × Int) : Int := bitI .andNot .i64 (bitI .or .i64 s.2 (stp p s).mon) (stp p s).mof
def turnF (p : Pln) (f : Int × Bool) (s : Int × Int) (c : Int) : (Int × Int) × Int :=
  if lacksB (seenB s.2 f) (stp p s).needs then (((stp p s).trip, s.2), 1)
  else if (stp p s).wait = 0 then (if c = -1 then s else (c, s.2), 1)
  else if lacksB (seenB (movedW p s) f) (stp p s).needs then (((stp p s).trip, movedW p s), (stp p s).time)
  else if lacksB (seenB (movedW p s) f) (stp p s).on || decide (¬ bitI .and .i64 (seenB (movedW p s) f) (stp p s).off = 0) then (((stp p s).back, movedW p s), (stp p s).wait)
  else (((stp p s).next, movedW p s), (stp p s).time)

theorem S90 (w : Int) (f : Int × Bool) : SP 90 [i64 w, ftA f] (i64 (seenB w f)) false := by
  refine sound (d := 2) tok2 mixed2 Tryd.func90 (by kernel_rfl) (by kernel_rfl) ?_
  unfold seenB
  conv => whnf
  refine ifB_dec (fun w1 => ?_) (fun w1 => ?_)
  · conv => whnf
    refine ⟨?_, nofun⟩
    exact endi (if_pos w1).symm
  · conv => whnf
    refine ifB_intro (fun w2 => ?_) (fun w2 => ?_)
    · conv => whnf
      refine ⟨(by omega), ?_⟩
      conv => whnf
      refine ⟨?_, nofun⟩
      exact endi ((if_neg w1).trans (if_pos w2)).symm
    · conv => whnf
      refine ⟨(by omega), ?_⟩
      conv => whnf
      refine ⟨?_, nofun⟩
      exact endi ((if_neg w1).trans (if_neg (by rw [w2]; nofun))).symm
theorem S122 (a b : Int) : SP 122 [i64 a, i64 b] (vb (lacksB a b)) false := by
  refine sound (d := 2) tok2 mixed2 Tryd.func122 (by kernel_rfl) (by kernel_rfl) ?_
  conv => whnf
  refine ⟨?_, nofun⟩
  refine endb ?_
  unfold lacksB
  rw [bne, Bool.eq_iff_iff]
  simp
theorem S119 (p : Pln) (s : Int × Int) (f : Int × Bool) (hs : 0 ≤ s.1 ∧ s.1 < p.steps.length) : SP 119 [planA p, stA s, ftA f] (vb (lacksB (seenB s.2 f) (stp p s).needs)) false := by
  have h90 := S90 s.2 f
  have h122 := S122 (seenB s.2 f) (stp p s).needs
  refine sound (d := 2) tok2 mixed2 Tryd.func119 (by kernel_rfl) (by kernel_rfl) ?_
  conv => whnf
  refine ⟨[], by kernel_rfl, ?_⟩
  conv => whnf
  refine .inl ⟨_, _, byX rfl (Sound1.pl (h90) rfl), ?_⟩
  conv => whnf
  refine ⟨⟨(by omega), (by omega)⟩, ?_⟩
  conv => whnf
  refine .inl ⟨_, _, byX rfl (Sound1.pl (h122) rfl), ?_⟩
  conv => whnf
  refine ⟨?_, nofun⟩
  rfl
theorem endT {p : Pln} {s : Int × Int} {f : Int × Bool} {c a b t : Int} (h : turnF p f s c = ((a, b), t)) : AVE 5 (.tuple [stA (a, b), i64 t]) (.tuple [stA (turnF p f s c).1, i64 (turnF p f s c).2]) := by
  rw [h]
  exact ave_tup2 (ave_agg2 (k := 3) rfl rfl) (ave_i64 3 rfl)
theorem lk_t {a b : Int} (h : ¬ bitI .andNot .i64 b a = 0) : lacksB a b = true := decide_eq_true h
theorem lk_n {a b : Int} (h : ¬ ¬ bitI .andNot .i64 b a = 0) : ¬ lacksB a b = true := fun e => h (of_decide_eq_true e)
theorem lk_f {a b : Int} (h : ¬ ¬ bitI .andNot .i64 b a = 0) : lacksB a b = false := decide_eq_false h
theorem S92 (p : Pln) (s : Int × Int) (f : Int × Bool) (c : Int) (hs : 0 ≤ s.1 ∧ s.1 < p.steps.length) : SP 92 [planA p, stA s, ftA f, i64 c] (.tuple [stA (turnF p f s c).1, i64 (turnF p f s c).2]) false := by
  have h119 := S119 p s f hs
  have h90 := S90 (movedW p s) f
  have h122 := S122 (seenB (movedW p s) f)
  have h70 := S70 (stp p s)
  refine sound (d := 2) tok2 mixed2 Tryd.func92 (by kernel_rfl) (by kernel_rfl) ?_
  conv => whnf
  refine ⟨⟨(by omega), (by omega)⟩, ?_⟩
  conv => whnf
  refine .inl ⟨_, _, byX rfl (Sound1.pl (h119) rfl), ?_⟩
  conv => whnf
  refine ifB_dec (fun w1 => ?_) (fun w1 => ?_)
  · conv => whnf
    refine ⟨?_, nofun⟩
    exact endT (if_pos (lk_t w1))
  · conv => whnf
    refine .inl ⟨_, _, byX rfl (Sound1.pl (h70) rfl), ?_⟩
    conv => whnf
    refine ifB_dec (fun w2 => ?_) (fun w2 => ?_)
    · conv => whnf
      refine ifB_bne (fun w3 => ?_) (fun w3 => ?_)
      · conv => whnf
        refine ⟨?_, nofun⟩
        exact endT ((if_neg (lk_n w1)).trans ((if_pos w2).trans (by rw [if_neg w3])))
      · conv => whnf
        refine ⟨?_, nofun⟩
        exact endT ((if_neg (lk_n w1)).trans ((if_pos w2).trans (by rw [if_pos w3])))
    · conv => whnf
      refine .inl ⟨_, _, byX rfl (Sound1.pl (h90) rfl), ?_⟩
      conv => whnf
      refine .inl ⟨_, _, byX rfl (Sound1.pl (h122 _) rfl), ?_⟩
      conv => whnf
      refine ifB_dec (fun w3 => ?_) (fun w3 => ?_)
      · conv => whnf
        refine ⟨[(2, 3)], by kernel_rfl, ?_⟩
        conv => whnf
        refine ⟨?_, nofun⟩
        exact endT ((if_neg (lk_n w1)).trans ((if_neg w2).trans (if_pos (lk_t w3))))
      · conv => whnf
        refine .inl ⟨_, _, byX rfl (Sound1.pl (h122 _) rfl), ?_⟩
        conv => whnf
        refine ifB_dec (fun w4 => ?_) (fun w4 => ?_)
        · conv => whnf
          refine ⟨[(2, 3)], by kernel_rfl, ?_⟩
          conv => whnf
          refine ⟨?_, nofun⟩
          exact endT ((if_neg (lk_n w1)).trans ((if_neg w2).trans ((if_neg (lk_n w3)).trans (if_pos (Bool.or_eq_true_iff.2 (.inl (lk_t w4)))))))
        · conv => whnf
          refine ifB_bne (fun w5 => ?_) (fun w5 => ?_)
          · conv => whnf
            refine ⟨[(2, 3)], by kernel_rfl, ?_⟩
            conv => whnf
            refine ⟨?_, nofun⟩
            exact endT ((if_neg (lk_n w1)).trans ((if_neg w2).trans ((if_neg (lk_n w3)).trans (if_pos (Bool.or_eq_true_iff.2 (.inr (decide_eq_true w5)))))))
          · conv => whnf
            refine ⟨[(2, 3)], by kernel_rfl, ?_⟩
            conv => whnf
            refine ⟨?_, nofun⟩
            exact endT ((if_neg (lk_n w1)).trans ((if_neg w2).trans ((if_neg (lk_n w3)).trans (if_neg fun e => (Bool.or_eq_true_iff.1 e).elim (lk_n w4) fun e => (of_decide_eq_true e) w5))))
theorem S118 (p : Pln) (s : Int × Int) (f : Int × Bool) (hs : 0 ≤ s.1 ∧ s.1 < p.steps.length) : SP 118 [planA p, stA s, ftA f] (vb (((stp p s).safe && decide ((stp p s).wait = 0)) && !lacksB (seenB s.2 f) (stp p s).needs)) false := by
  have h119 := S119 p s f hs
  have h100 := S100 (stp p s)
  refine sound (d := 2) tok2 mixed2 Tryd.func118 (by kernel_rfl) (by kernel_rfl) ?_
  conv => whnf
  refine ⟨⟨(by omega), (by omega)⟩, ?_⟩
  conv => whnf
  refine .inl ⟨_, _, byX rfl (Sound1.pl (h100) rfl), ?_⟩
  conv => whnf
  refine ifB_intro (fun w1 => ?_) (fun w1 => ?_)
  · conv => whnf
    refine .inl ⟨_, _, byX rfl (Sound1.pl (h119) rfl), ?_⟩
    conv => whnf
    refine ⟨?_, nofun⟩
    refine endb ?_
    rw [w1]; rfl
  · conv => whnf
    refine ⟨?_, nofun⟩
    refine endb ?_
    rw [w1]; rfl

/-- A turn home. -/
def homeTurnF (p : Pln) (f : Int × Bool) (s : Int × Int) : Option ((Int × Int) × Int) :=
  if (stp p s).wait = 0 ∧ (stp p s).safe = false ∧ lacksB (seenB s.2 f) (stp p s).needs = false then
    if (stp p s).exits.length = 0 then none else some (turnF p f s (stp p s).home)
  else some (turnF p f s (-1))
def htA : Option ((Int × Int) × Int) → AV
  | none => .tuple [stA (0, 0), i64 0, vb false]
  | some x => .tuple [stA x.1, i64 x.2, vb true]
theorem endH {p : Pln} {s : Int × Int} {f : Int × Bool} {c : Int} (h : homeTurnF p f s = some (turnF p f s c)) : AVE 5 (.tuple [stA (turnF p f s c).1, i64 (turnF p f s c).2, vb true]) (htA (homeTurnF p f s)) := by
  rw [h]
  exact ave_tup3 (ave_st 2 rfl) rfl rfl
theorem endH0 {p : Pln} {s : Int × Int} {f : Int × Bool} (h : homeTurnF p f s = none) : AVE 5 (.tuple [stA (0, 0), i64 0, vb false]) (htA (homeTurnF p f s)) := by
  rw [h]
  exact ave_tup3 (ave_st 2 rfl) rfl rfl
theorem S81 (p : Pln) (s : Int × Int) (f : Int × Bool) (hs : 0 ≤ s.1 ∧ s.1 < p.steps.length) : SP 81 [planA p, stA s, ftA f] (htA (homeTurnF p f s)) false := by
  have h119 := S119 p s f hs
  have h70 := S70 (stp p s)
  have h92 := S92 p s f (-1) hs
  have h92h := S92 p s f (stp p s).home hs
  refine sound (d := 2) tok2 mixed2 Tryd.func81 (by kernel_rfl) (by kernel_rfl) ?_
  conv => whnf
  refine ⟨⟨(by omega), (by omega)⟩, ?_⟩
  conv => whnf
  refine .inl ⟨_, _, byX rfl (Sound1.pl (h70) rfl), ?_⟩
  conv => whnf
  refine ifB_dec (fun w1 => ?_) (fun w1 => ?_)
  · conv => whnf
    refine ifB_not ?_
    conv => whnf
    refine ifB_intro (fun w2 => ?_) (fun w2 => ?_)
    · conv => whnf
      refine .inl ⟨_, _, byX rfl (Sound1.pl (h92) rfl), ?_⟩
      conv => whnf
      refine ⟨?_, nofun⟩
      exact endH (if_neg fun h => Bool.noConfusion (h.2.1.symm.trans w2))
    · conv => whnf
      refine .inl ⟨_, _, byX rfl (Sound1.pl (h119) rfl), ?_⟩
      conv => whnf
      refine ifB_not ?_
      conv => whnf
      refine ifB_dec (fun w3 => ?_) (fun w3 => ?_)
      · conv => whnf
        refine .inl ⟨_, _, byX rfl (Sound1.pl (h92) rfl), ?_⟩
        conv => whnf
        refine ⟨?_, nofun⟩
        exact endH (if_neg fun h => Bool.noConfusion (h.2.2.symm.trans (lk_t w3)))
      · conv => whnf
        refine ifB_beq (fun w4 => ?_) (fun w4 => ?_)
        · conv => whnf
          refine ⟨?_, nofun⟩
          exact endH0 ((if_pos ⟨w1, w2, lk_f w3⟩).trans (if_pos (Int.ofNat.inj w4)))
        · conv => whnf
          refine .inl ⟨_, _, byX rfl (Sound1.pl (h92h) rfl), ?_⟩
          conv => whnf
          refine ⟨?_, nofun⟩
          exact endH ((if_pos ⟨w1, w2, lk_f w3⟩).trans (if_neg fun e => w4 (congrArg Int.ofNat e)))
  · conv => whnf
    refine .inl ⟨_, _, byX rfl (Sound1.pl (h92) rfl), ?_⟩
    conv => whnf
    refine ⟨?_, nofun⟩
    exact endH (if_neg fun h => w1 h.1)

/-! ### The reference's turns -/

theorem all_range {n : Nat} {P : Nat → Bool} (h : (List.range n).all P = true) {i : Nat} (hi : i < n) : P i = true := List.all_eq_true.1 h i (List.mem_range.2 hi)
theorem bits1' : ((List.range 32).all fun a => (List.range 32).all fun b => lacksB (a : Nat) (b : Nat) == !decide (bitI .and .i64 (a : Nat) (b : Nat) = (b : Nat))) = true := by decide +kernel
theorem bits2' : ((List.range 32).all fun w => (List.range 5).all fun f => decide (bitI .andNot .i64 (w : Nat) (shlI .i64 1 (f : Nat)) + shlI .i64 1 (f : Nat) = bitI .or .i64 (w : Nat) (shlI .i64 1 (f : Nat)))) = true := by decide +kernel
theorem bits3' : ((List.range 6).all fun n => (List.range (2 ^ n)).all fun a => (List.range (2 ^ n)).all fun b =>
    decide (0 ≤ bitI .or .i64 (a : Nat) (b : Nat) ∧ bitI .or .i64 (a : Nat) (b : Nat) < (2 ^ n : Nat) ∧ 0 ≤ bitI .andNot .i64 (a : Nat) (b : Nat) ∧ bitI .andNot .i64 (a : Nat) (b : Nat) < (2 ^ n : Nat))) = true := by decide +kernel
theorem bits1 {a b : Int} (ha : 0 ≤ a ∧ a < 32) (hb : 0 ≤ b ∧ b < 32) : lacksB a b = !decide (bitI .and .i64 a b = b) := by
  have h := all_range (all_range bits1' (i := a.toNat) (by omega)) (i := b.toNat) (by omega)
  rw [show ((a.toNat : Nat) : Int) = a by omega, show ((b.toNat : Nat) : Int) = b by omega] at h
  exact eq_of_beq h
theorem bits2 {w f : Int} (hw : 0 ≤ w ∧ w < 32) (hf : 0 ≤ f ∧ f < 5) : bitI .andNot .i64 w (shlI .i64 1 f) + shlI .i64 1 f = bitI .or .i64 w (shlI .i64 1 f) := by
  have h := all_range (all_range bits2' (i := w.toNat) (by omega)) (i := f.toNat) (by omega)
  rw [show ((w.toNat : Nat) : Int) = w by omega, show ((f.toNat : Nat) : Int) = f by omega] at h
  exact of_decide_eq_true h
theorem pwI {n : Nat} (hn : n ≤ 7) : pw n = ((2 ^ n : Nat) : Int) := by
  match n, hn with
  | 0, _ => rfl | 1, _ => rfl | 2, _ => rfl | 3, _ => rfl | 4, _ => rfl | 5, _ => rfl | 6, _ => rfl | 7, _ => rfl
theorem inS_iff {n : Nat} {x : Int} : inS n x = true ↔ 0 ≤ x ∧ x < pw n := by
  unfold inS
  rw [decide_eq_true_iff]
  omega
theorem inX_iff {m : Nat} {x : Int} : inX m x = true ↔ 0 ≤ x ∧ x < m := by
  unfold inX
  rw [decide_eq_true_iff]
  omega
theorem bits3 {n : Nat} (hn : n ≤ 5) {a b : Int} (ha : inS n a = true) (hb : inS n b = true) : inS n (bitI .or .i64 a b) = true ∧ inS n (bitI .andNot .i64 a b) = true := by
  rw [inS_iff, pwI (by omega)] at ha hb
  have h := all_range (all_range (all_range bits3' (i := n) (by omega)) (i := a.toNat) (by omega)) (i := b.toNat) (by omega)
  rw [show ((a.toNat : Nat) : Int) = a by omega, show ((b.toNat : Nat) : Int) = b by omega] at h
  have h := of_decide_eq_true h
  rw [inS_iff, inS_iff, pwI (by omega)]
  omega
theorem inS_32 {n : Nat} (hn : n ≤ 5) {x : Int} (h : inS n x = true) : 0 ≤ x ∧ x < 32 := by
  rw [inS_iff, pwI (by omega)] at h
  have : (2 ^ n : Nat) ≤ 2 ^ 5 := Nat.pow_le_pow_right (by decide) hn
  omega

/-- What holds of valid plans. -/
structure Good (p : Pln) : Prop where
  few : FewP p
  n : p.sig.length ≤ 5
  m0 : 0 < p.steps.length
  m : p.steps.length ≤ 10
  start : inS p.sig.length p.start = true
  step : ∀ k, k < p.steps.length → stepAt p k = 0
  safe : (p.steps.getD 0 stp0).safe = true ∧ (p.steps.getD 0 stp0).wait = 0
theorem Good.of {p : Pln} (hp : FewP p) (h : (checkP p).2 = 0) : Good p := by
  unfold checkP at h
  split at h
  · cases h
  rename_i h1
  split at h
  · rename_i h2; exact absurd h h2
  split at h
  · rename_i h2; exact absurd h h2
  rename_i hh
  have hh := Decidable.of_not_not hh
  split at h
  · rename_i h2; exact absurd h h2
  rename_i h3
  have h3 := Decidable.of_not_not h3
  have hl := head_len hh
  rw [head_form] at hh
  split at hh
  · rename_i h4; exact absurd hh h4
  rename_i h4
  have h4 := Decidable.of_not_not h4
  split at hh
  · cases hh
  split at hh
  · cases hh
  refine ⟨hp, by omega, hl, by omega, ?_, scan_zero h3, ?_⟩
  · unfold setE at h4
    split at h4
    · assumption
    · cases h4
  · have h : (if ((p.steps.getD 0 stp0).safe && decide ((p.steps.getD 0 stp0).wait = 0)) = true then (0 : Int) else 20) = 0 := h
    split at h
    · rename_i h5
      rw [Bool.and_eq_true, decide_eq_true_iff] at h5
      exact h5
    · cases h
/-- What holds of the steps of valid plans. -/
structure GoodS (n m : Nat) (s : Stp) : Prop where
  needs : inS n s.needs = true
  trip : inX m s.trip = true
  w0 : 0 ≤ s.wait
  w1 : s.wait ≤ 10000
  steady : s.wait = 0 → (∀ i, i < s.exits.length → inX m (s.exits.getD i 0) = true) ∧ (hasI s.exits s.home = true ∨ s.exits.length = 0)
  moving : s.wait ≠ 0 → inS n s.on = true ∧ inS n s.off = true ∧ inS n s.mon = true ∧ inS n s.mof = true ∧ 1 ≤ s.time ∧ s.time ≤ s.wait ∧ inX m s.next = true ∧ inX m s.back = true
theorem setE0 {n : Nat} {x : Int} (h : setE n x = 0) : inS n x = true := by
  unfold setE at h
  split at h
  · assumption
  · cases h
theorem idxE0 {n : Nat} {x : Int} (h : idxE n x = 0) : inX n x = true := by
  unfold idxE at h
  split at h
  · assumption
  · cases h
theorem first4_iff {a b c d : Int} : firstOf [a, b, c, d] = 0 ↔ a = 0 ∧ b = 0 ∧ c = 0 ∧ d = 0 := by
  unfold firstOf
  by_cases h : a = 0
  · rw [if_pos h, first3_iff]; simp [h]
  · rw [if_neg h]; simp [h]
theorem first2_iff {a b : Int} : firstOf [a, b] = 0 ↔ a = 0 ∧ b = 0 := by
  rw [first2]
  by_cases h : a = 0 <;> simp [h]
theorem Good.at {p : Pln} (h : Good p) {k : Nat} (hk : k < p.steps.length) : GoodS p.sig.length p.steps.length (p.steps.getD k stp0) := by
  have hs : _ = _ := (step_form p (p.steps.getD k stp0) _).symm.trans (h.step k hk)
  split at hs
  · rename_i h1; exact absurd hs h1
  rename_i h1
  have h1 := Decidable.of_not_not h1
  rw [first3_iff] at h1
  split at hs
  case isFalse => cases hs
  rename_i hw
  refine ⟨setE0 h1.2.1, idxE0 h1.2.2, hw.1, hw.2, fun h0 => ?_, fun h0 => ?_⟩
  · rw [if_pos h0] at hs
    unfold steadyE at hs
    split at hs
    · cases hs
    split at hs
    · rename_i h2; exact absurd hs h2
    rename_i h2
    have h2 := scan_zero (Decidable.of_not_not h2)
    refine ⟨fun i hi => ?_, ?_⟩
    · have h3 := h2 i hi
      unfold exAt at h3
      split at h3
      · rename_i h4; exact absurd h3 h4
      · rename_i h4; exact idxE0 (Decidable.of_not_not h4)
    · split at hs
      · rename_i h4
        rw [Bool.or_eq_true, Bool.and_eq_true, decide_eq_true_iff] at h4
        exact h4.imp id And.left
      · cases hs
  · rw [if_neg h0, moving_form] at hs
    split at hs
    · cases hs
    split at hs
    · cases hs
    split at hs
    · cases hs
    split at hs
    · rename_i h2; exact absurd hs h2
    rename_i h2
    have h2 := Decidable.of_not_not h2
    rw [first4_iff] at h2
    split at hs
    · cases hs
    split at hs
    · cases hs
    split at hs
    · rename_i ht
      rw [first2_iff] at hs
      exact ⟨setE0 h2.1, setE0 h2.2.1, setE0 h2.2.2.1, setE0 h2.2.2.2, ht.1, ht.2, idxE0 hs.1, idxE0 hs.2⟩
    · cases hs
end Go.Tr

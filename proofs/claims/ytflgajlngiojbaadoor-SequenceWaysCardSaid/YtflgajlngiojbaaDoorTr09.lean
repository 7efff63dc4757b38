/- Plain laws of chapter 7: the order of ways, the least way. Conditions: none. -/
import Derived.Test.YtflgajlngiojbaaDoorTr08
set_option linter.unusedSectionVars false
set_option linter.unnecessarySimpa false
set_option linter.unusedVariables false
set_option linter.unusedSimpArgs false

namespace Go.Tr
open Go Go.Proofs
set_option maxRecDepth 20000
set_option maxHeartbeats 8000000

/-- A way: its commands, its time. -/
abbrev Way := List Int × Int
theorem cmpI_self (a : Int) : cmpI a a = 0 := by unfold cmpI; rw [if_neg (by omega), if_neg (by omega)]
theorem cmpI_zero {a b : Int} : cmpI a b = 0 ↔ a = b := by
  unfold cmpI
  split
  · constructor
    · intro h; cases h
    · intro h; omega
  · split
    · constructor
      · intro h; cases h
      · intro h; omega
    · constructor
      · intro h; omega
      · intro _; rfl
theorem cmpI_neg {a b : Int} : cmpI a b < 0 ↔ a < b := by
  unfold cmpI
  split
  · exact ⟨fun _ => by assumption, fun _ => by decide⟩
  · split
    · exact ⟨fun h => by omega, fun h => by omega⟩
    · exact ⟨fun h => by omega, fun h => by omega⟩
theorem cmpL_self : ∀ l : List Int, cmpL l l = 0
  | [] => rfl
  | a :: l => by unfold cmpL; rw [cmpI_self, if_neg (by simp), cmpL_self l]
theorem cmpL_zero : ∀ {l m : List Int}, cmpL l m = 0 → l = m
  | [], [], _ => rfl
  | [], _ :: _, h => by cases h
  | _ :: _, [], h => by cases h
  | a :: l, b :: m, h => by
    unfold cmpL at h
    split at h
    · rename_i h1; exact absurd h h1
    · rename_i h1
      rw [cmpI_zero.1 (Decidable.of_not_not h1), cmpL_zero h]
theorem cmpL_cons {a b : Int} {l m : List Int} : cmpL (a :: l) (b :: m) < 0 ↔ a < b ∨ a = b ∧ cmpL l m < 0 := by
  conv => lhs; unfold cmpL
  by_cases h : cmpI a b = 0
  · rw [if_neg (not_not_intro h)]
    have := cmpI_zero.1 h
    exact ⟨fun h2 => .inr ⟨this, h2⟩, fun h2 => by rcases h2 with h2 | h2; · omega
                                                   · exact h2.2⟩
  · rw [if_pos h, cmpI_neg]
    exact ⟨.inl, fun h2 => by rcases h2 with h2 | h2; · exact h2
                              · exact absurd (cmpI_zero.2 h2.1) h⟩
theorem cmpL_trans : ∀ {l m n : List Int}, cmpL l m < 0 → cmpL m n < 0 → cmpL l n < 0
  | [], [], _, h, _ => by cases h
  | [], _ :: _, [], _, h => by cases h
  | [], _ :: _, _ :: _, _, _ => by show (-1 : Int) < 0; decide
  | _ :: _, [], _, h, _ => by cases h
  | _ :: _, _ :: _, [], _, h => by cases h
  | a :: l, b :: m, c :: n, h1, h2 => by
    rw [cmpL_cons] at h1 h2 ⊢
    rcases h1 with h1 | ⟨h1, h3⟩
    · rcases h2 with h2 | ⟨h2, _⟩
      · exact .inl (by omega)
      · exact .inl (by omega)
    · rcases h2 with h2 | ⟨h2, h4⟩
      · exact .inl (by omega)
      · exact .inr ⟨by omega, cmpL_trans h3 h4⟩
theorem cmpL_total : ∀ (l m : List Int), cmpL l m < 0 ∨ l = m ∨ cmpL m l < 0
  | [], [] => .inr (.inl rfl)
  | [], _ :: _ => .inl (by show (-1 : Int) < 0; decide)
  | _ :: _, [] => .inr (.inr (by show (-1 : Int) < 0; decide))
  | a :: l, b :: m => by
    rw [cmpL_cons, cmpL_cons]
    rcases Int.lt_trichotomy a b with h | h | h
    · exact .inl (.inl h)
    · rcases cmpL_total l m with h2 | h2 | h2
      · exact .inl (.inr ⟨h, h2⟩)
      · exact .inr (.inl (by rw [h, h2]))
      · exact .inr (.inr (.inr ⟨h.symm, h2⟩))
    · exact .inr (.inr (.inl h))

/-- Is a way less than another one (in time, then in commands)? -/
def wlt (a b : Way) : Bool := decide (cmpL (a.2 :: a.1) (b.2 :: b.1) < 0)
theorem wlt_irr (a : Way) : wlt a a = false := by
  unfold wlt
  rw [cmpL_self]; rfl
theorem wlt_trans {a b c : Way} (h1 : wlt a b = true) (h2 : wlt b c = true) : wlt a c = true :=
  decide_eq_true (cmpL_trans (of_decide_eq_true h1) (of_decide_eq_true h2))
theorem wlt_total (a b : Way) : wlt a b = true ∨ a = b ∨ wlt b a = true := by
  rcases cmpL_total (a.2 :: a.1) (b.2 :: b.1) with h | h | h
  · exact .inl (decide_eq_true h)
  · injection h with h1 h2
    exact .inr (.inl (Prod.ext h2 h1))
  · exact .inr (.inr (decide_eq_true h))
theorem wlt_first (a b : Way) : wlt a b = decide (firstOf [cmpI a.2 b.2, cmpL a.1 b.1] < 0) := by
  unfold wlt
  refine decide_eq_decide.2 ?_
  rw [cmpL_cons, first2]
  by_cases h : cmpI a.2 b.2 = 0
  · rw [if_neg (not_not_intro h)]
    have := cmpI_zero.1 h
    exact ⟨fun h2 => by rcases h2 with h2 | h2; · omega
                        · exact h2.2, fun h2 => .inr ⟨this, h2⟩⟩
  · rw [if_pos h, cmpI_neg]
    exact ⟨fun h2 => by rcases h2 with h2 | h2; · exact h2
                        · exact absurd (cmpI_zero.2 h2.1) h, .inl⟩
theorem wlt_time {a b : Way} (h : wlt a b = true) : a.2 ≤ b.2 := by
  have := of_decide_eq_true h
  rw [cmpL_cons] at this
  omega

/-! ### The least way -/

def better (o : Option Way) (w : Way) : Option Way := match o with | none => some w | some v => if wlt w v then some w else some v
def minL (l : List Way) : Option Way := l.foldl better none
theorem minL_snoc (l : List Way) (w : Way) : minL (l ++ [w]) = better (minL l) w := by
  unfold minL
  rw [List.foldl_append]; rfl
/-- The least one of some ways. -/
def IsMin (l : List Way) (w : Way) : Prop := w ∈ l ∧ ∀ v ∈ l, wlt v w = false
theorem IsMin.unique {l : List Way} {a b : Way} (h1 : IsMin l a) (h2 : IsMin l b) : a = b := by
  rcases wlt_total a b with h | h | h
  · rw [h2.2 a h1.1] at h; cases h
  · exact h
  · rw [h1.2 b h2.1] at h; cases h
theorem rev_ind {P : List Way → Prop} (h0 : P []) (h1 : ∀ l w, P l → P (l ++ [w])) (l : List Way) : P l := by
  have : ∀ m : List Way, P m.reverse := fun m => by
    induction m with
    | nil => exact h0
    | cons x r ih => rw [List.reverse_cons]; exact h1 _ _ ih
  have := this l.reverse
  rwa [List.reverse_reverse] at this
theorem minL_spec (l : List Way) : (l = [] ∧ minL l = none) ∨ ∃ w, minL l = some w ∧ IsMin l w := by
  refine rev_ind (P := fun l => (l = [] ∧ minL l = none) ∨ ∃ w, minL l = some w ∧ IsMin l w) (.inl ⟨rfl, rfl⟩) (fun l w ih => .inr ?_) l
  rw [minL_snoc]
  rcases ih with ⟨h1, h2⟩ | ⟨v, h1, h2⟩
  · rw [h2, h1]
    exact ⟨w, rfl, by simp, fun v hv => (show v = w by simpa using hv) ▸ wlt_irr v⟩
  · rw [h1]
    show ∃ w_1, (if wlt w v then some w else some v) = some w_1 ∧ _
    cases hw : wlt w v with
    | true =>
      refine ⟨w, by simp, by simp, fun u hu => ?_⟩
      rcases List.mem_append.1 hu with h | h
      · cases hu2 : wlt u w with
        | false => rfl
        | true => rw [← h2.2 u h, wlt_trans hu2 hw]
      · rw [List.mem_singleton.1 h]; exact wlt_irr w
    | false =>
      refine ⟨v, by simp, List.mem_append.2 (.inl h2.1), fun u hu => ?_⟩
      rcases List.mem_append.1 hu with h | h
      · exact h2.2 u h
      · rw [List.mem_singleton.1 h]; exact hw
theorem minL_some {l : List Way} {w : Way} : minL l = some w ↔ IsMin l w := by
  rcases minL_spec l with ⟨rfl, h⟩ | ⟨v, h1, h2⟩
  · rw [h]
    exact ⟨fun h => (by cases h), fun h => (by cases h.1)⟩
  · rw [h1]
    exact ⟨fun h => (by cases h; exact h2), fun h => (by rw [h2.unique h])⟩
theorem minL_none {l : List Way} : minL l = none ↔ l = [] := by
  rcases minL_spec l with ⟨rfl, h⟩ | ⟨v, h1, h2⟩
  · simp [h]
  · rw [h1]
    exact ⟨fun h => (by cases h), fun h => by rw [h] at h2; cases h2.1⟩
theorem minL_congr {l m : List Way} (h : ∀ w, w ∈ l ↔ w ∈ m) : minL l = minL m := by
  cases hl : minL l with
  | none =>
    rw [minL_none] at hl
    cases hm : m with
    | nil => rfl
    | cons x r => have := (h x).2 (by rw [hm]; simp); rw [hl] at this; cases this
  | some w =>
    have h1 := minL_some.1 hl
    exact (minL_some.2 ⟨(h w).1 h1.1, fun v hv => h1.2 v ((h v).2 hv)⟩).symm

/-! ### Layers: ways by the states that they lead to -/

abbrev Ent := S2 × Way
/-- The ways to a state. -/
def waysTo (L : List Ent) (s : S2) : List Way := (L.filter fun e => e.1 = s).map (·.2)
/-- The least way to a state. -/
def least (L : List Ent) (s : S2) : Option Way := minL (waysTo L s)
theorem mem_waysTo {L : List Ent} {s : S2} {w : Way} : w ∈ waysTo L s ↔ (s, w) ∈ L := by
  unfold waysTo
  rw [List.mem_map]
  constructor
  · rintro ⟨e, h1, rfl⟩
    have h2 := List.mem_filter.1 h1
    have h3 : e.1 = s := by simpa using h2.2
    rw [← h3]; exact h2.1
  · intro h
    exact ⟨(s, w), List.mem_filter.2 ⟨h, by simp⟩, rfl⟩
theorem least_congr {L M : List Ent} (h : ∀ e, e ∈ L ↔ e ∈ M) (s : S2) : least L s = least M s :=
  minL_congr fun w => by rw [mem_waysTo, mem_waysTo]; exact h _
theorem least_snoc (L : List Ent) (e : Ent) (s : S2) : least (L ++ [e]) s = if e.1 = s then better (least L s) e.2 else least L s := by
  unfold least waysTo
  rw [List.filter_append, List.map_append]
  by_cases h : e.1 = s
  · rw [if_pos h]
    have : List.filter (fun e => decide (e.1 = s)) [e] = [e] := by simp [h]
    rw [this]
    exact minL_snoc _ _
  · rw [if_neg h]
    have : List.filter (fun e => decide (e.1 = s)) [e] = [] := by simp [h]
    rw [this]; simp
def dedupS : List S2 → List S2
  | [] => []
  | x :: r => if x ∈ dedupS r then dedupS r else x :: dedupS r
theorem mem_dedupS {x : S2} : ∀ {l : List S2}, x ∈ dedupS l ↔ x ∈ l
  | [] => Iff.rfl
  | y :: r => by
    unfold dedupS
    split
    · rename_i h
      rw [mem_dedupS, List.mem_cons]
      exact ⟨.inr, fun h2 => h2.elim (fun e => by rw [e]; exact mem_dedupS.1 h) id⟩
    · rw [List.mem_cons, List.mem_cons, mem_dedupS]
/-- One entry for each state: the least way. -/
def norm (L : List Ent) : List Ent := (dedupS (L.map (·.1))).map fun s => (s, (least L s).getD ([], 0))
theorem least_isSome {L : List Ent} {s : S2} : (least L s).isSome = true ↔ s ∈ L.map (·.1) := by
  constructor
  · intro h
    obtain ⟨w, hw⟩ := Option.isSome_iff_exists.1 h
    exact List.mem_map.2 ⟨(s, w), mem_waysTo.1 (minL_some.1 hw).1, rfl⟩
  · intro h
    obtain ⟨e, h1, h2⟩ := List.mem_map.1 h
    cases hl : least L s with
    | some w => rfl
    | none =>
      have : e.2 ∈ waysTo L s := mem_waysTo.2 (by rw [← h2]; exact h1)
      rw [minL_none.1 hl] at this; cases this
theorem mem_norm {L : List Ent} {e : Ent} : e ∈ norm L ↔ least L e.1 = some e.2 := by
  unfold norm
  rw [List.mem_map]
  constructor
  · rintro ⟨s, h1, rfl⟩
    have h2 := least_isSome.2 (mem_dedupS.1 h1)
    obtain ⟨w, hw⟩ := Option.isSome_iff_exists.1 h2
    show least L s = some ((least L s).getD ([], 0))
    rw [hw]; rfl
  · intro h
    refine ⟨e.1, mem_dedupS.2 (least_isSome.1 (by rw [h]; rfl)), ?_⟩
    rw [h]; rfl
end Go.Tr

/- Contracts of chapter 7: ways, the best ways with one command more. Conditions: none. -/
namespace Go.Tr
open Go Go.Proofs
set_option maxRecDepth 20000
set_option maxHeartbeats 8000000

abbrev wayA (w : Way) : AV := .agg [ints w.1, i64 w.2]
/-- The ways of a map, by the states to which they lead. -/
def wayM (B : S2 → Option Way) (v : Value) : AV := match decS v with | some s => wayA ((B s).getD ([], 0)) | none => wayA ([], 0)
abbrev kkS : KK := .agg [.int .i64, .int .i64]
abbrev hasW (B : S2 → Option Way) : Value → Bool := hasM fun s => (B s).isSome
abbrev mapA (B : S2 → Option Way) : AV := .rmap kkS 134 (hasW B) (wayM B)

theorem S71 (a b : Way) (ha : a.1.length ≤ 1000) (hb : b.1.length ≤ 1000) : SP 71 [wayA a, wayA b] (vb (wlt a b)) false := by
  have h115 := S115 a.2 b.2
  have h116 := S116 a.1 b.1 (by omega) (by omega)
  refine sound (d := 2) tok2 mixed2 Tryd.func71 (by kernel_rfl) (by kernel_rfl) ?_
  conv => whnf
  refine ⟨[], by kernel_rfl, ?_⟩
  conv => whnf
  refine .inl ⟨_, _, byX rfl (Sound1.pl (h115) rfl), ?_⟩
  conv => whnf
  refine .inl ⟨_, _, byX rfl (Sound1.pl (h116) rfl), ?_⟩
  conv => whnf
  refine .inl ⟨_, _, byX rfl (Sound1.pl (S114_2 _ _ ⟨rfl, rfl⟩) rfl), ?_⟩
  conv => whnf
  refine ⟨?_, nofun⟩
  rw [wlt_first]
  rfl
theorem S71n (a b : Way) (ha : a.1.length ≤ 1000) (hb : b.1.length ≤ 1000) {n : Nat} {f : Nat → List AV} (hn : n = a.1.length) (hf : ∀ i, i < n → f i = [i64 (a.1.getD i 0)]) : SP 71 [.agg [.rslice 1 n f, i64 a.2], wayA b] (vb (wlt a b)) false := by
  refine (S71 a b ha hb).argsD rfl fun i y x hy hx => ?_
  match i, hy, hx with
  | 0, hy, hx =>
    cases hy; cases hx
    refine .inr ⟨3, rfl, fun j x y hx hy => ?_⟩
    match j, hx, hy with
    | 0, hx, hy => cases hx; cases hy; exact .inr (AVF_rows hn hf 1)
    | 1, hx, hy => cases hx; cases hy; exact .inl rfl
  | 1, hy, hx => cases hy; cases hx; exact .inl rfl
theorem S87 (l : List Int) (hl : l.length ≤ 1000000) : SP 87 [ints l] (ints l) true := by
  refine sound (d := 2) tok2 mixed2 Tryd.func87 (by kernel_rfl) (by kernel_rfl) ?_
  rintro (_ | _) w1
  · conv => whnf
    refine .inl ?_
    conv => whnf
    refine ⟨⟨(by omega), (by show _ * (8 + 1) ≤ _; omega)⟩, ?_⟩
    conv => whnf
    refine ⟨?_, fun _ => ⟨rfl, ?_⟩⟩
    · exact ⟨rfl, Nat.zero_add _, fun i hi => rfl⟩
    · exact ⟨fun i _ x hx => ⟨_, List.mem_singleton.1 hx⟩, trivial⟩
  · conv => whnf
    refine ⟨?_, fun _ => ⟨rfl, ?_⟩⟩
    · cases l with
      | nil => rfl
      | cons x r => exact absurd (w1 (Nat.zero_lt_succ _)) nofun
    · exact ⟨fun i _ x hx => ⟨_, List.mem_singleton.1 hx⟩, trivial⟩

/-! ### What a command comes to -/

section
variable {stop : S2 → Bool} {step : S2 → Option (S2 × Int)} {Ok : S2 → Prop}
theorem goA_spec (hOk : ∀ s x, Ok s → step s = some x → Ok x.1 ∧ 1 ≤ x.2 ∧ x.2 ≤ 10000) (s0 : S2) : ∀ (n : Nat) (s : S2) (l : List S2) (t : Int) (r : List S2 × Int), l.getLastD s0 = s → Ok s → (∀ x ∈ l, Ok x) → goA stop step n s l t = some r →
    stop (r.1.getLastD s0) = true ∧ Ok (r.1.getLastD s0) ∧ (∀ x ∈ r.1, Ok x) ∧ t ≤ r.2 ∧ r.2 ≤ t + 10000 * n ∧ l.length ≤ r.1.length ∧ r.1.length ≤ l.length + n
  | 0, s, l, t, r, _, _, _, h => by cases h
  | n + 1, s, l, t, r, hl, hs, ho, h => by
    cases hst : stop s with
    | true =>
      rw [goA_stop hst] at h
      cases h
      exact ⟨by rw [hl]; exact hst, by rw [hl]; exact hs, ho, Int.le_refl _, by show t ≤ t + _; omega, Nat.le_refl _, Nat.le_add_right ..⟩
    | false =>
      cases hx : step s with
      | none => rw [goA_stuck hst hx] at h; cases h
      | some x =>
        rw [goA_step hst hx] at h
        obtain ⟨g1, g2, g3⟩ := hOk s x hs hx
        have := goA_spec hOk s0 n x.1 (l ++ [x.1]) (t + x.2) r (by simp) g1 (fun y hy => (List.mem_append.1 hy).elim (ho y) fun h => by rw [List.mem_singleton.1 h]; exact g1) h
        refine ⟨this.1, this.2.1, this.2.2.1, by omega, by omega, ?_, ?_⟩
        · have := this.2.2.2.2.2.1; simp at this; omega
        · have := this.2.2.2.2.2.2; simp at this; omega
end
theorem stepS_all {p : Pln} (hg : Good p) (f : Int × Bool) : ∀ s x, OkS p s → stepS p f s = some x → OkS p x.1 ∧ 1 ≤ x.2 ∧ x.2 ≤ 10000 := fun s x hs hx => by
  cases hx
  exact turn_ok hg hs (.inl rfl)
theorem stepH_all {p : Pln} (hg : Good p) (f : Int × Bool) : ∀ s x, OkS p s → homeTurnF p f s = some x → OkS p x.1 ∧ 1 ≤ x.2 ∧ x.2 ≤ 10000 := fun _ _ hs hx => home_ok hg hs hx
abbrev lastOf (l : List S2) : S2 := l.getLastD (0, 0)
theorem lastOf_get {l : List S2} (h : l ≠ []) : l.getD (l.length - 1) (0, 0) = lastOf l := by
  cases l with
  | nil => exact absurd rfl h
  | cons a r => simp [List.getD_eq_getElem?_getD, lastOf, List.getLastD_eq_getLast?, List.getLast?_eq_getElem?]
structure CmdOk (p : Pln) (r : List S2 × Int) : Prop where
  ne : r.1 ≠ []
  steady : (stp p (lastOf r.1)).wait = 0
  ok : OkS p (lastOf r.1)
  all : ∀ x ∈ r.1, OkS p x
  t1 : 1 ≤ r.2
  t2 : r.2 ≤ 4000000
  len : r.1.length ≤ 1000
theorem command_ok {p : Pln} (hg : Good p) {f : Int × Bool} {s : S2} {c : Int} (hs : OkS p s) (hc : OkC p c) {r : List S2 × Int} (h : commandF p f s c = some r) : CmdOk p r := by
  have h1 := turn_ok hg hs (f := f) hc
  have hA := allN_le hg
  unfold commandF settledF at h
  have := goA_spec (stepS_all hg f) (0, 0) _ _ _ _ r (by simp) h1.1 (fun x hx => by rw [List.mem_singleton.1 hx]; exact h1.1) h
  obtain ⟨g1, g2, g3, g4, g5, g6, g7⟩ := this
  refine ⟨fun e => by rw [e] at g6; simp at g6, of_decide_eq_true g1, g2, g3, by omega, by omega, by simp at g7; omega⟩

/-! ### Ways with one command more -/

abbrev noF : Int × Bool := (-1, false)
def stepWay (p : Pln) (e : Ent) (c : Int) : Option Ent := match commandF p noF e.1 c with | none => none | some r => some (lastOf r.1, (e.2.1 ++ [c], e.2.2 + r.2))
def extE (p : Pln) (e : Ent) : List Ent := (stp p e.1).exits.filterMap (stepWay p e)
def ext (p : Pln) (L : List Ent) : List Ent := L.flatMap (extE p)
theorem ext_snoc (p : Pln) (D : List Ent) (e : Ent) : ext p (D ++ [e]) = ext p D ++ extE p e := by simp [ext]
theorem ext_congr {p : Pln} {L M : List Ent} (h : ∀ e, e ∈ L ↔ e ∈ M) (e : Ent) : e ∈ ext p L ↔ e ∈ ext p M := by
  simp only [ext, List.mem_flatMap, h]
/-- What holds of the ways of one round. -/
def LOk (p : Pln) (k : Nat) (L : List Ent) : Prop := ∀ e ∈ L, OkS p e.1 ∧ (stp p e.1).wait = 0 ∧ e.2.1.length = k ∧ 0 ≤ e.2.2 ∧ e.2.2 ≤ 4000000 * (k : Int)
theorem stepWay_ok {p : Pln} (hg : Good p) {k : Nat} {e : Ent} (he : OkS p e.1 ∧ (stp p e.1).wait = 0 ∧ e.2.1.length = k ∧ 0 ≤ e.2.2 ∧ e.2.2 ≤ 4000000 * (k : Int)) {c : Int} (hc : c ∈ (stp p e.1).exits) {x : Ent} (h : stepWay p e c = some x) :
    OkS p x.1 ∧ (stp p x.1).wait = 0 ∧ x.2.1.length = k + 1 ∧ 0 ≤ x.2.2 ∧ x.2.2 ≤ 4000000 * ((k + 1 : Nat) : Int) ∧ e.2.2 < x.2.2 := by
  unfold stepWay at h
  cases hr : commandF p noF e.1 c with
  | none => rw [hr] at h; cases h
  | some r =>
    rw [hr] at h
    cases h
    have := command_ok hg he.1 (.inr (exit_ok hg he.1 he.2.1 (hasI_mem.2 hc))) hr
    have h1 := this.t1
    have h2 := this.t2
    obtain ⟨_, _, h3, h4, h5⟩ := he
    exact ⟨this.ok, this.steady, by simp [h3], by show 0 ≤ e.2.2 + r.2; omega, by show e.2.2 + r.2 ≤ _; omega, by show e.2.2 < e.2.2 + r.2; omega⟩
theorem ext_ok {p : Pln} (hg : Good p) {k : Nat} {L : List Ent} (h : LOk p k L) : LOk p (k + 1) (ext p L) := fun x hx => by
  obtain ⟨e, he, hx⟩ := List.mem_flatMap.1 hx
  obtain ⟨c, hc, hx⟩ := List.mem_filterMap.1 hx
  have := stepWay_ok hg (h e he) hc hx
  exact ⟨this.1, this.2.1, this.2.2.1, this.2.2.2.1, this.2.2.2.2.1⟩
theorem least_mem {L : List Ent} {s : S2} {w : Way} (h : least L s = some w) : (s, w) ∈ L := mem_waysTo.1 (minL_some.1 h).1
theorem norm_mem {L : List Ent} {e : Ent} (h : e ∈ norm L) : e ∈ L := least_mem (mem_norm.1 h)
theorem norm_ok {p : Pln} {k : Nat} {L : List Ent} (h : LOk p k L) : LOk p k (norm L) := fun e he => h e (norm_mem he)

/-! ### Maps of ways -/

theorem hasW_put (M : List Ent) (s : S2) (w : Way) (v : Value) : Bool.or (hasW (least M) v) (opEv.keyEq v (keyV s)) = hasW (least (M ++ [(s, w)])) v := by
  rw [keyD, hasW, hasM_or]
  congr 1
  funext x
  rw [least_snoc]
  by_cases h : s = x
  · subst h
    cases least M s <;> simp [better]
    split <;> rfl
  · have : ¬ x = s := fun e => h e.symm
    simp [h, this]
theorem wayM_put (M : List Ent) (s : S2) (w : Way) (hb : better (least M s) w = some w) {X : AV} (hX : AVE 5 X (wayA w)) (v : Value) : AVE 5 (bif opEv.keyEq v (keyV s) then X else wayM (least M) v) (wayM (least (M ++ [(s, w)])) v) := by
  rw [keyD]
  unfold hasM wayM
  cases decS v with
  | none => exact ave_agg2 (k := 4) ⟨rfl, rfl, fun _ _ => rfl⟩ rfl
  | some x =>
    show AVE 5 (bif decide (x = s) then X else wayA ((least M x).getD ([], 0))) (wayA ((least (M ++ [(s, w)]) x).getD ([], 0)))
    rw [least_snoc]
    by_cases h : x = s
    · subst h
      rw [decide_eq_true rfl, if_pos rfl, hb]
      exact hX
    · have : ¬ s = x := fun e => h e.symm
      rw [decide_eq_false h, if_neg this]
      exact ave_agg2 (k := 4) ⟨rfl, rfl, fun _ _ => rfl⟩ rfl
theorem hasW_same (M : List Ent) (s : S2) (w v0 : Way) (h : least M s = some v0) (hb : wlt w v0 = false) : least (M ++ [(s, w)]) = least M := by
  funext x
  rw [least_snoc]
  split
  · rename_i e
    cases e
    rw [h]
    simp [better, hb]
  · rfl
/-- The least way to a state to which one leads. -/
abbrev wAt (L : List Ent) (s : S2) : Way := (least L s).getD ([], 0)
theorem app_row (l : List Int) (c : Int) (i : Nat) (hi : i < l.length + 1) : (if i < l.length then [i64 (l.getD (0 + i) 0)] else List.take 1 (List.drop ((i - l.length) * 1) [i64 c])) = [i64 ((l ++ [c]).getD i 0)] := by
  rw [Nat.zero_add]
  by_cases h : i < l.length
  · rw [if_pos h]; simp [List.getD_eq_getElem?_getD, h, List.getElem?_append_left h]
  · have : i = l.length := by omega
    subst this
    rw [if_neg h]; simp [List.getD_eq_getElem?_getD]
theorem way_ave {l : List Int} {n : Nat} {f : Nat → List AV} {t : Int} (hn : n = l.length) (hf : ∀ i, i < n → f i = [i64 (l.getD i 0)]) : AVE 5 (.agg [.rslice 1 n f, i64 t]) (wayA (l, t)) := ave_agg2 (k := 4) ⟨rfl, hn, hf⟩ rfl
theorem hasW_nil (v : Value) : hasW (least []) v = false := by
  unfold hasW hasM
  cases decS v <;> rfl
theorem wayM_nil (v : Value) : AVE 5 (.agg [.eslice, i64 0]) (wayM (least []) v) := by
  unfold wayM
  cases decS v <;> exact ave_agg2 (k := 4) rfl rfl
theorem wayM_at {B : S2 → Option Way} {s : S2} {w : Way} (h : B s = some w) : wayM B (keyV s) = wayA w := by
  show wayA ((B s).getD ([], 0)) = _
  rw [h]; rfl
theorem seen_put {sn : Value → Bool} {D : List Ent} {e : Ent} (hs : ∀ s, sn (keyV s) = true ↔ s ∈ D.map (·.1)) (s : S2) : Bool.or (sn (keyV s)) (opEv.keyEq (keyV s) (keyV e.1)) = true ↔ s ∈ (D ++ [e]).map (·.1) := by
  rw [keyD, List.map_append, List.mem_append, Bool.or_eq_true, hs]
  show _ ∨ decide (s = e.1) = true ↔ _
  simp
theorem norm_of {L D : List Ent} {sn : Value → Bool} (hD : ∀ e ∈ D, least L e.1 = some e.2) (hs : ∀ s, sn (keyV s) = true ↔ s ∈ D.map (·.1)) (w : ∀ v, keyIs kkS v = true → hasW (least L) v = true → sn v = true) (e : Ent) : e ∈ D ↔ e ∈ norm L := by
  rw [mem_norm]
  refine ⟨hD e, fun h => ?_⟩
  have h1 : sn (keyV e.1) = true := w _ rfl (by show (least L e.1).isSome = true; rw [h]; rfl)
  obtain ⟨x, hx, hxe⟩ := List.mem_map.1 ((hs e.1).1 h1)
  have h2 := hD x hx
  rw [hxe, h] at h2
  have h3 : e.2 = x.2 := Option.some.inj h2
  rwa [show e = x from Prod.ext hxe.symm h3]
theorem S72 (p : Pln) (hg : Good p) (k : Nat) (hk20 : k ≤ 20) (L : List Ent) (hL : LOk p k L) : SP 72 [planA p, mapA (least L)] (mapA (least (ext p (norm L)))) false := by
  refine sound (d := 2) tok2 mixed2 Tryd.func72 (by kernel_rfl) (by kernel_rfl) ?_
  intro w1
  conv => whnf
  refine ⟨[], [2, 5, 19], fun st mq => ∃ (nl : Nat) (sn : Value → Bool) (D : List Ent), (∀ e ∈ D, least L e.1 = some e.2) ∧ (∀ s, sn (keyV s) = true ↔ s ∈ D.map (·.1)) ∧ st = ⟨[(2, .optr 0 0 0 0), (5, .omap 0), (19, .oiter 1)], ⟨[⟨3, 1, fun _ => planC p, 0, false, true, true⟩], [⟨kkS, 134, hasW (least (ext p D)), wayM (least (ext p D)), false, none, 0, .top⟩, ⟨kkS, 134, hasW (least L), wayM (least L), false, some sn, nl, .top⟩], none, 0⟩, []⟩ ∧ mq = nl,
    ⟨_, _, ⟨w1, fun _ => false, [], (fun e he => by cases he), (fun s => by simp), rfl, rfl⟩, ⟨⟨.inl rfl, rfl, rfl, rfl⟩, ⟨⟨rfl, rfl, rfl, rfl, fun _ => rfl, fun _ _ => .inl rfl⟩, trivial⟩, ⟨⟨rfl, rfl, rfl, trivial, .inl rfl, fun v => And.imp id Or.inr (⟨hasW_nil v, wayM_nil v⟩)⟩, ⟨⟨rfl, rfl, rfl, ⟨rfl, fun _ => rfl⟩, .inr rfl, fun _ => ⟨rfl, .inl rfl⟩⟩, trivial⟩⟩⟩⟩, ?_⟩
  rintro s0 m0 ⟨nl, sn, D, hD, hs, rfl, hmeas⟩
  refine ⟨fun w2 => ?_, ?_⟩
  · conv => whnf
    conv => whnf
    refine ⟨?_, nofun⟩
    have hn := least_congr (ext_congr (p := p) (norm_of hD hs w2))
    rw [show least (ext p D) = least (ext p (norm L)) from funext hn]
    rfl
  · intro a b h1 h2 n hn
    have h1 : (least L (a, b)).isSome = true := h1
    obtain ⟨w, hw⟩ := Option.isSome_iff_exists.1 h1
    have hwa : wAt L (a, b) = w := by unfold wAt; rw [hw]; rfl
    have he := hL _ (least_mem hw)
    have hat := he.1.at
    rw [← hwa] at hw he
    clear hwa
    conv => whnf
    conv => whnf
    conv => whnf
    refine ⟨by assumption, ?_⟩
    conv => whnf
    conv => whnf
    conv => whnf
    refine ⟨[], [2, 5, 6, 7, 19, 32, 33, 34], fun st mq => ∃ (j : Nat) (w : Way) (M : List Ent), (j ≤ (stp p (a, b)).exits.length) ∧ (least L (a, b) = some w) ∧ (M = ext p D ++ ((stp p (a, b)).exits.take j).filterMap (stepWay p ((a, b), w))) ∧ st = ⟨[(2, .optr 0 0 0 0), (5, .omap 0), (6, .optr 1 0 0 0), (7, .optr 2 0 0 0), (19, .oiter 1), (32, ints (stp p (a, b)).exits), (33, i64 (stp p (a, b)).exits.length), (34, i64 j)], ⟨[⟨3, 1, fun _ => planC p, 0, false, true, true⟩, ⟨2, 1, fun _ => [i64 a, i64 b], 0, false, true, true⟩, ⟨2, 1, fun _ => [ints w.1, i64 w.2], 0, false, true, true⟩], [⟨kkS, 134, hasW (least M), wayM (least M), false, none, 0, .top⟩, ⟨kkS, 134, hasW (least L), wayM (least L), false, some (fun v => Bool.or (sn v) (opEv.keyEq v (keyV (a, b)))), n, .top⟩], none, 0⟩, []⟩ ∧ mq = (stp p (a, b)).exits.length - j,
      ⟨_, _, ⟨0, wAt L (a, b), ext p D, by omega, hw, by simp, rfl, rfl⟩, ⟨⟨.inl rfl, rfl, rfl, rfl⟩, ⟨⟨rfl, rfl, rfl, rfl, fun _ => rfl, fun _ _ => .inl rfl⟩, ⟨⟨rfl, rfl, rfl, rfl, fun _ => rfl, fun _ _ => .inl rfl⟩, ⟨⟨rfl, rfl, rfl, rfl, fun _ => rfl, fun _ _ => .inl rfl⟩, trivial⟩⟩⟩, ⟨⟨rfl, rfl, rfl, trivial, .inl rfl, fun _ => ⟨rfl, .inl rfl⟩⟩, ⟨⟨rfl, rfl, rfl, ⟨rfl, fun _ => rfl⟩, .inr rfl, fun _ => ⟨rfl, .inl rfl⟩⟩, trivial⟩⟩⟩⟩, ?_⟩
    rintro s0 m0 ⟨j, w, M, hj, hw1, hM, rfl, hmeas⟩
    have he := hL _ (least_mem hw1)
    have he1 : OkS p (a, b) := he.1
    have he2 : (stp p (a, b)).wait = 0 := he.2.1
    have he3 : w.1.length = k := he.2.2.1
    have he4 : 0 ≤ w.2 := he.2.2.2.1
    have hxl : (stp p (a, b)).exits.length ≤ 12 := hg.few.exits _ he1.k
    have he5 : w.2 ≤ 4000000 * (k : Int) := he.2.2.2.2
    by_cases hlt : j < (stp p (a, b)).exits.length
    · have hcm : (stp p (a, b)).exits.getD j 0 ∈ (stp p (a, b)).exits := by simp [List.getD_eq_getElem?_getD, hlt]
      have hc := exit_ok hg he1 he2 (hasI_mem.2 hcm)
      have htk : (stp p (a, b)).exits.take (j + 1) = (stp p (a, b)).exits.take j ++ [(stp p (a, b)).exits.getD j 0] := by
        rw [List.take_add_one]; simp [List.getD_eq_getElem?_getD, hlt]
      have h95 := S95 p hg noF (a, b) ((stp p (a, b)).exits.getD j 0) he1 (.inr hc)
      cases hC : commandF p noF (a, b) ((stp p (a, b)).exits.getD j 0) with
      | none =>
        rw [hC] at h95
        have hsw : stepWay p ((a, b), w) ((stp p (a, b)).exits.getD j 0) = none := by unfold stepWay; rw [hC]
        conv => whnf
        conv => whnf
        conv => whnf
        conv => whnf
        refine ifB_dec (fun w2 => ?_) (fun w2 => ?_)
        · conv => whnf
          conv => whnf
          conv => whnf
          conv => whnf
          refine ⟨⟨(by omega), (by omega)⟩, ?_⟩
          conv => whnf
          conv => whnf
          conv => whnf
          conv => whnf
          refine .inl ⟨_, _, byX rfl (h95), ?_⟩
          conv => whnf
          conv => whnf
          conv => whnf
          conv => whnf
          refine ⟨inK64 (by omega) (by omega), ?_⟩
          conv => whnf
          conv => whnf
          conv => whnf
          conv => whnf
          refine ⟨_, _, ⟨⟨j + 1, w, M, by omega, hw1, (by rw [htk, List.filterMap_append, hM]; simp only [List.filterMap_cons, List.filterMap_nil, hsw, List.append_nil]), rfl, rfl⟩, by omega⟩, ⟨⟨.inl rfl, rfl, rfl, rfl⟩, ⟨⟨rfl, rfl, rfl, rfl, fun _ => rfl, fun _ _ => .inl rfl⟩, ⟨⟨rfl, rfl, rfl, rfl, fun _ => rfl, fun _ _ => .inl rfl⟩, ⟨⟨rfl, rfl, rfl, rfl, fun _ => rfl, fun _ _ => .inl rfl⟩, trivial⟩⟩⟩, ⟨⟨rfl, rfl, rfl, trivial, .inl rfl, fun _ => ⟨rfl, .inl rfl⟩⟩, ⟨⟨rfl, rfl, rfl, ⟨rfl, fun _ => rfl⟩, .inr rfl, fun _ => ⟨rfl, .inl rfl⟩⟩, trivial⟩⟩⟩⟩
        · (exfalso; omega)
      | some r =>
        rw [hC] at h95
        have hok := command_ok hg he1 (.inr hc) hC
        have hl0 : 0 < r.1.length := List.length_pos_iff.2 hok.ne
        have ht1 := hok.t1
        have ht2 := hok.t2
        have hlen := hok.len
        have hX : r.1.getD ((r.1.length : Int) - 1).toNat (0, 0) = lastOf r.1 := by
          rw [show ((r.1.length : Int) - 1).toNat = r.1.length - 1 by omega]; exact lastOf_get hok.ne
        have hsw : stepWay p ((a, b), w) ((stp p (a, b)).exits.getD j 0) = some (r.1.getD ((r.1.length : Int) - 1).toNat (0, 0), (w.1 ++ [(stp p (a, b)).exits.getD j 0], w.2 + r.2)) := by unfold stepWay; rw [hC, hX]
        have hM' : M ++ [(r.1.getD ((r.1.length : Int) - 1).toNat (0, 0), (w.1 ++ [(stp p (a, b)).exits.getD j 0], w.2 + r.2))] = ext p D ++ ((stp p (a, b)).exits.take (j + 1)).filterMap (stepWay p ((a, b), w)) := by
          rw [htk, List.filterMap_append, hM, List.append_assoc]; simp only [List.filterMap_cons, List.filterMap_nil, hsw]
        have hget : ∀ s, ((least M s).getD ([], 0)).1.length ≤ 1000 := fun s => by
          cases hv : least M s with
          | none => simp
          | some v =>
            have hm := least_mem hv
            rw [hM] at hm
            have h1 : v.1.length = k + 1 := by
              rcases List.mem_append.1 hm with hm | hm
              · exact (ext_ok hg (L := D) (fun x hx => hL x (least_mem (hD x hx))) _ hm).2.2.1
              · obtain ⟨c', hc', hm⟩ := List.mem_filterMap.1 hm
                exact (stepWay_ok hg he (List.mem_of_mem_take hc') hm).2.2.1
            show v.1.length ≤ 1000
            omega
        have h71 := fun s => @S71n (w.1 ++ [(stp p (a, b)).exits.getD j 0], w.2 + r.2) ((least M s).getD ([], 0)) (by simp; omega) (hget s)
        conv => whnf
        conv => whnf
        conv => whnf
        conv => whnf
        refine ifB_dec (fun w2 => ?_) (fun w2 => ?_)
        · conv => whnf
          conv => whnf
          conv => whnf
          conv => whnf
          refine ⟨⟨(by omega), (by omega)⟩, ?_⟩
          conv => whnf
          conv => whnf
          conv => whnf
          conv => whnf
          refine .inl ⟨_, _, byX rfl (h95), ?_⟩
          conv => whnf
          conv => whnf
          conv => whnf
          conv => whnf
          refine ⟨inK64 (by omega) (by omega), ?_⟩
          conv => whnf
          conv => whnf
          conv => whnf
          conv => whnf
          refine ⟨⟨(by omega), (by omega)⟩, ?_⟩
          conv => whnf
          conv => whnf
          conv => whnf
          conv => whnf
          refine ⟨[(11, 1000000), (0, 1000000), (1, 1000000), (2, 1000000), (3, 1000000), (4, 1000000), (6, 1000000), (7, 1000000), (8, 1000000), (9, 1000000), (5, 1000000), (10, 1000000), (12, 1000000), (0, 10), (6, 10), (7, 10)], by kernel_rfl, ?_⟩
          conv => whnf
          conv => whnf
          conv => whnf
          conv => whnf
          refine .inl ⟨_, _, byX rfl (S87 _ (by omega)), ?_⟩
          conv => whnf
          conv => whnf
          conv => whnf
          conv => whnf
          refine ⟨inK64 (by omega) (by omega), ?_⟩
          conv => whnf
          conv => whnf
          conv => whnf
          conv => whnf
          refine .inl ?_
          conv => whnf
          conv => whnf
          conv => whnf
          conv => whnf
          refine ⟨(by show _ * (8 + 1) ≤ _; omega), ?_⟩
          conv => whnf
          conv => whnf
          conv => whnf
          conv => whnf
          refine ifB_not ?_
          conv => whnf
          conv => whnf
          conv => whnf
          conv => whnf
          refine ifB_intro (fun w3 => ?_) (fun w3 => ?_)
          · conv => whnf
            conv => whnf
            conv => whnf
            conv => whnf
            refine .inl ⟨_, _, byX rfl (Sound1.pl (h71 _ ?_ ?_) rfl), ?_⟩
            · simp
            · exact fun i hi => app_row _ _ i hi
            · conv => whnf
              conv => whnf
              conv => whnf
              conv => whnf
              refine ifB_dec (fun w4 => ?_) (fun w4 => ?_)
              · conv => whnf
                conv => whnf
                conv => whnf
                conv => whnf
                refine ⟨inK64 (by omega) (by omega), ?_⟩
                have hb : better (least M (r.1.getD ((r.1.length : Int) - 1).toNat (0, 0))) (w.1 ++ [(stp p (a, b)).exits.getD j 0], w.2 + r.2) = some (w.1 ++ [(stp p (a, b)).exits.getD j 0], w.2 + r.2) := by
                  obtain ⟨v, hv⟩ := Option.isSome_iff_exists.1 (show (least M (r.1.getD ((r.1.length : Int) - 1).toNat (0, 0))).isSome = true from w3)
                  have w4 : wlt (w.1 ++ [(stp p (a, b)).exits.getD j 0], w.2 + r.2) ((least M (r.1.getD ((r.1.length : Int) - 1).toNat (0, 0))).getD ([], 0)) = true := decide_eq_true w4
                  rw [hv] at w4 ⊢
                  exact if_pos w4
                conv => whnf
                conv => whnf
                conv => whnf
                conv => whnf
                refine ⟨_, _, ⟨⟨j + 1, w, M ++ [(r.1.getD ((r.1.length : Int) - 1).toNat (0, 0), (w.1 ++ [(stp p (a, b)).exits.getD j 0], w.2 + r.2))], by omega, hw1, hM', rfl, rfl⟩, by omega⟩, ⟨⟨.inl rfl, rfl, rfl, rfl⟩, ⟨⟨rfl, rfl, rfl, rfl, fun _ => rfl, fun _ _ => .inl rfl⟩, ⟨⟨rfl, rfl, rfl, rfl, fun _ => rfl, fun _ _ => .inl rfl⟩, ⟨⟨rfl, rfl, rfl, rfl, fun _ => rfl, fun _ _ => .inl rfl⟩, trivial⟩⟩⟩, ⟨⟨rfl, rfl, rfl, trivial, .inl rfl, fun v => And.imp id Or.inr (⟨(hasW_put M _ _ v).symm, wayM_put M _ _ hb (way_ave (by simp) fun i hi => app_row _ _ i hi) v⟩)⟩, ⟨⟨rfl, rfl, rfl, ⟨rfl, fun _ => rfl⟩, .inr rfl, fun _ => ⟨rfl, .inl rfl⟩⟩, trivial⟩⟩⟩⟩
              · conv => whnf
                conv => whnf
                conv => whnf
                conv => whnf
                refine ⟨inK64 (by omega) (by omega), ?_⟩
                have hsm := hasW_same M (r.1.getD ((r.1.length : Int) - 1).toNat (0, 0)) (w.1 ++ [(stp p (a, b)).exits.getD j 0], w.2 + r.2) ((least M (r.1.getD ((r.1.length : Int) - 1).toNat (0, 0))).getD ([], 0)) (by
                  obtain ⟨v, hv⟩ := Option.isSome_iff_exists.1 (show (least M (r.1.getD ((r.1.length : Int) - 1).toNat (0, 0))).isSome = true from w3)
                  rw [hv]; rfl) (decide_eq_false w4)
                conv => whnf
                conv => whnf
                conv => whnf
                conv => whnf
                refine ⟨_, _, ⟨⟨j + 1, w, M ++ [(r.1.getD ((r.1.length : Int) - 1).toNat (0, 0), (w.1 ++ [(stp p (a, b)).exits.getD j 0], w.2 + r.2))], by omega, hw1, hM', rfl, rfl⟩, by omega⟩, ⟨⟨.inl rfl, rfl, rfl, rfl⟩, ⟨⟨rfl, rfl, rfl, rfl, fun _ => rfl, fun _ _ => .inl rfl⟩, ⟨⟨rfl, rfl, rfl, rfl, fun _ => rfl, fun _ _ => .inl rfl⟩, ⟨⟨rfl, rfl, rfl, rfl, fun _ => rfl, fun _ _ => .inl rfl⟩, trivial⟩⟩⟩, ⟨⟨rfl, rfl, rfl, trivial, .inl rfl, fun v => And.imp id Or.inl (⟨congrArg (fun B => hasW B v) hsm, congrArg (fun B => wayM B v) hsm⟩)⟩, ⟨⟨rfl, rfl, rfl, ⟨rfl, fun _ => rfl⟩, .inr rfl, fun _ => ⟨rfl, .inl rfl⟩⟩, trivial⟩⟩⟩⟩
          · conv => whnf
            conv => whnf
            conv => whnf
            conv => whnf
            refine ⟨inK64 (by omega) (by omega), ?_⟩
            have hb : better (least M (r.1.getD ((r.1.length : Int) - 1).toNat (0, 0))) (w.1 ++ [(stp p (a, b)).exits.getD j 0], w.2 + r.2) = some (w.1 ++ [(stp p (a, b)).exits.getD j 0], w.2 + r.2) := by
              rw [show least M (r.1.getD ((r.1.length : Int) - 1).toNat (0, 0)) = none from Option.isSome_eq_false_iff.1 w3 |> Option.isNone_iff_eq_none.1]; rfl
            conv => whnf
            conv => whnf
            conv => whnf
            conv => whnf
            refine ⟨_, _, ⟨⟨j + 1, w, M ++ [(r.1.getD ((r.1.length : Int) - 1).toNat (0, 0), (w.1 ++ [(stp p (a, b)).exits.getD j 0], w.2 + r.2))], by omega, hw1, hM', rfl, rfl⟩, by omega⟩, ⟨⟨.inl rfl, rfl, rfl, rfl⟩, ⟨⟨rfl, rfl, rfl, rfl, fun _ => rfl, fun _ _ => .inl rfl⟩, ⟨⟨rfl, rfl, rfl, rfl, fun _ => rfl, fun _ _ => .inl rfl⟩, ⟨⟨rfl, rfl, rfl, rfl, fun _ => rfl, fun _ _ => .inl rfl⟩, trivial⟩⟩⟩, ⟨⟨rfl, rfl, rfl, trivial, .inl rfl, fun v => And.imp id Or.inr (⟨(hasW_put M _ _ v).symm, wayM_put M _ _ hb (way_ave (by simp) fun i hi => app_row _ _ i hi) v⟩)⟩, ⟨⟨rfl, rfl, rfl, ⟨rfl, fun _ => rfl⟩, .inr rfl, fun _ => ⟨rfl, .inl rfl⟩⟩, trivial⟩⟩⟩⟩
        · (exfalso; omega)
    · have hn : nl = n + 1 := hn
      have hMe : M = ext p (D ++ [((a, b), w)]) := by
        rw [hM, ext_snoc, List.take_of_length_le (by omega)]; rfl
      subst hMe
      conv => whnf
      conv => whnf
      conv => whnf
      conv => whnf
      refine ifB_dec (fun w2 => ?_) (fun w2 => ?_)
      · (exfalso; omega)
      · conv => whnf
        conv => whnf
        conv => whnf
        conv => whnf
        refine ⟨_, _, ⟨⟨n, fun v => Bool.or (sn v) (opEv.keyEq v (keyV (a, b))), D ++ [((a, b), w)], (fun e he => (List.mem_append.1 he).elim (hD e) fun h => by rw [List.mem_singleton.1 h]; exact hw1), seen_put (e := ((a, b), w)) hs, rfl, rfl⟩, by omega⟩, ⟨⟨.inl rfl, rfl, rfl, rfl⟩, ⟨⟨rfl, rfl, rfl, rfl, fun _ => rfl, fun _ _ => .inl rfl⟩, trivial⟩, ⟨⟨rfl, rfl, rfl, trivial, .inl rfl, fun _ => ⟨rfl, .inl rfl⟩⟩, ⟨⟨rfl, rfl, rfl, ⟨rfl, fun _ => rfl⟩, .inr rfl, fun _ => ⟨rfl, .inl rfl⟩⟩, trivial⟩⟩⟩⟩
end Go.Tr

/- Contracts of chapter 7: the fastest way. Conditions: none. -/
namespace Go.Tr
open Go Go.Proofs
set_option maxRecDepth 20000
set_option maxHeartbeats 8000000

/-- The ways of so many commands. -/
def layer (p : Pln) (s : S2) : Nat → List Ent
  | 0 => [(s, ([], 0))]
  | k + 1 => ext p (norm (layer p s k))
/-- Those that lead to a step. -/
def toW (to : Int) (D : List Ent) : List Way := (D.filter fun e => e.1.1 = to).map (·.2)
def hereW (p : Pln) (s : S2) (to : Int) (k : Nat) : Option Way := minL (toW to (norm (layer p s k)))
def upB (b h : Option Way) : Option Way := match h with | none => b | some h => match b with | none => some h | some b => if h.2 < b.2 then some h else some b
def bestW (p : Pln) (s : S2) (to : Int) : Nat → Option Way
  | 0 => none
  | k + 1 => upB (bestW p s to k) (hereW p s to k)
theorem toW_snoc (to : Int) (D : List Ent) (e : Ent) : toW to (D ++ [e]) = toW to D ++ if e.1.1 = to then [e.2] else [] := by
  unfold toW
  rw [List.filter_append, List.map_append]
  by_cases h : e.1.1 = to <;> simp [h]
theorem layer_ok {p : Pln} (hg : Good p) {s : S2} (hs : OkS p s) (hw : (stp p s).wait = 0) : ∀ k, LOk p k (layer p s k)
  | 0 => fun e he => by
    rw [show e = (s, ([], 0)) from List.mem_singleton.1 he]
    exact ⟨hs, hw, rfl, Int.le_refl 0, Int.le_refl 0⟩
  | k + 1 => ext_ok hg (norm_ok (layer_ok hg hs hw k))
def optA (o : Option Way) : Way := o.getD ([], 0)
theorem hasW_one (s : S2) (v : Value) : hasW (least [(s, ([], 0))]) v = Bool.or false (opEv.keyEq v (keyV s)) := by
  rw [show ([(s, ([], 0))] : List Ent) = [] ++ [(s, ([], 0))] from rfl, ← hasW_put, hasW_nil]
theorem wayM_one (s : S2) (v : Value) : AVE 5 (bif opEv.keyEq v (keyV s) then .agg [.eslice, i64 0] else .agg [.eslice, i64 0]) (wayM (least [(s, ([], 0))]) v) := by
  rw [show (bif opEv.keyEq v (keyV s) then (.agg [.eslice, i64 0] : AV) else .agg [.eslice, i64 0]) = .agg [.eslice, i64 0] by cases opEv.keyEq v (keyV s) <;> rfl]
  unfold wayM
  cases decS v with
  | none => exact ave_agg2 (k := 4) rfl rfl
  | some x =>
    show AVE 5 _ (wayA ((least [(s, ([], 0))] x).getD ([], 0)))
    rw [show ([(s, ([], 0))] : List Ent) = [] ++ [(s, ([], 0))] from rfl, least_snoc]
    split <;> exact ave_agg2 (k := 4) rfl rfl
def fastE (p : Pln) (s : S2) (to : Int) : Int :=
  if openE p s noF ≠ 0 then openE p s noF else if idxE p.steps.length to ≠ 0 then idxE p.steps.length to
  else if (stp p s).wait = 0 ∧ (p.steps.getD to.toNat stp0).wait = 0 then 0 else 20
def fastR (p : Pln) (s : S2) (to : Int) : AV :=
  if fastE p s to ≠ 0 then .tuple [ints [], i64 0, i64 (fastE p s to)]
  else match bestW p s to 11 with | none => .tuple [ints [], i64 0, i64 12] | some w => .tuple [ints w.1, i64 w.2, i64 0]
theorem open_ok {p : Pln} (hp : FewP p) {s : S2} {f : Int × Bool} (h : openE p s f = 0) : Good p ∧ OkS p s ∧ OkF p f := by
  unfold openE at h
  split at h
  · rename_i h0
    rw [first2_iff] at h
    exact ⟨Good.of hp h0, state_ok.1 h.1, fault_ok h.2⟩
  · rename_i h0; exact absurd h h0
theorem fast_bad {e : Int} {p : Pln} {s : S2} {to : Int} (h : fastE p s to = e) (h0 : e ≠ 0) : AVE 5 (.tuple [.eslice, i64 0, i64 e]) (fastR p s to) := by
  unfold fastR
  rw [h, if_pos h0]
  exact ave_tup3 rfl rfl rfl
theorem row_zero : RowLe true [.eslice, i64 0] [ints [], i64 0] := by
  refine ⟨rfl, rfl, fun j x y hx hy => ?_⟩
  match j, hx, hy with
  | 0, hx, hy => cases hx; cases hy; exact .inr rfl
  | 1, hx, hy => cases hx; cases hy; exact .inl rfl
theorem toW_congr {to : Int} {D E : List Ent} (h : ∀ e, e ∈ D ↔ e ∈ E) : minL (toW to D) = minL (toW to E) := minL_congr fun w => by
  unfold toW
  simp only [List.mem_map, List.mem_filter, h]
theorem S17 (p : Pln) (hp : FewP p) (s : S2) (to : Int) : SP 17 [planA p, stA s, i64 to] (fastR p s to) false := by
  have h67 := S67 p hp s noF
  have h68 := fun h => @S68_1 p h to
  rw [idxs1] at h68
  by_cases h1 : openE p s noF = 0
  · obtain ⟨hg, hs, hf⟩ := open_ok hp h1
    by_cases h2 : idxE p.steps.length to = 0
    · have hto := inX_iff.1 (idxE0 h2)
      have hat := hs.at
      rw [h1] at h67
      rw [h2] at h68
      have h70s := S70 (stp p s)
      have h70t := S70 (p.steps.getD to.toNat stp0)
      have hm := hg.m
      have h68 := fun {f : Nat → List AV} => @h68 (by omega) f
      refine sound (d := 2) tok2 mixed2 Tryd.func17 (by kernel_rfl) (by kernel_rfl) ?_
      conv => whnf
      refine .inl ⟨_, _, byX rfl (h67), ?_⟩
      conv => whnf
      refine .inl ⟨_, _, byX rfl (Sound1.pl (h68 rfl) rfl), ?_⟩
      conv => whnf
      refine ⟨⟨(by omega), (by omega)⟩, ?_⟩
      conv => whnf
      refine .inl ⟨_, _, byX rfl (Sound1.pl (h70s) rfl), ?_⟩
      conv => whnf
      refine ifB_dec (fun w1 => ?_) (fun w1 => ?_)
      · conv => whnf
        refine ⟨⟨(by omega), (by omega)⟩, ?_⟩
        conv => whnf
        refine .inl ⟨_, _, byX rfl (Sound1.pl (h70t) rfl), ?_⟩
        conv => whnf
        refine .inl ⟨_, _, byX rfl (Sound1.pl (S69 _ _) rfl), ?_⟩
        conv => whnf
        refine ifB_bne (fun w2 => ?_) (fun w2 => ?_)
        · conv => whnf
          refine ⟨?_, nofun⟩
          have hE : fastE p s to = 20 := by
            unfold fastE
            rw [if_neg (not_not_intro h1), if_neg (not_not_intro h2), if_neg]
            intro h
            rw [decide_eq_true h.2] at w2
            exact w2 rfl
          rw [show (if decide ((p.steps.getD to.toNat stp0).wait = 0) = true then (0 : Int) else 20) = 20 by split <;> simp_all]
          exact fast_bad hE (by decide)
        · have hwt : (p.steps.getD to.toNat stp0).wait = 0 := by
            by_cases h : (p.steps.getD to.toNat stp0).wait = 0
            · exact h
            · rw [decide_eq_false h] at w2; cases w2
          have hE : fastE p s to = 0 := by
            unfold fastE
            rw [if_neg (not_not_intro h1), if_neg (not_not_intro h2), if_pos ⟨w1, hwt⟩]
          conv => whnf
          refine ⟨[.freeze 13], [2, 9, 11, 12, 13, 58], fun st mq => ∃ (k : Nat) (B : Option Way) (L : List Ent) (H0 : Value → Bool) (G0 : Value → AV) (F0 : Nat → List AV) (F1 : Nat → List AV) (F3 : Nat → List AV), (k ≤ 11) ∧ (L = layer p s k) ∧ (B = bestW p s to k) ∧ st = ⟨[(2, i64 to), (9, .optr 2 0 0 0), (11, .optr 4 0 0 0), (12, vb B.isSome), (13, mapA (least L)), (58, i64 k)], ⟨[⟨3, 1, F0, 0, false, true, false⟩, ⟨2, 1, F1, 0, false, true, false⟩, ⟨3, 1, fun _ => planC p, 0, false, true, true⟩, ⟨1, 1, F3, 0, false, true, false⟩, ⟨2, 1, fun _ => [ints (optA B).1, i64 (optA B).2], 0, false, true, true⟩], [⟨kkS, 134, H0, G0, true, none, 0, .top⟩], none, 0⟩, []⟩ ∧ mq = 11 - k,
            ⟨_, _, ⟨0, none, [(s, ([], 0))], _, _, _, _, _, by omega, rfl, rfl, rfl, rfl⟩, ⟨⟨.inr ⟨rfl, .inl rfl, ⟨rfl, .inl rfl, ⟨rfl, .inl rfl, ⟨rfl, .inl rfl, ⟨rfl, .inr (⟨rfl, rfl, fun k => ⟨hasW_one s k, .inr (wayM_one s k)⟩⟩), ⟨rfl, .inl rfl, trivial⟩⟩⟩⟩⟩⟩, rfl, rfl, rfl⟩, ⟨⟨rfl, rfl, rfl, rfl, fun _ => rfl, fun _ _ => .inl rfl⟩, ⟨⟨rfl, rfl, rfl, rfl, fun _ => rfl, fun _ _ => .inl rfl⟩, ⟨⟨rfl, rfl, rfl, rfl, fun _ => rfl, fun _ _ => .inl rfl⟩, ⟨⟨rfl, rfl, rfl, rfl, fun _ => rfl, fun _ _ => .inl rfl⟩, ⟨⟨rfl, rfl, rfl, rfl, fun _ => rfl, fun _ _ => .inr (row_zero)⟩, trivial⟩⟩⟩⟩⟩, ⟨⟨rfl, rfl, rfl, trivial, .inl rfl, fun _ => ⟨rfl, .inl rfl⟩⟩, trivial⟩⟩⟩, ?_⟩
          rintro s0 m0 ⟨k, B, L, H0, G0, F0, F1, F3, hk, hL, hB, rfl, hmeas⟩
          have hLo : LOk p k L := by rw [hL]; exact layer_ok hg hs w1 k
          have h72 := S72 p hg k (by omega) L hLo
          conv => whnf
          conv => whnf
          refine ifB_dec (fun w3 => ?_) (fun w3 => ?_)
          · intro w4
            conv => whnf
            conv => whnf
            refine ⟨[], [2, 9, 11, 12, 13, 14, 15, 58, 61], fun st mq => ∃ (nl : Nat) (sn : Value → Bool) (D : List Ent) (hv : Option Way) (F0 : Nat → List AV) (F1 : Nat → List AV) (F3 : Nat → List AV), (∀ e ∈ D, least L e.1 = some e.2) ∧ (∀ s, sn (keyV s) = true ↔ s ∈ D.map (·.1)) ∧ (hv = minL (toW to D)) ∧ st = ⟨[(2, i64 to), (9, .optr 2 0 0 0), (11, .optr 4 0 0 0), (12, vb B.isSome), (13, mapA (least L)), (14, .optr 5 0 0 0), (15, vb hv.isSome), (58, i64 k), (61, .oiter 1)], ⟨[⟨3, 1, F0, 0, false, true, false⟩, ⟨2, 1, F1, 0, false, true, false⟩, ⟨3, 1, fun _ => planC p, 0, false, true, true⟩, ⟨1, 1, F3, 0, false, true, false⟩, ⟨2, 1, fun _ => [ints (optA B).1, i64 (optA B).2], 0, false, true, true⟩, ⟨2, 1, fun _ => [ints (optA hv).1, i64 (optA hv).2], 0, false, true, true⟩], [⟨kkS, 134, H0, G0, true, none, 0, .top⟩, ⟨kkS, 134, hasW (least L), wayM (least L), false, some sn, nl, .top⟩], none, 0⟩, []⟩ ∧ mq = nl,
              ⟨_, _, ⟨w4, fun _ => false, [], none, _, _, _, (fun e he => by cases he), (fun s => by simp), rfl, rfl, rfl⟩, ⟨⟨.inl rfl, rfl, rfl, rfl⟩, ⟨⟨rfl, rfl, rfl, rfl, fun _ => rfl, fun _ _ => .inl rfl⟩, ⟨⟨rfl, rfl, rfl, rfl, fun _ => rfl, fun _ _ => .inl rfl⟩, ⟨⟨rfl, rfl, rfl, rfl, fun _ => rfl, fun _ _ => .inl rfl⟩, ⟨⟨rfl, rfl, rfl, rfl, fun _ => rfl, fun _ _ => .inl rfl⟩, ⟨⟨rfl, rfl, rfl, rfl, fun _ => rfl, fun _ _ => .inl rfl⟩, ⟨⟨rfl, rfl, rfl, rfl, fun _ => rfl, fun _ _ => .inr (row_zero)⟩, trivial⟩⟩⟩⟩⟩⟩, ⟨⟨rfl, rfl, rfl, trivial, .inl rfl, fun _ => ⟨rfl, .inl rfl⟩⟩, ⟨⟨rfl, rfl, rfl, ⟨rfl, fun _ => rfl⟩, .inr rfl, fun _ => ⟨rfl, .inl rfl⟩⟩, trivial⟩⟩⟩⟩, ?_⟩
            rintro s0 m0 ⟨nl, sn, D, hv, F0, F1, F3, hD, hs2, hh, rfl, hmeas⟩
            have hlh : (optA hv).1.length ≤ 1000 := by
              cases hv with
              | none => exact Nat.zero_le _
              | some v =>
                have hm := (minL_some.1 hh.symm).1
                obtain ⟨e, he, h⟩ := List.mem_map.1 hm
                have := (hLo _ (least_mem (hD e (List.mem_filter.1 he).1))).2.2.1
                rw [h] at this
                show v.1.length ≤ 1000
                omega
            have hend : (∀ v, keyIs kkS v = true → hasW (least L) v = true → sn v = true) → hv = hereW p s to k := fun h => by
              rw [hh, hereW, ← hL]
              exact toW_congr (norm_of hD hs2 h)
            have hnx : ext p (norm L) = layer p s (k + 1) := by rw [hL]; rfl
            refine ⟨fun w5 => ?_, ?_⟩
            · conv => whnf
              conv => whnf
              conv => whnf
              refine ifB_intro (fun w6 => ?_) (fun w6 => ?_)
              · conv => whnf
                conv => whnf
                conv => whnf
                refine ifB_not ?_
                conv => whnf
                conv => whnf
                conv => whnf
                refine ifB_intro (fun w7 => ?_) (fun w7 => ?_)
                · conv => whnf
                  conv => whnf
                  conv => whnf
                  refine ifB_dec (fun w8 => ?_) (fun w8 => ?_)
                  · conv => whnf
                    conv => whnf
                    conv => whnf
                    refine .inl ⟨_, _, byX rfl (h72), ?_⟩
                    conv => whnf
                    conv => whnf
                    conv => whnf
                    refine ⟨inK64 (by omega) (by omega), ?_⟩
                    have hH := hend w5
                    cases hv with
                    | none => exact absurd w6 nofun
                    | some v =>
                      cases B with
                      | none => exact absurd w7 nofun
                      | some b0 =>
                        conv => whnf
                        conv => whnf
                        conv => whnf
                        refine ⟨_, _, ⟨⟨k + 1, some v, ext p (norm L), H0, G0, _, _, _, by omega, hnx, (by unfold bestW; rw [← hB, ← hH]; exact (if_pos w8).symm), rfl, rfl⟩, by omega⟩, ⟨⟨.inl rfl, rfl, rfl, rfl⟩, ⟨⟨rfl, rfl, rfl, rfl, fun _ => rfl, fun _ _ => .inl rfl⟩, ⟨⟨rfl, rfl, rfl, rfl, fun _ => rfl, fun _ _ => .inl rfl⟩, ⟨⟨rfl, rfl, rfl, rfl, fun _ => rfl, fun _ _ => .inl rfl⟩, ⟨⟨rfl, rfl, rfl, rfl, fun _ => rfl, fun _ _ => .inl rfl⟩, ⟨⟨rfl, rfl, rfl, rfl, fun _ => rfl, fun _ _ => .inl rfl⟩, trivial⟩⟩⟩⟩⟩, ⟨⟨rfl, rfl, rfl, trivial, .inl rfl, fun _ => ⟨rfl, .inl rfl⟩⟩, trivial⟩⟩⟩
                  · conv => whnf
                    conv => whnf
                    conv => whnf
                    refine .inl ⟨_, _, byX rfl (h72), ?_⟩
                    conv => whnf
                    conv => whnf
                    conv => whnf
                    refine ⟨inK64 (by omega) (by omega), ?_⟩
                    have hH := hend w5
                    cases hv with
                    | none => exact absurd w6 nofun
                    | some v =>
                      cases B with
                      | none => exact absurd w7 nofun
                      | some b0 =>
                        conv => whnf
                        conv => whnf
                        conv => whnf
                        refine ⟨_, _, ⟨⟨k + 1, some b0, ext p (norm L), H0, G0, _, _, _, by omega, hnx, (by unfold bestW; rw [← hB, ← hH]; exact (if_neg w8).symm), rfl, rfl⟩, by omega⟩, ⟨⟨.inl rfl, rfl, rfl, rfl⟩, ⟨⟨rfl, rfl, rfl, rfl, fun _ => rfl, fun _ _ => .inl rfl⟩, ⟨⟨rfl, rfl, rfl, rfl, fun _ => rfl, fun _ _ => .inl rfl⟩, ⟨⟨rfl, rfl, rfl, rfl, fun _ => rfl, fun _ _ => .inl rfl⟩, ⟨⟨rfl, rfl, rfl, rfl, fun _ => rfl, fun _ _ => .inl rfl⟩, ⟨⟨rfl, rfl, rfl, rfl, fun _ => rfl, fun _ _ => .inl rfl⟩, trivial⟩⟩⟩⟩⟩, ⟨⟨rfl, rfl, rfl, trivial, .inl rfl, fun _ => ⟨rfl, .inl rfl⟩⟩, trivial⟩⟩⟩
                · conv => whnf
                  conv => whnf
                  conv => whnf
                  refine .inl ⟨_, _, byX rfl (h72), ?_⟩
                  conv => whnf
                  conv => whnf
                  conv => whnf
                  refine ⟨inK64 (by omega) (by omega), ?_⟩
                  have hH := hend w5
                  cases hv with
                  | none => exact absurd w6 nofun
                  | some v =>
                    cases B with
                    | some b0 => exact absurd w7 nofun
                    | none =>
                      conv => whnf
                      conv => whnf
                      conv => whnf
                      refine ⟨_, _, ⟨⟨k + 1, some v, ext p (norm L), H0, G0, _, _, _, by omega, hnx, (by unfold bestW; rw [← hB, ← hH]; rfl), rfl, rfl⟩, by omega⟩, ⟨⟨.inl rfl, rfl, rfl, rfl⟩, ⟨⟨rfl, rfl, rfl, rfl, fun _ => rfl, fun _ _ => .inl rfl⟩, ⟨⟨rfl, rfl, rfl, rfl, fun _ => rfl, fun _ _ => .inl rfl⟩, ⟨⟨rfl, rfl, rfl, rfl, fun _ => rfl, fun _ _ => .inl rfl⟩, ⟨⟨rfl, rfl, rfl, rfl, fun _ => rfl, fun _ _ => .inl rfl⟩, ⟨⟨rfl, rfl, rfl, rfl, fun _ => rfl, fun _ _ => .inl rfl⟩, trivial⟩⟩⟩⟩⟩, ⟨⟨rfl, rfl, rfl, trivial, .inl rfl, fun _ => ⟨rfl, .inl rfl⟩⟩, trivial⟩⟩⟩
              · conv => whnf
                conv => whnf
                conv => whnf
                refine .inl ⟨_, _, byX rfl (h72), ?_⟩
                conv => whnf
                conv => whnf
                conv => whnf
                refine ⟨inK64 (by omega) (by omega), ?_⟩
                have hH := hend w5
                cases hv with
                | some v => exact absurd w6 nofun
                | none =>
                  conv => whnf
                  conv => whnf
                  conv => whnf
                  refine ⟨_, _, ⟨⟨k + 1, B, ext p (norm L), H0, G0, _, _, _, by omega, hnx, (by unfold bestW; rw [← hB, ← hH]; rfl), rfl, rfl⟩, by omega⟩, ⟨⟨.inl rfl, rfl, rfl, rfl⟩, ⟨⟨rfl, rfl, rfl, rfl, fun _ => rfl, fun _ _ => .inl rfl⟩, ⟨⟨rfl, rfl, rfl, rfl, fun _ => rfl, fun _ _ => .inl rfl⟩, ⟨⟨rfl, rfl, rfl, rfl, fun _ => rfl, fun _ _ => .inl rfl⟩, ⟨⟨rfl, rfl, rfl, rfl, fun _ => rfl, fun _ _ => .inl rfl⟩, ⟨⟨rfl, rfl, rfl, rfl, fun _ => rfl, fun _ _ => .inl rfl⟩, trivial⟩⟩⟩⟩⟩, ⟨⟨rfl, rfl, rfl, trivial, .inl rfl, fun _ => ⟨rfl, .inl rfl⟩⟩, trivial⟩⟩⟩
            · intro a b g1 g2 n gn
              have g1 : (least L (a, b)).isSome = true := g1
              obtain ⟨w, hw⟩ := Option.isSome_iff_exists.1 g1
              have hwa : wAt L (a, b) = w := by unfold wAt; rw [hw]; rfl
              have he := (hLo _ (least_mem hw)).2.2.1
              rw [← hwa] at hw he
              clear hwa
              have h71 := S71 (wAt L (a, b)) (optA hv) (by show (wAt L (a, b)).1.length ≤ 1000; have : (wAt L (a, b)).1.length = k := he; omega) hlh
              have hD' : ∀ e ∈ D ++ [((a, b), wAt L (a, b))], least L e.1 = some e.2 := fun e he => (List.mem_append.1 he).elim (hD e) fun h => by rw [List.mem_singleton.1 h]; exact hw
              have gn : nl = n + 1 := gn
              conv => whnf
              conv => whnf
              conv => whnf
              conv => whnf
              refine ifB_beq (fun w5 => ?_) (fun w5 => ?_)
              · conv => whnf
                conv => whnf
                conv => whnf
                conv => whnf
                refine ifB_not ?_
                conv => whnf
                conv => whnf
                conv => whnf
                conv => whnf
                refine ifB_intro (fun w6 => ?_) (fun w6 => ?_)
                · conv => whnf
                  conv => whnf
                  conv => whnf
                  conv => whnf
                  refine .inl ⟨_, _, byX rfl (Sound1.pl (h71) rfl), ?_⟩
                  conv => whnf
                  conv => whnf
                  conv => whnf
                  conv => whnf
                  refine ifB_dec (fun w7 => ?_) (fun w7 => ?_)
                  · have hq : some (wAt L (a, b)) = minL (toW to (D ++ [((a, b), wAt L (a, b))])) := by
                      rw [toW_snoc, if_pos w5, minL_snoc, ← hh]
                      cases hv with
                      | none => exact absurd w6 nofun
                      | some v => exact (if_pos (decide_eq_true w7)).symm
                    conv => whnf
                    conv => whnf
                    conv => whnf
                    conv => whnf
                    refine ⟨_, _, ⟨⟨n, fun v => Bool.or (sn v) (opEv.keyEq v (keyV (a, b))), D ++ [((a, b), wAt L (a, b))], some (wAt L (a, b)), _, _, _, hD', seen_put (e := ((a, b), wAt L (a, b))) hs2, hq, rfl, rfl⟩, by omega⟩, ⟨⟨.inl rfl, rfl, rfl, rfl⟩, ⟨⟨rfl, rfl, rfl, rfl, fun _ => rfl, fun _ _ => .inl rfl⟩, ⟨⟨rfl, rfl, rfl, rfl, fun _ => rfl, fun _ _ => .inl rfl⟩, ⟨⟨rfl, rfl, rfl, rfl, fun _ => rfl, fun _ _ => .inl rfl⟩, ⟨⟨rfl, rfl, rfl, rfl, fun _ => rfl, fun _ _ => .inl rfl⟩, ⟨⟨rfl, rfl, rfl, rfl, fun _ => rfl, fun _ _ => .inl rfl⟩, ⟨⟨rfl, rfl, rfl, rfl, fun _ => rfl, fun _ _ => .inl rfl⟩, trivial⟩⟩⟩⟩⟩⟩, ⟨⟨rfl, rfl, rfl, trivial, .inl rfl, fun _ => ⟨rfl, .inl rfl⟩⟩, ⟨⟨rfl, rfl, rfl, ⟨rfl, fun _ => rfl⟩, .inr rfl, fun _ => ⟨rfl, .inl rfl⟩⟩, trivial⟩⟩⟩⟩
                  · have hq : hv = minL (toW to (D ++ [((a, b), wAt L (a, b))])) := by
                      rw [toW_snoc, if_pos w5, minL_snoc, ← hh]
                      cases hv with
                      | none => exact absurd w6 nofun
                      | some v => exact (if_neg (by rw [show wlt (wAt L (a, b)) v = false from decide_eq_false w7]; nofun)).symm
                    conv => whnf
                    conv => whnf
                    conv => whnf
                    conv => whnf
                    refine ⟨_, _, ⟨⟨n, fun v => Bool.or (sn v) (opEv.keyEq v (keyV (a, b))), D ++ [((a, b), wAt L (a, b))], hv, _, _, _, hD', seen_put (e := ((a, b), wAt L (a, b))) hs2, hq, rfl, rfl⟩, by omega⟩, ⟨⟨.inl rfl, rfl, rfl, rfl⟩, ⟨⟨rfl, rfl, rfl, rfl, fun _ => rfl, fun _ _ => .inl rfl⟩, ⟨⟨rfl, rfl, rfl, rfl, fun _ => rfl, fun _ _ => .inl rfl⟩, ⟨⟨rfl, rfl, rfl, rfl, fun _ => rfl, fun _ _ => .inl rfl⟩, ⟨⟨rfl, rfl, rfl, rfl, fun _ => rfl, fun _ _ => .inl rfl⟩, ⟨⟨rfl, rfl, rfl, rfl, fun _ => rfl, fun _ _ => .inl rfl⟩, ⟨⟨rfl, rfl, rfl, rfl, fun _ => rfl, fun _ _ => .inl rfl⟩, trivial⟩⟩⟩⟩⟩⟩, ⟨⟨rfl, rfl, rfl, trivial, .inl rfl, fun _ => ⟨rfl, .inl rfl⟩⟩, ⟨⟨rfl, rfl, rfl, ⟨rfl, fun _ => rfl⟩, .inr rfl, fun _ => ⟨rfl, .inl rfl⟩⟩, trivial⟩⟩⟩⟩
                · have hq : some (wAt L (a, b)) = minL (toW to (D ++ [((a, b), wAt L (a, b))])) := by
                    rw [toW_snoc, if_pos w5, minL_snoc, ← hh]
                    cases hv with
                    | none => rfl
                    | some v => exact absurd w6 nofun
                  conv => whnf
                  conv => whnf
                  conv => whnf
                  conv => whnf
                  refine ⟨_, _, ⟨⟨n, fun v => Bool.or (sn v) (opEv.keyEq v (keyV (a, b))), D ++ [((a, b), wAt L (a, b))], some (wAt L (a, b)), _, _, _, hD', seen_put (e := ((a, b), wAt L (a, b))) hs2, hq, rfl, rfl⟩, by omega⟩, ⟨⟨.inl rfl, rfl, rfl, rfl⟩, ⟨⟨rfl, rfl, rfl, rfl, fun _ => rfl, fun _ _ => .inl rfl⟩, ⟨⟨rfl, rfl, rfl, rfl, fun _ => rfl, fun _ _ => .inl rfl⟩, ⟨⟨rfl, rfl, rfl, rfl, fun _ => rfl, fun _ _ => .inl rfl⟩, ⟨⟨rfl, rfl, rfl, rfl, fun _ => rfl, fun _ _ => .inl rfl⟩, ⟨⟨rfl, rfl, rfl, rfl, fun _ => rfl, fun _ _ => .inl rfl⟩, ⟨⟨rfl, rfl, rfl, rfl, fun _ => rfl, fun _ _ => .inl rfl⟩, trivial⟩⟩⟩⟩⟩⟩, ⟨⟨rfl, rfl, rfl, trivial, .inl rfl, fun _ => ⟨rfl, .inl rfl⟩⟩, ⟨⟨rfl, rfl, rfl, ⟨rfl, fun _ => rfl⟩, .inr rfl, fun _ => ⟨rfl, .inl rfl⟩⟩, trivial⟩⟩⟩⟩
              · have hq : hv = minL (toW to (D ++ [((a, b), wAt L (a, b))])) := by
                  rw [toW_snoc, if_neg w5, List.append_nil]; exact hh
                conv => whnf
                conv => whnf
                conv => whnf
                conv => whnf
                refine ⟨_, _, ⟨⟨n, fun v => Bool.or (sn v) (opEv.keyEq v (keyV (a, b))), D ++ [((a, b), wAt L (a, b))], hv, _, _, _, hD', seen_put (e := ((a, b), wAt L (a, b))) hs2, hq, rfl, rfl⟩, by omega⟩, ⟨⟨.inl rfl, rfl, rfl, rfl⟩, ⟨⟨rfl, rfl, rfl, rfl, fun _ => rfl, fun _ _ => .inl rfl⟩, ⟨⟨rfl, rfl, rfl, rfl, fun _ => rfl, fun _ _ => .inl rfl⟩, ⟨⟨rfl, rfl, rfl, rfl, fun _ => rfl, fun _ _ => .inl rfl⟩, ⟨⟨rfl, rfl, rfl, rfl, fun _ => rfl, fun _ _ => .inl rfl⟩, ⟨⟨rfl, rfl, rfl, rfl, fun _ => rfl, fun _ _ => .inl rfl⟩, ⟨⟨rfl, rfl, rfl, rfl, fun _ => rfl, fun _ _ => .inl rfl⟩, trivial⟩⟩⟩⟩⟩⟩, ⟨⟨rfl, rfl, rfl, trivial, .inl rfl, fun _ => ⟨rfl, .inl rfl⟩⟩, ⟨⟨rfl, rfl, rfl, ⟨rfl, fun _ => rfl⟩, .inr rfl, fun _ => ⟨rfl, .inl rfl⟩⟩, trivial⟩⟩⟩⟩
          · conv => whnf
            conv => whnf
            refine ⟨[], by kernel_rfl, ?_⟩
            conv => whnf
            conv => whnf
            refine .inl ⟨_, _, byX rfl (Sound1.pl (S69 _ _) rfl), ?_⟩
            conv => whnf
            conv => whnf
            refine ⟨?_, nofun⟩
            have hk11 : k = 11 := by omega
            subst hk11
            unfold fastR
            rw [if_neg (not_not_intro hE), ← hB]
            cases B with
            | none => exact ave_tup3 ⟨rfl, rfl, fun _ _ => rfl⟩ rfl rfl
            | some v => exact ave_tup3 ⟨rfl, rfl, fun _ _ => rfl⟩ rfl rfl
      · conv => whnf
        refine .inl ⟨_, _, byX rfl (Sound1.pl (S69 _ _) rfl), ?_⟩
        conv => whnf
        refine ⟨?_, nofun⟩
        have hE : fastE p s to = 20 := by
          unfold fastE
          rw [if_neg (not_not_intro h1), if_neg (not_not_intro h2), if_neg (fun h => w1 h.1)]
        exact fast_bad hE (by decide)
    · have hE : fastE p s to = idxE p.steps.length to := by unfold fastE; rw [if_neg (not_not_intro h1), if_pos h2]
      rw [h1] at h67
      have hm := hg.m
      have h68 := fun {f : Nat → List AV} => @h68 (by omega) f
      refine sound (d := 2) tok2 mixed2 Tryd.func17 (by kernel_rfl) (by kernel_rfl) ?_
      conv => whnf
      refine .inl ⟨_, _, byX rfl (h67), ?_⟩
      conv => whnf
      refine .inl ⟨_, _, byX rfl (Sound1.pl (h68 rfl) rfl), ?_⟩
      conv => whnf
      refine ifB_beq (fun w1 => ?_) (fun w1 => ?_)
      · (exfalso; omega)
      · conv => whnf
        refine ifB_bne (fun w2 => ?_) (fun w2 => ?_)
        · conv => whnf
          refine ⟨?_, nofun⟩
          exact fast_bad hE h2
        · (exfalso; omega)
  · have hE : fastE p s to = openE p s noF := by unfold fastE; rw [if_pos h1]
    refine sound (d := 2) tok2 mixed2 Tryd.func17 (by kernel_rfl) (by kernel_rfl) ?_
    conv => whnf
    refine .inl ⟨_, _, byX rfl (h67), ?_⟩
    conv => whnf
    refine ifB_beq (fun w1 => ?_) (fun w1 => ?_)
    · (exfalso; omega)
    · conv => whnf
      refine ifB_beq (fun w2 => ?_) (fun w2 => ?_)
      · (exfalso; omega)
      · conv => whnf
        refine ifB_bne (fun w3 => ?_) (fun w3 => ?_)
        · conv => whnf
          refine ⟨?_, nofun⟩
          exact fast_bad hE h1
        · (exfalso; omega)
end Go.Tr

/- Contracts of chapter 7: halls and their rules. Conditions: none. -/
namespace Go.Tr
open Go Go.Proofs
set_option maxRecDepth 20000
set_option maxHeartbeats 8000000

abbrev Rul := Int × Int × Int
structure Hal where
  mach : Int
  rules : List Rul
def rulC (r : Rul) : List AV := [i64 r.1, i64 r.2.1, i64 r.2.2]
def rul0 : Rul := (0, 0, 0)
def rulesA (l : List Rul) : AV := .rslice 3 l.length fun i => rulC (l.getD i rul0)
def hallC (h : Hal) : List AV := [i64 h.mach, rulesA h.rules]
def hallA (h : Hal) : AV := .agg (hallC h)

def isStepB (n : Int) : Bool := decide (0 ≤ n) && decide (n ≤ 9)
theorem isStep_dec (n : Int) : decide (0 ≤ n ∧ n ≤ 9) = isStepB n := by simp [isStepB]
theorem S84 (n : Int) : SP 84 [i64 n] (vb (isStepB n)) false := by
  have h := S78 n 0 9
  refine sound (d := 2) tok2 mixed2 Tryd.func84 (by kernel_rfl) (by kernel_rfl) ?_
  conv => whnf
  refine .inl ⟨_, _, byX rfl (Sound1.pl (h) rfl), ?_⟩
  conv => whnf
  refine ⟨?_, nofun⟩
  exact endb (isStep_dec n)
theorem S88 (n : Int) : SP 88 [i64 n] (vb (isStepB n)) false := by
  have h := S41 n 0 9
  refine sound (d := 2) tok2 mixed2 Tryd.func88 (by kernel_rfl) (by kernel_rfl) ?_
  conv => whnf
  refine .inl ⟨_, _, byX rfl (Sound1.pl (h) rfl), ?_⟩
  conv => whnf
  refine ⟨?_, nofun⟩
  exact endb (isStep_dec n)
theorem S120 (n : Int) : SP 120 [i64 n] (vb (!isStepB n)) false := by
  have h := S84 n
  refine sound (d := 2) tok2 mixed2 Tryd.func120 (by kernel_rfl) (by kernel_rfl) ?_
  conv => whnf
  refine .inl ⟨_, _, byX rfl (Sound1.pl (h) rfl), ?_⟩
  conv => whnf
  refine ⟨?_, nofun⟩
  rfl
def ruleE (r : Rul) : Int := firstOf [if isStepB r.1 && isStepB r.2.1 then 0 else 6, if decide (0 ≤ r.2.2 ∧ r.2.2 ≤ 1) then 0 else 15]
def ruleAt (h : Hal) (i : Nat) : Int := ruleE (h.rules.getD i rul0)
def headH (h : Hal) : Int := firstOf [if decide (1 ≤ h.mach ∧ h.mach ≤ 6) then 0 else 2, if decide ((h.rules.length : Int) ≤ 12) then 0 else 8]
def checkH (h : Hal) : Int × Int := if headH h ≠ 0 then (0, headH h) else scan (ruleAt h) h.rules.length 0
theorem checkH_1 {h : Hal} (h0 : ¬ headH h = 0) : checkH h = (0, headH h) := if_pos h0
theorem checkH_2 {h : Hal} (h0 : headH h = 0) {k : Nat} {e : Int} (hk : k < h.rules.length) (hf : ∀ j, j < k → ruleAt h j = 0) (he : ruleAt h k = e) (hne : ¬ e = 0) : checkH h = (↑k, e) := by
  unfold checkH
  rw [if_neg (not_not_intro h0), scan_at hk hf (by rw [he]; exact hne), he]
theorem checkH_3 {h : Hal} (h0 : headH h = 0) (hf : ∀ j, j < h.rules.length → ruleAt h j = 0) : checkH h = (0, 0) := by
  unfold checkH
  rw [if_neg (not_not_intro h0), scan_all hf]
theorem S33 (h : Hal) (hl : h.rules.length ≤ 1000) : SP 33 [hallA h] (t2 (checkH h).1 (checkH h).2) false := by
  have h78 := S78 h.mach 1 6
  refine sound (d := 2) tok2 mixed2 Tryd.func33 (by kernel_rfl) (by kernel_rfl) ?_
  conv => whnf
  refine ⟨[], by kernel_rfl, ?_⟩
  conv => whnf
  refine .inl ⟨_, _, byX rfl (Sound1.pl (h78) rfl), ?_⟩
  conv => whnf
  refine .inl ⟨_, _, byX rfl (Sound1.pl (S69 _ _) rfl), ?_⟩
  conv => whnf
  refine .inl ⟨_, _, byX rfl (Sound1.pl (S69 _ _) rfl), ?_⟩
  conv => whnf
  refine .inl ⟨_, _, byX rfl (Sound1.pl (S83_2 _ _ ⟨rfl, rfl⟩) rfl), ?_⟩
  conv => whnf
  refine ifB_bne (fun w1 => ?_) (fun w1 => ?_)
  · conv => whnf
    refine ⟨?_, nofun⟩
    exact endp (checkH_1 (h := h) w1)
  · conv => whnf
    refine ⟨[], [23, 24, 25], fun st mq => ∃ (k : Nat) (F1 : Nat → List AV), (k ≤ h.rules.length) ∧ (∀ j, j < k → ruleAt h j = 0) ∧ st = ⟨[(23, rulesA h.rules), (24, i64 h.rules.length), (25, i64 k)], ⟨[⟨2, 1, fun _ => hallC h, 0, false, true, true⟩, ⟨1, 2, F1, 0, false, true, false⟩], [], none, 0⟩, []⟩ ∧ mq = h.rules.length - k,
      ⟨_, _, ⟨0, _, by omega, inv_none, rfl, rfl⟩, ⟨⟨.inl rfl, rfl, rfl, rfl⟩, ⟨⟨rfl, rfl, rfl, rfl, fun _ => rfl, fun _ _ => .inl rfl⟩, ⟨⟨rfl, rfl, rfl, rfl, fun _ => rfl, fun _ _ => .inl rfl⟩, trivial⟩⟩, trivial⟩⟩, ?_⟩
    rintro s0 m0 ⟨k, F1, hk, hf, rfl, hmeas⟩
    by_cases hlt : k < h.rules.length
    · have h84a := S84 (h.rules.getD k rul0).1
      have h84b := S84 (h.rules.getD k rul0).2.1
      have h78k := S78 (h.rules.getD k rul0).2.2 0 1
      conv => whnf
      conv => whnf
      refine ifB_dec (fun w2 => ?_) (fun w2 => ?_)
      · conv => whnf
        conv => whnf
        refine ⟨⟨(by omega), (by omega)⟩, ?_⟩
        conv => whnf
        conv => whnf
        refine ⟨[], by kernel_rfl, ?_⟩
        conv => whnf
        conv => whnf
        refine .inl ⟨_, _, byX rfl (Sound1.pl (h84a) rfl), ?_⟩
        conv => whnf
        conv => whnf
        refine ifB_intro (fun w3 => ?_) (fun w3 => ?_)
        · conv => whnf
          conv => whnf
          refine .inl ⟨_, _, byX rfl (Sound1.pl (h84b) rfl), ?_⟩
          conv => whnf
          conv => whnf
          refine .inl ⟨_, _, byX rfl (Sound1.pl (S69 _ _) rfl), ?_⟩
          conv => whnf
          conv => whnf
          refine .inl ⟨_, _, byX rfl (Sound1.pl (h78k) rfl), ?_⟩
          conv => whnf
          conv => whnf
          refine .inl ⟨_, _, byX rfl (Sound1.pl (S69 _ _) rfl), ?_⟩
          conv => whnf
          conv => whnf
          refine .inl ⟨_, _, byX rfl (Sound1.pl (S83_2 _ _ ⟨rfl, rfl⟩) rfl), ?_⟩
          conv => whnf
          conv => whnf
          refine ifB_bne (fun w4 => ?_) (fun w4 => ?_)
          · conv => whnf
            conv => whnf
            refine ⟨?_, nofun⟩
            exact endp (checkH_2 w1 hlt hf (by show ruleE (h.rules.getD k rul0) = _; unfold ruleE; rw [show isStepB (h.rules.getD k rul0).1 = true from w3, Bool.true_and]) w4)
          · conv => whnf
            conv => whnf
            refine ⟨inK64 (by omega) (by omega), ?_⟩
            conv => whnf
            conv => whnf
            refine ⟨_, _, ⟨⟨k + 1, _, by omega, inv_next hf (by show ruleE (h.rules.getD k rul0) = _; unfold ruleE; rw [show isStepB (h.rules.getD k rul0).1 = true from w3, Bool.true_and]; exact w4), rfl, rfl⟩, by omega⟩, ⟨⟨.inl rfl, rfl, rfl, rfl⟩, ⟨⟨rfl, rfl, rfl, rfl, fun _ => rfl, fun _ _ => .inl rfl⟩, ⟨⟨rfl, rfl, rfl, rfl, fun _ => rfl, fun _ _ => .inl rfl⟩, trivial⟩⟩, trivial⟩⟩
        · conv => whnf
          conv => whnf
          refine .inl ⟨_, _, byX rfl (Sound1.pl (S69 _ _) rfl), ?_⟩
          conv => whnf
          conv => whnf
          refine .inl ⟨_, _, byX rfl (Sound1.pl (h78k) rfl), ?_⟩
          conv => whnf
          conv => whnf
          refine .inl ⟨_, _, byX rfl (Sound1.pl (S69 _ _) rfl), ?_⟩
          conv => whnf
          conv => whnf
          refine .inl ⟨_, _, byX rfl (Sound1.pl (S83_2 _ _ ⟨rfl, rfl⟩) rfl), ?_⟩
          conv => whnf
          conv => whnf
          refine ⟨?_, nofun⟩
          exact endp (checkH_2 w1 hlt hf (by show ruleE (h.rules.getD k rul0) = _; unfold ruleE; rw [show isStepB (h.rules.getD k rul0).1 = false from w3]; rfl) (by show ¬ (6 : Int) = 0; decide))
      · (exfalso; omega)
    · have e : k = h.rules.length := by omega
      subst e
      conv => whnf
      conv => whnf
      refine ifB_dec (fun w2 => ?_) (fun w2 => ?_)
      · (exfalso; omega)
      · conv => whnf
        conv => whnf
        refine ⟨?_, nofun⟩
        exact endp (checkH_3 w1 hf)

theorem mach_form (h : Hal) : headH h = if 1 ≤ h.mach ∧ h.mach ≤ 6 then (if h.rules.length > 12 then 8 else 0) else 2 := by
  unfold headH
  rw [first2]
  by_cases h1 : 1 ≤ h.mach ∧ h.mach ≤ 6
  · rw [if_pos h1, decide_eq_true h1]
    by_cases h2 : h.rules.length > 12
    · rw [if_pos h2, decide_eq_false (by omega)]; rfl
    · rw [if_neg h2, decide_eq_true (by omega)]; rfl
  · rw [if_neg h1, decide_eq_false h1]; rfl
theorem rule_form (r : Rul) : ruleE r = if isStepB r.1 && isStepB r.2.1 then (if 0 ≤ r.2.2 ∧ r.2.2 ≤ 1 then 0 else 15) else 6 := by
  unfold ruleE
  rw [first2]
  cases isStepB r.1 && isStepB r.2.1 with
  | true =>
    by_cases h : 0 ≤ r.2.2 ∧ r.2.2 ≤ 1
    · rw [decide_eq_true h, if_pos h]; rfl
    · rw [decide_eq_false h, if_neg h]; rfl
  | false => rfl
theorem S38 (h : Hal) (hl : h.rules.length ≤ 1000) : SP 38 [hallA h] (t2 (checkH h).1 (checkH h).2) false := by
  have h41 := S41 h.mach 1 6
  have hm := mach_form h
  refine sound (d := 2) tok2 mixed2 Tryd.func38 (by kernel_rfl) (by kernel_rfl) ?_
  conv => whnf
  refine .inl ⟨_, _, byX rfl (Sound1.pl (h41) rfl), ?_⟩
  conv => whnf
  refine ifB_not ?_
  conv => whnf
  refine ifB_dec (fun w1 => ?_) (fun w1 => ?_)
  · conv => whnf
    refine ifB_dec (fun w2 => ?_) (fun w2 => ?_)
    · conv => whnf
      refine ⟨?_, nofun⟩
      have h8 : headH h = 8 := by rw [hm, if_pos w1, if_pos (by omega)]
      exact endp ((checkH_1 (by rw [h8]; decide)).trans (by rw [h8]))
    · have h0 : headH h = 0 := by rw [hm, if_pos w1, if_neg (by omega)]
      conv => whnf
      refine ⟨[], [1, 4], fun st mq => ∃ (k : Nat), (k ≤ h.rules.length) ∧ (∀ j, j < k → ruleAt h j = 0) ∧ st = ⟨[(1, .optr 0 0 0 0), (4, i64 k)], ⟨[⟨2, 1, fun _ => hallC h, 0, false, true, true⟩], [], none, 0⟩, []⟩ ∧ mq = h.rules.length - k,
        ⟨_, _, ⟨0, by omega, inv_none, rfl, rfl⟩, ⟨⟨.inl rfl, rfl, rfl, rfl⟩, ⟨⟨rfl, rfl, rfl, rfl, fun _ => rfl, fun _ _ => .inl rfl⟩, trivial⟩, trivial⟩⟩, ?_⟩
      rintro s0 m0 ⟨k, hk, hf, rfl, hmeas⟩
      by_cases hlt : k < h.rules.length
      · have h88a := S88 (h.rules.getD k rul0).1
        have h88b := S88 (h.rules.getD k rul0).2.1
        have h41k := S41 (h.rules.getD k rul0).2.2 0 1
        have hr : ruleAt h k = _ := rule_form (h.rules.getD k rul0)
        conv => whnf
        conv => whnf
        refine ifB_dec (fun w3 => ?_) (fun w3 => ?_)
        · conv => whnf
          conv => whnf
          refine ⟨⟨(by omega), (by omega)⟩, ?_⟩
          conv => whnf
          conv => whnf
          refine .inl ⟨_, _, byX rfl (Sound1.pl (h88a) rfl), ?_⟩
          conv => whnf
          conv => whnf
          refine ifB_not ?_
          conv => whnf
          conv => whnf
          refine ifB_intro (fun w4 => ?_) (fun w4 => ?_)
          · conv => whnf
            conv => whnf
            refine .inl ⟨_, _, byX rfl (Sound1.pl (h88b) rfl), ?_⟩
            conv => whnf
            conv => whnf
            refine ifB_not ?_
            conv => whnf
            conv => whnf
            refine ifB_intro (fun w5 => ?_) (fun w5 => ?_)
            · conv => whnf
              conv => whnf
              refine .inl ⟨_, _, byX rfl (Sound1.pl (h41k) rfl), ?_⟩
              conv => whnf
              conv => whnf
              refine ifB_not ?_
              conv => whnf
              conv => whnf
              refine ifB_dec (fun w6 => ?_) (fun w6 => ?_)
              · conv => whnf
                conv => whnf
                refine ⟨inK64 (by omega) (by omega), ?_⟩
                conv => whnf
                conv => whnf
                refine ⟨_, _, ⟨⟨k + 1, by omega, inv_next hf (hr.trans (by rw [show isStepB (h.rules.getD k rul0).1 = true from w4, show isStepB (h.rules.getD k rul0).2.1 = true from w5, if_pos w6]; rfl)), rfl, rfl⟩, by omega⟩, ⟨⟨.inl rfl, rfl, rfl, rfl⟩, ⟨⟨rfl, rfl, rfl, rfl, fun _ => rfl, fun _ _ => .inl rfl⟩, trivial⟩, trivial⟩⟩
              · conv => whnf
                conv => whnf
                refine ⟨?_, nofun⟩
                exact endp (checkH_2 h0 hlt hf (hr.trans (by rw [show isStepB (h.rules.getD k rul0).1 = true from w4, show isStepB (h.rules.getD k rul0).2.1 = true from w5, if_neg w6]; rfl)) (by decide))
            · conv => whnf
              conv => whnf
              refine ⟨?_, nofun⟩
              exact endp (checkH_2 h0 hlt hf (hr.trans (by rw [show isStepB (h.rules.getD k rul0).1 = true from w4, show isStepB (h.rules.getD k rul0).2.1 = false from w5]; rfl)) (by decide))
          · conv => whnf
            conv => whnf
            refine ⟨?_, nofun⟩
            exact endp (checkH_2 h0 hlt hf (hr.trans (by rw [show isStepB (h.rules.getD k rul0).1 = false from w4]; rfl)) (by decide))
        · (exfalso; omega)
      · have e : k = h.rules.length := by omega
        subst e
        conv => whnf
        conv => whnf
        refine ifB_dec (fun w3 => ?_) (fun w3 => ?_)
        · (exfalso; omega)
        · conv => whnf
          conv => whnf
          refine ⟨?_, nofun⟩
          exact endp (checkH_3 h0 hf)
  · conv => whnf
    refine ⟨?_, nofun⟩
    have h2 : headH h = 2 := by rw [hm, if_neg w1]
    exact endp ((checkH_1 (by rw [h2]; decide)).trans (by rw [h2]))
theorem S43 (h : Hal) (hl : h.rules.length ≤ 1000) : SP 43 [hallA h] (i64 (checkH h).2) false := by
  have h38 := S38 h hl
  refine sound (d := 2) tok2 mixed2 Tryd.func43 (by kernel_rfl) (by kernel_rfl) ?_
  conv => whnf
  refine .inl ⟨_, _, byX rfl (Sound1.pl (h38) rfl), ?_⟩
  conv => whnf
  refine ⟨?_, nofun⟩
  rfl
def stepsH (h : Hal) (l : List Int) : Int := if ¬ (l.length : Int) = h.mach then 10 else if l.all isStepB then 0 else 6
def openH (h : Hal) (l : List Int) : Int := if (checkH h).2 = 0 then stepsH h l else (checkH h).2
theorem first3 (a b c : Int) : firstOf [a, b, c] = if a ≠ 0 then a else if b ≠ 0 then b else c := by
  unfold firstOf
  rw [first2]
  by_cases h : a = 0
  · rw [if_pos h, if_neg (not_not_intro h)]
  · rw [if_neg h, if_pos h]
theorem openH_form (h : Hal) (l : List Int) : firstOf [(checkH h).2, if decide ((l.length : Int) = h.mach) then 0 else 10, if l.all isStepB then 0 else 6] = openH h l := by
  rw [first3]
  unfold openH stepsH
  by_cases h0 : (checkH h).2 = 0
  · rw [if_neg (not_not_intro h0), if_pos h0]
    by_cases h1 : (l.length : Int) = h.mach
    · rw [decide_eq_true h1, if_neg (not_not_intro h1)]; rfl
    · rw [decide_eq_false h1, if_pos h1]; rfl
  · rw [if_pos h0, if_neg h0]
theorem S85 (h : Hal) (hl : h.rules.length ≤ 1000) (l : List Int) (hll : l.length ≤ 9223372036854775807) : SP 85 [hallA h, ints l] (i64 (openH h l)) false := by
  have h33 := S33 h hl
  have h76 := S76n l hll 120 _ S120
  refine sound (d := 2) tok2 mixed2 Tryd.func85 (by kernel_rfl) (by kernel_rfl) ?_
  conv => whnf
  refine .inl ⟨_, _, byX rfl (Sound1.pl (h33) rfl), ?_⟩
  conv => whnf
  refine .inl ⟨_, _, byX rfl (Sound1.pl (h76) rfl), ?_⟩
  conv => whnf
  refine .inl ⟨_, _, byX rfl (Sound1.pl (S69 _ _) rfl), ?_⟩
  conv => whnf
  refine .inl ⟨_, _, byX rfl (Sound1.pl (S69 _ _) rfl), ?_⟩
  conv => whnf
  refine .inl ⟨_, _, byX rfl (Sound1.pl (S83_3 _ _ _ ⟨rfl, rfl, rfl⟩) rfl), ?_⟩
  conv => whnf
  refine ⟨?_, nofun⟩
  refine endi (Eq.trans ?_ (openH_form h l))
  rw [any_not]; rfl
theorem S39 (h : Hal) (l : List Int) (hll : l.length ≤ 9223372036854775806) : SP 39 [hallA h, ints l] (i64 (stepsH h l)) false := by
  refine sound (d := 2) tok2 mixed2 Tryd.func39 (by kernel_rfl) (by kernel_rfl) ?_
  conv => whnf
  refine ifB_bne (fun w1 => ?_) (fun w1 => ?_)
  · conv => whnf
    refine ⟨?_, nofun⟩
    exact endi (if_pos w1).symm
  · conv => whnf
    refine ⟨[], [1, 5], fun st mq => ∃ (k : Nat), (k ≤ l.length) ∧ ((l.drop k).all isStepB = l.all isStepB) ∧ st = ⟨[(1, ints l), (5, i64 k)], ⟨[⟨2, 1, fun _ => hallC h, 0, false, true, true⟩], [], none, 0⟩, []⟩ ∧ mq = l.length - k,
      ⟨_, _, ⟨0, by omega, rfl, rfl, rfl⟩, ⟨⟨.inl rfl, rfl, rfl, rfl⟩, ⟨⟨rfl, rfl, rfl, rfl, fun _ => rfl, fun _ _ => .inl rfl⟩, trivial⟩, trivial⟩⟩, ?_⟩
    rintro s0 m0 ⟨k, hk, hf, rfl, hmeas⟩
    by_cases hlt : k < l.length
    · have h88 := S88 (l.getD k 0)
      have hd : (l.drop k).all isStepB = (isStepB (l.getD k 0) && (l.drop (k + 1)).all isStepB) := by
        rw [List.drop_eq_getElem_cons hlt, List.all_cons]; simp [List.getD, hlt]
      conv => whnf
      conv => whnf
      refine ifB_dec (fun w2 => ?_) (fun w2 => ?_)
      · conv => whnf
        conv => whnf
        refine ⟨⟨(by omega), (by omega)⟩, ?_⟩
        conv => whnf
        conv => whnf
        refine .inl ⟨_, _, byX rfl (Sound1.pl (h88) rfl), ?_⟩
        conv => whnf
        conv => whnf
        refine ifB_not ?_
        conv => whnf
        conv => whnf
        refine ifB_intro (fun w3 => ?_) (fun w3 => ?_)
        · conv => whnf
          conv => whnf
          refine ⟨inK64 (by omega) (by omega), ?_⟩
          rw [show isStepB (l.getD k 0) = true from w3, Bool.true_and] at hd
          conv => whnf
          conv => whnf
          refine ⟨_, _, ⟨⟨k + 1, by omega, hd.symm.trans hf, rfl, rfl⟩, by omega⟩, ⟨⟨.inl rfl, rfl, rfl, rfl⟩, ⟨⟨rfl, rfl, rfl, rfl, fun _ => rfl, fun _ _ => .inl rfl⟩, trivial⟩, trivial⟩⟩
        · conv => whnf
          conv => whnf
          refine ⟨?_, nofun⟩
          rw [show isStepB (l.getD k 0) = false from w3, Bool.false_and, hf] at hd
          refine endi (b := stepsH h l) ?_
          unfold stepsH
          rw [if_neg (not_not_intro w1), hd]; rfl
      · (exfalso; omega)
    · have e : k = l.length := by omega
      subst e
      conv => whnf
      conv => whnf
      refine ifB_dec (fun w2 => ?_) (fun w2 => ?_)
      · (exfalso; omega)
      · conv => whnf
        conv => whnf
        refine ⟨?_, nofun⟩
        rw [List.drop_length] at hf
        refine endi (b := stepsH h l) ?_
        unfold stepsH
        rw [if_neg (not_not_intro w1), ← hf]; rfl
end Go.Tr

/- Contracts of chapter 7: which rules are broken. Conditions: none. -/
namespace Go.Tr
open Go Go.Proofs
set_option maxRecDepth 20000
set_option maxHeartbeats 8000000

/-- The first of some numbers of which something holds. -/
def firstN (P : Nat → Bool) : Nat → Nat → Option Nat
  | 0, _ => none
  | n + 1, i => if P i then some i else firstN P n (i + 1)
theorem firstN_at {P : Nat → Bool} {n k : Nat} (hk : k < n) (h : ∀ j, j < k → P j = false) (hp : P k = true) : firstN P n 0 = some k := by
  have key : ∀ (n i : Nat), i ≤ k → k < i + n → firstN P n i = some k := by
    intro n
    induction n with
    | zero => intro i h1 h2; omega
    | succ n ih =>
      intro i h1 h2
      unfold firstN
      by_cases hi : i = k
      · subst hi; rw [if_pos hp]
      · rw [if_neg (by rw [h i (by omega)]; nofun), ih (i + 1) (by omega) (by omega)]
  exact key n 0 (by omega) (by omega)
theorem firstN_none {P : Nat → Bool} {n : Nat} (h : ∀ j, j < n → P j = false) : firstN P n 0 = none := by
  have key : ∀ (m i : Nat), i + m = n → firstN P m i = none := by
    intro m
    induction m with
    | zero => intro i _; rfl
    | succ m ih => intro i hi; unfold firstN; rw [if_neg (by rw [h i (by omega)]; nofun), ih (i + 1) (by omega)]
  exact key n 0 (by omega)
theorem inv_nextB {f : Nat → Bool} {k : Nat} (h : ∀ j, j < k → f j = false) (hk : f k = false) : ∀ j, j < k + 1 → f j = false := fun j hj => by
  rcases Nat.lt_succ_iff_lt_or_eq.1 hj with h1 | rfl
  · exact h j h1
  · exact hk
theorem inv_noneB {f : Nat → Bool} : ∀ j, j < 0 → f j = false := fun j hj => absurd hj (Nat.not_lt_zero j)

/-- Is another machine in a step? -/
def otherB (l : List Int) (m : Nat) (x : Int) : Bool := hasI (l.eraseIdx m) x
/-- Does a rule not hold for a machine? -/
def condB (h : Hal) (l : List Int) (m k : Nat) : Bool :=
  decide ((h.rules.getD k rul0).1 = l.getD m 0) && (otherB l m (h.rules.getD k rul0).2.1 != decide ((h.rules.getD k rul0).2.2 = 1))
def rowB (h : Hal) (l : List Int) (m : Nat) : Option Nat := firstN (condB h l m) h.rules.length 0
def brokenF (h : Hal) (l : List Int) : Option (Nat × Nat) := match firstN (fun m => (rowB h l m).isSome) l.length 0 with | none => none | some m => (rowB h l m).map fun k => (m, k)
def brA : Option (Nat × Nat) → AV
  | none => .tuple [stA (0, 0), vb false]
  | some x => .tuple [stA (x.1, x.2), vb true]
theorem broken_at {h : Hal} {l : List Int} {m k : Nat} (hm : m < l.length) (hk : k < h.rules.length) (h1 : ∀ j, j < m → (rowB h l j).isSome = false) (h2 : ∀ j, j < k → condB h l m j = false) (h3 : condB h l m k = true) : brokenF h l = some (m, k) := by
  have hr : rowB h l m = some k := firstN_at hk h2 h3
  unfold brokenF
  rw [firstN_at hm h1 (by rw [hr]; rfl)]
  show (rowB h l m).map _ = _
  rw [hr]; rfl
theorem broken_none {h : Hal} {l : List Int} (h1 : ∀ j, j < l.length → (rowB h l j).isSome = false) : brokenF h l = none := by
  unfold brokenF
  rw [firstN_none h1]
theorem S94n (l : List Int) (hl : l.length ≤ 1000000) (x : Int) {n : Nat} {f : Nat → List AV} (hn : n = l.length) (hf : ∀ i, i < n → f i = [i64 (l.getD i 0)]) : SP 94 [.rslice 1 n f, i64 x] (vb (hasI l x)) false := by
  refine (S94 l (by omega) x).argsD rfl fun i y z hy hz => ?_
  match i, hy, hz with
  | 0, hy, hz => cases hy; cases hz; exact .inr ⟨1, AVF_rows hn hf 0⟩
  | 1, hy, hz => cases hy; cases hz; exact .inl rfl
theorem ave_br (o : Option (Nat × Nat)) {m k : Nat} (h : o = some (m, k)) : AVE 5 (.tuple [.agg [i64 m, i64 k], vb true]) (brA o) := by
  rw [h]
  exact ave_tup2 (ave_agg2 (k := 3) rfl rfl) rfl
theorem ave_br0 (o : Option (Nat × Nat)) (h : o = none) : AVE 5 (.tuple [.agg [i64 0, i64 0], vb false]) (brA o) := by
  rw [h]
  exact ave_tup2 (ave_agg2 (k := 3) rfl rfl) rfl
theorem getD_erase (l : List Int) (m i : Nat) : (l.eraseIdx m).getD i 0 = if i < m then l.getD i 0 else l.getD (i + 1) 0 := by
  rw [List.getD_eq_getElem?_getD, List.getElem?_eraseIdx]
  split <;> rw [List.getD_eq_getElem?_getD]
theorem del_row (l : List Int) (m : Nat) (_ : m < l.length) (i : Nat) (hi : i < ((m : Int) - 0).toNat + ((l.length : Int) - ((m : Int) + 1)).toNat) {Z W : List AV} :
    (if 0 + Int.toNat 0 + (((((m : Int) - 0).toNat + ((l.length : Int) - ((m : Int) + 1)).toNat : Nat) : Int)).toNat ≤ i ∧ i < 0 + Int.toNat 0 + (((((m : Int) - 0).toNat + ((l.length : Int) - ((m : Int) + 1)).toNat : Nat) : Int)).toNat + ((l.length : Int) - ((((m : Int) - 0).toNat + ((l.length : Int) - ((m : Int) + 1)).toNat : Nat) : Int)).toNat then Z
      else if i < 0 + Int.toNat 0 + ((m : Int) - 0).toNat then [i64 (l.getD i 0)] else if i < 0 + Int.toNat 0 + ((m : Int) - 0).toNat + ((l.length : Int) - ((m : Int) + 1)).toNat then shiftF (0 + ((m : Int) + 1).toNat) (fun i => [i64 (l.getD i 0)]) (i - (0 + Int.toNat 0 + ((m : Int) - 0).toNat)) else W) = [i64 ((l.eraseIdx m).getD i 0)] := by
  have e0 : Int.toNat 0 = 0 := rfl
  rw [if_neg (by omega), getD_erase, shiftF_eq]
  by_cases h : i < m
  · rw [if_pos (by omega), if_pos h]
  · rw [if_neg (by omega), if_pos (by omega), if_neg h]
    show [i64 (l.getD (0 + ((m : Int) + 1).toNat + (i - (0 + Int.toNat 0 + ((m : Int) - 0).toNat))) 0)] = _
    rw [show 0 + ((m : Int) + 1).toNat + (i - (0 + Int.toNat 0 + ((m : Int) - 0).toNat)) = i + 1 by omega]
theorem cond_ne {h : Hal} {l : List Int} {m k : Nat} (w : ¬ (h.rules.getD k rul0).1 = l.getD m 0) : condB h l m k = false := by
  unfold condB
  rw [decide_eq_false w]; rfl
theorem cond_no {h : Hal} {l : List Int} {m k : Nat} (w : (h.rules.getD k rul0).1 = l.getD m 0) (w2 : otherB l m (h.rules.getD k rul0).2.1 = ((h.rules.getD k rul0).2.2 == 1)) : condB h l m k = false := by
  unfold condB
  rw [decide_eq_true w, w2]
  show (true && (((h.rules.getD k rul0).2.2 == 1) != ((h.rules.getD k rul0).2.2 == 1))) = false
  simp
theorem cond_yes {h : Hal} {l : List Int} {m k : Nat} (w : (h.rules.getD k rul0).1 = l.getD m 0) (w2 : ¬ otherB l m (h.rules.getD k rul0).2.1 = ((h.rules.getD k rul0).2.2 == 1)) : condB h l m k = true := by
  unfold condB
  rw [decide_eq_true w, Bool.true_and]
  exact bne_iff_ne.2 w2
theorem S86 (h : Hal) (hr : h.rules.length ≤ 1000) (l : List Int) (hl : l.length ≤ 1000) : SP 86 [hallA h, ints l] (brA (brokenF h l)) false := by
  refine sound (d := 2) tok2 mixed2 Tryd.func86 (by kernel_rfl) (by kernel_rfl) ?_
  conv => whnf
  refine ⟨[], [1, 2, 4, 11, 12, 13], fun st mq => ∃ (m : Nat), (m ≤ l.length) ∧ (∀ j, j < m → (rowB h l j).isSome = false) ∧ st = ⟨[(1, ints l), (2, .optr 0 0 0 0), (4, .optr 1 0 0 0), (11, ints l), (12, i64 l.length), (13, i64 m)], ⟨[⟨2, 1, fun _ => hallC h, 0, false, true, true⟩, ⟨2, 1, fun _ => [i64 0, i64 0], 0, false, true, true⟩], [], none, 0⟩, []⟩ ∧ mq = l.length - m,
    ⟨_, _, ⟨0, by omega, inv_noneB, rfl, rfl⟩, ⟨⟨.inl rfl, rfl, rfl, rfl⟩, ⟨⟨rfl, rfl, rfl, rfl, fun _ => rfl, fun _ _ => .inl rfl⟩, ⟨⟨rfl, rfl, rfl, rfl, fun _ => rfl, fun _ _ => .inl rfl⟩, trivial⟩⟩, trivial⟩⟩, ?_⟩
  rintro s0 m0 ⟨m, hm, h1, rfl, hmeas⟩
  by_cases hlt : m < l.length
  · conv => whnf
    conv => whnf
    refine ifB_dec (fun w1 => ?_) (fun w1 => ?_)
    · conv => whnf
      conv => whnf
      refine ⟨⟨(by omega), (by omega)⟩, ?_⟩
      conv => whnf
      conv => whnf
      refine ⟨[], [1, 2, 4, 6, 7, 11, 12, 13, 19, 20, 21], fun st mq => ∃ (k : Nat), (k ≤ h.rules.length) ∧ (∀ j, j < k → condB h l m j = false) ∧ st = ⟨[(1, ints l), (2, .optr 0 0 0 0), (4, .optr 1 0 0 0), (6, i64 m), (7, i64 (l.getD m 0)), (11, ints l), (12, i64 l.length), (13, i64 m), (19, rulesA h.rules), (20, i64 h.rules.length), (21, i64 k)], ⟨[⟨2, 1, fun _ => hallC h, 0, false, true, true⟩, ⟨2, 1, fun _ => [i64 0, i64 0], 0, false, true, true⟩], [], none, 0⟩, []⟩ ∧ mq = h.rules.length - k,
        ⟨_, _, ⟨0, by omega, inv_noneB, rfl, rfl⟩, ⟨⟨.inl rfl, rfl, rfl, rfl⟩, ⟨⟨rfl, rfl, rfl, rfl, fun _ => rfl, fun _ _ => .inl rfl⟩, ⟨⟨rfl, rfl, rfl, rfl, fun _ => rfl, fun _ _ => .inl rfl⟩, trivial⟩⟩, trivial⟩⟩, ?_⟩
      rintro s0 m0 ⟨k, hk, h2, rfl, hmeas⟩
      by_cases hltk : k < h.rules.length
      · have h94 := fun x => @S94n (l.eraseIdx m) (by rw [List.length_eraseIdx]; split <;> omega) x
        conv => whnf
        conv => whnf
        conv => whnf
        refine ifB_dec (fun w2 => ?_) (fun w2 => ?_)
        · conv => whnf
          conv => whnf
          conv => whnf
          refine ⟨⟨(by omega), (by omega)⟩, ?_⟩
          conv => whnf
          conv => whnf
          conv => whnf
          refine .inl ⟨_, _, byX rfl (S87 _ (by omega)), ?_⟩
          conv => whnf
          conv => whnf
          conv => whnf
          refine ⟨inK64 (by omega) (by omega), ?_⟩
          conv => whnf
          conv => whnf
          conv => whnf
          refine .inr ⟨[], ?_⟩
          conv => whnf
          conv => whnf
          conv => whnf
          refine ⟨⟨(by first | rfl | assumption), ⟨(by omega), ⟨(by omega), ⟨(by omega), (by omega)⟩⟩⟩⟩, ?_⟩
          conv => whnf
          conv => whnf
          conv => whnf
          refine ifB_beq (fun w3 => ?_) (fun w3 => ?_)
          · (exfalso; omega)
          · conv => whnf
            conv => whnf
            conv => whnf
            refine ⟨[], by kernel_rfl, ?_⟩
            conv => whnf
            conv => whnf
            conv => whnf
            refine ⟨?_, ?_⟩
            · exact ⟨Int.le_refl 0, by omega, by simp; omega⟩
            · conv => whnf
              conv => whnf
              conv => whnf
              refine ⟨?_, ?_⟩
              · exact ⟨by omega, by omega, by simp⟩
              · conv => whnf
                conv => whnf
                conv => whnf
                refine .inr ?_
                conv => whnf
                conv => whnf
                conv => whnf
                refine ⟨?_, ?_⟩
                · simp; omega
                · conv => whnf
                  conv => whnf
                  conv => whnf
                  refine ⟨?_, ?_⟩
                  · exact ⟨by omega, by simp; omega, by simp⟩
                  · conv => whnf
                    conv => whnf
                    conv => whnf
                    refine ⟨[], by kernel_rfl, ?_⟩
                    conv => whnf
                    conv => whnf
                    conv => whnf
                    refine ifB_beq (fun w4 => ?_) (fun w4 => ?_)
                    · conv => whnf
                      conv => whnf
                      conv => whnf
                      refine .inl ⟨_, _, byX rfl (Sound1.pl (h94 _ ?_ ?_) rfl), ?_⟩
                      · rw [List.length_eraseIdx, if_pos hlt]; omega
                      · exact fun i hi => del_row l m hlt i hi
                      · conv => whnf
                        conv => whnf
                        conv => whnf
                        refine ifB_not ?_
                        conv => whnf
                        conv => whnf
                        conv => whnf
                        refine ifB_beqB (fun w5 => ?_) (fun w5 => ?_)
                        · conv => whnf
                          conv => whnf
                          conv => whnf
                          refine ⟨inK64 (by omega) (by omega), ?_⟩
                          conv => whnf
                          conv => whnf
                          conv => whnf
                          refine ⟨_, _, ⟨⟨k + 1, by omega, inv_nextB h2 (cond_no w4 w5), rfl, rfl⟩, by omega⟩, ⟨⟨.inl rfl, rfl, rfl, rfl⟩, ⟨⟨rfl, rfl, rfl, rfl, fun _ => rfl, fun _ _ => .inl rfl⟩, ⟨⟨rfl, rfl, rfl, rfl, fun _ => rfl, fun _ _ => .inl rfl⟩, trivial⟩⟩, trivial⟩⟩
                        · conv => whnf
                          conv => whnf
                          conv => whnf
                          refine ⟨?_, nofun⟩
                          exact ave_br _ (broken_at hlt hltk h1 h2 (cond_yes w4 w5))
                    · conv => whnf
                      conv => whnf
                      conv => whnf
                      refine ⟨inK64 (by omega) (by omega), ?_⟩
                      conv => whnf
                      conv => whnf
                      conv => whnf
                      refine ⟨_, _, ⟨⟨k + 1, by omega, inv_nextB h2 (cond_ne w4), rfl, rfl⟩, by omega⟩, ⟨⟨.inl rfl, rfl, rfl, rfl⟩, ⟨⟨rfl, rfl, rfl, rfl, fun _ => rfl, fun _ _ => .inl rfl⟩, ⟨⟨rfl, rfl, rfl, rfl, fun _ => rfl, fun _ _ => .inl rfl⟩, trivial⟩⟩, trivial⟩⟩
        · (exfalso; omega)
      · have hrow : (rowB h l m).isSome = false := by
          have e : k = h.rules.length := by omega
          subst e
          unfold rowB
          rw [firstN_none h2]; rfl
        conv => whnf
        conv => whnf
        conv => whnf
        refine ifB_dec (fun w2 => ?_) (fun w2 => ?_)
        · (exfalso; omega)
        · conv => whnf
          conv => whnf
          conv => whnf
          refine ⟨inK64 (by omega) (by omega), ?_⟩
          conv => whnf
          conv => whnf
          conv => whnf
          refine ⟨_, _, ⟨⟨m + 1, by omega, inv_nextB h1 hrow, rfl, rfl⟩, by omega⟩, ⟨⟨.inl rfl, rfl, rfl, rfl⟩, ⟨⟨rfl, rfl, rfl, rfl, fun _ => rfl, fun _ _ => .inl rfl⟩, ⟨⟨rfl, rfl, rfl, rfl, fun _ => rfl, fun _ _ => .inl rfl⟩, trivial⟩⟩, trivial⟩⟩
    · (exfalso; omega)
  · conv => whnf
    conv => whnf
    refine ifB_dec (fun w1 => ?_) (fun w1 => ?_)
    · (exfalso; omega)
    · conv => whnf
      conv => whnf
      refine ⟨?_, nofun⟩
      exact ave_br0 _ (broken_none (by have e : m = l.length := by omega
                                       subst e; exact h1))

theorem other_true {l : List Int} {m i : Nat} {x : Int} (hi : i < l.length) (hne : i ≠ m) (he : l.getD i 0 = x) : otherB l m x = true := by
  unfold otherB
  rw [hasI_mem, List.mem_eraseIdx_iff_getElem]
  exact ⟨i, hi, hne, by simpa [List.getD_eq_getElem?_getD, hi] using he⟩
theorem other_false {l : List Int} {m : Nat} {x : Int} (h : ∀ i, i < l.length → i ≠ m → ¬ l.getD i 0 = x) : otherB l m x = false := by
  unfold otherB
  cases ho : hasI (l.eraseIdx m) x with
  | false => rfl
  | true =>
    rw [hasI_mem, List.mem_eraseIdx_iff_getElem] at ho
    obtain ⟨i, hi, hne, he⟩ := ho
    exact absurd (by simpa [List.getD_eq_getElem?_getD, hi] using he) (h i hi hne)
theorem S89 (l : List Int) (hl : l.length ≤ 1000) (m : Nat) (x : Int) : SP 89 [ints l, i64 m, i64 x] (vb (otherB l m x)) false := by
  refine sound (d := 2) tok2 mixed2 Tryd.func89 (by kernel_rfl) (by kernel_rfl) ?_
  conv => whnf
  refine ⟨[], [0, 1, 2, 7], fun st mq => ∃ (k : Nat), (k ≤ l.length) ∧ (∀ i, i < k → i ≠ m → ¬ l.getD i 0 = x) ∧ st = ⟨[(0, ints l), (1, i64 m), (2, i64 x), (7, i64 k)], ⟨[], [], none, 0⟩, []⟩ ∧ mq = l.length - k,
    ⟨_, _, ⟨0, by omega, fun i h => absurd h (Nat.not_lt_zero i), rfl, rfl⟩, ⟨⟨.inl rfl, rfl, rfl, rfl⟩, trivial, trivial⟩⟩, ?_⟩
  rintro s0 m0 ⟨k, hk, hf, rfl, hmeas⟩
  by_cases hlt : k < l.length
  · conv => whnf
    conv => whnf
    refine ifB_dec (fun w1 => ?_) (fun w1 => ?_)
    · conv => whnf
      conv => whnf
      refine ifB_bne (fun w2 => ?_) (fun w2 => ?_)
      · conv => whnf
        conv => whnf
        refine ⟨⟨(by omega), (by omega)⟩, ?_⟩
        conv => whnf
        conv => whnf
        refine ifB_beq (fun w3 => ?_) (fun w3 => ?_)
        · conv => whnf
          conv => whnf
          refine ⟨?_, nofun⟩
          exact endb (other_true hlt (by omega) w3).symm
        · conv => whnf
          conv => whnf
          refine ⟨inK64 (by omega) (by omega), ?_⟩
          conv => whnf
          conv => whnf
          refine ⟨_, _, ⟨⟨k + 1, by omega, fun i hi hne => (by rcases Nat.lt_succ_iff_lt_or_eq.1 hi with h | h; exact hf i h hne; rw [h]; exact w3), rfl, rfl⟩, by omega⟩, ⟨⟨.inl rfl, rfl, rfl, rfl⟩, trivial, trivial⟩⟩
      · conv => whnf
        conv => whnf
        refine ⟨inK64 (by omega) (by omega), ?_⟩
        conv => whnf
        conv => whnf
        refine ⟨_, _, ⟨⟨k + 1, by omega, fun i hi hne => (by rcases Nat.lt_succ_iff_lt_or_eq.1 hi with h | h; exact hf i h hne; omega), rfl, rfl⟩, by omega⟩, ⟨⟨.inl rfl, rfl, rfl, rfl⟩, trivial, trivial⟩⟩
    · (exfalso; omega)
  · conv => whnf
    conv => whnf
    refine ifB_dec (fun w1 => ?_) (fun w1 => ?_)
    · (exfalso; omega)
    · conv => whnf
      conv => whnf
      refine ⟨?_, nofun⟩
      have e : k = l.length := by omega
      subst e
      exact endb (other_false hf).symm
theorem S40 (h : Hal) (hr : h.rules.length ≤ 1000) (l : List Int) (hl : l.length ≤ 1000) : SP 40 [hallA h, ints l] (brA (brokenF h l)) false := by
  refine sound (d := 2) tok2 mixed2 Tryd.func40 (by kernel_rfl) (by kernel_rfl) ?_
  conv => whnf
  refine ⟨[], [1, 2, 4, 6], fun st mq => ∃ (m : Nat), (m ≤ l.length) ∧ (∀ j, j < m → (rowB h l j).isSome = false) ∧ st = ⟨[(1, ints l), (2, .optr 0 0 0 0), (4, .optr 1 0 0 0), (6, i64 m)], ⟨[⟨2, 1, fun _ => hallC h, 0, false, true, true⟩, ⟨2, 1, fun _ => [i64 0, i64 0], 0, false, true, true⟩], [], none, 0⟩, []⟩ ∧ mq = l.length - m,
    ⟨_, _, ⟨0, by omega, inv_noneB, rfl, rfl⟩, ⟨⟨.inl rfl, rfl, rfl, rfl⟩, ⟨⟨rfl, rfl, rfl, rfl, fun _ => rfl, fun _ _ => .inl rfl⟩, ⟨⟨rfl, rfl, rfl, rfl, fun _ => rfl, fun _ _ => .inl rfl⟩, trivial⟩⟩, trivial⟩⟩, ?_⟩
  rintro s0 m0 ⟨m, hm, h1, rfl, hmeas⟩
  by_cases hlt : m < l.length
  · conv => whnf
    conv => whnf
    refine ifB_dec (fun w1 => ?_) (fun w1 => ?_)
    · conv => whnf
      conv => whnf
      refine ⟨[], [1, 2, 4, 6, 7], fun st mq => ∃ (k : Nat), (k ≤ h.rules.length) ∧ (∀ j, j < k → condB h l m j = false) ∧ st = ⟨[(1, ints l), (2, .optr 0 0 0 0), (4, .optr 1 0 0 0), (6, i64 m), (7, i64 k)], ⟨[⟨2, 1, fun _ => hallC h, 0, false, true, true⟩, ⟨2, 1, fun _ => [i64 0, i64 0], 0, false, true, true⟩], [], none, 0⟩, []⟩ ∧ mq = h.rules.length - k,
        ⟨_, _, ⟨0, by omega, inv_noneB, rfl, rfl⟩, ⟨⟨.inl rfl, rfl, rfl, rfl⟩, ⟨⟨rfl, rfl, rfl, rfl, fun _ => rfl, fun _ _ => .inl rfl⟩, ⟨⟨rfl, rfl, rfl, rfl, fun _ => rfl, fun _ _ => .inl rfl⟩, trivial⟩⟩, trivial⟩⟩, ?_⟩
      rintro s0 m0 ⟨k, hk, h2, rfl, hmeas⟩
      by_cases hltk : k < h.rules.length
      · have h89 := fun x => S89 l hl m x
        conv => whnf
        conv => whnf
        conv => whnf
        refine ifB_dec (fun w2 => ?_) (fun w2 => ?_)
        · conv => whnf
          conv => whnf
          conv => whnf
          refine ⟨⟨(by omega), (by omega)⟩, ?_⟩
          conv => whnf
          conv => whnf
          conv => whnf
          refine ⟨[], by kernel_rfl, ?_⟩
          conv => whnf
          conv => whnf
          conv => whnf
          refine ⟨⟨(by omega), (by omega)⟩, ?_⟩
          conv => whnf
          conv => whnf
          conv => whnf
          refine ifB_beq (fun w3 => ?_) (fun w3 => ?_)
          · conv => whnf
            conv => whnf
            conv => whnf
            refine .inl ⟨_, _, byX rfl (Sound1.pl (h89 _) rfl), ?_⟩
            conv => whnf
            conv => whnf
            conv => whnf
            refine ifB_not ?_
            conv => whnf
            conv => whnf
            conv => whnf
            refine ifB_beqB (fun w4 => ?_) (fun w4 => ?_)
            · conv => whnf
              conv => whnf
              conv => whnf
              refine ⟨inK64 (by omega) (by omega), ?_⟩
              conv => whnf
              conv => whnf
              conv => whnf
              refine ⟨_, _, ⟨⟨k + 1, by omega, inv_nextB h2 (cond_no w3 w4), rfl, rfl⟩, by omega⟩, ⟨⟨.inl rfl, rfl, rfl, rfl⟩, ⟨⟨rfl, rfl, rfl, rfl, fun _ => rfl, fun _ _ => .inl rfl⟩, ⟨⟨rfl, rfl, rfl, rfl, fun _ => rfl, fun _ _ => .inl rfl⟩, trivial⟩⟩, trivial⟩⟩
            · conv => whnf
              conv => whnf
              conv => whnf
              refine ⟨?_, nofun⟩
              exact ave_br _ (broken_at hlt hltk h1 h2 (cond_yes w3 w4))
          · conv => whnf
            conv => whnf
            conv => whnf
            refine ⟨inK64 (by omega) (by omega), ?_⟩
            conv => whnf
            conv => whnf
            conv => whnf
            refine ⟨_, _, ⟨⟨k + 1, by omega, inv_nextB h2 (cond_ne w3), rfl, rfl⟩, by omega⟩, ⟨⟨.inl rfl, rfl, rfl, rfl⟩, ⟨⟨rfl, rfl, rfl, rfl, fun _ => rfl, fun _ _ => .inl rfl⟩, ⟨⟨rfl, rfl, rfl, rfl, fun _ => rfl, fun _ _ => .inl rfl⟩, trivial⟩⟩, trivial⟩⟩
        · (exfalso; omega)
      · have hrow : (rowB h l m).isSome = false := by
          have e : k = h.rules.length := by omega
          subst e
          unfold rowB
          rw [firstN_none h2]; rfl
        conv => whnf
        conv => whnf
        conv => whnf
        refine ifB_dec (fun w2 => ?_) (fun w2 => ?_)
        · (exfalso; omega)
        · conv => whnf
          conv => whnf
          conv => whnf
          refine ⟨inK64 (by omega) (by omega), ?_⟩
          conv => whnf
          conv => whnf
          conv => whnf
          refine ⟨_, _, ⟨⟨m + 1, by omega, inv_nextB h1 hrow, rfl, rfl⟩, by omega⟩, ⟨⟨.inl rfl, rfl, rfl, rfl⟩, ⟨⟨rfl, rfl, rfl, rfl, fun _ => rfl, fun _ _ => .inl rfl⟩, ⟨⟨rfl, rfl, rfl, rfl, fun _ => rfl, fun _ _ => .inl rfl⟩, trivial⟩⟩, trivial⟩⟩
    · (exfalso; omega)
  · conv => whnf
    conv => whnf
    refine ifB_dec (fun w1 => ?_) (fun w1 => ?_)
    · (exfalso; omega)
    · conv => whnf
      conv => whnf
      refine ⟨?_, nofun⟩
      exact ave_br0 _ (broken_none (by have e : m = l.length := by omega
                                       subst e; exact h1))

theorem S36 (l : List Int) (hl : l.length ≤ 1000000) : SP 36 [ints l] (ints l) true := by
  refine sound (d := 2) tok2 mixed2 Tryd.func36 (by kernel_rfl) (by kernel_rfl) ?_
  conv => whnf
  refine .inl ?_
  conv => whnf
  refine ⟨⟨(by omega), (by show _ * (8 + 1) ≤ _; omega)⟩, ?_⟩
  conv => whnf
  refine ⟨?_, fun _ => ⟨rfl, ?_⟩⟩
  · exact ⟨rfl, Nat.zero_add _, fun i hi => rfl⟩
  · exact ⟨fun i _ x hx => ⟨_, List.mem_singleton.1 hx⟩, trivial⟩
theorem S34 (h : Hal) (hr : h.rules.length ≤ 1000) : SP 34 [hallA h] (hallA h) false := by
  refine sound (d := 2) tok2 mixed2 Tryd.func34 (by kernel_rfl) (by kernel_rfl) ?_
  conv => whnf
  refine ⟨[], by kernel_rfl, ?_⟩
  conv => whnf
  refine .inl ?_
  conv => whnf
  refine ⟨⟨(by omega), (by show _ * (24 + 1) ≤ _; omega)⟩, ?_⟩
  conv => whnf
  refine ⟨?_, nofun⟩
  exact ave_agg2 (k := 4) rfl ⟨rfl, Nat.zero_add _, fun i hi => rfl⟩
theorem S32 (h : Hal) (l : List Int) : SP 32 [hallA h, ints l] (vb (decide (h.rules.length ≤ 14) && decide (l.length ≤ 8))) false := by
  refine sound (d := 2) tok2 mixed2 Tryd.func32 (by kernel_rfl) (by kernel_rfl) ?_
  conv => whnf
  refine ifB_dec (fun w1 => ?_) (fun w1 => ?_)
  · conv => whnf
    refine ⟨?_, nofun⟩
    refine endb ?_
    rw [decide_eq_true (show h.rules.length ≤ 14 by omega), Bool.true_and]
    exact decide_eq_decide.2 (by omega)
  · conv => whnf
    refine ⟨?_, nofun⟩
    refine endb ?_
    rw [decide_eq_false (show ¬ h.rules.length ≤ 14 by omega)]; rfl
def brokenR (h : Hal) (l : List Int) : AV :=
  if openH h l ≠ 0 then .tuple [stA (0, 0), i64 (openH h l)] else match brokenF h l with | none => .tuple [stA (0, 0), i64 12] | some x => .tuple [stA (x.1, x.2), i64 0]
theorem S35 (h : Hal) (hr : h.rules.length ≤ 1000) (l : List Int) (hl : l.length ≤ 1000) : SP 35 [hallA h, ints l] (brokenR h l) false := by
  have h85 := S85 h hr l (by omega)
  have h86 := S86 h hr l hl
  unfold brokenR
  by_cases h0 : openH h l = 0
  · rw [if_neg (not_not_intro h0)]
    rw [h0] at h85
    cases hb : brokenF h l with
    | none =>
      rw [hb] at h86
      refine sound (d := 2) tok2 mixed2 Tryd.func35 (by kernel_rfl) (by kernel_rfl) ?_
      conv => whnf
      refine .inl ⟨_, _, byX rfl (Sound1.pl (h85) rfl), ?_⟩
      conv => whnf
      refine .inl ⟨_, _, byX rfl (Sound1.pl (h86) rfl), ?_⟩
      conv => whnf
      refine ⟨[], by kernel_rfl, ?_⟩
      conv => whnf
      refine .inl ⟨_, _, byX rfl (Sound1.pl (S69 _ _) rfl), ?_⟩
      conv => whnf
      refine ⟨?_, nofun⟩
      exact ave_tup2 (ave_agg2 (k := 3) rfl rfl) rfl
    | some x =>
      rw [hb] at h86
      refine sound (d := 2) tok2 mixed2 Tryd.func35 (by kernel_rfl) (by kernel_rfl) ?_
      conv => whnf
      refine .inl ⟨_, _, byX rfl (Sound1.pl (h85) rfl), ?_⟩
      conv => whnf
      refine .inl ⟨_, _, byX rfl (Sound1.pl (h86) rfl), ?_⟩
      conv => whnf
      refine ⟨[], by kernel_rfl, ?_⟩
      conv => whnf
      refine .inl ⟨_, _, byX rfl (Sound1.pl (S69 _ _) rfl), ?_⟩
      conv => whnf
      refine ⟨?_, nofun⟩
      exact ave_tup2 (ave_agg2 (k := 3) rfl rfl) rfl
  · rw [if_pos h0]
    refine sound (d := 2) tok2 mixed2 Tryd.func35 (by kernel_rfl) (by kernel_rfl) ?_
    conv => whnf
    refine .inl ⟨_, _, byX rfl (Sound1.pl (h85) rfl), ?_⟩
    conv => whnf
    refine ifB_bne (fun w1 => ?_) (fun w1 => ?_)
    · conv => whnf
      refine ⟨?_, nofun⟩
      exact ave_tup2 (ave_agg2 (k := 3) rfl rfl) rfl
    · (exfalso; omega)
/-- The steps after a machine entered another one. -/
def enteredL (l : List Int) (x : Int × Int) : List Int := l.set x.1.toNat x.2
def enterE (h : Hal) (l : List Int) (x : Int × Int) : Int := if openH h l = 0 then (if decide (0 ≤ x.1 ∧ x.1 ≤ (l.length : Int) - 1) && isStepB x.2 then 0 else 6) else openH h l
def mayR (h : Hal) (l : List Int) (x : Int × Int) : AV :=
  if enterE h l x ≠ 0 then t2 0 (enterE h l x) else match brokenF h (enteredL l x) with | none => t2 0 0 | some y => t2 y.2 24
theorem entered_len (l : List Int) (x : Int × Int) : (enteredL l x).length = l.length := by unfold enteredL; simp
theorem S42 (l : List Int) (hl : l.length ≤ 1000) (x : Int × Int) (hx : 0 ≤ x.1 ∧ x.1 < l.length) : SP 42 [ints l, stA x] (ints (enteredL l x)) true := by
  have h36 := S36 l (by omega)
  refine sound (d := 2) tok2 mixed2 Tryd.func42 (by kernel_rfl) (by kernel_rfl) ?_
  conv => whnf
  refine .inl ⟨_, _, byX rfl (h36), ?_⟩
  conv => whnf
  refine ⟨⟨(by omega), (by omega)⟩, ?_⟩
  refine ⟨_, fun i _ => rowI _ _ i _ (by first | omega | (simp only [List.length_set]; omega) | (simp only [List.length_replicate]; omega) | (simp only [List.length_set, List.length_replicate]; omega)), ?_⟩
  conv => whnf
  refine ⟨?_, fun _ => ⟨rfl, ?_⟩⟩
  · exact ⟨rfl, (entered_len l x).symm, fun i hi => rfl⟩
  · exact ⟨fun i _ x hx => ⟨_, List.mem_singleton.1 hx⟩, trivial⟩
theorem S86n (h : Hal) (hr : h.rules.length ≤ 1000) (l : List Int) (hl : l.length ≤ 1000) {n : Nat} {f : Nat → List AV} (hn : n = l.length) (hf : ∀ i, i < n → f i = [i64 (l.getD i 0)]) : SP 86 [hallA h, .rslice 1 n f] (brA (brokenF h l)) false := by
  refine (S86 h hr l hl).argsD rfl fun i y z hy hz => ?_
  match i, hy, hz with
  | 0, hy, hz => cases hy; cases hz; exact .inl rfl
  | 1, hy, hz => cases hy; cases hz; exact .inr ⟨1, AVF_rows hn hf 0⟩
theorem enter_form (h : Hal) (l : List Int) (x : Int × Int) : firstOf [openH h l, if decide (0 ≤ x.1 ∧ x.1 ≤ (l.length : Int) - 1) && isStepB x.2 then 0 else 6] = enterE h l x := by
  rw [first2]
  unfold enterE
  by_cases h0 : openH h l = 0
  · rw [if_neg (not_not_intro h0), if_pos h0]
  · rw [if_pos h0, if_neg h0]
theorem enter_ok {h : Hal} {l : List Int} {x : Int × Int} (h0 : enterE h l x = 0) : openH h l = 0 ∧ (0 ≤ x.1 ∧ x.1 ≤ (l.length : Int) - 1) ∧ isStepB x.2 = true := by
  unfold enterE at h0
  split at h0
  · rename_i h1
    split at h0
    · rename_i h2
      rw [Bool.and_eq_true, decide_eq_true_iff] at h2
      exact ⟨h1, h2⟩
    · cases h0
  · rename_i h1; exact absurd h0 h1
theorem S37 (h : Hal) (hr : h.rules.length ≤ 1000) (l : List Int) (hl : l.length ≤ 1000) (x : Int × Int) : SP 37 [hallA h, ints l, stA x] (mayR h l x) false := by
  have h85 := S85 h hr l (by omega)
  have h86 := @S86n h hr (enteredL l x) (by rw [entered_len]; exact hl)
  have h78 := S78 x.1 0 ((l.length : Int) - 1)
  have h84 := S84 x.2
  have h87 := S87 l (by omega)
  have hform := enter_form h l x
  unfold mayR
  by_cases hE : enterE h l x = 0
  · obtain ⟨e1, e2, e3⟩ := enter_ok hE
    rw [if_neg (not_not_intro hE)]
    rw [e1] at h85
    rw [decide_eq_true e2] at h78
    rw [e3] at h84
    cases hb : brokenF h (enteredL l x) with
    | none =>
      rw [hb] at h86
      refine sound (d := 2) tok2 mixed2 Tryd.func37 (by kernel_rfl) (by kernel_rfl) ?_
      conv => whnf
      refine ⟨[], by kernel_rfl, ?_⟩
      conv => whnf
      refine .inl ⟨_, _, byX rfl (Sound1.pl (h85) rfl), ?_⟩
      conv => whnf
      refine ⟨inK64 (by omega) (by omega), ?_⟩
      conv => whnf
      refine .inl ⟨_, _, byX rfl (Sound1.pl (h78) rfl), ?_⟩
      conv => whnf
      refine .inl ⟨_, _, byX rfl (Sound1.pl (h84) rfl), ?_⟩
      conv => whnf
      refine .inl ⟨_, _, byX rfl (Sound1.pl (S69 _ _) rfl), ?_⟩
      conv => whnf
      refine .inl ⟨_, _, byX rfl (Sound1.pl (S83_2 _ _ ⟨rfl, rfl⟩) rfl), ?_⟩
      conv => whnf
      refine .inl ⟨_, _, byX rfl (h87), ?_⟩
      conv => whnf
      refine ⟨⟨(by omega), (by omega)⟩, ?_⟩
      refine ⟨_, fun i _ => rowI _ _ i _ (by first | omega | (simp only [List.length_set]; omega) | (simp only [List.length_replicate]; omega) | (simp only [List.length_set, List.length_replicate]; omega)), ?_⟩
      conv => whnf
      refine .inl ⟨_, _, byX rfl (Sound1.pl (h86 ?_ ?_) rfl), ?_⟩
      · exact (entered_len l x).symm
      · exact fun i hi => rfl
      · conv => whnf
        refine ⟨?_, nofun⟩
        exact ave_tup2 rfl rfl
    | some y =>
      rw [hb] at h86
      refine sound (d := 2) tok2 mixed2 Tryd.func37 (by kernel_rfl) (by kernel_rfl) ?_
      conv => whnf
      refine ⟨[], by kernel_rfl, ?_⟩
      conv => whnf
      refine .inl ⟨_, _, byX rfl (Sound1.pl (h85) rfl), ?_⟩
      conv => whnf
      refine ⟨inK64 (by omega) (by omega), ?_⟩
      conv => whnf
      refine .inl ⟨_, _, byX rfl (Sound1.pl (h78) rfl), ?_⟩
      conv => whnf
      refine .inl ⟨_, _, byX rfl (Sound1.pl (h84) rfl), ?_⟩
      conv => whnf
      refine .inl ⟨_, _, byX rfl (Sound1.pl (S69 _ _) rfl), ?_⟩
      conv => whnf
      refine .inl ⟨_, _, byX rfl (Sound1.pl (S83_2 _ _ ⟨rfl, rfl⟩) rfl), ?_⟩
      conv => whnf
      refine .inl ⟨_, _, byX rfl (h87), ?_⟩
      conv => whnf
      refine ⟨⟨(by omega), (by omega)⟩, ?_⟩
      refine ⟨_, fun i _ => rowI _ _ i _ (by first | omega | (simp only [List.length_set]; omega) | (simp only [List.length_replicate]; omega) | (simp only [List.length_set, List.length_replicate]; omega)), ?_⟩
      conv => whnf
      refine .inl ⟨_, _, byX rfl (Sound1.pl (h86 ?_ ?_) rfl), ?_⟩
      · exact (entered_len l x).symm
      · exact fun i hi => rfl
      · conv => whnf
        refine ⟨?_, nofun⟩
        exact ave_tup2 rfl rfl
  · rw [if_pos hE]
    refine sound (d := 2) tok2 mixed2 Tryd.func37 (by kernel_rfl) (by kernel_rfl) ?_
    by_cases hw : 0 ≤ x.1 ∧ x.1 ≤ (l.length : Int) - 1
    · rw [decide_eq_true hw] at h78
      rw [decide_eq_true hw, Bool.true_and] at hform
      rw [← hform] at hE ⊢
      conv => whnf
      refine ⟨[], by kernel_rfl, ?_⟩
      conv => whnf
      refine .inl ⟨_, _, byX rfl (Sound1.pl (h85) rfl), ?_⟩
      conv => whnf
      refine ⟨inK64 (by omega) (by omega), ?_⟩
      conv => whnf
      refine .inl ⟨_, _, byX rfl (Sound1.pl (h78) rfl), ?_⟩
      conv => whnf
      refine .inl ⟨_, _, byX rfl (Sound1.pl (h84) rfl), ?_⟩
      conv => whnf
      refine .inl ⟨_, _, byX rfl (Sound1.pl (S69 _ _) rfl), ?_⟩
      conv => whnf
      refine .inl ⟨_, _, byX rfl (Sound1.pl (S83_2 _ _ ⟨rfl, rfl⟩) rfl), ?_⟩
      conv => whnf
      refine ifB_bne (fun w1 => ?_) (fun w1 => ?_)
      · conv => whnf
        refine ⟨?_, nofun⟩
        exact ave_tup2 rfl rfl
      · (exfalso; omega)
    · rw [decide_eq_false hw] at h78
      rw [decide_eq_false hw, Bool.false_and] at hform
      rw [← hform] at hE ⊢
      conv => whnf
      refine ⟨[], by kernel_rfl, ?_⟩
      conv => whnf
      refine .inl ⟨_, _, byX rfl (Sound1.pl (h85) rfl), ?_⟩
      conv => whnf
      refine ⟨inK64 (by omega) (by omega), ?_⟩
      conv => whnf
      refine .inl ⟨_, _, byX rfl (Sound1.pl (h78) rfl), ?_⟩
      conv => whnf
      refine .inl ⟨_, _, byX rfl (Sound1.pl (S69 _ _) rfl), ?_⟩
      conv => whnf
      refine .inl ⟨_, _, byX rfl (Sound1.pl (S83_2 _ _ ⟨rfl, rfl⟩) rfl), ?_⟩
      conv => whnf
      refine ifB_bne (fun w1 => ?_) (fun w1 => ?_)
      · conv => whnf
        refine ⟨?_, nofun⟩
        exact ave_tup2 rfl rfl
      · (exfalso; omega)
end Go.Tr

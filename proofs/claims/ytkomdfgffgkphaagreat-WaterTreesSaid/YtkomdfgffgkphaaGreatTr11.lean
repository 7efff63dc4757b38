/- Plain laws of chapter 2: cuts. Conditions: none. -/
import Derived.Test.YtkomdfgffgkphaaGreatTr10
import Derived.Test.YtkomdfgffgkphaaGreatTr07
import Derived.Test.YtkomdfgffgkphaaGreatTr06
import Derived.Test.YtkomdfgffgkphaaGreatRows
import Derived.Test.YtkomdfgffgkphaaGreatTr05
import Derived.ProofKit

namespace Go.Tr
open Go Go.Proofs
set_option maxRecDepth 20000
set_option maxHeartbeats 8000000

theorem vbEq {k : Nat} {a b : Bool} (h : a = b) : AVE (k + 1) (.val (.bool a)) (vb b) := by subst h; rfl
/-- The first set of so many of some numbers, behind others, for which something holds. -/
def findS (P : List Int → Bool) : List Int → Nat → List Int → Option (List Int)
  | _, 0, b => if P b then some b else none
  | [], _ + 1, _ => none
  | x :: r, n + 1, b => match findS P r n (b ++ [x]) with
    | some s => some s
    | none => findS P r (n + 1) b
def resS (P : List Int → Bool) (r : List Int) (n : Nat) (b : List Int) : List Int × Bool :=
  match n with
  | 0 => (b, P b)
  | n + 1 => match findS P r (n + 1) b with
    | some s => (s, true)
    | none => ([], false)
theorem findS_zero (P : List Int → Bool) (r b : List Int) : findS P r 0 b = if P b then some b else none := by cases r <;> rfl
theorem resS_some {P : List Int → Bool} {r : List Int} {n : Nat} {b s : List Int} (h : findS P r n b = some s) : resS P r n b = (s, true) := by
  cases n with
  | zero =>
    rw [findS_zero] at h
    split at h
    · rename_i e
      cases h
      show (b, P b) = _
      rw [e]
    · cases h
  | succ n => unfold resS; simp only [h]
theorem resS_none {P : List Int → Bool} {r : List Int} {n : Nat} {b : List Int} (h : findS P r n b = none) : (resS P r n b).2 = false := by
  cases n with
  | zero =>
    rw [findS_zero] at h
    split at h
    · cases h
    · rename_i e
      exact Bool.eq_false_iff.2 e
  | succ n => unfold resS; simp only [h]
theorem resS_two (P : List Int → Bool) (r : List Int) (n : Nat) (b : List Int) : (∃ s, findS P r n b = some s ∧ resS P r n b = (s, true)) ∨ (findS P r n b = none ∧ (resS P r n b).2 = false) := by
  cases h : findS P r n b with
  | some s => exact .inl ⟨s, rfl, resS_some h⟩
  | none => exact .inr ⟨rfl, resS_none h⟩
theorem findS_drop {P : List Int → Bool} {r b : List Int} {n k : Nat} (h : k < r.length) : findS P (r.drop k) (n + 1) b = match findS P (r.drop (k + 1)) n (b ++ [r.getD k 0]) with
    | some s => some s
    | none => findS P (r.drop (k + 1)) (n + 1) b := by
  have e : r.getD k 0 = r[k] := by simp [List.getD_eq_getElem?_getD, h]
  rw [List.drop_eq_getElem_cons h, findS, e]
/-- What is found holds, and is made of what was given. -/
theorem findS_mem {P : List Int → Bool} : ∀ (r : List Int) (n : Nat) (b s : List Int), findS P r n b = some s → P s = true ∧ ∀ x ∈ s, x ∈ b ∨ x ∈ r
  | r, 0, b, s, h => by
    rw [findS_zero] at h
    split at h
    · cases h; exact ⟨by assumption, fun x hx => .inl hx⟩
    · cases h
  | [], n + 1, b, s, h => by cases h
  | x :: r, n + 1, b, s, h => by
    rw [findS] at h
    split at h
    · rename_i s' e
      cases h
      have := findS_mem r n _ _ e
      refine ⟨this.1, fun y hy => ?_⟩
      rcases this.2 y hy with h | h
      · rcases List.mem_append.1 h with h | h
        · exact .inl h
        · rw [List.mem_singleton] at h; exact .inr (by simp [h])
      · exact .inr (by simp [h])
    · have := findS_mem r (n + 1) b s h
      exact ⟨this.1, fun y hy => (this.2 y hy).imp id fun h => by simp [h]⟩
/-- All of them. -/
theorem findS_big {P : List Int → Bool} : ∀ (r : List Int) (n : Nat) (b : List Int), r.length < n → findS P r n b = none
  | r, 0, b, h => by omega
  | [], n + 1, b, _ => rfl
  | x :: r, n + 1, b, h => by
    simp only [List.length_cons] at h
    rw [findS, findS_big r n _ (by omega), findS_big r (n + 1) b (by omega)]
theorem findS_all {P : List Int → Bool} : ∀ (r b : List Int), findS P r r.length b = if P (b ++ r) then some (b ++ r) else none
  | [], b => by rw [List.append_nil]; rfl
  | x :: r, b => by
    rw [List.length_cons, findS, findS_all r (b ++ [x]), findS_big r (r.length + 1) b (by omega), List.append_assoc]
    show (match if P (b ++ x :: r) = true then some (b ++ x :: r) else none with | some s => some s | none => none) = _
    cases P (b ++ x :: r) <;> rfl
/-- The first number for which something is found. -/
def firstN (f : Nat → Option (List Int)) : Nat → Nat → Option (List Int)
  | 0, _ => none
  | n + 1, k => match f k with
    | some s => some s
    | none => firstN f n (k + 1)
theorem firstN_none {f : Nat → Option (List Int)} (h : ∀ k, f k = none) : ∀ n k, firstN f n k = none
  | 0, _ => rfl
  | n + 1, k => by rw [firstN, h k, firstN_none h n]
theorem firstN_snoc {f : Nat → Option (List Int)} : ∀ n k, firstN f (n + 1) k = match firstN f n k with | some s => some s | none => f (k + n)
  | 0, k => by
    rw [firstN, firstN, Nat.add_zero]
    cases f k <;> rfl
  | n + 1, k => by
    rw [firstN, firstN_snoc n (k + 1)]
    conv => rhs; rw [firstN]
    cases f k with
    | some s => rfl
    | none => rw [show k + 1 + n = k + (n + 1) by omega]
/-- The minimum cut, as the program finds it. -/
def cutP (P : List Int → Bool) (V : List Int) : Option (List Int) := firstN (fun n => findS P V n []) (V.length + 1) 0
/-- As the reference says it. -/
theorem cutP_ref {P : List Int → Bool} {V : List Int} (hm : ∀ s, (∀ x ∈ s, x ∈ V) → P s = true → P V = true) :
    cutP P V = if P V then (match firstN (fun n => findS P V n []) V.length 0 with | some s => some s | none => some V) else none := by
  unfold cutP
  split
  · rename_i h
    rw [firstN_snoc, Nat.zero_add, findS_all V [], List.nil_append, if_pos h]
  · rename_i h
    refine firstN_none (fun k => ?_) _ _
    cases e : findS P V k [] with
    | none => rfl
    | some s =>
      have := findS_mem V k [] s e
      exact absurd (hm s (fun x hx => (this.2 x hx).resolve_left (by simp)) this.1) h

/-! ### Fewer conduits reach less -/
def leM (m m' : List Bool) : Prop := m.length = m'.length ∧ ∀ i, m.getD i false = true → m'.getD i false = true
theorem touch_get {m : List Bool} {a b : Nat} (ha : a < m.length) (hb : b < m.length) (i : Nat) : (touch m a b).getD i false = (m.getD i false || ((i == a || i == b) && (m.getD a false || m.getD b false))) := by
  rw [← touch_or]
  by_cases h : (m.getD a false || m.getD b false) = true
  · rw [if_pos h, getD_set, getD_set, h]
    by_cases h1 : i = b
    · rw [if_pos ⟨h1, by simpa using hb⟩, h1]; simp
    · rw [if_neg (fun e => h1 e.1)]
      by_cases h2 : i = a
      · rw [if_pos ⟨h2, ha⟩, h2]; simp
      · rw [if_neg (fun e => h2 e.1)]
        have e1 : (i == a) = false := by simpa using h2
        have e2 : (i == b) = false := by simpa using h1
        rw [e1, e2]; simp
  · have h' : (m.getD a false || m.getD b false) = false := Bool.eq_false_iff.2 h
    rw [if_neg h, h']; simp
theorem touch_le {m m' : List Bool} {a b : Nat} (ha : a < m.length) (hb : b < m.length) (h : leM m m') : leM (touch m a b) (touch m' a b) := by
  have hl := h.1
  refine ⟨by rw [touch_len, touch_len, hl], fun i hi => ?_⟩
  rw [touch_get ha hb] at hi
  rw [touch_get (by omega) (by omega)]
  simp only [Bool.or_eq_true, Bool.and_eq_true] at hi ⊢
  rcases hi with hi | ⟨h1, h2⟩
  · exact .inl (h.2 i hi)
  · exact .inr ⟨h1, h2.imp (h.2 a) (h.2 b)⟩
theorem touch_ge {m : List Bool} {a b : Nat} (ha : a < m.length) (hb : b < m.length) : leM m (touch m a b) := by
  refine ⟨(touch_len m a b).symm, fun i hi => ?_⟩
  rw [touch_get ha hb, hi]; rfl
theorem leM_trans {a b c : List Bool} (h1 : leM a b) (h2 : leM b c) : leM a c := ⟨h1.1.trans h2.1, fun i hi => h2.2 i (h1.2 i hi)⟩
theorem sweep_le {use use' : Nat → Bool} (hu : ∀ i, use i = true → use' i = true) : ∀ (cs : List Cn) (k : Nat) (m m' : List Bool), inR m.length cs → leM m m' → leM (sweep use k cs m) (sweep use' k cs m')
  | [], k, m, m', _, h => h
  | c :: r, k, m, m', hr, h => by
    have hc := hr c (by simp)
    have hl := h.1
    rw [sweep, sweep]
    have hA : leM (if use k = true then touch m c.fr.toNat c.to.toNat else m) (if use' k = true then touch m' c.fr.toNat c.to.toNat else m') := by
      cases h1 : use k with
      | true =>
        rw [hu k h1]
        simp only [if_true]
        exact touch_le (by omega) (by omega) h
      | false =>
        simp only [Bool.false_eq_true, if_false]
        split
        · exact leM_trans h (touch_ge (by omega) (by omega))
        · exact h
    refine sweep_le hu r (k + 1) _ _ (fun x hx => ?_) hA
    have : (if use k = true then touch m c.fr.toNat c.to.toNat else m).length = m.length := by split; exact touch_len _ _ _; rfl
    rw [this]
    exact hr x (by simp [hx])
theorem iterF_le {use use' : Nat → Bool} (hu : ∀ i, use i = true → use' i = true) {cs : List Cn} : ∀ (n : Nat) (m m' : List Bool), inR m.length cs → leM m m' → leM (iterF use cs n m) (iterF use' cs n m')
  | 0, m, m', _, h => h
  | n + 1, m, m', hr, h => by
    rw [iterF, iterF]
    exact iterF_le hu n _ _ (by rw [sweep_len]; exact hr) (sweep_le hu cs 0 m m' hr h)
theorem clo_le {use use' : Nat → Bool} (hu : ∀ i, use i = true → use' i = true) {cs : List Cn} {m : List Bool} (hr : inR m.length cs) : leM (clo use cs m) (clo use' cs m) :=
  iterF_le hu _ m m hr ⟨rfl, fun _ h => h⟩
/-- What is reached depends on the ends, and on what may be used. -/
theorem sweep_congr {use use' : Nat → Bool} : ∀ (cs cs' : List Cn) (k : Nat) (m : List Bool), cs.length = cs'.length → (∀ i, i < cs.length → (cs.getD i cn0).fr = (cs'.getD i cn0).fr ∧ (cs.getD i cn0).to = (cs'.getD i cn0).to ∧ use (k + i) = use' (k + i)) → sweep use k cs m = sweep use' k cs' m
  | [], [], k, m, _, _ => rfl
  | [], c :: r, k, m, h, _ => by simp at h
  | c :: r, [], k, m, h, _ => by simp at h
  | c :: r, c' :: r', k, m, hl, h => by
    have h0 := h 0 (by simp)
    simp only [List.getD_cons_zero, Nat.add_zero] at h0
    rw [sweep, sweep, h0.1, h0.2.1, h0.2.2]
    refine sweep_congr r r' (k + 1) _ (by simpa using hl) fun i hi => ?_
    have := h (i + 1) (by simpa using hi)
    simp only [List.getD_cons_succ] at this
    rw [show k + 1 + i = k + (i + 1) by omega]
    exact this
theorem clo_congr {use use' : Nat → Bool} {cs cs' : List Cn} (m : List Bool) (hl : cs.length = cs'.length) (h : ∀ i, i < cs.length → (cs.getD i cn0).fr = (cs'.getD i cn0).fr ∧ (cs.getD i cn0).to = (cs'.getD i cn0).to ∧ use i = use' i) : clo use cs m = clo use' cs' m := by
  have hs : ∀ m, sweep use 0 cs m = sweep use' 0 cs' m := fun m => sweep_congr cs cs' 0 m hl fun i hi => by rw [Nat.zero_add]; exact h i hi
  have : ∀ n m, iterF use cs n m = iterF use' cs' n m := by
    intro n
    induction n with
    | zero => intro m; rfl
    | succ n ih => intro m; rw [iterF, iterF, hs, ih]
  exact this _ _

/-- Conduits closed. -/
def closeC (cs : List Cn) (s : List Int) : List Cn := s.foldl (fun cs x => cs.set x.toNat { cs.getD x.toNat cn0 with opn := false }) cs
def closeN (N : Net) (s : List Int) : Net := ⟨N.ns, closeC N.cs s⟩
theorem close1_get (cs : List Cn) (x i : Nat) (hx : x < cs.length) : (cs.set x { cs.getD x cn0 with opn := false }).getD i cn0 = if i = x then { cs.getD x cn0 with opn := false } else cs.getD i cn0 := by
  simp only [List.getD_eq_getElem?_getD, List.getElem?_set]
  by_cases h : x = i
  · subst h; simp [hx]
  · rw [if_neg h, if_neg (fun e => h e.symm)]
theorem closeC_get : ∀ (s : List Int) (cs : List Cn), (∀ x ∈ s, 0 ≤ x ∧ x < cs.length) → (closeC cs s).length = cs.length ∧ ∀ i, i < cs.length → ((closeC cs s).getD i cn0).fr = (cs.getD i cn0).fr ∧ ((closeC cs s).getD i cn0).to = (cs.getD i cn0).to ∧ ((closeC cs s).getD i cn0).valve = (cs.getD i cn0).valve ∧ ((closeC cs s).getD i cn0).opn = ((cs.getD i cn0).opn && !s.contains (i : Int))
  | [], cs, _ => ⟨rfl, fun i _ => ⟨rfl, rfl, rfl, by simp [closeC]⟩⟩
  | x :: r, cs, h => by
    have hx := h x (by simp)
    have ih := closeC_get r (cs.set x.toNat { cs.getD x.toNat cn0 with opn := false }) (fun y hy => by rw [List.length_set]; exact h y (by simp [hy]))
    rw [List.length_set] at ih
    refine ⟨ih.1, fun i hi => ?_⟩
    have e := close1_get cs x.toNat i (by omega)
    obtain ⟨a, b, c, d⟩ := ih.2 i hi
    rw [e] at a b c d
    have hc : (x :: r).contains (i : Int) = ((i : Int) == x || r.contains (i : Int)) := by rw [List.contains_cons]
    refine ⟨?_, ?_, ?_, ?_⟩
    · show ((closeC _ r).getD i cn0).fr = _
      rw [a]; split
      · rename_i e; rw [e]
      · rfl
    · show ((closeC _ r).getD i cn0).to = _
      rw [b]; split
      · rename_i e; rw [e]
      · rfl
    · show ((closeC _ r).getD i cn0).valve = _
      rw [c]; split
      · rename_i e; rw [e]
      · rfl
    · show ((closeC _ r).getD i cn0).opn = _
      rw [d, hc]
      by_cases e : i = x.toNat
      · rw [if_pos e]
        have : ((i : Int) == x) = true := by simp; omega
        rw [this]; simp
      · rw [if_neg e]
        have : ((i : Int) == x) = false := by simp; omega
        rw [this]; simp
/-- Which conduits may be used behind a set. -/
def useS (N : Net) (s : List Int) (i : Nat) : Bool := opnU N i && !s.contains (i : Int)
/-- Is a set a cut? (who may use what is not in it does not get there) -/
def cutB (N : Net) (w : Int × Int) (s : List Int) : Bool := !(clo (useS N s) N.cs (marks N.ns.length [w.1])).getD w.2.toNat false
theorem close_reach {N : Net} {s : List Int} (hs : ∀ x ∈ s, 0 ≤ x ∧ x < N.cs.length) (k : Int) : reachB (closeN N s) k = clo (useS N s) N.cs (marks N.ns.length [k]) := by
  have h := closeC_get s N.cs hs
  unfold reachB
  refine clo_congr _ h.1 fun i hi => ?_
  have hi' : i < N.cs.length := by rw [← h.1]; exact hi
  obtain ⟨a, b, _, d⟩ := h.2 i hi'
  exact ⟨a, b, d⟩
theorem close_inR {N : Net} {s : List Int} (hs : ∀ x ∈ s, 0 ≤ x ∧ x < N.cs.length) (hr : inR N.ns.length N.cs) : inR N.ns.length (closeC N.cs s) := fun c hc => by
  have h := closeC_get s N.cs hs
  obtain ⟨i, hi, e⟩ := List.getElem_of_mem hc
  have hi' : i < N.cs.length := by rw [← h.1]; exact hi
  have e2 : (closeC N.cs s).getD i cn0 = c := by rw [List.getD_eq_getElem?_getD, List.getElem?_eq_getElem hi, Option.getD_some]; exact e
  have := h.2 i hi'
  rw [e2] at this
  rw [this.1, this.2.1]
  exact hr (N.cs.getD i cn0) (by simp [List.getD_eq_getElem?_getD, hi'])
/-- More closed, less reached. -/
theorem cut_mono {N : Net} {w : Int × Int} (hr : inR N.ns.length N.cs) {s t : List Int} (h : ∀ x ∈ s, x ∈ t) (hs : cutB N w s = true) : cutB N w t = true := by
  have hle := clo_le (use := useS N t) (use' := useS N s) (fun i hi => by
    unfold useS at hi ⊢
    rw [Bool.and_eq_true] at hi ⊢
    refine ⟨hi.1, ?_⟩
    cases hc : s.contains (i : Int) with
    | false => rfl
    | true =>
      rw [List.contains_iff_mem] at hc
      have := h _ hc
      rw [← List.contains_iff_mem] at this
      rw [this] at hi
      exact hi.2) (cs := N.cs) (m := marks N.ns.length [w.1]) (by rw [marks_len]; exact hr)
  unfold cutB at hs ⊢
  cases hc : (clo (useS N t) N.cs (marks N.ns.length [w.1])).getD w.2.toNat false with
  | false => rfl
  | true => rw [hle.2 _ hc] at hs; exact hs
/-- All open valves. -/
def valsF (N : Net) : List Int := whereF 0 (N.cs.map fun c => c.valve && c.opn)
theorem whereF_memI : ∀ (l : List Bool) (k : Nat) (x : Int), x ∈ whereF k l ↔ ∃ i, i < l.length ∧ x = (k + i : Nat) ∧ l.getD i false = true
  | [], k, x => by simp [whereF]
  | b :: r, k, x => by
    have ih := whereF_memI r (k + 1) x
    constructor
    · intro h
      have h' : (b = true ∧ x = k) ∨ x ∈ whereF (k + 1) r := by
        rw [whereF] at h
        split at h
        · rename_i e
          rcases List.mem_cons.1 h with h | h
          · exact .inl ⟨e, h⟩
          · exact .inr h
        · exact .inr h
      rcases h' with ⟨e, h⟩ | h
      · exact ⟨0, by simp, by simpa using h, by simpa using e⟩
      · obtain ⟨i, h1, h2, h3⟩ := ih.1 h
        exact ⟨i + 1, by simpa using h1, by rw [h2]; omega, by simpa using h3⟩
    · rintro ⟨i, h1, h2, h3⟩
      rw [whereF]
      cases i with
      | zero =>
        rw [if_pos (by simpa using h3)]
        exact List.mem_cons.2 (.inl (by simpa using h2))
      | succ i =>
        have : x ∈ whereF (k + 1) r := ih.2 ⟨i, by simpa using h1, by rw [h2]; omega, by simpa using h3⟩
        split
        · exact List.mem_cons.2 (.inr this)
        · exact this
theorem vals_mem (N : Net) (x : Int) (h : x ∈ valsF N) : 0 ≤ x ∧ x < N.cs.length ∧ (N.cs.getD x.toNat cn0).opn = true ∧ (N.cs.getD x.toNat cn0).valve = true := by
  obtain ⟨i, h1, h2, h3⟩ := (whereF_memI _ _ _).1 h
  rw [List.length_map] at h1
  rw [Nat.zero_add] at h2
  subst h2
  have e : (N.cs.map fun c => c.valve && c.opn).getD i false = ((N.cs.getD i cn0).valve && (N.cs.getD i cn0).opn) := by
    simp [List.getD_eq_getElem?_getD, h1]
  rw [e, Bool.and_eq_true] at h3
  exact ⟨by omega, by omega, h3.2, h3.1⟩
end Go.Tr

/- Chapter 2, the seat of WaterTrees (alias Tryz): sorted numbers, the conduits of a tree. Conditions: none. -/
namespace Go.Tr
open Go Go.Proofs
set_option maxRecDepth 20000
set_option maxHeartbeats 8000000

/-! ### Plain -/
theorem strict_eq : ∀ (a b : List Int), a.Pairwise (· < ·) → b.Pairwise (· < ·) → (∀ x, x ∈ a ↔ x ∈ b) → a = b
  | [], [], _, _, _ => rfl
  | [], y :: s, _, _, h => by have := (h y).2 (by simp); simp at this
  | x :: r, [], _, _, h => by have := (h x).1 (by simp); simp at this
  | x :: r, y :: s, ha, hb, h => by
    rw [List.pairwise_cons] at ha hb
    have e : x = y := by
      have h1 := (h x).1 (by simp)
      have h2 := (h y).2 (by simp)
      rcases List.mem_cons.1 h1 with e | h1
      · exact e
      · rcases List.mem_cons.1 h2 with e | h2
        · exact e.symm
        · have := ha.1 y h2
          have := hb.1 x h1
          omega
    subst e
    rw [strict_eq r s ha.2 hb.2 fun z => ?_]
    constructor
    · intro hz
      have := (h z).1 (by simp [hz])
      rcases List.mem_cons.1 this with e | h1
      · subst e; have := ha.1 z hz; omega
      · exact h1
    · intro hz
      have := (h z).2 (by simp [hz])
      rcases List.mem_cons.1 this with e | h1
      · subst e; have := hb.1 z hz; omega
      · exact h1
theorem whereF_lt : ∀ (l : List Bool) (k : Nat), (whereF k l).Pairwise (· < ·)
  | [], k => by simp [whereF]
  | b :: r, k => by
    have ih := whereF_lt r (k + 1)
    rw [whereF]
    split
    · rw [List.pairwise_cons]
      refine ⟨fun y hy => ?_, ih⟩
      obtain ⟨i, _, h2, _⟩ := (whereF_memI r (k + 1) y).1 hy
      omega
    · exact ih
/-- In order, as far as a place. -/
def SortTo (a : List Int) (n : Nat) : Prop := ∀ p q, p < q → q < n → a.getD p 0 ≤ a.getD q 0
/-- In order but for one that sinks. -/
structure Sink (a : List Int) (j n : Nat) : Prop where
  lo : ∀ p q, p < q → q < j → a.getD p 0 ≤ a.getD q 0
  hi : ∀ p q, j ≤ p → p < q → q < n → a.getD p 0 ≤ a.getD q 0
  cr : ∀ p q, p < j → j < q → q < n → a.getD p 0 ≤ a.getD q 0
def swapL (a : List Int) (j : Nat) : List Int := (a.set j (a.getD (j - 1) 0)).set (j - 1) (a.getD j 0)
theorem swapL_perm {a : List Int} {j : Nat} (h : j < a.length) : (swapL a j).Perm a := by
  have h1 : j - 1 < a.length := by omega
  have e1 : a.getD (j - 1) 0 = a[j - 1] := by simp [List.getD_eq_getElem?_getD, h1]
  have e2 : a.getD j 0 = a[j] := by simp [List.getD_eq_getElem?_getD, h]
  unfold swapL
  rw [e1, e2]
  exact List.set_set_perm h h1
theorem swapL_get {a : List Int} {j : Nat} (h0 : 0 < j) (h : j < a.length) (i : Nat) : (swapL a j).getD i 0 = if i = j - 1 then a.getD j 0 else if i = j then a.getD (j - 1) 0 else a.getD i 0 := by
  unfold swapL
  rw [getD_setI, getD_setI]
  by_cases h1 : i = j - 1
  · rw [if_pos ⟨h1, by rw [List.length_set]; omega⟩, if_pos h1]
  · rw [if_neg (fun e => h1 e.1), if_neg h1]
    by_cases h2 : i = j
    · rw [if_pos ⟨h2, h⟩, if_pos h2]
    · rw [if_neg (fun e => h2 e.1), if_neg h2]
theorem sink_swap {a : List Int} {j n : Nat} (h0 : 0 < j) (h : j < a.length) (hn : j < n) (hs : Sink a j n) (hlt : a.getD j 0 < a.getD (j - 1) 0) : Sink (swapL a j) (j - 1) n := by
  have g := swapL_get h0 h
  refine ⟨fun p q h1 h2 => ?_, fun p q h1 h2 h3 => ?_, fun p q h1 h2 h3 => ?_⟩
  · rw [g, g, if_neg (by omega), if_neg (by omega), if_neg (by omega), if_neg (by omega)]
    exact hs.lo p q h1 (by omega)
  · rw [g, g]
    by_cases e1 : p = j - 1
    · rw [if_pos e1, if_neg (show ¬ q = j - 1 by omega)]
      by_cases e2 : q = j
      · rw [if_pos e2]; omega
      · rw [if_neg e2]
        exact hs.hi j q (Nat.le_refl _) (by omega) h3
    · rw [if_neg e1, if_neg (show ¬ q = j - 1 by omega)]
      by_cases e2 : p = j
      · rw [if_pos e2, if_neg (by omega)]
        exact hs.cr (j - 1) q (by omega) (by omega) h3
      · rw [if_neg e2, if_neg (by omega)]
        exact hs.hi p q (by omega) h2 h3
  · rw [g, g, if_neg (show ¬ p = j - 1 by omega), if_neg (show ¬ p = j by omega), if_neg (show ¬ q = j - 1 by omega)]
    by_cases e2 : q = j
    · rw [if_pos e2]; exact hs.lo p (j - 1) (by omega) (by omega)
    · rw [if_neg e2]; exact hs.cr p q (by omega) (by omega) h3
theorem sink_end {a : List Int} {j n : Nat} (hs : Sink a j n) (h : j = 0 ∨ a.getD (j - 1) 0 ≤ a.getD j 0) : SortTo a n := fun p q h1 h2 => by
  by_cases e1 : q < j
  · exact hs.lo p q h1 e1
  · by_cases e2 : j ≤ p
    · exact hs.hi p q e2 h1 h2
    · by_cases e3 : q = j
      · subst e3
        rcases h with h | h
        · omega
        · by_cases e4 : p = q - 1
          · rw [e4]; exact h
          · exact Int.le_trans (hs.lo p (q - 1) (by omega) (by omega)) h
      · exact hs.cr p q (by omega) (by omega) h2
theorem sink_start {a : List Int} {i : Nat} (h : SortTo a i) : Sink a i (i + 1) :=
  ⟨h, fun p q h1 h2 h3 => by omega, fun p q h1 h2 h3 => by omega⟩
theorem sortTo_pair {a : List Int} (h : SortTo a a.length) : a.Pairwise (· ≤ ·) := by
  rw [List.pairwise_iff_getElem]
  intro i j hi hj hij
  have := h i j hij hj
  simpa [List.getD_eq_getElem?_getD, hi, hj] using this

section
variable {n : Nat} {cs : List Cn}
theorem tree_nodup (hr : inR n cs) : ∀ (l : List (Int × Int)) (m : List Bool), m.length = n → TreeOk n cs m l → (l.map (·.1)).Nodup
  | [], m, _, _ => by simp
  | b :: r, m, hm, ht => by
    rw [List.map_cons, List.nodup_cons]
    refine ⟨fun h => ?_, tree_nodup hr r _ (by simpa using hm) ht.2⟩
    obtain ⟨x, hx, e⟩ := List.mem_map.1 h
    exact tree_dist hm hr ht x hx e
end
/-- The conduits of a tree, in order. -/
def treeL (N : Net) : List Int := whereF 0 ((List.range N.cs.length).map fun i : Nat => ((brF N).map (·.1)).contains (i : Int))
theorem treeL_eq {N : Net} (hr : inR N.ns.length N.cs) {a : List Int} (hp : a.Perm ((brF N).map (·.1))) (hs : SortTo a a.length) : a = treeL N := by
  have ht := (brF_tree hr).1
  have hnd : a.Nodup := hp.nodup_iff.2 (tree_nodup hr _ _ (lakesB_len N) ht)
  have hrg := tree_range _ _ ht
  refine strict_eq a _ ?_ (whereF_lt _ _) fun x => ?_
  · have h1 := sortTo_pair hs
    have h2 : a.Pairwise (fun x y => x ≤ y ∧ x ≠ y) := List.Pairwise.and h1 hnd
    exact h2.imp fun h => by omega
  · unfold treeL
    rw [hp.mem_iff, whereF_memI]
    constructor
    · intro h
      obtain ⟨b, hb, e⟩ := List.mem_map.1 h
      have := hrg b hb
      refine ⟨b.1.toNat, by simp; omega, by omega, ?_⟩
      have e2 : ((List.range N.cs.length).map fun i : Nat => ((brF N).map (·.1)).contains (i : Int)).getD b.1.toNat false = ((brF N).map (·.1)).contains ((b.1.toNat : Nat) : Int) := by
        simp [List.getD_eq_getElem?_getD, show b.1.toNat < N.cs.length by omega]
      rw [e2, Int.toNat_of_nonneg this.1, List.contains_iff_mem]
      exact List.mem_map.2 ⟨b, hb, rfl⟩
    · rintro ⟨i, h1, h2, h3⟩
      have h1' : i < N.cs.length := by simpa using h1
      have e2 : ((List.range N.cs.length).map fun i : Nat => ((brF N).map (·.1)).contains (i : Int)).getD i false = ((brF N).map (·.1)).contains (i : Int) := by
        simp [List.getD_eq_getElem?_getD, h1']
      rw [e2, List.contains_iff_mem] at h3
      rw [h2, Nat.zero_add]
      exact h3
-- Tryz.
end Go.Tr

/- Contracts of chapter 2, the seat of WaterTrees: the conduits of the tree, in order. Conditions: none. -/
namespace Go.Tr
open Go Go.Proofs
set_option maxRecDepth 20000
set_option maxHeartbeats 8000000

theorem S60ex (n : Nat) (h : n ≤ 12) : ∃ r, SP 60 [.val (.int .u64 n)] (i64 r) false := by
  have : n = 0 ∨ n = 1 ∨ n = 2 ∨ n = 3 ∨ n = 4 ∨ n = 5 ∨ n = 6 ∨ n = 7 ∨ n = 8 ∨ n = 9 ∨ n = 10 ∨ n = 11 ∨ n = 12 := by omega
  rcases this with rfl | rfl | rfl | rfl | rfl | rfl | rfl | rfl | rfl | rfl | rfl | rfl | rfl
  · exact ⟨_, run_ok mixed2 (l := []) (by simp) 1000 60 (y := i64 0) (by kernel_rfl)⟩
  · exact ⟨_, run_ok mixed2 (l := []) (by simp) 1000 60 (y := i64 1) (by kernel_rfl)⟩
  · exact ⟨_, run_ok mixed2 (l := []) (by simp) 1000 60 (y := i64 2) (by kernel_rfl)⟩
  · exact ⟨_, run_ok mixed2 (l := []) (by simp) 1000 60 (y := i64 2) (by kernel_rfl)⟩
  · exact ⟨_, run_ok mixed2 (l := []) (by simp) 1000 60 (y := i64 3) (by kernel_rfl)⟩
  · exact ⟨_, run_ok mixed2 (l := []) (by simp) 1000 60 (y := i64 3) (by kernel_rfl)⟩
  · exact ⟨_, run_ok mixed2 (l := []) (by simp) 1000 60 (y := i64 3) (by kernel_rfl)⟩
  · exact ⟨_, run_ok mixed2 (l := []) (by simp) 1000 60 (y := i64 3) (by kernel_rfl)⟩
  · exact ⟨_, run_ok mixed2 (l := []) (by simp) 1000 60 (y := i64 4) (by kernel_rfl)⟩
  · exact ⟨_, run_ok mixed2 (l := []) (by simp) 1000 60 (y := i64 4) (by kernel_rfl)⟩
  · exact ⟨_, run_ok mixed2 (l := []) (by simp) 1000 60 (y := i64 4) (by kernel_rfl)⟩
  · exact ⟨_, run_ok mixed2 (l := []) (by simp) 1000 60 (y := i64 4) (by kernel_rfl)⟩
  · exact ⟨_, run_ok mixed2 (l := []) (by simp) 1000 60 (y := i64 4) (by kernel_rfl)⟩
theorem S93 (a b : Int) : SP 93 [i64 a, i64 b] (vb (decide (a < b))) false := by
  have h : ∀ x : Int, SP 112 [i64 x] (vb false) false := fun x => by
    refine sound (d := 2) tok2 mixed2 Tryz.func112 (by kernel_rfl) (by kernel_rfl) ?_
    conv => whnf
    refine ⟨?_, nofun⟩
    exact vbEq (by simp)
  refine sound (d := 2) tok2 mixed2 Tryz.func93 (by kernel_rfl) (by kernel_rfl) ?_
  conv => whnf
  refine .inl ⟨_, _, byX rfl (Sound1.pl (h _) rfl), ?_⟩
  conv => whnf
  refine ⟨?_, nofun⟩
  exact vbEq rfl
theorem S6err (N : Net) (hN : N.In) (hn : ¬ netE N = 0) : SP 6 [netV N] (.tuple [ints [], i64 (netE N)]) false := by
  have h26 := S26 N hN
  refine sound (d := 2) tok2 mixed2 Tryz.func6 (by kernel_rfl) (by kernel_rfl) ?_
  conv => whnf
  refine .inl ⟨_, _, byX rfl (h26), ?_⟩
  conv => whnf
  refine ifB_bne (fun w1 => ?_) (fun w1 => ?_)
  · conv => whnf
    refine ⟨?_, nofun⟩
    exact ave_tup2 (k := 4) (show (0 : Nat) = 0 from rfl) rfl
  · (exfalso; omega)
theorem S6 (N : Net) (hN : N.In) (hn : netE N = 0) : SP 6 [netV N] (.tuple [ints (if gapE N then [] else treeL N), i64 (if gapE N then 14 else 0)]) false := by
  have hok := net_ok hn
  have hS := stOk hok
  have hn1 := hok.n1
  have hc1 := hok.c1
  have hnb := hS.nb
  have h26 := S26 N hN
  rw [hn] at h26
  have h27 := S27 N (by omega) (by omega) hok.ends
  change SP 27 _ (.tuple [treeA N (brF N) (-1), i64 (if gapE N then 14 else 0)]) false at h27
  cases hg : gapE N with
  | true =>
    rw [hg] at h27
    simp only [if_true] at h27 ⊢
    refine sound (d := 2) tok2 mixed2 Tryz.func6 (by kernel_rfl) (by kernel_rfl) ?_
    conv => whnf
    refine .inl ⟨_, _, byX rfl (h26), ?_⟩
    conv => whnf
    refine .inl ⟨_, _, byX rfl (h27), ?_⟩
    conv => whnf
    refine ⟨?_, nofun⟩
    exact ave_tup2 (k := 4) (show (0 : Nat) = 0 from rfl) rfl
  | false =>
    rw [hg] at h27
    simp only [Bool.false_eq_true, if_false] at h27 ⊢
    obtain ⟨rl, h60⟩ := S60ex (brF N).length (by omega)
    refine sound (d := 5) tok2 mixed2 Tryz.func6 (by kernel_rfl) (by kernel_rfl) ?_
    conv => whnf
    refine .inl ⟨_, _, byX rfl (h26), ?_⟩
    conv => whnf
    refine .inl ⟨_, _, byX rfl (h27), ?_⟩
    conv => whnf
    refine ⟨[.slot 7 1], [7, 27, 28, 29], fun st mq => ∃ (k : Nat) (F0 : Nat → List AV) (F1 : Nat → List AV) (F2 : Nat → List AV), (k ≤ (brF N).length) ∧ st = ⟨[(7, .oslice 3 0 0 k none), (27, brA (brF N)), (28, i64 (brF N).length), (29, i64 k)], ⟨[⟨2, 1, F0, 0, false, true, false⟩, ⟨2, 1, F1, 0, false, true, false⟩, ⟨4, 1, F2, 0, false, true, false⟩, ⟨1, k, fun i => [i64 ((brF N).getD i (0, 0)).1], 0, false, true, false⟩], [], none, 0⟩, []⟩ ∧ mq = (brF N).length - k,
      ⟨_, _, ⟨0, _, _, _, by omega, rfl, rfl⟩, ⟨⟨rfl, rfl, rfl, rfl⟩, ⟨⟨rfl, rfl, rfl, rfl, fun _ => rfl, fun _ _ => rfl⟩, ⟨⟨rfl, rfl, rfl, rfl, fun _ => rfl, fun _ _ => rfl⟩, ⟨⟨rfl, rfl, rfl, rfl, fun _ => rfl, fun _ _ => rfl⟩, ⟨⟨rfl, rfl, rfl, rfl, fun _ => rfl, fun i h => absurd h (Nat.not_lt_zero i)⟩, trivial⟩⟩⟩⟩, trivial⟩⟩, ?_⟩
    rintro s0 m0 ⟨k, F0, F1, F2, hk, rfl, hmeas⟩
    by_cases hkl : k < (brF N).length
    · conv => whnf
      conv => whnf
      refine ifB_dec (fun w1 => ?_) (fun w1 => ?_)
      · conv => whnf
        conv => whnf
        refine ⟨⟨(by omega), (by omega)⟩, ?_⟩
        conv => whnf
        conv => whnf
        refine ⟨(by show _ * (8 + 1) ≤ _; omega), ?_⟩
        conv => whnf
        conv => whnf
        refine ⟨inK64 (by omega) (by omega), ?_⟩
        conv => whnf
        conv => whnf
        refine ⟨_, _, ⟨⟨k + 1, _, _, _, by omega, rfl, rfl⟩, by omega⟩, ⟨⟨rfl, rfl, rfl, rfl⟩, ⟨⟨rfl, rfl, rfl, rfl, fun _ => rfl, fun _ _ => rfl⟩, ⟨⟨rfl, rfl, rfl, rfl, fun _ => rfl, fun _ _ => rfl⟩, ⟨⟨rfl, rfl, rfl, rfl, fun _ => rfl, fun _ _ => rfl⟩, ⟨⟨rfl, rfl, rfl, rfl, fun _ => rfl, fun i h => ext_row (L := brF N) (d := (0, 0)) (g := fun p => [i64 p.1]) rfl rfl h⟩, trivial⟩⟩⟩⟩, trivial⟩⟩
      · (exfalso; omega)
    · have e : k = (brF N).length := by omega
      subst e
      have hAl : ((brF N).map (·.1)).length = (brF N).length := List.length_map _
      have row0 : ∀ i, i < (brF N).length → [i64 (((brF N).map (·.1)).getD i 0)] = [i64 ((brF N).getD i (0, 0)).1] := fun i h => by
        simp [List.getD_eq_getElem?_getD, h]
      generalize hA : (brF N).map (·.1) = A0 at row0 hAl
      have hu : inK .u64 ((brF N).length : Nat) := ⟨by
        have : IntKind.min .u64 = 0 := by decide
        omega, by
        have : IntKind.max .u64 = 18446744073709551615 := by decide
        omega⟩
      have h93 := S93
      conv => whnf
      conv => whnf
      refine ifB_dec (fun w1 => ?_) (fun w1 => ?_)
      · (exfalso; omega)
      · conv => whnf
        conv => whnf
        refine .inr ?_
        conv => whnf
        conv => whnf
        refine ⟨by assumption, ?_⟩
        conv => whnf
        conv => whnf
        refine .inl ⟨_, _, byX rfl (Sound1.pl (h60) rfl), ?_⟩
        conv => whnf
        conv => whnf
        refine .inr ?_
        conv => whnf
        conv => whnf
        refine ⟨[], [0, 1, 2, 3], fun st mq => ∃ (F0 : Nat → List AV) (F1 : Nat → List AV) (F2 : Nat → List AV), st = ⟨[(0, .oslice 3 0 0 (brF N).length none), (1, i64 0), (2, i64 (brF N).length), (3, i64 rl)], ⟨[⟨2, 1, F0, 0, false, true, false⟩, ⟨2, 1, F1, 0, false, true, false⟩, ⟨4, 1, F2, 0, false, true, false⟩, ⟨1, (brF N).length, fun i => [i64 (A0.getD i 0)], 0, false, true, false⟩], [], none, 0⟩, [(9, i64 rl), (8, .val (.int .u64 (brF N).length)), (7, i64 (brF N).length), (6, i64 (brF N).length), (5, .oslice 3 0 0 (brF N).length none), (2, i64 (brF N).length), (4, i64 (brF N).length), (3, .oslice 3 0 0 (brF N).length none), (0, .oslice 3 0 0 (brF N).length none), (50, .oslice 3 0 0 (brF N).length none), (41, vb false), (41, vb (decide (((brF N).length : Int) < (brF N).length))), (18, .oslice 3 0 0 (brF N).length none), (38, brA (brF N)), (39, i64 (brF N).length), (40, i64 (brF N).length)]⟩ ∧ mq = 0,
          ⟨_, _, ⟨_, _, _, rfl, rfl⟩, ⟨⟨rfl, rfl, rfl, rfl⟩, ⟨⟨rfl, rfl, rfl, rfl, fun _ => rfl, fun _ _ => rfl⟩, ⟨⟨rfl, rfl, rfl, rfl, fun _ => rfl, fun _ _ => rfl⟩, ⟨⟨rfl, rfl, rfl, rfl, fun _ => rfl, fun _ _ => rfl⟩, ⟨⟨rfl, rfl, rfl, rfl, fun _ => rfl, fun i h => row0 i h⟩, trivial⟩⟩⟩⟩, trivial⟩⟩, ?_⟩
        rintro s0 m0 ⟨F0, F1, F2, rfl, hmeas⟩
        conv => whnf
        conv => whnf
        conv => whnf
        refine ⟨inK64 (by omega) (by omega), ?_⟩
        conv => whnf
        conv => whnf
        conv => whnf
        refine ifB_dec (fun w2 => ?_) (fun w2 => ?_)
        · conv => whnf
          conv => whnf
          conv => whnf
          refine .inr ?_
          conv => whnf
          conv => whnf
          conv => whnf
          refine ⟨inK64 (by omega) (by omega), ?_⟩
          conv => whnf
          conv => whnf
          conv => whnf
          refine ⟨[], [0, 1, 2, 6], fun st mq => ∃ (i : Nat) (a : List Int) (F0 : Nat → List AV) (F1 : Nat → List AV) (F2 : Nat → List AV), (1 ≤ i) ∧ (i ≤ (brF N).length ∨ i = 1) ∧ (a.length = (brF N).length) ∧ (a.Perm A0) ∧ (SortTo a i) ∧ st = ⟨[(0, .oslice 3 0 0 (brF N).length none), (1, i64 0), (2, i64 (brF N).length), (6, i64 i)], ⟨[⟨2, 1, F0, 0, false, true, false⟩, ⟨2, 1, F1, 0, false, true, false⟩, ⟨4, 1, F2, 0, false, true, false⟩, ⟨1, (brF N).length, fun i => [i64 (a.getD i 0)], 0, false, true, false⟩], [], none, 0⟩, [(26, i64 (brF N).length), (25, i64 0), (24, .oslice 3 0 0 (brF N).length none), (23, vb true), (23, vb (decide (((brF N).length : Int) - 0 ≤ 12))), (22, i64 ((brF N).length - 0)), (10, i64 ((brF N).length - 0)), (21, i64 ((brF N).length - 0)), (20, i64 0), (19, i64 (brF N).length), (0, .oslice 3 0 0 (brF N).length none), (1, i64 0), (2, i64 (brF N).length), (3, i64 rl), (143, i64 rl), (142, .val (.int .u64 (brF N).length)), (141, i64 (brF N).length), (140, i64 (brF N).length), (139, .oslice 3 0 0 (brF N).length none), (136, i64 (brF N).length), (138, i64 (brF N).length), (137, .oslice 3 0 0 (brF N).length none), (134, .oslice 3 0 0 (brF N).length none), (184, .oslice 3 0 0 (brF N).length none), (175, vb false), (175, vb (decide (((brF N).length : Int) < (brF N).length))), (152, .oslice 3 0 0 (brF N).length none), (172, brA (brF N)), (173, i64 (brF N).length), (174, i64 (brF N).length)]⟩ ∧ mq = (brF N).length - i,
            ⟨_, _, ⟨1, A0, _, _, _, by omega, by omega, hAl, List.Perm.refl _, fun p q h1 h2 => by omega, rfl, rfl⟩, ⟨⟨rfl, rfl, rfl, rfl⟩, ⟨⟨rfl, rfl, rfl, rfl, fun _ => rfl, fun _ _ => rfl⟩, ⟨⟨rfl, rfl, rfl, rfl, fun _ => rfl, fun _ _ => rfl⟩, ⟨⟨rfl, rfl, rfl, rfl, fun _ => rfl, fun _ _ => rfl⟩, ⟨⟨rfl, rfl, rfl, rfl, fun _ => rfl, fun _ _ => rfl⟩, trivial⟩⟩⟩⟩, trivial⟩⟩, ?_⟩
          rintro s0 m0 ⟨i, a, F0, F1, F2, hi1, hi2, hal, hp, hs, rfl, hmeas⟩
          by_cases hil : i < (brF N).length
          · conv => whnf
            conv => whnf
            conv => whnf
            conv => whnf
            refine ifB_dec (fun w3 => ?_) (fun w3 => ?_)
            · conv => whnf
              conv => whnf
              conv => whnf
              conv => whnf
              refine ⟨[], [0, 1, 2, 6, 7], fun st mq => ∃ (j : Nat) (z : Int) (b : List Int) (F0 : Nat → List AV) (F1 : Nat → List AV) (F2 : Nat → List AV), (z = (j : Int)) ∧ (j ≤ i) ∧ (b.length = (brF N).length) ∧ (b.Perm A0) ∧ (Sink b j (i + 1)) ∧ st = ⟨[(0, .oslice 3 0 0 (brF N).length none), (1, i64 0), (2, i64 (brF N).length), (6, i64 i), (7, i64 z)], ⟨[⟨2, 1, F0, 0, false, true, false⟩, ⟨2, 1, F1, 0, false, true, false⟩, ⟨4, 1, F2, 0, false, true, false⟩, ⟨1, (brF N).length, fun i => [i64 (b.getD i 0)], 0, false, true, false⟩], [], none, 0⟩, [(26, i64 (brF N).length), (25, i64 0), (24, .oslice 3 0 0 (brF N).length none), (23, vb true), (23, vb (decide (((brF N).length : Int) - 0 ≤ 12))), (22, i64 ((brF N).length - 0)), (10, i64 ((brF N).length - 0)), (21, i64 ((brF N).length - 0)), (20, i64 0), (19, i64 (brF N).length), (0, .oslice 3 0 0 (brF N).length none), (1, i64 0), (2, i64 (brF N).length), (3, i64 rl), (143, i64 rl), (142, .val (.int .u64 (brF N).length)), (141, i64 (brF N).length), (140, i64 (brF N).length), (139, .oslice 3 0 0 (brF N).length none), (136, i64 (brF N).length), (138, i64 (brF N).length), (137, .oslice 3 0 0 (brF N).length none), (134, .oslice 3 0 0 (brF N).length none), (184, .oslice 3 0 0 (brF N).length none), (175, vb false), (175, vb (decide (((brF N).length : Int) < (brF N).length))), (152, .oslice 3 0 0 (brF N).length none), (172, brA (brF N)), (173, i64 (brF N).length), (174, i64 (brF N).length)]⟩ ∧ mq = j,
                ⟨_, _, ⟨i, (i : Int), a, _, _, _, rfl, by omega, hal, hp, sink_start hs, rfl, rfl⟩, ⟨⟨rfl, rfl, rfl, rfl⟩, ⟨⟨rfl, rfl, rfl, rfl, fun _ => rfl, fun _ _ => rfl⟩, ⟨⟨rfl, rfl, rfl, rfl, fun _ => rfl, fun _ _ => rfl⟩, ⟨⟨rfl, rfl, rfl, rfl, fun _ => rfl, fun _ _ => rfl⟩, ⟨⟨rfl, rfl, rfl, rfl, fun _ => rfl, fun _ _ => rfl⟩, trivial⟩⟩⟩⟩, trivial⟩⟩, ?_⟩
              rintro s0 m0 ⟨j, z, b, F0, F1, F2, hz, hj, hbl, hpb, hsb, rfl, hmeas⟩
              subst hz
              by_cases hj0 : j = 0
              · subst hj0
                conv => whnf
                conv => whnf
                conv => whnf
                conv => whnf
                conv => whnf
                refine ⟨[], by kernel_rfl, ?_⟩
                conv => whnf
                conv => whnf
                conv => whnf
                conv => whnf
                conv => whnf
                refine ⟨inK64 (by omega) (by omega), ?_⟩
                conv => whnf
                conv => whnf
                conv => whnf
                conv => whnf
                conv => whnf
                refine ⟨_, _, ⟨⟨i + 1, b, _, _, _, by omega, by omega, hbl, hpb, sink_end hsb (.inl rfl), rfl, rfl⟩, by omega⟩, ⟨⟨rfl, rfl, rfl, rfl⟩, ⟨⟨rfl, rfl, rfl, rfl, fun _ => rfl, fun _ _ => rfl⟩, ⟨⟨rfl, rfl, rfl, rfl, fun _ => rfl, fun _ _ => rfl⟩, ⟨⟨rfl, rfl, rfl, rfl, fun _ => rfl, fun _ _ => rfl⟩, ⟨⟨rfl, rfl, rfl, rfl, fun _ => rfl, fun _ _ => rfl⟩, trivial⟩⟩⟩⟩, trivial⟩⟩
              · obtain ⟨j, rfl⟩ : ∃ k, j = k + 1 := ⟨j - 1, by omega⟩
                have e1 : (((j + 1 : Nat) : Int) - 1).toNat = j := by omega
                have hsw : ∀ x, [i64 ((swapL b (j + 1)).getD x 0)] = [i64 (((b.set ((j + 1 : Nat) : Int).toNat (b.getD (0 + (((j + 1 : Nat) : Int) - 1).toNat) 0)).set (((j + 1 : Nat) : Int) - 1).toNat (b.getD (0 + ((j + 1 : Nat) : Int).toNat) 0)).getD x 0)] := fun x => by
                  rw [e1, Nat.zero_add, Nat.zero_add]; rfl
                conv => whnf
                conv => whnf
                conv => whnf
                conv => whnf
                conv => whnf
                refine ⟨[], by kernel_rfl, ?_⟩
                conv => whnf
                conv => whnf
                conv => whnf
                conv => whnf
                conv => whnf
                refine ifB_dec (fun w4 => ?_) (fun w4 => ?_)
                · conv => whnf
                  conv => whnf
                  conv => whnf
                  conv => whnf
                  conv => whnf
                  refine ⟨⟨(by omega), (by omega)⟩, ?_⟩
                  conv => whnf
                  conv => whnf
                  conv => whnf
                  conv => whnf
                  conv => whnf
                  refine ⟨inK64 (by omega) (by omega), ?_⟩
                  conv => whnf
                  conv => whnf
                  conv => whnf
                  conv => whnf
                  conv => whnf
                  refine ⟨⟨(by omega), (by omega)⟩, ?_⟩
                  conv => whnf
                  conv => whnf
                  conv => whnf
                  conv => whnf
                  conv => whnf
                  refine .inl ⟨_, _, byX rfl (Sound1.pl (h93 _ _) rfl), ?_⟩
                  conv => whnf
                  conv => whnf
                  conv => whnf
                  conv => whnf
                  conv => whnf
                  refine ifB_dec (fun w5 => ?_) (fun w5 => ?_)
                  · conv => whnf
                    conv => whnf
                    conv => whnf
                    conv => whnf
                    conv => whnf
                    refine ⟨[], by kernel_rfl, ?_⟩
                    conv => whnf
                    conv => whnf
                    conv => whnf
                    conv => whnf
                    conv => whnf
                    refine ⟨inK64 (by omega) (by omega), ?_⟩
                    conv => whnf
                    conv => whnf
                    conv => whnf
                    conv => whnf
                    conv => whnf
                    refine ⟨inK64 (by omega) (by omega), ?_⟩
                    conv => whnf
                    conv => whnf
                    conv => whnf
                    conv => whnf
                    conv => whnf
                    refine ⟨⟨(by omega), (by omega)⟩, ?_⟩
                    conv => whnf
                    conv => whnf
                    conv => whnf
                    conv => whnf
                    conv => whnf
                    refine ⟨⟨(by omega), (by omega)⟩, ?_⟩
                    conv => whnf
                    conv => whnf
                    conv => whnf
                    conv => whnf
                    conv => whnf
                    refine ⟨⟨(by omega), (by omega)⟩, ?_⟩
                    refine ⟨_, fun i _ => rowI _ _ i _ (by first | omega | (simp only [List.length_set]; omega) | (simp only [List.length_replicate]; omega) | (simp only [List.length_set, List.length_replicate]; omega)), ?_⟩
                    conv => whnf
                    conv => whnf
                    conv => whnf
                    conv => whnf
                    conv => whnf
                    refine ⟨⟨(by omega), (by omega)⟩, ?_⟩
                    refine ⟨_, fun i _ => rowI _ _ i _ (by first | omega | (simp only [List.length_set]; omega) | (simp only [List.length_replicate]; omega) | (simp only [List.length_set, List.length_replicate]; omega)), ?_⟩
                    conv => whnf
                    conv => whnf
                    conv => whnf
                    conv => whnf
                    conv => whnf
                    refine ⟨inK64 (by omega) (by omega), ?_⟩
                    have hlt : b.getD (j + 1) 0 < b.getD (j + 1 - 1) 0 := by
                      have e : b.getD (0 + ((j + 1 : Nat) : Int).toNat) 0 < b.getD (0 + (((j + 1 : Nat) : Int) - 1).toNat) 0 := by assumption
                      rw [e1, Nat.zero_add, Nat.zero_add] at e
                      exact e
                    conv => whnf
                    conv => whnf
                    conv => whnf
                    conv => whnf
                    conv => whnf
                    refine ⟨_, _, ⟨⟨j, ((j + 1 : Nat) : Int) - 1, swapL b (j + 1), _, _, _, by omega, by omega, by simpa [swapL] using hbl, (swapL_perm (by omega)).trans hpb, sink_swap (by omega) (by omega) (by omega) hsb hlt, rfl, rfl⟩, by omega⟩, ⟨⟨rfl, rfl, rfl, rfl⟩, ⟨⟨rfl, rfl, rfl, rfl, fun _ => rfl, fun _ _ => rfl⟩, ⟨⟨rfl, rfl, rfl, rfl, fun _ => rfl, fun _ _ => rfl⟩, ⟨⟨rfl, rfl, rfl, rfl, fun _ => rfl, fun _ _ => rfl⟩, ⟨⟨rfl, rfl, rfl, rfl, fun _ => rfl, fun x _ => hsw x⟩, trivial⟩⟩⟩⟩, trivial⟩⟩
                  · conv => whnf
                    conv => whnf
                    conv => whnf
                    conv => whnf
                    conv => whnf
                    refine ⟨inK64 (by omega) (by omega), ?_⟩
                    have hlt : b.getD (j + 1 - 1) 0 ≤ b.getD (j + 1) 0 := by
                      have e : ¬ b.getD (0 + ((j + 1 : Nat) : Int).toNat) 0 < b.getD (0 + (((j + 1 : Nat) : Int) - 1).toNat) 0 := by assumption
                      rw [e1, Nat.zero_add, Nat.zero_add] at e
                      exact Int.not_lt.1 e
                    conv => whnf
                    conv => whnf
                    conv => whnf
                    conv => whnf
                    conv => whnf
                    refine ⟨_, _, ⟨⟨i + 1, b, _, _, _, by omega, by omega, hbl, hpb, sink_end hsb (.inr hlt), rfl, rfl⟩, by omega⟩, ⟨⟨rfl, rfl, rfl, rfl⟩, ⟨⟨rfl, rfl, rfl, rfl, fun _ => rfl, fun _ _ => rfl⟩, ⟨⟨rfl, rfl, rfl, rfl, fun _ => rfl, fun _ _ => rfl⟩, ⟨⟨rfl, rfl, rfl, rfl, fun _ => rfl, fun _ _ => rfl⟩, ⟨⟨rfl, rfl, rfl, rfl, fun _ => rfl, fun _ _ => rfl⟩, trivial⟩⟩⟩⟩, trivial⟩⟩
                · (exfalso; omega)
            · (exfalso; omega)
          · have e := treeL_eq hok.ends (hA ▸ hp) (fun p q h1 h2 => hs p q h1 (by omega))
            rw [← e]
            conv => whnf
            conv => whnf
            conv => whnf
            conv => whnf
            refine ifB_dec (fun w3 => ?_) (fun w3 => ?_)
            · (exfalso; omega)
            · conv => whnf
              conv => whnf
              conv => whnf
              conv => whnf
              refine ⟨?_, nofun⟩
              exact ave_tup2 (k := 4) ⟨rfl, hal.symm, fun _ _ => rfl⟩ rfl
        · (exfalso; omega)
end Go.Tr

/- The law WaterTrees returns true. Conditions: none. -/
namespace Go.Tr
open Go Go.Proofs
set_option maxRecDepth 20000
set_option maxHeartbeats 8000000

theorem ave_is {k n : Nat} {f : Nat → List AV} {l : List Int} (hn : n = l.length) (hf : ∀ i, i < l.length → f i = [i64 (l.getD i 0)]) : AVE (k + 1) (.rslice 1 n f) (ints l) :=
  ⟨rfl, hn, fun i hi => hf i (by omega)⟩
theorem S12 (s t : List Int × List Int) (h1 : s.1.length ≤ 1000000000) (h2 : s.2.length ≤ 1000000000) (h3 : t.1.length ≤ 1000000000) (h4 : t.2.length ≤ 1000000000) : SP 12 [stA s, stA t] (vb (decide (s = t))) false := by
  have hA := S15 s.1 t.1 h1 h3
  have hB := S15 s.2 t.2 h2 h4
  have e : decide (s = t) = (decide (s.1 = t.1) && decide (s.2 = t.2)) := by
    rw [Bool.eq_iff_iff, Bool.and_eq_true, decide_eq_true_iff, decide_eq_true_iff, decide_eq_true_iff]
    exact ⟨fun h => by rw [h]; exact ⟨rfl, rfl⟩, fun h => Prod.ext h.1 h.2⟩
  rw [e]
  refine sound (d := 2) tok2 mixed2 Tryz.func12 (by kernel_rfl) (by kernel_rfl) ?_
  conv => whnf
  refine .inl ⟨_, _, byX rfl (Sound1.pl (hA) rfl), ?_⟩
  conv => whnf
  refine ifB_dec (fun w1 => ?_) (fun w1 => ?_)
  · conv => whnf
    refine .inl ⟨_, _, byX rfl (Sound1.pl (hB) rfl), ?_⟩
    conv => whnf
    refine ⟨?_, nofun⟩
    refine vbE ?_
    rw [decide_eq_true (show s.1 = t.1 by assumption)]; rfl
  · conv => whnf
    refine ⟨?_, nofun⟩
    refine vbE ?_
    rw [decide_eq_false (show ¬ s.1 = t.1 by assumption)]; rfl
theorem S12z (s : List Int × List Int) (h1 : s.1.length ≤ 1000000000) (h2 : s.2.length ≤ 1000000000) : SP 12 [stA s, .agg [.eslice, .eslice]] (vb (decide (s = ([], [])))) false :=
  (S12 s ([], []) h1 h2 (by decide) (by decide)).args rfl fun i y x hy hx => by
    match i, hy, hx with
    | 0, hy, hx =>
      cases hy; cases hx
      exact ave_agg2 (k := 4) (ave_is rfl fun _ _ => rfl) (ave_is rfl fun _ _ => rfl)
    | 1, hy, hx =>
      cases hy; cases hx
      exact ave_agg2 (k := 4) (show (0 : Nat) = 0 from rfl) (show (0 : Nat) = 0 from rfl)

theorem S3net (N : Net) (hN : N.In) (q : Int) (hf : fewB N = true) (hn : ¬ netE N = 0) : SP 3 [netV N, i64 q] (vb true) false := by
  obtain ⟨b1, b2⟩ := few_bounds hf
  have h5 := S5 N hN
  rw [hf] at h5
  have h7 := S7 N (by omega) (by omega)
  have h6 := S6err N hN hn
  have h8 := S8 N hN
  have h9 := S9 N hN q
  have h10 := S10 N hN q
  have h11 := S11 N hN
  have hF : ¬ formE N = 0 := by unfold formE; rw [if_neg hn]; exact hn
  have eF : formE N = netE N := by unfold formE; rw [if_neg hn]
  have eC : closE N = netE N := by unfold closE; rw [if_neg hF, eF]
  have eS : stateE N q = netE N := by unfold stateE; rw [if_neg hF, eF]
  have eG : gapErr N q = netE N := by unfold gapErr; rw [eC, if_neg hn]
  rw [eC, if_neg hn] at h8
  rw [eS, if_neg hn] at h9
  rw [eG, if_neg hn] at h10
  have hz := S12z ([], []) (by decide) (by decide)
  rw [decide_eq_true rfl] at hz
  generalize netE N = E at *
  have h4 := S4
  refine sound (d := 2) tok2 mixed2 Tryz.func3 (by kernel_rfl) (by kernel_rfl) ?_
  conv => whnf
  refine .inl ⟨_, _, byX rfl (Sound1.pl (h4) rfl), ?_⟩
  conv => whnf
  refine .inl ⟨_, _, byX rfl (Sound1.pl (h5) rfl), ?_⟩
  conv => whnf
  refine .inl ⟨_, _, byX rfl (h7), ?_⟩
  conv => whnf
  refine .inl ⟨_, _, byX rfl (h6), ?_⟩
  conv => whnf
  refine .inl ⟨_, _, byX rfl (h7), ?_⟩
  conv => whnf
  refine .inl ⟨_, _, byX rfl (Sound1.pl (h8) rfl), ?_⟩
  conv => whnf
  refine .inl ⟨_, _, byX rfl (h7), ?_⟩
  conv => whnf
  refine .inl ⟨_, _, byX rfl (h9), ?_⟩
  conv => whnf
  refine .inl ⟨_, _, byX rfl (h7), ?_⟩
  conv => whnf
  refine .inl ⟨_, _, byX rfl (Sound1.pl (h10) rfl), ?_⟩
  conv => whnf
  refine .inl ⟨_, _, byX rfl (Sound1.pl (h11) rfl), ?_⟩
  conv => whnf
  refine ifB_bne (fun w1 => ?_) (fun w1 => ?_)
  · conv => whnf
    refine ifB_beq (fun w2 => ?_) (fun w2 => ?_)
    · conv => whnf
      refine ifB_beq (fun w3 => ?_) (fun w3 => ?_)
      · conv => whnf
        refine ifB_beq (fun w4 => ?_) (fun w4 => ?_)
        · conv => whnf
          refine ifB_beq (fun w5 => ?_) (fun w5 => ?_)
          · conv => whnf
            refine .inl ⟨_, _, byX rfl (Sound1.pl (hz) rfl), ?_⟩
            conv => whnf
            refine ⟨?_, nofun⟩
            (rfl)
          · (exfalso; omega)
        · (exfalso; omega)
      · (exfalso; omega)
    · (exfalso; omega)
  · (exfalso; omega)
theorem S3gap (N : Net) (hN : N.In) (q : Int) (hf : fewB N = true) (hn : netE N = 0) (hg : gapE N = true) : SP 3 [netV N, i64 q] (vb true) false := by
  obtain ⟨b1, b2⟩ := few_bounds hf
  have hok := net_ok hn
  have h5 := S5 N hN
  rw [hf] at h5
  have h7 := S7 N (by omega) (by omega)
  have h6 := S6 N hN hn
  rw [if_pos hg, if_pos hg] at h6
  have h8 := S8 N hN
  have h9 := S9 N hN q
  have h10 := S10 N hN q
  have h11 := S11 N hN
  have h13 := S13 N (by omega) (by omega) hok.ends
  have e13 := gap_ok hok.ends
  change decide ((treeF N).2.length = nF (lakesB N)) = _ at e13
  rw [e13, hg] at h13
  have eF : formE N = 14 := by unfold formE clF; rw [if_pos hn, if_pos hg]
  have hF : ¬ formE N = 0 := by rw [eF]; decide
  have eC : closE N = 14 := by unfold closE; rw [if_neg hF, eF]
  have eS : stateE N q = 14 := by unfold stateE; rw [if_neg hF, eF]
  have eG : gapErr N q = 14 := by unfold gapErr; rw [eC]; rfl
  rw [eC] at h8
  rw [eS] at h9
  rw [eG] at h10
  rw [hn] at h11
  simp only [show ¬ (14 : Int) = 0 by decide, if_false, Bool.not_true] at h8 h9 h10 h13
  have hz := S12z ([], []) (by decide) (by decide)
  rw [decide_eq_true rfl] at hz
  have h4 := S4
  refine sound (d := 2) tok2 mixed2 Tryz.func3 (by kernel_rfl) (by kernel_rfl) ?_
  conv => whnf
  refine .inl ⟨_, _, byX rfl (Sound1.pl (h4) rfl), ?_⟩
  conv => whnf
  refine .inl ⟨_, _, byX rfl (Sound1.pl (h5) rfl), ?_⟩
  conv => whnf
  refine .inl ⟨_, _, byX rfl (h7), ?_⟩
  conv => whnf
  refine .inl ⟨_, _, byX rfl (h6), ?_⟩
  conv => whnf
  refine .inl ⟨_, _, byX rfl (h7), ?_⟩
  conv => whnf
  refine .inl ⟨_, _, byX rfl (Sound1.pl (h8) rfl), ?_⟩
  conv => whnf
  refine .inl ⟨_, _, byX rfl (h7), ?_⟩
  conv => whnf
  refine .inl ⟨_, _, byX rfl (h9), ?_⟩
  conv => whnf
  refine .inl ⟨_, _, byX rfl (h7), ?_⟩
  conv => whnf
  refine .inl ⟨_, _, byX rfl (Sound1.pl (h10) rfl), ?_⟩
  conv => whnf
  refine .inl ⟨_, _, byX rfl (Sound1.pl (h11) rfl), ?_⟩
  conv => whnf
  refine .inl ⟨_, _, byX rfl (h13), ?_⟩
  conv => whnf
  refine .inl ⟨_, _, byX rfl (Sound1.pl (hz) rfl), ?_⟩
  conv => whnf
  refine ⟨?_, nofun⟩
  (rfl)
theorem S3ok (N : Net) (hN : N.In) (q : Int) (hf : fewB N = true) (hn : netE N = 0) (hg : gapE N = false) : SP 3 [netV N, i64 q] (vb true) false := by
  obtain ⟨b1, b2⟩ := few_bounds hf
  have hok := net_ok hn
  have h5 := S5 N hN
  rw [hf] at h5
  have h7 := S7 N (by omega) (by omega)
  have h6 := S6 N hN hn
  rw [hg] at h6
  have h8 := S8 N hN
  have h9 := S9 N hN q
  have h10 := S10 N hN q
  have h11 := S11 N hN
  have h13 := S13 N (by omega) (by omega) hok.ends
  have e13 := gap_ok hok.ends
  change decide ((treeF N).2.length = nF (lakesB N)) = _ at e13
  rw [e13, hg] at h13
  rw [hn] at h11
  simp only [Bool.false_eq_true, if_false, Bool.not_false] at h6 h13
  have h4 := S4
  generalize e8 : closE N = E8 at *
  generalize e9 : stateE N q = E9 at *
  generalize e10 : gapErr N q = E10 at *
  generalize ec : (if E8 = 0 then (clF N).1 else 0) = c8 at *
  generalize es : (if E9 = 0 then stateF N (brF N) (clF N).1 q else ([], [])) = s9 at *
  generalize eg : (if E10 = 0 then gapF N (brF N) (clF N).1 q else 0) = g10 at *
  refine sound (d := 2) tok2 mixed2 Tryz.func3 (by kernel_rfl) (by kernel_rfl) ?_
  conv => whnf
  refine .inl ⟨_, _, byX rfl (Sound1.pl (h4) rfl), ?_⟩
  conv => whnf
  refine .inl ⟨_, _, byX rfl (Sound1.pl (h5) rfl), ?_⟩
  conv => whnf
  refine .inl ⟨_, _, byX rfl (h7), ?_⟩
  conv => whnf
  refine .inl ⟨_, _, byX rfl (h6), ?_⟩
  conv => whnf
  refine .inl ⟨_, _, byX rfl (h7), ?_⟩
  conv => whnf
  refine .inl ⟨_, _, byX rfl (Sound1.pl (h8) rfl), ?_⟩
  conv => whnf
  refine .inl ⟨_, _, byX rfl (h7), ?_⟩
  conv => whnf
  refine .inl ⟨_, _, byX rfl (h9), ?_⟩
  conv => whnf
  refine .inl ⟨_, _, byX rfl (h7), ?_⟩
  conv => whnf
  refine .inl ⟨_, _, byX rfl (Sound1.pl (h10) rfl), ?_⟩
  conv => whnf
  refine .inl ⟨_, _, byX rfl (Sound1.pl (h11) rfl), ?_⟩
  conv => whnf
  refine .inl ⟨_, _, byX rfl (h13), ?_⟩
  have hT : (brF N).length ≤ 12 := by have := brF_len hok.ends; omega
  have h14 := fun x => S14 ((brF N).map (·.1)) x (by simp; omega)
  have hml : ((List.range N.cs.length).map fun i : Nat => ((brF N).map (·.1)).contains (i : Int)).length = N.cs.length := by simp
  have hmg : ∀ k, k < N.cs.length → ((List.range N.cs.length).map fun i : Nat => ((brF N).map (·.1)).contains (i : Int)).getD k false = ((brF N).map (·.1)).contains (k : Int) := fun k hk => by
    simp [List.getD_eq_getElem?_getD, hk]
  have htl : treeL N = whereF 0 ((List.range N.cs.length).map fun i : Nat => ((brF N).map (·.1)).contains (i : Int)) := rfl
  generalize hMk : ((List.range N.cs.length).map fun i : Nat => ((brF N).map (·.1)).contains (i : Int)) = Mk at hml hmg htl
  conv => whnf
  refine ⟨[.slot 17 1], [1, 2, 5, 6, 7, 8, 9, 10, 11, 12, 14, 17, 18], fun st mq => ∃ (k : Nat) (n : Nat) (a : List Int), (k ≤ N.cs.length) ∧ (a.length = n) ∧ (n ≤ k) ∧ (a ++ whereF k (Mk.drop k) = treeL N) ∧ st = ⟨[(1, i64 q), (2, .optr 0 0 0 0), (5, ints (treeL N)), (6, i64 0), (7, i64 c8), (8, i64 E8), (9, .optr 1 0 0 0), (10, i64 E9), (11, i64 g10), (12, i64 E10), (14, ints ((brF N).map (·.1))), (17, .oslice 2 0 0 n none), (18, i64 k)], ⟨[netBlk N, ⟨2, 1, fun _ => [ints s9.1, ints s9.2], 0, false, true, true⟩, ⟨1, n, fun i => [i64 (a.getD i 0)], 0, false, true, false⟩], [], none, 0⟩, []⟩ ∧ mq = N.cs.length - k,
    ⟨_, _, ⟨0, 0, [], by omega, rfl, by omega, htl.symm, rfl, rfl⟩, ⟨⟨rfl, rfl, rfl, rfl⟩, ⟨⟨rfl, rfl, rfl, rfl, fun _ => rfl, fun _ _ => rfl⟩, ⟨⟨rfl, rfl, rfl, rfl, fun _ => rfl, fun _ _ => rfl⟩, ⟨⟨rfl, rfl, rfl, rfl, fun _ => rfl, fun i h => absurd h (Nat.not_lt_zero i)⟩, trivial⟩⟩⟩, trivial⟩⟩, ?_⟩
  rintro s0 m0 ⟨k, n, a, hk, hn1, ha, hw, rfl, hmeas⟩
  by_cases hkl : k < N.cs.length
  · rw [whereF_drop (by omega), hmg k hkl] at hw
    conv => whnf
    conv => whnf
    refine ifB_dec (fun w1 => ?_) (fun w1 => ?_)
    · conv => whnf
      conv => whnf
      refine .inl ⟨_, _, byX rfl (Sound1.pl (h14 _) rfl), ?_⟩
      conv => whnf
      conv => whnf
      refine ifB_intro (fun w2 => ?_) (fun w2 => ?_)
      · conv => whnf
        conv => whnf
        refine ⟨(by show _ * (8 + 1) ≤ _; omega), ?_⟩
        conv => whnf
        conv => whnf
        refine ⟨inK64 (by omega) (by omega), ?_⟩
        have a1 : ((brF N).map (·.1)).contains (k : Int) = true := by assumption
        rw [a1, if_pos rfl] at hw
        conv => whnf
        conv => whnf
        refine ⟨_, _, ⟨⟨k + 1, n + 1, a ++ [(k : Int)], by omega, by simpa using hn1, by omega, by simpa using hw, rfl, rfl⟩, by omega⟩, ⟨⟨rfl, rfl, rfl, rfl⟩, ⟨⟨rfl, rfl, rfl, rfl, fun _ => rfl, fun _ _ => rfl⟩, ⟨⟨rfl, rfl, rfl, rfl, fun _ => rfl, fun _ _ => rfl⟩, ⟨⟨rfl, rfl, rfl, rfl, fun _ => rfl, fun i h => app_row hn1 _ i h⟩, trivial⟩⟩⟩, trivial⟩⟩
      · conv => whnf
        conv => whnf
        refine ⟨inK64 (by omega) (by omega), ?_⟩
        have a1 : ((brF N).map (·.1)).contains (k : Int) = false := by assumption
        rw [a1, if_neg (by decide)] at hw
        conv => whnf
        conv => whnf
        refine ⟨_, _, ⟨⟨k + 1, n, a, by omega, hn1, by omega, hw, rfl, rfl⟩, by omega⟩, ⟨⟨rfl, rfl, rfl, rfl⟩, ⟨⟨rfl, rfl, rfl, rfl, fun _ => rfl, fun _ _ => rfl⟩, ⟨⟨rfl, rfl, rfl, rfl, fun _ => rfl, fun _ _ => rfl⟩, ⟨⟨rfl, rfl, rfl, rfl, fun _ => rfl, fun _ _ => rfl⟩, trivial⟩⟩⟩, trivial⟩⟩
    · (exfalso; omega)
  · have e : k = N.cs.length := by omega
    subst e
    rw [List.drop_eq_nil_of_le (by omega), whereF, List.append_nil] at hw
    subst hw
    subst hn1
    have hlt : (treeL N).length ≤ 16 := by omega
    have h15 := S15 (treeL N) (treeL N) (by omega) (by omega)
    rw [decide_eq_true rfl] at h15
    have h16 := S16 N (by omega) (by omega) hok.ends
    unfold clR at h16
    have h17 := S17 q
    have hz := S12z ([], []) (by decide) (by decide)
    rw [decide_eq_true rfl] at hz
    by_cases hF2 : (clF N).2 = 0
    · rw [if_pos hF2, hF2] at h16
      have eF : formE N = 0 := by unfold formE; rw [if_pos hn, hF2]
      have eC : closE N = if 0 ≤ (clF N).1 then 0 else 12 := by unfold closE; rw [if_pos eF]
      by_cases hq : -200000 ≤ q ∧ q ≤ 200000
      · rw [if_pos hq] at h17
        have eR : crE q = 0 := by unfold crE; rw [if_pos (decide_eq_true hq)]
        have h18 := S18 N hok hF2 q hq
        have h12 := S12 (stateF N (brF N) (clF N).1 q) (stateF N (brF N) (clF N).1 q) (by have := (state_len N (brF N) (clF N).1 q).1; omega) (by have := (state_len N (brF N) (clF N).1 q).2; omega) (by have := (state_len N (brF N) (clF N).1 q).1; omega) (by have := (state_len N (brF N) (clF N).1 q).2; omega)
        rw [decide_eq_true rfl] at h12
        by_cases hc : 0 ≤ (clF N).1
        · rw [if_pos hc] at eC
          have eS : stateE N q = 0 := by unfold stateE; rw [if_pos eF, if_pos eR, if_pos (.inr hc)]
          have eG : gapErr N q = 0 := by unfold gapErr; rw [if_pos eC, eR]
          have h19 := S19 N hok hF2 hc q hq
          rw [eC] at e8; rw [eS] at e9; rw [eG] at e10
          subst e8 e9 e10
          rw [if_pos rfl] at ec es eg
          rw [es] at h12 h18
          rw [eg] at h19
          rw [ec] at h16 hc
          conv => whnf
          conv => whnf
          refine ifB_dec (fun w1 => ?_) (fun w1 => ?_)
          · (exfalso; omega)
          · conv => whnf
            conv => whnf
            refine .inl ⟨_, _, byX rfl (Sound1.pl (h15) rfl), ?_⟩
            conv => whnf
            conv => whnf
            refine .inl ⟨_, _, byX rfl (Sound1.pl (h16) rfl), ?_⟩
            conv => whnf
            conv => whnf
            refine ifB_dec (fun w2 => ?_) (fun w2 => ?_)
            · (exfalso; omega)
            · conv => whnf
              conv => whnf
              refine ifB_dec (fun w3 => ?_) (fun w3 => ?_)
              · conv => whnf
                conv => whnf
                refine ifB_bne (fun w4 => ?_) (fun w4 => ?_)
                · (exfalso; omega)
                · conv => whnf
                  conv => whnf
                  refine .inl ⟨_, _, byX rfl (Sound1.pl (h17) rfl), ?_⟩
                  conv => whnf
                  conv => whnf
                  refine ifB_dec (fun w5 => ?_) (fun w5 => ?_)
                  · (exfalso; omega)
                  · conv => whnf
                    conv => whnf
                    refine ⟨[], by kernel_rfl, ?_⟩
                    conv => whnf
                    conv => whnf
                    refine .inl ⟨_, _, byX rfl (h18), ?_⟩
                    conv => whnf
                    conv => whnf
                    refine .inl ⟨_, _, byX rfl (Sound1.pl (h12) rfl), ?_⟩
                    conv => whnf
                    conv => whnf
                    refine ifB_dec (fun w6 => ?_) (fun w6 => ?_)
                    · (exfalso; omega)
                    · conv => whnf
                      conv => whnf
                      refine .inl ⟨_, _, byX rfl (Sound1.pl (h19) rfl), ?_⟩
                      conv => whnf
                      conv => whnf
                      refine ⟨?_, nofun⟩
                      exact vbE (beq_self_eq_true _)
              · (exfalso; omega)
        · rw [if_neg hc] at eC
          have eG : gapErr N q = 12 := by unfold gapErr; rw [eC]; rfl
          rw [eC] at e8; rw [eG] at e10
          subst e8 e10
          rw [if_neg (by decide)] at ec eg
          subst ec eg
          by_cases h0 : q = 0
          · have eS : stateE N q = 0 := by unfold stateE; rw [if_pos eF, if_pos eR, if_pos (.inl h0)]
            rw [eS] at e9
            subst e9
            rw [if_pos rfl] at es
            rw [es] at h12 h18
            generalize (clF N).1 = c at *
            conv => whnf
            conv => whnf
            refine ifB_dec (fun w1 => ?_) (fun w1 => ?_)
            · (exfalso; omega)
            · conv => whnf
              conv => whnf
              refine .inl ⟨_, _, byX rfl (Sound1.pl (h15) rfl), ?_⟩
              conv => whnf
              conv => whnf
              refine .inl ⟨_, _, byX rfl (Sound1.pl (h16) rfl), ?_⟩
              conv => whnf
              conv => whnf
              refine ifB_dec (fun w2 => ?_) (fun w2 => ?_)
              · conv => whnf
                conv => whnf
                refine ifB_dec (fun w3 => ?_) (fun w3 => ?_)
                · (exfalso; omega)
                · conv => whnf
                  conv => whnf
                  refine .inl ⟨_, _, byX rfl (Sound1.pl (h17) rfl), ?_⟩
                  conv => whnf
                  conv => whnf
                  refine ifB_dec (fun w4 => ?_) (fun w4 => ?_)
                  · conv => whnf
                    conv => whnf
                    refine ifB_bne (fun w5 => ?_) (fun w5 => ?_)
                    · (exfalso; omega)
                    · conv => whnf
                      conv => whnf
                      refine ⟨[], by kernel_rfl, ?_⟩
                      conv => whnf
                      conv => whnf
                      refine .inl ⟨_, _, byX rfl (h18), ?_⟩
                      conv => whnf
                      conv => whnf
                      refine .inl ⟨_, _, byX rfl (Sound1.pl (h12) rfl), ?_⟩
                      conv => whnf
                      conv => whnf
                      refine ifB_dec (fun w6 => ?_) (fun w6 => ?_)
                      · conv => whnf
                        conv => whnf
                        refine ⟨?_, nofun⟩
                        (rfl)
                      · (exfalso; omega)
                  · (exfalso; omega)
              · (exfalso; omega)
          · have eS : stateE N q = 3 := by unfold stateE; rw [if_pos eF, if_pos eR, if_neg (by omega)]
            rw [eS] at e9
            subst e9
            rw [if_neg (by decide)] at es
            subst es
            generalize (clF N).1 = c at *
            conv => whnf
            conv => whnf
            refine ifB_dec (fun w1 => ?_) (fun w1 => ?_)
            · (exfalso; omega)
            · conv => whnf
              conv => whnf
              refine .inl ⟨_, _, byX rfl (Sound1.pl (h15) rfl), ?_⟩
              conv => whnf
              conv => whnf
              refine .inl ⟨_, _, byX rfl (Sound1.pl (h16) rfl), ?_⟩
              conv => whnf
              conv => whnf
              refine ifB_dec (fun w2 => ?_) (fun w2 => ?_)
              · conv => whnf
                conv => whnf
                refine ifB_dec (fun w3 => ?_) (fun w3 => ?_)
                · (exfalso; omega)
                · conv => whnf
                  conv => whnf
                  refine .inl ⟨_, _, byX rfl (Sound1.pl (h17) rfl), ?_⟩
                  conv => whnf
                  conv => whnf
                  refine ifB_dec (fun w4 => ?_) (fun w4 => ?_)
                  · conv => whnf
                    conv => whnf
                    refine ifB_bne (fun w5 => ?_) (fun w5 => ?_)
                    · conv => whnf
                      conv => whnf
                      refine .inl ⟨_, _, byX rfl (Sound1.pl (hz) rfl), ?_⟩
                      conv => whnf
                      conv => whnf
                      refine ⟨?_, nofun⟩
                      (rfl)
                    · (exfalso; omega)
                  · (exfalso; omega)
              · (exfalso; omega)
      · rw [if_neg hq] at h17
        have eR : crE q = 2 := by unfold crE; rw [if_neg (by rw [decide_eq_true_iff]; exact hq)]
        have eS : stateE N q = 2 := by unfold stateE; rw [if_pos eF, eR]; rfl
        rw [eS] at e9
        subst e9
        rw [if_neg (by decide)] at es
        subst es
        by_cases hc : 0 ≤ (clF N).1
        · rw [if_pos hc] at eC
          have eG : gapErr N q = 2 := by unfold gapErr; rw [if_pos eC, eR]
          rw [eC] at e8; rw [eG] at e10
          subst e8 e10
          rw [if_pos rfl] at ec
          rw [if_neg (by decide)] at eg
          subst eg
          rw [ec] at h16 hc
          conv => whnf
          conv => whnf
          refine ifB_dec (fun w1 => ?_) (fun w1 => ?_)
          · (exfalso; omega)
          · conv => whnf
            conv => whnf
            refine .inl ⟨_, _, byX rfl (Sound1.pl (h15) rfl), ?_⟩
            conv => whnf
            conv => whnf
            refine .inl ⟨_, _, byX rfl (Sound1.pl (h16) rfl), ?_⟩
            conv => whnf
            conv => whnf
            refine ifB_dec (fun w2 => ?_) (fun w2 => ?_)
            · (exfalso; omega)
            · conv => whnf
              conv => whnf
              refine ifB_dec (fun w3 => ?_) (fun w3 => ?_)
              · conv => whnf
                conv => whnf
                refine ifB_bne (fun w4 => ?_) (fun w4 => ?_)
                · (exfalso; omega)
                · conv => whnf
                  conv => whnf
                  refine .inl ⟨_, _, byX rfl (Sound1.pl (h17) rfl), ?_⟩
                  conv => whnf
                  conv => whnf
                  refine .inl ⟨_, _, byX rfl (Sound1.pl (hz) rfl), ?_⟩
                  conv => whnf
                  conv => whnf
                  refine ifB_dec (fun w5 => ?_) (fun w5 => ?_)
                  · (exfalso; omega)
                  · conv => whnf
                    conv => whnf
                    refine ⟨?_, nofun⟩
                    (rfl)
              · (exfalso; omega)
        · rw [if_neg hc] at eC
          have eG : gapErr N q = 12 := by unfold gapErr; rw [eC]; rfl
          rw [eC] at e8; rw [eG] at e10
          subst e8 e10
          rw [if_neg (by decide)] at ec eg
          subst ec eg
          generalize (clF N).1 = c at *
          conv => whnf
          conv => whnf
          refine ifB_dec (fun w1 => ?_) (fun w1 => ?_)
          · (exfalso; omega)
          · conv => whnf
            conv => whnf
            refine .inl ⟨_, _, byX rfl (Sound1.pl (h15) rfl), ?_⟩
            conv => whnf
            conv => whnf
            refine .inl ⟨_, _, byX rfl (Sound1.pl (h16) rfl), ?_⟩
            conv => whnf
            conv => whnf
            refine ifB_dec (fun w2 => ?_) (fun w2 => ?_)
            · conv => whnf
              conv => whnf
              refine ifB_dec (fun w3 => ?_) (fun w3 => ?_)
              · (exfalso; omega)
              · conv => whnf
                conv => whnf
                refine .inl ⟨_, _, byX rfl (Sound1.pl (h17) rfl), ?_⟩
                conv => whnf
                conv => whnf
                refine .inl ⟨_, _, byX rfl (Sound1.pl (hz) rfl), ?_⟩
                conv => whnf
                conv => whnf
                refine ifB_dec (fun w4 => ?_) (fun w4 => ?_)
                · conv => whnf
                  conv => whnf
                  refine ⟨?_, nofun⟩
                  (rfl)
                · (exfalso; omega)
            · (exfalso; omega)
    · have eF : formE N = (clF N).2 := by unfold formE; rw [if_pos hn]
      have hF : ¬ formE N = 0 := by rw [eF]; exact hF2
      have eC : closE N = (clF N).2 := by unfold closE; rw [if_neg hF, eF]
      have eS : stateE N q = (clF N).2 := by unfold stateE; rw [if_neg hF, eF]
      have eG : gapErr N q = (clF N).2 := by unfold gapErr; rw [eC, if_neg hF2]
      rw [if_neg hF2] at h16
      rw [eC] at e8; rw [eS] at e9; rw [eG] at e10
      generalize (clF N).2 = E at *
      subst e8 e9 e10
      rw [if_neg hF2] at ec es eg
      subst ec es eg
      conv => whnf
      conv => whnf
      refine ifB_dec (fun w1 => ?_) (fun w1 => ?_)
      · (exfalso; omega)
      · conv => whnf
        conv => whnf
        refine .inl ⟨_, _, byX rfl (Sound1.pl (h15) rfl), ?_⟩
        conv => whnf
        conv => whnf
        refine .inl ⟨_, _, byX rfl (Sound1.pl (h16) rfl), ?_⟩
        conv => whnf
        conv => whnf
        refine ifB_bne (fun w2 => ?_) (fun w2 => ?_)
        · conv => whnf
          conv => whnf
          refine ifB_beq (fun w3 => ?_) (fun w3 => ?_)
          · conv => whnf
            conv => whnf
            refine ifB_beq (fun w4 => ?_) (fun w4 => ?_)
            · conv => whnf
              conv => whnf
              refine ifB_beq (fun w5 => ?_) (fun w5 => ?_)
              · conv => whnf
                conv => whnf
                refine .inl ⟨_, _, byX rfl (Sound1.pl (hz) rfl), ?_⟩
                conv => whnf
                conv => whnf
                refine ⟨?_, nofun⟩
                (rfl)
              · (exfalso; omega)
            · (exfalso; omega)
          · (exfalso; omega)
        · (exfalso; omega)
theorem S3 (N : Net) (hN : N.In) (q : Int) : SP 3 [netV N, i64 q] (vb true) false := by
  cases hf : fewB N with
  | false =>
    have h5 := S5 N hN
    rw [hf] at h5
    have h4 := S4
    refine sound (d := 2) tok2 mixed2 Tryz.func3 (by kernel_rfl) (by kernel_rfl) ?_
    conv => whnf
    refine .inl ⟨_, _, byX rfl (Sound1.pl (h4) rfl), ?_⟩
    conv => whnf
    refine .inl ⟨_, _, byX rfl (Sound1.pl (h5) rfl), ?_⟩
    conv => whnf
    refine ⟨?_, nofun⟩
    (rfl)
  | true =>
    by_cases hn : netE N = 0
    · cases hg : gapE N with
      | true => exact S3gap N hN q hf hn hg
      | false => exact S3ok N hN q hf hn hg
    · exact S3net N hN q hf hn
end Go.Tr

/- The end of a law's proof: what every law shares; further openings of arguments. Conditions: none. -/
namespace Go.Tr
open Go Go.Proofs Go.RowKit Go.WideShapes Go.ChangeShapes
section
variable {H : Type} {enc : TypeId × Value → H} {P : Program}
theorem post_of_below {f : Func} {s : ChangeSpec} {apart fresh handsOn again : Bool} {W W' : World} {args : Array Value} {v : Value} {ds gs : List (DataW H)} {before pa pv : List MemPlace}
    (hW : DataW.Whole enc P f.params.toList s.vars apart W args.toList ds gs before)
    (hres : ∀ (b : Nat) (sp : Nat → Bool) (hd : Bool), DataW.TrodAll enc P W' b sp hd f.resultTypes.toList (v.resultList f.resultTypes.size) (s.fn H (ds ++ gs)).results [])
    (hargs : ∀ sp : Nat → Bool, (∀ p ∈ before, sp p.block = true) → DataW.TrodAll enc P W' 0 sp true f.params.toList args.toList (s.fn H (ds ++ gs)).args pa)
    (hvars : ∀ sp : Nat → Bool, (∀ p ∈ before, sp p.block = true) → DataW.TrodVars enc P W' sp s.vars (s.fn H (ds ++ gs)).vars pv)
    (hps : before = pa ++ pv) (hb : Below W.heap.size W W')
    (hok : ∀ (j : Nat) (t : TypeId) (r : Value), f.resultTypes[j]? = some t → (v.resultList f.resultTypes.size)[j]? = some r → Value.okWide P W' .any 0 t r) :
    s.post enc P f apart fresh handsOn again W args v W' := by
  have hlt : ∀ p ∈ before, p.block < W.heap.size := fun p hp => hW.lt p hp
  have hold : ∀ p ∈ before, (fun b => decide (b < W.heap.size)) p.block = true := fun p hp => by simpa using hlt p hp
  refine ⟨ds, gs, before, [], pa, pv, hW, hres _ _ _, hargs _ hold, hvars _ hold, World.keptBut_mono (fun p hp => ⟨hp, ?_⟩) (hb.frame (· ∈ before)), fun _ => ?_⟩
  · rw [hps, List.mem_append] at hp
    exact Or.inr hp
  · obtain ⟨_, _, _, _, _, hz, hn⟩ := hW
    refine ⟨hok, _, _, ([] ++ pa) ++ pv, ⟨[] ++ pa, pv, trodAll_append (hargs _ (fun _ _ => rfl)) (hres _ _ _), hvars _ (fun _ _ => rfl), rfl, ?_, ?_⟩, ?_⟩
    · intro b off hp
      have hin : MemPlace.cell b off ∈ before := by rw [hps]; simpa using hp
      rw [hb.frozen (hlt _ hin)]
      exact hz b off hin
    · intro ha
      have := hn ha
      rw [hps] at this
      simpa using this
    · intro p hp _
      rw [hps]
      simpa using hp
end

set_option maxRecDepth 20000
theorem cells3 : Tryz.prog.cellsOf 3 = 1 := by kernel_rfl
theorem ints_open {x : AV} (h : TyA Tryz.prog 4 28 x) : ∃ l : List Int, AVE 5 x (ints l) ∧ l.length ≤ 9223372036854775807 ∧ ∀ a ∈ l, inK .i64 a := by
  simp only [TyA, Tryz.underlying28] at h
  unfold TyC at h
  simp only [Tryz.underlying28] at h
  obtain ⟨len, f, e, hl, hf⟩ := h
  cases e
  obtain ⟨l, n1, n2, n3⟩ := list_open (g := fun n : Int => [i64 n]) (p := fun n => inK .i64 n) 0 (fun i hi => int_open Tryz.underlying3 (hf i hi))
  rw [cells3]
  exact ⟨l, n3 4, by rw [n1]; exact hl, n2⟩
theorem pair_open {t : TypeId} {fs : Array Field} (hu : Tryz.prog.underlying t = some (.struct fs)) (hf : fs.toList.map (·.type) = [3, 3]) {x : AV} (h : TyA Tryz.prog 4 t x) : ∃ a b : Int, AVE 5 x (.agg [i64 a, i64 b]) ∧ inK .i64 a ∧ inK .i64 b := by
  simp only [TyA, hu] at h
  obtain ⟨xs, rfl, h⟩ := h
  unfold TyC at h
  simp only [hu] at h
  obtain ⟨ps, rfl, h⟩ := h
  generalize fs.toList = L at hf h
  match L with
  | [] => simp at hf
  | [_] => simp at hf
  | _ :: _ :: _ :: _ => simp at hf
  | [f, g] =>
    simp only [List.map_cons, List.map_nil, List.cons.injEq, and_true] at hf
    obtain ⟨p, q, rfl, h1, h2⟩ := all2_2 h
    rw [hf.1] at h1
    rw [hf.2] at h2
    obtain ⟨a, rfl, ha⟩ := int_open Tryz.underlying3 h1
    obtain ⟨b, rfl, hb⟩ := int_open Tryz.underlying3 h2
    exact ⟨a, b, ave2 a b, ha, hb⟩
theorem range_open {x : AV} (h : TyA Tryz.prog 4 53 x) : ∃ a b : Int, AVE 5 x (.agg [i64 a, i64 b]) ∧ inK .i64 a ∧ inK .i64 b := pair_open Tryz.underlying53 rfl h
theorem way_open {x : AV} (h : TyA Tryz.prog 4 61 x) : ∃ a b : Int, AVE 5 x (.agg [i64 a, i64 b]) ∧ inK .i64 a ∧ inK .i64 b := pair_open Tryz.underlying61 rfl h
end Go.Tr

namespace Go.Proofs.YtkomdfgffgkphaaGreat
open Go.ChangeShapes Go.WideShapes Go.ChangeAt Go.RowKit Go.Tr
theorem Tryz.own : ownKnob Tryz.prog.godebug = none := by kernel_rfl
theorem Tryz.laidOut : laidOutB Tryz.prog = true := by kernel_rfl
end Go.Proofs.YtkomdfgffgkphaaGreat

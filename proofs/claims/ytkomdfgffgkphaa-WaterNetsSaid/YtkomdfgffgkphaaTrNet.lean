/- Nets of chapter 2 as plain data, their abstract values, and the opening of a net. Conditions: none. -/
import Derived.Test.YtkomdfgffgkphaaTrOp
import Derived.Test.YtkomdfgffgkphaaTrKa
namespace Go.Tr
open Go Go.Proofs Go.RowKit

structure Nd where
  name : ByteArray
  lake : Bool
  head : Int
  draw : Int
structure Cn where
  name : ByteArray
  fr : Int
  to : Int
  res : Int
  valve : Bool
  opn : Bool
structure Net where
  ns : List Nd
  cs : List Cn

set_option maxRecDepth 20000
abbrev sv (s : ByteArray) : AV := .val (.string s)
def ndC (n : Nd) : List AV := [sv n.name, vb n.lake, i64 n.head, i64 n.draw]
def cnC (c : Cn) : List AV := [sv c.name, i64 c.fr, i64 c.to, i64 c.res, vb c.valve, vb c.opn]
def nd0 : Nd := ⟨ByteArray.empty, false, 0, 0⟩
def cn0 : Cn := ⟨ByteArray.empty, 0, 0, 0, false, false⟩
def listA {α : Type} (es : Nat) (g : α → List AV) (d : α) (l : List α) : AV := .rslice es l.length fun i => g (l.getD i d)
def netV (N : Net) : AV := .agg [listA 4 ndC nd0 N.ns, listA 6 cnC cn0 N.cs]

structure Nd.In (n : Nd) : Prop where
  name : n.name.size ≤ 9223372036854775807
  head : inK .i64 n.head
  draw : inK .i64 n.draw
structure Cn.In (c : Cn) : Prop where
  name : c.name.size ≤ 9223372036854775807
  fr : inK .i64 c.fr
  to : inK .i64 c.to
  res : inK .i64 c.res
structure Net.In (N : Net) : Prop where
  nl : N.ns.length ≤ 9223372036854775807
  cl : N.cs.length ≤ 9223372036854775807
  ns : ∀ n ∈ N.ns, n.In
  cs : ∀ c ∈ N.cs, c.In

/-- A slice whose rows are typed, as a list. -/
theorem list_open {α : Type} {es len : Nat} {f : Nat → List AV} {g : α → List AV} {p : α → Prop} (d : α) (h : ∀ i, i < len → ∃ a, f i = g a ∧ p a) :
    ∃ l : List α, l.length = len ∧ (∀ a ∈ l, p a) ∧ ∀ k, AVE (k + 1) (.rslice es len f) (listA es g d l) := by
  have hx : ∀ i, ∃ a, i < len → f i = g a ∧ p a := fun i => by
    by_cases hi : i < len
    · obtain ⟨a, ha⟩ := h i hi
      exact ⟨a, fun _ => ha⟩
    · exact ⟨d, fun h => absurd h hi⟩
  refine ⟨(List.range len).map fun i => Classical.choose (hx i), by simp, fun a ha => ?_, fun k => ⟨rfl, by simp, fun i hi => ?_⟩⟩
  · obtain ⟨i, hi, rfl⟩ := List.mem_map.1 ha
    exact (Classical.choose_spec (hx i) (List.mem_range.1 hi)).2
  · have := (Classical.choose_spec (hx i) hi).1
    simpa [List.getD_eq_getElem?_getD, hi] using this

theorem all2_get {α β : Type} {p : α → β → Prop} : ∀ {l : List α} {m : List β}, All2 p l m → m.length = l.length ∧ ∀ (i : Nat) x, l[i]? = some x → ∃ y, m[i]? = some y ∧ p x y
  | [], [], _ => ⟨rfl, fun i x hx => by simp at hx⟩
  | x :: l, y :: m, h => by
    obtain ⟨g1, g2⟩ := all2_get h.2
    refine ⟨by simp [g1], fun i a ha => ?_⟩
    cases i with
    | zero => simp at ha; subst ha; exact ⟨y, rfl, h.1⟩
    | succ i => simpa using g2 i a (by simpa using ha)
  | [], _ :: _, h => h.elim
  | _ :: _, [], h => h.elim

theorem int_open {m : Nat} {t : TypeId} {xs : List AV} {P : Program} (hu : P.underlying t = some (.int .i64)) (h : TyC P (m + 1) t xs) : ∃ n, xs = [i64 n] ∧ inK .i64 n := by
  simp only [TyC, hu] at h
  exact h
theorem bool_open {m : Nat} {t : TypeId} {xs : List AV} {P : Program} (hu : P.underlying t = some .bool) (h : TyC P (m + 1) t xs) : ∃ b, xs = [vb b] := by
  simp only [TyC, hu] at h
  exact h
theorem str_open {m : Nat} {t : TypeId} {xs : List AV} {P : Program} (hu : P.underlying t = some .string) (h : TyC P (m + 1) t xs) : ∃ s : ByteArray, xs = [sv s] ∧ s.size ≤ 9223372036854775807 := by
  simp only [TyC, hu] at h
  exact h

theorem all2_2 {α β : Type} {p : α → β → Prop} {a b : α} {m : List β} (h : All2 p [a, b] m) : ∃ x y, m = [x, y] ∧ p a x ∧ p b y := by
  match m, h with
  | [x, y], h => exact ⟨x, y, rfl, h.1, h.2.1⟩
theorem all2_4 {α β : Type} {p : α → β → Prop} {a b c d : α} {m : List β} (h : All2 p [a, b, c, d] m) : ∃ x y z u, m = [x, y, z, u] ∧ p a x ∧ p b y ∧ p c z ∧ p d u := by
  match m, h with
  | [x, y, z, u], h => exact ⟨x, y, z, u, rfl, h.1, h.2.1, h.2.2.1, h.2.2.2.1⟩
theorem all2_6 {α β : Type} {p : α → β → Prop} {a b c d e f : α} {m : List β} (h : All2 p [a, b, c, d, e, f] m) : ∃ x y z u v w, m = [x, y, z, u, v, w] ∧ p a x ∧ p b y ∧ p c z ∧ p d u ∧ p e v ∧ p f w := by
  match m, h with
  | [x, y, z, u, v, w], h => exact ⟨x, y, z, u, v, w, rfl, h.1, h.2.1, h.2.2.1, h.2.2.2.1, h.2.2.2.2.1, h.2.2.2.2.2.1⟩

theorem nd_open {xs : List AV} (h : TyC Try.prog 2 64 xs) : ∃ n : Nd, xs = ndC n ∧ n.In := by
  unfold TyC at h
  simp only [Try.underlying64] at h
  obtain ⟨ps, rfl, h⟩ := h
  obtain ⟨x, y, z, u, rfl, h1, h2, h3, h4⟩ := all2_4 h
  obtain ⟨s, rfl, hs⟩ := str_open Try.underlying9 h1
  obtain ⟨b, rfl⟩ := bool_open Try.underlying4 h2
  obtain ⟨i, rfl, hi⟩ := int_open Try.underlying3 h3
  obtain ⟨j, rfl, hj⟩ := int_open Try.underlying3 h4
  exact ⟨⟨s, b, i, j⟩, rfl, ⟨hs, hi, hj⟩⟩

theorem cn_open {xs : List AV} (h : TyC Try.prog 2 58 xs) : ∃ c : Cn, xs = cnC c ∧ c.In := by
  unfold TyC at h
  simp only [Try.underlying58] at h
  obtain ⟨ps, rfl, h⟩ := h
  obtain ⟨x, y, z, u, v, w, rfl, h1, h2, h3, h4, h5, h6⟩ := all2_6 h
  obtain ⟨s, rfl, hs⟩ := str_open Try.underlying9 h1
  obtain ⟨i, rfl, hi⟩ := int_open Try.underlying3 h2
  obtain ⟨j, rfl, hj⟩ := int_open Try.underlying3 h3
  obtain ⟨k, rfl, hk⟩ := int_open Try.underlying3 h4
  obtain ⟨b, rfl⟩ := bool_open Try.underlying4 h5
  obtain ⟨c, rfl⟩ := bool_open Try.underlying4 h6
  exact ⟨⟨s, i, j, k, b, c⟩, rfl, ⟨hs, hi, hj, hk⟩⟩

theorem cells64 : Try.prog.cellsOf 64 = 4 := by kernel_rfl
theorem cells58 : Try.prog.cellsOf 58 = 6 := by kernel_rfl

theorem net_open {x : AV} (h : TyA Try.prog 4 25 x) : ∃ N : Net, AVE 5 x (netV N) ∧ N.In := by
  simp only [TyA, Try.underlying25] at h
  obtain ⟨xs, rfl, h⟩ := h
  unfold TyC at h
  simp only [Try.underlying25] at h
  obtain ⟨ps, rfl, h⟩ := h
  obtain ⟨x, y, rfl, h1, h2⟩ := all2_2 h
  unfold TyC at h1
  simp only [Try.underlying22] at h1
  obtain ⟨len, f, rfl, hl, hf⟩ := h1
  unfold TyC at h2
  simp only [Try.underlying23] at h2
  obtain ⟨len', f', rfl, hl', hf'⟩ := h2
  obtain ⟨ns, n1, n2, n3⟩ := list_open (g := ndC) (p := Nd.In) nd0 (fun i hi => nd_open (hf i hi))
  obtain ⟨cs, c1, c2, c3⟩ := list_open (g := cnC) (p := Cn.In) cn0 (fun i hi => cn_open (hf' i hi))
  refine ⟨⟨ns, cs⟩, ⟨rfl, fun i a b ha hb => ?_⟩, ⟨by rw [n1]; exact hl, by rw [c1]; exact hl', n2, c2⟩⟩
  match i, ha, hb with
  | 0, ha, hb => cases ha; cases hb; rw [cells64]; exact n3 3
  | 1, ha, hb => cases ha; cases hb; rw [cells58]; exact c3 3
end Go.Tr

/- Structs put together; variables, slices and maps made. Conditions: none. -/
import Derived.Test.YtkomdfgffgkphaaTrF
namespace Go.Tr
open Go Go.RowKit

theorem splice_length : ∀ (l : List AV) (off : Nat) (vs : List AV), (splice l off vs).length = l.length
  | [], _, _ => by simp [splice]
  | x :: r, 0, [] => by simp [splice]
  | x :: r, 0, v :: vs => by simp [splice, splice_length r 0 vs]
  | x :: r, n + 1, vs => by simp [splice, splice_length r n vs]

theorem splice_get : ∀ (l : List AV) (off : Nat) (vs : List AV) (i : Nat), i < l.length → (splice l off vs)[i]? = if off ≤ i ∧ i - off < vs.length then vs[i - off]? else l[i]?
  | [], _, _, i, h => by simp at h
  | x :: r, 0, [], i, h => by simp [splice]
  | x :: r, 0, v :: vs, 0, h => by simp [splice]
  | x :: r, 0, v :: vs, i + 1, h => by
    have := splice_get r 0 vs i (by simpa using h)
    simp only [splice, List.getElem?_cons_succ]
    simp only [Nat.zero_le, true_and, Nat.sub_zero] at this ⊢
    rw [this]
    simp only [List.length_cons, Nat.add_lt_add_iff_right, List.getElem?_cons_succ]
  | x :: r, n + 1, vs, 0, h => by simp [splice]
  | x :: r, n + 1, vs, i + 1, h => by
    have := splice_get r n vs i (by simpa using h)
    simp only [splice, List.getElem?_cons_succ]
    rw [this]
    simp only [Nat.add_le_add_iff_right, Nat.add_sub_add_right]

theorem foldl_set (off : Nat) : ∀ (l : List Value) (k : Nat) (cs : Array Value), off + k + l.length ≤ cs.size →
    ((l.zipIdx k).foldl (fun cs (p : Value × Nat) => cs.setIfInBounds (off + p.2) p.1) cs).size = cs.size ∧
    ∀ i, ((l.zipIdx k).foldl (fun cs (p : Value × Nat) => cs.setIfInBounds (off + p.2) p.1) cs)[i]? = if off + k ≤ i ∧ i - (off + k) < l.length then l[i - (off + k)]? else cs[i]?
  | [], k, cs, _ => by simp
  | v :: r, k, cs, h => by
    simp only [List.length_cons] at h
    have ih := foldl_set off r (k + 1) (cs.setIfInBounds (off + k) v) (by simp; omega)
    simp only [List.zipIdx_cons, List.foldl_cons]
    refine ⟨by rw [ih.1]; simp, fun i => ?_⟩
    rw [ih.2 i]
    by_cases h1 : i = off + k
    · subst h1
      have hlt : off + k < cs.size := by omega
      rw [if_neg (by omega), if_pos (by simp)]
      simp [hlt]
    · by_cases h2 : off + k ≤ i ∧ i - (off + k) < (v :: r).length
      · rw [if_pos h2]
        simp only [List.length_cons] at h2
        rw [if_pos (by omega)]
        rw [show i - (off + k) = (i - (off + (k + 1))) + 1 from by omega, List.getElem?_cons_succ]
      · rw [if_neg h2]
        simp only [List.length_cons] at h2
        rw [if_neg (by omega), Array.getElem?_setIfInBounds_ne (by omega)]

section
variable {P : Program} {T : Nat → Option TI} {w w' : World} {c c' : Cx} {base : Nat} {hp hp' : Hp}

/-- Cells that are known. -/
structure CR (P : Program) (w : World) (c : Cx) (l : List AV) (vs : Array Value) : Prop where
  size : vs.size = l.length
  one : ∀ v ∈ vs.toList, v.oneCell' = true
  rel : ∀ i x, l[i]? = some x → VR P w c x (vs.getD i undef)

theorem VR.cr {x : AV} {u : Value} (h : VR P w c x u) (hs : x.storable = true) : CR P w c x.cells u.cells := ⟨(h.cells hs).1, (h.cells hs).2.1, (h.cells hs).2.2⟩
theorem CR.agg {l : List AV} {vs : Array Value} (h : CR P w c l vs) : VR P w c (.agg l) (.agg vs) := .agg l vs h.size h.one h.rel

theorem CR.splice {l m : List AV} {vs us : Array Value} (h : CR P w c l vs) (k : CR P w c m us) {off : Nat} (hle : off + us.size ≤ vs.size) :
    CR P w c (splice l off m) (us.zipIdx.foldl (fun cs p => cs.setIfInBounds (off + p.2) p.1) vs) := by
  have e : us.zipIdx.foldl (fun cs p => cs.setIfInBounds (off + p.2) p.1) vs = (us.toList.zipIdx 0).foldl (fun cs (p : Value × Nat) => cs.setIfInBounds (off + p.2) p.1) vs := by
    rw [← Array.foldl_toList, Array.toList_zipIdx]
  have f := foldl_set off us.toList 0 vs (by simpa using hle)
  simp only [Nat.add_zero] at f
  rw [e]
  refine ⟨by rw [f.1, splice_length, h.size], fun v hv => ?_, fun i x hx => ?_⟩
  · obtain ⟨i, hi, rfl⟩ := List.getElem_of_mem hv
    have hg := f.2 i
    simp only [Array.length_toList] at hi
    rw [Array.getElem?_eq_getElem hi] at hg
    simp only [Array.getElem_toList]
    split at hg
    · exact k.one _ (List.mem_of_getElem? hg.symm)
    · exact h.one _ (by rw [← Array.getElem?_toList] at hg; exact List.mem_of_getElem? hg.symm)
  · have hi : i < l.length := by have := (List.getElem?_eq_some_iff.1 hx).1; rwa [splice_length] at this
    rw [splice_get _ _ _ _ hi] at hx
    simp only [Array.getD_eq_getD_getElem?]
    rw [f.2 i]
    split at hx
    · rename_i hc
      rw [if_pos ⟨hc.1, by simp; rw [k.size]; exact hc.2⟩]
      have := k.rel _ x hx
      simpa using this
    · rename_i hc
      rw [if_neg (fun hh => hc ⟨hh.1, by have := hh.2; simp at this; rw [← k.size]; exact this⟩)]
      have := h.rel _ x hx
      simpa using this

theorem fill_ok {place : Nat → Option (Nat × Nat)} {ρ : Operand → AV} {r : Operand → Value} : ∀ (ps : List (Nat × Operand)) (l l' : List AV) (vs : Array Value), CR P w c l vs → (∀ p ∈ ps, VR P w c (ρ p.2) (r p.2)) →
    buildCells place l (ps.map fun p => (p.1, ρ p.2)) = some l' → ∃ vs', Instr.fill place vs (ps.map fun p => (p.1, r p.2)) = some vs' ∧ CR P w c l' vs' ∧ l'.length = l.length
  | [], l, l', vs, h, _, hb => by simp [buildCells] at hb; subst hb; exact ⟨vs, rfl, h, rfl⟩
  | (i, x) :: ps, l, l', vs, h, hp, hb => by
    simp only [List.map_cons, buildCells] at hb
    cases hpl : place i with
    | none => rw [hpl] at hb; cases hb
    | some q =>
      obtain ⟨off, size⟩ := q
      rw [hpl] at hb
      simp only at hb
      cases hc : (Nat.beq (ρ x).cells.length size && Nat.ble (off + size) l.length && (ρ x).storable) with
      | false => rw [hc] at hb; cases hb
      | true =>
        rw [hc] at hb
        simp only [cond_true] at hb
        rw [Bool.and_eq_true, Bool.and_eq_true] at hc
        obtain ⟨⟨h1, h2⟩, h3⟩ := hc
        have h1 := Nat.eq_of_beq_eq_true h1
        have h2 := Nat.le_of_ble_eq_true h2
        have hx := (hp (i, x) (by simp)).cr h3
        have hsz : (r x).cells.size = size := by rw [hx.size, h1]
        obtain ⟨vs', g1, g2, g3⟩ := fill_ok ps _ l' _ (h.splice hx (off := off) (by rw [hsz, h.size]; exact h2)) (fun p hm => hp p (by simp [hm])) hb
        refine ⟨vs', ?_, g2, by rw [g3, splice_length]⟩
        simp only [List.map_cons, Instr.fill, hpl]
        rw [if_neg (by rw [hsz, h.size]; simp; exact h2)]
        exact g1

theorem zero_cr (hT : TOK P T) {t : TypeId} {ti : TI} (ht : T t = some ti) (hl : (zeroCells ti).length = ti.size) : CR P w c (zeroCells ti) ti.zero.cells := by
  obtain ⟨_, h2, h3, _⟩ := hT t ti ht
  have hz : VR P w c (constAV ti.zero) ti.zero := .tree (constAV_ok _)
  unfold zeroCells at hl ⊢
  have hcase : (constAV ti.zero).storable = true ∨ ti.zero.cells.size = 1 ∧ (constAV ti.zero).cells = [.top] := by
    unfold constAV
    split
    · exact .inl rfl
    · rename_i cs heq
      rw [heq] at h3
      have : cs.toList.all Value.oneCell' = true := List.all_eq_true.2 h3
      simp [this]
      exact .inl rfl
    · rename_i vs heq
      rw [heq] at h3
      have := h3 (.tuple vs) (by simp [Value.cells])
      simp [Value.oneCell'] at this
    · rename_i v h5 h6 h7
      have hvc : ti.zero.cells = #[ti.zero] := by cases hzz : ti.zero <;> simp_all [Value.cells]
      have := h3 ti.zero (by rw [hvc]; simp)
      exact .inl this
  rcases hcase with h | ⟨_, h⟩
  · exact hz.cr h
  · refine ⟨by rw [h2, ← hl], h3, fun i x hx => ?_⟩
    rw [h] at hx
    have : x = .top := by
      cases i with
      | zero => simpa using hx.symm
      | succ i => simp at hx
    subst this
    exact .tree (.top _)
end
end Go.Tr

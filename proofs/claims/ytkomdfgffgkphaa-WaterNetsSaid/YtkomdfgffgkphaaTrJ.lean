/- The built-in append, and stores: what is known of a slice's cells; the two ways of append. Conditions: none. -/
import Derived.Test.YtkomdfgffgkphaaTrI
namespace Go.Tr
open Go Go.RowKit

section
variable {P : Program} {T : Nat → Option TI} {w w' : World} {c c' : Cx} {base : Nat} {hp hp' : Hp}

/-- The elements of a slice, as they lie in memory. -/
structure Elems (P : Program) (w : World) (c : Cx) (es m : Nat) (fx : Nat → List AV) (fl : Bool) (u : Value) (news : Array Value) : Prop where
  sl : ∃ a k, u = .slice a m k ∧ m ≤ k
  run : ∀ w', w'.heap = w.heap → (Builtin.firstCells es m u).run P w' = .ok news w'
  size : news.size = m * es
  one : ∀ v ∈ news.toList, v.oneCell' = true
  len : ∀ i, i < m → (fx i).length = es
  rel : ∀ (i j : Nat) (y : AV), i < m → (fx i)[j]? = some y → VR P w c y (news.getD (i * es + j) undef) ∧ (fl = true → VT P w c.p y (news.getD (i * es + j) undef))

theorem div_mod_lt {k m es : Nat} (h : k < m * es) : k / es < m ∧ k % es < es := by
  have hes : 0 < es := by rcases Nat.eq_zero_or_pos es with h0 | h0 <;> simp_all
  exact ⟨Nat.div_lt_of_lt_mul (by rwa [Nat.mul_comm]), Nat.mod_lt _ hes⟩

theorem cell_heap {w w' : World} (h : w'.heap = w.heap) (a : Addr) : w'.cell? a = w.cell? a := by simp [World.cell?, h]

theorem elems_ok (h : HR P base w c hp) {es m : Nat} {fx : Nat → List AV} {x : AV} {u : Value} (hx : VR P w c x u) (he : elemsOf hp es x = some (m, fx)) : ∃ news, Elems P w c es m fx (flatOf hp x) u news := by
  have none0 : ∀ (fx : Nat → List AV) (fl : Bool) (a : Option Addr) (k : Nat), Elems P w c es 0 fx fl (.slice a 0 k) #[] := fun fx fl a k =>
    ⟨⟨a, k, rfl, Nat.zero_le _⟩, fun w' _ => by cases a <;> simp [Builtin.firstCells, loadCells, loadCellsFrom], by simp, by simp, by intro i hi; omega, by intro i j y hi; omega⟩
  cases x with
  | eslice =>
    simp [elemsOf] at he
    obtain ⟨rfl, rfl⟩ := he
    cases hx with
    | tree hx => cases hx; exact ⟨_, none0 _ _ _ _⟩
  | rslice es' len f =>
    simp only [elemsOf] at he
    cases hb : Nat.beq es' es with
    | false => rw [hb] at he; cases he
    | true =>
      rw [hb] at he
      simp at he
      obtain ⟨rfl, rfl⟩ := he
      have := Nat.eq_of_beq_eq_true hb
      subst this
      cases hx with
      | tree hx =>
        cases hx with
        | rslice0 => exact ⟨_, none0 _ _ _ _⟩
        | rslice _ _ _ b off k g hk hpb hl hcell hrel =>
          have hget : ∀ j, j < len * es' → w.cell? ⟨b, off + j, none⟩ = some (g (j / es') (j % es')) ∧ (g (j / es') (j % es')).oneCell' = true := fun j hj => by
            obtain ⟨h1, h2⟩ := div_mod_lt hj
            have := hcell (j / es') (j % es') h1 h2
            rwa [show j / es' * es' + j % es' = j from by rw [Nat.mul_comm]; exact Nat.div_add_mod j es'] at this
          refine ⟨((List.range (len * es')).map fun j => g (j / es') (j % es')).toArray, ⟨_, _, rfl, hk⟩, fun w' hw' => ?_, by simp, fun v hv => ?_, hl, fun i j y hi hy => ?_⟩
          · exact run_loadCells w' ⟨b, off, none⟩ (len * es') _ fun j hj => by rw [addr_add, cell_heap hw']; exact (hget j hj).1
          · simp at hv
            obtain ⟨j, hj, rfl⟩ := hv
            exact (hget j hj).2
          · have hj : j < es' := by rw [← hl i hi]; exact (List.getElem?_eq_some_iff.1 hy).1
            have hij : i * es' + j < len * es' := by
              have : (i + 1) * es' ≤ len * es' := Nat.mul_le_mul_right _ hi
              rw [Nat.add_mul, Nat.one_mul] at this
              omega
            have hd : (i * es' + j) / es' = i := by
              rw [Nat.add_comm, Nat.add_mul_div_right _ _ (by omega), Nat.div_eq_of_lt hj, Nat.zero_add]
            have hm := mul_add_mod' (i := i) hj
            have hv : (((List.range (len * es')).map fun j => g (j / es') (j % es')).toArray).getD (i * es' + j) undef = g i j := by
              simp [hij, hd, hm]
            rw [hv]
            exact ⟨.tree (hrel i j y hi hy), fun _ => hrel i j y hi hy⟩
  | oslice b ver off len cap =>
    simp only [elemsOf] at he
    split at he
    · rename_i k hk
      cases hb : Nat.beq k.es es with
      | false => rw [hb] at he; cases he
      | true =>
        rw [hb] at he
        simp at he
        obtain ⟨rfl, rfl⟩ := he
        have hes := Nat.eq_of_beq_eq_true hb
        obtain ⟨hkb, hkv⟩ := block_some hk
        obtain ⟨oi, hO, hle, _, hv'⟩ := hx.oslice_inv
        have hB := h.blk b k oi hkb hO
        obtain ⟨hn1, a, k1, hu, hk1, hk2, hk3, _⟩ := hv' (by rw [hB.ver, hkv])
        have hfl : flatOf hp (.oslice b ver off len cap) = k.flat := by simp [flatOf, hk]
        rw [hfl, hu]
        by_cases h0 : len = 0
        · subst h0; exact ⟨_, none0 _ _ _ _⟩
        · have hk0 : k1 ≠ 0 := by omega
          rw [hk3 hk0]
          have hcap : oi.cap ≠ 0 := by omega
          obtain ⟨cs, t, hrow, hsz, hone⟩ := hB.row hcap
          have hoes : oi.es = es := by rw [hB.es, hes]
          have hget : ∀ j, j < len * es → oi.lo + off * es + j < cs.size := fun j hj => by
            have : (off + len) * es ≤ oi.cap * es := Nat.mul_le_mul_right _ (by have := hB.le; omega)
            rw [Nat.add_mul] at this
            rw [hoes] at hsz
            omega
          refine ⟨((List.range (len * es)).map fun j => cs.getD (oi.lo + off * es + j) undef).toArray, ⟨_, _, rfl, hk1⟩, fun w' hw' => ?_, by simp, fun v hv => ?_, fun i hi => ?_, fun i j y hi hy => ?_⟩
          · refine run_loadCells w' _ (len * es) _ fun j hj => ?_
            rw [addr_add, cell_heap hw', hoes]
            simp [World.cell?, hrow, hget j hj]
          · simp at hv
            obtain ⟨j, hj, rfl⟩ := hv
            rw [Array.getElem?_eq_getElem (hget j hj)]
            exact hone _ (by simp)
          · rw [← hes]; exact hB.el _ (by have := hB.n; omega)
          · have hlen : off + i < k.len := by have := hB.n; omega
            obtain ⟨v, g1, g2, g3, g4⟩ := hB.cell hlen hy
            have hj : j < es := by rw [← hes, ← hB.el _ hlen]; exact (List.getElem?_eq_some_iff.1 hy).1
            have hij : i * es + j < len * es := by
              have : (i + 1) * es ≤ len * es := Nat.mul_le_mul_right _ hi
              rw [Nat.add_mul, Nat.one_mul] at this
              omega
            have hv : (((List.range (len * es)).map fun j => cs.getD (oi.lo + off * es + j) undef).toArray).getD (i * es + j) undef = v := by
              have e1 : oi.lo + ((off + i) * oi.es + j) = oi.lo + off * es + (i * es + j) := by rw [hoes, Nat.add_mul]; omega
              rw [e1] at g1
              simp only [World.cell?, hrow] at g1
              simp at g1
              simp [hij, g1]
            rw [hv]
            exact ⟨g3, g4⟩
    · cases he
  | top => simp [elemsOf] at he
  | val => simp [elemsOf] at he
  | agg => simp [elemsOf] at he
  | tuple => simp [elemsOf] at he
  | func => simp [elemsOf] at he
  | rptr => simp [elemsOf] at he
  | optr => simp [elemsOf] at he
  | omap => simp [elemsOf] at he
  | yld => simp [elemsOf] at he
  | cslice es' len cc f =>
    simp only [elemsOf] at he
    cases hb : Nat.beq es' es with
    | false => rw [hb] at he; cases he
    | true =>
      rw [hb] at he
      simp at he
      obtain ⟨rfl, rfl⟩ := he
      have := Nat.eq_of_beq_eq_true hb
      subst this
      cases hx with
      | tree hx =>
        cases hx with
        | cslice0 => exact ⟨_, none0 _ _ _ _⟩
        | cslice _ _ _ _ b off g hk hpb hl hcell hrel =>
          have hget : ∀ j, j < len * es' → w.cell? ⟨b, off + j, none⟩ = some (g (j / es') (j % es')) ∧ (g (j / es') (j % es')).oneCell' = true := fun j hj => by
            obtain ⟨h1, h2⟩ := div_mod_lt hj
            have := hcell (j / es') (j % es') h1 h2
            rwa [show j / es' * es' + j % es' = j from by rw [Nat.mul_comm]; exact Nat.div_add_mod j es'] at this
          refine ⟨((List.range (len * es')).map fun j => g (j / es') (j % es')).toArray, ⟨_, _, rfl, hk⟩, fun w' hw' => ?_, by simp, fun v hv => ?_, hl, fun i j y hi hy => ?_⟩
          · exact run_loadCells w' ⟨b, off, none⟩ (len * es') _ fun j hj => by rw [addr_add, cell_heap hw']; exact (hget j hj).1
          · simp at hv
            obtain ⟨j, hj, rfl⟩ := hv
            exact (hget j hj).2
          · have hj : j < es' := by rw [← hl i hi]; exact (List.getElem?_eq_some_iff.1 hy).1
            have hij : i * es' + j < len * es' := by
              have : (i + 1) * es' ≤ len * es' := Nat.mul_le_mul_right _ hi
              rw [Nat.add_mul, Nat.one_mul] at this
              omega
            have hd : (i * es' + j) / es' = i := by
              rw [Nat.add_comm, Nat.add_mul_div_right _ _ (by omega), Nat.div_eq_of_lt hj, Nat.zero_add]
            have hm := mul_add_mod' (i := i) hj
            have hv : (((List.range (len * es')).map fun j => g (j / es') (j % es')).toArray).getD (i * es' + j) undef = g i j := by
              simp [hij, hd, hm]
            rw [hv]
            exact ⟨.tree (hrel i j y hi hy), fun _ => hrel i j y hi hy⟩
  | rmap => simp [elemsOf] at he
end
end Go.Tr

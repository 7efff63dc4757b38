/- Slices and maps made. Conditions: none. -/
import Derived.Test.YtkomdfgffgkphaaTrH
namespace Go.Tr
open Go Go.RowKit

theorem rep_length (l : List AV) : ∀ n, ((List.range n).flatMap fun _ => l).length = n * l.length
  | 0 => by simp
  | n + 1 => by rw [List.range_succ, List.flatMap_append, List.length_append, rep_length l n, Nat.add_mul]; simp

theorem rep_get (l : List AV) : ∀ (n i : Nat), ((List.range n).flatMap fun _ => l)[i]? = if i < n * l.length then l[i % l.length]? else none
  | 0, i => by simp
  | n + 1, i => by
    rw [List.range_succ, List.flatMap_append]
    simp only [List.flatMap_cons, List.flatMap_nil, List.append_nil]
    rw [List.getElem?_append, rep_length, rep_get l n i]
    by_cases h : i < n * l.length
    · rw [if_pos h, if_pos h, if_pos (by rw [Nat.add_mul]; omega)]
    · rw [if_neg h]
      by_cases h2 : i < (n + 1) * l.length
      · rw [if_pos h2]
        rw [Nat.add_mul, Nat.one_mul] at h2
        have hm : i % l.length = i - n * l.length := by
          rw [show i = (i - n * l.length) + n * l.length from by omega, Nat.add_mul_mod_self_right, Nat.mod_eq_of_lt (by omega)]
          omega
        rw [hm]
      · rw [if_neg h2]
        rw [Nat.add_mul, Nat.one_mul] at h2
        exact List.getElem?_eq_none (by omega)

section
variable {P : Program} {T : Nat → Option TI} {w w' : World} {c c' : Cx} {base : Nat} {hp hp' : Hp}

theorem rep_cr {l : List AV} {vs : Array Value} (h : CR P w c l vs) (hpos : 0 < l.length) (n : Nat) :
    CR P w c ((List.range n).flatMap fun _ => l) ((Array.range (n * l.length)).map (vs[· % vs.size]!)) := by
  refine ⟨by rw [rep_length]; simp, fun v hv => ?_, fun i x hx => ?_⟩
  · simp at hv
    obtain ⟨i, _, rfl⟩ := hv
    have hlt : i % vs.size < vs.size := Nat.mod_lt _ (by rw [h.size]; exact hpos)
    rw [getElem!_pos vs (i % vs.size) hlt]
    exact h.one _ (by simp)
  · rw [rep_get] at hx
    split at hx
    · rename_i hi
      have := h.rel _ x hx
      simp only [Array.getD_eq_getD_getElem?]
      have hlt : i % vs.size < vs.size := Nat.mod_lt _ (by rw [h.size]; exact hpos)
      simp [hi, getElem!_pos vs (i % vs.size) hlt]
      rw [h.size] at hlt
      simpa [h.size, hlt] using this
    · cases hx

/-- Cells in rows of one size. -/
theorem row_rel {l : List AV} {vs : Array Value} (h : CR P w c l vs) (es i j : Nat) (x : AV) (hx : ((l.drop (i * es)).take es)[j]? = some x) : VR P w c x (vs.getD (i * es + j) undef) := by
  have hj : j < es := by have := (List.getElem?_eq_some_iff.1 hx).1; simp at this; omega
  rw [List.getElem?_take, if_pos hj, List.getElem?_drop] at hx
  exact h.rel _ x hx

theorem row_len {l : List AV} {n es : Nat} (h : l.length = n * es) {i : Nat} (hi : i < n) : ((l.drop (i * es)).take es).length = es := by
  have : (i + 1) * es ≤ n * es := Nat.mul_le_mul_right _ hi
  rw [Nat.add_mul, Nat.one_mul] at this
  simp
  omega

theorem make_buildSlice (hT : TOK P T) (h : HR P base w c hp) (hbase : base ≤ w.heap.size) {t : TypeId} {n : Nat} {o : Oper} {ps : Array (Nat × Operand)} {ρ : Operand → AV} {r : Operand → Value} (hop : o.op = .buildSlice t n ps)
    (hx : ∀ p ∈ ps.toList, VR P w c (ρ p.2) (r p.2)) {v : AV} (hev : (opEv T o ρ hp).gives v hp') (hfree : c.O hp.blocks.length = none) :
    ∃ u w' c', (execOp r o).run P w = .ok (.value u) w' ∧ QOut P base w c hp w' c' hp' ∧ VR P w' c' v u := by
  unfold opEv at hev
  rw [hop] at hev
  simp only at hev
  split at hev
  · rename_i e _ _ _ _ ht
    have hd := (hT _ _ ht).1
    split at hev
    · rename_i ei he
      obtain ⟨_, _, _, inf, hinf, hsz, _, hz⟩ := hT _ _ he
      split at hev
      · rename_i l hl
        cases hb : (Nat.ble (n * ei.size) 100000 && Nat.blt 0 ei.size) with
        | false => rw [hb] at hev; exact hev.elim
        | true =>
          rw [hb] at hev
          obtain ⟨rfl, rfl⟩ := hev
          rw [Bool.and_eq_true] at hb
          have h1 := Nat.le_of_ble_eq_true hb.1
          have hpos : 0 < ei.size := Nat.le_of_ble_eq_true hb.2
          have hzl := zero_len hT he
          have hcr := rep_cr (zero_cr (P := P) (w := w) (c := c) hT he hzl) (by omega) n
          obtain ⟨vs, g1, g2, g3⟩ := fill_ok ps.toList _ _ _ hcr hx hl
          have hll : l.length = n * ei.size := by rw [g3, rep_length, hzl]
          refine ⟨_, _, _, ?_, new_block h hbase hfree vs e w (Below.refl _ _) rfl _ n (Nat.le_refl _) (by simp [g2.size, hll]) rfl g2.one (fun i hi => row_len hll hi) (fun i j x hi hx => row_rel g2 _ i j x hx) (fun hf i j x hi hx => ?_),
            .oslice _ _ _ _ _ _ _ (addO_self _ _ _) (Nat.le_refl _) rfl fun _ => ⟨by simp, some ⟨w.heap.size, 0, none⟩, n, rfl, Nat.le_refl _, by simp, fun _ => by simp, fun cp hcp => by simpa using hcp⟩⟩
          · have hpm : (ps.map fun (p : Nat × Operand) => (p.1, r p.2)).toList = ps.toList.map fun p => (p.1, r p.2) := by simp
            have hrange : (if n * inf.size = 0 then (#[] : Array Value) else ei.zero.cells) = ei.zero.cells ∨ n * inf.size = 0 := by
              by_cases h0 : n * inf.size = 0
              · exact .inr h0
              · exact .inl (if_neg h0)
            have hbig : ¬ (16777216 < n * inf.size) := by rw [hsz]; omega
            unfold execOp
            rw [hop]
            simp only [Sem.run_bind]
            rw [show (Array.map (fun x => match x with | (i, x) => (i, r x)) ps) = ps.map fun (p : Nat × Operand) => (p.1, r p.2) from rfl]
            rw [hsz] at hbig
            by_cases h0 : n * ei.size = 0
            · have hn : n = 0 := by rcases Nat.mul_eq_zero.1 h0 with h | h <;> omega
              subst hn
              have hr0 : ∀ f : Nat → Value, (Array.range 0).map f = #[] := fun f => by rw [Array.range_zero', Array.map_empty]
              have g1' : Instr.fill (fun i => some (i * ei.size, ei.size)) #[] (ps.toList.map fun p => (p.1, r p.2)) = some vs := by
                rw [Nat.zero_mul, hr0] at g1; exact g1
              simp [Instr.buildSlice, run_underlying hd, sizeOf, typeInfo, hinf, hsz, newRow]
              rw [hr0, g1']
              simp
            · rw [hzl] at g1
              simp [Instr.buildSlice, run_underlying hd, sizeOf, typeInfo, zeroValue, hinf, hsz, hz, newRow, hbig, h0]
              rw [g1]
              simp
          · have := List.mem_of_getElem? hx
            exact List.all_eq_true.1 hf x (List.mem_of_mem_drop (List.mem_of_mem_take this))
      · exact hev.elim
    · exact hev.elim
  · exact hev.elim

theorem mul_add_mod' {i n j : Nat} (h : j < n) : (i * n + j) % n = j := by
  rw [Nat.add_comm, Nat.add_mul_mod_self_right, Nat.mod_eq_of_lt h]

theorem make_makeSlice (hT : TOK P T) (h : HR P base w c hp) (hbase : base ≤ w.heap.size) {t : TypeId} {o : Oper} {l m : Operand} {ρ : Operand → AV} {r : Operand → Value} (hop : o.op = .makeSlice t l m)
    (hl : VR P w c (ρ l) (r l)) (hm : VR P w c (ρ m) (r m)) {v : AV} (hev : (opEv T o ρ hp).gives v hp') (hfree : c.O hp.blocks.length = none) :
    ∃ u w' c', (execOp r o).run P w = .ok (.value u) w' ∧ QOut P base w c hp w' c' hp' ∧ VR P w' c' v u := by
  unfold opEv at hev
  rw [hop] at hev
  simp only at hev
  split at hev
  · rename_i e _ _ _ _ n q ht hln hmn
    have hd := (hT _ _ ht).1
    rw [hln] at hl
    rw [hmn] at hm
    split at hev
    · rename_i ei he
      obtain ⟨_, _, _, inf, hinf, hsz, hby, hz⟩ := hT _ _ he
      cases hb : Nat.blt 0 ei.size with
      | false => rw [hb] at hev; exact hev.elim
      | true =>
        rw [hb] at hev
        obtain ⟨⟨h0, h1, h2, h3⟩, rfl, rfl⟩ := hev
        have hpos : 0 < ei.size := Nat.le_of_ble_eq_true hb
        have hzl := zero_len hT he
        have hz0 := zero_cr (P := P) (w := w) (c := c) hT he hzl
        have hcr := rep_cr hz0 (by omega) q.toNat
        have el := hl.val_inv
        have em := hm.val_inv
        have hr := run_make (P := P) w t e inf ei.zero hd hinf hz .i64 .i64 n q h0 h1 (by rw [hby, Int.mul_comm]; omega) (by omega)
        have hmade : madeCells ei.zero.cells (q.toNat * inf.size) = (Array.range (q.toNat * (zeroCells ei).length)).map (ei.zero.cells[· % ei.zero.cells.size]!) := by rw [hzl, hsz]; rfl
        rw [hmade] at hr
        refine ⟨_, _, _, ?_, new_block h hbase hfree _ e w (Below.refl _ _) rfl _ q.toNat (by simp; omega) (by rw [hcr.size, rep_length, hzl]; exact Nat.le_refl _) rfl hcr.one (fun i hi => hzl) (fun i j x hi hx => ?_) (fun _ i j x hi hx => ?_),
          .oslice _ _ _ _ _ _ _ (addO_self _ _ _) (Nat.le_refl _) rfl fun _ => ⟨by simp, some ⟨w.heap.size, 0, none⟩, q.toNat, rfl, by omega, by simp, fun _ => by simp, fun cp hcp => by simpa using hcp⟩⟩
        · simp [execOp, hop, el, em, hr]
        · have hi' : i < n.toNat := hi
          have hj0 : j < (zeroCells ei).length := (List.getElem?_eq_some_iff.1 hx).1
          have hj : j < ei.size := by omega
          refine hcr.rel (i * ei.size + j) x ?_
          have hij : i * ei.size + j < q.toNat * ei.size := by
            have : (i + 1) * ei.size ≤ q.toNat * ei.size := Nat.mul_le_mul_right _ (by omega)
            rw [Nat.add_mul, Nat.one_mul] at this
            omega
          rw [rep_get, hzl, if_pos hij, mul_add_mod' hj]
          exact hx
        · exact zero_tree ei x (List.mem_of_getElem? hx)
    · exact hev.elim
  · exact hev.elim
end
end Go.Tr

/- Values handed to a call as trees; what a call hands back. Conditions: none. -/
import Derived.Test.YtkomdfgffgkphaaTrN
namespace Go.Tr
open Go Go.RowKit

section
variable {P : Program} {T : Nat → Option TI} {w w' : World} {c c' : Cx} {base : Nat} {hp hp' : Hp}

/-- The memory behind numbers of blocks and maps, beside what is stable. -/
def qOf (c : Cx) (l : List Nat × List Nat) (b : Nat) : Prop :=
  c.p b ∨ (∃ i ∈ l.1, ∃ oi, c.O i = some oi ∧ oi.cap ≠ 0 ∧ oi.blk = b) ∨ (∃ i ∈ l.2, c.N i = some b)

theorem qOf_mono {l m : List Nat × List Nat} (h1 : ∀ i ∈ l.1, i ∈ m.1) (h2 : ∀ i ∈ l.2, i ∈ m.2) {b : Nat} (h : qOf c l b) : qOf c m b := by
  rcases h with h | ⟨i, hi, h⟩ | ⟨i, hi, h⟩
  · exact .inl h
  · exact .inr (.inl ⟨i, h1 i hi, h⟩)
  · exact .inr (.inr ⟨i, h2 i hi, h⟩)

theorem VT.weaken {p p' : Nat → Prop} (hp : ∀ b, p b → p' b) {x : AV} {v : Value} (h : VT P w p x v) : VT P w p' x v := h.mono hp fun _ _ => rfl

theorem refs_lt : ∀ (n : Nat) (x : AV), (∀ i ∈ (refs hp n x).1, i < hp.blocks.length) ∧ (∀ i ∈ (refs hp n x).2, i < hp.maps.length)
  | 0, x => by simp [refs]
  | n + 1, x => by
    have list : ∀ l : List AV, (∀ i ∈ (l.map (refs hp n)).flatMap (·.1), i < hp.blocks.length) ∧ (∀ i ∈ (l.map (refs hp n)).flatMap (·.2), i < hp.maps.length) := fun l => by
      refine ⟨fun i hi => ?_, fun i hi => ?_⟩
      · obtain ⟨q, hq, hi⟩ := List.mem_flatMap.1 hi
        obtain ⟨y, _, rfl⟩ := List.mem_map.1 hq
        exact (refs_lt n y).1 i hi
      · obtain ⟨q, hq, hi⟩ := List.mem_flatMap.1 hi
        obtain ⟨y, _, rfl⟩ := List.mem_map.1 hq
        exact (refs_lt n y).2 i hi
    cases x with
    | agg l => exact list l
    | tuple l => exact list l
    | func fn nf l => exact list l
    | optr b ver idx sub =>
      simp only [refs]
      split
      · rename_i k hk
        have hlt := (List.getElem?_eq_some_iff.1 (block_some hk).1).1
        cases k.flat with
        | true => simpa using hlt
        | false =>
          simp only [cond_false]
          refine ⟨fun i hi => ?_, (list _).2⟩
          rcases List.mem_cons.1 hi with rfl | hi
          · exact hlt
          · exact (list _).1 i hi
      · simp
    | oslice b ver off len cap =>
      simp only [refs]
      split
      · rename_i k hk
        have hlt := (List.getElem?_eq_some_iff.1 (block_some hk).1).1
        cases k.flat with
        | true => simpa using hlt
        | false => simp
      · simp
    | omap b =>
      simp only [refs]
      split
      · rename_i m hm
        rw [nth?_eq] at hm
        simpa using (List.getElem?_eq_some_iff.1 hm).1
      · simp
    | top => simp [refs]
    | val => simp [refs]
    | eslice => simp [refs]
    | rslice => simp [refs]
    | rptr => simp [refs]
    | rmap => simp [refs]
    | cslice => simp [refs]
    | yld => simp [refs]

theorem freeze_ok (h : HR P base w c hp) : ∀ (n : Nat) {x : AV} {u : Value}, VR P w c x u → VT P w (qOf c (refs hp n x)) (freeze hp n x) u
  | 0, x, u, _ => by simp only [freeze]; exact .top u
  | n + 1, x, u, hx => by
    have tree : ∀ {y : AV} {v : Value}, VT P w c.p y v → ∀ l, VT P w (qOf c l) y v := fun hy l => hy.weaken fun b hb => .inl hb
    have list : ∀ (l : List AV) (vs : Array Value), (∀ i x, l[i]? = some x → VR P w c x (vs.getD i undef)) → ∀ i x, (l.map (freeze hp n))[i]? = some x →
        VT P w (qOf c ((l.map (refs hp n)).flatMap (·.1), (l.map (refs hp n)).flatMap (·.2))) x (vs.getD i undef) := by
      intro l vs hr i x hi
      rw [List.getElem?_map] at hi
      cases hl : l[i]? with
      | none => rw [hl] at hi; cases hi
      | some y =>
        rw [hl] at hi
        simp only [Option.map_some, Option.some.injEq] at hi
        subst hi
        have hm := List.mem_of_getElem? hl
        exact (freeze_ok h n (hr i y hl)).weaken fun b hb => qOf_mono (m := ((l.map (refs hp n)).flatMap (·.1), (l.map (refs hp n)).flatMap (·.2)))
          (fun q hq => List.mem_flatMap.2 ⟨_, List.mem_map.2 ⟨y, hm, rfl⟩, hq⟩) (fun q hq => List.mem_flatMap.2 ⟨_, List.mem_map.2 ⟨y, hm, rfl⟩, hq⟩) hb
    cases x with
    | top => simp only [freeze]; exact .top u
    | yld => simp only [freeze]; exact .top u
    | val v => simp only [freeze]; rw [hx.val_inv]; exact .val v
    | eslice => simp only [freeze]; cases hx with | tree hx => exact tree hx _
    | rslice es len f => simp only [freeze]; cases hx with | tree hx => exact tree hx _
    | cslice es len cc f => simp only [freeze]; cases hx with | tree hx => exact tree hx _
    | rptr l => simp only [freeze]; cases hx with | tree hx => exact tree hx _
    | rmap ki et has get => simp only [freeze]; cases hx with | tree hx => exact tree hx _
    | agg l =>
      obtain ⟨vs, rfl, hs, ho, hr⟩ := hx.agg_inv
      simp only [freeze, refs]
      exact .agg _ vs (by simp [hs]) ho (list l vs hr)
    | tuple l =>
      obtain ⟨vs, rfl, hs, hr⟩ := hx.tuple_inv
      simp only [freeze, refs]
      exact .tuple _ vs (by simp [hs]) (list l vs hr)
    | func fn nf l =>
      obtain ⟨f0, vs, rfl, h0, hs, hr⟩ := hx.func_inv
      simp only [freeze, refs]
      exact .func fn nf _ f0 vs h0 (by rw [hs]; simp) (list l (f0 ++ vs) hr)
    | omap b =>
      obtain ⟨r, rfl, hN⟩ := hx.omap_inv
      simp only [freeze, refs]
      split
      · rename_i m hm
        rw [nth?_eq] at hm
        obtain ⟨es, clock, h1, h2, h3, _, h4⟩ := (h.maps b m r hm hN).ex
        exact .rmap m.ki m.et m.has m.get r es clock (.inr (.inr ⟨b, by simp, hN⟩)) h1 h2 (fun key zv a d g => tree (h3 key zv a d g) _) (fun key i v a d => tree (h4 key i v a d) _)
      · exact .top _
    | optr b ver idx sub =>
      simp only [freeze, refs]
      split
      · rename_i k hk
        obtain ⟨hkb, hkv⟩ := block_some hk
        obtain ⟨oi, hO, hle, _, hv'⟩ := hx.optr_inv
        have hB := h.blk b k oi hkb hO
        obtain ⟨hidx, hu⟩ := hv' (by rw [hB.ver, hkv])
        have hidx' : idx < k.len := by rw [← hB.n]; exact hidx
        have hcap : oi.cap ≠ 0 := by have := hB.le; omega
        have hcell : ∀ (j : Nat) (y : AV), ((k.f idx).drop sub)[j]? = some y → ∃ v, w.cell? ⟨oi.blk, oi.lo + (idx * oi.es + sub) + j, none⟩ = some v ∧ v.oneCell' = true ∧ VR P w c y v ∧ (k.flat = true → VT P w c.p y v) := fun j y hy => by
          rw [getElem?_drop'] at hy
          obtain ⟨v, g1, g2, g3, g4⟩ := hB.cell hidx' hy
          exact ⟨v, by rw [← g1]; congr 2; omega, g2, g3, g4⟩
        have hall : ∀ (j : Nat), j < ((k.f idx).drop sub).length → ∃ v, w.cell? ⟨oi.blk, oi.lo + (idx * oi.es + sub) + j, none⟩ = some v ∧ v.oneCell' = true := fun j hj => by
          obtain ⟨v, g1, g2, _⟩ := hcell j _ (List.getElem?_eq_getElem hj)
          exact ⟨v, g1, g2⟩
        let g : Nat → Value := fun j => (w.cell? ⟨oi.blk, oi.lo + (idx * oi.es + sub) + j, none⟩).getD undef
        have hg : ∀ (j : Nat) (v : Value), w.cell? ⟨oi.blk, oi.lo + (idx * oi.es + sub) + j, none⟩ = some v → g j = v := fun j v hv => by simp only [g, hv, Option.getD_some]
        rw [hu]
        cases hf : k.flat with
        | true =>
          simp only [cond_true]
          refine .rptr _ oi.blk _ g (.inr (.inl ⟨b, by simp, oi, hO, hcap, rfl⟩)) (fun j hj => ?_) (fun j y hy => ?_)
          · obtain ⟨v, g1, g2⟩ := hall j hj
            rw [hg j v g1]; exact ⟨g1, g2⟩
          · obtain ⟨v, g1, _, _, g4⟩ := hcell j y hy
            rw [hg j v g1]; exact tree (g4 hf) _
        | false =>
          simp only [cond_false]
          refine .rptr _ oi.blk _ g (.inr (.inl ⟨b, by simp, oi, hO, hcap, rfl⟩)) (fun j hj => ?_) (fun j y hy => ?_)
          · obtain ⟨v, g1, g2⟩ := hall j (by simpa using hj)
            rw [hg j v g1]; exact ⟨g1, g2⟩
          · rw [List.getElem?_map] at hy
            cases hz : ((k.f idx).drop sub)[j]? with
            | none => rw [hz] at hy; cases hy
            | some z =>
              rw [hz] at hy
              simp only [Option.map_some, Option.some.injEq] at hy
              subst hy
              obtain ⟨v, g1, _, g3, _⟩ := hcell j z hz
              rw [hg j v g1]
              have hm : z ∈ k.f idx := List.mem_of_mem_drop (List.mem_of_getElem? hz)
              exact (freeze_ok h n g3).weaken fun b' hb => qOf_mono (m := (b :: ((k.f idx).map (refs hp n)).flatMap (·.1), ((k.f idx).map (refs hp n)).flatMap (·.2)))
                (fun q hq => List.mem_cons_of_mem _ (List.mem_flatMap.2 ⟨_, List.mem_map.2 ⟨z, hm, rfl⟩, hq⟩)) (fun q hq => List.mem_flatMap.2 ⟨_, List.mem_map.2 ⟨z, hm, rfl⟩, hq⟩) hb
      · exact .top _
    | oslice b ver off len cap =>
      simp only [freeze, refs]
      split
      · rename_i k hk
        obtain ⟨hkb, hkv⟩ := block_some hk
        obtain ⟨oi, hO, hle, _, hv'⟩ := hx.oslice_inv
        have hB := h.blk b k oi hkb hO
        obtain ⟨hn1, a, k1, hu, hk1, hk2, hk3, _⟩ := hv' (by rw [hB.ver, hkv])
        rw [hu]
        have hn := hB.n
        have hcell : ∀ (i j : Nat) (y : AV), i < len → (k.f (off + i))[j]? = some y → ∃ v, w.cell? ⟨oi.blk, oi.lo + off * oi.es + (i * k.es + j), none⟩ = some v ∧ v.oneCell' = true ∧ VR P w c y v ∧ (k.flat = true → VT P w c.p y v) := fun i j y hi hy => by
          obtain ⟨v, g1, g2, g3, g4⟩ := hB.cell (by omega : off + i < k.len) hy
          exact ⟨v, by rw [← g1, Nat.add_mul, hB.es]; congr 2; omega, g2, g3, g4⟩
        let g : Nat → Nat → Value := fun i j => (w.cell? ⟨oi.blk, oi.lo + off * oi.es + (i * k.es + j), none⟩).getD undef
        have hg : ∀ (i j : Nat) (v : Value), w.cell? ⟨oi.blk, oi.lo + off * oi.es + (i * k.es + j), none⟩ = some v → g i j = v := fun i j v hv => by simp only [g, hv, Option.getD_some]
        by_cases h0 : len = 0
        · subst h0
          cases k.flat <;> exact .rslice0 _ _ _ _
        · have hk0 : k1 ≠ 0 := by omega
          have hcap : oi.cap ≠ 0 := by omega
          rw [hk3 hk0]
          have hel : ∀ i, i < len → (k.f (off + i)).length = k.es := fun i hi => hB.el _ (by omega)
          have hall : ∀ i j, i < len → j < k.es → ∃ v, w.cell? ⟨oi.blk, oi.lo + off * oi.es + (i * k.es + j), none⟩ = some v ∧ v.oneCell' = true := fun i j hi hj => by
            obtain ⟨v, g1, g2, _⟩ := hcell i j _ hi (List.getElem?_eq_getElem (by rw [hel i hi]; exact hj))
            exact ⟨v, g1, g2⟩
          cases hf : k.flat with
          | true =>
            simp only [cond_true]
            refine .rslice _ _ _ oi.blk _ k1 g hk1 (.inr (.inl ⟨b, by simp, oi, hO, hcap, rfl⟩)) hel (fun i j hi hj => ?_) (fun i j y hi hy => ?_)
            · obtain ⟨v, g1, g2⟩ := hall i j hi hj
              rw [hg i j v g1]; exact ⟨g1, g2⟩
            · obtain ⟨v, g1, _, _, g4⟩ := hcell i j y hi hy
              rw [hg i j v g1]; exact tree (g4 hf) _
          | false =>
            simp only [cond_false]
            refine .rslice _ _ _ oi.blk _ k1 g hk1 (.inr (.inl ⟨b, by simp; exact (List.getElem?_eq_some_iff.1 hkb).1, oi, hO, hcap, rfl⟩)) (fun i hi => by simpa using hel i hi) (fun i j hi hj => ?_) (fun i j y hi hy => ?_)
            · obtain ⟨v, g1, g2⟩ := hall i j hi hj
              rw [hg i j v g1]; exact ⟨g1, g2⟩
            · rw [List.getElem?_map] at hy
              cases hz : (k.f (off + i))[j]? with
              | none => rw [hz] at hy; cases hy
              | some z =>
                rw [hz] at hy
                simp only [Option.map_some, Option.some.injEq] at hy
                subst hy
                obtain ⟨v, g1, _, g3, _⟩ := hcell i j z hi hz
                rw [hg i j v g1]
                exact (freeze_ok h n g3).weaken fun b' hb => qOf_mono (m := (List.range hp.blocks.length, List.range hp.maps.length))
                  (fun q hq => List.mem_range.2 ((refs_lt n z).1 q hq)) (fun q hq => List.mem_range.2 ((refs_lt n z).2 q hq)) hb
      · exact .top _
end
end Go.Tr

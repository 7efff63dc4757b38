/- Operations that turn nothing, one by one: what they come to is what opEv says. Conditions: none. -/
import Derived.Test.YtkomdfgffgkphaaTrBE
namespace Go.Tr
open Go Go.RowKit

/-- The types that the walk knows are the program's. -/
structure TOK (P : Program) (T : Nat → Option TI) : Prop where
  base : ∀ t ti, T t = some ti → P.underlying t = some ti.desc ∧ ti.zero.cells.size = ti.size ∧ (∀ v ∈ ti.zero.cells.toList, v.oneCell' = true) ∧
    ∃ i, P.info? t = some i ∧ i.size = ti.size ∧ i.bytes = ti.bytes ∧ i.zero = some ti.zero
  kinds : ∀ t ti ks, T t = some ti → ti.kinds = some ks → KOK P t ks

instance {P : Program} {T : Nat → Option TI} : CoeFun (TOK P T) (fun _ => ∀ t ti, T t = some ti → P.underlying t = some ti.desc ∧ ti.zero.cells.size = ti.size ∧ (∀ v ∈ ti.zero.cells.toList, v.oneCell' = true) ∧
    ∃ i, P.info? t = some i ∧ i.size = ti.size ∧ i.bytes = ti.bytes ∧ i.zero = some ti.zero) := ⟨TOK.base⟩

theorem TOK_TP (P : Program) : TOK P (TP P) := by
  have parts : ∀ t ti, TP P t = some ti → (P.underlying t = some ti.desc ∧ ti.zero.cells.size = ti.size ∧ (∀ v ∈ ti.zero.cells.toList, v.oneCell' = true) ∧
    ∃ i, P.info? t = some i ∧ i.size = ti.size ∧ i.bytes = ti.bytes ∧ i.zero = some ti.zero) ∧ ti.kinds = Tr.kindsOf P t ti.desc := by
    intro t ti h
    unfold TP at h
    split at h
    · rename_i d i hd hi
      split at h
      · rename_i z hz
        cases hb : (Nat.beq z.cells.size i.size && z.cells.toList.all Value.oneCell') with
        | false => rw [hb] at h; simp at h
        | true =>
          rw [hb] at h
          simp only [cond_true, Option.some.injEq] at h
          rw [Bool.and_eq_true] at hb
          subst h
          exact ⟨⟨hd, Nat.eq_of_beq_eq_true hb.1, fun v hv => List.all_eq_true.1 hb.2 v hv, i, hi, rfl, rfl, hz⟩, rfl⟩
      · cases h
    · cases h
  exact ⟨fun t ti h => (parts t ti h).1, fun t ti ks h hk => kinds_ok (parts t ti h).1.1 (by rw [← (parts t ti h).2]; exact hk)⟩

section
variable {P : Program} {T : Nat → Option TI} {w : World} {c : Cx}

theorem VR.val_inv {v u : Value} (h : VR P w c (.val v) u) : u = v := by
  cases h with
  | tree h => cases h; rfl

theorem VT.toVR {x : AV} {v : Value} (h : VT P w c.p x v) : VR P w c x v := .tree h

theorem VR.agg_inv {l : List AV} {u : Value} (h : VR P w c (.agg l) u) : ∃ vs, u = .agg vs ∧ vs.size = l.length ∧ (∀ v ∈ vs.toList, v.oneCell' = true) ∧ ∀ i x, l[i]? = some x → VR P w c x (vs.getD i undef) := by
  cases h with
  | tree h => cases h with
    | agg _ vs hs ho h => exact ⟨vs, rfl, hs, ho, fun i x hx => .tree (h i x hx)⟩
  | agg _ vs hs ho h => exact ⟨vs, rfl, hs, ho, h⟩

theorem VR.tuple_inv {l : List AV} {u : Value} (h : VR P w c (.tuple l) u) : ∃ vs, u = .tuple vs ∧ vs.size = l.length ∧ ∀ i x, l[i]? = some x → VR P w c x (vs.getD i undef) := by
  cases h with
  | tree h => cases h with
    | tuple _ vs hs h => exact ⟨vs, rfl, hs, fun i x hx => .tree (h i x hx)⟩
  | tuple _ vs hs h => exact ⟨vs, rfl, hs, h⟩

theorem VR.func_inv {fn : Fn} {nf : Nat} {l : List AV} {u : Value} (h : VR P w c (.func fn nf l) u) : ∃ f0 vs, u = .func fn f0 vs ∧ f0.size = nf ∧ (f0 ++ vs).size = l.length ∧ ∀ i x, l[i]? = some x → VR P w c x ((f0 ++ vs).getD i undef) := by
  cases h with
  | tree h =>
    cases h with
    | func _ _ _ f0 vs h0 hs h => exact ⟨f0, vs, rfl, h0, hs, fun i x hx => .tree (h i x hx)⟩
  | func _ _ _ f0 vs h0 hs h => exact ⟨f0, vs, rfl, h0, hs, h⟩

theorem VR.optr_inv {b ver idx sub : Nat} {u : Value} (h : VR P w c (.optr b ver idx sub) u) : ∃ oi, c.O b = some oi ∧ ver ≤ oi.ver ∧ u.oneCell' = true ∧
    (oi.ver = ver → idx < oi.n ∧ u = .pointer (some ⟨oi.blk, oi.lo + (idx * oi.es + sub), none⟩)) := by
  cases h with
  | tree h => cases h
  | optr _ _ _ _ _ oi h1 h2 h3 h4 => exact ⟨oi, h1, h2, h3, h4⟩

theorem VR.oslice_inv {b ver off len : Nat} {cap : Option Nat} {u : Value} (h : VR P w c (.oslice b ver off len cap) u) : ∃ oi, c.O b = some oi ∧ ver ≤ oi.ver ∧ u.oneCell' = true ∧
    (oi.ver = ver → off + len ≤ oi.n ∧ ∃ a k, u = .slice a len k ∧ len ≤ k ∧ off + k ≤ oi.cap ∧ (k ≠ 0 → a = some ⟨oi.blk, oi.lo + off * oi.es, none⟩) ∧ (∀ cp, cap = some cp → k = cp)) := by
  cases h with
  | tree h => cases h
  | oslice _ _ _ _ _ _ oi h1 h2 h3 h4 => exact ⟨oi, h1, h2, h3, h4⟩

theorem VR.omap_inv {b : Nat} {u : Value} (h : VR P w c (.omap b) u) : ∃ r, u = .map (some r) ∧ c.N b = some r := by
  cases h with
  | tree h => cases h
  | omap _ r h => exact ⟨r, rfl, h⟩

theorem block_some {h : Hp} {b ver : Nat} {k : AB} (hb : h.block b ver = some k) : h.blocks[b]? = some k ∧ k.ver = ver := by
  unfold Hp.block at hb
  rw [nth?_eq] at hb
  split at hb
  · rename_i k' hk
    cases hv : Nat.beq k'.ver ver with
    | false => rw [hv] at hb; simp at hb
    | true => rw [hv] at hb; simp at hb; subst hb; exact ⟨hk, Nat.eq_of_beq_eq_true hv⟩
  · cases hb

/-- The cells of a block that is known, from a place on. -/
theorem BR.cell {k : AB} {oi : OI} (h : BR P w c k oi) {i j : Nat} {x : AV} (hi : i < k.len) (hx : (k.f i)[j]? = some x) :
    ∃ v, w.cell? ⟨oi.blk, oi.lo + (i * oi.es + j), none⟩ = some v ∧ v.oneCell' = true ∧ VR P w c x v ∧ (k.flat = true → VT P w c.p x v) := by
  have hj : j < k.es := by
    rw [← h.el i hi]; exact (List.getElem?_eq_some_iff.1 hx).1
  have hcap : oi.cap ≠ 0 := by have := h.n; have := h.le; omega
  obtain ⟨cs, t, hrow, hsz, hone⟩ := h.row hcap
  have hi' : i < oi.cap := by have := h.n; have := h.le; omega
  have hlt : oi.lo + (i * oi.es + j) < cs.size := by
    have : (i + 1) * oi.es ≤ oi.cap * oi.es := Nat.mul_le_mul_right _ hi'
    rw [Nat.add_mul] at this
    have := h.es
    omega
  have hc : w.cell? ⟨oi.blk, oi.lo + (i * oi.es + j), none⟩ = some cs[oi.lo + (i * oi.es + j)] := by
    simp [World.cell?, hrow, hlt]
  exact ⟨_, hc, hone _ (by simp), h.rel i j x _ hi hx hc⟩

theorem getElem?_drop' {α : Type} (l : List α) (n j : Nat) : (l.drop n)[j]? = l[n + j]? := by simp

/-- A value out of cells that lie in memory. -/
theorem load_ofCells (hT : TOK P T) {t : TypeId} {ti : TI} (ht : T t = some ti) {l : List AV} {v : AV} (hv : ofCells ti.desc ti.size l = some v)
    {b off : Nat} (hl : ∀ j x, l[j]? = some x → ∃ u, w.cell? ⟨b, off + j, none⟩ = some u ∧ u.oneCell' = true ∧ VR P w c x u) :
    ∃ u, (Instr.loadAt t (.pointer (some ⟨b, off, none⟩))).run P w = .ok u w ∧ VR P w c v u := by
  obtain ⟨hd, _, _, i, hi, hs, _⟩ := hT t ti ht
  unfold ofCells at hv
  cases ha : isAggT ti.desc with
  | true =>
    rw [ha] at hv
    cases hn : Nat.ble ti.size l.length with
    | false => rw [hn] at hv; simp at hv
    | true =>
      rw [hn] at hv
      simp at hv
      subst hv
      have hle : ti.size ≤ l.length := Nat.le_of_ble_eq_true hn
      have hex : ∀ j, j < ti.size → ∃ u, w.cell? ⟨b, off + j, none⟩ = some u ∧ u.oneCell' = true ∧ VR P w c (l.getD j .top) u := fun j hj => by
        obtain ⟨u, h1, h1', h2⟩ := hl j _ (List.getElem?_eq_getElem (by omega : j < l.length))
        exact ⟨u, h1, h1', by simpa [List.getD, List.getElem?_eq_getElem (by omega : j < l.length)] using h2⟩
      let g : Nat → Value := fun j => if h : j < ti.size then (hex j h).choose else undef
      have hg : ∀ j, j < ti.size → w.cell? ⟨b, off + j, none⟩ = some (g j) ∧ (g j).oneCell' = true ∧ VR P w c (l.getD j .top) (g j) := fun j hj => by
        simp only [g, hj, dite_true]; exact (hex j hj).choose_spec
      refine ⟨.agg ((List.range ti.size).map g).toArray, ?_, .agg _ _ (by simp [Nat.min_eq_left hle]) (by simp; intro j hj; exact (hg j hj).2.1) ?_⟩
      · have hisagg : (isAgg t).run P w = .ok true w := by
          unfold isAgg
          simp only [Sem.run_bind, run_underlying hd, Result.andThen_ok]
          revert ha; cases ti.desc <;> simp [isAggT]
        have hld := run_loadCells (P := P) w ⟨b, off, none⟩ ti.size g (fun j hj => by rw [Addr.add_lit]; exact (hg j hj).1)
        simp [Instr.loadAt, Instr.sureAddr, loadVar, hisagg, sizeOf, typeInfo, hi, hs, hld]
      · intro j x hx
        have hj : j < ti.size := by have := (List.getElem?_eq_some_iff.1 hx).1; simp at this; omega
        have hx' : l.getD j .top = x := by
          rw [List.getElem?_take] at hx; simp [hj] at hx; simp [List.getD, hx]
        have := (hg j hj).2.2
        rw [hx'] at this
        simpa [hj] using this
  | false =>
    rw [ha] at hv
    cases l with
    | nil => simp at hv
    | cons x r =>
      simp at hv
      subst hv
      obtain ⟨u, h1, _, h2⟩ := hl 0 x rfl
      refine ⟨u, ?_, h2⟩
      have hisagg : (isAgg t).run P w = .ok false w := by
        unfold isAgg
        simp only [Sem.run_bind, run_underlying hd, Result.andThen_ok]
        revert ha; cases ti.desc <;> simp [isAggT]
      have h1' : w.cell? ⟨b, off, none⟩ = some u := by simpa using h1
      simp [Instr.loadAt, Instr.sureAddr, loadVar, hisagg, h1']

/-- What a slot, a constant, a function's name hold. -/
theorem constAV_ok (v : Value) : VT P w c.p (constAV v) v := by
  unfold constAV
  split
  · exact .eslice none
  · rename_i cs
    cases hall : cs.toList.all Value.oneCell' with
    | false => exact .top _
    | true =>
      refine .agg _ _ (by simp) (fun v hv => List.all_eq_true.1 hall v hv) fun i x hx => ?_
      rw [List.getElem?_map] at hx
      simp only [Array.getElem?_toList] at hx
      cases hc : cs[i]? with
      | none => rw [hc] at hx; simp at hx
      | some u =>
        rw [hc] at hx
        simp only [Option.map_some, Option.some.injEq] at hx
        have hu : cs.getD i undef = u := by simp [hc]
        rw [hu]
        subst hx
        split
        · exact .eslice none
        · exact .val _
  · exact .top _
  · exact .val _

/-- The cells of a value. -/
theorem VR.cells {x : AV} {u : Value} (h : VR P w c x u) (hs : x.storable = true) :
    u.cells.size = x.cells.length ∧ (∀ v ∈ u.cells.toList, v.oneCell' = true) ∧ ∀ i y, x.cells[i]? = some y → VR P w c y (u.cells.getD i undef) := by
  have one : ∀ (y : AV) (v : Value), VR P w c y v → v.oneCell' = true → y.cells = [y] → v.cells.size = y.cells.length ∧ (∀ u ∈ v.cells.toList, u.oneCell' = true) ∧ ∀ i z, y.cells[i]? = some z → VR P w c z (v.cells.getD i undef) := by
    intro y v hy hv hc
    have hvc : v.cells = #[v] := by cases v <;> simp_all [Value.cells, Value.oneCell']
    rw [hvc, hc]
    refine ⟨rfl, by simpa using hv, fun i z hz => ?_⟩
    cases i with
    | zero => simp at hz; subst hz; simpa using hy
    | succ i => simp at hz
  cases x with
  | top => cases hs
  | val v => have := h.val_inv; subst this; exact one _ _ h hs rfl
  | agg l => obtain ⟨vs, rfl, hsz, ho, hr⟩ := h.agg_inv; exact ⟨hsz, ho, hr⟩
  | tuple l => cases hs
  | func fn nf l => obtain ⟨f0, vs, rfl, _⟩ := h.func_inv; exact one _ _ h rfl rfl
  | eslice => refine one _ _ h ?_ rfl; cases h with | tree h => cases h; rfl
  | rslice es len f => refine one _ _ h ?_ rfl; cases h with | tree h => cases h <;> rfl
  | rptr l => refine one _ _ h ?_ rfl; cases h with | tree h => cases h; rfl
  | rmap ki et has get => refine one _ _ h ?_ rfl; cases h with | tree h => cases h; rfl
  | omap b => obtain ⟨r, rfl, _⟩ := h.omap_inv; exact one _ _ h rfl rfl
  | yld => cases hs
  | cslice es len cc f => refine one _ _ h ?_ rfl; cases h with | tree h => cases h <;> rfl
  | optr b ver idx sub => obtain ⟨_, _, _, ho, _⟩ := h.optr_inv; exact one _ _ h ho rfl
  | oslice b ver off len cap => obtain ⟨_, _, _, ho, _⟩ := h.oslice_inv; exact one _ _ h ho rfl
end
end Go.Tr

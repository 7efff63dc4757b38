/- Operations that make memory of the call's own. Conditions: none. -/
import Derived.Test.YtkomdfgffgkphaaTrG
namespace Go.Tr
open Go Go.RowKit

section
variable {P : Program} {T : Nat → Option TI} {w w' : World} {c c' : Cx} {base : Nat} {hp hp' : Hp}

theorem zero_len (hT : TOK P T) {t : TypeId} {ti : TI} (ht : T t = some ti) : (zeroCells ti).length = ti.size := by
  obtain ⟨_, h2, h3, _⟩ := hT t ti ht
  rw [← h2]
  unfold zeroCells constAV
  split
  · rename_i h; rw [h]; rfl
  · rename_i cs heq
    rw [heq] at h3 ⊢
    have : cs.toList.all Value.oneCell' = true := List.all_eq_true.2 h3
    rw [this]
    simp [AV.cells, Value.cells]
  · rename_i vs heq
    rw [heq] at h3
    have := h3 (.tuple vs) (by simp [Value.cells])
    simp [Value.oneCell'] at this
  · rename_i v h5 h6 h7
    have hvc : ti.zero.cells = #[ti.zero] := by cases hzz : ti.zero <;> simp_all [Value.cells]
    rw [hvc]; rfl

theorem VR.toVT : ∀ (n : Nat) {x : AV} {v : Value}, AV.tree n x = true → VR P w c x v → VT P w c.p x v
  | 0, x, v, h, _ => by simp [AV.tree] at h
  | n + 1, x, v, h, hv => by
    cases hv with
    | tree h => exact h
    | agg l vs hs ho hr =>
      simp only [AV.tree] at h
      exact .agg l vs hs ho fun i y hy => VR.toVT n (List.all_eq_true.1 h y (List.mem_of_getElem? hy)) (hr i y hy)
    | tuple l vs hs hr =>
      simp only [AV.tree] at h
      exact .tuple l vs hs fun i y hy => VR.toVT n (List.all_eq_true.1 h y (List.mem_of_getElem? hy)) (hr i y hy)
    | func fn nf l f0 vs h0 hs hr =>
      simp only [AV.tree] at h
      exact .func fn nf l f0 vs h0 hs fun i y hy => VR.toVT n (List.all_eq_true.1 h y (List.mem_of_getElem? hy)) (hr i y hy)
    | optr => simp [AV.tree] at h
    | oslice => simp [AV.tree] at h
    | omap => simp [AV.tree] at h
    | yld => simp [AV.tree] at h

/-- A block that an operation makes: its cells are known. -/
theorem new_block (h : HR P base w c hp) (hbase : base ≤ w.heap.size) (hfree : c.O hp.blocks.length = none) (cs : Array Value) (t : TypeId) (w0 : World) (hw0 : Below w.heap.size w w0) (hsz0 : w0.heap.size = w.heap.size)
    (k : AB) (cap : Nat) (hlen : k.len ≤ cap) (hcs : cap * k.es ≤ cs.size) (hver : k.ver = 0) (hone : ∀ v ∈ cs.toList, v.oneCell' = true) (hel : ∀ i, i < k.len → (k.f i).length = k.es)
    (hrel : ∀ (i j : Nat) (x : AV), i < k.len → (k.f i)[j]? = some x → VR P w c x (cs.getD (i * k.es + j) undef)) (hflat : k.flat = true → ∀ (i j : Nat) (x : AV), i < k.len → (k.f i)[j]? = some x → AV.tree 4 x = true) :
    QOut P base w c hp (w0.alloc (.cells cs t)) (c.addO hp.blocks.length ⟨w.heap.size, 0, cap, k.es, k.len, 0⟩) (hp.addB k) := by
  have hb : Below w.heap.size w (w0.alloc (.cells cs t)) := hw0.alloc (by omega) _
  refine qout_block h hbase hb hfree (fun _ => ⟨Nat.le_refl _, by simp; omega⟩) fun e => ?_
  have hnew : (w0.alloc (.cells cs t)).heap[w.heap.size]? = some (.cells cs t (0, 0)) := by rw [← hsz0]; exact heap_alloc_new w0 _
  refine ⟨rfl, rfl, hver.symm, hlen, fun _ => ⟨cs, t, hnew, by simpa using hcs, hone⟩, hel, fun i j x v hi hx hv => ?_⟩
  have hv' : v = cs.getD (i * k.es + j) undef := by
    simp only [World.cell?, hnew, Nat.zero_add] at hv
    simp at hv
    simp [hv]
  rw [hv']
  have hr := (hrel i j x hi hx).mono e
  refine ⟨hr, fun hf => VR.toVT 4 (hflat hf i j x hi hx) hr⟩

theorem addO_self (c : Cx) (n : Nat) (oi : OI) : (c.addO n oi).O n = some oi := by simp [Cx.addO]

theorem zero_tree (ti : TI) (x : AV) (hx : x ∈ zeroCells ti) : AV.tree 4 x = true := by
  simp only [zeroCells] at hx
  unfold constAV at hx
  split at hx
  · simp [AV.cells] at hx; subst hx; rfl
  · cases hall : (_ : Array Value).toList.all Value.oneCell' with
    | false => rw [hall] at hx; simp [AV.cells] at hx; subst hx; rfl
    | true =>
      rw [hall] at hx
      simp only [cond_true, AV.cells, List.mem_map] at hx
      obtain ⟨u, _, rfl⟩ := hx
      split <;> rfl
  · simp [AV.cells] at hx; subst hx; rfl
  · simp [AV.cells] at hx; subst hx; rfl

theorem make_alloc (hT : TOK P T) (h : HR P base w c hp) (hbase : base ≤ w.heap.size) {t : TypeId} {o : Oper} {ρ : Operand → AV} {r : Operand → Value} (hop : o.op = .alloc t)
    {v : AV} (hev : (opEv T o ρ hp).gives v hp') (hfree : c.O hp.blocks.length = none) :
    ∃ u w' c', (execOp r o).run P w = .ok (.value u) w' ∧ QOut P base w c hp w' c' hp' ∧ VR P w' c' v u := by
  unfold opEv at hev
  rw [hop] at hev
  simp only at hev
  split at hev
  · rename_i ti ht
    obtain ⟨rfl, rfl⟩ := hev
    obtain ⟨_, _, _, inf, hinf, _, _, hz⟩ := hT _ _ ht
    have hcr := zero_cr (P := P) (w := w) (c := c) hT ht (zero_len hT ht)
    refine ⟨_, _, _, ?_, new_block h hbase hfree ti.zero.cells t w (Below.refl _ _) rfl _ 1 (Nat.le_refl _) (by simp [hcr.size, zero_len hT ht]) rfl hcr.one (fun _ _ => zero_len hT ht) (fun i j x hi hx => ?_) (fun _ i j x hi hx => ?_),
      .optr _ _ _ _ _ _ (addO_self _ _ _) (Nat.le_refl _) rfl fun _ => ⟨Nat.zero_lt_one, rfl⟩⟩
    · simp [execOp, hop, Instr.alloc, zeroValue, typeInfo, hinf, hz, newVar, newRow]
    · have : i = 0 := by simp at hi; exact hi
      subst this
      simpa using hcr.rel j x hx
    · exact zero_tree ti x (List.mem_of_getElem? hx)
  · exact hev.elim

theorem make_box (h : HR P base w c hp) (hbase : base ≤ w.heap.size) {t : TypeId} {o : Oper} {x : Operand} {ρ : Operand → AV} {r : Operand → Value} (hop : o.op = .box t x) (hx : VR P w c (ρ x) (r x))
    {v : AV} (hev : (opEv T o ρ hp).gives v hp') (hfree : c.O hp.blocks.length = none) :
    ∃ u w' c', (execOp r o).run P w = .ok (.value u) w' ∧ QOut P base w c hp w' c' hp' ∧ VR P w' c' v u := by
  unfold opEv at hev
  rw [hop] at hev
  simp only at hev
  split at hev
  · rename_i ti ht
    cases hb : (Nat.beq (ρ x).cells.length ti.size && (ρ x).storable) with
    | false => rw [hb] at hev; exact hev.elim
    | true =>
      rw [hb] at hev
      obtain ⟨rfl, rfl⟩ := hev
      rw [Bool.and_eq_true] at hb
      have hl := Nat.eq_of_beq_eq_true hb.1
      have hcr := hx.cr hb.2
      refine ⟨_, _, _, ?_, new_block h hbase hfree (r x).cells t w (Below.refl _ _) rfl _ 1 (Nat.le_refl _) (by simp [hcr.size, hl]) rfl hcr.one (fun _ _ => hl) (fun i j y hi hy => ?_) (fun hf i j y hi hy => ?_),
        .optr _ _ _ _ _ _ (addO_self _ _ _) (Nat.le_refl _) rfl fun _ => ⟨Nat.zero_lt_one, rfl⟩⟩
      · simp [execOp, hop, Instr.box, newVar, newRow]
      · have : i = 0 := by simp at hi; exact hi
        subst this
        simpa using hcr.rel j y hy
      · exact List.all_eq_true.1 hf y (List.mem_of_getElem? hy)
  · exact hev.elim

theorem pure_build (hT : TOK P T) {t : TypeId} {o : Oper} {ps : Array (Nat × Operand)} {ρ : Operand → AV} {r : Operand → Value} (hop : o.op = .build t ps) (hx : ∀ p ∈ ps.toList, VR P w c (ρ p.2) (r p.2))
    {v : AV} (hev : (opEv T o ρ hp).gives v hp') : hp' = hp ∧ ∃ u, (execOp r o).run P w = .ok (.value u) w ∧ VR P w c v u := by
  have hex : ∀ cells, P.built t (ps.toList.map fun p => (p.1, r p.2)) = some cells → (execOp r o).run P w = .ok (.value (.agg cells)) w := fun cells hb => by
    have hpm : (ps.map fun (p : Nat × Operand) => (p.1, r p.2)).toList = ps.toList.map fun p => (p.1, r p.2) := by simp
    have := run_build (P := P) w t (ps.map fun p => (p.1, r p.2)) cells (by rw [hpm]; exact hb)
    unfold execOp
    rw [hop]
    simp only [Sem.run_bind]
    rw [show (Array.map (fun x => match x with | (i, x) => (i, r x)) ps) = ps.map fun (p : Nat × Operand) => (p.1, r p.2) from rfl, this]
    rfl
  have hplaces : ∀ (fs : List Field) (pl : List (Nat × Nat)), placesOf T fs = some pl → fs.mapM (fun f => (P.info? f.type).map fun i => (f.offset, i.size)) = some pl := by
    intro fs
    induction fs with
    | nil => intro pl hp; simp [placesOf] at hp; subst hp; rfl
    | cons f fs ih =>
      intro pl hp
      simp only [placesOf] at hp
      split at hp
      · rename_i fi l hf hl
        cases hp
        obtain ⟨_, _, _, inf, hinf, hs, _⟩ := hT _ _ hf
        simp [List.mapM_cons, hinf, hs, ih l hl]
      · cases hp
  unfold opEv at hev
  rw [hop] at hev
  simp only at hev
  split at hev
  · rename_i ti ht
    obtain ⟨hd, _, _, inf, hinf, hsz, _, hz⟩ := hT _ _ ht
    have hcr := zero_cr (P := P) (w := w) (c := c) hT ht (zero_len hT ht)
    split at hev
    · rename_i fields hdesc
      split at hev
      · rename_i pl hpl
        split at hev
        · rename_i l hl
          obtain ⟨rfl, rfl⟩ := hev
          obtain ⟨vs, g1, g2, _⟩ := fill_ok ps.toList _ _ _ hcr hx hl
          refine ⟨rfl, _, hex vs ?_, g2.agg⟩
          have hfun : (fun i => pl.toArray[i]?) = nth? pl := by funext i; rw [nth?_eq]; simp
          simp only [Program.built, hinf, hd, hdesc, hz, hplaces _ _ hpl, hfun, g1]
        · exact hev.elim
      · exact hev.elim
    · rename_i n e hdesc
      split at hev
      · rename_i ei he
        split at hev
        · rename_i l hl
          obtain ⟨rfl, rfl⟩ := hev
          obtain ⟨_, _, _, inf', hinf', hsz', _⟩ := hT _ _ he
          obtain ⟨vs, g1, g2, _⟩ := fill_ok ps.toList _ _ _ hcr hx hl
          refine ⟨rfl, _, hex vs ?_, g2.agg⟩
          simp only [Program.built, hinf, hd, hdesc, hz, hinf', hsz', g1]
        · exact hev.elim
      · exact hev.elim
    · exact hev.elim
  · exact hev.elim
end
end Go.Tr

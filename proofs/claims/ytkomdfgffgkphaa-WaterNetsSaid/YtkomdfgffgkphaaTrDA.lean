/- Regions that draw their order, the proof: the invariant, a step, the end. Conditions: the program's rules take any order. -/
import Derived.Test.YtkomdfgffgkphaaTrZ
namespace Go.Tr
open Go Go.RowKit

theorem row_pair {gl : List (Nat × Nat)} {ops : Array Oper} {bf : List Nat} {j : Nat} {y : Oper} : ∀ (l : List Oper) (i0 : Nat), rowOk gl ops bf j y i0 l = true → ∀ (k : Nat) x, l[k]? = some x → i0 + k < j → pairOk gl ops bf (i0 + k) j x y = true
  | [], _, _, k, x, hk, _ => by simp at hk
  | a :: r, i0, h, k, x, hk, hlt => by
    unfold rowOk at h
    have h0 : Nat.blt i0 j = true := by rw [Nat.blt_eq]; omega
    rw [h0, cond_true, Bool.and_eq_true] at h
    cases k with
    | zero => simp at hk; subst hk; exact h.1
    | succ k =>
      have := row_pair r (i0 + 1) h.2 k x (by simpa using hk) (by omega)
      rwa [show i0 + 1 + k = i0 + (k + 1) from by omega] at this

theorem all_pair {gl : List (Nat × Nat)} {ops : Array Oper} {bf : List Nat} : ∀ (l : List Oper) (j0 : Nat), allOk gl ops bf j0 l = true → ∀ (k : Nat) y, l[k]? = some y →
    (∀ (i : Nat) x, ops[i]? = some x → i < j0 + k → pairOk gl ops bf i (j0 + k) x y = true) ∧ (∀ e ∈ y.after, Region.binds .any e = true → e.on < j0 + k)
  | [], _, _, k, x, hk => by simp at hk
  | a :: r, j0, h, k, y, hk => by
    unfold allOk at h
    simp only [Bool.and_eq_true] at h
    cases k with
    | zero =>
      simp at hk
      subst hk
      refine ⟨fun i x hx hlt => ?_, fun e he hb => ?_⟩
      · have := row_pair ops.toList 0 h.1.1.1 i x (by simpa using hx) (by omega)
        simpa using this
      · have := List.all_eq_true.1 h.1.1.2 e (by simpa using he)
        rw [hb] at this
        simpa using this
    | succ k =>
      have := all_pair r (j0 + 1) h.2 k y (by simpa using hk)
      rwa [show j0 + 1 + k = j0 + (k + 1) from by omega] at this

def In (listed : Array Bool) (j : Nat) : Prop := listed.getD j false = true
def Wr (ops : Array Oper) (j : Nat) (t : Tmp) : Prop := ∃ o, ops[j]? = some o ∧ o.dst = some t

theorem In_lt {listed : Array Bool} {j : Nat} (h : In listed j) : j < listed.size := by
  rcases Nat.lt_or_ge j listed.size with g | g
  · exact g
  · unfold In at h; simp [Array.getElem?_eq_none g] at h

theorem In_set {listed : Array Bool} {i j : Nat} (hi : i < listed.size) : In (listed.setIfInBounds i true) j ↔ (j = i ∨ In listed j) := by
  unfold In
  by_cases h : i = j
  · subst h; simp [hi]
  · rw [getD_set_ne false h]
    constructor
    · exact .inr
    · rintro (g | g)
      · exact absurd g.symm h
      · exact g

/-- What stands beside the heap. -/
structure SideOk (P : Program) (F : Fr) (w0 : World) (sv0 : List (Nat × AV)) (j : Option Ex) (ny : Nat) (a : Act) (w : World) (c : Cx) : Prop where
  hy : ∀ i l, c.y i = some l → i < ny
  sv : ∀ i, VR P w c (look sv0 i) (F.X i)
  keep : ∀ x ∈ F.G, c.p x.1 ∧ w0.heap.size ≤ x.1 ∧ w.heap[x.1]? = some x.2.1 ∧ ∀ i, x.2.2 = some i → c.y i = some x.1
  rcd : ∀ i l rc', F.rc = some (i, l, rc') → c.y i = some l ∧ c.p l ∧ w0.heap.size ≤ l ∧ w.heap[l]? = some (.loop (recAt rc' j))
  defers : ∃ ds : List Nat, a.defers = ds.map markOf ∧ ds.Nodup ∧ ∀ D ∈ ds, c.p D ∧ w0.heap.size ≤ D ∧ w.heap[D]? = some (.deferred (some [])) ∧ ∀ x ∈ F.G, x.1 ≠ D

theorem SideOk.moved {P : Program} {F : Fr} {w0 w w' : World} {sv0 : List (Nat × AV)} {j : Option Ex} {ny : Nat} {a a' : Act} {c c' : Cx} {base : Nat} (h : SideOk P F w0 sv0 j ny a w c) (e : Ext base w c w' c') (hyE : c'.y = c.y) (ha : a'.defers = a.defers) : SideOk P F w0 sv0 j ny a' w' c' := by
  refine ⟨by rw [hyE]; exact h.hy, fun i => (h.sv i).mono e, fun x hx => ?_, fun i l rc' hrc => ?_, ?_⟩
  · obtain ⟨g1, g2, g3, g4⟩ := h.keep x hx
    exact ⟨e.p _ g1, g2, (e.pb _ g1).trans g3, fun i hi => e.y _ _ (g4 i hi)⟩
  · obtain ⟨g1, g2, g3, g4⟩ := h.rcd i l rc' hrc
    exact ⟨e.y _ _ g1, e.p _ g2, g3, (e.pb _ g2).trans g4⟩
  · obtain ⟨ds, g1, g2, g3⟩ := h.defers
    exact ⟨ds, ha.trans g1, g2, fun D hD => by obtain ⟨p1, p2, p3, p4⟩ := g3 D hD; exact ⟨e.p _ p1, p2, (e.pb _ p1).trans p3, p4⟩⟩

/-- What is known when some operations have been carried out. -/
structure DI (P : Program) (ops : Array Oper) (zs : Nat → Z) (F : Fr) (sv0 : List (Nat × AV)) (w0 : World) (q : Nat → Prop) (listed : Array Bool) (m : Nat) (a : Act) (w : World) (c : Cx) : Prop where
  size : listed.size = ops.size
  hr : HR P w0.heap.size w c (zs m).hp
  ro : RO c (zs m).hp
  dom : ∀ b oi, c.O b = some oi → b < (zs 0).hp.blocks.length ∨ ∃ j, In listed j ∧ (zs j).hp.blocks.length ≤ b ∧ b < (zs (j + 1)).hp.blocks.length
  domN : ∀ b r, c.N b = some r → b < (zs 0).hp.maps.length ∨ ∃ j, In listed j ∧ (zs j).hp.maps.length ≤ b ∧ b < (zs (j + 1)).hp.maps.length
  tm : ∀ t i, i ≤ ops.size → (∀ j, j < i → Wr ops j t → In listed j) → (∀ j, i ≤ j → Wr ops j t → ¬ In listed j) → VR P w c ((zs i).lk t) (a.tmps.getD t undef)
  tsize : a.tmps.size = F.n
  side : SideOk P F w0 sv0 (zs 0).hp.jump (zs 0).hp.ny a w c
  below : Below w0.heap.size w0 w
  pq : ∀ b, c.p b → q b ∨ w0.heap.size ≤ b
  closed : ∀ i j, In listed j → isBefore (befores ops.toList []) i j = true → In listed i
  m1 : m ≤ ops.size
  m2 : ∀ j, j < m → effAt ops j = true → In listed j
  m3 : m = ops.size ∨ (effAt ops m = true ∧ ¬ In listed m)

theorem eff_at {ops : Array Oper} {i : Nat} {o : Oper} (ho : ops[i]? = some o) : effAt ops i = effOp ops o := by
  unfold effAt
  rw [nth?_eq, Array.getElem?_toList, ho]

theorem eff_impure {ops : Array Oper} {o : Oper} (h : effOp ops o = true) : pureOp o = false := by
  unfold effOp at h
  unfold pureOp
  split at h <;> rename_i hop <;> first | rw [hop] | cases h

theorem eff_hard {ops : Array Oper} {o : Oper} (h : effOp ops o = true) : softOp o = false := by
  unfold effOp at h
  unfold softOp
  split at h <;> rename_i hop <;> first | rw [hop] | cases h

theorem eff_noread {ops : Array Oper} {o : Oper} (h : effOp ops o = true) : readBase o = none := by
  unfold effOp at h
  unfold readBase
  split at h <;> rename_i hop <;> first | rw [hop] | cases h

theorem soft_noread {o : Oper} (h : softOp o = true) : readBase o = none := by
  unfold softOp at h
  unfold readBase
  split at h <;> rename_i hop <;> first | rw [hop] | cases h

theorem gateSt_some {gl : List (Nat × Nat)} {ops : Array Oper} {k : Nat} {ρ : Operand → AV} {b : Bool} (h : gateSt gl ops k ρ = some b) : b = effAt ops k ∧ gateAt gl ops k ρ = true := by
  unfold gateSt at h
  cases hg : gateAt gl ops k ρ with
  | false => rw [hg] at h; cases h
  | true => rw [hg] at h; cases h; exact ⟨rfl, rfl⟩

section
variable {gl : List (Nat × Nat)} {P : Program} {T : Nat → Option TI} {F : Fr} {sv0 : List (Nat × AV)} {ops : Array Oper} {zs : Nat → Z} {w0 w : World} {q : Nat → Prop} {listed : Array Bool} {m : Nat} {a : Act} {c : Cx}

theorem Step.len {st : (Operand → AV) → Option Bool} {o : Oper} {z z' : Z} (h : Step P T F.n ops st o z z') : z.hp.blocks.length ≤ z'.hp.blocks.length ∧ z.hp.maps.length ≤ z'.hp.maps.length := by
  cases h with
  | run v h' _ _ _ hk => exact hk.len
  | skip => exact ⟨Nat.le_refl _, Nat.le_refl _⟩
theorem Step.le {k : Nat} {o : Oper} {z z' : Z} (h : Step P T F.n ops (gateSt gl ops k) o z z') (hs : effAt ops k = false) : HpLe z.hp z'.hp := by
  cases h with
  | run v h' _ _ h3 hk =>
    obtain ⟨b, g1, g2⟩ := h3
    exact hk.le (g2.resolve_left (by rw [(gateSt_some g1).1, hs]; simp))
  | skip => exact .refl _
theorem Step.read {st : (Operand → AV) → Option Bool} {o : Oper} {z z' : Z} (h : Step P T F.n ops st o z z') {b : Operand} (hp : readBase o = some b) : z'.hp = z.hp := by
  cases h with
  | run v h' _ _ h3 hk => exact (hk.read hp).1
  | skip => rfl
theorem Step.same {st : (Operand → AV) → Option Bool} {o : Oper} {z z' : Z} (h : Step P T F.n ops st o z z') (hp : pureOp o = true) : z'.hp = z.hp := by
  cases h with
  | run v h' _ _ h3 hk => exact (hk.pure hp).1
  | skip => rfl
theorem Step.same' {st : (Operand → AV) → Option Bool} {o : Oper} {z z' : Z} (h : Step P T F.n ops st o z z') (hp : softOp o = true) : z'.hp = z.hp := by
  cases h with
  | run v h' _ _ h3 hk => exact (hk.soft hp).1
  | skip => rfl
theorem Step.store {st : (Operand → AV) → Option Bool} {o : Oper} {z z' : Z} (h : Step P T F.n ops st o z z') (hp : storeOp o = true) : ShapeLe z.hp z'.hp ∧ ShapeLe z'.hp z.hp := by
  cases h with
  | run v h' _ _ h3 hk => exact hk.store hp
  | skip => exact ⟨.refl _, .refl _⟩
theorem Step.lk {st : (Operand → AV) → Option Bool} {o : Oper} {z z' : Z} (h : Step P T F.n ops st o z z') {t : Tmp} (ht : o.dst ≠ some t) : z'.lk t = z.lk t := by
  cases h with
  | run v h' _ _ h3 hk => simp only [upd]; rw [if_neg ht]
  | skip => simp only [upd]; rw [if_neg ht]

theorem Step.keep {st : (Operand → AV) → Option Bool} {o : Oper} {z z' : Z} (h : Step P T F.n ops st o z z') : z'.hp.jump = z.hp.jump ∧ z'.hp.ny = z.hp.ny := by
  cases h with
  | run v h' _ _ h3 hk =>
    cases hk with
    | op v h' hev => exact gives_keep hev
    | own => exact ⟨rfl, rfl⟩
    | shared => exact ⟨rfl, rfl⟩
  | skip => exact ⟨rfl, rfl⟩

variable (hs : ∀ (k : Nat) o, ops[k]? = some o → Step P T F.n ops (gateSt gl ops k) o (zs k) (zs (k + 1)))

include hs in
theorem z_keep : ∀ (j : Nat), j ≤ ops.size → (zs j).hp.jump = (zs 0).hp.jump ∧ (zs j).hp.ny = (zs 0).hp.ny
  | 0, _ => ⟨rfl, rfl⟩
  | j + 1, hj => by
    have h1 := z_keep j (by omega)
    have h2 := (hs j ops[j] (by simp)).keep
    exact ⟨h2.1.trans h1.1, h2.2.trans h1.2⟩

include hs in
theorem z_len {i j : Nat} (hij : i ≤ j) (hj : j ≤ ops.size) : (zs i).hp.blocks.length ≤ (zs j).hp.blocks.length ∧ (zs i).hp.maps.length ≤ (zs j).hp.maps.length := by
  induction j with
  | zero =>
    have : i = 0 := by omega
    subst this
    exact ⟨Nat.le_refl _, Nat.le_refl _⟩
  | succ j ih =>
    rcases Nat.lt_or_ge i (j + 1) with h | h
    · have g := ih (by omega) (by omega)
      have := (hs j ops[j] (by simp)).len
      exact ⟨Nat.le_trans g.1 this.1, Nat.le_trans g.2 this.2⟩
    · have : i = j + 1 := by omega
      subst this
      exact ⟨Nat.le_refl _, Nat.le_refl _⟩

include hs in
theorem z_le {i j : Nat} (hij : i ≤ j) (hj : j ≤ ops.size) (hn : ∀ k, i ≤ k → k < j → effAt ops k = false) : HpLe (zs i).hp (zs j).hp := by
  induction j with
  | zero =>
    have : i = 0 := by omega
    subst this
    exact .refl _
  | succ j ih =>
    rcases Nat.lt_or_ge i (j + 1) with h | h
    · exact (ih (by omega) (by omega) (fun k h1 h2 => hn k h1 (by omega))).trans ((hs j ops[j] (by simp)).le (hn j (by omega) (by omega)))
    · have : i = j + 1 := by omega
      subst this
      exact .refl _

include hs in
theorem z_lk {i j : Nat} {t : Tmp} (hij : i ≤ j) (hj : j ≤ ops.size) (hn : ∀ k, i ≤ k → k < j → ¬ Wr ops k t) : (zs j).lk t = (zs i).lk t := by
  induction j with
  | zero =>
    have : i = 0 := by omega
    subst this
    rfl
  | succ j ih =>
    rcases Nat.lt_or_ge i (j + 1) with h | h
    · have ho : ops[j]? = some ops[j] := by simp
      rw [(hs j _ ho).lk (fun e => hn j (by omega) (by omega) ⟨_, ho, e⟩)]
      exact ih (by omega) (by omega) (fun k h1 h2 => hn k h1 (by omega))
    · have : i = j + 1 := by omega
      subst this
      rfl

theorem next_eff : ∀ (d i : Nat), ops.size - i = d → i ≤ ops.size → ∃ m, i ≤ m ∧ m ≤ ops.size ∧ (∀ k, i ≤ k → k < m → effAt ops k = false) ∧ (m = ops.size ∨ effAt ops m = true)
  | 0, i, hd, hi => ⟨i, Nat.le_refl _, hi, fun k h1 h2 => by omega, .inl (by omega)⟩
  | d + 1, i, hd, hi => by
    cases he : effAt ops i with
    | true => exact ⟨i, Nat.le_refl _, hi, fun k h1 h2 => by omega, .inr he⟩
    | false =>
      obtain ⟨m, g1, g2, g3, g4⟩ := next_eff d (i + 1) (by omega) (by omega)
      refine ⟨m, by omega, g2, fun k h1 h2 => ?_, g4⟩
      rcases Nat.lt_or_ge i k with h | h
      · exact g3 k h h2
      · have : k = i := by omega
        subst this
        exact he

variable (hp : ∀ (i j : Nat) x y, ops[i]? = some x → ops[j]? = some y → i < j → pairOk gl ops (befores ops.toList []) i j x y = true)

include hp in
theorem pair_eff {i j : Nat} {x y : Oper} (hx : ops[i]? = some x) (hy : ops[j]? = some y) (hij : i < j) (h : (effOp ops x = true ∧ pureOp y = false ∧ softOp y = false ∧ readBase y = none) ∨ (effOp ops y = true ∧ pureOp x = false ∧ softOp x = false ∧ readBase x = none)) : isBefore (befores ops.toList []) i j = true := by
  have := hp i j x y hx hy hij
  unfold pairOk at this
  rcases Bool.or_eq_true_iff.1 this with g | g
  · exact g
  · have hns : gateStatic ops i j x y = false := by
      unfold gateStatic
      rcases h with ⟨h1, h2, h3, h4⟩ | ⟨h1, h2, h3, h4⟩
      · simp [h1, h4]
      · cases effOp ops x <;> simp [h1, h4]
    rcases h with ⟨h1, h2, h3, h4⟩ | ⟨h1, h2, h3, h4⟩ <;> simp [h1, h2, h3, hns] at g

include hp in
/-- A read and a write that are not ordered are named by a gate. -/
theorem pair_gate {i j : Nat} {x y : Oper} (hx : ops[i]? = some x) (hy : ops[j]? = some y) (hij : i < j) (hn : ¬ isBefore (befores ops.toList []) i j = true)
    (h : (effOp ops x = true ∧ pureOp y = false ∧ softOp y = false) ∨ (effOp ops y = true ∧ pureOp x = false ∧ softOp x = false)) : (i, j) ∈ gl ∧ gateStatic ops i j x y = true := by
  have := hp i j x y hx hy hij
  unfold pairOk at this
  rcases Bool.or_eq_true_iff.1 this with g | g
  · exact absurd g hn
  · have hg : (gl.any (fun p => Nat.beq p.1 i && Nat.beq p.2 j) && gateStatic ops i j x y) = true := by
      rcases h with ⟨h1, h2, h3⟩ | ⟨h1, h2, h3⟩ <;> simp [h1, h2, h3] at g ⊢ <;> exact g.2
    rw [Bool.and_eq_true] at hg
    refine ⟨?_, hg.2⟩
    obtain ⟨p, h1, h2⟩ := List.any_eq_true.1 hg.1
    rw [Bool.and_eq_true] at h2
    have e1 := Nat.eq_of_beq_eq_true h2.1
    have e2 := Nat.eq_of_beq_eq_true h2.2
    rw [← e1, ← e2]
    exact h1

include hp in
theorem pair_soft {i j : Nat} {x y : Oper} (hx : ops[i]? = some x) (hy : ops[j]? = some y) (hij : i < j) (hso : softOp x = true ∨ softOp y = true) (hn : ¬ isBefore (befores ops.toList []) i j = true) :
    (effOp ops x = true → pureOp y = false → storeOp x = true ∧ ∀ (k : Nat) z, ops[k]? = some z → i < k → k < j → pureOp z = true ∨ softOp z = true ∨ storeOp z = true) ∧ (effOp ops y = true → pureOp x = false → storeOp y = true) := by
  have := hp i j x y hx hy hij
  unfold pairOk at this
  rcases Bool.or_eq_true_iff.1 this with g | g
  · exact absurd g hn
  · have hns : gateStatic ops i j x y = false := by
      unfold gateStatic
      rcases hso with h | h
      · have h1 : effOp ops x = false := by
          cases he : effOp ops x with
          | false => rfl
          | true => rw [eff_hard he] at h; cases h
        simp [h1, soft_noread h]
      · cases effOp ops x with
        | true => simp [soft_noread h]
        | false =>
          have h1 : effOp ops y = false := by
            cases he : effOp ops y with
            | false => rfl
            | true => rw [eff_hard he] at h; cases h
          simp [h1]
    rw [hns, Bool.and_false, Bool.or_false] at g
    simp only [Bool.and_eq_true, Bool.or_eq_true, Bool.not_eq_true'] at g
    refine ⟨fun h1 h2 => ?_, fun h1 h2 => ?_⟩
    · rcases g.2.1 with (g | g) | g
      · rw [h1] at g; cases g
      · rw [h2] at g; cases g
      · refine ⟨g.1.2, fun k z hz h3 h4 => ?_⟩
        have hk := List.all_eq_true.1 g.2 k (List.mem_range.2 (Array.getElem?_eq_some_iff.1 hz).1)
        rw [nth?_eq, Array.getElem?_toList, hz] at hk
        have e1 : Nat.blt i k = true := by rw [Nat.blt_eq]; exact h3
        have e2 : Nat.blt k j = true := by rw [Nat.blt_eq]; exact h4
        simp only [e1, e2, Bool.and_self, Bool.not_true, Bool.false_or, Bool.or_eq_true] at hk
        rcases hk with (hk | hk) | hk
        · exact .inl hk
        · exact .inr (.inl hk)
        · exact .inr (.inr hk)
    · rcases g.2.2 with (g | g) | g
      · rw [h1] at g; cases g
      · rw [h2] at g; cases g
      · exact g.2

include hp in
theorem pair_rw {i j : Nat} {x y : Oper} (hx : ops[i]? = some x) (hy : ops[j]? = some y) (hij : i < j) {t : Tmp} (h : (x.dst = some t ∧ t ∈ readsOf ops y) ∨ (y.dst = some t ∧ t ∈ readsOf ops x) ∨ (x.dst = some t ∧ y.dst = some t)) : isBefore (befores ops.toList []) i j = true := by
  have := hp i j x y hx hy hij
  unfold pairOk at this
  rcases Bool.or_eq_true_iff.1 this with g | g
  · exact g
  · rcases h with ⟨h1, h2⟩ | ⟨h1, h2⟩ | ⟨h1, h2⟩
    · have := hasNat_iff.2 h2; simp [h1, this] at g
    · have := hasNat_iff.2 h2; simp [h1, this] at g
    · simp [h1, h2] at g

include hp in
theorem DI.early (h : DI P ops zs F sv0 w0 q listed m a w c) {j : Nat} {o : Oper} (ho : ops[j]? = some o) (hj : In listed j) (hnp : pureOp o = false) (hns : softOp o = false) (hnr : readBase o = none) : j < m := by
  rcases Nat.lt_or_ge j m with g | g
  · exact g
  · have hlt := In_lt hj
    rw [h.size] at hlt
    rcases h.m3 with e | ⟨e1, e2⟩
    · omega
    · rcases Nat.eq_or_lt_of_le g with e | e
      · subst e; exact absurd hj e2
      · have hm : ops[m]? = some ops[m] := by simp
        exact absurd (h.closed m j hj (pair_eff hp hm ho e (.inl ⟨by rw [← eff_at hm]; exact e1, hnp, hns, hnr⟩))) e2

include hs hp in
theorem DI.range (h : DI P ops zs F sv0 w0 q listed m a w c) : (∀ b oi, c.O b = some oi → b < (zs m).hp.blocks.length) ∧ (∀ b r, c.N b = some r → b < (zs m).hp.maps.length) := by
  have early : ∀ j, In listed j → (zs (j + 1)).hp ≠ (zs j).hp → j + 1 ≤ m ∧ m ≤ ops.size := fun j hj hne => by
    have hlt := In_lt hj
    rw [h.size] at hlt
    have ho : ops[j]? = some ops[j] := by simp
    refine ⟨h.early hp ho hj ?_ ?_ ?_, h.m1⟩
    · cases hpo : pureOp ops[j] with
      | false => rfl
      | true => exact absurd ((hs j _ ho).same hpo) hne
    · cases hpo : softOp ops[j] with
      | false => rfl
      | true => exact absurd ((hs j _ ho).same' hpo) hne
    · cases hpo : readBase ops[j] with
      | none => rfl
      | some b => exact absurd ((hs j _ ho).read hpo) hne
  refine ⟨fun b oi hb => ?_, fun b r hb => ?_⟩
  · rcases h.dom b oi hb with g | ⟨j, hj, g1, g2⟩
    · exact Nat.lt_of_lt_of_le g (z_len hs (Nat.zero_le _) h.m1).1
    · have := early j hj (fun e => by rw [e] at g2; omega)
      exact Nat.lt_of_lt_of_le g2 (z_len hs this.1 this.2).1
  · rcases h.domN b r hb with g | ⟨j, hj, g1, g2⟩
    · exact Nat.lt_of_lt_of_le g (z_len hs (Nat.zero_le _) h.m1).2
    · have := early j hj (fun e => by rw [e] at g2; omega)
      exact Nat.lt_of_lt_of_le g2 (z_len hs this.1 this.2).2
end
end Go.Tr

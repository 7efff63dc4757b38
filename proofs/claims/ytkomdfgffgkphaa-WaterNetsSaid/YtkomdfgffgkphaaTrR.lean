/- A region in the order of its text; the rules of Code; a function's body. Conditions: none. -/
import Derived.Test.YtkomdfgffgkphaaTrQ
import Derived.RangeFuncRecord
import Derived.OrdersIn
namespace Go.Tr
open Go Go.RowKit

section
variable {P : Program} {T : Nat → Option TI}

/-- By what code a loop was left. -/
def codeOf : Ex → Option Code
  | .normal => none
  | .exit i => some (.exit i)
  | .ret => some .ret

abbrev RcT := LoopState → Option Code → Loop
def recAt (rc : RcT) : Option Ex → Loop
  | none => rc .ready none
  | some e => rc .done (codeOf e)

/-- A frame: its size; what the slots of the frames below hold; the loop whose round it is; what stays as it is; the loop whose function it is. -/
structure Fr where
  n : Nat
  X : Nat → Value
  r : Option Nat
  G : List (Nat × Obj × Option Nat)
  rc : Option (Nat × Nat × RcT)

def FR (r : Option Nat) : Fence := { Fence.wide with round := r }
def markOf (D : Nat) : Deferred := { target := .collected D, args := #[] }

/-- What is known of the heap and of the frames below. w0: the world when the call began; q: what was stable then. -/
structure HS (P : Program) (X : Nat → Value) (G : List (Nat × Obj × Option Nat)) (rc : Option (Nat × Nat × RcT)) (w0 : World) (q : Nat → Prop) (hp : Hp) (sv : List (Nat × AV)) (w : World) (c : Cx) : Prop where
  hr : HR P w0.heap.size w c hp
  ro : RO c hp
  hi : ∀ b oi, c.O b = some oi → b < hp.blocks.length
  hiM : ∀ b r, c.N b = some r → b < hp.maps.length
  hy : ∀ i l, c.y i = some l → i < hp.ny
  below : Below w0.heap.size w0 w
  pq : ∀ b, c.p b → q b ∨ w0.heap.size ≤ b
  sv : ∀ i, VR P w c (look sv i) (X i)
  keep : ∀ x ∈ G, c.p x.1 ∧ w0.heap.size ≤ x.1 ∧ w.heap[x.1]? = some x.2.1 ∧ ∀ i, x.2.2 = some i → c.y i = some x.1
  rcd : ∀ i l rc', rc = some (i, l, rc') → c.y i = some l ∧ c.p l ∧ w0.heap.size ≤ l ∧ w.heap[l]? = some (.loop (recAt rc' hp.jump))

/-- The state as it is known, the frame and the world as they are. -/
structure SR (P : Program) (F : Fr) (w0 : World) (q : Nat → Prop) (s : St) (a : Act) (w : World) (c : Cx) : Prop extends HS P F.X F.G F.rc w0 q s.hp s.sv w c where
  tm : ∀ t, VR P w c (look s.tm t) (a.tmps.getD t undef)
  size : a.tmps.size = F.n
  defers : ∃ ds : List Nat, a.defers = ds.map markOf ∧ ds.Nodup ∧ ∀ D ∈ ds, c.p D ∧ w0.heap.size ≤ D ∧ w.heap[D]? = some (.deferred (some [])) ∧ ∀ x ∈ F.G, x.1 ≠ D

theorem HS.moved {X : Nat → Value} {G : List (Nat × Obj × Option Nat)} {rc : Option (Nat × Nat × RcT)} {w0 w w' : World} {q : Nat → Prop} {hp hp' : Hp} {sv : List (Nat × AV)} {c c' : Cx} (h : HS P X G rc w0 q hp sv w c) (hr : HR P w0.heap.size w' c' hp') (ro : RO c' hp') (e : Ext w0.heap.size w c w' c')
    (hi : ∀ b oi, c'.O b = some oi → b < hp'.blocks.length) (hiM : ∀ b r, c'.N b = some r → b < hp'.maps.length) (hy : ∀ i l, c'.y i = some l → i < hp'.ny) (pq : ∀ b, c'.p b → q b ∨ w0.heap.size ≤ b) (hj : hp'.jump = hp.jump) : HS P X G rc w0 q hp' sv w' c' :=
  ⟨hr, ro, hi, hiM, hy, h.below.trans e.below, pq, fun i => (h.sv i).mono e, fun x hx => by obtain ⟨g1, g2, g3, g4⟩ := h.keep x hx; exact ⟨e.p _ g1, g2, (e.pb _ g1).trans g3, fun i hi => e.y _ _ (g4 i hi)⟩,
    fun i l rc' hrc => by obtain ⟨g1, g2, g3, g4⟩ := h.rcd i l rc' hrc; exact ⟨e.y _ _ g1, e.p _ g2, g3, by rw [hj]; exact (e.pb _ g2).trans g4⟩⟩

theorem SR.moved {F : Fr} {w0 w w' : World} {q : Nat → Prop} {s : St} {a : Act} {c c' : Cx} (h : SR P F w0 q s a w c) (e : Ext w0.heap.size w c w' c') : ∃ ds : List Nat, a.defers = ds.map markOf ∧ ds.Nodup ∧ ∀ D ∈ ds, c'.p D ∧ w0.heap.size ≤ D ∧ w'.heap[D]? = some (.deferred (some [])) ∧ ∀ x ∈ F.G, x.1 ≠ D := by
  obtain ⟨ds, g1, g2, g3⟩ := h.defers
  exact ⟨ds, g1, g2, fun D hD => by obtain ⟨p1, p2, p3, p4⟩ := g3 D hD; exact ⟨e.p _ p1, p2, (e.pb _ p1).trans p3, p4⟩⟩

theorem SR.base {F : Fr} {w0 w : World} {q : Nat → Prop} {s : St} {a : Act} {c : Cx} (h : SR P F w0 q s a w c) : w0.heap.size ≤ w.heap.size := h.below.size

theorem look_put (s : St) (d : Tmp) (x : AV) (t : Nat) : look (s.put (some d) x).tm t = if d = t then x else look s.tm t := by
  simp only [St.put, look]
  by_cases h : d = t
  · subst h; simp
  · rw [if_neg h]
    cases hb : Nat.beq d t with
    | true => exact absurd (Nat.eq_of_beq_eq_true hb) h
    | false => rfl

theorem eval_rel {w : World} {c : Cx} {s : St} {a : Act} (h : ∀ t, VR P w c (look s.tm t) (a.tmps.getD t undef)) (x : Operand) : VR P w c (s.eval x) (a.eval x) := by
  cases x with
  | tmp t => exact h t
  | const v => exact .tree (constAV_ok v)
  | global g => exact .tree (.top _)
  | func f => exact .tree (.func _ _ _ #[] #[] rfl rfl (by simp))

/-- A slot whose value is known better. -/
theorem SR.known {F : Fr} {w0 w : World} {q : Nat → Prop} {s : St} {a : Act} {c : Cx} (h : SR P F w0 q s a w c) {t : Nat} {x : AV} (hx : VR P w c x (a.tmps.getD t undef)) : SR P F w0 q (s.put (some t) x) a w c :=
  ⟨h.toHS, fun t' => by
      rw [look_put]
      split
      · rename_i e; subst e; exact hx
      · exact h.tm t', h.size, h.defers⟩

theorem SR.putV {F : Fr} {w0 w w' : World} {q : Nat → Prop} {s : St} {a : Act} {c c' : Cx} {h' : Hp} (h : SR P F w0 q s a w c) (hr : HR P w0.heap.size w' c' h') (ro : RO c' h') (e : Ext w0.heap.size w c w' c')
    (hi : ∀ b oi, c'.O b = some oi → b < h'.blocks.length) (hiM : ∀ b r, c'.N b = some r → b < h'.maps.length) (hy : ∀ i l, c'.y i = some l → i < h'.ny) (pq : ∀ b, c'.p b → q b ∨ w0.heap.size ≤ b) (hj : h'.jump = s.hp.jump) {d : Option Tmp} (hd : slotOk F.n d = true) {v : AV} {u : Value} (hv : VR P w' c' v u) :
    SR P F w0 q ({ s with hp := h' }.put d v) (a.put d u) w' c' where
  toHS := by cases d <;> exact h.toHS.moved hr ro e hi hiM hy pq hj
  size := by cases d <;> simp [Act.put, h.size]
  defers := by cases d <;> exact h.moved e
  tm := fun t => by
    cases d with
    | none => exact (h.tm t).mono e
    | some d =>
      rw [look_put]
      have hlt : d < a.tmps.size := by rw [h.size]; exact Nat.le_of_ble_eq_true hd
      split
      · rename_i he
        subst he
        simpa [Act.put, hlt] using hv
      · rename_i hne
        have := (h.tm t).mono e
        simpa [Act.put, Array.getElem?_setIfInBounds_ne hne] using this

theorem SR.skip {F : Fr} {w0 w : World} {q : Nat → Prop} {s : St} {a : Act} {c : Cx} (h : SR P F w0 q s a w c) (d : Option Tmp) : SR P F w0 q (s.put d (.val undef)) (a.put d undef) w c where
  toHS := by cases d <;> exact h.toHS
  size := by cases d <;> simp [Act.put, h.size]
  defers := by cases d <;> exact h.defers
  tm := fun t => by
    cases d with
    | none => exact h.tm t
    | some d =>
      rw [look_put]
      split
      · rename_i he
        subst he
        have e : (a.put (some d) undef).tmps.getD d undef = undef := by
          by_cases hlt : d < a.tmps.size
          · simp [Act.put, hlt]
          · simp [Act.put]
        rw [e]
        exact .tree (.val _)
      · rename_i hne
        have := h.tm t
        simpa [Act.put, Array.getElem?_setIfInBounds_ne hne] using this

theorem SR.drew {F : Fr} {w0 w : World} {q : Nat → Prop} {s : St} {a : Act} {c : Cx} (h : SR P F w0 q s a w c) : SR P F w0 q s a { w with drawn := w.drawn + 1 } c := by
  have q0 := qout_same (w' := { w with drawn := w.drawn + 1 }) h.hr ⟨rfl, rfl, rfl, Nat.le_refl _, fun _ _ => rfl⟩ rfl
  have e := q0.ext.low h.base
  exact ⟨h.toHS.moved q0.hr h.ro e h.hi h.hiM h.hy h.pq rfl, fun t => (h.tm t).mono e, h.size, h.moved e⟩

theorem pq_of {F : Fr} {w0 w w' : World} {q : Nat → Prop} {s : St} {a : Act} {c c' : Cx} {h' : Hp} (h : SR P F w0 q s a w c) {hp : Hp} (hq : QOut P w0.heap.size w c hp w' c' h') : ∀ b, c'.p b → q b ∨ w0.heap.size ≤ b := fun b hb => by
  rcases hq.pN b hb with g | g | ⟨i, oi, g1, g2, g3⟩ | ⟨i, g⟩
  · exact h.pq b g
  · have := h.base; exact .inr (by omega)
  · have := h.hr.own i oi g1 g2; exact .inr (by omega)
  · have := h.hr.mown i b g; exact .inr (by omega)

/-- The counter of ranges and the jump are left alone by operations. -/
theorem gives_keep {o : Oper} {ρ : Operand → AV} {h h' : Hp} {v : AV} (hev : (opEv T o ρ h).gives v h') : h'.jump = h.jump ∧ h'.ny = h.ny := by
  have bin : ∀ op d x y, (binEv op d x y h).gives v h' → h' = h := fun op d x y hev => by
    unfold binEv at hev
    repeat' split at hev
    all_goals first
      | exact (aggEv_h hev).1
      | (simp only [Res.gives] at hev <;> first | exact hev.elim | exact hev.2.symm | exact hev.2.2.symm)
  have nil : ∀ op d x, (nilEv op d x h).gives v h' → h' = h := fun op d x hev => by
    unfold nilEv at hev
    repeat' split at hev
    all_goals simp only [Res.gives] at hev
    all_goals first | exact hev.elim | exact hev.2.2.symm
  unfold opEv at hev
  split at hev
  all_goals try simp only [Bool.cond_eq_ite] at hev
  all_goals (repeat' split at hev)
  all_goals first | (have := bin _ _ _ _ hev; subst this; exact ⟨rfl, rfl⟩) | (have := nil _ _ _ hev; subst this; exact ⟨rfl, rfl⟩) | simp only [Res.gives] at hev
  all_goals first
    | exact hev.elim
    | (have e := hev.2; subst e; exact ⟨rfl, rfl⟩)
    | (have e := hev.2.2; subst e; exact ⟨rfl, rfl⟩)

theorem ext_y {w0 w w' : World} {c c' : Cx} {hp hp' : Hp} (hy : ∀ i l, c.y i = some l → i < hp.ny) (hc : ∀ i l, c'.y i = some l → c.y i = some l) (hn : hp'.ny = hp.ny) : ∀ i l, c'.y i = some l → i < hp'.ny := fun i l h => by rw [hn]; exact hy i l (hc i l h)

theorem SR.quiet {F : Fr} {w0 w w' : World} {q : Nat → Prop} {s : St} {a : Act} {c c' : Cx} {h' : Hp} (h : SR P F w0 q s a w c) (hq : QOut P w0.heap.size w c s.hp w' c' h') (hk : h'.jump = s.hp.jump ∧ h'.ny = s.hp.ny) {d : Option Tmp} (hd : slotOk F.n d = true) {v : AV} {u : Value} (hv : VR P w' c' v u) :
    SR P F w0 q ({ s with hp := h' }.put d v) (a.put d u) w' c' :=
  h.putV hq.hr (hq.roOf h.ro) (hq.ext.low h.base) (fun b oi hb => by rcases hq.oNew b oi hb with g | g; exact Nat.lt_of_lt_of_le (h.hi b oi g) hq.le.blen; exact g.2)
    (fun b r hb => by rcases hq.nNew b r hb with g | g; exact Nat.lt_of_lt_of_le (h.hiM b r g) hq.le.mlen; exact g.2) (fun i l hi => by rw [hk.2]; rw [hq.yE] at hi; exact h.hy i l hi) (pq_of h hq) hk.1 hd hv

theorem SR.eff {F : Fr} {w0 w w' : World} {q : Nat → Prop} {s : St} {a : Act} {c c' : Cx} {h' : Hp} (h : SR P F w0 q s a w c) (hq : EOut P w0.heap.size w c s.hp w' c' h') (hk : h'.jump = s.hp.jump ∧ h'.ny = s.hp.ny) {d : Option Tmp} (hd : slotOk F.n d = true) {v : AV} {u : Value} (hv : VR P w' c' v u) :
    SR P F w0 q ({ s with hp := h' }.put d v) (a.put d u) w' c' :=
  h.putV hq.hr hq.ro hq.ext (fun b oi hb => by obtain ⟨oi', g⟩ := hq.oNew b oi hb; rw [hq.blen]; exact h.hi b oi' g)
    (fun b r hb => by obtain ⟨r', g⟩ := hq.nNew b r hb; rw [hq.mlen]; exact h.hiM b r' g) (fun i l hi => by rw [hk.2]; rw [hq.yE] at hi; exact h.hy i l hi) (fun b hb => h.pq b (hq.pE b hb)) hk.1 hd hv

/-! ### Frames laid aside and fetched again -/

def stackX (n : Nat) (a : Act) (X : Nat → Value) (j : Nat) : Value := if j < n then a.tmps.getD j undef else X (j - n)

theorem look_append : ∀ (l m : List (Nat × AV)) (t : Nat), (∀ p ∈ m, p.1 ≠ t) → look (l ++ m) t = look l t
  | [], [], t, _ => rfl
  | [], (k, x) :: m, t, h => by
    have hk : Nat.beq k t = false := by
      cases hb : Nat.beq k t with
      | false => rfl
      | true => exact absurd (Nat.eq_of_beq_eq_true hb) (h (k, x) (.head _))
    have := look_append [] m t (fun p hp => h p (.tail _ hp))
    simp only [List.nil_append, look, hk, cond_false] at this ⊢
    exact this
  | (k, x) :: l, m, t, h => by
    have := look_append l m t h
    simp only [List.cons_append, look, this]

theorem look_append2 : ∀ (l m : List (Nat × AV)) (t : Nat), (∀ p ∈ l, p.1 ≠ t) → look (l ++ m) t = look m t
  | [], m, t, _ => rfl
  | (k, x) :: l, m, t, h => by
    have hk : Nat.beq k t = false := by
      cases hb : Nat.beq k t with
      | false => rfl
      | true => exact absurd (Nat.eq_of_beq_eq_true hb) (h (k, x) (.head _))
    have := look_append2 l m t (fun p hp => h p (.tail _ hp))
    simp only [List.cons_append, look, hk, cond_false, this]

theorem look_filter (f : Nat → Bool) : ∀ (l : List (Nat × AV)) (t : Nat), look (l.filter fun p => f p.1) t = if f t then look l t else .top
  | [], t => by simp [look]
  | (k, x) :: l, t => by
    have ih := look_filter f l t
    by_cases hk : k = t
    · subst hk
      cases hf : f k with
      | true => simp [List.filter_cons, hf, look]
      | false => simp only [List.filter_cons, hf]; rw [hf] at ih; simpa using ih
    · have hb : Nat.beq k t = false := by
        cases hb : Nat.beq k t with
        | false => rfl
        | true => exact absurd (Nat.eq_of_beq_eq_true hb) hk
      cases hf : f k with
      | true => simp only [List.filter_cons, hf, if_true, look, hb, cond_false]; exact ih
      | false => simp only [List.filter_cons, hf]; simp only [look, hb, cond_false]; simpa using ih

theorem look_up (n : Nat) : ∀ (l : List (Nat × AV)) (t : Nat), look (l.map fun p => (p.1 + n, p.2)) (t + n) = look l t
  | [], t => rfl
  | (k, x) :: l, t => by
    have ih := look_up n l t
    have : Nat.beq (k + n) (t + n) = Nat.beq k t := by
      rw [Bool.eq_iff_iff, Nat.beq_eq, Nat.beq_eq]; omega
    simp only [List.map_cons, look, this, ih]

theorem look_push (n : Nat) (tm sv : List (Nat × AV)) (i : Nat) : look (pushSv n tm sv) i = if i < n then look tm i else look sv (i - n) := by
  unfold pushSv
  by_cases hi : i < n
  · rw [if_pos hi, look_append _ _ _ (fun p hp => by
      obtain ⟨y, _, rfl⟩ := List.mem_map.1 hp
      simp only; omega), look_filter (fun k => Nat.blt k n), if_pos (by rw [Nat.blt_eq]; exact hi)]
  · rw [if_neg hi, look_append2 _ _ _ (fun p hp => by
      have := (List.mem_filter.1 hp).2
      rw [Nat.blt_eq] at this; omega)]
    obtain ⟨k, rfl⟩ : ∃ k, i = k + n := ⟨i - n, by omega⟩
    rw [look_up, Nat.add_sub_cancel]

theorem look_popTm (n : Nat) (sv : List (Nat × AV)) (t : Nat) : look (popTm n sv) t = if t < n then look sv t else .top := by
  unfold popTm
  rw [look_filter (fun k => Nat.blt k n)]
  by_cases ht : t < n
  · rw [if_pos ht, if_pos (by rw [Nat.blt_eq]; exact ht)]
  · rw [if_neg ht, if_neg (by rw [Nat.blt_eq]; exact ht)]

theorem look_popSv (n : Nat) : ∀ (sv : List (Nat × AV)) (t : Nat), look (popSv n sv) t = look sv (t + n)
  | [], t => rfl
  | (k, x) :: l, t => by
    have ih := look_popSv n l t
    unfold popSv at ih ⊢
    by_cases hk : n ≤ k
    · have h1 : Nat.ble n k = true := by rw [Nat.ble_eq]; exact hk
      have h2 : Nat.beq (k - n) t = Nat.beq k (t + n) := by rw [Bool.eq_iff_iff, Nat.beq_eq, Nat.beq_eq]; omega
      simp only [List.filter_cons, h1, if_true, List.map_cons, look, h2, ih]
    · have h1 : Nat.ble n k = false := by
        cases hb : Nat.ble n k with
        | false => rfl
        | true => rw [Nat.ble_eq] at hb; exact absurd hb hk
      have h2 : Nat.beq k (t + n) = false := by
        cases hb : Nat.beq k (t + n) with
        | false => rfl
        | true => have := Nat.eq_of_beq_eq_true hb; omega
      simp only [List.filter_cons, h1, look, h2, cond_false]
      simpa using ih

/-- What stays as it is while a function runs in place. -/
def gOf (F : Fr) (ds : List Nat) (j : Option Ex) : List (Nat × Obj × Option Nat) := F.G ++ ds.map (fun D => (D, Obj.deferred (some []), none)) ++ (match F.rc with | some (i, l, rc) => [(l, Obj.loop (recAt rc j), some i)] | none => [])

theorem HR.jumpd {base : Nat} {w : World} {c : Cx} {hp : Hp} (h : HR P base w c hp) (j : Option Ex) (m : Nat) : HR P base w c { hp with jump := j, ny := m } := ⟨h.blk, h.sep, h.own, h.st, h.maps, h.mown, h.msep, h.bm⟩
theorem RO.jumpd {c : Cx} {hp : Hp} (h : RO c hp) (j : Option Ex) (m : Nat) : RO c { hp with jump := j, ny := m } := ⟨h.b, h.m⟩

theorem SR.push {F : Fr} {w0 w : World} {q : Nat → Prop} {s : St} {a : Act} {c : Cx} (h : SR P F w0 q s a w c) {ds : List Nat} (hds : ∀ D ∈ ds, c.p D ∧ w0.heap.size ≤ D ∧ w.heap[D]? = some (.deferred (some []))) {rc' : Option (Nat × Nat × RcT)} {j : Option Ex}
    (hrc : ∀ i l rc, rc' = some (i, l, rc) → c.y i = some l ∧ c.p l ∧ w0.heap.size ≤ l ∧ w.heap[l]? = some (.loop (recAt rc j))) :
    HS P (stackX F.n a F.X) (gOf F ds s.hp.jump) rc' w0 q { s.hp with jump := j } (pushSv F.n s.tm s.sv) w c := by
  refine ⟨h.hr.jumpd _ _, h.ro.jumpd _ _, h.hi, h.hiM, h.hy, h.below, h.pq, fun i => ?_, fun x hx => ?_, hrc⟩
  · rw [look_push]
    unfold stackX
    by_cases hi : i < F.n
    · rw [if_pos hi, if_pos hi]; exact h.tm i
    · rw [if_neg hi, if_neg hi]; exact h.sv _
  · unfold gOf at hx
    rcases List.mem_append.1 hx with hx | hx
    · rcases List.mem_append.1 hx with hx | hx
      · exact h.keep x hx
      · obtain ⟨D, hD, rfl⟩ := List.mem_map.1 hx
        obtain ⟨g1, g2, g3⟩ := hds D hD
        exact ⟨g1, g2, g3, fun i hi => by cases hi⟩
    · split at hx
      · rename_i i l rc hrcF
        rw [List.mem_singleton] at hx
        subst hx
        obtain ⟨g0, g1, g2, g3⟩ := h.rcd i l rc hrcF
        exact ⟨g1, g2, g3, fun i' hi => by cases hi; exact g0⟩
      · cases hx

theorem SR.pop {F : Fr} {w0 w : World} {q : Nat → Prop} {hp : Hp} {sv : List (Nat × AV)} {a : Act} {c : Cx} {G' : List (Nat × Obj × Option Nat)} {rc' : Option (Nat × Nat × RcT)} (h : HS P (stackX F.n a F.X) G' rc' w0 q hp sv w c) (hsz : a.tmps.size = F.n) {ds : List Nat} (hd1 : a.defers = ds.map markOf) (hd2 : ds.Nodup)
    (hd3 : ∀ D ∈ ds, ∀ x ∈ F.G, x.1 ≠ D) (hG : ∀ x ∈ F.G, x ∈ G') (hD : ∀ D ∈ ds, (D, Obj.deferred (some []), none) ∈ G') {j : Option Ex} (hrc : ∀ i l rc, F.rc = some (i, l, rc) → c.y i = some l ∧ c.p l ∧ w0.heap.size ≤ l ∧ w.heap[l]? = some (.loop (recAt rc j))) :
    SR P F w0 q { tm := popTm F.n sv, hp := { hp with jump := j }, sv := popSv F.n sv } a w c := by
  refine ⟨⟨h.hr.jumpd _ _, h.ro.jumpd _ _, h.hi, h.hiM, h.hy, h.below, h.pq, fun i => ?_, fun x hx => h.keep x (hG x hx), hrc⟩, fun t => ?_, hsz, ds, hd1, hd2, fun D hD' => ?_⟩
  · show VR P w c (look (popSv F.n sv) i) _
    rw [look_popSv]
    have := h.sv (i + F.n)
    unfold stackX at this
    rw [if_neg (by omega), Nat.add_sub_cancel] at this
    exact this
  · show VR P w c (look (popTm F.n sv) t) _
    rw [look_popTm]
    by_cases ht : t < F.n
    · rw [if_pos ht]
      have := h.sv t
      unfold stackX at this
      rw [if_pos ht] at this
      exact this
    · rw [if_neg ht]; exact .tree (.top _)
  · obtain ⟨g1, g2, g3, _⟩ := h.keep _ (hD D hD')
    exact ⟨g1, g2, g3, hd3 D hD'⟩

/-- The frame is as it was, where the function that ran in place has come back. -/
theorem SR.back {F : Fr} {w0 w w' : World} {q : Nat → Prop} {s : St} {a : Act} {c c' : Cx} (h : SR P F w0 q s a w c) {ds : List Nat} (hd1 : a.defers = ds.map markOf) (hd2 : ds.Nodup) (hd3 : ∀ D ∈ ds, ∀ x ∈ F.G, x.1 ≠ D) {hp : Hp} {sv : List (Nat × AV)}
    (h' : HS P (stackX F.n a F.X) (gOf F ds s.hp.jump) none w0 q hp sv w' c') : SR P F w0 q { tm := popTm F.n sv, hp := { hp with jump := s.hp.jump }, sv := popSv F.n sv } a w' c' := by
  refine SR.pop h' h.size hd1 hd2 hd3 (fun x hx => List.mem_append_left _ (List.mem_append_left _ hx)) (fun D hD => List.mem_append_left _ (List.mem_append_right _ (List.mem_map.2 ⟨D, hD, rfl⟩))) fun i l rc hrc => ?_
  obtain ⟨g1, g2, g3, g4⟩ := h'.keep (l, .loop (recAt rc s.hp.jump), some i) (List.mem_append_right _ (by rw [hrc]; exact .head _))
  exact ⟨g4 i rfl, g1, g2, g3⟩

/-! ### What a walk may lean on -/

def ArgsR (P : Program) (w : World) (c : Cx) (args : List AV) (vs : Array Value) : Prop := vs.size = args.length ∧ ∀ (i : Nat) x, args[i]? = some x → VR P w c x (vs.getD i undef)

/-- A yield may be called in the frame of the function that is ranged over. -/
def YOk (P : Program) (X : Nat → Value) (G : List (Nat × Obj × Option Nat)) (rc : Option (Nat × Nat × RcT)) (w0 : World) (q : Nat → Prop) (Y : YT) : Prop :=
  ∀ i m args s K, Y i m args s K → ∀ a w c vs l, SR P ⟨m, X, none, G, rc⟩ w0 q s a w c → ArgsR P w c args vs → c.y i = some l →
    ∃ fn tmps assign body, (Instr.yield l vs).run P w = .ok (.round l fn tmps assign body) w ∧ RoundIn (FR none) 0 P l fn tmps assign body w fun e w' => ∃ b s' c', e = .returned (.bool b) ∧ SR P ⟨m, X, none, G, rc⟩ w0 q s' a w' c' ∧ K b s'

/-- A function may be run in place. -/
def IOk (P : Program) (I : YT → FuncId → List AV → Nat → St → (AV → St → Prop) → Prop) : Prop :=
  ∀ Y f args n s K, I Y f args n s K → ∀ X G rc w0 q w c vs, HS P X G rc w0 q s.hp (pushSv n s.tm s.sv) w c → ArgsR P w c args vs → YOk P X G rc w0 q Y →
    (∀ as w, (callFunc f as).run P w = .ok (.enter f as) w) ∧ CallsIn (FR none) 0 P f vs w fun e w' => ∃ u, e = .returned u ∧ ∃ r hp' sv' c', HS P X G rc w0 q hp' sv' w' c' ∧ VR P w' c' r u ∧
      K r { tm := popTm n sv', hp := hp', sv := popSv n sv' }

structure EnvOk (P : Program) (F : Fr) (w0 : World) (q : Nat → Prop) (E : Env) : Prop where
  S : ∀ f args r fr, E.S f args r fr → Sound1 P f args r fr
  I : IOk P E.I
  Y : E.Y = noY ∨ (F.r = none ∧ YOk P F.X F.G F.rc w0 q E.Y)
  rok : E.rok = true → F.r = none

theorem EnvOk.plain {F : Fr} {w0 : World} {q : Nat → Prop} {E : Env} (h : EnvOk P F w0 q E) : EnvOk P F w0 q E.plain :=
  ⟨h.S, fun _ _ _ _ _ _ hf => hf.elim, .inl rfl, h.rok⟩

theorem noY_ok (X : Nat → Value) (G : List (Nat × Obj × Option Nat)) (rc : Option (Nat × Nat × RcT)) (w0 : World) (q : Nat → Prop) : YOk P X G rc w0 q noY := fun _ _ _ _ _ hf => hf.elim

/-- What holds of an operation in a plain frame, holds in a round's. -/
theorem wp_in {o : Oper} {a : Act} {w : World} {next : Act → World → Prop} {Q : Exit → Act → World → Prop} {r : Option Nat} (hnd : ∀ c, o.op ≠ .defer c) (h : o.wp P a w next Q) : o.wpIn (FR r) 0 P a w next Q := by
  refine ⟨fun _ _ => trivial, ?_⟩
  rw [show (FR r).round = r from rfl, Oper.semAt_eq r _ _ hnd]
  unfold Oper.wp at h
  generalize (execOp a.eval o).run P w = res at h ⊢
  cases res with
  | ok x w' =>
    cases x with
    | value v => exact h
    | skip => exact h
    | defer d => exact h
    | enter f args => exact ⟨(fun hd => by cases hd), callsIn_wide.2 h⟩
    | row row args =>
      refine ⟨(fun hd => by cases hd), fun cc cs _ => ?_⟩
      obtain ⟨v, w'', hR, hs⟩ := h cc cs
      exact ⟨v, w'', hR, stepsIn_wide.2 hs⟩
    | _ => exact h.elim
  | halt x w' => cases x <;> exact h

theorem not_defer {o : Oper} {ρ : Operand → AV} {h : Hp} (hb : ∀ c, o.op = .defer c → opEv T o ρ h ≠ .bad) : ∀ c, o.op ≠ .defer c := fun c hc => hb c hc (by unfold opEv; rw [hc])

theorem SR.put {F : Fr} {w0 w : World} {q : Nat → Prop} {s : St} {a : Act} {c : Cx} (h : SR P F w0 q s a w c) {d : Option Tmp} (hd : slotOk F.n d = true) {v : AV} {u : Value} (hv : VR P w c v u) : SR P F w0 q (s.put d v) (a.put d u) w c :=
  h.putV h.hr h.ro (Ext.refl _ _ _) h.hi h.hiM h.hy h.pq rfl hd hv

/-- A call of the function that a range over a function has handed out. -/
theorem op_yield {o : Oper} {f : Operand} {args : Array Operand} {ts : Array TypeId} {r : Operand → Value} {l : Nat} {w : World} (hop : o.op = .call { callee := .value f, args, argTypes := ts }) (hf : r f = .func (.yield l) #[] #[]) :
    (execOp r o).run P w = (Instr.yield l (args.map r)).run P w := by
  unfold execOp
  simp only [hop, resolve, hf, Deferred.ofValue, Sem.run_bind, Sem.run_pure, Result.andThen_ok, invoke]
  simp

/-- One operation, carried out. -/
theorem one_ok (hT : TOK P T) {F : Fr} {w0 w : World} {q : Nat → Prop} {E : Env} (hE : EnvOk P F w0 q E) {s : St} {a : Act} {c : Cx} (h : SR P F w0 q s a w c) {o : Oper} {st : (Operand → AV) → Option Bool} {K : St → Prop} (hw : oneW E T F.n st o s K) {next : Act → World → Prop} {Q : Exit → Act → World → Prop}
    (hK : ∀ s' a' w' c', SR P F w0 q s' a' w' c' → K s' → next a' w') : o.wpIn (FR F.r) 0 P a w next Q := by
  unfold oneW at hw
  simp only [putF_eq] at hw
  split at hw
  · exact hw.elim
  split at hw
  case h_2 => exact hw.elim
  rename_i hs
  rw [Bool.and_eq_true] at hs
  have hd := hs.1
  have hρ : ∀ x ∈ o.op.operands, VR P w c (s.eval x) (a.eval x) := fun x _ => eval_rel h.tm x
  have hnd : ∀ cc, o.op ≠ .defer cc := fun cc hcc => by
    unfold opW at hw
    rw [show opEv T o s.eval s.hp = .bad from by unfold opEv; rw [hcc]] at hw
    exact hw
  have done : ∀ (v : AV) (h' : Hp), (opEv T o s.eval s.hp).gives v h' → K ({ s with hp := h' }.put o.dst v) → o.wpIn (FR F.r) 0 P a w next Q := by
    intro v h' hev hk
    have hkeep := gives_keep hev
    refine wp_in hnd ?_
    cases he : isEff o s.eval with
    | false =>
      obtain ⟨u, w', c', g1, g2, g3⟩ := quiet_op hT h.hr h.base (fun _ => rfl) hρ he hev (fun b hb _ => by
        cases hO : c.O b with
        | none => rfl
        | some oi => have := h.hi b oi hO; omega) (fun b hb _ => by
        cases hO : c.N b with
        | none => rfl
        | some r => have := h.hiM b r hO; omega)
      unfold Oper.wp
      rw [g1]
      exact hK _ _ _ _ (h.quiet g2 hkeep hd g3) hk
    | true =>
      unfold isEff at he
      split at he
      · rename_i t x y hop
        obtain ⟨w', c', g1, g2, rfl⟩ := eff_store hT h.hr h.ro h.base hop (hρ x (by rw [hop]; simp [Op.operands])) (hρ y (by rw [hop]; simp [Op.operands])) hev
        unfold Oper.wp
        rw [g1]
        exact hK _ _ _ _ (h.eff g2 hkeep hd (.tree (.top _))) hk
      · rename_i t x y z hop
        obtain ⟨w', c', g1, g2, rfl⟩ := eff_mapUpdate hT h.hr h.ro hop (hρ x (by rw [hop]; simp [Op.operands])) (hρ y (by rw [hop]; simp [Op.operands])) (hρ z (by rw [hop]; simp [Op.operands])) hev
        unfold Oper.wp
        rw [g1]
        exact hK _ _ _ _ (h.eff g2 hkeep hd (.tree (.top _))) hk
      · rename_i args ts hop
        obtain ⟨u, w', c', g1, g2, g3⟩ := append_eff hT h.hr h.ro h.base hop (fun x hx => hρ x (by rw [hop]; simp [Op.operands, Call.operands, hx])) (by unfold isEff; rw [hop]; exact he) hev
        unfold Oper.wp
        rw [g1]
        exact hK _ _ _ _ (h.eff g2 hkeep hd g3) hk
      · cases he
  unfold opW at hw
  split at hw
  · exact hw.elim
  · rename_i v h' hev
    exact done v h' (by rw [hev]; exact ⟨rfl, rfl⟩) hw
  · rename_i p v h' hev
    exact done v h' (by rw [hev]; exact ⟨hw.1, rfl, rfl⟩) hw.2
  · rename_i p _ b h' hev
    split at hw
    · obtain ⟨rfl, b', e2, e3⟩ := any_real hT (fun _ => rfl) hρ hev
      refine wp_in hnd ?_
      unfold Oper.wp
      rw [e3]
      exact hK _ _ _ _ (h.put hd (.tree (.val _))) (hw b' e2)
    · exact done _ h' (by rw [hev]; exact ⟨hw.1, rfl, rfl⟩) hw.2
  · rename_i g as bs ms hev
    split at hw
    case h_2 => exact hw.elim
    rename_i f args ts hop
    rcases hw with ⟨res, fr, hS, hk⟩ | hw
    · obtain ⟨vs, g1, g2⟩ := op_call h.hr h.base hop (hρ f (by rw [hop]; simp [Op.operands, Call.operands])) (fun x hx => hρ x (by rw [hop]; simp [Op.operands, Call.operands, hx])) hev (hE.S _ _ _ _ hS) (fun _ b hb _ => by
          cases hO : c.O b with
          | none => rfl
          | some oi => have := h.hi b oi hO; omega)
      refine wp_in hnd ?_
      unfold Oper.wp
      rw [g1]
      refine Calls.mono g2 ?_
      rintro e w' ⟨u, rfl, c', hres⟩
      cases fr with
      | true => exact hK _ _ _ _ (h.quiet hres.1 ⟨rfl, rfl⟩ hd hres.2) hk
      | false => exact hK _ _ _ _ (h.quiet hres.1 ⟨rfl, rfl⟩ hd hres.2) hk
    · obtain ⟨ds, hd1, hd2, hd3⟩ := h.defers
      have hpush := h.push (ds := ds) (fun D hD => by obtain ⟨p1, p2, p3, _⟩ := hd3 D hD; exact ⟨p1, p2, p3⟩) (rc' := none) (j := s.hp.jump) (fun i l rc hf => by cases hf)
      have hfr := hρ f (by rw [hop]; simp [Op.operands, Call.operands])
      have hin := fun X G rc w0' q' w' c' vs h1 h2 => (hE.I _ _ _ _ _ _ hw X G rc w0' q' w' c' vs h1 h2 (noY_ok _ _ _ _ _)).1
      obtain ⟨vs0, _, a1, a2⟩ : ∃ vs0 : Array Value, True ∧ vs0.size = (rawArgs o s.eval).length ∧ ∀ (i : Nat) x, (rawArgs o s.eval)[i]? = some x → VR P w c x (vs0.getD i undef) := by
        obtain ⟨vs0, a1, a2⟩ := raw_args hop hfr (fun x hx => hρ x (by rw [hop]; simp [Op.operands, Call.operands, hx])) hev
        exact ⟨vs0, trivial, a1, a2⟩
      obtain ⟨vs, g1, g2, g3⟩ := op_raw (w := w) hop hfr (fun x hx => hρ x (by rw [hop]; simp [Op.operands, Call.operands, hx])) hev (hin _ _ _ _ _ _ _ _ hpush ⟨a1, a2⟩)
      obtain ⟨_, hcall⟩ := hE.I _ _ _ _ _ _ hw _ _ _ _ _ _ _ vs hpush ⟨g2, g3⟩ (noY_ok _ _ _ _ _)
      refine ⟨fun _ _ => trivial, ?_⟩
      rw [Oper.semAt_eq _ _ _ hnd, g1]
      refine ⟨(fun hdd => by cases hdd), CallsIn.mono hcall ?_⟩
      rintro e w' ⟨u, rfl, r, hp', sv', c', hs', hr, hk⟩
      have hback := h.back hd1 hd2 (fun D hD x hx => (hd3 D hD).2.2.2 x hx) hs'
      exact hK _ _ _ _ (hback.put hd hr) hk
  · rename_i i as hev
    split at hw
    case h_2 => exact hw.elim
    rename_i f args ts hop
    rcases hE.Y with hY | ⟨hr0, hY⟩
    · rw [hY] at hw; exact hw.elim
    · have hfr := hρ f (by rw [hop]; simp [Op.operands, Call.operands])
      unfold opEv at hev
      rw [hop] at hev
      simp only at hev
      split at hev
      · cases hev
      · rename_i i' hf
        cases hev
        rw [hf] at hfr
        obtain ⟨l, hl, hv⟩ : ∃ l, c.y i = some l ∧ a.eval f = .func (.yield l) #[] #[] := by
          generalize a.eval f = u at hfr
          cases hfr with
          | tree ht => cases ht
          | yld _ l hy => exact ⟨l, hy, rfl⟩
        have hF : F = ⟨F.n, F.X, none, F.G, F.rc⟩ := by rw [← hr0]
        obtain ⟨fn, tmps, assign, body, y1, y2⟩ := hY _ _ _ _ _ hw a w c (args.map a.eval) l (hF ▸ h) ⟨by simp, fun k x hx => by
          rw [List.getElem?_map] at hx
          by_cases hk : k < args.size
          · have : args.toList[k]? = some args[k] := by simp [hk]
            rw [this] at hx
            simp only [Option.map_some, Option.some.injEq] at hx
            subst hx
            simpa [hk] using hρ args[k] (by rw [hop]; simp [Op.operands, Call.operands])
          · rw [List.getElem?_eq_none (by simp; omega)] at hx; cases hx⟩ hl
        refine ⟨fun _ _ => trivial, ?_⟩
        rw [Oper.semAt_eq _ _ _ hnd, op_yield hop hv, y1]
        refine ⟨(fun hdd => by cases hdd), RoundIn.mono y2 ?_⟩
        rintro e w' ⟨b, s', c', rfl, hs', hk⟩
        exact hK _ _ _ _ (SR.put (hF ▸ hs' : SR P F w0 q s' a w' c') hd (.tree (.val _))) hk
      · cases hev

theorem guard_known {F : Fr} {w0 w : World} {q : Nat → Prop} {s : St} {a : Act} {c : Cx} (h : SR P F w0 q s a w c) {ops : Array Oper} {o : Oper} {j : Nat} {want : Bool} (hg : o.guard = some (j, want)) {t : Tmp} (ht : (nth? ops.toList j).bind (·.dst) = some t) {b : Bool}
    (hl : look s.tm t = .val (.bool b)) : Region.wanted o (yielded ops a.tmps) = (b == want) := by
  rw [nth?_eq] at ht
  have ht' : (ops[j]?).bind (·.dst) = some t := by simpa using ht
  have hv := h.tm t
  rw [hl] at hv
  have hv := hv.val_inv
  have hs : a.tmps[t]? = some (.bool b) := by
    cases hq : a.tmps[t]? with
    | none => simp [hq, undef] at hv
    | some u => simp [hq] at hv; rw [hv]
  unfold Region.wanted
  rw [hg]
  simp [yielded, ht', hs]

theorem guard_undef {F : Fr} {w0 w : World} {q : Nat → Prop} {s : St} {a : Act} {c : Cx} (h : SR P F w0 q s a w c) {ops : Array Oper} {o : Oper} {j : Nat} {want : Bool} (hg : o.guard = some (j, want)) {t : Tmp} (ht : (nth? ops.toList j).bind (·.dst) = some t) {vs : Array Value}
    (hl : look s.tm t = .val (.tuple vs)) : Region.wanted o (yielded ops a.tmps) = false := by
  rw [nth?_eq] at ht
  have ht' : (ops[j]?).bind (·.dst) = some t := by simpa using ht
  have hv := h.tm t
  rw [hl] at hv
  have hv := hv.val_inv
  unfold Region.wanted
  rw [hg]
  simp only [yielded, ht', Option.bind_some]
  cases hq : a.tmps[t]? with
  | none => rfl
  | some u =>
    have : u = .tuple vs := by simpa [hq] using hv
    subst this
    rfl

theorem ops_ok (hT : TOK P T) {F : Fr} {w0 : World} {q : Nat → Prop} {ops : Array Oper} {E : Env} (hE : EnvOk P F w0 q E) {st : Nat → (Operand → AV) → Option Bool} {K : St → Prop} {Q : Exit → Act → World → Prop} (hK : ∀ s' a' w' c', SR P F w0 q s' a' w' c' → K s' → Q .normal a' w') :
    ∀ (l : List Oper) (i : Nat) (s : St) (a : Act) (w : World) (c : Cx), ops.toList.drop i = l → SR P F w0 q s a w c → opsW E T F.n st ops K i l s → wpOpsIn (FR F.r) 0 P ops Q (List.range' i l.length) a w
  | [], i, s, a, w, c, _, h, hw => by simp only [List.length_nil, List.range'_zero, wpOpsIn]; exact hK s a w c h hw
  | o :: r, i, s, a, w, c, hd, h, hw => by
    have ho : ops[i]? = some o := by
      have := List.getElem?_drop (xs := ops.toList) (i := i) (j := 0)
      rw [hd] at this
      simpa using this.symm
    have hd' : ops.toList.drop (i + 1) = r := by
      have : ops.toList.drop (i + 1) = (ops.toList.drop i).drop 1 := by rw [List.drop_drop]
      rw [this, hd]; rfl
    simp only [List.length_cons, List.range'_succ, wpOpsIn, ho]
    have go : ∀ s, SR P F w0 q s a w c → oneW E T F.n (st i) o s (opsW E T F.n st ops K (i + 1) r) → o.wpIn (FR F.r) 0 P a w (wpOpsIn (FR F.r) 0 P ops Q (List.range' (i + 1) r.length)) Q := fun s hs ho' =>
      one_ok hT hE hs ho' fun s' a' w' c' hs' hk => ops_ok hT hE hK r (i + 1) s' a' w' c' hd' hs' hk
    have sk : ∀ s, SR P F w0 q s a w c → opsW E T F.n st ops K (i + 1) r (s.put o.dst (.val undef)) → wpOpsIn (FR F.r) 0 P ops Q (List.range' (i + 1) r.length) (a.put o.dst undef) w := fun s hs ho' =>
      ops_ok hT hE hK r (i + 1) _ _ w c hd' (hs.skip o.dst) ho'
    unfold opsW at hw
    simp only [putF_eq] at hw
    split at hw
    · rename_i hg
      have : Region.wanted o (yielded ops a.tmps) = true := by unfold Region.wanted; rw [hg]
      rw [if_pos this]
      exact go s h hw
    · rename_i j want hg
      split at hw
      · exact hw.elim
      · rename_i t ht
        split at hw
        · rename_i b hl
          have hwd := guard_known h hg ht hl
          have hkn : SR P F w0 q (s.put (some t) (.val (.bool b))) a w c := h.known (by rw [← hl]; exact h.tm t)
          rw [hwd]
          cases b <;> cases want <;> simp only [ifB] at hw <;> simp
          · exact go _ hkn hw
          · exact ⟨fun _ _ => trivial, sk _ hkn hw⟩
          · exact ⟨fun _ _ => trivial, sk _ hkn hw⟩
          · exact go _ hkn hw
        · rename_i vs hl
          rw [guard_undef h hg ht hl]
          simp
          exact ⟨fun _ _ => trivial, sk s h hw⟩
        · exact hw.elim
end
end Go.Tr

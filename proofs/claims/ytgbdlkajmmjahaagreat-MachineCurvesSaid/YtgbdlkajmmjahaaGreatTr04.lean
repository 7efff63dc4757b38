/- A region in the order of its text; the rules of Code; a function's body. Conditions: none. -/
import Derived.Test.YtgbdlkajmmjahaaGreatTr03
import Derived.RangeFuncRecord
import Derived.OrdersIn
set_option linter.unusedSectionVars false
set_option linter.unnecessarySimpa false
set_option linter.unusedVariables false
set_option linter.unusedSimpArgs false

namespace Go.Tr
open Go Go.RowKit

section
variable [GTab] {P : Program} {T : Nat → Option TI}

/-- By what code a loop was left. -/
def codeOf : Ex → Option Code
  | .normal => none
  | .exit i => some (.exit i)
  | .ret => some .ret

abbrev RcT := LoopState → Option Code → Loop
def recAt (rc : RcT) : Option Ex → Loop
  | none => rc .ready none
  | some e => rc .done (codeOf e)

/-- A frame: its size; what the slots of the frames below hold; the loop whose round it is; what stays as it is; the loop whose function it is. -/
structure Fr where
  n : Nat
  X : Nat → Value
  r : Option Nat
  G : List (Nat × Obj × Option Nat)
  rc : Option (Nat × Nat × RcT)

def FR (r : Option Nat) : Fence := { Fence.wide with round := r }
def markOf (D : Nat) : Deferred := { target := .collected D, args := #[] }

/-- What is known of the heap and of the frames below. w0: the world when the call began; q: what was stable then. -/
structure HS (P : Program) (X : Nat → Value) (G : List (Nat × Obj × Option Nat)) (rc : Option (Nat × Nat × RcT)) (w0 : World) (q : Nat → Prop) (hp : Hp) (sv : List (Nat × AV)) (w : World) (c : Cx) : Prop where
  hr : HR P w0.heap.size w c hp
  ro : RO c hp
  hi : ∀ b oi, c.O b = some oi → b < hp.blocks.length
  hiM : ∀ b r, c.N b = some r → b < hp.maps.length
  hy : ∀ i l, c.y i = some l → i < hp.ny
  below : Below w0.heap.size w0 w
  pq : ∀ b, c.p b → q b ∨ w0.heap.size ≤ b
  sv : ∀ i, VR P w c (look sv i) (X i)
  keep : ∀ x ∈ G, c.p x.1 ∧ w0.heap.size ≤ x.1 ∧ w.heap[x.1]? = some x.2.1 ∧ ∀ i, x.2.2 = some i → c.y i = some x.1
  rcd : ∀ i l rc', rc = some (i, l, rc') → c.y i = some l ∧ c.p l ∧ w0.heap.size ≤ l ∧ w.heap[l]? = some (.loop (recAt rc' hp.jump))
  gok : GOk P w c.p

/-- The state as it is known, the frame and the world as they are. -/
structure SR (P : Program) (F : Fr) (w0 : World) (q : Nat → Prop) (s : St) (a : Act) (w : World) (c : Cx) : Prop extends HS P F.X F.G F.rc w0 q s.hp s.sv w c where
  tm : ∀ t, VR P w c (look s.tm t) (a.tmps.getD t undef)
  size : a.tmps.size = F.n
  defers : ∃ ds : List Nat, a.defers = ds.map markOf ∧ ds.Nodup ∧ ∀ D ∈ ds, c.p D ∧ w0.heap.size ≤ D ∧ w.heap[D]? = some (.deferred (some [])) ∧ ∀ x ∈ F.G, x.1 ≠ D

theorem HS.moved {X : Nat → Value} {G : List (Nat × Obj × Option Nat)} {rc : Option (Nat × Nat × RcT)} {w0 w w' : World} {q : Nat → Prop} {hp hp' : Hp} {sv : List (Nat × AV)} {c c' : Cx} (h : HS P X G rc w0 q hp sv w c) (hr : HR P w0.heap.size w' c' hp') (ro : RO c' hp') (e : Ext w0.heap.size w c w' c')
    (hi : ∀ b oi, c'.O b = some oi → b < hp'.blocks.length) (hiM : ∀ b r, c'.N b = some r → b < hp'.maps.length) (hy : ∀ i l, c'.y i = some l → i < hp'.ny) (pq : ∀ b, c'.p b → q b ∨ w0.heap.size ≤ b) (hj : hp'.jump = hp.jump) : HS P X G rc w0 q hp' sv w' c' :=
  ⟨hr, ro, hi, hiM, hy, h.below.trans e.below, pq, fun i => (h.sv i).mono e, fun x hx => by obtain ⟨g1, g2, g3, g4⟩ := h.keep x hx; exact ⟨e.p _ g1, g2, (e.pb _ g1).trans g3, fun i hi => e.y _ _ (g4 i hi)⟩,
    (fun i l rc' hrc => by obtain ⟨g1, g2, g3, g4⟩ := h.rcd i l rc' hrc; exact ⟨e.y _ _ g1, e.p _ g2, g3, by rw [hj]; exact (e.pb _ g2).trans g4⟩), h.gok.mono e.p e.pb⟩

theorem SR.moved {F : Fr} {w0 w w' : World} {q : Nat → Prop} {s : St} {a : Act} {c c' : Cx} (h : SR P F w0 q s a w c) (e : Ext w0.heap.size w c w' c') : ∃ ds : List Nat, a.defers = ds.map markOf ∧ ds.Nodup ∧ ∀ D ∈ ds, c'.p D ∧ w0.heap.size ≤ D ∧ w'.heap[D]? = some (.deferred (some [])) ∧ ∀ x ∈ F.G, x.1 ≠ D := by
  obtain ⟨ds, g1, g2, g3⟩ := h.defers
  exact ⟨ds, g1, g2, fun D hD => by obtain ⟨p1, p2, p3, p4⟩ := g3 D hD; exact ⟨e.p _ p1, p2, (e.pb _ p1).trans p3, p4⟩⟩

theorem SR.base {F : Fr} {w0 w : World} {q : Nat → Prop} {s : St} {a : Act} {c : Cx} (h : SR P F w0 q s a w c) : w0.heap.size ≤ w.heap.size := h.below.size

omit [GTab] in
theorem look_put (s : St) (d : Tmp) (x : AV) (t : Nat) : look (s.put (some d) x).tm t = if d = t then x else look s.tm t := by
  simp only [St.put, look]
  by_cases h : d = t
  · subst h; simp
  · rw [if_neg h]
    cases hb : Nat.beq d t with
    | true => exact absurd (Nat.eq_of_beq_eq_true hb) h
    | false => rfl

theorem eval_rel {w : World} {c : Cx} {s : St} {a : Act} (hg : GOk P w c.p) (h : ∀ t, VR P w c (look s.tm t) (a.tmps.getD t undef)) (x : Operand) : VR P w c (s.eval x) (a.eval x) := by
  cases x with
  | tmp t => exact h t
  | const v => exact .tree (constAV_ok v)
  | global g =>
    show VR P w c (gAV g) _
    unfold gAV
    split
    · rename_i l hl
      exact .tree (hg g l hl)
    · exact .tree (.top _)
  | func f => exact .tree (.func _ _ _ #[] #[] rfl rfl (by simp))

/-- A slot whose value is known better. -/
theorem SR.known {F : Fr} {w0 w : World} {q : Nat → Prop} {s : St} {a : Act} {c : Cx} (h : SR P F w0 q s a w c) {t : Nat} {x : AV} (hx : VR P w c x (a.tmps.getD t undef)) : SR P F w0 q (s.put (some t) x) a w c :=
  ⟨h.toHS, fun t' => by
      rw [look_put]
      split
      · rename_i e; subst e; exact hx
      · exact h.tm t', h.size, h.defers⟩

theorem SR.putV {F : Fr} {w0 w w' : World} {q : Nat → Prop} {s : St} {a : Act} {c c' : Cx} {h' : Hp} (h : SR P F w0 q s a w c) (hr : HR P w0.heap.size w' c' h') (ro : RO c' h') (e : Ext w0.heap.size w c w' c')
    (hi : ∀ b oi, c'.O b = some oi → b < h'.blocks.length) (hiM : ∀ b r, c'.N b = some r → b < h'.maps.length) (hy : ∀ i l, c'.y i = some l → i < h'.ny) (pq : ∀ b, c'.p b → q b ∨ w0.heap.size ≤ b) (hj : h'.jump = s.hp.jump) {d : Option Tmp} (hd : slotOk F.n d = true) {v : AV} {u : Value} (hv : VR P w' c' v u) :
    SR P F w0 q ({ s with hp := h' }.put d v) (a.put d u) w' c' where
  toHS := by cases d <;> exact h.toHS.moved hr ro e hi hiM hy pq hj
  size := by cases d <;> simp [Act.put, h.size]
  defers := by cases d <;> exact h.moved e
  tm := fun t => by
    cases d with
    | none => exact (h.tm t).mono e
    | some d =>
      rw [look_put]
      have hlt : d < a.tmps.size := by rw [h.size]; exact Nat.le_of_ble_eq_true hd
      split
      · rename_i he
        subst he
        simpa [Act.put, hlt] using hv
      · rename_i hne
        have := (h.tm t).mono e
        simpa [Act.put, Array.getElem?_setIfInBounds_ne hne] using this

theorem SR.skip {F : Fr} {w0 w : World} {q : Nat → Prop} {s : St} {a : Act} {c : Cx} (h : SR P F w0 q s a w c) (d : Option Tmp) : SR P F w0 q (s.put d (.val undef)) (a.put d undef) w c where
  toHS := by cases d <;> exact h.toHS
  size := by cases d <;> simp [Act.put, h.size]
  defers := by cases d <;> exact h.defers
  tm := fun t => by
    cases d with
    | none => exact h.tm t
    | some d =>
      rw [look_put]
      split
      · rename_i he
        subst he
        have e : (a.put (some d) undef).tmps.getD d undef = undef := by
          by_cases hlt : d < a.tmps.size
          · simp [Act.put, hlt]
          · simp [Act.put]
        rw [e]
        exact .tree (.val _)
      · rename_i hne
        have := h.tm t
        simpa [Act.put, Array.getElem?_setIfInBounds_ne hne] using this

theorem SR.drew {F : Fr} {w0 w : World} {q : Nat → Prop} {s : St} {a : Act} {c : Cx} (h : SR P F w0 q s a w c) : SR P F w0 q s a { w with drawn := w.drawn + 1 } c := by
  have q0 := qout_same (w' := { w with drawn := w.drawn + 1 }) h.hr ⟨rfl, rfl, rfl, Nat.le_refl _, fun _ _ => rfl⟩ rfl
  have e := q0.ext.low h.base
  exact ⟨h.toHS.moved q0.hr h.ro e h.hi h.hiM h.hy h.pq rfl, fun t => (h.tm t).mono e, h.size, h.moved e⟩

theorem pq_of {F : Fr} {w0 w w' : World} {q : Nat → Prop} {s : St} {a : Act} {c c' : Cx} {h' : Hp} (h : SR P F w0 q s a w c) {hp : Hp} (hq : QOut P w0.heap.size w c hp w' c' h') : ∀ b, c'.p b → q b ∨ w0.heap.size ≤ b := fun b hb => by
  rcases hq.pN b hb with g | g | ⟨i, oi, g1, g2, g3⟩ | ⟨i, g⟩
  · exact h.pq b g
  · have := h.base; exact .inr (by omega)
  · have := h.hr.own i oi g1 g2; exact .inr (by omega)
  · have := h.hr.mown i b g; exact .inr (by omega)

omit [GTab] in
/-- The counter of ranges and the jump are left alone by operations. -/
theorem gives_keep {o : Oper} {ρ : Operand → AV} {h h' : Hp} {v : AV} (hev : (opEv T o ρ h).gives v h') : h'.jump = h.jump ∧ h'.ny = h.ny := by
  have bin : ∀ op d x y, (binEv op d x y h).gives v h' → h' = h := fun op d x y hev => by
    unfold binEv at hev
    repeat' split at hev
    all_goals first
      | exact (aggEv_h hev).1
      | (simp only [Res.gives] at hev <;> first | exact hev.elim | exact hev.2.symm | exact hev.2.2.symm)
  have nil : ∀ op d x, (nilEv op d x h).gives v h' → h' = h := fun op d x hev => by
    unfold nilEv at hev
    repeat' split at hev
    all_goals simp only [Res.gives] at hev
    all_goals first | exact hev.elim | exact hev.2.2.symm
  unfold opEv at hev
  split at hev
  all_goals try simp only [Bool.cond_eq_ite, forceNr_eq, forceC_eq, forceT_eq, force0_eq, force1_eq] at hev
  all_goals (repeat' split at hev)
  all_goals first | (have := bin _ _ _ _ hev; subst this; exact ⟨rfl, rfl⟩) | (have := nil _ _ _ hev; subst this; exact ⟨rfl, rfl⟩) | simp only [Res.gives] at hev
  all_goals first
    | exact hev.elim
    | (have e := hev.2; subst e; exact ⟨rfl, rfl⟩)
    | (have e := hev.2.2; subst e; exact ⟨rfl, rfl⟩)
    | (obtain ⟨_, _, _, e⟩ := hev; subst e; exact ⟨rfl, rfl⟩)
    | (rcases hev with ⟨_, _, e⟩ | ⟨_, _, e⟩ <;> (subst e; exact ⟨rfl, rfl⟩))

omit [GTab] in
theorem ext_y {c c' : Cx} {hp hp' : Hp} (hy : ∀ i l, c.y i = some l → i < hp.ny) (hc : ∀ i l, c'.y i = some l → c.y i = some l) (hn : hp'.ny = hp.ny) : ∀ i l, c'.y i = some l → i < hp'.ny := fun i l h => by rw [hn]; exact hy i l (hc i l h)

theorem SR.quiet {F : Fr} {w0 w w' : World} {q : Nat → Prop} {s : St} {a : Act} {c c' : Cx} {h' : Hp} (h : SR P F w0 q s a w c) (hq : QOut P w0.heap.size w c s.hp w' c' h') (hk : h'.jump = s.hp.jump ∧ h'.ny = s.hp.ny) {d : Option Tmp} (hd : slotOk F.n d = true) {v : AV} {u : Value} (hv : VR P w' c' v u) :
    SR P F w0 q ({ s with hp := h' }.put d v) (a.put d u) w' c' :=
  h.putV hq.hr (hq.roOf h.ro) (hq.ext.low h.base) (fun b oi hb => by rcases hq.oNew b oi hb with g | g; exact Nat.lt_of_lt_of_le (h.hi b oi g) hq.le.blen; exact g.2)
    (fun b r hb => by rcases hq.nNew b r hb with g | g; exact Nat.lt_of_lt_of_le (h.hiM b r g) hq.le.mlen; exact g.2) (fun i l hi => by rw [hk.2]; rw [hq.yE] at hi; exact h.hy i l hi) (pq_of h hq) hk.1 hd hv

/-- Slots that are only looked at from here on. -/
theorem SR.fzs {F : Fr} {w0 w : World} {q : Nat → Prop} {a : Act} : ∀ (l : List Nat) {s : St} {c : Cx}, SR P F w0 q s a w c → ∃ c', SR P F w0 q (Tr.fzs l s) a w c'
  | [], s, c, h => ⟨c, h⟩
  | t :: l, s, c, h => by
    have hv := h.tm t
    have hz := freeze_ok h.hr 5 hv
    have hq := qout_shared h.hr (Below.refl _ w) (bs := (refs s.hp 5 (look s.tm t)).1) (ms := (refs s.hp 5 (look s.tm t)).2) (refs_lt 5 _).1 (refs_lt 5 _).2
    have h1 := h.quiet hq ⟨rfl, rfl⟩ (d := none) rfl (v := .top) (u := undef) (.tree (.top _))
    exact SR.fzs l (h1.known (t := t) (x := fz s.hp (look s.tm t)) (.tree (hz.weaken fun b hb => .inl hb)))

theorem SR.eff {F : Fr} {w0 w w' : World} {q : Nat → Prop} {s : St} {a : Act} {c c' : Cx} {h' : Hp} (h : SR P F w0 q s a w c) (hq : EOut P w0.heap.size w c s.hp w' c' h') (hk : h'.jump = s.hp.jump ∧ h'.ny = s.hp.ny) {d : Option Tmp} (hd : slotOk F.n d = true) {v : AV} {u : Value} (hv : VR P w' c' v u) :
    SR P F w0 q ({ s with hp := h' }.put d v) (a.put d u) w' c' :=
  h.putV hq.hr hq.ro hq.ext (fun b oi hb => by obtain ⟨oi', g⟩ := hq.oNew b oi hb; rw [hq.blen]; exact h.hi b oi' g)
    (fun b r hb => by obtain ⟨r', g⟩ := hq.nNew b r hb; rw [hq.mlen]; exact h.hiM b r' g) (fun i l hi => by rw [hk.2]; rw [hq.yE] at hi; exact h.hy i l hi) (fun b hb => h.pq b (hq.pE b hb)) hk.1 hd hv

/-! ### Frames laid aside and fetched again -/

def stackX (n : Nat) (a : Act) (X : Nat → Value) (j : Nat) : Value := if j < n then a.tmps.getD j undef else X (j - n)

omit [GTab] in
theorem look_append : ∀ (l m : List (Nat × AV)) (t : Nat), (∀ p ∈ m, p.1 ≠ t) → look (l ++ m) t = look l t
  | [], [], t, _ => rfl
  | [], (k, x) :: m, t, h => by
    have hk : Nat.beq k t = false := by
      cases hb : Nat.beq k t with
      | false => rfl
      | true => exact absurd (Nat.eq_of_beq_eq_true hb) (h (k, x) (.head _))
    have := look_append [] m t (fun p hp => h p (.tail _ hp))
    simp only [List.nil_append, look, hk, cond_false] at this ⊢
    exact this
  | (k, x) :: l, m, t, h => by
    have := look_append l m t h
    simp only [List.cons_append, look, this]

omit [GTab] in
theorem look_append2 : ∀ (l m : List (Nat × AV)) (t : Nat), (∀ p ∈ l, p.1 ≠ t) → look (l ++ m) t = look m t
  | [], m, t, _ => rfl
  | (k, x) :: l, m, t, h => by
    have hk : Nat.beq k t = false := by
      cases hb : Nat.beq k t with
      | false => rfl
      | true => exact absurd (Nat.eq_of_beq_eq_true hb) (h (k, x) (.head _))
    have := look_append2 l m t (fun p hp => h p (.tail _ hp))
    simp only [List.cons_append, look, hk, cond_false, this]

omit [GTab] in
theorem look_filter (f : Nat → Bool) : ∀ (l : List (Nat × AV)) (t : Nat), look (l.filter fun p => f p.1) t = if f t then look l t else .top
  | [], t => by simp [look]
  | (k, x) :: l, t => by
    have ih := look_filter f l t
    by_cases hk : k = t
    · subst hk
      cases hf : f k with
      | true => simp [hf, look]
      | false => simp only [List.filter_cons, hf]; rw [hf] at ih; simpa using ih
    · have hb : Nat.beq k t = false := by
        cases hb : Nat.beq k t with
        | false => rfl
        | true => exact absurd (Nat.eq_of_beq_eq_true hb) hk
      cases hf : f k with
      | true => simp only [List.filter_cons, hf, if_true, look, hb, cond_false]; exact ih
      | false => simp only [List.filter_cons, hf]; simp only [look, hb, cond_false]; simpa using ih

omit [GTab] in
theorem look_up (n : Nat) : ∀ (l : List (Nat × AV)) (t : Nat), look (l.map fun p => (p.1 + n, p.2)) (t + n) = look l t
  | [], t => rfl
  | (k, x) :: l, t => by
    have ih := look_up n l t
    have : Nat.beq (k + n) (t + n) = Nat.beq k t := by
      rw [Bool.eq_iff_iff, Nat.beq_eq, Nat.beq_eq]; omega
    simp only [List.map_cons, look, this, ih]

theorem look_push (n : Nat) (tm sv : List (Nat × AV)) (i : Nat) : look (pushSv n tm sv) i = if i < n then look tm i else look sv (i - n) := by
  unfold pushSv
  by_cases hi : i < n
  · rw [if_pos hi, look_append _ _ _ (fun p hp => by
      obtain ⟨y, _, rfl⟩ := List.mem_map.1 hp
      simp only; omega), look_filter (fun k => Nat.blt k n), if_pos (by rw [Nat.blt_eq]; exact hi)]
  · rw [if_neg hi, look_append2 _ _ _ (fun p hp => by
      have := (List.mem_filter.1 hp).2
      rw [Nat.blt_eq] at this; omega)]
    obtain ⟨k, rfl⟩ : ∃ k, i = k + n := ⟨i - n, by omega⟩
    rw [look_up, Nat.add_sub_cancel]

theorem look_popTm (n : Nat) (sv : List (Nat × AV)) (t : Nat) : look (popTm n sv) t = if t < n then look sv t else .top := by
  unfold popTm
  rw [look_filter (fun k => Nat.blt k n)]
  by_cases ht : t < n
  · rw [if_pos ht, if_pos (by rw [Nat.blt_eq]; exact ht)]
  · rw [if_neg ht, if_neg (by rw [Nat.blt_eq]; exact ht)]

omit [GTab] in
theorem look_popSv (n : Nat) : ∀ (sv : List (Nat × AV)) (t : Nat), look (popSv n sv) t = look sv (t + n)
  | [], t => rfl
  | (k, x) :: l, t => by
    have ih := look_popSv n l t
    unfold popSv at ih ⊢
    by_cases hk : n ≤ k
    · have h1 : Nat.ble n k = true := by rw [Nat.ble_eq]; exact hk
      have h2 : Nat.beq (k - n) t = Nat.beq k (t + n) := by rw [Bool.eq_iff_iff, Nat.beq_eq, Nat.beq_eq]; omega
      simp only [List.filter_cons, h1, if_true, List.map_cons, look, h2, ih]
    · have h1 : Nat.ble n k = false := by
        cases hb : Nat.ble n k with
        | false => rfl
        | true => rw [Nat.ble_eq] at hb; exact absurd hb hk
      have h2 : Nat.beq k (t + n) = false := by
        cases hb : Nat.beq k (t + n) with
        | false => rfl
        | true => have := Nat.eq_of_beq_eq_true hb; omega
      simp only [List.filter_cons, h1, look, h2, cond_false]
      simpa using ih

/-- What stays as it is while a function runs in place. -/
def gOf (F : Fr) (ds : List Nat) (j : Option Ex) : List (Nat × Obj × Option Nat) := F.G ++ ds.map (fun D => (D, Obj.deferred (some []), none)) ++ (match F.rc with | some (i, l, rc) => [(l, Obj.loop (recAt rc j), some i)] | none => [])

omit [GTab] in
theorem HR.jumpd {base : Nat} {w : World} {c : Cx} {hp : Hp} (h : HR P base w c hp) (j : Option Ex) (m : Nat) : HR P base w c { hp with jump := j, ny := m } := ⟨h.blk, h.sep, h.own, h.st, h.maps, h.mown, h.msep, h.bm⟩
omit [GTab] in
theorem RO.jumpd {c : Cx} {hp : Hp} (h : RO c hp) (j : Option Ex) (m : Nat) : RO c { hp with jump := j, ny := m } := ⟨h.b, h.m⟩

theorem SR.push {F : Fr} {w0 w : World} {q : Nat → Prop} {s : St} {a : Act} {c : Cx} (h : SR P F w0 q s a w c) {ds : List Nat} (hds : ∀ D ∈ ds, c.p D ∧ w0.heap.size ≤ D ∧ w.heap[D]? = some (.deferred (some []))) {rc' : Option (Nat × Nat × RcT)} {j : Option Ex}
    (hrc : ∀ i l rc, rc' = some (i, l, rc) → c.y i = some l ∧ c.p l ∧ w0.heap.size ≤ l ∧ w.heap[l]? = some (.loop (recAt rc j))) :
    HS P (stackX F.n a F.X) (gOf F ds s.hp.jump) rc' w0 q { s.hp with jump := j } (pushSv F.n s.tm s.sv) w c := by
  refine ⟨h.hr.jumpd _ _, h.ro.jumpd _ _, h.hi, h.hiM, h.hy, h.below, h.pq, fun i => ?_, fun x hx => ?_, hrc, h.gok⟩
  · rw [look_push]
    unfold stackX
    by_cases hi : i < F.n
    · rw [if_pos hi, if_pos hi]; exact h.tm i
    · rw [if_neg hi, if_neg hi]; exact h.sv _
  · unfold gOf at hx
    rcases List.mem_append.1 hx with hx | hx
    · rcases List.mem_append.1 hx with hx | hx
      · exact h.keep x hx
      · obtain ⟨D, hD, rfl⟩ := List.mem_map.1 hx
        obtain ⟨g1, g2, g3⟩ := hds D hD
        exact ⟨g1, g2, g3, fun i hi => by cases hi⟩
    · split at hx
      · rename_i i l rc hrcF
        rw [List.mem_singleton] at hx
        subst hx
        obtain ⟨g0, g1, g2, g3⟩ := h.rcd i l rc hrcF
        exact ⟨g1, g2, g3, fun i' hi => by cases hi; exact g0⟩
      · cases hx

theorem SR.pop {F : Fr} {w0 w : World} {q : Nat → Prop} {hp : Hp} {sv : List (Nat × AV)} {a : Act} {c : Cx} {G' : List (Nat × Obj × Option Nat)} {rc' : Option (Nat × Nat × RcT)} (h : HS P (stackX F.n a F.X) G' rc' w0 q hp sv w c) (hsz : a.tmps.size = F.n) {ds : List Nat} (hd1 : a.defers = ds.map markOf) (hd2 : ds.Nodup)
    (hd3 : ∀ D ∈ ds, ∀ x ∈ F.G, x.1 ≠ D) (hG : ∀ x ∈ F.G, x ∈ G') (hD : ∀ D ∈ ds, (D, Obj.deferred (some []), none) ∈ G') {j : Option Ex} (hrc : ∀ i l rc, F.rc = some (i, l, rc) → c.y i = some l ∧ c.p l ∧ w0.heap.size ≤ l ∧ w.heap[l]? = some (.loop (recAt rc j))) :
    SR P F w0 q { tm := popTm F.n sv, hp := { hp with jump := j }, sv := popSv F.n sv } a w c := by
  refine ⟨⟨h.hr.jumpd _ _, h.ro.jumpd _ _, h.hi, h.hiM, h.hy, h.below, h.pq, fun i => ?_, fun x hx => h.keep x (hG x hx), hrc, h.gok⟩, fun t => ?_, hsz, ds, hd1, hd2, fun D hD' => ?_⟩
  · show VR P w c (look (popSv F.n sv) i) _
    rw [look_popSv]
    have := h.sv (i + F.n)
    unfold stackX at this
    rw [if_neg (by omega), Nat.add_sub_cancel] at this
    exact this
  · show VR P w c (look (popTm F.n sv) t) _
    rw [look_popTm]
    by_cases ht : t < F.n
    · rw [if_pos ht]
      have := h.sv t
      unfold stackX at this
      rw [if_pos ht] at this
      exact this
    · rw [if_neg ht]; exact .tree (.top _)
  · obtain ⟨g1, g2, g3, _⟩ := h.keep _ (hD D hD')
    exact ⟨g1, g2, g3, hd3 D hD'⟩

/-- The frame is as it was, where the function that ran in place has come back. -/
theorem SR.back {F : Fr} {w0 w w' : World} {q : Nat → Prop} {s : St} {a : Act} {c c' : Cx} (h : SR P F w0 q s a w c) {ds : List Nat} (hd1 : a.defers = ds.map markOf) (hd2 : ds.Nodup) (hd3 : ∀ D ∈ ds, ∀ x ∈ F.G, x.1 ≠ D) {hp : Hp} {sv : List (Nat × AV)}
    (h' : HS P (stackX F.n a F.X) (gOf F ds s.hp.jump) none w0 q hp sv w' c') : SR P F w0 q { tm := popTm F.n sv, hp := { hp with jump := s.hp.jump }, sv := popSv F.n sv } a w' c' := by
  refine SR.pop h' h.size hd1 hd2 hd3 (fun x hx => List.mem_append_left _ (List.mem_append_left _ hx)) (fun D hD => List.mem_append_left _ (List.mem_append_right _ (List.mem_map.2 ⟨D, hD, rfl⟩))) fun i l rc hrc => ?_
  obtain ⟨g1, g2, g3, g4⟩ := h'.keep (l, .loop (recAt rc s.hp.jump), some i) (List.mem_append_right _ (by rw [hrc]; exact .head _))
  exact ⟨g4 i rfl, g1, g2, g3⟩

/-! ### What a walk may lean on -/

def ArgsR (P : Program) (w : World) (c : Cx) (args : List AV) (vs : Array Value) : Prop := vs.size = args.length ∧ ∀ (i : Nat) x, args[i]? = some x → VR P w c x (vs.getD i undef)

/-- A yield may be called in the frame of the function that is ranged over. -/
def YOk (P : Program) (X : Nat → Value) (G : List (Nat × Obj × Option Nat)) (rc : Option (Nat × Nat × RcT)) (w0 : World) (q : Nat → Prop) (Y : YT) : Prop :=
  ∀ i m args s K, Y i m args s K → ∀ a w c vs l, SR P ⟨m, X, none, G, rc⟩ w0 q s a w c → ArgsR P w c args vs → c.y i = some l →
    ∃ fn tmps assign body, (Instr.yield l vs).run P w = .ok (.round l fn tmps assign body) w ∧ RoundIn (FR none) 0 P l fn tmps assign body w fun e w' => ∃ b s' c', e = .returned (.bool b) ∧ SR P ⟨m, X, none, G, rc⟩ w0 q s' a w' c' ∧ K b s'

/-- A function may be run in place. -/
def IOk (P : Program) (I : YT → FuncId → List AV → Nat → St → (AV → St → Prop) → Prop) : Prop :=
  ∀ Y f args n s K, I Y f args n s K → ∀ X G rc w0 q w c vs, HS P X G rc w0 q s.hp (pushSv n s.tm s.sv) w c → ArgsR P w c args vs → YOk P X G rc w0 q Y →
    (∀ as w, (callFunc f as).run P w = .ok (.enter f as) w) ∧ CallsIn (FR none) 0 P f vs w fun e w' => ∃ u, e = .returned u ∧ ∃ r hp' sv' c', HS P X G rc w0 q hp' sv' w' c' ∧ VR P w' c' r u ∧
      K r { tm := popTm n sv', hp := hp', sv := popSv n sv' }

structure EnvOk (P : Program) (F : Fr) (w0 : World) (q : Nat → Prop) (E : Env) : Prop where
  S : ∀ f args r fr, E.S f args r fr → Sound1 P f args r fr
  I : IOk P E.I
  Y : E.Y = noY ∨ (F.r = none ∧ YOk P F.X F.G F.rc w0 q E.Y)
  rok : E.rok = true → F.r = none
  M : ∀ f es len R rest G, E.M f es len R rest G → Sound2 P f es len R rest G

theorem EnvOk.plain {F : Fr} {w0 : World} {q : Nat → Prop} {E : Env} (h : EnvOk P F w0 q E) : EnvOk P F w0 q E.plain :=
  ⟨h.S, fun _ _ _ _ _ _ hf => hf.elim, .inl rfl, h.rok, fun _ _ _ _ _ _ hf => hf.elim⟩

theorem noY_ok (X : Nat → Value) (G : List (Nat × Obj × Option Nat)) (rc : Option (Nat × Nat × RcT)) (w0 : World) (q : Nat → Prop) : YOk P X G rc w0 q noY := fun _ _ _ _ _ hf => hf.elim

omit [GTab] in
/-- What holds of an operation in a plain frame, holds in a round's. -/
theorem wp_in {o : Oper} {a : Act} {w : World} {next : Act → World → Prop} {Q : Exit → Act → World → Prop} {r : Option Nat} (hnd : ∀ c, o.op ≠ .defer c) (h : o.wp P a w next Q) : o.wpIn (FR r) 0 P a w next Q := by
  refine ⟨fun _ _ => trivial, ?_⟩
  rw [show (FR r).round = r from rfl, Oper.semAt_eq r _ _ hnd]
  unfold Oper.wp at h
  generalize (execOp a.eval o).run P w = res at h ⊢
  cases res with
  | ok x w' =>
    cases x with
    | value v => exact h
    | skip => exact h
    | defer d => exact h
    | enter f args => exact ⟨(fun hd => by cases hd), callsIn_wide.2 h⟩
    | row row args =>
      refine ⟨(fun hd => by cases hd), fun cc cs _ => ?_⟩
      obtain ⟨v, w'', hR, hs⟩ := h cc cs
      exact ⟨v, w'', hR, stepsIn_wide.2 hs⟩
    | _ => exact h.elim
  | halt x w' => cases x <;> exact h

omit [GTab] in
theorem not_defer {o : Oper} {ρ : Operand → AV} {h : Hp} (hb : ∀ c, o.op = .defer c → opEv T o ρ h ≠ .bad) : ∀ c, o.op ≠ .defer c := fun c hc => hb c hc (by unfold opEv; rw [hc])

theorem SR.put {F : Fr} {w0 w : World} {q : Nat → Prop} {s : St} {a : Act} {c : Cx} (h : SR P F w0 q s a w c) {d : Option Tmp} (hd : slotOk F.n d = true) {v : AV} {u : Value} (hv : VR P w c v u) : SR P F w0 q (s.put d v) (a.put d u) w c :=
  h.putV h.hr h.ro (Ext.refl _ _ _) h.hi h.hiM h.hy h.pq rfl hd hv

omit [GTab] in
/-- A call of the function that a range over a function has handed out. -/
theorem op_yield {o : Oper} {f : Operand} {args : Array Operand} {ts : Array TypeId} {r : Operand → Value} {l : Nat} {w : World} (hop : o.op = .call { callee := .value f, args, argTypes := ts }) (hf : r f = .func (.yield l) #[] #[]) :
    (execOp r o).run P w = (Instr.yield l (args.map r)).run P w := by
  unfold execOp
  simp only [hop, resolve, hf, Deferred.ofValue, Sem.run_bind, Sem.run_pure, Result.andThen_ok, invoke]
  simp

/-- One operation, carried out. -/
theorem one_ok (hT : TOK P T) {F : Fr} {w0 w : World} {q : Nat → Prop} {E : Env} (hE : EnvOk P F w0 q E) {s : St} {a : Act} {c : Cx} (h : SR P F w0 q s a w c) {o : Oper} {st : (Operand → AV) → Option Bool} {K : St → Prop} (hw : oneW E T F.n st o s K) {next : Act → World → Prop} {Q : Exit → Act → World → Prop}
    (hK : ∀ s' a' w' c', SR P F w0 q s' a' w' c' → K s' → next a' w') : o.wpIn (FR F.r) 0 P a w next Q := by
  unfold oneW at hw
  simp only [putF_eq] at hw
  split at hw
  · exact hw.elim
  split at hw
  case h_2 => exact hw.elim
  rename_i hs
  rw [Bool.and_eq_true] at hs
  have hd := hs.1
  have hρ : ∀ x ∈ o.op.operands, VR P w c (s.eval x) (a.eval x) := fun x _ => eval_rel h.gok h.tm x
  have hnd : ∀ cc, o.op ≠ .defer cc := fun cc hcc => by
    unfold opW at hw
    rw [show opEv T o s.eval s.hp = .bad from by unfold opEv; rw [hcc]] at hw
    exact hw
  have done : ∀ (v : AV) (h' : Hp), (opEv T o s.eval s.hp).gives v h' → K ({ s with hp := h' }.put o.dst v) → o.wpIn (FR F.r) 0 P a w next Q := by
    intro v h' hev hk
    have hkeep := gives_keep hev
    refine wp_in hnd ?_
    cases he : isEff o s.eval with
    | false =>
      obtain ⟨u, w', c', g1, g2, g3⟩ := quiet_op hT h.hr h.base (fun _ => rfl) hρ he hev (fun b hb _ => by
        cases hO : c.O b with
        | none => rfl
        | some oi => have := h.hi b oi hO; omega) (fun b hb _ => by
        cases hO : c.N b with
        | none => rfl
        | some r => have := h.hiM b r hO; omega)
      unfold Oper.wp
      rw [g1]
      exact hK _ _ _ _ (h.quiet g2 hkeep hd g3) hk
    | true =>
      unfold isEff at he
      split at he
      · rename_i t x y hop
        obtain ⟨w', c', g1, g2, rfl⟩ := eff_store hT h.hr h.ro h.base hop (hρ x (by rw [hop]; simp [Op.operands])) (hρ y (by rw [hop]; simp [Op.operands])) hev
        unfold Oper.wp
        rw [g1]
        exact hK _ _ _ _ (h.eff g2 hkeep hd (.tree (.top _))) hk
      · rename_i t x y z hop
        obtain ⟨w', c', g1, g2, rfl⟩ := eff_mapUpdate hT h.hr h.ro (.inl hop) (hρ x (by rw [hop]; simp [Op.operands])) (hρ y (by rw [hop]; simp [Op.operands])) (hρ z (by rw [hop]; simp [Op.operands])) hev
        unfold Oper.wp
        rw [g1]
        exact hK _ _ _ _ (h.eff g2 hkeep hd (.tree (.top _))) hk
      · rename_i t x y z hop
        obtain ⟨w', c', g1, g2, rfl⟩ := eff_mapUpdate hT h.hr h.ro (.inr hop) (hρ x (by rw [hop]; simp [Op.operands])) (hρ y (by rw [hop]; simp [Op.operands])) (hρ z (by rw [hop]; simp [Op.operands])) hev
        unfold Oper.wp
        rw [g1]
        exact hK _ _ _ _ (h.eff g2 hkeep hd (.tree (.top _))) hk
      · rename_i x y hop
        exfalso
        unfold opEv at hev
        rw [hop] at hev
        simp only [Bool.cond_eq_ite] at hev
        (repeat' split at hev) <;> exact hev
      · rename_i args ts hop
        obtain ⟨u, w', c', g1, g2, g3⟩ := eff_clear hT h.hr h.ro h.base hop (fun x hx => hρ x (by rw [hop]; simp [Op.operands, Call.operands, hx])) hev
        unfold Oper.wp
        rw [g1]
        exact hK _ _ _ _ (h.eff g2 hkeep hd g3) hk
      · rename_i args ts hop
        obtain ⟨u, w', c', g1, g2, g3⟩ := append_eff hT h.hr h.ro h.base hop (fun x hx => hρ x (by rw [hop]; simp [Op.operands, Call.operands, hx])) (by unfold isEff; rw [hop]; exact he) hev
        unfold Oper.wp
        rw [g1]
        exact hK _ _ _ _ (h.eff g2 hkeep hd g3) hk
      · cases he
  unfold opW at hw
  split at hw
  · exact hw.elim
  · rename_i v h' hev
    exact done v h' (by rw [hev]; exact ⟨rfl, rfl⟩) hw
  · rename_i p v h' hev
    exact done v h' (by rw [hev]; exact ⟨hw.1, rfl, rfl⟩) hw.2
  · rename_i h0 b k g fl hev
    obtain ⟨G', hG, hw⟩ := hw
    exact done _ _ (by rw [hev]; exact ⟨G', hG, rfl, rfl⟩) hw
  · rename_i p _ v h' p' _ v' h'' hev
    rcases hw with ⟨hp0, hw⟩ | ⟨hp0, hw⟩
    · exact done v h' (by rw [hev]; exact .inl ⟨hp0, rfl, rfl⟩) hw
    · exact done v' h'' (by rw [hev]; exact .inr ⟨hp0, rfl, rfl⟩) hw
  · rename_i b m key x bs hev
    split at hw
    case h_2 => exact hw.elim
    obtain ⟨g0, g1, g2, g3, g4, t, kt, et, q', u, g5, g6, g7, g8, g9⟩ := insF_real hT h.hr hρ hev
    have hq := qout_shared h.hr (Below.refl _ w) (bs := bs) (ms := []) g4 (fun i hi => by cases hi)
    have h1 := h.quiet hq ⟨rfl, rfl⟩ (d := none) rfl (v := .top) (u := undef) (.tree (.top _))
    obtain ⟨w', m1, m2⟩ := map_write h1.hr h1.ro g5 g6 (b := b) (m := m) (by show (roM [] 0 s.hp.maps)[b]? = some m; rw [roM_nil]; exact g0) g7 g1 g2 g3 (g8.weaken fun b hb => .inl hb) rfl
    refine wp_in hnd ?_
    unfold Oper.wp
    rw [g9 w' m1]
    refine hK _ _ _ _ (h1.eff m2 ⟨rfl, rfl⟩ hd (.tree (.top _))) ?_
    have hm : (roHp s.hp bs []).maps = s.hp.maps := roM_nil _ _
    show K (St.put { s with hp := { roHp s.hp bs [] with maps := setNth (roHp s.hp bs []).maps b _ } } o.dst .top)
    rw [hm]
    exact hw
  · rename_i p _ v bs ms hev
    split at hw
    case h_2 => exact hw.elim
    obtain ⟨u, g1, g2, g3, g4⟩ := share_real hT h.hr hρ hev hw.1
    refine wp_in hnd ?_
    unfold Oper.wp
    rw [g1]
    exact hK _ _ _ _ (h.quiet (qout_shared h.hr (Below.refl _ w) g3 g4) ⟨rfl, rfl⟩ hd (.tree (g2.weaken fun b hb => .inl hb))) hw.2
  · rename_i ms ki et has get hev
    split at hw
    case h_2 => exact hw.elim
    obtain ⟨q', es, clock, g1, g2, g3, g4, g5⟩ := range_real hT h.hr hρ hev
    have hq := qout_shared h.hr (Below.refl _ w) (bs := []) (ms := ms) (fun i hi => by cases hi) g5
    have h1 := h.quiet hq ⟨rfl, rfl⟩ (d := none) rfl (v := .top) (u := undef) (.tree (.top _))
    have hl : (roHp s.hp [] ms).maps.length = s.hp.maps.length := roM_length _ _ _
    have hb : (roHp s.hp [] ms).blocks = s.hp.blocks := roB_nil _ _
    have hq2 := qout_map h1.hr h1.base (m := { ki, et, has, get, it := some fun _ => false, left := es.toList.length }) (o := .mapIter (some q') clock #[] clock) (by
      cases hN : ({ c with p := fun b => qOf c ([], ms) b ∨ (w.heap.size ≤ b ∧ b < w.heap.size) } : Cx).N (roHp s.hp [] ms).maps.length with
      | none => exact hN
      | some r => have := h1.hiM _ r hN; exact absurd this (Nat.lt_irrefl _)) (fun ex => iter_new (c := { c with p := fun b => qOf c ([], ms) b ∨ (w.heap.size ≤ b ∧ b < w.heap.size) }) g2 (Or.inl g3) (g4.mono (fun b hb => Or.inl hb) fun _ _ => rfl) ex)
    refine wp_in hnd ?_
    unfold Oper.wp
    rw [g1]
    refine hK _ _ _ _ (h1.quiet hq2 ⟨rfl, rfl⟩ hd (v := .oiter (roHp s.hp [] ms).maps.length) (.oiter _ _ (by simp [Cx.addN, St.put]))) ?_
    have hk := hw es.toList.length
    show K (St.put { s with hp := { roHp s.hp [] ms with maps := (roHp s.hp [] ms).maps ++ _ } } o.dst _)
    rw [hl]
    have e : ({ roHp s.hp [] ms with maps := (roHp s.hp [] ms).maps ++ [{ ki, et, has, get, it := some fun _ => false, left := es.toList.length }] } : Hp) = { s.hp with maps := roM ms 0 s.hp.maps ++ [{ ki, et, has, get, it := some fun _ => false, left := es.toList.length }] } := by
      unfold roHp
      rw [roB_nil]
    rw [e]
    exact hk
  · rename_i b m seen hev
    split at hw
    case h_2 => exact hw.elim
    obtain ⟨g0, g1, g2, q', hN, hcase⟩ := next_real h.hr hρ hev
    rcases hcase with ⟨ho, hrun⟩ | ⟨e, w1, n, obj, hw1, k1, k2, k3, k4, k5, hrun, hMR⟩
    · refine wp_in hnd ?_
      unfold Oper.wp
      rw [hrun]
      refine hK _ _ _ _ (h.put hd (.tree (.tuple _ _ rfl fun i y hy => ?_))) (hw.1 ho)
      match i with
      | 0 => simp at hy; subst hy; exact .val _
      | i + 1 => simp at hy
    · obtain ⟨x, hx1, hx2⟩ := allKeys_at hw.2 k1
      have hk := hx1 k2 k3 n k4
      have h1 : SR P F w0 q s a w1 c := by
        rcases hw1 with rfl | rfl
        · exact h
        · exact h.drew
      have hh1 : w1.heap = w.heap := by rcases hw1 with rfl | rfl <;> rfl
      have hE := set_map h1.hr h1.ro g0 hN g1 (m' := m.step seen e.key x n) (by rw [AM.step_eq]; exact g1) (o := obj) (fun ex => hMR x (hx2 P w c.p) ex)
      refine wp_in hnd ?_
      unfold Oper.wp
      rw [hrun]
      refine hK _ _ _ _ (h1.eff hE ⟨rfl, rfl⟩ hd (v := .tuple [.val (.bool true), x, m.get e.key]) (.tree (.tuple _ _ rfl fun i y hy => ?_))) hk
      match i with
      | 0 => simp at hy; subst hy; exact .val _
      | 1 => simp at hy; subst hy; exact hx2 _ _ _
      | 2 => simp at hy; subst hy; exact k5.mono (fun _ h => h) fun b hb => by rw [hE.ext.pb b hb, hh1]
      | i + 3 => simp at hy
  · rename_i p _ b h' hev
    split at hw
    · obtain ⟨rfl, b', e2, e3⟩ := any_real hT (fun _ => rfl) hρ hev
      refine wp_in hnd ?_
      unfold Oper.wp
      rw [e3]
      exact hK _ _ _ _ (h.put hd (.tree (.val _))) (hw b' e2)
    · exact done _ h' (by rw [hev]; exact ⟨hw.1, rfl, rfl⟩) hw.2
  · rename_i g as bs ms hev
    split at hw
    case h_2 => exact hw.elim
    rename_i f args ts hop
    rcases hw with ⟨res, fr, hS, hk⟩ | hw | hw | hw
    · obtain ⟨vs, g1, g2⟩ := op_call h.hr h.gok h.base hop (hρ f (by rw [hop]; simp [Op.operands, Call.operands])) (fun x hx => hρ x (by rw [hop]; simp [Op.operands, Call.operands, hx])) hev (hE.S _ _ _ _ hS) (fun _ b hb _ => by
          cases hO : c.O b with
          | none => rfl
          | some oi => have := h.hi b oi hO; omega)
      refine wp_in hnd ?_
      unfold Oper.wp
      rw [g1]
      refine Calls.mono g2 ?_
      rintro e w' ⟨u, rfl, c', hres⟩
      cases fr with
      | true => exact hK _ _ _ _ (h.quiet hres.1 ⟨rfl, rfl⟩ hd hres.2) hk
      | false => exact hK _ _ _ _ (h.quiet hres.1 ⟨rfl, rfl⟩ hd hres.2) hk
    · obtain ⟨l, hw⟩ := hw
      obtain ⟨c, h⟩ := h.fzs l
      have hρ := fun x (_ : x ∈ o.op.operands) => eval_rel h.gok h.tm x
      split at hw
      case h_2 => exact hw.elim
      rename_i f2 as2 bs2 ms2 hev
      obtain ⟨ds, hd1, hd2, hd3⟩ := h.defers
      have hpush := h.push (ds := ds) (fun D hD => by obtain ⟨p1, p2, p3, _⟩ := hd3 D hD; exact ⟨p1, p2, p3⟩) (rc' := none) (j := (fzs l s).hp.jump) (fun i l rc hf => by cases hf)
      have hfr := hρ f (by rw [hop]; simp [Op.operands, Call.operands])
      have hin := fun X G rc w0' q' w' c' vs h1 h2 => (hE.I _ _ _ _ _ _ hw X G rc w0' q' w' c' vs h1 h2 (noY_ok _ _ _ _ _)).1
      obtain ⟨vs0, _, a1, a2⟩ : ∃ vs0 : Array Value, True ∧ vs0.size = (rawArgs o (fzs l s).eval).length ∧ ∀ (i : Nat) x, (rawArgs o (fzs l s).eval)[i]? = some x → VR P w c x (vs0.getD i undef) := by
        obtain ⟨vs0, a1, a2⟩ := raw_args hop hfr (fun x hx => hρ x (by rw [hop]; simp [Op.operands, Call.operands, hx])) hev
        exact ⟨vs0, trivial, a1, a2⟩
      obtain ⟨vs, g1, g2, g3⟩ := op_raw (w := w) hop hfr (fun x hx => hρ x (by rw [hop]; simp [Op.operands, Call.operands, hx])) hev (hin _ _ _ _ _ _ _ _ hpush ⟨a1, a2⟩)
      obtain ⟨_, hcall⟩ := hE.I _ _ _ _ _ _ hw _ _ _ _ _ _ _ vs hpush ⟨g2, g3⟩ (noY_ok _ _ _ _ _)
      refine ⟨fun _ _ => trivial, ?_⟩
      rw [Oper.semAt_eq _ _ _ hnd, g1]
      refine ⟨(fun hdd => by cases hdd), CallsIn.mono hcall ?_⟩
      rintro e w' ⟨u, rfl, r, hp', sv', c', hs', hr, hk⟩
      have hback := h.back hd1 hd2 (fun D hD x hx => (hd3 D hD).2.2.2 x hx) hs'
      exact hK _ _ _ _ (hback.put hd hr) hk
    · obtain ⟨G, hw⟩ := hw
      split at hw
      case h_2 => exact hw.elim
      rename_i b ver off len cp rest hraw
      split at hw
      case h_2 => exact hw.elim
      rename_i k hkb
      obtain ⟨hfl, hlen, hle, hM, hk⟩ := hw
      rw [Bool.and_eq_true, Bool.and_eq_true] at hfl
      obtain ⟨⟨hfl, hro⟩, hrest⟩ := hfl
      have hro : k.ro = false := by simpa using hro
      obtain ⟨hen, hS⟩ := hE.M _ _ _ _ _ _ hM
      obtain ⟨vs, g1, g2, g3⟩ := op_raw (w := w) hop (hρ f (by rw [hop]; simp [Op.operands, Call.operands])) (fun x hx => hρ x (by rw [hop]; simp [Op.operands, Call.operands, hx])) hev hen
      rw [hraw] at g2 g3
      obtain ⟨hkb, hkv⟩ := block_some hkb
      obtain ⟨oi, hO, _, _, hv⟩ := (g3 0 _ rfl).oslice_inv
      have hB := h.hr.blk b k oi hkb hO
      obtain ⟨hln, aa, k1, hu, q1, q2, q3, q4, _⟩ := hv (by rw [hB.ver, hkv])
      have hk1 : k1 ≠ 0 := by omega
      have hcap : oi.cap ≠ 0 := by omega
      obtain ⟨cs, t, hrow, hsz, hone⟩ := hB.row hcap
      have hnp : ¬ c.p oi.blk := fun hp => by
        obtain ⟨k2, g4, g5⟩ := h.ro.b b oi hO hcap hp
        rw [hkb] at g4; cases g4
        rw [hro] at g5; cases g5
      have hvs : vs = #[.slice (some ⟨oi.blk, oi.lo + off * oi.es, none⟩) len k1] ++ vs.extract 1 vs.size := by
        apply Array.ext
        · simp at g2 ⊢; omega
        · intro i h1 h2
          cases i with
          | zero =>
            have := hu
            rw [q4 hk1] at this
            simp [h1] at this
            simp [this]
          | succ i => simp; congr 1; omega
      have hes := hB.es
      have hmul : ∀ i, i < len → (off + i) * oi.es + oi.es ≤ (off + len) * oi.es := fun i hi => by
        have := Nat.mul_le_mul_right oi.es (show off + i + 1 ≤ off + len by omega)
        rwa [Nat.add_mul (off + i), Nat.one_mul] at this
      have hmul2 : (off + len) * oi.es ≤ oi.cap * oi.es := Nat.mul_le_mul_right _ (by omega)
      have hcall := hS w c.p (vs.extract 1 vs.size) oi.blk (oi.lo + off * oi.es) k1 cs t h.hr.st h.gok hnp hrow
        (by rw [← hes, Nat.add_assoc, ← Nat.add_mul]; omega) hone q1 (fun i hi => by rw [shiftF_eq]; exact hB.el _ (by omega))
        (fun i j x hi hx => by
          rw [shiftF_eq] at hx
          have hj : j < oi.es := by rw [hes, ← hB.el (off + i) (by omega)]; exact (List.getElem?_eq_some_iff.1 hx).1
          have hm := hmul i hi
          rw [Nat.add_mul] at hm
          have hlt : oi.lo + ((off + i) * oi.es + j) < cs.size := by rw [Nat.add_mul]; omega
          have := (hB.rel (off + i) j x cs[oi.lo + ((off + i) * oi.es + j)] (by omega) hx (by simp [World.cell?, hrow, hlt])).2 hfl
          rw [← hes, show oi.lo + off * oi.es + (i * oi.es + j) = oi.lo + ((off + i) * oi.es + j) by rw [Nat.add_mul]; omega]
          simpa [hlt] using this)
        (by simp at g2 ⊢; omega)
        (fun i x hi => by
          have := g3 (i + 1) x (by simpa using hi)
          have hri : i < rest.length := (List.getElem?_eq_some_iff.1 hi).1
          have hvi : i + 1 < vs.size := by simp at g2; omega
          rw [show (vs.extract 1 vs.size).getD i undef = vs.getD (i + 1) undef by
            simp only [Array.getD_eq_getD_getElem?]
            rw [Array.getElem?_eq_getElem hvi, Array.getElem?_eq_getElem (by simp; omega)]
            simp [Nat.add_comm]]
          exact VR.toVT 4 (List.all_eq_true.1 hrest x (List.mem_of_getElem? hi)) this)
      rw [← hvs] at hcall
      refine wp_in hnd ?_
      unfold Oper.wp
      rw [g1]
      refine Calls.mono hcall ?_
      rintro e w' ⟨rfl, news, n1, n2, n3, n4, n5⟩
      have hE1 := write_seg h.hr h.ro h.base hkb hO hro hcap hrow (k' := k.wr (fun i => if i < off then k.f i else if i < off + len then G (i - off) else k.f i) k.flat) (at_ := off) (m := len) (fx := G) (fl := true) (news := news) (by rw [n1]) n2 n3
        (fun i j y hi hy => ⟨.tree (n4 i j y hi hy), fun _ => n4 i j y hi hy⟩) (by omega) rfl rfl rfl hro (fun i hi => rfl) (fun hf => by have hf : k.flat = true := hf; simp [hf])
      have h1 := h.eff hE1 ⟨rfl, rfl⟩ (d := none) rfl (v := .top) (u := undef) (.tree (.top _))
      have hq := qout_shared h1.hr (w' := w') (bs := []) (ms := []) (by rw [show ∀ cs', (w.setRow oi.blk cs').heap.size = w.heap.size from fun cs' => by simp [World.setRow]]; exact n5) (fun i hi => by cases hi) (fun i hi => by cases hi)
      refine hK _ _ _ _ (h1.quiet hq ⟨rfl, rfl⟩ hd (v := .tuple []) (.tree (.tuple _ _ rfl fun i y hy => by cases hy))) ?_
      have e2 : roHp (s.hp.setB b (k.wr (fun i => if i < off then k.f i else if i < off + len then G (i - off) else k.f i) k.flat)) [] [] = s.hp.setB b (k.wr (fun i => if i < off then k.f i else if i < off + len then G (i - off) else k.f i) k.flat) := by
        unfold roHp
        rw [roB_nil, roM_nil]
      show K (St.put { s with hp := roHp (s.hp.setB b _) [] [] } o.dst _)
      rw [e2]
      exact hk
    · obtain ⟨_, res, hS, hk⟩ := hw
      obtain ⟨vs, g1, g2⟩ := op_call h.hr h.gok h.base hop (hρ f (by rw [hop]; simp [Op.operands, Call.operands])) (fun x hx => hρ x (by rw [hop]; simp [Op.operands, Call.operands, hx])) hev (hE.S _ _ _ _ hS) (fun _ b hb _ => by
          cases hO : c.O b with
          | none => rfl
          | some oi => have := h.hi b oi hO; omega)
      refine wp_in hnd ?_
      unfold Oper.wp
      rw [g1]
      refine Calls.mono g2 ?_
      rintro e w' ⟨u, rfl, c', hres⟩
      have h1 := h.quiet hres.1 ⟨rfl, rfl⟩ (d := none) rfl (v := .top) (u := undef) (.tree (.top _))
      have hz := freeze_ok h1.hr 5 hres.2
      have hq := qout_shared h1.hr (Below.refl _ w') (bs := (refs { s.hp with blocks := s.hp.blocks ++ (adopt res s.hp.blocks.length).2 } 5 (adopt res s.hp.blocks.length).1).1) (ms := (refs { s.hp with blocks := s.hp.blocks ++ (adopt res s.hp.blocks.length).2 } 5 (adopt res s.hp.blocks.length).1).2) (refs_lt 5 _).1 (refs_lt 5 _).2
      exact hK _ _ _ _ (h1.quiet hq ⟨rfl, rfl⟩ hd (.tree (hz.weaken fun b hb => .inl hb))) hk
  · rename_i i as hev
    split at hw
    case h_2 => exact hw.elim
    rename_i f args ts hop
    rcases hE.Y with hY | ⟨hr0, hY⟩
    · rw [hY] at hw; exact hw.elim
    · have hfr := hρ f (by rw [hop]; simp [Op.operands, Call.operands])
      unfold opEv at hev
      rw [hop] at hev
      simp only at hev
      split at hev
      · cases hev
      · rename_i i' hf
        cases hev
        rw [hf] at hfr
        obtain ⟨l, hl, hv⟩ : ∃ l, c.y i = some l ∧ a.eval f = .func (.yield l) #[] #[] := by
          generalize a.eval f = u at hfr
          cases hfr with
          | tree ht => cases ht
          | yld _ l hy => exact ⟨l, hy, rfl⟩
        have hF : F = ⟨F.n, F.X, none, F.G, F.rc⟩ := by rw [← hr0]
        obtain ⟨fn, tmps, assign, body, y1, y2⟩ := hY _ _ _ _ _ hw a w c (args.map a.eval) l (hF ▸ h) ⟨by simp, fun k x hx => by
          rw [List.getElem?_map] at hx
          by_cases hk : k < args.size
          · have : args.toList[k]? = some args[k] := by simp [hk]
            rw [this] at hx
            simp only [Option.map_some, Option.some.injEq] at hx
            subst hx
            simpa [hk] using hρ args[k] (by rw [hop]; simp [Op.operands, Call.operands])
          · rw [List.getElem?_eq_none (by simp; omega)] at hx; cases hx⟩ hl
        refine ⟨fun _ _ => trivial, ?_⟩
        rw [Oper.semAt_eq _ _ _ hnd, op_yield hop hv, y1]
        refine ⟨(fun hdd => by cases hdd), RoundIn.mono y2 ?_⟩
        rintro e w' ⟨b, s', c', rfl, hs', hk⟩
        exact hK _ _ _ _ (SR.put (hF ▸ hs' : SR P F w0 q s' a w' c') hd (.tree (.val _))) hk
      · cases hev

theorem guard_known {F : Fr} {w0 w : World} {q : Nat → Prop} {s : St} {a : Act} {c : Cx} (h : SR P F w0 q s a w c) {ops : Array Oper} {o : Oper} {j : Nat} {want : Bool} (hg : o.guard = some (j, want)) {t : Tmp} (ht : (nth? ops.toList j).bind (·.dst) = some t) {b : Bool}
    (hl : look s.tm t = .val (.bool b)) : Region.wanted o (yielded ops a.tmps) = (b == want) := by
  rw [nth?_eq] at ht
  have ht' : (ops[j]?).bind (·.dst) = some t := by simpa using ht
  have hv := h.tm t
  rw [hl] at hv
  have hv := hv.val_inv
  have hs : a.tmps[t]? = some (.bool b) := by
    cases hq : a.tmps[t]? with
    | none => simp [hq, undef] at hv
    | some u => simp [hq] at hv; rw [hv]
  unfold Region.wanted
  rw [hg]
  simp [yielded, ht', hs]

theorem guard_undef {F : Fr} {w0 w : World} {q : Nat → Prop} {s : St} {a : Act} {c : Cx} (h : SR P F w0 q s a w c) {ops : Array Oper} {o : Oper} {j : Nat} {want : Bool} (hg : o.guard = some (j, want)) {t : Tmp} (ht : (nth? ops.toList j).bind (·.dst) = some t) {vs : Array Value}
    (hl : look s.tm t = .val (.tuple vs)) : Region.wanted o (yielded ops a.tmps) = false := by
  rw [nth?_eq] at ht
  have ht' : (ops[j]?).bind (·.dst) = some t := by simpa using ht
  have hv := h.tm t
  rw [hl] at hv
  have hv := hv.val_inv
  unfold Region.wanted
  rw [hg]
  simp only [yielded, ht', Option.bind_some]
  cases hq : a.tmps[t]? with
  | none => rfl
  | some u =>
    have : u = .tuple vs := by simpa [hq] using hv
    subst this
    rfl

theorem ops_ok (hT : TOK P T) {F : Fr} {w0 : World} {q : Nat → Prop} {ops : Array Oper} {E : Env} (hE : EnvOk P F w0 q E) {st : Nat → (Operand → AV) → Option Bool} {K : St → Prop} {Q : Exit → Act → World → Prop} (hK : ∀ s' a' w' c', SR P F w0 q s' a' w' c' → K s' → Q .normal a' w') :
    ∀ (l : List Oper) (i : Nat) (s : St) (a : Act) (w : World) (c : Cx), ops.toList.drop i = l → SR P F w0 q s a w c → opsW E T F.n st ops K i l s → wpOpsIn (FR F.r) 0 P ops Q (List.range' i l.length) a w
  | [], i, s, a, w, c, _, h, hw => by simp only [List.length_nil, List.range'_zero, wpOpsIn]; exact hK s a w c h hw
  | o :: r, i, s, a, w, c, hd, h, hw => by
    have ho : ops[i]? = some o := by
      have := List.getElem?_drop (xs := ops.toList) (i := i) (j := 0)
      rw [hd] at this
      simpa using this.symm
    have hd' : ops.toList.drop (i + 1) = r := by
      have : ops.toList.drop (i + 1) = (ops.toList.drop i).drop 1 := by rw [List.drop_drop]
      rw [this, hd]; rfl
    simp only [List.length_cons, List.range'_succ, wpOpsIn, ho]
    have go : ∀ s, SR P F w0 q s a w c → oneW E T F.n (st i) o s (opsW E T F.n st ops K (i + 1) r) → o.wpIn (FR F.r) 0 P a w (wpOpsIn (FR F.r) 0 P ops Q (List.range' (i + 1) r.length)) Q := fun s hs ho' =>
      one_ok hT hE hs ho' fun s' a' w' c' hs' hk => ops_ok hT hE hK r (i + 1) s' a' w' c' hd' hs' hk
    have sk : ∀ s, SR P F w0 q s a w c → opsW E T F.n st ops K (i + 1) r (s.put o.dst (.val undef)) → wpOpsIn (FR F.r) 0 P ops Q (List.range' (i + 1) r.length) (a.put o.dst undef) w := fun s hs ho' =>
      ops_ok hT hE hK r (i + 1) _ _ w c hd' (hs.skip o.dst) ho'
    unfold opsW at hw
    simp only [putF_eq] at hw
    split at hw
    · rename_i hg
      have : Region.wanted o (yielded ops a.tmps) = true := by unfold Region.wanted; rw [hg]
      rw [if_pos this]
      exact go s h hw
    · rename_i j want hg
      split at hw
      · exact hw.elim
      · rename_i t ht
        split at hw
        · rename_i b hl
          have hwd := guard_known h hg ht hl
          have hkn : SR P F w0 q (s.put (some t) (.val (.bool b))) a w c := h.known (by rw [← hl]; exact h.tm t)
          rw [hwd]
          cases b <;> cases want <;> simp only [ifB] at hw <;> simp
          · exact go _ hkn hw
          · exact ⟨fun _ _ => trivial, sk _ hkn hw⟩
          · exact ⟨fun _ _ => trivial, sk _ hkn hw⟩
          · exact go _ hkn hw
        · rename_i vs hl
          rw [guard_undef h hg ht hl]
          simp
          exact ⟨fun _ _ => trivial, sk s h hw⟩
        · exact hw.elim
end
end Go.Tr

/- States that say less; loops. Conditions: none. -/
namespace Go.Tr
open Go Go.RowKit

section
variable [GTab] {P : Program} {T : Nat → Option TI} {F : Fr} {w0 w : World} {q : Nat → Prop} {s s' : St} {a : Act} {c : Cx}

omit [GTab] in
theorem BLe_len : ∀ {l l' : List AB}, BLe l l' → l'.length = l.length
  | [], [], _ => rfl
  | [], _ :: _, h => h.elim
  | _ :: _, [], h => h.elim
  | _ :: _, _ :: _, h => by simp [BLe_len h.2]
section
variable {P : Program} {w : World}
omit [GTab] in
theorem AVE_ok {p : Nat → Prop} : ∀ (k : Nat) {x y : AV} {v : Value}, AVE k x y → VT P w p x v → VT P w p y v
  | 0, x, y, v, h, _ => h.elim
  | k + 1, x, y, v, h, hx => by
    have eqc : x = y → VT P w p y v := fun e => e ▸ hx
    cases x with
    | rslice es len f =>
      cases y with
      | rslice es' len' g =>
        obtain ⟨rfl, rfl, hf⟩ := h
        cases hx with
        | rslice0 => exact .rslice0 _ _ _ _
        | rslice _ _ _ b off kk gg h1 h2 h3 h4 h5 => exact .rslice _ _ _ b off kk gg h1 h2 (fun i hi => by rw [← hf i hi]; exact h3 i hi) h4 (fun i j y hi hy => h5 i j y hi (by rw [hf i hi]; exact hy))
      | _ => exact eqc h
    | eslice =>
      cases y with
      | rslice es' len' g =>
        have h : len' = 0 := h
        subst h
        cases hx with
        | eslice a => exact .rslice0 _ _ _ _
      | _ => exact eqc h
    | agg l =>
      cases y with
      | agg l' =>
        obtain ⟨hl, hc⟩ := h
        cases hx with
        | agg _ vs hs ho hr =>
                                   refine .agg _ vs (by rw [hs, hl]) ho (fun i y hy => ?_)
                                   have hlt : i < l.length := by rw [hl]; exact (List.getElem?_eq_some_iff.1 hy).1
                                   exact AVE_ok k (hc i _ y (by rw [nth?_eq]; exact List.getElem?_eq_getElem hlt) (by rw [nth?_eq]; exact hy)) (hr i _ (List.getElem?_eq_getElem hlt))
      | _ => exact eqc h
    | tuple l =>
      cases y with
      | tuple l' =>
        obtain ⟨hl, hc⟩ := h
        cases hx with
        | tuple _ vs hs hr =>
                                  refine .tuple _ vs (by rw [hs, hl]) (fun i y hy => ?_)
                                  have hlt : i < l.length := by rw [hl]; exact (List.getElem?_eq_some_iff.1 hy).1
                                  exact AVE_ok k (hc i _ y (by rw [nth?_eq]; exact List.getElem?_eq_getElem hlt) (by rw [nth?_eq]; exact hy)) (hr i _ (List.getElem?_eq_getElem hlt))
      | _ => exact eqc h
    | top => cases y <;> exact eqc h
    | val => cases y <;> exact eqc h
    | func => cases y <;> exact eqc h
    | rptr => cases y <;> exact eqc h
    | optr => cases y <;> exact eqc h
    | oslice => cases y <;> exact eqc h
    | omap => cases y <;> exact eqc h
    | yld => cases y <;> exact eqc h
    | oiter => cases y <;> exact eqc h
    | aslice => cases y <;> exact eqc h
    | cslice => cases y <;> exact eqc h
    | rmap => cases y <;> exact eqc h
end
theorem RowLe_ok {P : Program} {w : World} {p : Nat → Prop} {fl : Bool} {l l' : List AV} (h : l' = l ∨ RowLe fl l l') : l'.length = l.length ∧ ∀ (j : Nat) y, l'[j]? = some y → ∃ x, l[j]? = some x ∧ (y = x ∨ fl = true ∧ ∀ v, VT P w p x v → VT P w p y v) := by
  rcases h with rfl | ⟨h1, h2, h3⟩
  · exact ⟨rfl, fun j y hy => ⟨y, hy, .inl rfl⟩⟩
  · refine ⟨h2, fun j y hy => ?_⟩
    have hlt : j < l.length := by rw [← h2]; exact (List.getElem?_eq_some_iff.1 hy).1
    refine ⟨_, List.getElem?_eq_getElem hlt, ?_⟩
    rcases h3 j _ y (by rw [nth?_eq]; exact List.getElem?_eq_getElem hlt) (by rw [nth?_eq]; exact hy) with e | e
    · exact .inl e.symm
    · exact .inr ⟨h1, fun v hv => AVE_ok 5 e hv⟩
theorem AVW_ok {P : Program} {w : World} {c : Cx} {x y : AV} {v : Value} (h : AVW x y) (hx : VR P w c x v) : VR P w c y v := by
  cases x with
  | rmap ki et hs g =>
    cases y with
    | rmap ki' et' hs' g' =>
      obtain ⟨rfl, rfl, hk⟩ := h
      cases hx with
      | tree hx =>
        cases hx with
        | rmap _ _ _ _ r es clock hp hr hek hz hg =>
          have e1 : hs' = hs := funext fun k => (hk k).1
          subst e1
          have key : ∀ x v, VT P w c.p (g x) v → VT P w c.p (g' x) v := fun x v hv => by
            rcases (hk x).2 with e | e
            · rw [e]; exact hv
            · exact AVE_ok 5 e hv
          exact .tree (.rmap _ _ _ _ r es clock hp hr hek (fun k zv h1 h2 h3 => key _ _ (hz k zv h1 h2 h3)) fun e he => key _ _ (hg e he))
    | _ => exact h.elim
  | eslice =>
    cases y with
    | rslice es len f =>
      have h : len = 0 := h
      subst h
      cases hx with
      | tree hx => cases hx with | eslice a => exact .tree (.rslice0 _ _ _ _)
    | _ => exact h.elim
  | rslice es len f =>
    cases y with
    | rslice es' len' g =>
      obtain ⟨rfl, rfl, hf⟩ := h
      cases hx with
      | tree hx =>
        cases hx with
        | rslice0 => exact .tree (.rslice0 _ _ _ _)
        | rslice _ _ _ b off kk gg h1 h2 h3 h4 h5 =>
          refine .tree (.rslice _ _ _ b off kk gg h1 h2 (fun i hi => ?_) h4 (fun i j y hi hy => ?_))
          · rw [(RowLe_ok (w := w) (P := P) (p := c.p) (hf i hi)).1]; exact h3 i hi
          · obtain ⟨x, hx, hr⟩ := (RowLe_ok (w := w) (P := P) (p := c.p) (hf i hi)).2 j y hy
            rcases hr with rfl | ⟨_, hr⟩
            · exact h5 i j y hi hx
            · exact hr _ (h5 i j x hi hx)
    | _ => exact h.elim
  | _ => cases y <;> exact h.elim
theorem TLe_ok {P : Program} {w : World} {c : Cx} : ∀ {l l' : List (Nat × AV)}, TLe l l' → ∀ (t : Nat) {v : Value}, VR P w c (look l t) v → VR P w c (look l' t) v
  | [], [], _, t, v, h => h
  | [], _ :: _, h, _, _, _ => h.elim
  | _ :: _, [], h, _, _, _ => h.elim
  | (k, x) :: r, (k', x') :: r', h, t, v, hv => by
    obtain ⟨rfl, h2, h3⟩ := h
    unfold look at hv ⊢
    cases hb : Nat.beq k' t with
    | true =>
      rw [hb] at hv
      rcases h2 with e | e
      · rw [e]; exact hv
      · exact AVW_ok e hv
    | false => rw [hb] at hv; exact TLe_ok h3 t hv
omit [GTab] in
theorem BLe_get : ∀ {l l' : List AB} {i : Nat} {k' : AB}, BLe l l' → l'[i]? = some k' → ∃ k, l[i]? = some k ∧ k'.es = k.es ∧ k'.len = k.len ∧ k'.ver = k.ver ∧ k'.ro = k.ro ∧ (k'.flat = true → k.flat = true) ∧ ∀ i, i < k.len → k'.f i = k.f i ∨ RowLe k.flat (k.f i) (k'.f i)
  | [], [], _, _, _, h2 => by simp at h2
  | [], _ :: _, _, _, h, _ => h.elim
  | _ :: _, [], _, _, h, _ => h.elim
  | k :: l, k2 :: l', 0, k', h, h2 => by simp at h2; subst h2; exact ⟨k, rfl, h.1⟩
  | k :: l, k2 :: l', i + 1, k', h, h2 => by
    obtain ⟨x, hx, hr⟩ := BLe_get (l := l) (l' := l') (i := i) (k' := k') h.2 (by simpa using h2)
    exact ⟨x, by simpa using hx, hr⟩
omit [GTab] in
theorem BLe_get' : ∀ {l l' : List AB} {i : Nat} {k : AB}, BLe l l' → l[i]? = some k → ∃ k', l'[i]? = some k' ∧ k'.ro = k.ro
  | [], [], _, _, _, h2 => by simp at h2
  | [], _ :: _, _, _, h, _ => h.elim
  | _ :: _, [], _, _, h, _ => h.elim
  | k :: l, k2 :: l', 0, k', h, h2 => by simp at h2; subst h2; exact ⟨k2, rfl, h.1.2.2.2.1⟩
  | k :: l, k2 :: l', i + 1, k', h, h2 => by
    obtain ⟨x, hx, hr⟩ := BLe_get' (l := l) (l' := l') (i := i) (k := k') h.2 (by simpa using h2)
    exact ⟨x, by simpa using hx, hr⟩
omit [GTab] in
theorem MLe_len : ∀ {l l' : List AM}, MLe l l' → l'.length = l.length
  | [], [], _ => rfl
  | [], _ :: _, h => h.elim
  | _ :: _, [], h => h.elim
  | _ :: _, _ :: _, h => by simp [MLe_len h.2]
omit [GTab] in
theorem MLe_get : ∀ {l l' : List AM} {i : Nat} {k' : AM}, MLe l l' → l'[i]? = some k' → ∃ k, l[i]? = some k ∧ k'.ro = k.ro ∧ k'.ki = k.ki ∧ k'.et = k.et ∧ ItLe k.it k.left k'.it k'.left ∧ (k'.cur = k.cur ∨ k'.cur = .top) ∧ ∀ x, k'.has x = k.has x ∧ (k'.get x = k.get x ∨ AVE 5 (k.get x) (k'.get x))
  | [], [], _, _, _, h2 => by simp at h2
  | [], _ :: _, _, _, h, _ => h.elim
  | _ :: _, [], _, _, h, _ => h.elim
  | k :: l, k2 :: l', 0, k', h, h2 => by simp at h2; subst h2; exact ⟨k, rfl, h.1⟩
  | k :: l, k2 :: l', i + 1, k', h, h2 => by
    obtain ⟨x, hx, hr⟩ := MLe_get (l := l) (l' := l') (i := i) (k' := k') h.2 (by simpa using h2)
    exact ⟨x, by simpa using hx, hr⟩
omit [GTab] in
theorem MLe_get' : ∀ {l l' : List AM} {i : Nat} {k : AM}, MLe l l' → l[i]? = some k → ∃ k', l'[i]? = some k' ∧ k'.ro = k.ro
  | [], [], _, _, _, h2 => by simp at h2
  | [], _ :: _, _, _, h, _ => h.elim
  | _ :: _, [], _, _, h, _ => h.elim
  | k :: l, k2 :: l', 0, k', h, h2 => by simp at h2; subst h2; exact ⟨k2, rfl, h.1.1⟩
  | k :: l, k2 :: l', i + 1, k', h, h2 => by
    obtain ⟨x, hx, hr⟩ := MLe_get' (l := l) (l' := l') (i := i) (k := k') h.2 (by simpa using h2)
    exact ⟨x, by simpa using hx, hr⟩

theorem SR.weak (h : SR P F w0 q s a w c) (hw : Weak s s') : SR P F w0 q s' a w c where
  hr := by
    refine ⟨fun b k' oi hk hO => ?_, h.hr.sep, h.hr.own, h.hr.st, fun b m' r hm hN => ?_, h.hr.mown, h.hr.msep, h.hr.bm⟩
    · obtain ⟨k, hk0, e1, e2, e3, e4, e5, e6⟩ := BLe_get hw.blocks hk
      have hB := h.hr.blk b k oi hk0 hO
      exact ⟨by rw [hB.n, e2], by rw [hB.es, e1], by rw [hB.ver, e3], hB.le, hB.row, fun i hi => by rw [e2] at hi; rw [(RowLe_ok (P := P) (w := w) (p := c.p) (e6 i hi)).1, e1]; exact hB.el i hi, fun i j x v hi hx hv => by
        rw [e2] at hi
        obtain ⟨y, hy, hxy⟩ := (RowLe_ok (P := P) (w := w) (p := c.p) (e6 i hi)).2 j x hx
        obtain ⟨g1, g2⟩ := hB.rel i j y v hi hy hv
        rcases hxy with rfl | ⟨hfl, hxy⟩
        · exact ⟨g1, fun hf => g2 (e5 hf)⟩
        · exact ⟨.tree (hxy v (g2 hfl)), fun _ => hxy v (g2 hfl)⟩⟩
    · obtain ⟨m, hm0, e1, e2, e3, e5, e6, e4⟩ := MLe_get hw.maps hm
      have hMR := h.hr.maps b m r hm0 hN
      have hmap : ∀ {es clock}, MapR P w c.p m.ki m.et m.has m.get es clock → MapR P w c.p m'.ki m'.et m'.has m'.get es clock := fun {es clock} g => by
        rw [e2, e3, show m'.has = m.has from funext fun k => (e4 k).1]
        have key : ∀ x v, VT P w c.p (m.get x) v → VT P w c.p (m'.get x) v := fun x v hv => by
          rcases (e4 x).2 with e | e
          · rw [e]; exact hv
          · exact AVE_ok 5 e hv
        exact ⟨g.ek, fun k zv h1 h2 h3 => key _ _ (g.zero k zv h1 h2 h3), fun e he => key _ _ (g.get e he)⟩
      refine ⟨fun hi => ?_, fun seen' hs => ?_⟩
      · have : m.it = none := by
          cases hmi : m.it with
          | none => rfl
          | some _ => rw [hmi, hi] at e5; exact e5.elim
        obtain ⟨es, clock, g1, g2⟩ := hMR.ex this
        exact ⟨es, clock, g1, hmap g2⟩
      · cases hmi : m.it with
        | none => rw [hmi, hs] at e5; exact e5.elim
        | some seen =>
          rw [hmi, hs] at e5
          obtain ⟨e7, e8⟩ := e5
          obtain ⟨q', es, clock, since, sn, last, g1, g2, g3, g4, g5, g6, g7, g8, g9⟩ := (hMR.it seen hmi).ex
          refine ⟨q', es, clock, since, sn, last, g1, g2, g3, hmap g4, g5, g6, fun e he => by rw [e8]; exact g7 e he, by rw [← e7]; exact g8, ?_⟩
          rcases e6 with e6 | e6
          · rw [e6]; exact g9
          · exact .inl e6
  ro := ⟨fun b oi hO hc hp => by obtain ⟨k, hk, hr⟩ := h.ro.b b oi hO hc hp; obtain ⟨k', g1, g2⟩ := BLe_get' hw.blocks hk; exact ⟨k', g1, by rw [g2, hr]⟩,
    fun b r hN hp => by obtain ⟨k, hk, hr⟩ := h.ro.m b r hN hp; obtain ⟨k', g1, g2⟩ := MLe_get' hw.maps hk; exact ⟨k', g1, by rw [g2, hr]⟩⟩
  tm := fun t => by
    rcases hw.tm.1 with e | e
    · rw [e]; exact h.tm t
    · exact TLe_ok e t (h.tm t)
  sv := fun t => by rw [hw.tm.2.1]; exact h.sv t
  hy := fun i l hl => by rw [hw.tm.2.2.2]; exact h.hy i l hl
  keep := h.keep
  rcd := fun i l rc hrc => by rw [hw.tm.2.2.1]; exact h.rcd i l rc hrc
  hi := fun b oi hb => by rw [BLe_len hw.blocks]; exact h.hi b oi hb
  hiM := fun b r hb => by rw [MLe_len hw.maps]; exact h.hiM b r hb
  size := h.size
  defers := h.defers
  below := h.below
  pq := h.pq
  gok := h.gok

/-- What is known under forgotten versions. -/
def canonCx (c : Cx) (nb nm ny : Nat) : Cx :=
  { p := c.p, O := fun b => if b < nb then (match c.O b with | some oi => some { oi with ver := 0 } | none => none) else none, N := fun b => if b < nm then c.N b else none, y := fun i => if i < ny then c.y i else none }

omit [GTab] in
theorem canonAV_ok {base : Nat} {hp : Hp} (h : HR P base w c hp) (nb nm ny : Nat) : ∀ (k : Nat) {x : AV} {v : Value}, VR P w c x v → VR P w (canonCx c nb nm ny) (canonAV hp nb nm ny k x) v
  | 0, x, v, _ => by simp only [canonAV]; exact .tree (.top v)
  | k + 1, x, v, hx => by
    have list : ∀ (l : List AV) (vs : Array Value), (∀ i x, l[i]? = some x → VR P w c x (vs.getD i undef)) → ∀ i x, (l.map (canonAV hp nb nm ny k))[i]? = some x → VR P w (canonCx c nb nm ny) x (vs.getD i undef) := by
      intro l vs hr i x hi
      rw [List.getElem?_map] at hi
      cases hl : l[i]? with
      | none => rw [hl] at hi; cases hi
      | some y =>
        rw [hl] at hi
        simp only [Option.map_some, Option.some.injEq] at hi
        subst hi
        exact canonAV_ok h nb nm ny k (hr i y hl)
    cases x with
    | top => simp only [canonAV]; exact .tree (.top v)
    | val u => simp only [canonAV]; cases hx with | tree hx => exact .tree hx
    | eslice => simp only [canonAV]; cases hx with | tree hx => exact .tree hx
    | rslice es len f => simp only [canonAV]; cases hx with | tree hx => exact .tree hx
    | cslice es len cc f => simp only [canonAV]; cases hx with | tree hx => exact .tree hx
    | rptr l => simp only [canonAV]; cases hx with | tree hx => exact .tree hx
    | rmap ki et has get => simp only [canonAV]; cases hx with | tree hx => exact .tree hx
    | agg l =>
      obtain ⟨vs, rfl, hs, ho, hr⟩ := hx.agg_inv
      simp only [canonAV]
      exact .agg _ vs (by simp [hs]) ho (list l vs hr)
    | tuple l =>
      obtain ⟨vs, rfl, hs, hr⟩ := hx.tuple_inv
      simp only [canonAV]
      exact .tuple _ vs (by simp [hs]) (list l vs hr)
    | func fn nf l =>
      obtain ⟨f0, vs, rfl, h0, hs, hr⟩ := hx.func_inv
      simp only [canonAV]
      exact .func fn nf _ f0 vs h0 (by rw [hs]; simp) (list l (f0 ++ vs) hr)
    | yld i =>
      simp only [canonAV]
      cases hb : Nat.blt i ny with
      | false => exact .tree (.top _)
      | true =>
        cases hx with
        | tree hx => cases hx
        | yld _ l hl => exact .yld i l (by simp only [canonCx]; rw [if_pos (show i < ny from Nat.le_of_ble_eq_true hb)]; exact hl)
    | omap b =>
      obtain ⟨r, rfl, hN⟩ := hx.omap_inv
      simp only [canonAV]
      cases hb : Nat.blt b nm with
      | false => exact .tree (.top _)
      | true => exact .omap b r (by simp only [canonCx]; rw [if_pos (show b < nm from Nat.le_of_ble_eq_true hb)]; exact hN)
    | oiter b =>
      obtain ⟨r, rfl, hN⟩ := hx.oiter_inv
      simp only [canonAV]
      cases hb : Nat.blt b nm with
      | false => exact .tree (.top _)
      | true => exact .oiter b r (by simp only [canonCx]; rw [if_pos (show b < nm from Nat.le_of_ble_eq_true hb)]; exact hN)
    | aslice b ver idx sub es len =>
      simp only [canonAV]
      cases hb : Nat.blt b nb with
      | false => exact .tree (.top _)
      | true =>
        simp only [cond_true]
        split
        · rename_i kk hk
          obtain ⟨hkb, hkv⟩ := block_some hk
          obtain ⟨oi, hO, hle, h1, hv'⟩ := hx.aslice_inv
          have hB := h.blk b kk oi hkb hO
          exact .aslice _ _ _ _ _ _ _ { oi with ver := 0 } (by simp only [canonCx]; rw [if_pos (show b < nb from Nat.le_of_ble_eq_true hb), hO]) (Nat.le_refl _) h1 fun _ => hv' (by rw [hB.ver, hkv])
        · exact .tree (.top _)
    | optr b ver idx sub =>
      simp only [canonAV]
      cases hb : Nat.blt b nb with
      | false => exact .tree (.top _)
      | true =>
        simp only [cond_true]
        split
        · rename_i kk hk
          obtain ⟨hkb, hkv⟩ := block_some hk
          obtain ⟨oi, hO, hle, h1, hv'⟩ := hx.optr_inv
          have hB := h.blk b kk oi hkb hO
          exact .optr _ _ _ _ _ { oi with ver := 0 } (by simp only [canonCx]; rw [if_pos (show b < nb from Nat.le_of_ble_eq_true hb), hO]) (Nat.le_refl _) h1 fun _ => hv' (by rw [hB.ver, hkv])
        · exact .tree (.top _)
    | oslice b ver off len cap =>
      simp only [canonAV]
      cases hb : Nat.blt b nb with
      | false => exact .tree (.top _)
      | true =>
        simp only [cond_true]
        split
        · rename_i kk hk
          obtain ⟨hkb, hkv⟩ := block_some hk
          obtain ⟨oi, hO, hle, h1, hv'⟩ := hx.oslice_inv
          have hB := h.blk b kk oi hkb hO
          exact .oslice _ _ _ _ _ _ { oi with ver := 0 } (by simp only [canonCx]; rw [if_pos (show b < nb from Nat.le_of_ble_eq_true hb), hO]) (Nat.le_refl _) h1 fun _ => hv' (by rw [hB.ver, hkv])
        · exact .tree (.top _)

omit [GTab] in
theorem look_keep (f : Nat → AV) : ∀ (keep : List Nat) (t : Nat), look (keep.map fun t => (t, f t)) t = f t ∨ look (keep.map fun t => (t, f t)) t = .top
  | [], t => .inr rfl
  | k :: r, t => by
    simp only [List.map_cons, look]
    cases hb : Nat.beq k t with
    | true => have := Nat.eq_of_beq_eq_true hb; subst this; exact .inl rfl
    | false => exact look_keep f r t

omit [GTab] in
theorem look_map (f : AV → AV) : ∀ (l : List (Nat × AV)) (t : Nat), look (l.map fun p => (p.1, f p.2)) t = f (look l t) ∨ look (l.map fun p => (p.1, f p.2)) t = .top
  | [], t => .inr rfl
  | (k, x) :: r, t => by
    simp only [List.map_cons, look]
    cases hb : Nat.beq k t with
    | true => exact .inl rfl
    | false => exact look_map f r t

theorem SR.canon (h : SR P F w0 q s a w c) (keep : List Nat) (nb nm ny : Nat) (h1 : ∀ i l rc, F.rc = some (i, l, rc) → i < ny) (h2 : ∀ x ∈ F.G, ∀ i, x.2.2 = some i → i < ny) : SR P F w0 q (canon keep nb nm ny s) a w (canonCx c nb nm ny) := by
  have hcO : ∀ b oi', (canonCx c nb nm ny).O b = some oi' → b < nb ∧ ∃ oi, c.O b = some oi ∧ oi' = { oi with ver := 0 } := fun b oi' hb => by
    simp only [canonCx] at hb
    split at hb
    · rename_i hlt
      split at hb
      · rename_i oi hO; exact ⟨hlt, oi, hO, (Option.some.inj hb).symm⟩
      · cases hb
    · cases hb
  have hcN : ∀ b r, (canonCx c nb nm ny).N b = some r → b < nm ∧ c.N b = some r := fun b r hb => by
    simp only [canonCx] at hb
    split at hb
    · rename_i hlt; exact ⟨hlt, hb⟩
    · cases hb
  have hcy : ∀ i l, (canonCx c nb nm ny).y i = some l → i < ny ∧ c.y i = some l := fun b r hb => by
    simp only [canonCx] at hb
    split at hb
    · rename_i hlt; exact ⟨hlt, hb⟩
    · cases hb
  have hyc : ∀ i l, i < ny → c.y i = some l → (canonCx c nb nm ny).y i = some l := fun i l hi hl => by simp only [canonCx]; rw [if_pos hi]; exact hl
  refine ⟨⟨⟨fun b k' oi' hk hO => ?_, fun b b' o1 o2 h1 h2 hne => ?_, fun b oi' hO hc => ?_, h.hr.st, fun b m r hm hN => ?_, fun b r hN => ?_, fun b b' r h1 h2 => ?_, fun b i oi' r hO hc hN => ?_⟩, ⟨fun b oi' hO hc hp => ?_, fun b r hN hp => ?_⟩, fun b oi' hb => ?_, fun b r hb => ?_,
    fun i l hl => (hcy i l hl).1, h.below, h.pq, fun t => ?_, fun x hx => ?_, fun i l rc hrc => ?_, h.gok⟩, fun t => ?_, h.size, h.defers⟩
  · obtain ⟨hlt, oi, hO', rfl⟩ := hcO b oi' hO
    simp only [Tr.canon, List.getElem?_map, List.getElem?_take, if_pos hlt] at hk
    cases hk0 : s.hp.blocks[b]? with
    | none => rw [hk0] at hk; cases hk
    | some k =>
      rw [hk0] at hk
      simp only [Option.map_some, Option.some.injEq] at hk
      subst hk
      have hB := h.hr.blk b k oi hk0 hO'
      unfold canonB
      cases hf : k.flat with
      | true =>
        simp only [cond_true]
        refine ⟨hB.n, hB.es, rfl, hB.le, hB.row, hB.el, fun i j x v hi hx hv => ?_⟩
        have := (hB.rel i j x v hi hx hv).2 hf
        exact ⟨.tree this, fun _ => this⟩
      | false =>
        simp only [cond_false]
        refine ⟨hB.n, hB.es, rfl, hB.le, hB.row, fun i hi => by simpa using hB.el i hi, fun i j x v hi hx hv => ?_⟩
        rw [List.getElem?_map] at hx
        cases hy : (k.f i)[j]? with
        | none => rw [hy] at hx; cases hx
        | some y =>
          rw [hy] at hx
          simp only [Option.map_some, Option.some.injEq] at hx
          subst hx
          exact ⟨canonAV_ok h.hr nb nm ny 5 (hB.rel i j y v hi hy hv).1, fun hff => by cases hff⟩
  · obtain ⟨_, o1', g1, rfl⟩ := hcO b o1 h1
    obtain ⟨_, o2', g2, rfl⟩ := hcO b' o2 h2
    exact h.hr.sep b b' o1' o2' g1 g2 hne
  · obtain ⟨_, oi, g, rfl⟩ := hcO b oi' hO
    exact h.hr.own b oi g hc
  · obtain ⟨hlt, hN'⟩ := hcN b r hN
    simp only [Tr.canon, List.getElem?_take, if_pos hlt] at hm
    exact ⟨(h.hr.maps b m r hm hN').ex, fun seen hs => ⟨((h.hr.maps b m r hm hN').it seen hs).ex⟩⟩
  · exact h.hr.mown b r (hcN b r hN).2
  · exact h.hr.msep b b' r (hcN b r h1).2 (hcN b' r h2).2
  · obtain ⟨_, oi, g, rfl⟩ := hcO b oi' hO
    exact h.hr.bm b i oi r g hc (hcN i r hN).2
  · obtain ⟨hlt, oi, g, rfl⟩ := hcO b oi' hO
    obtain ⟨k, hk, hr⟩ := h.ro.b b oi g hc hp
    refine ⟨_, by simp only [Tr.canon, List.getElem?_map, List.getElem?_take, if_pos hlt, hk]; rfl, ?_⟩
    unfold canonB
    cases k.flat <;> exact hr
  · obtain ⟨hlt, g⟩ := hcN b r hN
    obtain ⟨k, hk, hr⟩ := h.ro.m b r g hp
    exact ⟨k, by simp only [Tr.canon, List.getElem?_take, if_pos hlt, hk], hr⟩
  · obtain ⟨hlt, oi, g, rfl⟩ := hcO b oi' hb
    have := h.hi b oi g
    simp [Tr.canon]; omega
  · obtain ⟨hlt, g⟩ := hcN b r hb
    have := h.hiM b r g
    simp [Tr.canon]; omega
  · show VR P w (canonCx c nb nm ny) (look (s.sv.map fun p => (p.1, canonAV s.hp nb nm ny 5 p.2)) t) _
    rcases look_map (canonAV s.hp nb nm ny 5) s.sv t with g | g
    · rw [g]; exact canonAV_ok h.hr nb nm ny 5 (h.sv t)
    · rw [g]; exact .tree (.top _)
  · obtain ⟨g1, g2, g3, g4⟩ := h.keep x hx
    exact ⟨g1, g2, g3, fun i hi => hyc i _ (h2 x hx i hi) (g4 i hi)⟩
  · obtain ⟨g1, g2, g3, g4⟩ := h.rcd i l rc hrc
    exact ⟨hyc i l (h1 i l rc hrc) g1, g2, g3, g4⟩
  · rcases look_keep (fun t => canonAV s.hp nb nm ny 5 (look s.tm t)) keep t with g | g
    · show VR P w (canonCx c nb nm ny) (look (keep.map fun t => (t, canonAV s.hp nb nm ny 5 (look s.tm t))) t) _
      rw [g]; exact canonAV_ok h.hr nb nm ny 5 (h.tm t)
    · show VR P w (canonCx c nb nm ny) (look (keep.map fun t => (t, canonAV s.hp nb nm ny 5 (look s.tm t))) t) _
      rw [g]; exact .tree (.top _)

/-- A block described anew. -/
theorem SR.redescribe (h : SR P F w0 q s a w c) {b : Nat} {k k' : AB} (hk : s.hp.blocks[b]? = some k) (hro : k'.ro = k.ro) (hB : ∀ oi, c.O b = some oi → BR P w c k' oi) : SR P F w0 q { s with hp := s.hp.setB b k' } a w c := by
  refine ⟨⟨⟨fun b2 k2 oi hk2 hO => ?_, h.hr.sep, h.hr.own, h.hr.st, h.hr.maps, h.hr.mown, h.hr.msep, h.hr.bm⟩, ⟨fun b2 oi hO hc hp => ?_, h.ro.m⟩, fun b2 oi hb => by have := h.hi b2 oi hb; simp [Hp.setB, setNth_eq]; exact this, h.hiM, h.hy, h.below, h.pq, h.sv, h.keep, h.rcd, h.gok⟩, h.tm, h.size, h.defers⟩
  · rcases set_get hk2 with ⟨rfl, rfl⟩ | ⟨_, hk2'⟩
    · exact hB oi hO
    · exact h.hr.blk b2 k2 oi hk2' hO
  · obtain ⟨k2, hk2, hr2⟩ := h.ro.b b2 oi hO hc hp
    by_cases hb : b2 = b
    · subst hb
      rw [hk] at hk2; cases hk2
      have hl := (List.getElem?_eq_some_iff.1 hk).1
      exact ⟨k', by simp only [Hp.setB, setNth_eq]; rw [List.getElem?_set_self hl], by rw [hro, hr2]⟩
    · exact ⟨k2, by simp only [Hp.setB, setNth_eq]; rw [List.getElem?_set_ne (fun e => hb e.symm)]; exact hk2, hr2⟩

/-- An empty block more, and the empty slice that it is. -/
theorem SR.empty (h : SR P F w0 q s a w c) (es : Nat) : ∃ c', SR P F w0 q { s with hp := s.hp.addB { es, len := 0, f := fun _ => [] } } a w c' ∧ (∀ x v, VR P w c x v → VR P w c' x v) ∧
    ∀ b, VR P w c' (.oslice s.hp.blocks.length 0 0 0 none) (.slice b 0 0) := by
  have hfree : c.O s.hp.blocks.length = none := by
    cases hO : c.O s.hp.blocks.length with
    | none => rfl
    | some oi => have := h.hi _ oi hO; omega
  have hq := qout_block (w' := w) h.hr h.base (Below.refl _ _) hfree (k := { es, len := 0, f := fun _ => [] }) (oi := ⟨0, 0, 0, es, 0, 0⟩) (fun hc => absurd rfl hc)
    (fun ex => ⟨rfl, rfl, rfl, Nat.le_refl _, fun hc => absurd rfl hc, fun i hi => by simp at hi, fun i j y v hi => by simp at hi⟩)
  refine ⟨_, h.quiet hq ⟨rfl, rfl⟩ (d := none) rfl (u := undef) (.tree (.top _)), fun x v hx => hx.mono hq.ext, fun b => .oslice _ _ _ _ _ _ _ (addO_self _ _ _) (Nat.le_refl _) rfl fun _ => ⟨by simp, b, 0, rfl, Nat.le_refl _, by simp, by simp, fun hc => absurd rfl hc, fun cp hcp => by cases hcp⟩⟩

omit [GTab] in
theorem eslice_inv {v : Value} (h : VR P w c .eslice v) : ∃ b, v = .slice b 0 0 := by
  cases h with
  | tree h => cases h with
    | eslice b => exact ⟨b, rfl⟩

omit [GTab] in
theorem look_forget (l : List Nat) : ∀ (sv : List (Nat × AV)) (i : Nat), look (sv.filter fun p => !hasNat l p.1) i = look sv i ∨ look (sv.filter fun p => !hasNat l p.1) i = .top
  | [], i => .inl rfl
  | (k, x) :: r, i => by
    have ih := look_forget l r i
    rw [List.filter_cons]
    cases hk : hasNat l k with
    | true =>
      simp only [Bool.not_true, Bool.false_eq_true, if_false, look]
      cases hb : Nat.beq k i with
      | true =>
        have e := Nat.eq_of_beq_eq_true hb
        subst e
        refine .inr ?_
        clear ih hb
        induction r with
        | nil => rfl
        | cons y r ih2 =>
          rw [List.filter_cons]
          cases hy : hasNat l y.1 with
          | true => simpa [hy] using ih2
          | false =>
            simp only [Bool.not_false, if_true, look]
            cases hb : Nat.beq y.1 k with
            | true =>
              have e := Nat.eq_of_beq_eq_true hb
              rw [e, hk] at hy; cases hy
            | false => exact ih2
      | false => exact ih
    | false =>
      simp only [Bool.not_false, if_true, look]
      cases hb : Nat.beq k i with
      | true => exact .inl rfl
      | false => exact ih

theorem rowRefs_lt (hp : Hp) : ∀ l : List AV, (∀ i ∈ (rowRefs hp l).1, i < hp.blocks.length) ∧ (∀ i ∈ (rowRefs hp l).2, i < hp.maps.length)
  | [] => ⟨fun _ h => (by cases h), fun _ h => (by cases h)⟩
  | x :: r => by
    have h1 := refs_lt (hp := hp) 5 x
    have h2 := rowRefs_lt hp r
    exact ⟨fun i hi => (List.mem_append.1 hi).elim (h1.1 i) (h2.1 i), fun i hi => (List.mem_append.1 hi).elim (h1.2 i) (h2.2 i)⟩
theorem fzRow_len (hp : Hp) : ∀ l : List AV, (fzRow hp l).length = l.length
  | [] => rfl
  | x :: r => congrArg (· + 1) (fzRow_len hp r)
theorem fzRow_get (hp : Hp) : ∀ (l : List AV) (j : Nat) (y : AV), (fzRow hp l)[j]? = some y → ∃ x, l[j]? = some x ∧ y = fz hp x ∧ (∀ i ∈ (refs hp 5 x).1, i ∈ (rowRefs hp l).1) ∧ (∀ i ∈ (refs hp 5 x).2, i ∈ (rowRefs hp l).2)
  | [], j, y, h => by simp [fzRow] at h
  | x :: r, 0, y, h => by
    have h : some (fz hp x) = some y := h
    cases h
    exact ⟨x, rfl, rfl, fun i hi => List.mem_append_left _ hi, fun i hi => List.mem_append_left _ hi⟩
  | x :: r, j + 1, y, h => by
    obtain ⟨z, h1, h2, h3, h4⟩ := fzRow_get hp r j y h
    exact ⟨z, h1, h2, fun i hi => List.mem_append_right _ (h3 i hi), fun i hi => List.mem_append_right _ (h4 i hi)⟩

theorem SR.prep1 (h : SR P F w0 q s a w c) (p : Prep) : ∃ c', SR P F w0 q (prep1 s p) a w c' := by
  unfold Tr.prep1
  cases p with
  | slot t es =>
    simp only
    split
    · rename_i ht
      obtain ⟨c', g1, g2, g3⟩ := h.empty es
      have hv := h.tm t
      rw [ht] at hv
      obtain ⟨b, hb⟩ := eslice_inv hv
      exact ⟨c', g1.known (t := t) (x := .oslice s.hp.blocks.length 0 0 0 none) (by rw [hb]; exact g3 b)⟩
    · exact ⟨c, h⟩
  | cell b sub es =>
    simp only
    split
    · rename_i k hk
      split
      · rename_i hlen hcell
        rw [nth?_eq] at hk hcell
        obtain ⟨c', g1, g2, g3⟩ := h.empty es
        have hlt := (List.getElem?_eq_some_iff.1 hk).1
        have hk' : ({ s with hp := s.hp.addB { es, len := 0, f := fun _ => [] } } : St).hp.blocks[b]? = some k := by
          show (s.hp.blocks ++ [_])[b]? = some k
          rw [List.getElem?_append_left hlt]; exact hk
        have := g1.redescribe hk' (k' := { k with f := fun _ => splice (k.f 0) sub [.oslice s.hp.blocks.length 0 0 0 none], flat := false }) rfl fun oi hO => ?_
        · refine ⟨c', ?_⟩
          have e : ({ s with hp := (s.hp.addB { es, len := 0, f := fun _ => [] }).setB b { k with f := fun _ => splice (k.f 0) sub [.oslice s.hp.blocks.length 0 0 0 none], flat := false } } : St) =
              { s with hp := (s.hp.setB b { k with f := fun _ => splice (k.f 0) sub [.oslice s.hp.blocks.length 0 0 0 none], flat := false }).addB { es, len := 0, f := fun _ => [] } } := by
            simp only [Hp.addB, Hp.setB, setNth_eq, List.set_append_left _ _ hlt]
          rw [← e]; exact this
        · have hB := g1.hr.blk b k oi hk' hO
          refine ⟨hB.n, hB.es, hB.ver, hB.le, hB.row, fun i hi => ?_, fun i j x v hi hx hv => ⟨?_, fun hf => by cases hf⟩⟩
          · have hi0 : i < k.len := hi
            have : i = 0 := by omega
            subst this
            rw [splice_length]; exact hB.el 0 hi
          · have hi0 : i < k.len := hi
            have : i = 0 := by omega
            subst this
            have hj : j < (k.f 0).length := by have := (List.getElem?_eq_some_iff.1 hx).1; rwa [splice_length] at this
            rw [splice_get _ _ _ _ hj] at hx
            split at hx
            · rename_i hc
              simp at hc
              have hjs : j = sub := by omega
              subst hjs
              simp at hx
              subst hx
              obtain ⟨g, _⟩ := hB.rel 0 j .eslice v hi hcell hv
              obtain ⟨bb, hbb⟩ := eslice_inv g
              rw [hbb]; exact g3 bb
            · exact (hB.rel 0 j x v hi hx hv).1
      · exact ⟨c, h⟩
    · exact ⟨c, h⟩
  | freeze t =>
    have hv := h.tm t
    have hz := freeze_ok h.hr 5 hv
    have hq := qout_shared h.hr (Below.refl _ w) (bs := (refs s.hp 5 (look s.tm t)).1) (ms := (refs s.hp 5 (look s.tm t)).2) (refs_lt 5 _).1 (refs_lt 5 _).2
    have h1 := h.quiet hq ⟨rfl, rfl⟩ (d := none) rfl (v := .top) (u := undef) (.tree (.top _))
    exact ⟨_, h1.known (t := t) (x := fz s.hp (look s.tm t)) (.tree (hz.weaken fun b hb => .inl hb))⟩
  | fzb b =>
    simp only
    split
    · rename_i k hk
      split
      · rename_i hlen
        generalize hrr : rowRefs s.hp (k.f 0) = rr
        obtain ⟨bs, ms⟩ := rr
        simp only
        cases hcb : hasNat bs b with
        | true => exact ⟨c, h⟩
        | false =>
          rw [nth?_eq] at hk
          have hlt := rowRefs_lt s.hp (k.f 0)
          rw [hrr] at hlt
          have hq := qout_shared h.hr (Below.refl _ w) (bs := bs) (ms := ms) hlt.1 hlt.2
          have h1 := h.quiet hq ⟨rfl, rfl⟩ (d := none) rfl (v := .top) (u := undef) (.tree (.top _))
          have hk' : (roB bs 0 s.hp.blocks)[b]? = some k := by
            rw [roB_get, hk]
            simp [hcb]
          refine ⟨_, h1.redescribe (b := b) (k := k) (k' := { k with f := fun _ => fzRow s.hp (k.f 0), flat := true }) hk' rfl fun oi hO => ?_⟩
          have hB1 := h1.hr.blk b k oi hk' hO
          have hB0 := h.hr.blk b k oi hk hO
          refine ⟨hB1.n, hB1.es, hB1.ver, hB1.le, hB1.row, fun i hi => ?_, fun i j x v hi hx hv => ?_⟩
          · have hi0 : i < k.len := hi
            have : i = 0 := by omega
            subst this
            show (fzRow s.hp (k.f 0)).length = _
            rw [fzRow_len]; exact hB1.el 0 hi0
          · have hi0 : i < k.len := hi
            have : i = 0 := by omega
            subst this
            obtain ⟨y, g1, rfl, g3, g4⟩ := fzRow_get s.hp (k.f 0) j x hx
            rw [hrr] at g3 g4
            obtain ⟨e1, _⟩ := hB0.rel 0 j y v hi0 g1 hv
            have hz := (freeze_ok h.hr 5 e1).weaken (p' := fun b => qOf c (bs, ms) b ∨ (w.heap.size ≤ b ∧ b < w.heap.size)) fun b hb => .inl (qOf_mono g3 g4 hb)
            exact ⟨.tree hz, fun _ => hz⟩
      · exact ⟨c, h⟩
    · exact ⟨c, h⟩
  | fzl b bs0 =>
    simp only
    split
    · rename_i k hk
      generalize hbb : (bs0.filter fun i => Nat.blt i s.hp.blocks.length) = bs
      have hlt : ∀ i ∈ bs, i < s.hp.blocks.length := fun i hi => by
        rw [← hbb] at hi
        have := (List.mem_filter.1 hi).2
        simpa using this
      cases hcb : hasNat bs b with
      | true => exact ⟨c, h⟩
      | false =>
        rw [nth?_eq] at hk
        have hq := qout_shared h.hr (Below.refl _ w) (bs := bs) (ms := []) hlt (fun i hi => by cases hi)
        have h1 := h.quiet hq ⟨rfl, rfl⟩ (d := none) rfl (v := .top) (u := undef) (.tree (.top _))
        have hk' : (roB bs 0 s.hp.blocks)[b]? = some k := by
          rw [roB_get, hk]
          simp [hcb]
        refine ⟨_, h1.redescribe (b := b) (k := k) (k' := { k with f := fun i => (k.f i).map (fzIn bs s.hp), flat := true }) hk' rfl fun oi hO => ?_⟩
        have hB1 := h1.hr.blk b k oi hk' hO
        have hB0 := h.hr.blk b k oi hk hO
        refine ⟨hB1.n, hB1.es, hB1.ver, hB1.le, hB1.row, fun i hi => ?_, fun i j x v hi hx hv => ?_⟩
        · show ((k.f i).map _).length = _
          rw [List.length_map]; exact hB1.el i hi
        · have hx : ((k.f i).map (fzIn bs s.hp))[j]? = some x := hx
          rw [List.getElem?_map] at hx
          obtain ⟨y, g1, rfl⟩ := Option.map_eq_some_iff.1 hx
          obtain ⟨e1, _⟩ := hB0.rel i j y v hi g1 hv
          have hz : VT P w (fun b => qOf c (bs, []) b ∨ (w.heap.size ≤ b ∧ b < w.heap.size)) (fzIn bs s.hp y) v := by
            have hf := freeze_ok h.hr 5 e1
            unfold fzIn
            generalize refs s.hp 5 y = rr at hf
            obtain ⟨ra, rm⟩ := rr
            simp only
            cases hc : (ra.all (hasNat bs) && rm.isEmpty) with
            | false => exact .top _
            | true =>
              simp only [cond_true]
              rw [Bool.and_eq_true] at hc
              refine hf.weaken fun b hb => .inl (qOf_mono (fun i hi => ?_) (fun i hi => ?_) hb)
              · exact hasNat_iff.1 (List.all_eq_true.1 hc.1 i hi)
              · have := List.isEmpty_iff.1 hc.2
                simp only at hi
                rw [this] at hi; cases hi
          exact ⟨.tree hz, fun _ => hz⟩
    · exact ⟨c, h⟩
  | uncap t =>
    simp only
    split
    · rename_i b ver off len cp ht
      have hv := h.tm t
      rw [ht] at hv
      refine ⟨c, h.known (t := t) (x := .oslice b ver off len none) ?_⟩
      cases hv with
      | oslice _ _ _ _ _ _ oi hO hle h1c hv =>
        refine .oslice _ _ _ _ _ _ oi hO hle h1c fun hh => ?_
        obtain ⟨g1, a, k, g2, g3, g4, g5, g6, _⟩ := hv hh
        exact ⟨g1, a, k, g2, g3, g4, g5, g6, fun _ hc => by cases hc⟩
      | tree hv => cases hv
    · exact ⟨c, h⟩
  | forget l =>
    refine ⟨c, ⟨{ h.toHS with sv := fun i => ?_ }, h.tm, h.size, h.defers⟩⟩
    rcases look_forget l s.sv i with e | e
    · rw [e]; exact h.sv i
    · rw [e]; exact .tree (.top _)

theorem SR.prep : ∀ (l : List Prep) {s : St} {c : Cx}, SR P F w0 q s a w c → ∃ c', SR P F w0 q (prep s l) a w c'
  | [], s, c, h => ⟨c, h⟩
  | p :: r, s, c, h => by
    obtain ⟨c', h'⟩ := h.prep1 p
    exact SR.prep r h'
end

/-- Preparing leaves the counter and the jump alone. -/
theorem prep1_keep (s : St) (p : Prep) : (prep1 s p).hp.ny = s.hp.ny ∧ (prep1 s p).hp.jump = s.hp.jump := by
  unfold prep1
  repeat' split
  all_goals first
    | exact ⟨rfl, rfl⟩
    | (simp only [Bool.cond_eq_ite]; split <;> exact ⟨rfl, rfl⟩)
theorem prep_keep : ∀ (l : List Prep) (s : St), (prep s l).hp.ny = s.hp.ny ∧ (prep s l).hp.jump = s.hp.jump
  | [], s => ⟨rfl, rfl⟩
  | p :: r, s => by
    have h1 := prep1_keep s p
    have h2 := prep_keep r (prep1 s p)
    exact ⟨h2.1.trans h1.1, h2.2.trans h1.2⟩

/-- A loop, by a relation that goes down. -/
theorem wp_loop_rel {P : Program} {F : Fence} {n : Nat} {Q : Exit → Act → World → Prop} {c : Code} (I : Nat → Act → World → Prop) {m : Nat} {a : Act} {w : World} (h₀ : I m a w)
    (round : ∀ m a w, I m a w → c.wpIn F n P (Exit.then (fun a' w' => ∃ m', m' < m ∧ I m' a' w') Q) a w) : (Code.loop c).wpIn F n P Q a w := by
  intro b k cs hro hb hr
  have key : ∀ m a w, I m a w → ∃ e a' w', Q e a' w' ∧ ArrivesIn (Machine.fenced P F) P (lone (b.atR a (.code c :: .inLoop c :: k)) cs w) b k cs e a' w' := by
    intro m
    induction m using Nat.strongRecOn with
    | _ m ih =>
      intro a w hI
      obtain ⟨e, a₁, w₁, hq, harr⟩ := round m a w hI b (.inLoop c :: k) cs hro hb hr
      cases e with
      | normal =>
        obtain ⟨m', hlt, hI₁⟩ := hq
        obtain ⟨e₂, a₂, w₂, hq₂, harr₂⟩ := ih m' hlt a₁ w₁ hI₁
        exact ⟨e₂, a₂, w₂, hq₂, .of_steps (StepsIn.trans harr (.one (fenced_calm hb hr rfl) stepR_inLoop)) harr₂⟩
      | exit id => exact ⟨_, a₁, w₁, hq, .pass (x := .inLoop c) rfl (fun _ _ => .inl (by simp)) harr⟩
      | goto l => exact ⟨_, a₁, w₁, hq, .pass (x := .inLoop c) rfl (fun _ _ => .inl (by simp)) harr⟩
      | ret => exact ⟨_, a₁, w₁, hq, .pass (x := .inLoop c) rfl (fun _ _ => .inl (by simp)) harr⟩
      | panic ch => exact ⟨_, a₁, w₁, hq, .pass (x := .inLoop c) rfl (fun _ _ => .inl (by simp)) harr⟩
      | outgrown => exact ⟨_, a₁, w₁, hq, .pass (x := .inLoop c) rfl (fun _ _ => .inl (by simp)) harr⟩
  obtain ⟨e, a', w', hq, harr⟩ := key m a w h₀
  exact ⟨e, a', w', hq, .of_steps (.one (fenced_calm hb hr rfl) stepR_loop) harr⟩
end Go.Tr

/- The weakest precondition holds what it promises: Code, bodies, contracts. Conditions: regions that draw are taken as a premise here. -/
import Derived.Test.YtkomdfgffgkphaaTrS
namespace Go.Tr
open Go Go.RowKit

def toExit : Ex → Exit
  | .normal => .normal
  | .exit id => .exit id
  | .ret => .ret

/-- A region that draws is as its text. -/
def DrawnOk (P : Program) (T : Nat → Option TI) : Prop :=
  ∀ (F : Fr) (E : Env) (w0 : World) (q : Nat → Prop) (id : Nat) (ops : Array Oper) (K : St → Prop) (Q : Exit → Act → World → Prop) (s : St) (a : Act) (w : World) (c : Cx) (gl : List (Nat × Nat)), (∀ f args r fr, E.S f args r fr → Sound1 P f args r fr) → drawOk gl ops = true →
    (∀ s' a' w' c', SR P F w0 q s' a' w' c' → K s' → Q .normal a' w') → SR P F w0 q s a w c → opsW E.plain T F.n (gateSt gl ops) ops K 0 ops.toList s → (Code.region id ops true).wpIn (FR F.r) 0 P Q a w

section
variable {P : Program} {T : Nat → Option TI}

/-! ### An object that is neither cells nor a map turns -/

def objCells : Obj → Bool
  | .cells .. => true
  | _ => false

theorem VT.turn {w w' : World} {p : Nat → Prop} (h1 : ∀ a v, w.cell? a = some v → w'.cell? a = some v) (h2 : ∀ (r : Nat) es k, w.heap[r]? = some (.map es k) → w'.heap[r]? = some (.map es k)) {x : AV} {v : Value} (h : VT P w p x v) : VT P w' p x v := by
  induction h with
  | top v => exact .top v
  | val v => exact .val v
  | agg l vs hs ho _ ih => exact .agg l vs hs ho ih
  | tuple l vs hs _ ih => exact .tuple l vs hs ih
  | func fn nf l f0 vs h0 hs _ ih => exact .func fn nf l f0 vs h0 hs ih
  | eslice a => exact .eslice a
  | rslice0 es f a k => exact .rslice0 es f a k
  | rslice es len f b off k g hk hpb hl hcell _ ih =>
    exact .rslice es len f b off k g hk hpb hl (fun i j hi hj => ⟨h1 _ _ (hcell i j hi hj).1, (hcell i j hi hj).2⟩) ih
  | cslice0 es c f a => exact .cslice0 es c f a
  | cslice es len c f b off g hk hpb hl hcell _ ih =>
    exact .cslice es len c f b off g hk hpb hl (fun i j hi hj => ⟨h1 _ _ (hcell i j hi hj).1, (hcell i j hi hj).2⟩) ih
  | rptr l b off g hpb hcell _ ih => exact .rptr l b off g hpb (fun j hj => ⟨h1 _ _ (hcell j hj).1, (hcell j hj).2⟩) ih
  | rmap ki et has get r es clock hpr hr hk _ _ ih0 ih => exact .rmap ki et has get r es clock hpr (h2 _ _ _ hr) hk ih0 ih

theorem VR.turn {w w' : World} {c : Cx} (h1 : ∀ a v, w.cell? a = some v → w'.cell? a = some v) (h2 : ∀ (r : Nat) es k, w.heap[r]? = some (.map es k) → w'.heap[r]? = some (.map es k)) {x : AV} {v : Value} (h : VR P w c x v) : VR P w' c x v := by
  induction h with
  | tree h => exact .tree (h.turn h1 h2)
  | agg l vs hs ho _ ih => exact .agg l vs hs ho ih
  | tuple l vs hs _ ih => exact .tuple l vs hs ih
  | func fn nf l f0 vs h0 hs _ ih => exact .func fn nf l f0 vs h0 hs ih
  | optr b ver idx sub v oi hO hle h1c hv => exact .optr b ver idx sub v oi hO hle h1c hv
  | oslice b ver off len cap v oi hO hle h1c hv => exact .oslice b ver off len cap v oi hO hle h1c hv
  | omap b r hN => exact .omap b r hN
  | yld i l hy => exact .yld i l hy

theorem putObj_cell {w : World} {l : Nat} {o o' : Obj} (hl : w.heap[l]? = some o) (ho : objCells o = false) : ∀ a v, w.cell? a = some v → (w.putObj l o').cell? a = some v := by
  intro a v h
  have hne : a.block ≠ l := fun e => by
    unfold World.cell? at h
    rw [e, hl] at h
    cases o <;> simp_all [objCells]
  rw [World.cell?_of_block (World.putObj_heap_other hne)]
  exact h

theorem putObj_block {w : World} {l : Nat} {o o' o2 : Obj} (hl : w.heap[l]? = some o) {r : Nat} (h : w.heap[r]? = some o2) (hne : o2 ≠ o) : (w.putObj l o').heap[r]? = some o2 := by
  rw [World.putObj_heap_other (fun e => by subst e; rw [hl] at h; cases h; exact hne rfl)]
  exact h

theorem HS.turn {X : Nat → Value} {G G' : List (Nat × Obj × Option Nat)} {rc rc' : Option (Nat × Nat × RcT)} {w0 w : World} {q : Nat → Prop} {hp : Hp} {sv : List (Nat × AV)} {c : Cx} (h : HS P X G rc w0 q hp sv w c) {l : Nat} {o o' : Obj} (hl : w.heap[l]? = some o) (ho : objCells o = false) (hm : ∀ es k, o ≠ .map es k)
    (hb : w0.heap.size ≤ l) (hG : ∀ x ∈ G', c.p x.1 ∧ w0.heap.size ≤ x.1 ∧ (w.putObj l o').heap[x.1]? = some x.2.1 ∧ ∀ i, x.2.2 = some i → c.y i = some x.1)
    (hrc : ∀ i l' rc2, rc' = some (i, l', rc2) → c.y i = some l' ∧ c.p l' ∧ w0.heap.size ≤ l' ∧ (w.putObj l o').heap[l']? = some (.loop (recAt rc2 hp.jump))) : HS P X G' rc' w0 q hp sv (w.putObj l o') c := by
  have h1 := putObj_cell (o' := o') hl ho
  have h2 : ∀ (r : Nat) es k, w.heap[r]? = some (.map es k) → (w.putObj l o').heap[r]? = some (.map es k) := fun r es k hr => putObj_block hl hr (fun e => hm es k e.symm)
  have hs : (w.putObj l o').heap.size = w.heap.size := by simp
  refine ⟨⟨fun b k oi hk hO => ?_, h.hr.sep, fun b oi hO hc => by rw [hs]; exact h.hr.own b oi hO hc, fun b hb => by rw [hs]; exact h.hr.st b hb, fun b m r hm hN => ?_, fun b r hN => by rw [hs]; exact h.hr.mown b r hN, h.hr.msep, h.hr.bm⟩, h.ro, h.hi, h.hiM, h.hy,
    h.below.trans ⟨rfl, rfl, rfl, Nat.le_of_eq hs.symm, fun b hb' => World.putObj_heap_other (by omega)⟩, h.pq, fun i => (h.sv i).turn h1 h2, hG, hrc⟩
  · have hB := h.hr.blk b k oi hk hO
    have keep : oi.cap ≠ 0 → (w.putObj l o').heap[oi.blk]? = w.heap[oi.blk]? := fun hc => by
      obtain ⟨cs, t, hrow, _⟩ := hB.row hc
      exact (putObj_block hl hrow (fun e => by subst e; simp [objCells] at ho)).trans hrow.symm
    refine ⟨hB.n, hB.es, hB.ver, hB.le, fun hc => by rw [keep hc]; exact hB.row hc, hB.el, fun i j x v hi hx hv => ?_⟩
    have hcap : oi.cap ≠ 0 := by have := hB.n; have := hB.le; omega
    rw [World.cell?_of_block (w := w) (a := ⟨oi.blk, _, none⟩) (keep hcap)] at hv
    obtain ⟨g1, g2⟩ := hB.rel i j x v hi hx hv
    exact ⟨g1.turn h1 h2, fun hf => (g2 hf).turn h1 h2⟩
  · obtain ⟨es, clock, g1, g2, g3, g4, g5⟩ := (h.hr.maps b m r hm hN).ex
    exact ⟨es, clock, h2 r es clock g1, g2, fun key zv a b d => (g3 key zv a b d).turn h1 h2, g4, fun key i v a b => (g5 key i v a b).turn h1 h2⟩

theorem bindP_ok {F : Fr} {w0 w : World} {q : Nat → Prop} {c : Cx} (vs : Array Value) : ∀ (l : List (Tmp × AV)) (ps : List Tmp) (us : List Value) (s : St) (a : Act), SR P F w0 q s a w c → l.map (·.1) = ps → ps.length = us.length → (∀ t ∈ ps, slotOk F.n (some t) = true) → (∀ (i : Nat) x u, l[i]? = some x → us[i]? = some u → VR P w c x.2 u) →
    SR P F w0 q (bindP l s) { a with tmps := (ps.zip us).foldl (fun tmps (t, u) => tmps.setIfInBounds t u) a.tmps } w c
  | [], ps, us, s, a, h, hps, hlen, _, _ => by
    simp at hps
    subst hps
    exact h
  | (t, x) :: r, ps, us, s, a, h, hps, hlen, hok, hr => by
    obtain ⟨ps', rfl⟩ : ∃ ps', ps = t :: ps' := ⟨r.map (·.1), by simpa using hps.symm⟩
    cases us with
    | nil => cases hlen
    | cons u us =>
      have hput := h.put (hok t (.head _)) (hr 0 (t, x) u rfl rfl)
      have := bindP_ok vs r ps' us (s.put (some t) x) (a.put (some t) u) hput (by simpa using hps) (by simpa using hlen) (fun t' ht => hok t' (.tail _ ht)) (fun i y u' hy hu => hr (i + 1) y u' (by simpa using hy) (by simpa using hu))
      exact this

/-- A range over a function, whose assignment and body are sound in a round's frame. -/
theorem range_ok {w0 : World} {q : Nat → Prop} {F : Fr} {I : YT → FuncId → List AV → Nat → St → (AV → St → Prop) → Prop} (hI : IOk P I) (hr0 : F.r = none) {WA WB : (Ex → St → Prop) → St → Prop} {g : Operand} {ps : Array Tmp} {assign body : Code}
    (iha : ∀ F2 : Fr, F2.n = F.n → F2.rc = none → F2.r ≠ none → ∀ (Q' : Ex → St → Prop) (Q : Exit → Act → World → Prop) (s : St) (a : Act) (w : World) (c : Cx), (∀ e s' a' w' c', SR P F2 w0 q s' a' w' c' → Q' e s' → Q (toExit e) a' w') → SR P F2 w0 q s a w c → WA Q' s → assign.wpIn (FR F2.r) 0 P Q a w)
    (ihb : ∀ F2 : Fr, F2.n = F.n → F2.rc = none → F2.r ≠ none → ∀ (Q' : Ex → St → Prop) (Q : Exit → Act → World → Prop) (s : St) (a : Act) (w : World) (c : Cx), (∀ e s' a' w' c', SR P F2 w0 q s' a' w' c' → Q' e s' → Q (toExit e) a' w') → SR P F2 w0 q s a w c → WB Q' s → body.wpIn (FR F2.r) 0 P Q a w)
    {Q' : Ex → St → Prop} {Q : Exit → Act → World → Prop} {s : St} {a : Act} {w : World} {c : Cx} (hQ : ∀ e s' a' w' c', SR P F w0 q s' a' w' c' → Q' e s' → Q (toExit e) a' w') (h : SR P F w0 q s a w c) {f : FuncId} {nf : Nat} {cap : List AV} (hg : s.eval g = .func (.func f) nf cap)
    (hw : I (fun i m args s1 K => (Nat.beq i s.hp.ny && Nat.beq args.length ps.size && s1.hp.jump.isNone && ps.toList.all (fun t => Nat.blt t F.n)) = true ∧
          WA (fun e s2 => match e with
            | .normal => WB (fun e s3 => match e with
              | .normal => K true { tm := popTm m s3.sv, hp := { s3.hp with jump := none }, sv := popSv m s3.sv }
              | e => K false { tm := popTm m s3.sv, hp := { s3.hp with jump := some e }, sv := popSv m s3.sv }) s2
            | _ => False)
          (bindP (ps.toList.zip args) { tm := popTm F.n s1.sv, hp := s1.hp, sv := pushSv m s1.tm s1.sv }))
        f (cap.take nf ++ .yld s.hp.ny :: cap.drop nf) F.n { s with hp := { s.hp with jump := none, ny := s.hp.ny + 1 } }
        (fun _ s' => match s'.hp.jump with
          | none => Q' .normal { s' with hp := { s'.hp with jump := s.hp.jump } }
          | some e => Q' e { s' with hp := { s'.hp with jump := s.hp.jump } })) : (Code.rangeFunc g ps assign body).wpIn (FR F.r) 0 P Q a w := by
  have hgv := eval_rel h.tm g
  rw [hg] at hgv
  obtain ⟨f0, cv, hgv', hf0, hcs, hcr⟩ := hgv.func_inv
  obtain ⟨ds, hd1, hd2, hd3⟩ := h.defers
  refine wpIn_rangeFunc fun fn _ => ?_
  obtain ⟨rec, hrec⟩ : ∃ rec : RcT, rec = fun st pe => { state := st, pending := pe, fn, tmps := a.tmps, params := ps, assign, body, defers := w.heap.size } := ⟨_, rfl⟩
  obtain ⟨W1, hW1⟩ : ∃ W1, (w.alloc (.deferred (some []))).alloc (.loop (rec .ready none)) = W1 := ⟨_, rfl⟩
  have hL1 : W1.heap[w.heap.size + 1]? = some (.loop (rec .ready none)) := by
    rw [← hW1]; have := World.alloc_heap_new (w.alloc (.deferred (some []))) (.loop (rec .ready none)); rwa [World.size_alloc] at this
  have hK1 : W1.heap[w.heap.size]? = some (.deferred (some [])) := by
    rw [← hW1]; exact (Below.heap_alloc _ _ _ (by simp)).trans (World.alloc_heap_new w _)
  have hsz1 : W1.heap.size = w.heap.size + 2 := by rw [← hW1]; simp
  have hb1 : Below w.heap.size w W1 := by
    rw [← hW1]; exact ((Below.refl _ w).alloc (Nat.le_refl _) _).alloc (by simp) _
  have hbase := h.base
  have hq1 := qout_stable h.hr hb1 (fun b => b = w.heap.size ∨ b = w.heap.size + 1) (fun b hb => by rcases hb with rfl | rfl <;> omega)
  have h1 := h.quiet hq1 ⟨rfl, rfl⟩ (d := none) rfl (v := .top) (u := undef) (.tree (.top _))
  obtain ⟨c1, hc1⟩ : ∃ c1 : Cx, c1 = { c with p := fun b => c.p b ∨ (b = w.heap.size ∨ b = w.heap.size + 1) } := ⟨_, rfl⟩
  rw [← hc1] at h1
  have hc1y : c1.y = c.y := by rw [hc1]
  have hc1p : ∀ b, c.p b → c1.p b := fun b hb => by rw [hc1]; exact .inl hb
  have hpD : c1.p w.heap.size := by rw [hc1]; exact .inr (.inl rfl)
  have hpl : c1.p (w.heap.size + 1) := by rw [hc1]; exact .inr (.inr rfl)
  obtain ⟨c2, hc2⟩ : ∃ c2 : Cx, c2 = { c1 with y := fun i => if i = s.hp.ny then some (w.heap.size + 1) else c1.y i } := ⟨_, rfl⟩
  have e2 : Ext w0.heap.size W1 c1 W1 c2 := by
    rw [hc2]
    exact ⟨Below.refl _ _, fun _ h => h, fun _ _ => rfl, fun _ oi h => ⟨oi, h, Nat.le_refl _, fun _ => rfl⟩, fun _ _ h => h, fun i l hi => by
      have := h1.hy i l hi
      simp only
      rw [if_neg (by have : i < s.hp.ny := this; omega)]
      exact hi⟩
  have h2 : SR P F w0 q { s with hp := { s.hp with ny := s.hp.ny + 1 } } a W1 c2 := by
    refine ⟨⟨⟨fun b k oi hk hO => (h1.hr.blk b k oi hk (by rw [hc2] at hO; exact hO)).mono e2 fun _ => rfl, ?_, ?_, ?_, fun b m r hm hN => (h1.hr.maps b m r hm (by rw [hc2] at hN; exact hN)).mono e2 rfl, ?_, ?_, ?_⟩, ?_, ?_, ?_, fun i l hi => ?_, h1.below, ?_, fun i => (h1.sv i).mono e2, fun x hx => ?_, fun i l rc' hrc => ?_⟩,
      fun t => (h1.tm t).mono e2, h1.size, h1.moved e2⟩
    · rw [hc2]; exact h1.hr.sep
    · rw [hc2]; exact h1.hr.own
    · rw [hc2]; exact h1.hr.st
    · rw [hc2]; exact h1.hr.mown
    · rw [hc2]; exact h1.hr.msep
    · rw [hc2]; exact h1.hr.bm
    · rw [hc2]; exact ⟨h1.ro.b, h1.ro.m⟩
    · rw [hc2]; exact h1.hi
    · rw [hc2]; exact h1.hiM
    · rw [hc2] at hi
      simp only at hi ⊢
      split at hi
      · omega
      · have := h1.hy i l hi
        have : i < s.hp.ny := this
        omega
    · rw [hc2]; exact h1.pq
    · obtain ⟨g1, g2, g3, g4⟩ := h1.keep x hx
      exact ⟨e2.p _ g1, g2, g3, fun i hi => e2.y _ _ (g4 i hi)⟩
    · obtain ⟨g1, g2, g3, g4⟩ := h1.rcd i l rc' hrc
      exact ⟨e2.y _ _ g1, e2.p _ g2, g3, g4⟩
  have hlt : ∀ D ∈ ds, D < w.heap.size := fun D hD => h.hr.st D (hd3 D hD).1
  have hltG : ∀ x ∈ F.G, x.1 < w.heap.size := fun x hx => h.hr.st _ (h.keep x hx).1
  have hfacts : ∀ D ∈ w.heap.size :: ds, c2.p D ∧ w0.heap.size ≤ D ∧ W1.heap[D]? = some (.deferred (some [])) := fun D hD => by
    rcases List.mem_cons.1 hD with rfl | hD
    · exact ⟨e2.p _ hpD, hbase, hK1⟩
    · obtain ⟨p1, p2, p3, _⟩ := hd3 D hD
      exact ⟨e2.p _ (hc1p _ p1), p2, (hb1.block D (hlt D hD)).trans p3⟩
  have hne : ∀ D ∈ w.heap.size :: ds, ∀ x ∈ F.G, x.1 ≠ D := fun D hD x hx => by
    rcases List.mem_cons.1 hD with rfl | hD
    · have := hltG x hx; omega
    · exact (hd3 D hD).2.2.2 x hx
  have hnd : (w.heap.size :: ds).Nodup := List.nodup_cons.2 ⟨fun hm => by have := hlt _ hm; omega, hd2⟩
  have h3 : SR P F w0 q { s with hp := { s.hp with ny := s.hp.ny + 1 } } { a with defers := markOf w.heap.size :: a.defers } W1 c2 :=
    ⟨h2.toHS, h2.tm, h2.size, w.heap.size :: ds, by simp [hd1], hnd, fun D hD => by obtain ⟨p1, p2, p3⟩ := hfacts D hD; exact ⟨p1, p2, p3, hne D hD⟩⟩
  have hy2 : c2.y s.hp.ny = some (w.heap.size + 1) := by rw [hc2]; simp
  have hpush := h3.push (ds := w.heap.size :: ds) hfacts (rc' := some (s.hp.ny, w.heap.size + 1, rec)) (j := none) (fun i l rc hrc => by
    simp only [Option.some.injEq, Prod.mk.injEq] at hrc
    obtain ⟨rfl, rfl, rfl⟩ := hrc
    exact ⟨hy2, e2.p _ hpl, by omega, hL1⟩)
  have hGlt : ∀ x ∈ gOf F (w.heap.size :: ds) s.hp.jump, x.1 < w.heap.size + 1 := fun x hx => by
    unfold gOf at hx
    rcases List.mem_append.1 hx with hx | hx
    · rcases List.mem_append.1 hx with hx | hx
      · have := hltG x hx; omega
      · obtain ⟨D, hD, rfl⟩ := List.mem_map.1 hx
        rcases List.mem_cons.1 hD with rfl | hD
        · show w.heap.size < _; omega
        · have := hlt D hD; show D < _; omega
    · split at hx
      · rename_i i l rc hrcF
        rw [List.mem_singleton] at hx
        subst hx
        have := h.hr.st l (h.rcd i l rc hrcF).2.1
        show l < _; omega
      · cases hx
  -- the arguments
  have hcs' : f0.size + cv.size = cap.length := by simpa using hcs
  have hargs : ArgsR P W1 c2 (cap.take nf ++ .yld s.hp.ny :: cap.drop nf) (f0 ++ #[.func (.yield (w.heap.size + 1)) #[] #[]] ++ cv) := by
    refine ⟨by simp; omega, fun i x hi => ?_⟩
    have htl : (cap.take nf).length = f0.size := by simp; omega
    have e1 := hq1.ext
    have hm : ∀ {y : AV} {u : Value}, VR P w c y u → VR P W1 c2 y u := fun hy => by
      have hy1 := hy.mono e1
      rw [← hc1] at hy1
      exact hy1.mono e2
    simp only [Array.getD_eq_getD_getElem?] at hcr ⊢
    by_cases h1 : i < f0.size
    · rw [List.getElem?_append_left (by omega), List.getElem?_take, if_pos (by omega)] at hi
      have := hcr i x hi
      rw [Array.getElem?_append_left h1] at this
      rw [Array.append_assoc, Array.getElem?_append_left h1]
      exact hm this
    · rw [List.getElem?_append_right (by omega), htl] at hi
      rw [Array.append_assoc, Array.getElem?_append_right (by omega)]
      obtain ⟨k, rfl⟩ : ∃ k, i = f0.size + k := ⟨i - f0.size, by omega⟩
      rw [Nat.add_sub_cancel_left] at hi ⊢
      cases k with
      | zero =>
        simp only [List.getElem?_cons_zero, Option.some.injEq] at hi
        subst hi
        rw [Array.getElem?_append_left (by simp)]
        exact .yld _ _ hy2
      | succ k =>
        simp only [List.getElem?_cons_succ, List.getElem?_drop] at hi
        rw [Array.getElem?_append_right (by simp)]
        have := hcr _ x hi
        rw [Array.getElem?_append_right (by omega)] at this
        have e : nf + k - f0.size = k + 1 - (#[Value.func (.yield (w.heap.size + 1)) #[] #[]] : Array Value).size := by simp; omega
        rw [← e]
        exact hm this
  -- a round
  obtain ⟨hin, hcall⟩ := hI _ _ _ _ _ _ hw _ _ _ _ _ _ _ _ hpush hargs (by
    intro i m args s1 K hY a1 w1 cc1 vs l hs1 hvs hl
    obtain ⟨hchk, hY⟩ := hY
    simp only [Bool.and_eq_true] at hchk
    obtain ⟨⟨⟨k1, k2⟩, k3⟩, k4⟩ := hchk
    have k1 := Nat.eq_of_beq_eq_true k1
    have k2 := Nat.eq_of_beq_eq_true k2
    have k3 : s1.hp.jump = none := by simpa using k3
    subst k1
    obtain ⟨r1, r2, r3, r4⟩ := hs1.rcd _ _ _ rfl
    rw [hl] at r1
    obtain rfl : l = w.heap.size + 1 := by simpa using r1
    rw [k3] at r4
    have r4 : w1.heap[w.heap.size + 1]? = some (.loop (rec .ready none)) := r4
    obtain ⟨ds1, f1, f2, f3⟩ := hs1.defers
    have hsz : vs.size = ps.size := by rw [hvs.1, k2]
    have hy := run_yield (P := P) (args := vs) r4 (by rw [hrec]; exact hsz)
    refine ⟨_, _, _, _, hy, roundIn_of_wpIn trivial ?_⟩
    have hp1 := hs1.push (ds := ds1) (fun D hD => by obtain ⟨p1, p2, p3, _⟩ := f3 D hD; exact ⟨p1, p2, p3⟩) (rc' := none) (j := s1.hp.jump) (fun i l rc hf => by cases hf)
    -- the round's frame
    let F2 : Fr := ⟨F.n, stackX m a1 (stackX F.n { a with defers := markOf w.heap.size :: a.defers } F.X), some (w.heap.size + 1), gOf ⟨m, stackX F.n { a with defers := markOf w.heap.size :: a.defers } F.X, none, gOf F (w.heap.size :: ds) s.hp.jump, some (s.hp.ny, w.heap.size + 1, rec)⟩ ds1 s1.hp.jump, none⟩
    have hb0 : SR P F2 w0 q { tm := popTm F.n s1.sv, hp := s1.hp, sv := pushSv m s1.tm s1.sv } { tmps := a.tmps, defers := [] } w1 cc1 := by
      refine ⟨hp1, fun t => ?_, h.size, [], rfl, List.nodup_nil, fun D hD => by cases hD⟩
      show VR P w1 cc1 (look (popTm F.n s1.sv) t) _
      rw [look_popTm]
      by_cases ht : t < F.n
      · rw [if_pos ht]
        have := hs1.sv t
        have : VR P w1 cc1 (look s1.sv t) (stackX F.n { a with defers := markOf w.heap.size :: a.defers } F.X t) := this
        unfold stackX at this
        rw [if_pos ht] at this
        exact this
      · rw [if_neg ht]; exact .tree (.top _)
    have hb2 := bindP_ok vs (ps.toList.zip args) ps.toList vs.toList _ _ hb0 (by rw [List.map_fst_zip]; simp [k2]) (by simp [hsz]) (fun t ht => List.all_eq_true.1 k4 t ht) (fun i x u hx hu => by
      have hx2 : args[i]? = some x.2 := by
        rw [List.getElem?_zip_eq_some] at hx
        exact hx.2
      have := hvs.2 i x.2 hx2
      have hu' : vs.getD i undef = u := by
        simp only [Array.getElem?_toList] at hu
        simp [hu]
      rwa [hu'] at this)
    have hfold : (ps.toList.zip vs.toList).foldl (fun tmps (t, u) => tmps.setIfInBounds t u) a.tmps = (ps.zip vs).foldl (fun tmps (t, u) => tmps.setIfInBounds t u) a.tmps := by
      rw [← Array.toList_zip, Array.foldl_toList]
    have hF2 : (F2.r) = some (w.heap.size + 1) := rfl
    have hgo := iha F2 rfl rfl (by simp [F2]) _ (Exit.then (fun a₁ w₁ => ∃ w₂, (Instr.beginRound (w.heap.size + 1)).run P w₁ = .ok () w₂ ∧ body.wpIn ((FR none).inRound (w.heap.size + 1)) 0 P (roundPost P (w.heap.size + 1) fun e w' => ∃ b s' c', e = .returned (.bool b) ∧ SR P ⟨m, stackX F.n { a with defers := markOf w.heap.size :: a.defers } F.X, none, gOf F (w.heap.size :: ds) s.hp.jump, some (s.hp.ny, w.heap.size + 1, rec)⟩ w0 q s' a1 w' c' ∧ K b s') a₁ w₂) (fun _ _ _ => False)) _ _ w1 cc1 ?_ hb2 hY
    · rw [hfold] at hgo
      have er : (rec .ready none).tmps = a.tmps ∧ (rec .ready none).params = ps ∧ (rec .ready none).assign = assign ∧ (rec .ready none).body = body := by rw [hrec]; exact ⟨rfl, rfl, rfl, rfl⟩
      rw [er.1, er.2.1, er.2.2.1, er.2.2.2]
      exact hgo
    · intro e s2 a2 w2 cc2 hs2 hq2
      cases e with
      | exit id => exact hq2.elim
      | ret => exact hq2.elim
      | normal =>
        simp only [toExit, Exit.then]
        have hself : (w.heap.size + 1, Obj.loop (recAt rec s1.hp.jump), some s.hp.ny) ∈ F2.G := List.mem_append_right _ (.head _)
        obtain ⟨v1, v2, v3, v4⟩ := hs2.keep _ hself
        rw [k3] at v3
        have v3 : w2.heap[w.heap.size + 1]? = some (.loop (rec .ready none)) := v3
        refine ⟨_, run_beginRound v3 (by rw [hrec]), ?_⟩
        have others : ∀ x ∈ F2.G, x = (w.heap.size + 1, Obj.loop (recAt rec s1.hp.jump), some s.hp.ny) ∨ x.1 ≠ w.heap.size + 1 := fun x hx => by
          rcases List.mem_append.1 hx with hx' | hx'
          · right
            rcases List.mem_append.1 hx' with hx'' | hx''
            · have := hGlt x hx''; omega
            · obtain ⟨D, hD, rfl⟩ := List.mem_map.1 hx''
              intro e
              have hD2 := (hs2.keep _ hx).2.2.1
              have e : D = w.heap.size + 1 := e
              simp only at hD2
              rw [e, v3] at hD2
              cases hD2
          · left
            exact List.mem_singleton.1 hx'
        let lbusy : Loop := { rec .ready none with state := .busy }
        let G3 := F2.G.map fun x => if x.1 = w.heap.size + 1 then (x.1, Obj.loop lbusy, x.2.2) else x
        have hlt2 : w.heap.size + 1 < w2.heap.size := (Array.getElem?_eq_some_iff.1 v3).1
        have hG3 : ∀ (W : World), (∀ x ∈ F2.G, x.1 ≠ w.heap.size + 1 → W.heap[x.1]? = some x.2.1) → W.heap[w.heap.size + 1]? = some (.loop lbusy) → ∀ x ∈ G3, ∃ y ∈ F2.G, x.1 = y.1 ∧ x.2.2 = y.2.2 ∧ W.heap[x.1]? = some x.2.1 := fun W hW hWl x hx => by
          obtain ⟨y, hy, rfl⟩ := List.mem_map.1 hx
          by_cases hyl : y.1 = w.heap.size + 1
          · rw [if_pos hyl]; exact ⟨y, hy, rfl, rfl, by simp only; rw [hyl]; exact hWl⟩
          · rw [if_neg hyl]; exact ⟨y, hy, rfl, rfl, hW y hy hyl⟩
        have hs3 : SR P { F2 with G := G3 } w0 q s2 a2 (w2.putObj (w.heap.size + 1) (.loop lbusy)) cc2 := by
          have htm := hs2.toHS.turn (o' := .loop lbusy) (G' := G3) (rc' := none) v3 rfl (fun es k e => by cases e) v2 (fun x hx => by
            obtain ⟨y, hy, e1, e2, e3⟩ := hG3 (w2.putObj (w.heap.size + 1) (.loop lbusy)) (fun x hx hne => (World.putObj_heap_other hne).trans (hs2.keep x hx).2.2.1) (World.putObj_heap_same hlt2) x hx
            obtain ⟨u1, u2, u3, u4⟩ := hs2.keep y hy
            exact ⟨by rw [e1]; exact u1, by rw [e1]; exact u2, e3, fun i hi => by rw [e1]; exact u4 i (e2 ▸ hi)⟩) (fun i l rc hf => by cases hf)
          have t1 := putObj_cell (o' := .loop lbusy) v3 rfl
          have t2 : ∀ (r : Nat) es k, w2.heap[r]? = some (.map es k) → (w2.putObj (w.heap.size + 1) (.loop lbusy)).heap[r]? = some (.map es k) := fun r es k hr => putObj_block v3 hr (fun e => by cases e)
          refine ⟨htm, fun t => (hs2.tm t).turn t1 t2, hs2.size, ?_⟩
          obtain ⟨dd, g1, g2, g3⟩ := hs2.defers
          refine ⟨dd, g1, g2, fun D hD => ?_⟩
          obtain ⟨p1, p2, p3, p4⟩ := g3 D hD
          refine ⟨p1, p2, putObj_block v3 p3 (fun e => by cases e), fun x hx => ?_⟩
          obtain ⟨y, hy, rfl⟩ := List.mem_map.1 hx
          split
          · exact p4 y hy
          · exact p4 y hy
        have hgo2 := ihb { F2 with G := G3 } rfl rfl (by simp [F2]) _ (roundPost P (w.heap.size + 1) fun e w' => ∃ b s' c', e = .returned (.bool b) ∧ SR P ⟨m, stackX F.n { a with defers := markOf w.heap.size :: a.defers } F.X, none, gOf F (w.heap.size :: ds) s.hp.jump, some (s.hp.ny, w.heap.size + 1, rec)⟩ w0 q s' a1 w' c' ∧ K b s') s2 a2 _ cc2 ?_ hs3 hq2
        · exact hgo2
        · intro e3 s3 a3 w3 cc3 hs4 hq3
          have hself3 : (w.heap.size + 1, Obj.loop lbusy, some s.hp.ny) ∈ G3 := List.mem_map.2 ⟨_, hself, by simp⟩
          obtain ⟨x1, x2, x3, x4⟩ := hs4.keep _ hself3
          have x3 : w3.heap[w.heap.size + 1]? = some (.loop lbusy) := x3
          have hlt3 := (Array.getElem?_eq_some_iff.1 x3).1
          -- back in the frame of the function
          have fin : ∀ (j : Option Ex), recAt rec j = { lbusy with state := if (j.bind codeOf).isNone then (match j with | none => .ready | some _ => .done) else .done, pending := j.bind codeOf } →
              SR P ⟨m, stackX F.n { a with defers := markOf w.heap.size :: a.defers } F.X, none, gOf F (w.heap.size :: ds) s.hp.jump, some (s.hp.ny, w.heap.size + 1, rec)⟩ w0 q { tm := popTm m s3.sv, hp := { s3.hp with jump := j }, sv := popSv m s3.sv } a1 (w3.putObj (w.heap.size + 1) (.loop (recAt rec j))) cc3 := fun j _ => by
            have hturn := hs4.toHS.turn (o' := .loop (recAt rec j)) (G' := (gOf F (w.heap.size :: ds) s.hp.jump) ++ ds1.map (fun D => (D, Obj.deferred (some []), none))) (rc' := none) x3 rfl (fun es k e => by cases e) x2 (fun x hx => by
              have hxF : x ∈ F2.G := List.mem_append_left _ hx
              have hxn : x.1 ≠ w.heap.size + 1 := by
                rcases others x hxF with e | e
                · exfalso
                  rcases List.mem_append.1 hx with hx | hx
                  · have := hGlt x hx; rw [e] at this; exact absurd this (Nat.lt_irrefl _)
                  · obtain ⟨D, _, rfl⟩ := List.mem_map.1 hx; simp at e
                · exact e
              have hx3 : x ∈ G3 := List.mem_map.2 ⟨x, hxF, by rw [if_neg hxn]⟩
              obtain ⟨u1, u2, u3, u4⟩ := hs4.keep x hx3
              exact ⟨u1, u2, (World.putObj_heap_other hxn).trans u3, u4⟩) (fun i l rc hf => by cases hf)
            refine SR.pop (F := ⟨m, stackX F.n { a with defers := markOf w.heap.size :: a.defers } F.X, none, gOf F (w.heap.size :: ds) s.hp.jump, some (s.hp.ny, w.heap.size + 1, rec)⟩) hturn hs1.size f1 f2 (fun D hD x hx => (f3 D hD).2.2.2 x hx) (fun x hx => List.mem_append_left _ hx) (fun D hD => List.mem_append_right _ (List.mem_map.2 ⟨D, hD, rfl⟩)) fun i l rc hrc => ?_
            simp only [Option.some.injEq, Prod.mk.injEq] at hrc
            obtain ⟨rfl, rfl, rfl⟩ := hrc
            exact ⟨x4 _ rfl, x1, x2, World.putObj_heap_same hlt3⟩
          have hrb : ∀ st pe, ({ lbusy with state := st, pending := pe } : Loop) = rec st pe := fun st pe => by simp only [lbusy]; rw [hrec]
          cases e3 with
          | normal =>
            have hrun := run_endRound (P := P) none x3
            rw [hrb] at hrun
            exact ⟨_, _, hrun, true, _, cc3, rfl, fin none (by simp [recAt, lbusy]; rw [hrec]), hq3⟩
          | ret =>
            have hrun := run_endRound (P := P) (some .ret) x3
            rw [hrb] at hrun
            exact ⟨_, _, hrun, false, _, cc3, rfl, fin (some .ret) (by simp [recAt, codeOf, lbusy]; rw [hrec]), hq3⟩
          | exit id =>
            have hrun := run_endRound (P := P) (some (.exit id)) x3
            rw [hrb] at hrun
            exact ⟨_, _, hrun, false, _, cc3, rfl, fin (some (.exit id)) (by simp [recAt, codeOf, lbusy]; rw [hrec]), hq3⟩)
  refine ⟨w.heap.size + 1, [markOf w.heap.size], W1, { target := .fn (.func f) cv, args := f0 ++ #[.func (.yield (w.heap.size + 1)) #[] #[]] }, W1, f, f0 ++ #[.func (.yield (w.heap.size + 1)) #[] #[]] ++ cv, W1, ?_, ?_, ?_, ?_, (fun hd => by cases hd), ?_⟩
  · rw [show (FR F.r).round = none from hr0, ← hW1, hrec]; exact run_enterLoop_outer _ _ _ _ _
  · simp only [resolve, hgv']
    simp [go_sem, Deferred.ofValue]
  · intro f' _; trivial
  · simp only [invoke]
    simpa using hin _ _
  · refine CallsIn.mono hcall ?_
    rintro e w3 ⟨u, rfl, r, hp', sv', c3, hs3, _, hk⟩
    obtain ⟨r1, r2, r3, r4⟩ := hs3.rcd _ _ _ rfl
    have hlt3 := (Array.getElem?_eq_some_iff.1 r4).1
    have hback : SR P F w0 q { tm := popTm F.n sv', hp := { hp' with jump := s.hp.jump }, sv := popSv F.n sv' } { a with defers := markOf w.heap.size :: a.defers } (w3.putObj (w.heap.size + 1) (.loop { recAt rec hp'.jump with state := .exhausted })) c3 := by
      have hturn := hs3.turn (o' := .loop { recAt rec hp'.jump with state := .exhausted }) (G' := gOf F (w.heap.size :: ds) s.hp.jump) (rc' := none) r4 rfl (fun es k e => by cases e) r3 (fun x hx => by
        obtain ⟨u1, u2, u3, u4⟩ := hs3.keep x hx
        exact ⟨u1, u2, (World.putObj_heap_other (by have := hGlt x hx; omega)).trans u3, u4⟩) (fun i l rc hf => by cases hf)
      exact h3.back (ds := w.heap.size :: ds) (by simp [hd1]) hnd hne hturn
    have hend : (Instr.endLoop (w.heap.size + 1)).run P w3 = .ok (recAt rec hp'.jump).pending (w3.putObj (w.heap.size + 1) (.loop { recAt rec hp'.jump with state := .exhausted })) := run_endLoop r4 (by
      cases hp'.jump <;> simp only [recAt] <;> rw [hrec] <;> simp)
    refine ⟨_, _, hend, ?_⟩
    cases hj : hp'.jump with
    | none =>
      have hpend : (recAt rec hp'.jump).pending = none := by rw [hj]; simp only [recAt]; rw [hrec]
      rw [hj] at hpend hback
      rw [hpend]
      simp only [hj] at hk
      exact hQ .normal _ _ _ _ hback hk
    | some e =>
      have hpend : (recAt rec hp'.jump).pending = codeOf e := by rw [hj]; simp only [recAt]; rw [hrec]
      rw [hj] at hpend hback
      rw [hpend]
      simp only [hj] at hk
      cases e with
      | normal => exact hQ .normal _ _ _ _ hback hk
      | exit id => exact wpIn_exit (hQ (.exit id) _ _ _ _ hback hk)
      | ret => exact wpIn_ret (hQ .ret _ _ _ _ hback hk)

theorem awp_ok (hT : TOK P T) (hD : DrawnOk P T) {w0 : World} {q : Nat → Prop} : ∀ (cd : Code) (F : Fr) (E : Env) (_ : EnvOk P F w0 q E) (Q' : Ex → St → Prop) (Q : Exit → Act → World → Prop) (s : St) (a : Act) (w : World) (c : Cx),
    (∀ e s' a' w' c', SR P F w0 q s' a' w' c' → Q' e s' → Q (toExit e) a' w') → SR P F w0 q s a w c → AWP T F.n cd E Q' s → cd.wpIn (FR F.r) 0 P Q a w := by
  intro cd
  induction cd with
  | skip => intro F E hE Q' Q s a w c hQ h hw; exact wpIn_skip (hQ .normal s a w c h hw)
  | ret => intro F E hE Q' Q s a w c hQ h hw; exact wpIn_ret (hQ .ret s a w c h hw)
  | exit id => intro F E hE Q' Q s a w c hQ h hw; exact wpIn_exit (hQ (.exit id) s a w c h hw)
  | seq x y ihx ihy =>
    intro F E hE Q' Q s a w c hQ h hw
    refine wpIn_seq (ihx F E hE _ _ s a w c (fun e s' a' w' c' h' hq => ?_) h hw)
    cases e with
    | normal => exact ihy F E hE Q' Q s' a' w' c' hQ h' hq
    | exit id => exact hQ (.exit id) s' a' w' c' h' hq
    | ret => exact hQ .ret s' a' w' c' h' hq
  | cond x t e iht ihe =>
    intro F E hE Q' Q s a w c hQ h hw
    unfold AWP at hw
    simp only [putF_eq] at hw
    split at hw
    · rename_i t' b hl
      have hv : VR P w c (look s.tm t') (a.tmps.getD t' undef) := h.tm t'
      have hl' : look s.tm t' = .val (.bool b) := hl
      rw [hl'] at hv
      have hb : a.eval (.tmp t') = .bool b := hv.val_inv
      have hkn : SR P F w0 q (s.put (some t') (.val (.bool b))) a w c := h.known (by rw [← hl']; exact h.tm t')
      cases b with
      | true => exact wpIn_cond_true hb (iht F E hE Q' Q _ a w c hQ hkn hw)
      | false => exact wpIn_cond_false hb (ihe F E hE Q' Q _ a w c hQ hkn hw)
    · exact hw.elim
  | block id x ih =>
    intro F E hE Q' Q s a w c hQ h hw
    refine wpIn_block (ih F E hE _ _ s a w c (fun e s' a' w' c' h' hq => ?_) h hw)
    cases e with
    | normal => exact hQ .normal s' a' w' c' h' hq
    | ret => exact hQ .ret s' a' w' c' h' hq
    | exit i =>
      simp only at hq
      cases hb : Nat.beq i id with
      | true =>
        rw [hb] at hq
        have := Nat.eq_of_beq_eq_true hb
        subst this
        simp only [toExit, Exit.inBlock, if_true]
        exact hQ .normal s' a' w' c' h' hq
      | false =>
        rw [hb] at hq
        have hne : i ≠ id := fun e => by subst e; simp at hb
        simp only [toExit, Exit.inBlock, if_neg hne]
        exact hQ (.exit i) s' a' w' c' h' hq
  | loop x ih =>
    intro F E hE Q' Q s a w c hQ h hw
    obtain ⟨pr, keep, I, ⟨s1, m, hI, hwk⟩, hround⟩ := hw
    obtain ⟨c1, h1⟩ := SR.prep pr h
    have k1 : ∀ i l rc, F.rc = some (i, l, rc) → i < (prep s pr).hp.ny := fun i l rc hrc => h1.hy i l (h1.rcd i l rc hrc).1
    have k2 : ∀ x ∈ F.G, ∀ i, x.2.2 = some i → i < (prep s pr).hp.ny := fun x hx i hi => h1.hy i _ ((h1.keep x hx).2.2.2 i hi)
    refine wp_loop_rel (fun m a w => ∃ s0 c0, I s0 m ∧ SR P F w0 q s0 a w c0) (m := m) ⟨s1, _, hI, (h1.canon keep _ _ _ k1 k2).weak hwk⟩ ?_
    rintro m a w ⟨s0, c0, hI0, h0⟩
    refine ih F E hE _ _ s0 a w c0 (fun e s' a' w' c' h' hq => ?_) h0 (hround s0 m hI0)
    cases e with
    | normal =>
      obtain ⟨s2, m2, ⟨hI2, hlt⟩, hwk2⟩ := hq
      exact ⟨m2, hlt, s2, _, hI2, (h'.canon keep _ _ _ k1 k2).weak hwk2⟩
    | exit id => exact hQ (.exit id) s' a' w' c' h' hq
    | ret => exact hQ .ret s' a' w' c' h' hq
  | region id ops draw =>
    intro F E hE Q' Q s a w c hQ h hw
    unfold AWP at hw
    split at hw
    · obtain ⟨gl, hw1, hw2⟩ := hw
      exact hD F E w0 q id ops _ Q s a w c gl hE.S hw1 (fun s' a' w' c' h' hq => hQ .normal s' a' w' c' h' hq) h hw2
    · refine wpIn_region ?_
      have := ops_ok hT hE (Q := Q) (K := fun s => Q' .normal s) (fun s' a' w' c' h' hq => hQ .normal s' a' w' c' h' hq) ops.toList 0 s a w c rfl h hw
      rwa [← List.range_eq_range', Array.length_toList] at this
  | rangeFunc g ps assign body iha ihb =>
    intro F E hE Q' Q s a w c hQ h hw
    unfold AWP at hw
    obtain ⟨hrok, hw⟩ := hw
    split at hw
    case h_2 => exact hw.elim
    rename_i f nf cap hg
    have hr0 : F.r = none := hE.rok hrok
    have hE2 : ∀ F2, EnvOk P F2 w0 q E.round := fun G2 => ⟨hE.S, hE.I, .inl rfl, fun hf => by cases hf⟩
    exact range_ok (WA := fun Q s => AWP T F.n assign E.round Q s) (WB := fun Q s => AWP T F.n body E.round Q s) hE.I hr0
      (fun F2 e1 _ _ Q' Q s a w c hQ h hw => iha F2 E.round (hE2 F2) Q' Q s a w c hQ h (by rw [e1]; exact hw))
      (fun F2 e1 _ _ Q' Q s a w c hQ h hw => ihb F2 E.round (hE2 F2) Q' Q s a w c hQ h (by rw [e1]; exact hw)) hQ h hg hw
  | _ => intro F E hE Q' Q s a w c hQ h hw; exact hw.elim

theorem getElem?_start : ∀ (args : List AV) (n t : Nat), look (start args n) t = if n ≤ t ∧ t < n + args.length then args.getD (t - n) .top else .top
  | [], n, t => by simp [start, look]
  | x :: r, n, t => by
    simp only [start, look]
    cases hb : Nat.beq n t with
    | true =>
      have := Nat.eq_of_beq_eq_true hb
      subst this
      simp
    | false =>
      have hne : n ≠ t := fun e => by subst e; simp at hb
      simp only [cond_false]
      rw [getElem?_start r (n + 1) t]
      by_cases hc : n + 1 ≤ t ∧ t < n + 1 + r.length
      · rw [if_pos hc, if_pos (by simp; omega)]
        rw [show t - n = (t - (n + 1)) + 1 from by omega]
        simp
      · rw [if_neg hc, if_neg (by simp; omega)]

/-- One result, read. -/
def resSem (tmps : Array Value) : ResultVar → Sem Value
  | .tmp t => pure (tmps.getD t undef)
  | .cell a t => do loadVar t (← asAddr (tmps.getD a undef))

theorem results_eq (fn : Func) (tmps : Array Value) : results fn tmps = (do let vs ← fn.results.mapM (resSem tmps); pure (if h : vs.size = 1 then vs[0] else .tuple vs)) := by
  unfold results
  congr 1

/-- The results, read. -/
theorem results_ok (hT : TOK P T) {F : Fr} {w0 w : World} {q : Nat → Prop} {s : St} {a : Act} {c : Cx} (h : SR P F w0 q s a w c) : ∀ (rs : List ResultVar) (l : List AV), resAV T s rs = some l →
    ∃ vs : List Value, (rs.mapM (resSem a.tmps)).run P w = .ok vs w ∧ vs.length = l.length ∧ ∀ (i : Nat) x, l[i]? = some x → VR P w c x (vs.getD i undef)
  | [], l, hl => by simp [resAV] at hl; subst hl; exact ⟨[], by simp, rfl, by simp⟩
  | .tmp t :: r, l, hl => by
    simp only [resAV] at hl
    split at hl
    · rename_i l' hl'
      cases hl
      obtain ⟨vs, g1, g2, g3⟩ := results_ok hT h r l' hl'
      refine ⟨a.tmps.getD t undef :: vs, by simp [List.mapM_cons, resSem, g1], by simp [g2], fun i x hi => ?_⟩
      cases i with
      | zero => simp at hi; subst hi; exact h.tm t
      | succ i => exact g3 i x (by simpa using hi)
    · cases hl
  | .cell rr t :: r, l, hl => by
    simp only [resAV] at hl
    split at hl
    · rename_i l' ti b ver idx sub hl' ht hlook
      split at hl
      · rename_i k hk
        split at hl
        · rename_i v hv
          cases hl
          obtain ⟨vs, g1, g2, g3⟩ := results_ok hT h r l' hl'
          have hx := h.tm rr
          rw [hlook] at hx
          obtain ⟨hkb, hkv⟩ := block_some hk
          obtain ⟨oi, hO, hle, _, hv'⟩ := hx.optr_inv
          have hb := h.hr.blk b k oi hkb hO
          obtain ⟨hidx, hu⟩ := hv' (by rw [hb.ver, hkv])
          obtain ⟨u, p1, p2⟩ := load_ofCells (P := P) (w := w) (c := c) hT ht hv (b := oi.blk) (off := oi.lo + (idx * oi.es + sub)) fun j y hy => by
            rw [getElem?_drop'] at hy
            obtain ⟨u, h1, h2, h3, _⟩ := hb.cell (by rw [← hb.n]; exact hidx) hy
            exact ⟨u, by rw [← h1]; congr 2; omega, h2, h3⟩
          have p1' : (loadVar t ⟨oi.blk, oi.lo + (idx * oi.es + sub), none⟩).run P w = .ok u w := by simpa [Instr.loadAt, Instr.sureAddr] using p1
          refine ⟨u :: vs, by simp [List.mapM_cons, resSem, -Array.getD_eq_getD_getElem?, hu, asAddr, p1', g1], by simp [g2], fun i x hi => ?_⟩
          cases i with
          | zero => simp at hi; subst hi; exact p2
          | succ i => exact g3 i x (by simpa using hi)
        · cases hl
      · cases hl
    · cases hl

theorem run_results {fn : Func} {a : Act} {w : World} {vs : List Value} (h : (fn.results.toList.mapM (resSem a.tmps)).run P w = .ok vs w) :
    (results fn a.tmps).run P w = .ok (if vs.length = 1 then vs.getD 0 undef else .tuple vs.toArray) w := by
  rw [results_eq, Array.mapM_eq_mapM_toList]
  simp only [Sem.run_bind, Sem.run_map, h, Result.andThen_ok, Sem.run_pure]
  congr 1
  by_cases hl : vs.length = 1
  · match vs, hl with
    | [x], _ => simp
  · simp [hl]
end
end Go.Tr

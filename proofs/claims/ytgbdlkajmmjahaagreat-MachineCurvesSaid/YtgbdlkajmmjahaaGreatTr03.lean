/- What a function's contract says; a call by its contract. Conditions: none. -/
import Derived.Test.YtgbdlkajmmjahaaGreatTr02
import Derived.Laws.IdiomRangeMap
set_option linter.unusedSectionVars false
set_option linter.unnecessarySimpa false
set_option linter.unusedVariables false
set_option linter.unusedSimpArgs false

namespace Go.Tr
open Go Go.RowKit

/-- What is handed back is memory of its own: from number n on its slices are blocks. -/
def FreshAt (P : Program) (B : Nat) (w' : World) (n : Nat) (r : AV) (u : Value) : Prop :=
  ∀ yv : Nat → Option Nat, ∃ (O' : Nat → Option OI) (q' : Nat → Prop),
    (∀ b oi, O' b = some oi → n ≤ b ∧ b < n + (adopt r n).2.length ∧ (oi.cap ≠ 0 → B ≤ oi.blk ∧ oi.blk < w'.heap.size ∧ ¬ q' oi.blk)) ∧
    (∀ b, q' b → B ≤ b ∧ b < w'.heap.size) ∧
    VR P w' ⟨q', O', fun _ => none, yv⟩ (adopt r n).1 u ∧
    (∀ (i : Nat) (k : AB) (oi : OI), (adopt r n).2[i]? = some k → O' (n + i) = some oi → BR P w' ⟨q', O', fun _ => none, yv⟩ k oi) ∧
    (∀ b b' oi oi', O' b = some oi → O' b' = some oi' → b ≠ b' → oi.blk ≠ oi'.blk ∨ oi.cap = 0 ∨ oi'.cap = 0)

/-- The package's variables hold what is known of them. -/
def GOk [GTab] (P : Program) (w : World) (q : Nat → Prop) : Prop := ∀ (g : Nat) (l : List AV), GTab.gt g = some l → VT P w q (.rptr l) (.pointer (some ⟨g, 0, none⟩))

theorem GOk.mono [GTab] {P : Program} {w w' : World} {p p' : Nat → Prop} (h : GOk P w p) (hp : ∀ b, p b → p' b) (hb : ∀ b, p b → w'.heap[b]? = w.heap[b]?) : GOk P w' p' := fun g l hg => (h g l hg).mono hp hb

/-- The contract: called with arguments that read so, the function returns what reads so, and turns nothing that was there. fr: the result's slices are memory of its own. -/
def Sound1 [GTab] (P : Program) (f : FuncId) (args : List AV) (r : AV) (fr : Bool) : Prop :=
  (∀ as w, (callFunc f as).run P w = .ok (.enter f as) w) ∧
  ∀ (w : World) (q : Nat → Prop) (vs : Array Value), (∀ b, q b → b < w.heap.size) → GOk P w q → vs.size = args.length → (∀ (i : Nat) x, args[i]? = some x → VT P w q x (vs.getD i undef)) →
    Calls P f vs w fun e w' => ∃ u, e = .returned u ∧ Below w.heap.size w w' ∧
      match fr with
      | false => VT P w' (fun b => q b ∨ (w.heap.size ≤ b ∧ b < w'.heap.size)) r u
      | true => ∀ n, FreshAt P w.heap.size w' n r u

/-- A function that writes over the rows of its first argument: rows of so many cells, none of them a reference to a block of the call's own. -/
def Sound2 [GTab] (P : Program) (f : FuncId) (es len : Nat) (R : Nat → List AV) (rest : List AV) (G : Nat → List AV) : Prop :=
  (∀ as w, (callFunc f as).run P w = .ok (.enter f as) w) ∧
  ∀ (w : World) (q : Nat → Prop) (vs : Array Value) (blk off cap : Nat) (cs : Array Value) (t : TypeId), (∀ b, q b → b < w.heap.size) → GOk P w q → ¬ q blk → w.heap[blk]? = some (.cells cs t (0, 0)) →
    off + len * es ≤ cs.size → (∀ v ∈ cs.toList, v.oneCell' = true) → len ≤ cap → (∀ i, i < len → (R i).length = es) → (∀ i j x, i < len → (R i)[j]? = some x → VT P w q x (cs.getD (off + (i * es + j)) undef)) →
    vs.size = rest.length → (∀ (i : Nat) x, rest[i]? = some x → VT P w q x (vs.getD i undef)) →
    Calls P f (#[.slice (some ⟨blk, off, none⟩) len cap] ++ vs) w fun e w' => e = .returned (.tuple #[]) ∧
      ∃ news : Array Value, news.size = len * es ∧ (∀ v ∈ news.toList, v.oneCell' = true) ∧ (∀ i, i < len → (G i).length = es) ∧
        (∀ (i j : Nat) (y : AV), i < len → (G i)[j]? = some y → VT P w q y (news.getD (i * es + j) undef)) ∧
        Below w.heap.size (w.setRow blk (cs.toList.take off ++ news.toList ++ cs.toList.drop (off + news.toList.length)).toArray) w'

section
variable {P : Program} {T : Nat → Option TI} {w w' : World} {c c' : Cx} {base : Nat} {hp hp' : Hp}

theorem hasNat_iff {l : List Nat} {n : Nat} : hasNat l n = true ↔ n ∈ l := by
  unfold hasNat
  rw [List.any_eq_true]
  constructor
  · rintro ⟨x, hx, h⟩
    have := Nat.eq_of_beq_eq_true h
    exact this ▸ hx
  · intro h
    exact ⟨n, h, Nat.beq_refl n⟩

theorem roB_get (ids : List Nat) : ∀ (l : List AB) (n i : Nat), (roB ids n l)[i]? = (l[i]?).map fun k => bif hasNat ids (n + i) then { k with ro := true } else k
  | [], n, i => by simp [roB]
  | k :: r, n, 0 => by simp [roB]
  | k :: r, n, i + 1 => by
    simp only [roB, List.getElem?_cons_succ]
    rw [roB_get ids r (n + 1) i, show n + 1 + i = n + (i + 1) from by omega]
theorem roM_get (ids : List Nat) : ∀ (l : List AM) (n i : Nat), (roM ids n l)[i]? = (l[i]?).map fun k => bif hasNat ids (n + i) then { k with ro := true } else k
  | [], n, i => by simp [roM]
  | k :: r, n, 0 => by simp [roM]
  | k :: r, n, i + 1 => by
    simp only [roM, List.getElem?_cons_succ]
    rw [roM_get ids r (n + 1) i, show n + 1 + i = n + (i + 1) from by omega]
theorem roB_length (ids : List Nat) : ∀ (l : List AB) (n : Nat), (roB ids n l).length = l.length
  | [], n => by simp [roB]
  | k :: r, n => by simp [roB, roB_length ids r (n + 1)]
theorem roM_length (ids : List Nat) : ∀ (l : List AM) (n : Nat), (roM ids n l).length = l.length
  | [], n => by simp [roM]
  | k :: r, n => by simp [roM, roM_length ids r (n + 1)]

theorem roB_nil : ∀ (n : Nat) (l : List AB), roB [] n l = l
  | _, [] => rfl
  | n, k :: r => by rw [roB, roB_nil (n + 1) r]; rfl
theorem roM_nil : ∀ (n : Nat) (l : List AM), roM [] n l = l
  | _, [] => rfl
  | n, k :: r => by rw [roM, roM_nil (n + 1) r]; rfl

def roHp (hp : Hp) (bs ms : List Nat) : Hp := { hp with blocks := roB bs 0 hp.blocks, maps := roM ms 0 hp.maps }

/-- Behind a call whose result may share memory with its arguments. -/
theorem qout_shared (h : HR P base w c hp) (hw : Below w.heap.size w w') {bs ms : List Nat} (hbs : ∀ i ∈ bs, i < hp.blocks.length) (hms : ∀ i ∈ ms, i < hp.maps.length) :
    QOut P base w c hp w' { c with p := fun b => qOf c (bs, ms) b ∨ (w.heap.size ≤ b ∧ b < w'.heap.size) } (roHp hp bs ms) := by
  have hqlt : ∀ b, qOf c (bs, ms) b → b < w.heap.size := fun b hb => by
    rcases hb with hb | ⟨i, _, oi, hO, hc, rfl⟩ | ⟨i, _, hN⟩
    · exact h.st b hb
    · exact (h.own i oi hO hc).2
    · exact (h.mown i b hN).2
  have e : Ext w.heap.size w c w' { c with p := fun b => qOf c (bs, ms) b ∨ (w.heap.size ≤ b ∧ b < w'.heap.size) } :=
    ⟨hw, fun _ h => .inl (.inl h), fun b hb => hw.block b (h.st b hb), fun _ oi h => ⟨oi, h, Nat.le_refl _, fun _ => rfl⟩, fun _ _ h => h, fun _ _ h => h⟩
  have hs := hw.size
  have hgb : ∀ (i : Nat) (k : AB), (roB bs 0 hp.blocks)[i]? = some k → ∃ k0, hp.blocks[i]? = some k0 ∧ ABro k0 k := fun i k hk => by
    rw [roB_get] at hk
    cases hk0 : hp.blocks[i]? with
    | none => rw [hk0] at hk; cases hk
    | some k0 =>
      rw [hk0] at hk
      simp only [Option.map_some, Option.some.injEq] at hk
      refine ⟨k0, rfl, ?_⟩
      cases hh : hasNat bs (0 + i) with
      | true => rw [hh] at hk; exact .inr hk.symm
      | false => rw [hh] at hk; exact .inl hk.symm
  have hgm : ∀ (i : Nat) (k : AM), (roM ms 0 hp.maps)[i]? = some k → ∃ k0, hp.maps[i]? = some k0 ∧ AMro k0 k := fun i k hk => by
    rw [roM_get] at hk
    cases hk0 : hp.maps[i]? with
    | none => rw [hk0] at hk; cases hk
    | some k0 =>
      rw [hk0] at hk
      simp only [Option.map_some, Option.some.injEq] at hk
      refine ⟨k0, rfl, ?_⟩
      cases hh : hasNat ms (0 + i) with
      | true => rw [hh] at hk; exact .inr hk.symm
      | false => rw [hh] at hk; exact .inl hk.symm
  refine ⟨⟨fun b k oi hk hO => ?_, h.sep, fun b oi hO hc => ?_, fun b hb => ?_, fun b m r hk hO => ?_, fun b r hO => ?_, h.msep, h.bm⟩, e, ⟨fun i k hk => ?_, fun i k hk => ?_⟩, fun _ _ h => h, fun _ _ h => .inl h, fun _ _ h => .inl h, fun b oi h1 h2 h3 => ?_, fun b r h1 h3 => ?_, fun b hb => ?_, rfl⟩
  · obtain ⟨k0, hk0, er⟩ := hgb b k hk
    exact (h.blk_old e hk0 hO).ro er
  · have := h.own b oi hO hc; omega
  · rcases hb with hb | hb
    · have := hqlt b hb; omega
    · exact hb.2
  · obtain ⟨k0, hk0, er⟩ := hgm b m hk
    exact (h.map_old e hk0 hO).ro er
  · have := h.mown b r hO; omega
  · refine ⟨_, by simp only [roHp]; rw [roB_get, hk]; rfl, ?_⟩
    cases hh : hasNat bs (0 + i) with
    | true => exact .inr rfl
    | false => exact .inl rfl
  · refine ⟨_, by simp only [roHp]; rw [roM_get, hk]; rfl, ?_⟩
    cases hh : hasNat ms (0 + i) with
    | true => exact .inr rfl
    | false => exact .inl rfl
  · have hlt := (h.own b oi h1 h2).2
    rcases h3 with (h3 | ⟨i, hi, oi2, hO2, hc2, he⟩ | ⟨i, hi, hN⟩) | h3
    · exact .inl ⟨h1, h3⟩
    · have hib : i = b := by
        by_cases hib : i = b
        · exact hib
        · rcases h.sep i b oi2 oi hO2 h1 hib with h | h | h
          · exact absurd he h
          · exact absurd h hc2
          · exact absurd h h2
      subst hib
      have hl := hbs i hi
      refine .inr ⟨{ hp.blocks[i] with ro := true }, ?_, rfl⟩
      simp only [roHp]
      rw [roB_get, List.getElem?_eq_getElem hl, Nat.zero_add]
      simp [hasNat_iff.2 hi]
    · exact absurd rfl (h.bm b i oi _ h1 h2 hN)
    · omega
  · have hlt := (h.mown b r h1).2
    rcases h3 with (h3 | ⟨i, hi, oi2, hO2, hc2, he⟩ | ⟨i, hi, hN⟩) | h3
    · exact .inl ⟨h1, h3⟩
    · exact absurd he (h.bm i b oi2 r hO2 hc2 h1)
    · have hib := h.msep i b r hN h1
      subst hib
      have hl := hms i hi
      refine .inr ⟨{ hp.maps[i] with ro := true }, ?_, rfl⟩
      simp only [roHp]
      rw [roM_get, List.getElem?_eq_getElem hl, Nat.zero_add]
      simp [hasNat_iff.2 hi]
    · omega
  · rcases hb with (hb | ⟨i, _, oi, hO, hc, he⟩ | ⟨i, _, hN⟩) | hb
    · exact .inl hb
    · exact .inr (.inr (.inl ⟨i, oi, hO, hc, he⟩))
    · exact .inr (.inr (.inr ⟨i, hN⟩))
    · exact .inr (.inl hb.1)

/-- Behind a call whose result is memory of its own. -/
theorem qout_fresh (h : HR P base w c hp) (hbase : base ≤ w.heap.size) (hw : Below w.heap.size w w') {r : AV} {u : Value} (hf : FreshAt P w.heap.size w' hp.blocks.length r u)
    (hfree : ∀ b, hp.blocks.length ≤ b → b < hp.blocks.length + (adopt r hp.blocks.length).2.length → c.O b = none) :
    ∃ c', QOut P base w c hp w' c' { hp with blocks := hp.blocks ++ (adopt r hp.blocks.length).2 } ∧ VR P w' c' (adopt r hp.blocks.length).1 u := by
  obtain ⟨O', q', f1, f2, f3, f4, f5⟩ := hf c.y
  generalize hA : adopt r hp.blocks.length = A at *
  let c' : Cx := { p := fun b => c.p b ∨ q' b, O := fun b => match O' b with | some oi => some oi | none => c.O b, N := c.N, y := c.y }
  have hs := hw.size
  have hcase : ∀ b oi, c'.O b = some oi → O' b = some oi ∨ (O' b = none ∧ c.O b = some oi) := fun b oi hb => by
    simp only [c'] at hb
    cases hO' : O' b with
    | some o2 => rw [hO'] at hb; simp only at hb; exact .inl hb
    | none => rw [hO'] at hb; simp only at hb; exact .inr ⟨rfl, hb⟩
  have hnew : ∀ b oi, O' b = some oi → c'.O b = some oi := fun b oi hb => by simp only [c', hb]
  have hold : ∀ b oi, c.O b = some oi → c'.O b = some oi := fun b oi hb => by
    simp only [c']
    cases hO' : O' b with
    | some o2 => have := (f1 b o2 hO'); rw [hfree b this.1 this.2.1] at hb; cases hb
    | none => exact hb
  have e : Ext w.heap.size w c w' c' := ⟨hw, fun _ h => .inl h, fun b hb => hw.block b (h.st b hb), fun b oi hb => ⟨oi, hold b oi hb, Nat.le_refl _, fun _ => rfl⟩, fun _ _ h => h, fun _ _ h => h⟩
  have e2 : Ext 0 w' ⟨q', O', fun _ => none, c.y⟩ w' c' := ⟨Below.refl _ _, fun _ h => .inr h, fun _ _ => rfl, fun b oi hb => ⟨oi, hnew b oi hb, Nat.le_refl _, fun _ => rfl⟩, (fun b r hb => by cases hb), fun _ _ h => h⟩
  refine ⟨c', ⟨⟨fun b k oi hk hO => ?_, fun b b' o1 o2 h1 h2 hne => ?_, fun b oi hO hc => ?_, fun b hb => ?_, fun b m r hk hO => h.map_old e hk hO, fun b r hO => ?_, h.msep, fun b i oi r hO hc hN => ?_⟩, e,
    ⟨fun i x hx => ⟨x, ?_, .refl _⟩, fun i x hx => ⟨x, hx, .refl _⟩⟩, hold, fun b oi hb => ?_, fun _ _ h => .inl h, fun b oi h1 h2 h3 => ?_, fun b r h1 h3 => .inl ⟨h1, ?_⟩, fun b hb => hb.imp id fun hb => .inl (f2 b hb).1, rfl⟩, f3.mono e2⟩
  · rcases hcase b oi hO with hO' | ⟨_, hO'⟩
    · have hb := f1 b oi hO'
      obtain ⟨i, rfl⟩ : ∃ i, b = hp.blocks.length + i := ⟨b - hp.blocks.length, by omega⟩
      have hk' : A.2[i]? = some k := by
        rw [List.getElem?_append_right (by omega)] at hk
        simpa using hk
      exact (f4 i k oi hk' hO').mono e2 fun _ => rfl
    · have hlt : b < hp.blocks.length := by
        rcases Nat.lt_or_ge b hp.blocks.length with hlt | hge
        · exact hlt
        · have := (List.getElem?_eq_some_iff.1 hk).1
          simp at this
          rw [hfree b hge this] at hO'; cases hO'
      rw [List.getElem?_append_left hlt] at hk
      exact h.blk_old e hk hO'
  · rcases hcase b o1 h1 with g1 | ⟨_, g1⟩ <;> rcases hcase b' o2 h2 with g2 | ⟨_, g2⟩
    · exact f5 b b' o1 o2 g1 g2 hne
    · by_cases hc : o1.cap = 0
      · exact .inr (.inl hc)
      · by_cases hc2 : o2.cap = 0
        · exact .inr (.inr hc2)
        · have := (f1 b o1 g1).2.2 hc; have := h.own b' o2 g2 hc2; exact .inl (by omega)
    · by_cases hc : o2.cap = 0
      · exact .inr (.inr hc)
      · by_cases hc2 : o1.cap = 0
        · exact .inr (.inl hc2)
        · have := (f1 b' o2 g2).2.2 hc; have := h.own b o1 g1 hc2; exact .inl (by omega)
    · exact h.sep b b' o1 o2 g1 g2 hne
  · rcases hcase b oi hO with g | ⟨_, g⟩
    · have := (f1 b oi g).2.2 hc; omega
    · have := h.own b oi g hc; omega
  · rcases hb with hb | hb
    · have := h.st b hb; omega
    · exact (f2 b hb).2
  · have := h.mown b r hO; omega
  · rcases hcase b oi hO with g | ⟨_, g⟩
    · have := (f1 b oi g).2.2 hc; have := h.mown i r hN; omega
    · exact h.bm b i oi r g hc hN
  · rw [List.getElem?_append_left (List.getElem?_eq_some_iff.1 hx).1]; exact hx
  · rcases hcase b oi hb with g | ⟨_, g⟩
    · have := f1 b oi g; exact .inr ⟨this.1, by simp; exact this.2.1⟩
    · exact .inl g
  · rcases hcase b oi h1 with g | ⟨_, g⟩
    · have := (f1 b oi g).2.2 h2
      rcases h3 with h3 | h3
      · have := h.st _ h3; omega
      · exact absurd h3 this.2.2
    · rcases h3 with h3 | h3
      · exact .inl ⟨g, h3⟩
      · have := h.own b oi g h2; have := f2 _ h3; omega
  · rcases h3 with h3 | h3
    · exact h3
    · have := h.mown b r h1; have := f2 _ h3; omega

theorem refsL (l : List AV) : (∀ i ∈ (l.map (refs hp 5)).flatMap (·.1), i < hp.blocks.length) ∧ (∀ i ∈ (l.map (refs hp 5)).flatMap (·.2), i < hp.maps.length) := by
  refine ⟨fun i hi => ?_, fun i hi => ?_⟩
  · obtain ⟨q, hq, hi⟩ := List.mem_flatMap.1 hi
    obtain ⟨y, _, rfl⟩ := List.mem_map.1 hq
    exact (refs_lt 5 y).1 i hi
  · obtain ⟨q, hq, hi⟩ := List.mem_flatMap.1 hi
    obtain ⟨y, _, rfl⟩ := List.mem_map.1 hq
    exact (refs_lt 5 y).2 i hi

/-- A call by its contract. -/
theorem op_call [GTab] (h : HR P base w c hp) (hg : GOk P w c.p) (hbase : base ≤ w.heap.size) {o : Oper} {f : Operand} {args : Array Operand} {ts : Array TypeId} {ρ : Operand → AV} {r : Operand → Value} (hop : o.op = .call { callee := .value f, args, argTypes := ts })
    (hf : VR P w c (ρ f) (r f)) (hx : ∀ x ∈ args, VR P w c (ρ x) (r x)) {g : FuncId} {as : List AV} {bs ms : List Nat} (hev : opEv T o ρ hp = .call g as bs ms) {res : AV} {fr : Bool} (hS : Sound1 P g as res fr)
    (hfree : fr = true → ∀ b, hp.blocks.length ≤ b → b < hp.blocks.length + (adopt res hp.blocks.length).2.length → c.O b = none) :
    ∃ vs, (execOp r o).run P w = .ok (.enter g vs) w ∧ Calls P g vs w fun e w' => ∃ u, e = .returned u ∧ ∃ c',
      match fr with
      | true => QOut P base w c hp w' c' { hp with blocks := hp.blocks ++ (adopt res hp.blocks.length).2 } ∧ VR P w' c' (adopt res hp.blocks.length).1 u
      | false => QOut P base w c hp w' c' (roHp hp bs ms) ∧ VR P w' c' res u := by
  obtain ⟨hin, hcalls⟩ := hS
  unfold opEv at hev
  rw [hop] at hev
  simp only at hev
  split at hev
  · rename_i g' nf cap hrf
    simp only [Res.call.injEq] at hev
    obtain ⟨rfl, rfl, rfl, rfl⟩ := hev
    rw [hrf] at hf
    obtain ⟨f0, cv, hcv, hf0, hcs, hcr⟩ := hf.func_inv
    have hcs' : f0.size + cv.size = cap.length := by simpa using hcs
    refine ⟨f0 ++ args.map r ++ cv, ?_, ?_⟩
    · unfold execOp
      simp only [hop, resolve, hcv, Deferred.ofValue, Sem.run_bind, Sem.run_pure, Result.andThen_ok, invoke]
      simpa using hin (f0 ++ args.map r ++ cv) w
    · -- the arguments as trees
      let L : List AV := cap.take nf ++ args.toList.map ρ ++ cap.drop nf
      have hLe : (cap.take nf).map (refs hp 5) ++ (args.toList.map fun x => refs hp 5 (ρ x)) ++ (cap.drop nf).map (refs hp 5) = L.map (refs hp 5) := by simp [L, -List.map_take, -List.map_drop]
      have hLf : (cap.take nf).map (fz hp) ++ (args.toList.map fun x => fz hp (ρ x)) ++ (cap.drop nf).map (fz hp) = L.map (fz hp) := by simp [L, -List.map_take, -List.map_drop]
      have hLr : ∀ (i : Nat) x, L[i]? = some x → VR P w c x ((f0 ++ args.map r ++ cv).getD i undef) := fun i x hi => by
        simp only [L] at hi
        have htl : (cap.take nf).length = f0.size := by simp; omega
        simp only [Array.getD_eq_getD_getElem?] at hcr ⊢
        by_cases h1 : i < f0.size
        · rw [List.append_assoc, List.getElem?_append_left (by omega), List.getElem?_take, if_pos (by omega)] at hi
          have := hcr i x hi
          rw [Array.getElem?_append_left h1] at this
          rw [Array.append_assoc, Array.getElem?_append_left h1]
          exact this
        · by_cases hlt : i < f0.size + args.size
          · rw [List.append_assoc, List.getElem?_append_right (by omega), List.getElem?_append_left (by simp; omega), List.getElem?_map] at hi
            rw [Array.append_assoc, Array.getElem?_append_right (by omega), Array.getElem?_append_left (by simp; omega)]
            rw [htl] at hi
            have hlt' : i - f0.size < args.size := by omega
            have ha : args.toList[i - f0.size]? = some args[i - f0.size] := by simp [hlt']
            rw [ha] at hi
            simp only [Option.map_some, Option.some.injEq] at hi
            subst hi
            simpa [hlt'] using hx args[i - f0.size] (by simp)
          · have hll : (cap.take nf ++ args.toList.map ρ).length = f0.size + args.size := by rw [List.length_append, htl]; simp
            rw [List.getElem?_append_right (by omega), hll, List.getElem?_drop] at hi
            rw [Array.getElem?_append_right (by simp; omega)]
            have := hcr _ x hi
            rw [Array.getElem?_append_right (by omega)] at this
            have e : i - (f0 ++ args.map r).size = nf + (i - (f0.size + args.size)) - f0.size := by simp; omega
            rw [e]
            exact this
      rw [hLe] at *
      rw [hLf] at hcalls
      obtain ⟨l1, l2⟩ := refsL (hp := hp) L
      have hq : ∀ b, qOf c ((L.map (refs hp 5)).flatMap (·.1), (L.map (refs hp 5)).flatMap (·.2)) b → b < w.heap.size := fun b hb => by
        rcases hb with hb | ⟨i, _, oi, hO, hc, rfl⟩ | ⟨i, _, hN⟩
        · exact h.st b hb
        · exact (h.own i oi hO hc).2
        · exact (h.mown i b hN).2
      have hsz : (f0 ++ args.map r ++ cv).size = (L.map (fz hp)).length := by simp [L]; omega
      refine (hcalls w (qOf c ((L.map (refs hp 5)).flatMap (·.1), (L.map (refs hp 5)).flatMap (·.2))) (f0 ++ args.map r ++ cv) hq (hg.mono (fun b hb => .inl hb) fun _ _ => rfl) hsz fun i x hi => ?_).mono ?_
      · rw [List.getElem?_map] at hi
        cases hl : L[i]? with
        | none => rw [hl] at hi; cases hi
        | some y =>
          rw [hl] at hi
          simp only [Option.map_some, Option.some.injEq] at hi
          subst hi
          have hm := List.mem_of_getElem? hl
          exact (freeze_ok h 5 (hLr i y hl)).weaken fun b hb => qOf_mono (m := ((L.map (refs hp 5)).flatMap (·.1), (L.map (refs hp 5)).flatMap (·.2)))
            (fun q hq => List.mem_flatMap.2 ⟨_, List.mem_map.2 ⟨y, hm, rfl⟩, hq⟩) (fun q hq => List.mem_flatMap.2 ⟨_, List.mem_map.2 ⟨y, hm, rfl⟩, hq⟩) hb
      · rintro e w' ⟨u, rfl, hw, hres⟩
        refine ⟨u, rfl, ?_⟩
        cases fr with
        | true =>
          obtain ⟨c', h1, h2⟩ := qout_fresh h hbase hw (hres hp.blocks.length) (hfree rfl)
          exact ⟨c', h1, h2⟩
        | false => exact ⟨_, qout_shared h hw l1 l2, .tree hres⟩
  · cases hev
  · cases hev

/-- The arguments of a call as they are. -/
theorem raw_args {o : Oper} {f : Operand} {args : Array Operand} {ts : Array TypeId} {ρ : Operand → AV} {r : Operand → Value} (hop : o.op = .call { callee := .value f, args, argTypes := ts })
    (hf : VR P w c (ρ f) (r f)) (hx : ∀ x ∈ args, VR P w c (ρ x) (r x)) {g : FuncId} {as : List AV} {bs ms : List Nat} (hev : opEv T o ρ hp = .call g as bs ms) :
    ∃ vs : Array Value, vs.size = (rawArgs o ρ).length ∧ ∀ (i : Nat) x, (rawArgs o ρ)[i]? = some x → VR P w c x (vs.getD i undef) := by
  unfold opEv at hev
  rw [hop] at hev
  simp only at hev
  split at hev
  · rename_i g' nf cap hrf
    simp only [Res.call.injEq] at hev
    obtain ⟨rfl, rfl, rfl, rfl⟩ := hev
    rw [hrf] at hf
    obtain ⟨f0, cv, hcv, hf0, hcs, hcr⟩ := hf.func_inv
    have hcs' : f0.size + cv.size = cap.length := by simpa using hcs
    have hraw : rawArgs o ρ = cap.take nf ++ args.toList.map ρ ++ cap.drop nf := by
      unfold rawArgs
      rw [hop]
      simp only
      rw [hrf]
    refine ⟨f0 ++ args.map r ++ cv, ?_, ?_⟩
    · rw [hraw]; simp; omega
    · rw [hraw]
      intro i x hi
      have htl : (cap.take nf).length = f0.size := by simp; omega
      simp only [Array.getD_eq_getD_getElem?] at hcr ⊢
      by_cases h1 : i < f0.size
      · rw [List.append_assoc, List.getElem?_append_left (by omega), List.getElem?_take, if_pos (by omega)] at hi
        have := hcr i x hi
        rw [Array.getElem?_append_left h1] at this
        rw [Array.append_assoc, Array.getElem?_append_left h1]
        exact this
      · by_cases hlt : i < f0.size + args.size
        · rw [List.append_assoc, List.getElem?_append_right (by omega), List.getElem?_append_left (by simp; omega), List.getElem?_map] at hi
          rw [Array.append_assoc, Array.getElem?_append_right (by omega), Array.getElem?_append_left (by simp; omega)]
          rw [htl] at hi
          have hlt' : i - f0.size < args.size := by omega
          have ha : args.toList[i - f0.size]? = some args[i - f0.size] := by simp [hlt']
          rw [ha] at hi
          simp only [Option.map_some, Option.some.injEq] at hi
          subst hi
          simpa [hlt'] using hx args[i - f0.size] (by simp)
        · have hll : (cap.take nf ++ args.toList.map ρ).length = f0.size + args.size := by rw [List.length_append, htl]; simp
          rw [List.getElem?_append_right (by omega), hll, List.getElem?_drop] at hi
          rw [Array.getElem?_append_right (by simp; omega)]
          have := hcr _ x hi
          rw [Array.getElem?_append_right (by omega)] at this
          have e : i - (f0 ++ args.map r).size = nf + (i - (f0.size + args.size)) - f0.size := by simp; omega
          rw [e]
          exact this
  · cases hev
  · cases hev

/-- The arguments of a call as they are. -/
theorem op_raw {o : Oper} {f : Operand} {args : Array Operand} {ts : Array TypeId} {ρ : Operand → AV} {r : Operand → Value} (hop : o.op = .call { callee := .value f, args, argTypes := ts })
    (hf : VR P w c (ρ f) (r f)) (hx : ∀ x ∈ args, VR P w c (ρ x) (r x)) {g : FuncId} {as : List AV} {bs ms : List Nat} (hev : opEv T o ρ hp = .call g as bs ms) (hin : ∀ as w, (callFunc g as).run P w = .ok (.enter g as) w) :
    ∃ vs : Array Value, (execOp r o).run P w = .ok (.enter g vs) w ∧ vs.size = (rawArgs o ρ).length ∧ ∀ (i : Nat) x, (rawArgs o ρ)[i]? = some x → VR P w c x (vs.getD i undef) := by
  unfold opEv at hev
  rw [hop] at hev
  simp only at hev
  split at hev
  · rename_i g' nf cap hrf
    simp only [Res.call.injEq] at hev
    obtain ⟨rfl, rfl, rfl, rfl⟩ := hev
    rw [hrf] at hf
    obtain ⟨f0, cv, hcv, hf0, hcs, hcr⟩ := hf.func_inv
    have hcs' : f0.size + cv.size = cap.length := by simpa using hcs
    have hraw : rawArgs o ρ = cap.take nf ++ args.toList.map ρ ++ cap.drop nf := by
      unfold rawArgs
      rw [hop]
      simp only
      rw [hrf]
    refine ⟨f0 ++ args.map r ++ cv, ?_, ?_, ?_⟩
    · unfold execOp
      simp only [hop, resolve, hcv, Deferred.ofValue, Sem.run_bind, Sem.run_pure, Result.andThen_ok, invoke]
      simpa using hin (f0 ++ args.map r ++ cv) w
    · rw [hraw]; simp; omega
    · rw [hraw]
      intro i x hi
      have htl : (cap.take nf).length = f0.size := by simp; omega
      simp only [Array.getD_eq_getD_getElem?] at hcr ⊢
      by_cases h1 : i < f0.size
      · rw [List.append_assoc, List.getElem?_append_left (by omega), List.getElem?_take, if_pos (by omega)] at hi
        have := hcr i x hi
        rw [Array.getElem?_append_left h1] at this
        rw [Array.append_assoc, Array.getElem?_append_left h1]
        exact this
      · by_cases hlt : i < f0.size + args.size
        · rw [List.append_assoc, List.getElem?_append_right (by omega), List.getElem?_append_left (by simp; omega), List.getElem?_map] at hi
          rw [Array.append_assoc, Array.getElem?_append_right (by omega), Array.getElem?_append_left (by simp; omega)]
          rw [htl] at hi
          have hlt' : i - f0.size < args.size := by omega
          have ha : args.toList[i - f0.size]? = some args[i - f0.size] := by simp [hlt']
          rw [ha] at hi
          simp only [Option.map_some, Option.some.injEq] at hi
          subst hi
          simpa [hlt'] using hx args[i - f0.size] (by simp)
        · have hll : (cap.take nf ++ args.toList.map ρ).length = f0.size + args.size := by rw [List.length_append, htl]; simp
          rw [List.getElem?_append_right (by omega), hll, List.getElem?_drop] at hi
          rw [Array.getElem?_append_right (by simp; omega)]
          have := hcr _ x hi
          rw [Array.getElem?_append_right (by omega)] at this
          have e : i - (f0 ++ args.map r).size = nf + (i - (f0.size + args.size)) - f0.size := by simp; omega
          rw [e]
          exact this
  · cases hev
  · cases hev
end
end Go.Tr

/- All operations together. Conditions: none. -/
namespace Go.Tr
open Go Go.RowKit

section
variable {P : Program} {T : Nat → Option TI} {w w' : World} {c c' : Cx} {base : Nat} {hp hp' : Hp}

def QuietOut (P : Program) (base : Nat) (w : World) (c : Cx) (hp hp' : Hp) (x : Sem Next) (v : AV) : Prop :=
  ∃ u w' c', x.run P w = .ok (.value u) w' ∧ QOut P base w c hp w' c' hp' ∧ VR P w' c' v u

theorem PureOut.quiet (h : HR P base w c hp) {x : Sem Value} {v : AV} {o : Oper} {r : Operand → Value} (hx : hp' = hp ∧ PureOut P w c x v) (he : execOp r o = (do pure (.value (← x)))) : QuietOut P base w c hp hp' (execOp r o) v := by
  obtain ⟨rfl, u, h1, h2⟩ := hx
  refine ⟨u, w, c, ?_, qout_same h (Below.refl _ _) rfl, h2⟩
  rw [he]
  simp [h1]

theorem same_quiet (h : HR P base w c hp) {v : AV} {x : Sem Next} (hx : hp' = hp ∧ ∃ u, x.run P w = .ok (.value u) w ∧ VR P w c v u) : QuietOut P base w c hp hp' x v := by
  obtain ⟨rfl, u, h1, h2⟩ := hx
  exact ⟨u, w, c, h1, qout_same h (Below.refl _ _) rfl, h2⟩

theorem append_quiet (hT : TOK P T) (h : HR P base w c hp) (hbase : base ≤ w.heap.size) {o : Oper} {args : Array Operand} {ts : Array TypeId} {ρ : Operand → AV} {r : Operand → Value} (hop : o.op = .call { callee := .builtin .append, args, argTypes := ts })
    (hx : ∀ x ∈ args, VR P w c (ρ x) (r x)) (hq : isEff o ρ = false) {v : AV} (hev : (opEv T o ρ hp).gives v hp') (hfree : ∀ b, hp.blocks.length ≤ b → b < hp'.blocks.length → c.O b = none) :
    QuietOut P base w c hp hp' (execOp r o) v := by
  unfold isEff at hq
  rw [hop] at hq
  simp only at hq
  unfold opEv at hev
  rw [hop] at hev
  simp only at hev
  split at hev
  · rename_i t t' s x hts hargs
    have hts' : ts = #[t, t'] := by rw [← hts]
    obtain ⟨la⟩ := args
    match la, hargs with
    | [], hr => simp at hr
    | [_], hr => simp at hr
    | _ :: _ :: _ :: _, hr => simp at hr
    | [os, ox], hr =>
      simp only [List.map_cons, List.map_nil, List.cons.injEq, and_true] at hr
      obtain ⟨hrs, hrx⟩ := hr
      have hvs := hx os (by simp)
      have hvx := hx ox (by simp)
      rw [hrs] at hvs
      rw [hrx] at hvx
      simp only [List.map_cons, List.map_nil, hrs] at hq
      split at hev
      · rename_i e _ _ _ _ ht
        split at hev
        · rename_i ei m fx he hel
          rw [he] at hel
          simp only at hel
          cases htt : Nat.beq t t' with
          | false => rw [htt] at hel; cases hel
          | true =>
            rw [htt] at hel
            simp only [cond_true] at hel
            have := Nat.eq_of_beq_eq_true htt
            subst this
            obtain ⟨news, hE⟩ := elems_ok h hvx hel
            have hex : ∀ u w', (Builtin.append_ #[t, t] o.type #[r os, r ox]).run P w = .ok u w' → (execOp r o).run P w = .ok (.value u) w' := fun u w' hh => by
              unfold execOp
              simp only [hop, resolve, invoke, builtin, Sem.run_bind, Sem.run_pure, Result.andThen_ok]
              simp [hts', hh]
            cases hb : Nat.blt 0 ei.size with
            | false => simp only [hb, cond_false] at hev; exact hev.elim
            | true =>
              simp only [hb, cond_true] at hev
              split at hev
              · -- an empty slice
                obtain ⟨hby, rfl, rfl⟩ := hev
                have hlen : (hp.addB { es := ei.size, len := m, f := fx, flat := flatOf hp x }).blocks.length = hp.blocks.length + 1 := by simp [Hp.addB]
                have hf := hfree hp.blocks.length (Nat.le_refl _) (by omega)
                cases hvs with
                | tree hvs =>
                  generalize hrs2 : r os = us at hvs
                  cases hvs with
                  | eslice a =>
                    by_cases hm : m = 0
                    · subst hm
                      obtain ⟨u, w', c', g1, g2, g3⟩ := append_none (ty := o.type) hT h hbase hf ht rfl he (a := a) hE (k := { es := ei.size, len := 0, f := fx, flat := flatOf hp x }) rfl rfl rfl
                      exact ⟨u, w', c', hex u w' (by rw [hrs2]; exact g1), g2, g3⟩
                    · have hE0 : Elems P w c ei.size 0 (fun _ => []) true (.slice a 0 0) #[] := ⟨⟨a, 0, rfl, Nat.zero_le _⟩, fun w' _ => by cases a <;> simp [Builtin.firstCells, loadCells, loadCellsFrom], by simp, by simp, by intro i hi; omega, by intro i j y hi; omega⟩
                      obtain ⟨u, w', c', g1, g2, g3⟩ := append_new (ty := o.type) hT h hbase hf ht rfl he hE0 hE (by omega) (by rw [Nat.zero_add]; rw [Nat.mul_add] at hby; omega) (by rw [Nat.mul_add] at hby; omega) (k := { es := ei.size, len := m, f := fx, flat := flatOf hp x }) rfl (by simp) rfl (fun i hi => by simp) (fun hfl => by simpa using hfl)
                      rw [Nat.zero_add] at g3
                      exact ⟨u, w', c', hex u w' (by rw [hrs2]; exact g1), g2, g3⟩
              · rename_i b ver off len cp
                split at hev
                · rename_i k hk
                  cases hb2 : Nat.beq k.es ei.size with
                  | false => rw [hb2] at hev; exact hev.elim
                  | true =>
                    rw [hb2] at hev
                    have hes := Nat.eq_of_beq_eq_true hb2
                    obtain ⟨hkb, hkv⟩ := block_some hk
                    obtain ⟨oi, hO, hle, _, hv'⟩ := hvs.oslice_inv
                    have hB := h.blk b k oi hkb hO
                    obtain ⟨hn1, a, k1, hu, hk1, hk2, hkn, hk3, hk4⟩ := hv' (by rw [hB.ver, hkv])
                    have hkc := hk4 cp rfl
                    subst hkc
                    rcases hev with ⟨⟨hcp, hby⟩, rfl, rfl⟩ | ⟨hm, rfl, rfl⟩
                    case inr =>
                      subst hm
                      obtain ⟨_, _, _, inf, hinf, hsz, _, hz⟩ := hT _ _ he
                      have hd := (hT _ _ ht).1
                      obtain ⟨ax, kx, hxs, _⟩ := hE.sl
                      have hn := hE.run w rfl
                      have hnews : news = #[] := Array.eq_empty_of_size_eq_zero (by rw [hE.size]; simp)
                      subst hnews
                      rw [← hsz] at hn
                      refine ⟨r os, w, c, hex _ _ ?_, qout_same h (Below.refl _ _) rfl, hvs⟩
                      rw [hu]
                      rw [hxs] at hn ⊢
                      by_cases hk0 : k1 = 0
                      · subst hk0
                        have hl0 : len = 0 := by omega
                        subst hl0
                        cases a <;> simp [Builtin.append_, run_underlying hd, sizeOf, typeInfo, hinf, Builtin.lenOf, hn, storeCells]
                      · rw [hk3 hk0]
                        simp [Builtin.append_, run_underlying hd, sizeOf, typeInfo, hinf, Builtin.lenOf, hn, storeCells, hk1]
                    have hf := hfree hp.blocks.length (Nat.le_refl _) (by simp [Hp.addB])
                    rcases hcp with hcp | ⟨hm, hc0⟩
                    · have hel0 : elemsOf hp ei.size (.oslice b ver off len (some k1)) = some (len, fun i => k.f (off + i)) := by simp [elemsOf, shiftF_eq, hk, hb2]
                      obtain ⟨olds, hE0⟩ := elems_ok h hvs hel0
                      have hfl0 : flatOf hp (.oslice b ver off len (some k1)) = k.flat := by simp [flatOf, hk]
                      rw [hfl0, hu] at hE0
                      obtain ⟨u, w', c', g1, g2, g3⟩ := append_new (ty := o.type) hT h hbase hf ht rfl he hE0 hE hcp (by rw [Nat.mul_add] at hby; omega) (by rw [Nat.mul_add] at hby; omega)
                        (k := { es := ei.size, len := len + m, f := fun i => if i < len then k.f (off + i) else fx (i - len), flat := flatOf hp x && k.flat }) rfl rfl rfl (fun i hi => rfl) (fun hfl => hfl)
                      exact ⟨u, w', c', hex u w' (by rw [hu]; exact g1), g2, g3⟩
                    · subst hm
                      have hl0 : len = 0 := by omega
                      subst hl0
                      rw [hc0] at hu
                      obtain ⟨u, w', c', g1, g2, g3⟩ := append_none (ty := o.type) hT h hbase hf ht rfl he (a := a) hE (k := { es := ei.size, len := 0 + 0, f := fun i => if i < 0 then k.f (off + i) else fx (i - 0), flat := flatOf hp x && k.flat }) rfl rfl rfl
                      exact ⟨u, w', c', hex u w' (by rw [hu]; exact g1), g2, g3⟩
                · exact hev.elim
              · rename_i es len cp f
                cases hb2 : Nat.beq es ei.size with
                | false => rw [hb2] at hev; exact hev.elim
                | true =>
                  rw [hb2] at hev
                  obtain ⟨⟨hcp, hby⟩, rfl, rfl⟩ := hev
                  have hf := hfree hp.blocks.length (Nat.le_refl _) (by simp [Hp.addB])
                  have hel0 : elemsOf hp ei.size (.cslice es len cp f) = some (len, f) := by simp [elemsOf, hb2]
                  obtain ⟨olds, hE0⟩ := elems_ok h hvs hel0
                  have hfl0 : flatOf hp (.cslice es len cp f) = true := rfl
                  rw [hfl0] at hE0
                  obtain ⟨a, hu⟩ : ∃ a, r os = .slice a len cp := by
                    cases hvs with
                    | tree hvs =>
                      generalize r os = us at hvs
                      cases hvs with
                      | cslice0 _ _ _ a => exact ⟨a, rfl⟩
                      | cslice _ _ _ _ b off g => exact ⟨_, rfl⟩
                  rw [hu] at hE0
                  obtain ⟨u, w', c', g1, g2, g3⟩ := append_new (ty := o.type) hT h hbase hf ht rfl he hE0 hE hcp (by rw [Nat.mul_add] at hby; omega) (by rw [Nat.mul_add] at hby; omega)
                    (k := { es := ei.size, len := len + m, f := fun i => if i < len then f i else fx (i - len), flat := flatOf hp x }) rfl rfl rfl (fun i hi => rfl) (fun hfl => by simpa using hfl)
                  exact ⟨u, w', c', hex u w' (by rw [hu]; exact g1), g2, g3⟩
              · rename_i b ver idx sub es len
                split at hev
                · rename_i k hk
                  cases hb2 : Nat.beq es ei.size with
                  | false => rw [hb2] at hev; exact hev.elim
                  | true =>
                    rw [hb2] at hev
                    obtain ⟨⟨hm0, hby⟩, rfl, rfl⟩ := hev
                    have hes := Nat.eq_of_beq_eq_true hb2
                    have hf := hfree hp.blocks.length (Nat.le_refl _) (by simp [Hp.addB])
                    have hel0 : elemsOf hp ei.size (.aslice b ver idx sub es len) = some (len, fun i => ((k.f idx).drop (sub + i * es)).take es) := by simp [elemsOf, hk, hb2]
                    obtain ⟨olds, hE0⟩ := elems_ok h hvs hel0
                    have hfl0 : flatOf hp (.aslice b ver idx sub es len) = k.flat := by simp [flatOf, hk]
                    rw [hfl0] at hE0
                    obtain ⟨hkb, hkv⟩ := block_some hk
                    obtain ⟨oi, hO, hle, _, hv'⟩ := hvs.aslice_inv
                    have hB := h.blk b k oi hkb hO
                    obtain ⟨_, _, hu⟩ := hv' (by rw [hB.ver, hkv])
                    rw [hu] at hE0
                    obtain ⟨u, w', c', g1, g2, g3⟩ := append_new (ty := o.type) hT h hbase hf ht rfl he hE0 hE (by omega) (by rw [Nat.mul_add] at hby; omega) (by rw [Nat.mul_add] at hby; omega)
                      (k := { es := ei.size, len := len + m, f := fun i => if i < len then ((k.f idx).drop (sub + i * es)).take es else fx (i - len), flat := flatOf hp x && k.flat }) rfl rfl rfl (fun i hi => rfl) (fun hfl => hfl)
                    exact ⟨u, w', c', hex u w' (by rw [hu]; exact g1), g2, g3⟩
                · exact hev.elim
              · simp at hq
              · exact hev.elim
        · exact hev.elim
      · exact hev.elim
  · exact hev.elim

theorem append_eff (hT : TOK P T) (h : HR P base w c hp) (ro : RO c hp) (hbase : base ≤ w.heap.size) {o : Oper} {args : Array Operand} {ts : Array TypeId} {ρ : Operand → AV} {r : Operand → Value} (hop : o.op = .call { callee := .builtin .append, args, argTypes := ts })
    (hx : ∀ x ∈ args, VR P w c (ρ x) (r x)) (hq : isEff o ρ = true) {v : AV} (hev : (opEv T o ρ hp).gives v hp') :
    ∃ u w' c', (execOp r o).run P w = .ok (.value u) w' ∧ EOut P base w c hp w' c' hp' ∧ VR P w' c' v u := by
  unfold isEff at hq
  rw [hop] at hq
  simp only at hq
  unfold opEv at hev
  rw [hop] at hev
  simp only at hev
  split at hev
  · rename_i t t' s x hts hargs
    have hts' : ts = #[t, t'] := by rw [← hts]
    obtain ⟨la⟩ := args
    match la, hargs with
    | [], hr => simp at hr
    | [_], hr => simp at hr
    | _ :: _ :: _ :: _, hr => simp at hr
    | [os, ox], hr =>
      simp only [List.map_cons, List.map_nil, List.cons.injEq, and_true] at hr
      obtain ⟨hrs, hrx⟩ := hr
      have hvs := hx os (by simp)
      have hvx := hx ox (by simp)
      rw [hrs] at hvs
      rw [hrx] at hvx
      simp only [List.map_cons, List.map_nil, hrs] at hq
      split at hev
      · rename_i e _ _ _ _ ht
        split at hev
        · rename_i ei m fx he hel
          rw [he] at hel
          simp only at hel
          cases htt : Nat.beq t t' with
          | false => rw [htt] at hel; cases hel
          | true =>
            rw [htt] at hel
            simp only [cond_true] at hel
            have := Nat.eq_of_beq_eq_true htt
            subst this
            obtain ⟨news, hE⟩ := elems_ok h hvx hel
            have hex : ∀ u w', (Builtin.append_ #[t, t] o.type #[r os, r ox]).run P w = .ok u w' → (execOp r o).run P w = .ok (.value u) w' := fun u w' hh => by
              unfold execOp
              simp only [hop, resolve, invoke, builtin, Sem.run_bind, Sem.run_pure, Result.andThen_ok]
              simp [hts', hh]
            cases hb : Nat.blt 0 ei.size with
            | false => simp only [hb, cond_false] at hev; exact hev.elim
            | true =>
              simp only [hb, cond_true] at hev
              split at hev
              · simp at hq
              · simp at hq
              · simp at hq
              · simp at hq
              · rename_i b ver off len
                split at hev
                · rename_i k hk
                  cases hb2 : (Nat.beq k.es ei.size && !k.ro) with
                  | false => rw [hb2] at hev; exact hev.elim
                  | true =>
                    rw [hb2] at hev
                    simp only [Bool.and_eq_true, Bool.not_eq_true'] at hb2
                    have hes := Nat.eq_of_beq_eq_true hb2.1
                    obtain ⟨hkb, hkv⟩ := block_some hk
                    obtain ⟨oi, hO, hle, _, hv'⟩ := hvs.oslice_inv
                    have hB := h.blk b k oi hkb hO
                    obtain ⟨hn1, a, k1, hu, hk1, hk2, hkn, hk3, hk4⟩ := hv' (by rw [hB.ver, hkv])
                    rcases hev with ⟨hby, rfl, rfl⟩ | ⟨hfit, rfl, rfl⟩
                    · have hel0 : elemsOf hp ei.size (.oslice b ver off len none) = some (len, fun i => k.f (off + i)) := by simp [elemsOf, shiftF_eq, hk, hb2.1]
                      obtain ⟨olds, hE0⟩ := elems_ok h hvs hel0
                      have hfl0 : flatOf hp (.oslice b ver off len none) = k.flat := by simp [flatOf, hk]
                      rw [hfl0, hu] at hE0
                      rw [← hkv]
                      obtain ⟨u, w', c', g1, g2, g3⟩ := append_own (ty := o.type) hT h ro hbase ht rfl he hkb hO hb2.2 hes hn1 hk1 hk2 hk3 hE0 hE (by rw [Nat.mul_add] at hby; omega) (by rw [Nat.mul_add] at hby; omega)
                        (k' := { k with len := len + m, ver := k.ver + 1, f := fun i => if i < len then k.f (off + i) else fx (i - len), flat := flatOf hp x && k.flat }) rfl rfl rfl hb2.2 (fun i hi => rfl) (fun hfl => hfl)
                      exact ⟨u, w', c', hex u w' (by rw [hu]; exact g1), g2, g3⟩
                    · rw [← hkv]
                      obtain ⟨u, w', c', g1, g2, g3⟩ := append_room (ty := o.type) hT h ro hbase ht rfl he hkb hO hb2.2 hes hk1 hk2 hkn hk3 hfit hE
                        (k' := { k with f := fun i => if i < off + len then k.f i else if i < off + len + m then fx (i - (off + len)) else k.f i, flat := flatOf hp x && k.flat }) rfl rfl rfl hb2.2 (fun i hi => rfl) (fun hfl => hfl)
                      exact ⟨u, w', c', hex u w' (by rw [hu]; exact g1), g2, g3⟩
                · exact hev.elim
              · exact hev.elim
        · exact hev.elim
      · exact hev.elim
  · exact hev.elim

theorem mem_operands {o : Oper} {op : Op} (h : o.op = op) {x : Operand} (hx : x ∈ op.operands) : x ∈ o.op.operands := by rw [h]; exact hx

theorem binEv_any {op : BinOp} {d : Option TI} {x y : AV} {h h' : Hp} {p : Prop} {dp : Decidable p} {b : Bool} (hev : binEv op d x y h = @Res.anyB p dp b h') : False := by
  unfold binEv at hev
  repeat' split at hev
  all_goals first
    | cases hev
    | (unfold aggEv at hev
       (repeat' split at hev)
       all_goals first
         | cases hev
         | (simp only [Bool.cond_eq_ite] at hev
            (repeat' split at hev)
            all_goals cases hev))

/-- A truth value that is not known. -/
theorem any_real (hT : TOK P T) {o : Oper} {ρ : Operand → AV} {r : Operand → Value} (hcst : ∀ v, r (.const v) = v) (hρ : ∀ x ∈ o.op.operands, VR P w c (ρ x) (r x)) {p : Prop} {dp : Decidable p} {b : Bool} {h' : Hp}
    (hev : opEv T o ρ hp = @Res.anyB p dp b h') : h' = hp ∧ ∃ b' : Bool, (p → b' = b) ∧ (execOp r o).run P w = .ok (.value (.bool b')) w := by
  have key : ∀ op t x y ty, o.op = .binOp op t x y ty → h' = hp ∧ ∃ b' : Bool, (p → b' = b) ∧ (execOp r o).run P w = .ok (.value (.bool b')) w := by
    intro op t x y ty hop
    unfold opEv at hev; rw [hop] at hev
    simp only at hev
    split at hev
    · rename_i hn
      obtain ⟨e1, b', e2, e3⟩ := real_nil (t := t) (x := x) (y := y) (fun d hd => (hT _ _ hd).1) (hρ x (mem_operands hop (by simp [Op.operands]))) hcst hn hev
      refine ⟨e1, b', e2, ?_⟩
      have he : execOp r o = (do pure (.value (← (do eqGuard op t x y (r x) (r y); binOp op t (r x) (r y))))) := by simp [execOp, hop]
      rw [he, Sem.run_bind, e3]
      rfl
    · exact (binEv_any hev).elim
  by_cases hb : ∃ op t x y ty, o.op = .binOp op t x y ty
  · obtain ⟨op, t, x, y, ty, hop⟩ := hb
    exact key op t x y ty hop
  · exfalso
    unfold opEv at hev
    split at hev
    all_goals try simp only [Bool.cond_eq_ite, forceNr_eq, forceC_eq, forceT_eq, force0_eq, force1_eq] at hev
    all_goals (repeat' split at hev)
    all_goals first
      | (cases hev; done)
      | exact hb ⟨_, _, _, _, _, by assumption⟩

/-- An operation that turns no old memory, other than a call. -/
theorem quiet_op (hT : TOK P T) (h : HR P base w c hp) (hbase : base ≤ w.heap.size) {o : Oper} {ρ : Operand → AV} {r : Operand → Value} (hcst : ∀ v, r (.const v) = v) (hρ : ∀ x ∈ o.op.operands, VR P w c (ρ x) (r x)) (hq : isEff o ρ = false)
    {v : AV} (hev : (opEv T o ρ hp).gives v hp') (hfree : ∀ b, hp.blocks.length ≤ b → b < hp'.blocks.length → c.O b = none) (hfreeM : ∀ b, hp.maps.length ≤ b → b < hp'.maps.length → c.N b = none) :
    QuietOut P base w c hp hp' (execOp r o) v := by
  have fre : ∀ k, hp' = hp.addB k → c.O hp.blocks.length = none := fun k hk => hfree _ (Nat.le_refl _) (by subst hk; simp [Hp.addB])
  cases hop : o.op with
  | move x =>
    have hx := hρ x (mem_operands hop (by simp [Op.operands]))
    unfold opEv at hev; rw [hop] at hev
    obtain ⟨rfl, rfl⟩ := hev
    exact ⟨r x, w, c, by simp [execOp, hop], qout_same h (Below.refl _ _) rfl, hx⟩
  | assign x =>
    have hx := hρ x (mem_operands hop (by simp [Op.operands]))
    unfold opEv at hev; rw [hop] at hev
    obtain ⟨rfl, rfl⟩ := hev
    exact ⟨r x, w, c, by simp [execOp, hop], qout_same h (Below.refl _ _) rfl, hx⟩
  | pick x a b =>
    have hx := hρ x (mem_operands hop (by simp [Op.operands]))
    have ha := hρ a (mem_operands hop (by simp [Op.operands]))
    have hb := hρ b (mem_operands hop (by simp [Op.operands]))
    unfold opEv at hev; rw [hop] at hev
    simp only at hev
    split at hev
    · rename_i hr; rw [hr] at hx
      obtain ⟨rfl, rfl⟩ := hev
      exact ⟨r a, w, c, by simp [execOp, hop, hx.val_inv, asBool], qout_same h (Below.refl _ _) rfl, ha⟩
    · rename_i hr; rw [hr] at hx
      obtain ⟨rfl, rfl⟩ := hev
      exact ⟨r b, w, c, by simp [execOp, hop, hx.val_inv, asBool], qout_same h (Below.refl _ _) rfl, hb⟩
    · exact hev.elim
  | alloc t =>
    have hf : c.O hp.blocks.length = none := by
      have hev2 := hev
      unfold opEv at hev2; rw [hop] at hev2; simp only at hev2
      split at hev2
      · simp only [forceNr_eq, forceC_eq] at hev2; obtain ⟨_, e⟩ := hev2; exact fre _ e.symm
      · exact hev2.elim
    exact make_alloc hT h hbase hop hev hf
  | box t x =>
    have hf : c.O hp.blocks.length = none := by
      have hev2 := hev
      unfold opEv at hev2; rw [hop] at hev2; simp only at hev2
      split at hev2
      · rename_i ti _
        cases hb : (Nat.beq (ρ x).cells.length ti.size && (ρ x).storable) with
        | false => rw [hb] at hev2; exact hev2.elim
        | true => rw [hb] at hev2; simp only [cond_true, forceNr_eq, forceC_eq, forceT_eq] at hev2; obtain ⟨_, e⟩ := hev2; exact fre _ e.symm
      · exact hev2.elim
    exact make_box h hbase hop (hρ x (mem_operands hop (by simp [Op.operands]))) hev hf
  | build t ps => exact same_quiet h (pure_build hT hop (fun p hp' => hρ p.2 (mem_operands hop (by simp [Op.operands]; exact ⟨p.1, by simpa using hp'⟩))) hev)
  | buildSlice t n ps =>
    have hf : c.O hp.blocks.length = none := by
      have hev2 := hev
      unfold opEv at hev2; rw [hop] at hev2; simp only at hev2
      split at hev2
      · split at hev2
        · rename_i ei _
          split at hev2
          · cases hb : (Nat.ble (n * ei.size) 100000 && Nat.blt 0 ei.size) with
            | false => rw [hb] at hev2; exact hev2.elim
            | true => rw [hb] at hev2; simp only [cond_true, forceNr_eq, forceC_eq, forceT_eq] at hev2; obtain ⟨_, e⟩ := hev2; exact fre _ e.symm
          · exact hev2.elim
        · exact hev2.elim
      · exact hev2.elim
    exact make_buildSlice hT h hbase hop (fun p hp' => hρ p.2 (mem_operands hop (by simp [Op.operands]; exact ⟨p.1, by simpa using hp'⟩))) hev hf
  | load t x => exact PureOut.quiet h (pure_load hT h hop (hρ x (mem_operands hop (by simp [Op.operands]))) hev) (by simp [execOp, hop])
  | binOp op t x y ty =>
    have hx := hρ x (mem_operands hop (by simp [Op.operands]))
    have hy := hρ y (mem_operands hop (by simp [Op.operands]))
    unfold opEv at hev; rw [hop] at hev
    have hd : ∀ d, T t = some d → P.underlying t = some d.desc := fun d hd => (hT _ _ hd).1
    simp only at hev
    split at hev
    · rename_i hn
      exact PureOut.quiet h (pure_nil (t := t) (x := x) (y := y) hd hx hcst hn hev) (by simp [execOp, hop])
    · exact PureOut.quiet h (pure_bin (t := t) (x := x) (y := y) hd (fun ti ks h1 h2 => hT.kinds _ _ _ h1 h2) hx hy hev) (by simp [execOp, hop])
  | unOp op t x => exact PureOut.quiet h (pure_un hop (hρ x (mem_operands hop (by simp [Op.operands]))) hev) (by simp [execOp, hop])
  | convert src dst x =>
    have hx := hρ x (mem_operands hop (by simp [Op.operands]))
    unfold opEv at hev; rw [hop] at hev
    simp only at hev
    split at hev
    · rename_i _ hs hd hr
      exact PureOut.quiet h (pure_convert hT hx hs hd hr hev) (by simp [execOp, hop])
    · rename_i _ _ _ _ _ _ _ _ s hs hd hr
      split at hev
      · rename_i he
        obtain ⟨rfl, rfl⟩ := hev
        rw [hr] at hx
        obtain ⟨u, w', c', g1, g2, g3⟩ := make_bytes hT h (s := s) hs rfl hd rfl he rfl
        exact ⟨u, w', c', by simp [execOp, hop, hx.val_inv, g1], g2, g3⟩
      · exact hev.elim
    · rename_i _ hs hd hr
      exact PureOut.quiet h (pure_toF hT hx hs hd hr hev) (by simp [execOp, hop])
    · rename_i _ hs hd hr
      exact PureOut.quiet h (pure_ofF hT hx hs hd hr hev) (by simp [execOp, hop])
    · exact hev.elim
  | makeFunc fn first captured =>
    unfold opEv at hev; rw [hop] at hev
    simp only at hev
    obtain ⟨rfl, rfl⟩ := hev
    refine ⟨.func fn (first.map r) (captured.map r), w, c, by simp [execOp, hop, Instr.makeFunc], qout_same h (Below.refl _ _) rfl, .func fn _ _ _ _ (by simp) (by simp) fun i x hi => ?_⟩
    have e : first.map r ++ captured.map r = (first ++ captured).map r := by simp
    have e2 : first.toList.map ρ ++ captured.toList.map ρ = (first ++ captured).toList.map ρ := by simp
    rw [e]
    rw [e2, List.getElem?_map] at hi
    cases hc : (first ++ captured).toList[i]? with
    | none => rw [hc] at hi; cases hi
    | some y =>
      rw [hc] at hi
      simp only [Option.map_some, Option.some.injEq] at hi
      subst hi
      have hm : y ∈ first ++ captured := by
        have := List.mem_of_getElem? hc
        simpa using this
      have := hρ y (mem_operands hop (by simp [Op.operands]; simpa using hm))
      have hy : (first ++ captured)[i]? = some y := by rw [← Array.getElem?_toList]; exact hc
      simp only [Array.getD_eq_getD_getElem?, Array.getElem?_map, hy, Option.map_some, Option.getD_some]
      exact this
  | makeMap t rs =>
    cases rs with
    | none =>
      have hf : c.N hp.maps.length = none := by
        have hev2 := hev
        unfold opEv at hev2; rw [hop] at hev2; simp only at hev2
        split at hev2
        · split at hev2
          · simp only [force0_eq, Hp.addM_eq] at hev2; obtain ⟨_, rfl⟩ := hev2; exact hfreeM _ (Nat.le_refl _) (by simp)
          · exact hev2.elim
        · exact hev2.elim
      exact make_map hT h hbase hop hev hf
    | some q => unfold opEv at hev; rw [hop] at hev; exact hev.elim
  | makeSlice t l m =>
    have hf : c.O hp.blocks.length = none := by
      have hev2 := hev
      unfold opEv at hev2; rw [hop] at hev2; simp only at hev2
      split at hev2
      · split at hev2
        · rename_i ei _
          cases hb : Nat.blt 0 ei.size with
          | false => rw [hb] at hev2; exact hev2.elim
          | true => rw [hb] at hev2; obtain ⟨_, _, e⟩ := hev2; exact fre _ e.symm
        · exact hev2.elim
      · exact hev2.elim
    exact make_makeSlice hT h hbase hop (hρ l (mem_operands hop (by simp [Op.operands]))) (hρ m (mem_operands hop (by simp [Op.operands]))) hev hf
  | slice t x lo hi mx =>
    cases mx with
    | none =>
      refine PureOut.quiet h (pure_slice hT h hop (hρ x (mem_operands hop (by simp [Op.operands]))) (fun y hy => hρ y (mem_operands hop (by simp [Op.operands, hy]))) (fun y hy => hρ y (mem_operands hop (by simp [Op.operands, hy]))) hev) (by simp [execOp, hop])
    | some q =>
      refine PureOut.quiet h (pure_slice3 hT h hop (hρ x (mem_operands hop (by simp [Op.operands]))) (fun y hy => hρ y (mem_operands hop (by simp [Op.operands, hy]))) (fun y hy => hρ y (mem_operands hop (by simp [Op.operands, hy]))) (hρ q (mem_operands hop (by simp [Op.operands]))) hev) (by simp [execOp, hop])
  | fieldAddr s x i => exact PureOut.quiet h (pure_fieldAddr hT h hop (hρ x (mem_operands hop (by simp [Op.operands]))) hev) (by simp [execOp, hop])
  | field s x i => exact PureOut.quiet h (pure_field hT hop (hρ x (mem_operands hop (by simp [Op.operands]))) hev) (by simp [execOp, hop])
  | indexAddr t x i => exact PureOut.quiet h (pure_indexAddr hT h hop (hρ x (mem_operands hop (by simp [Op.operands]))) (hρ i (mem_operands hop (by simp [Op.operands]))) hev) (by simp [execOp, hop])
  | index t x i => exact PureOut.quiet h (pure_index hT hop (hρ x (mem_operands hop (by simp [Op.operands]))) (hρ i (mem_operands hop (by simp [Op.operands]))) hev) (by simp [execOp, hop])
  | lookup t x i ok => exact PureOut.quiet h (pure_lookup hT h hop (hρ x (mem_operands hop (by simp [Op.operands]))) (hρ i (mem_operands hop (by simp [Op.operands]))) hev) (by simp [execOp, hop])
  | extract x i => exact PureOut.quiet h (pure_extract hop (hρ x (mem_operands hop (by simp [Op.operands]))) hev) (by simp [execOp, hop])
  | nilCheck x =>
    have hx := hρ x (mem_operands hop (by simp [Op.operands]))
    unfold opEv at hev; rw [hop] at hev
    simp only at hev
    split at hev
    · rename_i hr
      split at hev
      · rename_i k hk
        obtain ⟨rfl, rfl⟩ := hev
        rw [hr] at hx
        obtain ⟨a, hu, _, _⟩ := optr_move h hx hk
        exact ⟨r x, w, c, by simp [execOp, hop, hu], qout_same h (Below.refl _ _) rfl, hx⟩
      · exact hev.elim
    · rename_i hr
      obtain ⟨rfl, rfl⟩ := hev
      rw [hr] at hx
      obtain ⟨a, hu, _, _⟩ := rptr_move hx
      exact ⟨r x, w, c, by simp [execOp, hop, hu], qout_same h (Below.refl _ _) rfl, hx⟩
    · exact hev.elim
  | call cl =>
    obtain ⟨callee, args, ts⟩ := cl
    have hargs : ∀ x ∈ args, VR P w c (ρ x) (r x) := fun x hx => hρ x (mem_operands hop (by simp [Op.operands, Call.operands, hx]))
    cases callee with
    | builtin b =>
      cases b with
      | len => exact same_quiet h (pure_len hT h hop hargs hev)
      | max => exact same_quiet h (pure_max hop hargs hev)
      | min => exact same_quiet h (pure_min hop hargs hev)
      | complex => exact same_quiet h (pure_complex hop hargs hev)
      | real => exact same_quiet h (pure_real hop hargs hev)
      | imag => exact same_quiet h (pure_imag hop hargs hev)
      | append => exact append_quiet hT h hbase hop hargs hq hev hfree
      | clear => simp [isEff, hop] at hq
      | _ => unfold opEv at hev; rw [hop] at hev; exact hev.elim
    | value f =>
      unfold opEv at hev; rw [hop] at hev
      simp only at hev
      split at hev <;> exact hev.elim
    | invoke a b => unfold opEv at hev; rw [hop] at hev; exact hev.elim
  | store t a x => simp [isEff, hop] at hq
  | mapUpdate t a b x => simp [isEff, hop] at hq
  | insert t a b x => simp [isEff, hop] at hq
  | next x b => simp [isEff, hop] at hq
  | entry x => exact PureOut.quiet h (pure_entry h hop (hρ x (mem_operands hop (by simp [Op.operands]))) hev) (by simp [execOp, hop])
  | range t x =>
    exfalso
    unfold opEv at hev; rw [hop] at hev
    simp only [Bool.cond_eq_ite] at hev
    (repeat' split at hev) <;> exact hev
  | _ => unfold opEv at hev; rw [hop] at hev; exact hev.elim
end
end Go.Tr

/- Memory that is shared from now on; ranges over maps. Conditions: none. -/
namespace Go.Tr
open Go Go.RowKit Go.MapKept

section
variable {P : Program} {T : Nat → Option TI} {w w' : World} {c c' : Cx} {base : Nat} {hp hp' : Hp}

/-- Part of an array of the call's own, handed out as a slice. -/
theorem share_real (hT : TOK P T) (h : HR P base w c hp) {o : Oper} {ρ : Operand → AV} {r : Operand → Value} (hρ : ∀ x ∈ o.op.operands, VR P w c (ρ x) (r x)) {p : Prop} {dp : Decidable p} {v : AV} {bs ms : List Nat}
    (hev : opEv T o ρ hp = @Res.share p dp v bs ms) (hp0 : p) :
    ∃ u, (execOp r o).run P w = .ok (.value u) w ∧ VT P w (qOf c (bs, ms)) v u ∧ (∀ i ∈ bs, i < hp.blocks.length) ∧ ∀ i ∈ ms, i < hp.maps.length := by
  have key : ∀ t x lo hi, o.op = .slice t x lo hi none → ∃ u, (execOp r o).run P w = .ok (.value u) w ∧ VT P w (qOf c (bs, ms)) v u ∧ (∀ i ∈ bs, i < hp.blocks.length) ∧ ∀ i ∈ ms, i < hp.maps.length := by
    intro t x lo hi hop
    have hx := hρ x (mem_operands hop (by simp [Op.operands]))
    have hlo : ∀ y, lo = some y → VR P w c (ρ y) (r y) := fun y hy => hρ y (mem_operands hop (by simp [Op.operands, hy]))
    have hhi : ∀ y, hi = some y → VR P w c (ρ y) (r y) := fun y hy => hρ y (mem_operands hop (by simp [Op.operands, hy]))
    unfold opEv at hev; rw [hop] at hev
    simp only [Bool.cond_eq_ite] at hev
    split at hev
    · (repeat' split at hev) <;> cases hev
    · (repeat' split at hev) <;> cases hev
    · rename_i n e _ _ _ _ ht
      have hd := (hT _ _ ht).1
      · split at hev
        · rename_i ei b ver idx sub he hr
          obtain ⟨_, _, _, inf, hinf, hsz, _⟩ := hT _ _ he
          split at hev
          · (repeat' split at hev) <;> cases hev
          · split at hev
            · rename_i k l q hk hl hq
              split at hev
              · rename_i hb
                simp only [Bool.and_eq_true] at hb
                obtain ⟨⟨b1, b2⟩, b3⟩ := hb
                have hpos : 0 < ei.size := Nat.le_of_ble_eq_true b2
                have hle := Nat.le_of_ble_eq_true b3
                cases hev
                obtain ⟨h0, h1, h2⟩ := hp0
                rw [hr] at hx
                obtain ⟨hkb, hkv⟩ := block_some hk
                obtain ⟨oi, hO, hlev, _, hv'⟩ := hx.optr_inv
                have hB := h.blk b k oi hkb hO
                obtain ⟨hidx, hu⟩ := hv' (by rw [hB.ver, hkv])
                have hidx' : idx < k.len := by rw [← hB.n]; exact hidx
                have hcap : oi.cap ≠ 0 := by have := hB.le; omega
                have hbl : b < hp.blocks.length := (List.getElem?_eq_some_iff.1 hkb).1
                have hel := hB.el idx hidx'
                have e2 : q.toNat - l.toNat = (q - l).toNat := by omega
                have hrun : (Instr.sliceAt t (r x) (lo.map r) (hi.map r) none).run P w = .ok (.slice (some (if n = l.toNat then ⟨oi.blk, oi.lo + (idx * oi.es + sub), none⟩ else ⟨oi.blk, oi.lo + (idx * oi.es + sub) + l.toNat * ei.size, none⟩)) (q.toNat - l.toNat) (n - l.toNat)) w := by
                  rw [hu]
                  have hb := run_bounds (P := P) (w := w) false n n _ _ l q (optIdx_some hlo hl) (optIdx_some hhi hq) h0 h1 h2
                  have h1 : (Instr.sliceAt t (.pointer (some ⟨oi.blk, oi.lo + (idx * oi.es + sub), none⟩)) (lo.map r) (hi.map r) none).run P w = .ok (.slice (some (if n = l.toNat then ⟨oi.blk, oi.lo + (idx * oi.es + sub), none⟩ else (⟨oi.blk, oi.lo + (idx * oi.es + sub), none⟩ : Addr).add (l.toNat * ei.size))) (q.toNat - l.toNat) (n - l.toNat)) w := by
                    simp [Instr.sliceAt, run_underlying hd, Instr.sureAddr, hb, sizeOf, typeInfo, hinf, hsz]
                  rw [h1, addr_add]
                refine ⟨_, by simp only [execOp, hop, Option.map_none, Sem.run_bind, hrun]; rfl, ?_, fun i hi => by simp at hi; omega, fun i hi => by simp at hi⟩
                rw [e2]
                by_cases hz : (q - l).toNat = 0
                · rw [hz]; exact .cslice0 _ _ _ _
                · rw [if_neg (by omega)]
                  have hcell : ∀ i j, i < (q - l).toNat → j < ei.size → ∃ y, ((k.f idx).drop (sub + (l.toNat + i) * ei.size))[j]? = some y ∧ ∃ u, w.cell? ⟨oi.blk, oi.lo + (idx * oi.es + sub) + l.toNat * ei.size + (i * ei.size + j), none⟩ = some u ∧ u.oneCell' = true ∧ VT P w c.p y u := fun i j hi hj => by
                    have hin : sub + (l.toNat + i) * ei.size + j < (k.f idx).length := by
                      rw [hel]
                      have : (l.toNat + i + 1) * ei.size ≤ n * ei.size := Nat.mul_le_mul_right _ (by omega)
                      rw [Nat.add_mul, Nat.one_mul] at this
                      omega
                    obtain ⟨u, g1, g2, _, g4⟩ := hB.cell hidx' (List.getElem?_eq_getElem hin)
                    refine ⟨(k.f idx)[sub + (l.toNat + i) * ei.size + j], by rw [getElem?_drop']; exact List.getElem?_eq_getElem hin, u, ?_, g2, g4 b1⟩
                    rw [← g1]; congr 2; rw [Nat.add_mul]; omega
                  let g : Nat → Nat → Value := fun i j => (w.cell? ⟨oi.blk, oi.lo + (idx * oi.es + sub) + l.toNat * ei.size + (i * ei.size + j), none⟩).getD undef
                  refine .cslice _ _ (n - l.toNat) _ oi.blk _ g (by omega) (.inr (.inl ⟨b, by simp, oi, hO, hcap, rfl⟩)) (fun i hi => ?_) (fun i j hi hj => ?_) (fun i j y hi hy => ?_)
                  · rw [List.length_take, List.length_drop, hel]
                    have : (l.toNat + i + 1) * ei.size ≤ n * ei.size := Nat.mul_le_mul_right _ (by omega)
                    rw [Nat.add_mul, Nat.one_mul] at this
                    omega
                  · obtain ⟨y, _, u, g1, g2, _⟩ := hcell i j hi hj
                    simp only [g, g1, Option.getD_some]
                    exact ⟨trivial, g2⟩
                  · have hj : j < ei.size := by have := (List.getElem?_eq_some_iff.1 hy).1; simp at this; omega
                    rw [List.getElem?_take, if_pos hj] at hy
                    obtain ⟨y', a1, u, g1, g2, g3⟩ := hcell i j hi hj
                    rw [a1] at hy
                    cases hy
                    simp only [g, g1, Option.getD_some]
                    exact g3.weaken fun b hb => .inl hb
              · cases hev
            · cases hev
        · cases hev
    · cases hev
  have key3 : ∀ t x lo hi mx, o.op = .slice t x lo hi (some mx) → ∃ u, (execOp r o).run P w = .ok (.value u) w ∧ VT P w (qOf c (bs, ms)) v u ∧ (∀ i ∈ bs, i < hp.blocks.length) ∧ ∀ i ∈ ms, i < hp.maps.length := by
    intro t x lo hi mx hop
    have hx := hρ x (mem_operands hop (by simp [Op.operands]))
    have hlo : ∀ y, lo = some y → VR P w c (ρ y) (r y) := fun y hy => hρ y (mem_operands hop (by simp [Op.operands, hy]))
    have hhi : ∀ y, hi = some y → VR P w c (ρ y) (r y) := fun y hy => hρ y (mem_operands hop (by simp [Op.operands, hy]))
    have hmx := hρ mx (mem_operands hop (by simp [Op.operands]))
    unfold opEv at hev; rw [hop] at hev
    simp only [Bool.cond_eq_ite] at hev
    split at hev
    case h_2 => cases hev
    rename_i e _ _ _ _ ht
    split at hev
    case h_2 => cases hev
    rename_i ei he
    split at hev
    · (repeat' split at hev) <;> cases hev
    · (repeat' split at hev) <;> cases hev
    · rename_i b ver off len cap l m hr hl hm
      split at hev
      · rename_i k q hk hq
        split at hev
        · cases hev
          obtain ⟨hs, h0, h1, h2, h3⟩ := hp0
          rw [hr] at hx
          obtain ⟨km, hkm⟩ := idxOf_some hmx hm
          obtain ⟨kq, hkq⟩ : ∃ kq, hi.map r = some (.int kq q) := by
            rcases optIdx_some hhi hq with ⟨g, _⟩ | g
            · cases hi with
              | none => cases hs
              | some y => simp at g
            · exact g
          obtain ⟨u, hu⟩ := run_slice3 (w := w) hT h ht rfl he hx hk (kr := kq) (km := km) (optIdx_some hlo hl) h0 h1 h2 h3
          refine ⟨u, ?_, .top _, fun i hi => by simp at hi, fun i hi => by simp at hi⟩
          simp only [execOp, hop, hkq, Option.map_some, hkm, Sem.run_bind, hu]
          rfl
        · cases hev
      · cases hev
    · cases hev
  by_cases hb : (∃ t x lo hi, o.op = .slice t x lo hi none) ∨ ∃ t x lo hi mx, o.op = .slice t x lo hi (some mx)
  · rcases hb with ⟨t, x, lo, hi, hop⟩ | ⟨t, x, lo, hi, mx, hop⟩
    · exact key t x lo hi hop
    · exact key3 t x lo hi mx hop
  · exfalso
    have bin : ∀ op d x y, binEv op d x y hp ≠ @Res.share p dp v bs ms := fun op d x y he => by
      unfold binEv at he
      repeat' split at he
      all_goals first
        | cases he
        | (unfold aggEv at he
           simp only [Bool.cond_eq_ite] at he
           (repeat' split at he) <;> cases he)
    have nil : ∀ op d x, nilEv op d x hp ≠ @Res.share p dp v bs ms := fun op d x he => by
      unfold nilEv at he
      (repeat' split at he) <;> cases he
    unfold opEv at hev
    split at hev
    all_goals try simp only [Bool.cond_eq_ite, forceNr_eq, forceC_eq, forceT_eq, force0_eq, force1_eq] at hev
    all_goals (repeat' split at hev)
    all_goals first
      | (cases hev; done)
      | exact bin _ _ _ _ hev
      | exact nil _ _ _ hev
      | exact hb (.inl ⟨_, _, _, _, by assumption⟩)
      | exact hb (.inr ⟨_, _, _, _, _, by assumption⟩)

/-- The keys of a kind. -/
theorem allCells_at : ∀ {ks : List LK} {K : List Value → List AV → Prop}, allCells ks K → ∀ vs, kOk ks vs = true → ∃ m, K vs m ∧ m.length = vs.length ∧ ∀ (P : Program) (w : World) (p : Nat → Prop) (i : Nat) x, m[i]? = some x → VT P w p x (vs.getD i undef) := by
  intro ks
  induction ks with
  | nil =>
    intro K h vs hv
    cases vs with
    | nil => exact ⟨[], h, rfl, fun _ _ _ i x hx => by simp at hx⟩
    | cons v vs => simp [kOk] at hv
  | cons k ks ih =>
    intro K h vs hv
    cases vs with
    | nil => cases k <;> simp [kOk] at hv
    | cons v vs =>
      obtain ⟨p1, p2⟩ := kOk_cons hv
      have go : allCells ks (fun l m => K (v :: l) (.val v :: m)) → ∃ m, K (v :: vs) m ∧ m.length = (v :: vs).length ∧ ∀ (P : Program) (w : World) (p : Nat → Prop) (i : Nat) x, m[i]? = some x → VT P w p x ((v :: vs).getD i undef) := fun h' => by
        obtain ⟨m, g1, g2, g3⟩ := ih h' vs p2
        refine ⟨.val v :: m, g1, by simp [g2], fun P w p i x hx => ?_⟩
        cases i with
        | zero => simp at hx; subst hx; exact .val v
        | succ i => simpa using g3 P w p i x (by simpa using hx)
      cases k with
      | bool => cases v <;> simp [kOk] at p1; exact go (h _)
      | int kd => cases v <;> simp [kOk] at p1; subst p1; exact go (h _)
      | str => cases v <;> simp [kOk] at p1; exact go (h _)

theorem kOk_one : ∀ {ks : List LK} {vs : List Value}, kOk ks vs = true → ∀ v ∈ vs, v.oneCell' = true
  | [], [], _, v, hv => by cases hv
  | [], _ :: _, h, _, _ => by simp [kOk] at h
  | k :: ks, [], h, _, _ => by cases k <;> simp [kOk] at h
  | k :: ks, u :: us, h, v, hv => by
    obtain ⟨p1, p2⟩ := kOk_cons h
    rcases List.mem_cons.1 hv with rfl | hv
    · cases k <;> cases v <;> simp [kOk] at p1 <;> rfl
    · exact kOk_one p2 v hv

theorem allKeys_at {ki : KK} {K : Value → AV → Prop} (h : allKeys ki K) {key : Value} (hk : keyOk ki key) : ∃ x, K key x ∧ ∀ (P : Program) (w : World) (p : Nat → Prop), VT P w p x key := by
  unfold keyOk at hk
  cases ki with
  | str => cases key <;> simp [keyIs] at hk; exact ⟨_, h _, fun _ _ _ => .val _⟩
  | int k => cases key <;> simp [keyIs] at hk; subst hk; exact ⟨_, h _, fun _ _ _ => .val _⟩
  | agg ks =>
    cases key <;> simp [keyIs] at hk
    rename_i cs
    obtain ⟨m, g1, g2, g3⟩ := allCells_at h cs.toList hk
    refine ⟨.agg m, by simpa using g1, fun P w p => .agg m cs (by rw [g2]; simp) (fun v hv => kOk_one hk v hv) fun i x hx => by simpa using g3 P w p i x hx⟩

theorem nodup_filter {l : List MapEntry} (h : ∀ (i j : Nat) e e', l[i]? = some e → l[j]? = some e' → e.born = e'.born → i = j) {sn : Array Nat} {e : MapEntry} (he : e ∈ l) (hs : sn.contains e.born = false) :
    (l.filter fun e => !sn.contains e.born).length = (l.filter fun x => !(sn.push e.born).contains x.born).length + 1 := by
  induction l with
  | nil => cases he
  | cons a l ih =>
    have hcont : ∀ b, (sn.push e.born).contains b = (sn.contains b || b == e.born) := fun b => by
      rw [Array.contains_push, BEq.comm]
    have ht : ∀ (i j : Nat) x x', l[i]? = some x → l[j]? = some x' → x.born = x'.born → i = j := fun i j x x' h1 h2 h3 => by have := h (i + 1) (j + 1) x x' (by simpa using h1) (by simpa using h2) h3; omega
    by_cases hae : a.born = e.born
    · have hnot : ∀ x ∈ l, x.born ≠ e.born := fun x hx hxe => by
        obtain ⟨i, hi, rfl⟩ := List.getElem_of_mem hx
        have := h 0 (i + 1) a l[i] rfl (by simp) (by rw [hae, hxe])
        omega
      have hrest : (l.filter fun x => !(sn.push e.born).contains x.born) = l.filter fun e => !sn.contains e.born := by
        refine List.filter_congr fun x hx => ?_
        rw [hcont, beq_eq_false_iff_ne.2 (hnot x hx), Bool.or_false]
      rw [List.filter_cons, List.filter_cons, hcont, hae, hs, hrest]
      simp
    · have hel : e ∈ l := by
        rcases List.mem_cons.1 he with rfl | he
        · exact absurd rfl hae
        · exact he
      have := ih ht hel
      rw [List.filter_cons, List.filter_cons, hcont, beq_eq_false_iff_ne.2 hae, Bool.or_false]
      cases hsa : sn.contains a.born with
      | true => simp only [Bool.not_true, Bool.false_eq_true, if_false]; exact this
      | false => simp only [Bool.not_false, if_true, List.length_cons]; omega

/-- A range over a map begins. -/
theorem range_real (hT : TOK P T) (h : HR P base w c hp) {o : Oper} {ρ : Operand → AV} {r : Operand → Value} (hρ : ∀ x ∈ o.op.operands, VR P w c (ρ x) (r x)) {ms : List Nat} {ki : KK} {et : TypeId} {has : Value → Bool} {get : Value → AV}
    (hev : opEv T o ρ hp = .ranged ms ki et has get) :
    ∃ q es clock, (execOp r o).run P w = .ok (.value (.pointer (some ⟨w.heap.size, 0, none⟩))) (w.alloc (.mapIter (some q) clock #[] clock)) ∧ w.heap[q]? = some (.map es clock) ∧ qOf c ([], ms) q ∧
      MapR P w (qOf c ([], ms)) ki et has get es clock ∧ ∀ i ∈ ms, i < hp.maps.length := by
  by_cases hb : ∃ t x, o.op = .range t x
  · obtain ⟨t, x, hop⟩ := hb
    have hx := hρ x (mem_operands hop (by simp [Op.operands]))
    unfold opEv at hev; rw [hop] at hev
    simp only [Bool.cond_eq_ite] at hev
    split at hev
    · rename_i kt et' _ _ _ _ ht
      have hd := (hT _ _ ht).1
      split at hev
      · split at hev
        · split at hev
          · rename_i b hr
            rw [hr] at hx
            obtain ⟨q, hu, hN⟩ := hx.omap_inv
            split at hev
            · rename_i am ham
              rw [nth?_eq] at ham
              split at hev
              · rename_i hb
                simp only [Bool.and_eq_true, Option.isNone_iff_eq_none] at hb
                obtain ⟨⟨b1, b2⟩, b3⟩ := hb
                have := kindIs_eq b1; subst this
                have := Nat.eq_of_beq_eq_true b2; subst this
                cases hev
                obtain ⟨es, clock, hq, hM⟩ := (h.maps b am q ham hN).ex b3
                refine ⟨q, es, clock, ?_, hq, .inr (.inr ⟨b, by simp, hN⟩), hM.mono (fun b hb => .inl hb) (fun _ _ => rfl), fun i hi => by simp at hi; subst hi; exact (List.getElem?_eq_some_iff.1 ham).1⟩
                simp [execOp, hop, hu, run_range_map w t kt _ q es clock hd hq]
              · cases hev
            · cases hev
          · rename_i hr
            split at hev
            · rename_i hb
              simp only [Bool.and_eq_true] at hb
              have := kindIs_eq hb.1; subst this
              have := Nat.eq_of_beq_eq_true hb.2; subst this
              cases hev
              rw [hr] at hx
              cases hx with
              | tree hx =>
                generalize hrx : r x = rx at hx
                cases hx with
                | rmap _ _ _ _ q es clock hpq hq g1 g2 g3 =>
                  refine ⟨q, es, clock, ?_, hq, .inl hpq, (MapR.mk g1 g2 g3 : MapR P w c.p ki et has get es clock).mono (fun b hb => .inl hb) (fun _ _ => rfl), fun i hi => by simp at hi⟩
                  simp [execOp, hop, hrx, run_range_map w t kt _ q es clock hd hq]
            · cases hev
          · cases hev
        · cases hev
      · cases hev
    · cases hev
  · exfalso
    have bin : ∀ op d x y, binEv op d x y hp ≠ .ranged ms ki et has get := fun op d x y he => by
      unfold binEv at he
      repeat' split at he
      all_goals first
        | cases he
        | (unfold aggEv at he
           simp only [Bool.cond_eq_ite] at he
           (repeat' split at he) <;> cases he)
    have nil : ∀ op d x, nilEv op d x hp ≠ .ranged ms ki et has get := fun op d x he => by
      unfold nilEv at he
      (repeat' split at he) <;> cases he
    unfold opEv at hev
    split at hev
    all_goals try simp only [Bool.cond_eq_ite, forceNr_eq, forceC_eq, forceT_eq, force0_eq, force1_eq] at hev
    all_goals (repeat' split at hev)
    all_goals first
      | (cases hev; done)
      | exact bin _ _ _ _ hev
      | exact nil _ _ _ hev
      | exact hb ⟨_, _, by assumption⟩

/-- The iterator as a map's block that is not written again. -/
theorem iter_new {q clock : Nat} {es : Array MapEntry} {ki : KK} {et : TypeId} {has : Value → Bool} {get : Value → AV} (hq : w.heap[q]? = some (.map es clock)) (hp0 : c.p q) (hM : MapR P w c.p ki et has get es clock) {c' : Cx}
    (ex : Ext w.heap.size w c (w.alloc (.mapIter (some q) clock #[] clock)) c') :
    MR P (w.alloc (.mapIter (some q) clock #[] clock)) c' { ki, et, has, get, it := some fun _ => false, left := es.toList.length } w.heap.size := by
  refine ⟨(fun hi => by cases hi), fun seen hs => ?_⟩
  cases hs
  refine ⟨q, es, clock, clock, #[], clock, heap_alloc_new w _, ex.p q hp0, (ex.pb q hp0).trans hq, hM.mono ex.p ex.pb, rfl, rfl, fun e he => by simp, by
    show (List.filter (fun e => !(#[] : Array Nat).contains e.born) es.toList).length = es.toList.length
    rw [List.filter_eq_self.2 (fun e _ => by simp)], .inl rfl⟩

/-- The next step of a range over a map. -/
theorem next_real (h : HR P base w c hp) {o : Oper} {ρ : Operand → AV} {r : Operand → Value} (hρ : ∀ x ∈ o.op.operands, VR P w c (ρ x) (r x)) {b : Nat} {m : AM} {seen : Value → Bool}
    (hev : opEv T o ρ hp = .nextc b m seen) :
    hp.maps[b]? = some m ∧ m.ro = false ∧ m.it = some seen ∧ ∃ q, c.N b = some q ∧
      (((∀ k, keyIs m.ki k = true → m.has k = true → seen k = true) ∧ (execOp r o).run P w = .ok (.value (.tuple #[.bool false])) w) ∨
      ∃ (e : MapEntry) (w1 : World) (n : Nat) (obj : Obj), (w1 = w ∨ w1 = { w with drawn := w.drawn + 1 }) ∧ keyOk m.ki e.key ∧ m.has e.key = true ∧ seen e.key = false ∧ m.left = n + 1 ∧ VT P w c.p (m.get e.key) e.val ∧
        (execOp r o).run P w = .ok (.value (.tuple #[.bool true, e.key, e.val])) { w1 with heap := w1.heap.setIfInBounds q obj } ∧
        ∀ (x : AV), VT P w c.p x e.key → Ext base w1 c { w1 with heap := w1.heap.setIfInBounds q obj } c → MR P { w1 with heap := w1.heap.setIfInBounds q obj } c (m.step seen e.key x n) q) := by
  by_cases hb : ∃ x s, o.op = .next x s
  · obtain ⟨x, s, hop⟩ := hb
    have hx := hρ x (mem_operands hop (by simp [Op.operands]))
    unfold opEv at hev; rw [hop] at hev
    simp only [Bool.cond_eq_ite] at hev
    split at hev
    · rename_i b' hr
      rw [hr] at hx
      obtain ⟨q, hu, hN⟩ := hx.oiter_inv
      split at hev
      · rename_i am ham
        rw [nth?_eq] at ham
        split at hev
        · rename_i sn0 hit
          split at hev
          · rename_i hro
            cases hev
            refine ⟨ham, by simpa using hro, hit, q, hN, ?_⟩
            obtain ⟨bm, es, clock, snc, sn, last_, g1, g2, g3, g4, g5, g6, g7, g8, g9⟩ := ((h.maps b m q ham hN).it _ hit).ex
            have g5 := g5.symm
            subst g5
            have g6 := g6.symm
            subst g6
            have hold : ∀ x ∈ es.toList, x.born < clock := g4.ek.clk
            have hne : bm ≠ q := fun e => by rw [e, g1] at g3; cases g3
            have hlt : q < w.heap.size := (h.mown b q hN).2
            have hx1 : (execOp r o).run P w = ((Instr.next (.pointer (some ⟨q, 0, none⟩)) false o.type).run P w).andThen fun v w' => .ok (.value v) w' := by
              unfold execOp
              simp only [hop, hu, Sem.run_bind]
              rfl
            rw [hx1]
            simp only [Instr.next, getObj, Sem.run_bind, Sem.run, g1, g3, Result.andThen, next_test_false sn es clock clock hold (Nat.le_refl _), Bool.false_eq_true, if_false]
            have hleft : (Array.filter (fun e => !sn.contains e.born) es).toList = es.toList.filter fun e => !sn.contains e.born := by simp
            have hmem : ∀ x ∈ (Array.filter (fun e => !sn.contains e.born) es).toList, x ∈ es.toList ∧ sn.contains x.born = false := fun x hx => by
              rw [hleft, List.mem_filter] at hx
              exact ⟨hx.1, by simpa using hx.2⟩
            have hsize : (Array.filter (fun e => !sn.contains e.born) es).size = m.left := by rw [← g8, ← hleft, Array.length_toList]
            generalize Array.filter (fun e => !sn.contains e.born) es = L at hmem hsize hleft
            have e1 : L.filter (fun x => decide (x.born < clock)) = L := Array.filter_eq_self.2 (fun x hx => by simpa using hold x (hmem x (by simpa using hx)).1)
            have e2 : L.filter (fun x => decide (x.born ≥ clock)) = #[] := by
              rw [Array.filter_eq_empty_iff]
              intro x hx
              have := hold x (hmem x (by simpa using hx)).1
              simp
              omega
            simp only [e1, e2, Array.append_empty]
            by_cases h0 : L.size = 0
            · left
              have : L = #[] := Array.eq_empty_of_size_eq_zero h0
              subst this
              refine ⟨fun k hk hh => ?_, ?_⟩
              · obtain ⟨e, he, rfl⟩ := (g4.ek.has k hk).1 hh
                rw [g7 e he]
                have hnil : (es.toList.filter fun e => !sn.contains e.born) = [] := by rw [← hleft]
                have := List.filter_eq_nil_iff.1 hnil e he
                simpa using this
              · simp [choose, Sem.run, Question.forced]
            · right
              have hne' : L.isEmpty = false := by simp [Array.isEmpty, h0]
              simp only [hne', Bool.false_eq_true, if_false, Array.empty_append, Array.size_map]
              have hch : ∃ (j : Nat) (w1 : World), j < L.size ∧ (w1 = w ∨ w1 = { w with drawn := w.drawn + 1 }) ∧ (choose (Question.mapNext L.size)).run P w = .ok j w1 := by
                by_cases hf : L.size ≤ 1
                · exact ⟨0, w, by omega, .inl rfl, by simp [choose, Sem.run, Question.forced, hf]⟩
                · exact ⟨_, w.drew, Nat.mod_lt _ (by omega), .inr rfl, by
                    simp only [choose, Sem.run, Question.forced, decide_eq_true_eq, hf, if_false, Question.cut]
                    rfl⟩
              obtain ⟨j, w1, hj, hw1, hrun⟩ := hch
              have hh1 : w1.heap = w.heap := by rcases hw1 with rfl | rfl <;> rfl
              obtain ⟨m1, m2⟩ := hmem L[j] (by simp)
              have hkey := g4.ek.keys _ m1
              have hval := g4.get _ m1
              have hset : ∀ o', (setObj q o').run P w1 = .ok () { w1 with heap := w1.heap.setIfInBounds q o' } := fun o' => by
                simp only [setObj, Sem.run]
                rw [hh1, g1]
              refine ⟨L[j], w1, m.left - 1, .mapIter (some bm) clock (sn.push L[j].born) clock, hw1, hkey, (g4.ek.has _ hkey).2 ⟨_, m1, rfl⟩, by rw [g7 _ m1]; exact m2, by omega, hval, ?_, fun x hxk ex => ?_⟩
              · simp only [hrun, Array.getElem?_map, Array.getElem?_eq_getElem hj, Option.map_some, Sem.run_bind, hset, Result.andThen]
                rfl
              · refine ⟨(fun hi => by rw [AM.step_eq] at hi; cases hi), fun seen' hs => ?_⟩
                rw [AM.step_eq] at hs ⊢
                cases hs
                have hwb : ({ w1 with heap := w1.heap.setIfInBounds q (.mapIter (some bm) clock (sn.push L[j].born) clock) } : World).heap[bm]? = w.heap[bm]? := by
                  rw [ex.pb bm g2, hh1]
                have hpb : ∀ b, c.p b → ({ w1 with heap := w1.heap.setIfInBounds q (.mapIter (some bm) clock (sn.push L[j].born) clock) } : World).heap[b]? = w.heap[b]? := fun b hb => by rw [ex.pb b hb, hh1]
                refine ⟨bm, es, clock, clock, sn.push L[j].born, clock, ?_, g2, hwb.trans g3, g4.mono (fun _ h => h) hpb, rfl, rfl, fun e he => ?_, ?_, .inr ⟨L[j], m1, by simp, ?_⟩⟩
                · simp only [Array.getElem?_setIfInBounds]
                  rw [if_pos trivial, if_pos (by rw [hh1]; exact hlt)]
                · have hek := g4.ek.keys e he
                  have hpush : (sn.push L[j].born).contains e.born = (sn.contains e.born || e.born == L[j].born) := by
                    rw [Array.contains_push, BEq.comm]
                  rw [hpush, g7 e he]
                  congr 1
                  rw [Bool.eq_iff_iff, keyEq_iff hek hkey, beq_iff_eq]
                  obtain ⟨i1, hi1, he1⟩ := List.getElem_of_mem he
                  obtain ⟨i2, hi2, he2⟩ := List.getElem_of_mem m1
                  constructor
                  · intro hke
                    have := g4.ek.once i1 i2 e L[j] (by rw [← he1]; exact List.getElem?_eq_getElem hi1) (by rw [← he2]; exact List.getElem?_eq_getElem hi2) hke
                    subst this
                    rw [← he1, ← he2]
                  · intro hbe
                    have := g4.ek.born i1 i2 e L[j] (by rw [← he1]; exact List.getElem?_eq_getElem hi1) (by rw [← he2]; exact List.getElem?_eq_getElem hi2) hbe
                    subst this
                    rw [← he1, ← he2]
                · have := nodup_filter g4.ek.born m1 m2
                  rw [g8] at this
                  show _ = m.left - 1
                  omega
                · refine .tuple _ _ rfl fun i y hy => ?_
                  match i with
                  | 0 => simp at hy; subst hy; exact hxk.mono (fun _ h => h) hpb
                  | 1 => simp at hy; subst hy; exact hval.mono (fun _ h => h) hpb
                  | i + 2 => simp at hy
          · cases hev
        · cases hev
      · cases hev
    · cases hev
  · exfalso
    have bin : ∀ op d x y, binEv op d x y hp ≠ .nextc b m seen := fun op d x y he => by
      unfold binEv at he
      repeat' split at he
      all_goals first
        | cases he
        | (unfold aggEv at he
           simp only [Bool.cond_eq_ite] at he
           (repeat' split at he) <;> cases he)
    have nil : ∀ op d x, nilEv op d x hp ≠ .nextc b m seen := fun op d x he => by
      unfold nilEv at he
      (repeat' split at he) <;> cases he
    unfold opEv at hev
    split at hev
    all_goals try simp only [Bool.cond_eq_ite, forceNr_eq, forceC_eq, forceT_eq, force0_eq, force1_eq] at hev
    all_goals (repeat' split at hev)
    all_goals first
      | (cases hev; done)
      | exact bin _ _ _ _ hev
      | exact nil _ _ _ hev
      | exact hb ⟨_, _, by assumption⟩

/-- An entry whose value refers to memory of the call's own. -/
theorem insF_real (hT : TOK P T) (h : HR P base w c hp) {o : Oper} {ρ : Operand → AV} {r : Operand → Value} (hρ : ∀ x ∈ o.op.operands, VR P w c (ρ x) (r x)) {b : Nat} {m : AM} {key : Value} {x' : AV} {bs : List Nat}
    (hev : opEv T o ρ hp = .insF b m key x' bs) :
    hp.maps[b]? = some m ∧ m.ro = false ∧ m.it = none ∧ keyOk m.ki key ∧ (∀ i ∈ bs, i < hp.blocks.length) ∧ ∃ t kt et q u, P.underlying t = some (.map kt et) ∧ KeyT P kt m.ki ∧ c.N b = some q ∧ VT P w (qOf c (bs, [])) x' u ∧
      ∀ w', (Instr.mapUpdate t (.map (some q)) key u).run P w = .ok () w' → (execOp r o).run P w = .ok .skip w' := by
  have main : ∀ t a i y, (o.op = .mapUpdate t a i y ∨ o.op = .insert t a i y) → hp.maps[b]? = some m ∧ m.ro = false ∧ m.it = none ∧ keyOk m.ki key ∧ (∀ i ∈ bs, i < hp.blocks.length) ∧ ∃ t kt et q u, P.underlying t = some (.map kt et) ∧ KeyT P kt m.ki ∧ c.N b = some q ∧ VT P w (qOf c (bs, [])) x' u ∧
      ∀ w', (Instr.mapUpdate t (.map (some q)) key u).run P w = .ok () w' → (execOp r o).run P w = .ok .skip w' := by
    intro t a i y hop
    have ha : VR P w c (ρ a) (r a) := by rcases hop with hop | hop <;> exact hρ a (mem_operands hop (by simp [Op.operands]))
    have hi : VR P w c (ρ i) (r i) := by rcases hop with hop | hop <;> exact hρ i (mem_operands hop (by simp [Op.operands]))
    have hy : VR P w c (ρ y) (r y) := by rcases hop with hop | hop <;> exact hρ y (mem_operands hop (by simp [Op.operands]))
    have hex : ∀ w', (Instr.mapUpdate t (r a) (r i) (r y)).run P w = .ok () w' → (execOp r o).run P w = .ok .skip w' := fun w' hh => by
      rcases hop with hop | hop <;> simp [execOp, hop, hh]
    have hev : (match T t, ρ a, keyOf (ρ i) with
      | some { desc := .map kt _, .. }, .omap b, some key =>
        match keyKind T kt with
        | some ki =>
          match nth? hp.maps b with
          | some am => bif kindIs ki am.ki && keyIs ki key && !am.ro && am.it.isNone then
              match AV.tree 4 (ρ y) with
              | true => force1 (ρ y) fun x => Res.ok .top (hp.setM b (am.wr (fun hs k => hs k || opEv.keyEq k key) fun gt k => bif opEv.keyEq k key then x else gt k))
              | false => match refs hp 5 (ρ y) with
                | (bs, []) => .insF b am key (fz hp (ρ y)) bs
                | _ => .bad
            else .bad
          | none => .bad
        | none => .bad
      | _, _, _ => .bad) = .insF b m key x' bs := by
      rcases hop with hop | hop <;> (unfold opEv at hev; rw [hop] at hev; exact hev)
    simp only [Bool.cond_eq_ite, force1_eq] at hev
    split at hev
    · rename_i kt et _ _ _ _ b' key' ht hra hri
      split at hev
      · rename_i ki hki
        split at hev
        · rename_i am ham
          rw [nth?_eq] at ham
          split at hev
          · rename_i hb
            simp only [Bool.and_eq_true, Bool.not_eq_true', Option.isNone_iff_eq_none] at hb
            obtain ⟨⟨⟨b1, b2⟩, b4⟩, b5⟩ := hb
            split at hev
            · cases hev
            · split at hev
              · rename_i bs' hrefs
                cases hev
                have := kindIs_eq b1
                subst this
                rw [hra] at ha
                obtain ⟨q, hq, hN⟩ := ha.omap_inv
                have hfz := freeze_ok h 5 hy
                have hl := (refs_lt (hp := hp) 5 (ρ y)).1
                rw [hrefs] at hfz hl
                exact ⟨ham, b4, b5, b2, hl, t, kt, et, q, r y, (hT _ _ ht).1, find_known hT hki, hN, hfz, fun w' hh => hex w' (by rw [hq, keyOf_eq hri hi]; exact hh)⟩
              · cases hev
          · cases hev
        · cases hev
      · cases hev
    · cases hev
  by_cases hb : ∃ t a i y, (o.op = .mapUpdate t a i y ∨ o.op = .insert t a i y)
  · obtain ⟨t, a, i, y, hop⟩ := hb
    exact main t a i y hop
  · exfalso
    have bin : ∀ op d x y, binEv op d x y hp ≠ .insF b m key x' bs := fun op d x y he => by
      unfold binEv at he
      repeat' split at he
      all_goals first
        | cases he
        | (unfold aggEv at he
           simp only [Bool.cond_eq_ite] at he
           (repeat' split at he) <;> cases he)
    have nil : ∀ op d x, nilEv op d x hp ≠ .insF b m key x' bs := fun op d x he => by
      unfold nilEv at he
      (repeat' split at he) <;> cases he
    unfold opEv at hev
    split at hev
    all_goals try simp only [Bool.cond_eq_ite, forceNr_eq, forceC_eq, forceT_eq, force0_eq, force1_eq] at hev
    all_goals (repeat' split at hev)
    all_goals first
      | (cases hev; done)
      | exact bin _ _ _ _ hev
      | exact nil _ _ _ hev
      | exact hb ⟨_, _, _, _, .inl (by assumption)⟩
      | exact hb ⟨_, _, _, _, .inr (by assumption)⟩
end
end Go.Tr

/- What a function's contract says; a call by its contract. Conditions: none. -/
import Derived.Test.YtkomdfgffgkphaaTrO
namespace Go.Tr
open Go Go.RowKit

/-- What is handed back is memory of its own: from number n on its slices are blocks. -/
def FreshAt (P : Program) (B : Nat) (w' : World) (n : Nat) (r : AV) (u : Value) : Prop :=
  ∀ yv : Nat → Option Nat, ∃ (O' : Nat → Option OI) (q' : Nat → Prop),
    (∀ b oi, O' b = some oi → n ≤ b ∧ b < n + (adopt r n).2.length ∧ (oi.cap ≠ 0 → B ≤ oi.blk ∧ oi.blk < w'.heap.size ∧ ¬ q' oi.blk)) ∧
    (∀ b, q' b → B ≤ b ∧ b < w'.heap.size) ∧
    VR P w' ⟨q', O', fun _ => none, yv⟩ (adopt r n).1 u ∧
    (∀ (i : Nat) (k : AB) (oi : OI), (adopt r n).2[i]? = some k → O' (n + i) = some oi → BR P w' ⟨q', O', fun _ => none, yv⟩ k oi) ∧
    (∀ b b' oi oi', O' b = some oi → O' b' = some oi' → b ≠ b' → oi.blk ≠ oi'.blk ∨ oi.cap = 0 ∨ oi'.cap = 0)

/-- The contract: called with arguments that read so, the function returns what reads so, and turns nothing that was there. fr: the result's slices are memory of its own. -/
def Sound1 (P : Program) (f : FuncId) (args : List AV) (r : AV) (fr : Bool) : Prop :=
  (∀ as w, (callFunc f as).run P w = .ok (.enter f as) w) ∧
  ∀ (w : World) (q : Nat → Prop) (vs : Array Value), (∀ b, q b → b < w.heap.size) → vs.size = args.length → (∀ (i : Nat) x, args[i]? = some x → VT P w q x (vs.getD i undef)) →
    Calls P f vs w fun e w' => ∃ u, e = .returned u ∧ Below w.heap.size w w' ∧
      match fr with
      | false => VT P w' (fun b => q b ∨ (w.heap.size ≤ b ∧ b < w'.heap.size)) r u
      | true => ∀ n, FreshAt P w.heap.size w' n r u

section
variable {P : Program} {T : Nat → Option TI} {w w' : World} {c c' : Cx} {base : Nat} {hp hp' : Hp}

theorem hasNat_iff {l : List Nat} {n : Nat} : hasNat l n = true ↔ n ∈ l := by
  unfold hasNat
  rw [List.any_eq_true]
  constructor
  · rintro ⟨x, hx, h⟩
    have := Nat.eq_of_beq_eq_true h
    exact this ▸ hx
  · intro h
    exact ⟨n, h, Nat.beq_refl n⟩

theorem roB_get (ids : List Nat) : ∀ (l : List AB) (n i : Nat), (roB ids n l)[i]? = (l[i]?).map fun k => bif hasNat ids (n + i) then { k with ro := true } else k
  | [], n, i => by simp [roB]
  | k :: r, n, 0 => by simp [roB]
  | k :: r, n, i + 1 => by
    simp only [roB, List.getElem?_cons_succ]
    rw [roB_get ids r (n + 1) i, show n + 1 + i = n + (i + 1) from by omega]
theorem roM_get (ids : List Nat) : ∀ (l : List AM) (n i : Nat), (roM ids n l)[i]? = (l[i]?).map fun k => bif hasNat ids (n + i) then { k with ro := true } else k
  | [], n, i => by simp [roM]
  | k :: r, n, 0 => by simp [roM]
  | k :: r, n, i + 1 => by
    simp only [roM, List.getElem?_cons_succ]
    rw [roM_get ids r (n + 1) i, show n + 1 + i = n + (i + 1) from by omega]
theorem roB_length (ids : List Nat) : ∀ (l : List AB) (n : Nat), (roB ids n l).length = l.length
  | [], n => by simp [roB]
  | k :: r, n => by simp [roB, roB_length ids r (n + 1)]
theorem roM_length (ids : List Nat) : ∀ (l : List AM) (n : Nat), (roM ids n l).length = l.length
  | [], n => by simp [roM]
  | k :: r, n => by simp [roM, roM_length ids r (n + 1)]

def roHp (hp : Hp) (bs ms : List Nat) : Hp := { hp with blocks := roB bs 0 hp.blocks, maps := roM ms 0 hp.maps }

/-- Behind a call whose result may share memory with its arguments. -/
theorem qout_shared (h : HR P base w c hp) (hw : Below w.heap.size w w') {bs ms : List Nat} (hbs : ∀ i ∈ bs, i < hp.blocks.length) (hms : ∀ i ∈ ms, i < hp.maps.length) :
    QOut P base w c hp w' { c with p := fun b => qOf c (bs, ms) b ∨ (w.heap.size ≤ b ∧ b < w'.heap.size) } (roHp hp bs ms) := by
  have hqlt : ∀ b, qOf c (bs, ms) b → b < w.heap.size := fun b hb => by
    rcases hb with hb | ⟨i, _, oi, hO, hc, rfl⟩ | ⟨i, _, hN⟩
    · exact h.st b hb
    · exact (h.own i oi hO hc).2
    · exact (h.mown i b hN).2
  have e : Ext w.heap.size w c w' { c with p := fun b => qOf c (bs, ms) b ∨ (w.heap.size ≤ b ∧ b < w'.heap.size) } :=
    ⟨hw, fun _ h => .inl (.inl h), fun b hb => hw.block b (h.st b hb), fun _ oi h => ⟨oi, h, Nat.le_refl _, fun _ => rfl⟩, fun _ _ h => h, fun _ _ h => h⟩
  have hs := hw.size
  have hgb : ∀ (i : Nat) (k : AB), (roB bs 0 hp.blocks)[i]? = some k → ∃ k0, hp.blocks[i]? = some k0 ∧ ABro k0 k := fun i k hk => by
    rw [roB_get] at hk
    cases hk0 : hp.blocks[i]? with
    | none => rw [hk0] at hk; cases hk
    | some k0 =>
      rw [hk0] at hk
      simp only [Option.map_some, Option.some.injEq] at hk
      refine ⟨k0, rfl, ?_⟩
      cases hh : hasNat bs (0 + i) with
      | true => rw [hh] at hk; exact .inr hk.symm
      | false => rw [hh] at hk; exact .inl hk.symm
  have hgm : ∀ (i : Nat) (k : AM), (roM ms 0 hp.maps)[i]? = some k → ∃ k0, hp.maps[i]? = some k0 ∧ AMro k0 k := fun i k hk => by
    rw [roM_get] at hk
    cases hk0 : hp.maps[i]? with
    | none => rw [hk0] at hk; cases hk
    | some k0 =>
      rw [hk0] at hk
      simp only [Option.map_some, Option.some.injEq] at hk
      refine ⟨k0, rfl, ?_⟩
      cases hh : hasNat ms (0 + i) with
      | true => rw [hh] at hk; exact .inr hk.symm
      | false => rw [hh] at hk; exact .inl hk.symm
  refine ⟨⟨fun b k oi hk hO => ?_, h.sep, fun b oi hO hc => ?_, fun b hb => ?_, fun b m r hk hO => ?_, fun b r hO => ?_, h.msep, h.bm⟩, e, ⟨fun i k hk => ?_, fun i k hk => ?_⟩, fun _ _ h => h, fun _ _ h => .inl h, fun _ _ h => .inl h, fun b oi h1 h2 h3 => ?_, fun b r h1 h3 => ?_, fun b hb => ?_, rfl⟩
  · obtain ⟨k0, hk0, er⟩ := hgb b k hk
    exact (h.blk_old e hk0 hO).ro er
  · have := h.own b oi hO hc; omega
  · rcases hb with hb | hb
    · have := hqlt b hb; omega
    · exact hb.2
  · obtain ⟨k0, hk0, er⟩ := hgm b m hk
    exact (h.map_old e hk0 hO).ro er
  · have := h.mown b r hO; omega
  · refine ⟨_, by simp only [roHp]; rw [roB_get, hk]; rfl, ?_⟩
    cases hh : hasNat bs (0 + i) with
    | true => exact .inr rfl
    | false => exact .inl rfl
  · refine ⟨_, by simp only [roHp]; rw [roM_get, hk]; rfl, ?_⟩
    cases hh : hasNat ms (0 + i) with
    | true => exact .inr rfl
    | false => exact .inl rfl
  · have hlt := (h.own b oi h1 h2).2
    rcases h3 with (h3 | ⟨i, hi, oi2, hO2, hc2, he⟩ | ⟨i, hi, hN⟩) | h3
    · exact .inl ⟨h1, h3⟩
    · have hib : i = b := by
        by_cases hib : i = b
        · exact hib
        · rcases h.sep i b oi2 oi hO2 h1 hib with h | h | h
          · exact absurd he h
          · exact absurd h hc2
          · exact absurd h h2
      subst hib
      have hl := hbs i hi
      refine .inr ⟨{ hp.blocks[i] with ro := true }, ?_, rfl⟩
      simp only [roHp]
      rw [roB_get, List.getElem?_eq_getElem hl, Nat.zero_add]
      simp [hasNat_iff.2 hi]
    · exact absurd rfl (h.bm b i oi _ h1 h2 hN)
    · omega
  · have hlt := (h.mown b r h1).2
    rcases h3 with (h3 | ⟨i, hi, oi2, hO2, hc2, he⟩ | ⟨i, hi, hN⟩) | h3
    · exact .inl ⟨h1, h3⟩
    · exact absurd he (h.bm i b oi2 r hO2 hc2 h1)
    · have hib := h.msep i b r hN h1
      subst hib
      have hl := hms i hi
      refine .inr ⟨{ hp.maps[i] with ro := true }, ?_, rfl⟩
      simp only [roHp]
      rw [roM_get, List.getElem?_eq_getElem hl, Nat.zero_add]
      simp [hasNat_iff.2 hi]
    · omega
  · rcases hb with (hb | ⟨i, _, oi, hO, hc, he⟩ | ⟨i, _, hN⟩) | hb
    · exact .inl hb
    · exact .inr (.inr (.inl ⟨i, oi, hO, hc, he⟩))
    · exact .inr (.inr (.inr ⟨i, hN⟩))
    · exact .inr (.inl hb.1)

/-- Behind a call whose result is memory of its own. -/
theorem qout_fresh (h : HR P base w c hp) (hbase : base ≤ w.heap.size) (hw : Below w.heap.size w w') {r : AV} {u : Value} (hf : FreshAt P w.heap.size w' hp.blocks.length r u)
    (hfree : ∀ b, hp.blocks.length ≤ b → b < hp.blocks.length + (adopt r hp.blocks.length).2.length → c.O b = none) :
    ∃ c', QOut P base w c hp w' c' { hp with blocks := hp.blocks ++ (adopt r hp.blocks.length).2 } ∧ VR P w' c' (adopt r hp.blocks.length).1 u := by
  obtain ⟨O', q', f1, f2, f3, f4, f5⟩ := hf c.y
  generalize hA : adopt r hp.blocks.length = A at *
  let c' : Cx := { p := fun b => c.p b ∨ q' b, O := fun b => match O' b with | some oi => some oi | none => c.O b, N := c.N, y := c.y }
  have hs := hw.size
  have hcase : ∀ b oi, c'.O b = some oi → O' b = some oi ∨ (O' b = none ∧ c.O b = some oi) := fun b oi hb => by
    simp only [c'] at hb
    cases hO' : O' b with
    | some o2 => rw [hO'] at hb; simp only at hb; exact .inl hb
    | none => rw [hO'] at hb; simp only at hb; exact .inr ⟨rfl, hb⟩
  have hnew : ∀ b oi, O' b = some oi → c'.O b = some oi := fun b oi hb => by simp only [c', hb]
  have hold : ∀ b oi, c.O b = some oi → c'.O b = some oi := fun b oi hb => by
    simp only [c']
    cases hO' : O' b with
    | some o2 => have := (f1 b o2 hO'); rw [hfree b this.1 this.2.1] at hb; cases hb
    | none => exact hb
  have e : Ext w.heap.size w c w' c' := ⟨hw, fun _ h => .inl h, fun b hb => hw.block b (h.st b hb), fun b oi hb => ⟨oi, hold b oi hb, Nat.le_refl _, fun _ => rfl⟩, fun _ _ h => h, fun _ _ h => h⟩
  have e2 : Ext 0 w' ⟨q', O', fun _ => none, c.y⟩ w' c' := ⟨Below.refl _ _, fun _ h => .inr h, fun _ _ => rfl, fun b oi hb => ⟨oi, hnew b oi hb, Nat.le_refl _, fun _ => rfl⟩, (fun b r hb => by cases hb), fun _ _ h => h⟩
  refine ⟨c', ⟨⟨fun b k oi hk hO => ?_, fun b b' o1 o2 h1 h2 hne => ?_, fun b oi hO hc => ?_, fun b hb => ?_, fun b m r hk hO => h.map_old e hk hO, fun b r hO => ?_, h.msep, fun b i oi r hO hc hN => ?_⟩, e,
    ⟨fun i x hx => ⟨x, ?_, .refl _⟩, fun i x hx => ⟨x, hx, .refl _⟩⟩, hold, fun b oi hb => ?_, fun _ _ h => .inl h, fun b oi h1 h2 h3 => ?_, fun b r h1 h3 => .inl ⟨h1, ?_⟩, fun b hb => hb.imp id fun hb => .inl (f2 b hb).1, rfl⟩, f3.mono e2⟩
  · rcases hcase b oi hO with hO' | ⟨_, hO'⟩
    · have hb := f1 b oi hO'
      obtain ⟨i, rfl⟩ : ∃ i, b = hp.blocks.length + i := ⟨b - hp.blocks.length, by omega⟩
      have hk' : A.2[i]? = some k := by
        rw [List.getElem?_append_right (by omega)] at hk
        simpa using hk
      exact (f4 i k oi hk' hO').mono e2 fun _ => rfl
    · have hlt : b < hp.blocks.length := by
        rcases Nat.lt_or_ge b hp.blocks.length with hlt | hge
        · exact hlt
        · have := (List.getElem?_eq_some_iff.1 hk).1
          simp at this
          rw [hfree b hge this] at hO'; cases hO'
      rw [List.getElem?_append_left hlt] at hk
      exact h.blk_old e hk hO'
  · rcases hcase b o1 h1 with g1 | ⟨_, g1⟩ <;> rcases hcase b' o2 h2 with g2 | ⟨_, g2⟩
    · exact f5 b b' o1 o2 g1 g2 hne
    · by_cases hc : o1.cap = 0
      · exact .inr (.inl hc)
      · by_cases hc2 : o2.cap = 0
        · exact .inr (.inr hc2)
        · have := (f1 b o1 g1).2.2 hc; have := h.own b' o2 g2 hc2; exact .inl (by omega)
    · by_cases hc : o2.cap = 0
      · exact .inr (.inr hc)
      · by_cases hc2 : o1.cap = 0
        · exact .inr (.inl hc2)
        · have := (f1 b' o2 g2).2.2 hc; have := h.own b o1 g1 hc2; exact .inl (by omega)
    · exact h.sep b b' o1 o2 g1 g2 hne
  · rcases hcase b oi hO with g | ⟨_, g⟩
    · have := (f1 b oi g).2.2 hc; omega
    · have := h.own b oi g hc; omega
  · rcases hb with hb | hb
    · have := h.st b hb; omega
    · exact (f2 b hb).2
  · have := h.mown b r hO; omega
  · rcases hcase b oi hO with g | ⟨_, g⟩
    · have := (f1 b oi g).2.2 hc; have := h.mown i r hN; omega
    · exact h.bm b i oi r g hc hN
  · rw [List.getElem?_append_left (List.getElem?_eq_some_iff.1 hx).1]; exact hx
  · rcases hcase b oi hb with g | ⟨_, g⟩
    · have := f1 b oi g; exact .inr ⟨this.1, by simp; exact this.2.1⟩
    · exact .inl g
  · rcases hcase b oi h1 with g | ⟨_, g⟩
    · have := (f1 b oi g).2.2 h2
      rcases h3 with h3 | h3
      · have := h.st _ h3; omega
      · exact absurd h3 this.2.2
    · rcases h3 with h3 | h3
      · exact .inl ⟨g, h3⟩
      · have := h.own b oi g h2; have := f2 _ h3; omega
  · rcases h3 with h3 | h3
    · exact h3
    · have := h.mown b r h1; have := f2 _ h3; omega

theorem refsL (l : List AV) : (∀ i ∈ (l.map (refs hp 5)).flatMap (·.1), i < hp.blocks.length) ∧ (∀ i ∈ (l.map (refs hp 5)).flatMap (·.2), i < hp.maps.length) := by
  refine ⟨fun i hi => ?_, fun i hi => ?_⟩
  · obtain ⟨q, hq, hi⟩ := List.mem_flatMap.1 hi
    obtain ⟨y, _, rfl⟩ := List.mem_map.1 hq
    exact (refs_lt 5 y).1 i hi
  · obtain ⟨q, hq, hi⟩ := List.mem_flatMap.1 hi
    obtain ⟨y, _, rfl⟩ := List.mem_map.1 hq
    exact (refs_lt 5 y).2 i hi

/-- A call by its contract. -/
theorem op_call (h : HR P base w c hp) (hbase : base ≤ w.heap.size) {o : Oper} {f : Operand} {args : Array Operand} {ts : Array TypeId} {ρ : Operand → AV} {r : Operand → Value} (hop : o.op = .call { callee := .value f, args, argTypes := ts })
    (hf : VR P w c (ρ f) (r f)) (hx : ∀ x ∈ args, VR P w c (ρ x) (r x)) {g : FuncId} {as : List AV} {bs ms : List Nat} (hev : opEv T o ρ hp = .call g as bs ms) {res : AV} {fr : Bool} (hS : Sound1 P g as res fr)
    (hfree : fr = true → ∀ b, hp.blocks.length ≤ b → b < hp.blocks.length + (adopt res hp.blocks.length).2.length → c.O b = none) :
    ∃ vs, (execOp r o).run P w = .ok (.enter g vs) w ∧ Calls P g vs w fun e w' => ∃ u, e = .returned u ∧ ∃ c',
      match fr with
      | true => QOut P base w c hp w' c' { hp with blocks := hp.blocks ++ (adopt res hp.blocks.length).2 } ∧ VR P w' c' (adopt res hp.blocks.length).1 u
      | false => QOut P base w c hp w' c' (roHp hp bs ms) ∧ VR P w' c' res u := by
  obtain ⟨hin, hcalls⟩ := hS
  unfold opEv at hev
  rw [hop] at hev
  simp only at hev
  split at hev
  · rename_i g' nf cap hrf
    simp only [Res.call.injEq] at hev
    obtain ⟨rfl, rfl, rfl, rfl⟩ := hev
    rw [hrf] at hf
    obtain ⟨f0, cv, hcv, hf0, hcs, hcr⟩ := hf.func_inv
    have hcs' : f0.size + cv.size = cap.length := by simpa using hcs
    refine ⟨f0 ++ args.map r ++ cv, ?_, ?_⟩
    · unfold execOp
      simp only [hop, resolve, hcv, Deferred.ofValue, Sem.run_bind, Sem.run_pure, Result.andThen_ok, invoke]
      simpa using hin (f0 ++ args.map r ++ cv) w
    · -- the arguments as trees
      let L : List AV := cap.take nf ++ args.toList.map ρ ++ cap.drop nf
      have hLe : (cap.take nf).map (refs hp 5) ++ (args.toList.map fun x => refs hp 5 (ρ x)) ++ (cap.drop nf).map (refs hp 5) = L.map (refs hp 5) := by simp [L, -List.map_take, -List.map_drop]
      have hLf : (cap.take nf).map (fz hp) ++ (args.toList.map fun x => fz hp (ρ x)) ++ (cap.drop nf).map (fz hp) = L.map (fz hp) := by simp [L, -List.map_take, -List.map_drop]
      have hLr : ∀ (i : Nat) x, L[i]? = some x → VR P w c x ((f0 ++ args.map r ++ cv).getD i undef) := fun i x hi => by
        simp only [L] at hi
        have htl : (cap.take nf).length = f0.size := by simp; omega
        simp only [Array.getD_eq_getD_getElem?] at hcr ⊢
        by_cases h1 : i < f0.size
        · rw [List.append_assoc, List.getElem?_append_left (by omega), List.getElem?_take, if_pos (by omega)] at hi
          have := hcr i x hi
          rw [Array.getElem?_append_left h1] at this
          rw [Array.append_assoc, Array.getElem?_append_left h1]
          exact this
        · by_cases hlt : i < f0.size + args.size
          · rw [List.append_assoc, List.getElem?_append_right (by omega), List.getElem?_append_left (by simp; omega), List.getElem?_map] at hi
            rw [Array.append_assoc, Array.getElem?_append_right (by omega), Array.getElem?_append_left (by simp; omega)]
            rw [htl] at hi
            have hlt' : i - f0.size < args.size := by omega
            have ha : args.toList[i - f0.size]? = some args[i - f0.size] := by simp [hlt']
            rw [ha] at hi
            simp only [Option.map_some, Option.some.injEq] at hi
            subst hi
            simpa [hlt'] using hx args[i - f0.size] (by simp)
          · have hll : (cap.take nf ++ args.toList.map ρ).length = f0.size + args.size := by rw [List.length_append, htl]; simp
            rw [List.getElem?_append_right (by omega), hll, List.getElem?_drop] at hi
            rw [Array.getElem?_append_right (by simp; omega)]
            have := hcr _ x hi
            rw [Array.getElem?_append_right (by omega)] at this
            have e : i - (f0 ++ args.map r).size = nf + (i - (f0.size + args.size)) - f0.size := by simp; omega
            rw [e]
            exact this
      rw [hLe] at *
      rw [hLf] at hcalls
      obtain ⟨l1, l2⟩ := refsL (hp := hp) L
      have hq : ∀ b, qOf c ((L.map (refs hp 5)).flatMap (·.1), (L.map (refs hp 5)).flatMap (·.2)) b → b < w.heap.size := fun b hb => by
        rcases hb with hb | ⟨i, _, oi, hO, hc, rfl⟩ | ⟨i, _, hN⟩
        · exact h.st b hb
        · exact (h.own i oi hO hc).2
        · exact (h.mown i b hN).2
      have hsz : (f0 ++ args.map r ++ cv).size = (L.map (fz hp)).length := by simp [L]; omega
      refine (hcalls w (qOf c ((L.map (refs hp 5)).flatMap (·.1), (L.map (refs hp 5)).flatMap (·.2))) (f0 ++ args.map r ++ cv) hq hsz fun i x hi => ?_).mono ?_
      · rw [List.getElem?_map] at hi
        cases hl : L[i]? with
        | none => rw [hl] at hi; cases hi
        | some y =>
          rw [hl] at hi
          simp only [Option.map_some, Option.some.injEq] at hi
          subst hi
          have hm := List.mem_of_getElem? hl
          exact (freeze_ok h 5 (hLr i y hl)).weaken fun b hb => qOf_mono (m := ((L.map (refs hp 5)).flatMap (·.1), (L.map (refs hp 5)).flatMap (·.2)))
            (fun q hq => List.mem_flatMap.2 ⟨_, List.mem_map.2 ⟨y, hm, rfl⟩, hq⟩) (fun q hq => List.mem_flatMap.2 ⟨_, List.mem_map.2 ⟨y, hm, rfl⟩, hq⟩) hb
      · rintro e w' ⟨u, rfl, hw, hres⟩
        refine ⟨u, rfl, ?_⟩
        cases fr with
        | true =>
          obtain ⟨c', h1, h2⟩ := qout_fresh h hbase hw (hres hp.blocks.length) (hfree rfl)
          exact ⟨c', h1, h2⟩
        | false => exact ⟨_, qout_shared h hw l1 l2, .tree hres⟩
  · cases hev
  · cases hev

/-- The arguments of a call as they are. -/
theorem raw_args {o : Oper} {f : Operand} {args : Array Operand} {ts : Array TypeId} {ρ : Operand → AV} {r : Operand → Value} (hop : o.op = .call { callee := .value f, args, argTypes := ts })
    (hf : VR P w c (ρ f) (r f)) (hx : ∀ x ∈ args, VR P w c (ρ x) (r x)) {g : FuncId} {as : List AV} {bs ms : List Nat} (hev : opEv T o ρ hp = .call g as bs ms) :
    ∃ vs : Array Value, vs.size = (rawArgs o ρ).length ∧ ∀ (i : Nat) x, (rawArgs o ρ)[i]? = some x → VR P w c x (vs.getD i undef) := by
  unfold opEv at hev
  rw [hop] at hev
  simp only at hev
  split at hev
  · rename_i g' nf cap hrf
    simp only [Res.call.injEq] at hev
    obtain ⟨rfl, rfl, rfl, rfl⟩ := hev
    rw [hrf] at hf
    obtain ⟨f0, cv, hcv, hf0, hcs, hcr⟩ := hf.func_inv
    have hcs' : f0.size + cv.size = cap.length := by simpa using hcs
    have hraw : rawArgs o ρ = cap.take nf ++ args.toList.map ρ ++ cap.drop nf := by
      unfold rawArgs
      rw [hop]
      simp only
      rw [hrf]
    refine ⟨f0 ++ args.map r ++ cv, ?_, ?_⟩
    · rw [hraw]; simp; omega
    · rw [hraw]
      intro i x hi
      have htl : (cap.take nf).length = f0.size := by simp; omega
      simp only [Array.getD_eq_getD_getElem?] at hcr ⊢
      by_cases h1 : i < f0.size
      · rw [List.append_assoc, List.getElem?_append_left (by omega), List.getElem?_take, if_pos (by omega)] at hi
        have := hcr i x hi
        rw [Array.getElem?_append_left h1] at this
        rw [Array.append_assoc, Array.getElem?_append_left h1]
        exact this
      · by_cases hlt : i < f0.size + args.size
        · rw [List.append_assoc, List.getElem?_append_right (by omega), List.getElem?_append_left (by simp; omega), List.getElem?_map] at hi
          rw [Array.append_assoc, Array.getElem?_append_right (by omega), Array.getElem?_append_left (by simp; omega)]
          rw [htl] at hi
          have hlt' : i - f0.size < args.size := by omega
          have ha : args.toList[i - f0.size]? = some args[i - f0.size] := by simp [hlt']
          rw [ha] at hi
          simp only [Option.map_some, Option.some.injEq] at hi
          subst hi
          simpa [hlt'] using hx args[i - f0.size] (by simp)
        · have hll : (cap.take nf ++ args.toList.map ρ).length = f0.size + args.size := by rw [List.length_append, htl]; simp
          rw [List.getElem?_append_right (by omega), hll, List.getElem?_drop] at hi
          rw [Array.getElem?_append_right (by simp; omega)]
          have := hcr _ x hi
          rw [Array.getElem?_append_right (by omega)] at this
          have e : i - (f0 ++ args.map r).size = nf + (i - (f0.size + args.size)) - f0.size := by simp; omega
          rw [e]
          exact this
  · cases hev
  · cases hev

/-- The arguments of a call as they are. -/
theorem op_raw {o : Oper} {f : Operand} {args : Array Operand} {ts : Array TypeId} {ρ : Operand → AV} {r : Operand → Value} (hop : o.op = .call { callee := .value f, args, argTypes := ts })
    (hf : VR P w c (ρ f) (r f)) (hx : ∀ x ∈ args, VR P w c (ρ x) (r x)) {g : FuncId} {as : List AV} {bs ms : List Nat} (hev : opEv T o ρ hp = .call g as bs ms) (hin : ∀ as w, (callFunc g as).run P w = .ok (.enter g as) w) :
    ∃ vs : Array Value, (execOp r o).run P w = .ok (.enter g vs) w ∧ vs.size = (rawArgs o ρ).length ∧ ∀ (i : Nat) x, (rawArgs o ρ)[i]? = some x → VR P w c x (vs.getD i undef) := by
  unfold opEv at hev
  rw [hop] at hev
  simp only at hev
  split at hev
  · rename_i g' nf cap hrf
    simp only [Res.call.injEq] at hev
    obtain ⟨rfl, rfl, rfl, rfl⟩ := hev
    rw [hrf] at hf
    obtain ⟨f0, cv, hcv, hf0, hcs, hcr⟩ := hf.func_inv
    have hcs' : f0.size + cv.size = cap.length := by simpa using hcs
    have hraw : rawArgs o ρ = cap.take nf ++ args.toList.map ρ ++ cap.drop nf := by
      unfold rawArgs
      rw [hop]
      simp only
      rw [hrf]
    refine ⟨f0 ++ args.map r ++ cv, ?_, ?_, ?_⟩
    · unfold execOp
      simp only [hop, resolve, hcv, Deferred.ofValue, Sem.run_bind, Sem.run_pure, Result.andThen_ok, invoke]
      simpa using hin (f0 ++ args.map r ++ cv) w
    · rw [hraw]; simp; omega
    · rw [hraw]
      intro i x hi
      have htl : (cap.take nf).length = f0.size := by simp; omega
      simp only [Array.getD_eq_getD_getElem?] at hcr ⊢
      by_cases h1 : i < f0.size
      · rw [List.append_assoc, List.getElem?_append_left (by omega), List.getElem?_take, if_pos (by omega)] at hi
        have := hcr i x hi
        rw [Array.getElem?_append_left h1] at this
        rw [Array.append_assoc, Array.getElem?_append_left h1]
        exact this
      · by_cases hlt : i < f0.size + args.size
        · rw [List.append_assoc, List.getElem?_append_right (by omega), List.getElem?_append_left (by simp; omega), List.getElem?_map] at hi
          rw [Array.append_assoc, Array.getElem?_append_right (by omega), Array.getElem?_append_left (by simp; omega)]
          rw [htl] at hi
          have hlt' : i - f0.size < args.size := by omega
          have ha : args.toList[i - f0.size]? = some args[i - f0.size] := by simp [hlt']
          rw [ha] at hi
          simp only [Option.map_some, Option.some.injEq] at hi
          subst hi
          simpa [hlt'] using hx args[i - f0.size] (by simp)
        · have hll : (cap.take nf ++ args.toList.map ρ).length = f0.size + args.size := by rw [List.length_append, htl]; simp
          rw [List.getElem?_append_right (by omega), hll, List.getElem?_drop] at hi
          rw [Array.getElem?_append_right (by simp; omega)]
          have := hcr _ x hi
          rw [Array.getElem?_append_right (by omega)] at this
          have e : i - (f0 ++ args.map r).size = nf + (i - (f0.size + args.size)) - f0.size := by simp; omega
          rw [e]
          exact this
  · cases hev
  · cases hev
end
end Go.Tr

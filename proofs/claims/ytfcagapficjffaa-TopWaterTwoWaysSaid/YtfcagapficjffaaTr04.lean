/- What an operation does to the abstract heap; an operation carried out beside others. Conditions: none. -/
import Derived.Test.YtfcagapficjffaaTr03
import Derived.ProofKit

namespace Go.Tr
open Go Go.RowKit

/-- What an operand is, by a look-up. -/
def evL (lk : Tmp → AV) : Operand → AV
  | .tmp t => lk t
  | .const v => constAV v
  | .func f => .func (.func f) 0 []
  | .global _ => .top

theorem eval_evL (s : St) : s.eval = evL (look s.tm) := by
  funext x; cases x <;> rfl

theorem addB_le (h : Hp) (k : AB) : HpLe h (h.addB k) :=
  ⟨fun i x hx => ⟨x, by simp only [Hp.addB]; rw [List.getElem?_append_left (List.getElem?_eq_some_iff.1 hx).1]; exact hx, .refl _⟩, fun i x hx => ⟨x, hx, .refl _⟩⟩
theorem addM_le (h : Hp) (k : AM) : HpLe h { h with maps := h.maps ++ [k] } :=
  ⟨fun i x hx => ⟨x, hx, .refl _⟩, fun i x hx => ⟨x, by show (h.maps ++ [k])[i]? = _; rw [List.getElem?_append_left (List.getElem?_eq_some_iff.1 hx).1]; exact hx, .refl _⟩⟩
theorem addBs_le (h : Hp) (ks : List AB) : HpLe h { h with blocks := h.blocks ++ ks } :=
  ⟨fun i x hx => ⟨x, by show (h.blocks ++ ks)[i]? = _; rw [List.getElem?_append_left (List.getElem?_eq_some_iff.1 hx).1]; exact hx, .refl _⟩, fun i x hx => ⟨x, hx, .refl _⟩⟩
theorem ro_le (h : Hp) (bs ms : List Nat) : HpLe h (roHp h bs ms) := by
  refine ⟨fun i k hk => ?_, fun i k hk => ?_⟩
  · refine ⟨_, by simp only [roHp]; rw [roB_get, hk]; rfl, ?_⟩
    cases hasNat bs (0 + i) with
    | true => exact .inr rfl
    | false => exact .inl rfl
  · refine ⟨_, by simp only [roHp]; rw [roM_get, hk]; rfl, ?_⟩
    cases hasNat ms (0 + i) with
    | true => exact .inr rfl
    | false => exact .inl rfl

/-- The heap behind an operation. -/
def HpStep (o : Oper) (ρ : Operand → AV) (h h' : Hp) : Prop :=
  h' = h ∨ (∃ k, h' = h.addB k) ∨ (∃ k, h' = { h with maps := h.maps ++ [k] }) ∨ (isEff o ρ = true ∧ ((∃ b k, h' = h.setB b k) ∨ ∃ b k, h' = { h with maps := setNth h.maps b k }))

theorem binEv_h {op : BinOp} {d : Option TI} {x y : AV} {h h' : Hp} {v : AV} (hev : (binEv op d x y h).gives v h') : h' = h ∧ ∀ h2, (binEv op d x y h2).gives v h2 := by
  unfold binEv at hev ⊢
  repeat' split at hev
  all_goals first
    | exact aggEv_h hev
    | (simp only [Res.gives] at hev <;> first | exact hev.elim | (refine ⟨hev.2.symm, fun h2 => ?_⟩; simp_all [Res.gives]; done) | (refine ⟨hev.2.2.symm, fun h2 => ?_⟩; simp_all [Res.gives]; done))

theorem nilEv_h {op : BinOp} {d : Option TI} {x : AV} {h h' : Hp} {v : AV} (hev : (nilEv op d x h).gives v h') : h' = h ∧ ∀ h2, (nilEv op d x h2).gives v h2 := by
  unfold nilEv at hev ⊢
  repeat' split at hev
  all_goals simp only [Res.gives] at hev ⊢
  all_goals first
    | exact hev.elim
    | exact ⟨hev.2.2.symm, fun h2 => ⟨hev.1, hev.2.1, trivial⟩⟩

theorem hpStep {T : Nat → Option TI} {o : Oper} {ρ : Operand → AV} {h h' : Hp} {v : AV} (hev : (opEv T o ρ h).gives v h') : HpStep o ρ h h' := by
  unfold opEv at hev
  split at hev
  all_goals try simp only [Bool.cond_eq_ite, forceNr_eq, forceC_eq, forceT_eq, force0_eq, force1_eq] at hev
  all_goals (repeat' split at hev)
  all_goals first | exact .inl (binEv_h hev).1 | exact .inl (nilEv_h hev).1 | simp only [Res.gives] at hev
  all_goals first
    | exact hev.elim
    | exact .inl hev.2.symm
    | exact .inl hev.2.2.symm
    | exact .inr (.inl ⟨_, hev.2.symm⟩)
    | exact .inr (.inl ⟨_, hev.2.2.symm⟩)
    | exact .inr (.inr (.inl ⟨_, hev.2.symm⟩))
    | exact .inr (.inr (.inr ⟨by unfold isEff; simp only [*], .inl ⟨_, _, hev.2.symm⟩⟩))
    | exact .inr (.inr (.inr ⟨by unfold isEff; simp only [*], .inr ⟨_, _, hev.2.symm⟩⟩))
    | exact .inr (.inr (.inr ⟨by unfold isEff; simp only [*], .inl ⟨_, _, hev.2.2.symm⟩⟩))
    | exact .inr (.inr (.inr ⟨by unfold isEff; simp only [*], by obtain ⟨G', hG, hv, e⟩ := hev; exact .inl ⟨_, _, e.symm⟩⟩))

theorem pure_any {T : Nat → Option TI} {o : Oper} {ρ : Operand → AV} {h h' : Hp} {v : AV} (hp : pureOp o = true) (hev : (opEv T o ρ h).gives v h') : h' = h ∧ ∀ h2, (opEv T o ρ h2).gives v h2 := by
  unfold pureOp at hp
  unfold opEv at hev ⊢
  split at hp
  case h_12 => cases hp
  all_goals rename_i hop
  all_goals simp only [hop] at hev ⊢
  all_goals try simp only [Bool.cond_eq_ite] at hev ⊢
  case h_5 =>
    split at hev
    · rename_i hc; exact nilEv_h hev
    · rename_i hc; exact binEv_h hev
  all_goals (repeat' split at hev)
  all_goals simp only [Res.gives] at hev
  all_goals first
    | exact hev.elim
    | (refine ⟨hev.2.symm, fun h2 => ?_⟩; simp_all [Res.gives]; done)
    | (refine ⟨hev.2.2.symm, fun h2 => ?_⟩; simp_all [Res.gives]; done)
    | (obtain ⟨g1, g2, g3⟩ := hev; refine ⟨g3.symm, fun h2 => ?_⟩; simp only [*, Res.gives, and_self]; done)
    | (obtain ⟨g1, g2, g3⟩ := hev; subst g2; refine ⟨g3.symm, fun h2 => ?_⟩; simp only [*, Res.gives, and_self])

/-- The second heap has the blocks of the first one, of the same shape. -/
def ShapeLe (h H : Hp) : Prop := ∀ (b : Nat) k, h.blocks[b]? = some k → ∃ k', H.blocks[b]? = some k' ∧ k'.es = k.es ∧ k'.ver = k.ver
theorem ShapeLe.refl (h : Hp) : ShapeLe h h := fun _ k hk => ⟨k, hk, rfl, rfl⟩
theorem ShapeLe.trans {a b c : Hp} (h : ShapeLe a b) (k : ShapeLe b c) : ShapeLe a c := fun i x hx => by
  obtain ⟨y, hy, e1, e2⟩ := h i x hx
  obtain ⟨z, hz, e3, e4⟩ := k i y hy
  exact ⟨z, hz, e3.trans e1, e4.trans e2⟩
theorem HpLe.shape {a b : Hp} (h : HpLe a b) : ShapeLe a b := fun i x hx => by
  obtain ⟨y, hy, e⟩ := h.b i x hx
  exact ⟨y, hy, by rcases e with rfl | rfl <;> exact ⟨rfl, rfl⟩⟩

theorem ShapeLe.block {h H : Hp} (e : ShapeLe h H) {b ver : Nat} {k : AB} (hk : h.block b ver = some k) : ∃ k', H.block b ver = some k' ∧ k'.es = k.es := by
  obtain ⟨hb, hv⟩ := block_some hk
  obtain ⟨k', g1, g2, g3⟩ := e b k hb
  refine ⟨k', ?_, g2⟩
  unfold Hp.block
  rw [nth?_eq, g1]
  simp [g3, hv]

theorem soft_any {T : Nat → Option TI} {o : Oper} {ρ : Operand → AV} {h h' : Hp} {v : AV} (hp : softOp o = true) (hev : (opEv T o ρ h).gives v h') : h' = h ∧ ∀ H, ShapeLe h H → (opEv T o ρ H).gives v H := by
  unfold softOp at hp
  unfold opEv at hev ⊢
  split at hp
  case h_3 => cases hp
  all_goals rename_i hop
  all_goals simp only [hop] at hev ⊢
  all_goals try simp only [Bool.cond_eq_ite] at hev ⊢
  all_goals (repeat' split at hev)
  all_goals simp only [Res.gives] at hev
  all_goals first
    | exact hev.elim
    | (refine ⟨hev.2.symm, fun H e => ?_⟩; simp_all [Res.gives]; done)
    | (refine ⟨hev.2.2.symm, fun H e => ?_⟩; simp_all [Res.gives]; done)
    | (rename_i hb _; refine ⟨hev.2.symm, fun H e => ?_⟩; obtain ⟨k', g1, g2⟩ := e.block hb; simp_all [Res.gives]; done)
    | (rename_i hb; refine ⟨hev.2.symm, fun H e => ?_⟩; obtain ⟨k', g1, g2⟩ := e.block hb; simp_all [Res.gives]; done)
    | (rename_i hb _; refine ⟨hev.2.2.symm, fun H e => ?_⟩; obtain ⟨k', g1, g2⟩ := e.block hb; simp_all [Res.gives]; done)
    | (rename_i hb; refine ⟨hev.2.2.symm, fun H e => ?_⟩; obtain ⟨k', g1, g2⟩ := e.block hb; simp_all [Res.gives]; done)

theorem setB_shape {h : Hp} {b : Nat} {k k' : AB} (hb : h.blocks[b]? = some k) (h1 : k'.es = k.es) (h2 : k'.ver = k.ver) : ShapeLe h (h.setB b k') ∧ ShapeLe (h.setB b k') h := by
  refine ⟨fun i x hx => ?_, fun i x hx => ?_⟩
  · by_cases hi : i = b
    · subst hi
      rw [hb] at hx
      cases hx
      exact ⟨k', by simp only [Hp.setB]; rw [setNth_eq, List.getElem?_set]; simp [(List.getElem?_eq_some_iff.1 hb).1], h1, h2⟩
    · exact ⟨x, by simp only [Hp.setB]; rw [setNth_eq, List.getElem?_set, if_neg (fun e => hi e.symm)]; exact hx, rfl, rfl⟩
  · simp only [Hp.setB] at hx
    rcases set_get hx with ⟨rfl, rfl⟩ | ⟨_, g⟩
    · exact ⟨k, hb, h1.symm, h2.symm⟩
    · exact ⟨x, g, rfl, rfl⟩

theorem store_shape {T : Nat → Option TI} {o : Oper} {ρ : Operand → AV} {h h' : Hp} {v : AV} (hp : storeOp o = true) (hev : (opEv T o ρ h).gives v h') : ShapeLe h h' ∧ ShapeLe h' h := by
  unfold storeOp at hp
  unfold opEv at hev
  split at hp
  case h_2 => cases hp
  rename_i hop
  simp only [hop] at hev
  simp only [Bool.cond_eq_ite, forceC_eq, forceT_eq] at hev
  repeat' split at hev
  all_goals simp only [Res.gives] at hev
  all_goals first
    | exact hev.elim
    | (rename_i hb _ _ _; have g1 := (block_some hb).1; have e := hev.2; subst e; exact setB_shape g1 rfl rfl)
    | (rename_i hb _ _ _ _; have g1 := (block_some hb).1; have e := hev.2; subst e; exact setB_shape g1 rfl rfl)
    | (rename_i hb _ _ _ _ _; have g1 := (block_some hb).1; have e := hev.2; subst e; exact setB_shape g1 rfl rfl)
    | (rename_i hb _ _ _ _ _ _; have g1 := (block_some hb).1; have e := hev.2; subst e; exact setB_shape g1 rfl rfl)
    | (rename_i hb _ _ _ _ _ _ _; have g1 := (block_some hb).1; have e := hev.2; subst e; exact setB_shape g1 rfl rfl)
    | (rename_i hb _ _; have g1 := (block_some hb).1; obtain ⟨G', hG, hv, e⟩ := hev; subst e; exact setB_shape g1 rfl rfl)
    | (rename_i hb _ _ _; have g1 := (block_some hb).1; obtain ⟨G', hG, hv, e⟩ := hev; subst e; exact setB_shape g1 rfl rfl)
    | (rename_i hb _ _ _ _; have g1 := (block_some hb).1; obtain ⟨G', hG, hv, e⟩ := hev; subst e; exact setB_shape g1 rfl rfl)
    | (rename_i hb _ _ _ _ _; have g1 := (block_some hb).1; obtain ⟨G', hG, hv, e⟩ := hev; subst e; exact setB_shape g1 rfl rfl)
    | (rename_i hb _ _ _ _ _ _; have g1 := (block_some hb).1; obtain ⟨G', hG, hv, e⟩ := hev; subst e; exact setB_shape g1 rfl rfl)

/-- What a reading operation reads is the same in both heaps. -/
def SameAt (x : AV) (h H : Hp) : Prop := heapFree x = true ∨ ∃ i, blockOf x = some i ∧ ∀ k, h.blocks[i]? = some k → ∃ k', H.blocks[i]? = some k' ∧ ABro k k'
theorem SameAt.block {b ver idx sub : Nat} {h H : Hp} (e : SameAt (.optr b ver idx sub) h H) {k : AB} (hk : h.block b ver = some k) : ∃ k', H.block b ver = some k' ∧ ABro k k' := by
  rcases e with e | ⟨i, e1, e2⟩
  · cases e
  · cases e1
    obtain ⟨hb, hv⟩ := block_some hk
    obtain ⟨k', g1, g2⟩ := e2 k hb
    refine ⟨k', ?_, g2⟩
    unfold Hp.block
    rw [nth?_eq, g1]
    rcases g2 with rfl | rfl <;> simp [hv]
theorem SameAt.slice {b ver off len : Nat} {cap : Option Nat} {h H : Hp} (e : SameAt (.oslice b ver off len cap) h H) {k : AB} (hk : h.block b ver = some k) : ∃ k', H.block b ver = some k' ∧ ABro k k' :=
  SameAt.block (idx := 0) (sub := 0) (by rcases e with e | e; cases e; exact .inr e) hk

theorem read_any {T : Nat → Option TI} {o : Oper} {ρ : Operand → AV} {h h' : Hp} {v : AV} {b : Operand} (hp : readBase o = some b) (hev : (opEv T o ρ h).gives v h') : h' = h ∧ ∀ H, SameAt (ρ b) h H → (opEv T o ρ H).gives v H := by
  unfold readBase at hp
  unfold opEv at hev ⊢
  split at hp
  case h_3 => cases hp
  · rename_i t a hop
    cases hp
    simp only [hop] at hev ⊢
    split at hev
    · rename_i ti ht
      split at hev
      · rename_i b ver idx sub hx
        split at hev
        · rename_i k hk
          split at hev
          · rename_i u hu
            obtain ⟨e1, e2⟩ := hev
            subst e1
            refine ⟨e2.symm, fun H e => ?_⟩
            rw [hx] at e
            obtain ⟨k', g1, g2⟩ := SameAt.block e hk
            have hf : k'.f = k.f := by rcases g2 with rfl | rfl <;> rfl
            simp only [g1, hf, hu]
            exact ⟨rfl, rfl⟩
          · exact hev.elim
        · exact hev.elim
      · rename_i l hx
        split at hev
        · rename_i u hu
          obtain ⟨e1, e2⟩ := hev
          subst e1
          exact ⟨e2.symm, fun H e => ⟨rfl, rfl⟩⟩
        · exact hev.elim
      · exact hev.elim
    · exact hev.elim
  · rename_i t x lo hi hop
    cases hp
    · simp only [hop] at hev ⊢
      split at hev
      · rename_i e _ _ _ _ ht
        split at hev
        · rename_i ei he
          split at hev
          · rename_i es len f hx
            split at hev
            · rename_i l r hl hr
              cases hb : Nat.beq es ei.size with
              | false => rw [hb] at hev; exact hev.elim
              | true =>
                rw [hb] at hev
                obtain ⟨e0, e1, e2⟩ := hev
                subst e1
                exact ⟨e2.symm, fun H e => by simp only [cond_true]; exact ⟨e0, rfl, rfl⟩⟩
            · exact hev.elim
          · rename_i b ver off len cap hx
            split at hev
            · rename_i k l r hk hl hr
              cases hb : Nat.beq k.es ei.size with
              | false => rw [hb] at hev; exact hev.elim
              | true =>
                rw [hb] at hev
                obtain ⟨e0, e1, e2⟩ := hev
                subst e1
                refine ⟨e2.symm, fun H e => ?_⟩
                rw [hx] at e
                obtain ⟨k', g1, g2⟩ := SameAt.slice e hk
                have hf : k'.es = k.es := by rcases g2 with rfl | rfl <;> rfl
                simp only [g1, hl, hr, hf, hb, cond_true]
                exact ⟨e0, rfl, rfl⟩
            · exact hev.elim
          · exact hev.elim
        · exact hev.elim
      · rename_i ht
        split at hev
        · rename_i s hx
          split at hev
          · rename_i l r hl hr
            obtain ⟨e0, e1, e2⟩ := hev
            subst e1
            exact ⟨e2.symm, fun H e => ⟨e0, rfl, rfl⟩⟩
          · exact hev.elim
        · exact hev.elim
      · exact hev.elim

/-- An operation that is carried out, what it gives. -/
inductive Kind (P : Program) (T : Nat → Option TI) (o : Oper) (ρ : Operand → AV) (h : Hp) : AV → Hp → Prop
  | op (v : AV) (h' : Hp) : (opEv T o ρ h).gives v h' → Kind P T o ρ h v h'
  | own (g : FuncId) (as : List AV) (bs ms : List Nat) (f : Operand) (args : Array Operand) (ts : Array TypeId) (r : AV) : opEv T o ρ h = .call g as bs ms → o.op = .call { callee := .value f, args, argTypes := ts } → Sound1 P g as r true →
      Kind P T o ρ h (adopt r h.blocks.length).1 { h with blocks := h.blocks ++ (adopt r h.blocks.length).2 }
  | shared (g : FuncId) (as : List AV) (bs ms : List Nat) (f : Operand) (args : Array Operand) (ts : Array TypeId) (r : AV) : opEv T o ρ h = .call g as bs ms → o.op = .call { callee := .value f, args, argTypes := ts } → Sound1 P g as r false →
      Kind P T o ρ h r (roHp h bs ms)

section
variable {P : Program} {T : Nat → Option TI} {w w' : World} {c c' : Cx} {base : Nat} {hp hp' : Hp}

theorem call_quiet {o : Oper} {f : Operand} {args : Array Operand} {ts : Array TypeId} (hop : o.op = .call { callee := .value f, args, argTypes := ts }) (ρ : Operand → AV) : isEff o ρ = false := by
  unfold isEff; rw [hop]

theorem Kind.le {o : Oper} {ρ : Operand → AV} {v : AV} (h : Kind P T o ρ hp v hp') (he : isEff o ρ = false) : HpLe hp hp' := by
  cases h with
  | op v h' hev =>
    rcases hpStep hev with rfl | ⟨k, rfl⟩ | ⟨k, rfl⟩ | ⟨g, _⟩
    · exact .refl _
    · exact addB_le _ _
    · exact addM_le _ _
    · rw [he] at g; cases g
  | own g as bs ms f args ts r hev hop hS => exact addBs_le _ _
  | shared g as bs ms f args ts r hev hop hS => exact ro_le _ _ _

theorem Kind.len {o : Oper} {ρ : Operand → AV} {v : AV} (h : Kind P T o ρ hp v hp') : hp.blocks.length ≤ hp'.blocks.length ∧ hp.maps.length ≤ hp'.maps.length := by
  cases he : isEff o ρ with
  | false => exact ⟨(h.le he).blen, (h.le he).mlen⟩
  | true =>
    cases h with
    | op v h' hev =>
      rcases hpStep hev with rfl | ⟨k, rfl⟩ | ⟨k, rfl⟩ | ⟨_, ⟨b, k, rfl⟩ | ⟨b, k, rfl⟩⟩
      · exact ⟨Nat.le_refl _, Nat.le_refl _⟩
      · exact ⟨(addB_le _ _).blen, (addB_le _ _).mlen⟩
      · exact ⟨(addM_le _ _).blen, (addM_le _ _).mlen⟩
      · simp [Hp.setB, setNth_eq]
      · simp [setNth_eq]
    | own g as bs ms f args ts r hev hop hS => rw [call_quiet hop] at he; cases he
    | shared g as bs ms f args ts r hev hop hS => rw [call_quiet hop] at he; cases he

theorem Kind.pure {o : Oper} {ρ : Operand → AV} {v : AV} (h : Kind P T o ρ hp v hp') (hp0 : pureOp o = true) : hp' = hp ∧ ∀ h2, Kind P T o ρ h2 v h2 := by
  cases h with
  | op v h' hev =>
    obtain ⟨e, g⟩ := pure_any hp0 hev
    exact ⟨e, fun h2 => .op v h2 (g h2)⟩
  | own g as bs ms f args ts r hev hop hS => unfold pureOp at hp0; rw [hop] at hp0; cases hp0
  | shared g as bs ms f args ts r hev hop hS => unfold pureOp at hp0; rw [hop] at hp0; cases hp0

theorem Kind.soft {o : Oper} {ρ : Operand → AV} {v : AV} (h : Kind P T o ρ hp v hp') (hp0 : softOp o = true) : hp' = hp ∧ ∀ H, ShapeLe hp H → Kind P T o ρ H v H := by
  cases h with
  | op v h' hev =>
    obtain ⟨e, g⟩ := soft_any hp0 hev
    exact ⟨e, fun H hs => .op v H (g H hs)⟩
  | own g as bs ms f args ts r hev hop hS => unfold softOp at hp0; rw [hop] at hp0; cases hp0
  | shared g as bs ms f args ts r hev hop hS => unfold softOp at hp0; rw [hop] at hp0; cases hp0

theorem Kind.store {o : Oper} {ρ : Operand → AV} {v : AV} (h : Kind P T o ρ hp v hp') (hp0 : storeOp o = true) : ShapeLe hp hp' ∧ ShapeLe hp' hp := by
  cases h with
  | op v h' hev => exact store_shape hp0 hev
  | own g as bs ms f args ts r hev hop hS => unfold storeOp at hp0; rw [hop] at hp0; cases hp0
  | shared g as bs ms f args ts r hev hop hS => unfold storeOp at hp0; rw [hop] at hp0; cases hp0

theorem Kind.read {o : Oper} {ρ : Operand → AV} {v : AV} {b : Operand} (h : Kind P T o ρ hp v hp') (hp0 : readBase o = some b) : hp' = hp ∧ ∀ H, SameAt (ρ b) hp H → Kind P T o ρ H v H := by
  cases h with
  | op v h' hev =>
    obtain ⟨e, g⟩ := read_any hp0 hev
    exact ⟨e, fun H hs => .op v H (g H hs)⟩
  | own g as bs ms f args ts r hev hop hS => unfold readBase at hp0; rw [hop] at hp0; cases hp0
  | shared g as bs ms f args ts r hev hop hS => unfold readBase at hp0; rw [hop] at hp0; cases hp0

theorem Kind.readable {o : Oper} {ρ : Operand → AV} {v : AV} {b : Operand} (h : Kind P T o ρ hp v hp') (hb : readBase o = some b) : heapFree (ρ b) = true ∨ ∃ i, blockOf (ρ b) = some i := by
  cases h with
  | own g as bs ms f args ts r hev hop hS => unfold readBase at hb; rw [hop] at hb; cases hb
  | shared g as bs ms f args ts r hev hop hS => unfold readBase at hb; rw [hop] at hb; cases hb
  | op v h' hev =>
    unfold readBase at hb
    unfold opEv at hev
    split at hb
    case h_3 => cases hb
    · rename_i t a hop
      cases hb
      simp only [hop] at hev
      split at hev
      · split at hev
        · rename_i hx; rw [hx]; exact .inr ⟨_, rfl⟩
        · rename_i hx; rw [hx]; exact .inl rfl
        · exact hev.elim
      · exact hev.elim
    · rename_i t x lo hi hop
      cases hb
      · simp only [hop] at hev
        split at hev
        · split at hev
          · split at hev
            · rename_i hx; rw [hx]; exact .inl rfl
            · rename_i hx; rw [hx]; exact .inr ⟨_, rfl⟩
            · exact hev.elim
          · exact hev.elim
        · split at hev
          · rename_i hx; rw [hx]; exact .inl rfl
          · exact hev.elim
        · exact hev.elim

theorem read_quiet {o : Oper} {b : Operand} (h : readBase o = some b) (ρ : Operand → AV) : isEff o ρ = false := by
  unfold readBase at h
  unfold isEff
  split at h <;> rename_i hop <;> first | rw [hop] | cases h

theorem Kind.target {o : Oper} {ρ : Operand → AV} {v : AV} {t : Operand} (h : Kind P T o ρ hp v hp') (he : isEff o ρ = true) (ht : effTarget o = some t) : ∃ b k', blockOf (ρ t) = some b ∧ hp' = hp.setB b k' := by
  cases h with
  | own g as bs ms f args ts r hev hop hS => rw [call_quiet hop] at he; cases he
  | shared g as bs ms f args ts r hev hop hS => rw [call_quiet hop] at he; cases he
  | op v h' hev =>
    unfold effTarget at ht
    unfold opEv at hev
    split at ht
    · rename_i t' a x hop
      cases ht
      simp only [hop] at hev
      simp only [Bool.cond_eq_ite, forceC_eq, forceT_eq] at hev
      repeat' split at hev
      all_goals simp only [Res.gives] at hev
      all_goals first
        | exact hev.elim
        | (rename_i hx _ _ _ _ _ _ _ _ _; exact ⟨_, _, by rw [hx]; rfl, hev.2.symm⟩)
        | (rename_i hx _ _ _ _ _ _ _ _; exact ⟨_, _, by rw [hx]; rfl, hev.2.symm⟩)
        | (rename_i hx _ _ _ _ _ _ _; exact ⟨_, _, by rw [hx]; rfl, hev.2.symm⟩)
        | (rename_i hx _ _ _ _ _ _; exact ⟨_, _, by rw [hx]; rfl, hev.2.symm⟩)
        | (rename_i hx _ _ _ _ _; exact ⟨_, _, by rw [hx]; rfl, hev.2.symm⟩)
        | (rename_i hx _ _ _ _; exact ⟨_, _, by rw [hx]; rfl, hev.2.symm⟩)
        | (rename_i hx _ _ _ _ _ _ _ _; obtain ⟨G', hG, hv, e⟩ := hev; exact ⟨_, _, by rw [hx]; rfl, e.symm⟩)
        | (rename_i hx _ _ _ _ _ _ _; obtain ⟨G', hG, hv, e⟩ := hev; exact ⟨_, _, by rw [hx]; rfl, e.symm⟩)
        | (rename_i hx _ _ _ _ _ _; obtain ⟨G', hG, hv, e⟩ := hev; exact ⟨_, _, by rw [hx]; rfl, e.symm⟩)
        | (rename_i hx _ _ _ _ _; obtain ⟨G', hG, hv, e⟩ := hev; exact ⟨_, _, by rw [hx]; rfl, e.symm⟩)
        | (rename_i hx _ _ _ _; obtain ⟨G', hG, hv, e⟩ := hev; exact ⟨_, _, by rw [hx]; rfl, e.symm⟩)
        | (rename_i hx _ _ _; obtain ⟨G', hG, hv, e⟩ := hev; exact ⟨_, _, by rw [hx]; rfl, e.symm⟩)
    · rename_i args ts hop
      unfold isEff at he
      rw [hop] at he
      simp only at he
      simp only [hop] at hev
      obtain ⟨la⟩ := args
      match la, ht with
      | [], ht => simp [nth?] at ht
      | os :: rest, ht =>
        simp only [nth?, Option.some.injEq] at ht
        subst ht
        simp only [List.map_cons] at he hev
        generalize ρ os = xs at he hev ⊢
        split at he
        · rename_i b ver off len rst heq
          simp only [List.cons.injEq] at heq
          obtain ⟨rfl, _⟩ := heq
          simp only [Bool.cond_eq_ite] at hev
          repeat' split at hev
          all_goals try simp only [Res.gives] at hev
          all_goals first
            | exact hev.elim
            | (rename_i q; simp at q; done)
            | (rename_i q _ _ _ _; simp at q; done)
            | (rename_i q _; simp at q; done)
            | (rename_i q _ _ _ _; simp only [List.cons.injEq, AV.oslice.injEq] at q; obtain ⟨⟨rfl, _⟩, _⟩ := q; exact ⟨_, _, rfl, hev.2.2.symm⟩)
        · cases he
    · cases ht

theorem soft_quiet {o : Oper} (h : softOp o = true) (ρ : Operand → AV) : isEff o ρ = false := by
  unfold softOp at h
  unfold isEff
  split at h <;> rename_i hop <;> first | rw [hop] | cases h

theorem pure_quiet {o : Oper} (h : pureOp o = true) (ρ : Operand → AV) : isEff o ρ = false := by
  unfold pureOp at h
  unfold isEff
  split at h <;> rename_i hop <;> first | rw [hop] | cases h

/-- An operation carried out. -/
theorem kind_ok (hT : TOK P T) (h : HR P base w c hp) (hbase : base ≤ w.heap.size) {o : Oper} {a : Act} {ρ : Operand → AV} {v : AV} (hρ : ∀ x ∈ o.op.operands, VR P w c (ρ x) (a.eval x)) (hk : Kind P T o ρ hp v hp')
    (hro : isEff o ρ = true → RO c hp) (hfree : ∀ b, hp.blocks.length ≤ b → b < hp'.blocks.length → c.O b = none) (hfreeM : ∀ b, hp.maps.length ≤ b → b < hp'.maps.length → c.N b = none)
    {next : Act → World → Prop} {Q : Exit → Act → World → Prop}
    (hn : ∀ u w' c', ((isEff o ρ = false ∧ QOut P base w c hp w' c' hp') ∨ (isEff o ρ = true ∧ EOut P base w c hp w' c' hp')) → VR P w' c' v u → next (a.put o.dst u) w') : o.wp P a w next Q := by
  have calls : ∀ (g : FuncId) (as : List AV) (bs ms : List Nat) (f : Operand) (args : Array Operand) (ts : Array TypeId) (r : AV) (fr : Bool), opEv T o ρ hp = .call g as bs ms → o.op = .call { callee := .value f, args, argTypes := ts } → Sound1 P g as r fr →
      (fr = true → ∀ b, hp.blocks.length ≤ b → b < hp.blocks.length + (adopt r hp.blocks.length).2.length → c.O b = none) →
      (∀ u w' c', (match fr with
        | true => QOut P base w c hp w' c' { hp with blocks := hp.blocks ++ (adopt r hp.blocks.length).2 } ∧ VR P w' c' (adopt r hp.blocks.length).1 u
        | false => QOut P base w c hp w' c' (roHp hp bs ms) ∧ VR P w' c' r u) → next (a.put o.dst u) w') → o.wp P a w next Q := by
    intro g as bs ms f args ts r fr hev hop hS hf hnn
    obtain ⟨vs, g1, g2⟩ := op_call h hbase hop (hρ f (by rw [hop]; simp [Op.operands, Call.operands])) (fun x hx => hρ x (by rw [hop]; simp [Op.operands, Call.operands, hx])) hev hS hf
    unfold Oper.wp
    rw [g1]
    refine Calls.mono g2 ?_
    rintro e w' ⟨u, rfl, c', hres⟩
    cases fr with
    | true => exact hnn u w' c' hres
    | false => exact hnn u w' c' hres
  cases hk with
  | own g as bs ms f args ts r hev hop hS =>
    refine calls g as bs ms f args ts r true hev hop hS (fun _ b h1 h2 => hfree b h1 (by simpa using h2)) fun u w' c' hres => hn u w' c' (.inl ⟨call_quiet hop _, hres.1⟩) hres.2
  | shared g as bs ms f args ts r hev hop hS =>
    refine calls g as bs ms f args ts _ false hev hop hS (fun e => by cases e) fun u w' c' hres => hn u w' c' (.inl ⟨call_quiet hop _, hres.1⟩) hres.2
  | op v h' hev =>
    cases he : isEff o ρ with
    | false =>
      obtain ⟨u, w', c', g1, g2, g3⟩ := quiet_op hT h hbase (fun _ => rfl) hρ he hev hfree hfreeM
      unfold Oper.wp
      rw [g1]
      exact hn u w' c' (.inl ⟨he, g2⟩) g3
    | true =>
      have hRO := hro he
      have he0 := he
      unfold isEff at he
      split at he
      · rename_i t x y hop
        obtain ⟨w', c', g1, g2, rfl⟩ := eff_store hT h hRO hbase hop (hρ x (by rw [hop]; simp [Op.operands])) (hρ y (by rw [hop]; simp [Op.operands])) hev
        unfold Oper.wp
        rw [g1]
        exact hn _ w' c' (.inr ⟨he0, g2⟩) (.tree (.top _))
      · rename_i t x y z hop
        obtain ⟨w', c', g1, g2, rfl⟩ := eff_mapUpdate hT h hRO hop (hρ x (by rw [hop]; simp [Op.operands])) (hρ y (by rw [hop]; simp [Op.operands])) (hρ z (by rw [hop]; simp [Op.operands])) hev
        unfold Oper.wp
        rw [g1]
        exact hn _ w' c' (.inr ⟨he0, g2⟩) (.tree (.top _))
      · rename_i args ts hop
        obtain ⟨u, w', c', g1, g2, g3⟩ := append_eff hT h hRO hbase hop (fun x hx => hρ x (by rw [hop]; simp [Op.operands, Call.operands, hx])) he0 hev
        unfold Oper.wp
        rw [g1]
        exact hn u w' c' (.inr ⟨he0, g2⟩) g3
      · cases he

/-- A heap that has grown beside. -/
theorem HR.grow (h : HR P base w c hp) (hi : ∀ b oi, c.O b = some oi → b < hp.blocks.length) (hiM : ∀ b r, c.N b = some r → b < hp.maps.length) (e : HpLe hp hp') : HR P base w c hp' := by
  refine ⟨fun b k oi hk hO => ?_, h.sep, h.own, h.st, fun b m r hm hN => ?_, h.mown, h.msep, h.bm⟩
  · have hlt := hi b oi hO
    obtain ⟨k', hk', er⟩ := e.b b _ (List.getElem?_eq_getElem hlt)
    rw [hk] at hk'
    cases hk'
    exact (h.blk b _ oi (List.getElem?_eq_getElem hlt) hO).ro er
  · have hlt := hiM b r hN
    obtain ⟨k', hk', er⟩ := e.m b _ (List.getElem?_eq_getElem hlt)
    rw [hm] at hk'
    cases hk'
    exact (h.maps b _ r (List.getElem?_eq_getElem hlt) hN).ro er

theorem HR.back (h : HR P base w c hp') (e : HpLe hp hp') : HR P base w c hp := by
  refine ⟨fun b k oi hk hO => ?_, h.sep, h.own, h.st, fun b m r hm hN => ?_, h.mown, h.msep, h.bm⟩
  · obtain ⟨k', hk', er⟩ := e.b b _ hk
    exact (h.blk b k' oi hk' hO).ro' er
  · obtain ⟨k', hk', er⟩ := e.m b _ hm
    exact (h.maps b k' r hk' hN).ro' er

theorem ro_true {k k' : AB} (e : ABro k k') (h : k.ro = true) : k'.ro = true := by rcases e with rfl | rfl; exact h; rfl
theorem ro_trueM {k k' : AM} (e : AMro k k') (h : k.ro = true) : k'.ro = true := by rcases e with rfl | rfl; exact h; rfl

theorem RO.grow (h : RO c hp) (e : HpLe hp hp') : RO c hp' :=
  ⟨fun b oi h1 h2 h3 => by obtain ⟨k, hk, hr⟩ := h.b b oi h1 h2 h3; obtain ⟨k', hk', er⟩ := e.b b k hk; exact ⟨k', hk', ro_true er hr⟩,
   fun b r h1 h3 => by obtain ⟨k, hk, hr⟩ := h.m b r h1 h3; obtain ⟨k', hk', er⟩ := e.m b k hk; exact ⟨k', hk', ro_trueM er hr⟩⟩

/-- An operation that turns no old memory, carried out beside others: H is what is known around it, H' what is known behind. -/
theorem QOut.beside {H H' : Hp} (q : QOut P base w c hp w' c' hp') (h : HR P base w c H) (ro : RO c H) (hi : ∀ b oi, c.O b = some oi → b < H.blocks.length) (hiM : ∀ b r, c.N b = some r → b < H.maps.length) (e : HpLe H H') (e' : HpLe hp' H') :
    HR P base w' c' H' ∧ RO c' H' := by
  refine ⟨⟨fun b k oi hk hO => ?_, q.hr.sep, q.hr.own, q.hr.st, fun b m r hm hN => ?_, q.hr.mown, q.hr.msep, q.hr.bm⟩, ⟨fun b oi h1 h2 h3 => ?_, fun b r h1 h3 => ?_⟩⟩
  · rcases q.oNew b oi hO with hO0 | ⟨_, hlt⟩
    · have hlt := hi b oi hO0
      obtain ⟨k', hk', er⟩ := e.b b _ (List.getElem?_eq_getElem hlt)
      rw [hk] at hk'
      cases hk'
      exact (h.blk_old q.ext (List.getElem?_eq_getElem hlt) hO0).ro er
    · obtain ⟨k', hk', er⟩ := e'.b b _ (List.getElem?_eq_getElem hlt)
      rw [hk] at hk'
      cases hk'
      exact (q.hr.blk b _ oi (List.getElem?_eq_getElem hlt) hO).ro er
  · rcases q.nNew b r hN with hN0 | ⟨_, hlt⟩
    · have hlt := hiM b r hN0
      obtain ⟨k', hk', er⟩ := e.m b _ (List.getElem?_eq_getElem hlt)
      rw [hm] at hk'
      cases hk'
      exact (h.map_old q.ext (List.getElem?_eq_getElem hlt) hN0).ro er
    · obtain ⟨k', hk', er⟩ := e'.m b _ (List.getElem?_eq_getElem hlt)
      rw [hm] at hk'
      cases hk'
      exact (q.hr.maps b _ r (List.getElem?_eq_getElem hlt) hN).ro er
  · rcases q.ro b oi h1 h2 h3 with ⟨g1, g2⟩ | ⟨k, hk, hr⟩
    · obtain ⟨k, hk, hr⟩ := ro.b b oi g1 h2 g2
      obtain ⟨k', hk', er⟩ := e.b b k hk
      exact ⟨k', hk', ro_true er hr⟩
    · obtain ⟨k', hk', er⟩ := e'.b b k hk
      exact ⟨k', hk', ro_true er hr⟩
  · rcases q.rom b r h1 h3 with ⟨g1, g2⟩ | ⟨k, hk, hr⟩
    · obtain ⟨k, hk, hr⟩ := ro.m b r g1 g2
      obtain ⟨k', hk', er⟩ := e.m b k hk
      exact ⟨k', hk', ro_trueM er hr⟩
    · obtain ⟨k', hk', er⟩ := e'.m b k hk
      exact ⟨k', hk', ro_trueM er hr⟩
end
end Go.Tr

/- Regions that draw their order: any order leads where the order of the text leads. Conditions: none. -/
namespace Go.Tr
open Go Go.RowKit

/-- A state of the walk: what the slots hold, and the heap. -/
structure Z where
  lk : Tmp → AV
  hp : Hp

def upd (lk : Tmp → AV) (d : Option Tmp) (v : AV) : Tmp → AV := fun t => if d = some t then v else lk t

theorem look_put_upd (s : St) (d : Option Tmp) (v : AV) : look (s.put d v).tm = upd (look s.tm) d v := by
  funext t
  cases d with
  | none => simp [St.put, upd]
  | some d => rw [look_put]; simp [upd]

theorem hp_put (s : St) (d : Option Tmp) (v : AV) : (s.put d v).hp = s.hp := by cases d <;> rfl

theorem upd_known {lk : Tmp → AV} {t : Tmp} {v : AV} (h : lk t = v) : upd lk (some t) v = lk := by
  funext t'
  unfold upd
  split
  · rename_i e; cases e; exact h.symm
  · rfl

/-- One step of the walk in the order of the text. -/
inductive Step (P : Program) (T : Nat → Option TI) (n : Nat) (ops : Array Oper) (st : (Operand → AV) → Option Bool) (o : Oper) (z : Z) : Z → Prop
  | run (v : AV) (h' : Hp) : (o.guard = none ∨ ∃ j t b, o.guard = some (j, b) ∧ (nth? ops.toList j).bind (·.dst) = some t ∧ z.lk t = .val (.bool b)) →
      slotOk n o.dst = true → (∃ b, st (evL z.lk) = some b ∧ (b = true ∨ isEff o (evL z.lk) = false)) → Kind P T o (evL z.lk) z.hp v h' → Step P T n ops st o z ⟨upd z.lk o.dst v, h'⟩
  | skip (j : Nat) (t : Tmp) (want : Bool) (v : Value) : o.guard = some (j, want) → (nth? ops.toList j).bind (·.dst) = some t → z.lk t = .val v → v ≠ .bool want → Step P T n ops st o z ⟨upd z.lk o.dst (.val undef), z.hp⟩

def zOf (s : St) : Z := ⟨look s.tm, s.hp⟩

section
variable {P : Program} {T : Nat → Option TI} {n : Nat} {ops : Array Oper} {st : Nat → (Operand → AV) → Option Bool} {K : St → Prop} {E : Env} (hS : ∀ f args r fr, E.S f args r fr → Sound1 P f args r fr)

include hS in
theorem one_step {stb : (Operand → AV) → Option Bool} {o : Oper} {s : St} {K : St → Prop} (hg : o.guard = none ∨ ∃ j t b, o.guard = some (j, b) ∧ (nth? ops.toList j).bind (·.dst) = some t ∧ look s.tm t = .val (.bool b)) (h : oneW E.plain T n stb o s K) : ∃ s', K s' ∧ Step P T n ops stb o (zOf s) (zOf s') ∧ s'.sv = s.sv := by
  unfold oneW at h
  simp only [putF_eq] at h
  split at h
  · exact h.elim
  rename_i bb hbb
  split at h
  case h_2 => exact h.elim
  rename_i hs
  rw [Bool.and_eq_true, Bool.or_eq_true] at hs
  have hst : ∃ b, stb (evL (zOf s).lk) = some b ∧ (b = true ∨ isEff o (evL (zOf s).lk) = false) := by
    refine ⟨bb, by rw [eval_evL] at hbb; exact hbb, ?_⟩
    rcases hs.2 with g | g
    · exact .inl g
    · right
      rw [eval_evL] at g
      simpa [zOf] using g
  have fin : ∀ v h', K (({ s with hp := h' } : St).put o.dst v) → Kind P T o (evL (zOf s).lk) (zOf s).hp v h' → ∃ s', K s' ∧ Step P T n ops stb o (zOf s) (zOf s') ∧ s'.sv = s.sv := fun v h' hk hkd => by
    refine ⟨_, hk, ?_, by cases o.dst <;> rfl⟩
    have e : zOf (({ s with hp := h' } : St).put o.dst v) = ⟨upd (zOf s).lk o.dst v, h'⟩ := by
      unfold zOf
      rw [look_put_upd, hp_put]
    rw [e]
    exact .run v h' hg hs.1 hst hkd
  unfold opW at h
  rw [eval_evL] at h
  split at h
  · exact h.elim
  · rename_i v h' hev
    exact fin v h' h (.op v h' (by show (opEv T o (evL (look s.tm)) s.hp).gives v h'; rw [hev]; exact ⟨rfl, rfl⟩))
  · rename_i p v h' hev
    exact fin v h' h.2 (.op v h' (by show (opEv T o (evL (look s.tm)) s.hp).gives v h'; rw [hev]; exact ⟨h.1, rfl, rfl⟩))
  · rename_i h0 b k g fl hev
    obtain ⟨G', hG, h⟩ := h
    exact fin _ _ h (.op _ _ (by show (opEv T o (evL (look s.tm)) s.hp).gives _ _; rw [hev]; exact ⟨G', hG, rfl, rfl⟩))
  · rename_i p _ b h' hev
    have h : p ∧ K ((({ s with hp := h' } : St)).put o.dst (.val (.bool b))) := h
    exact fin _ h' h.2 (.op _ h' (by show (opEv T o (evL (look s.tm)) s.hp).gives _ h'; rw [hev]; exact ⟨h.1, rfl, rfl⟩))
  · rename_i g as bs ms hev
    split at h
    case h_2 => exact h.elim
    rename_i f args ts hop
    rcases h with ⟨r, fr, hS', hk⟩ | hf
    · cases fr with
      | true => exact fin _ _ hk (.own g as bs ms f args ts r hev hop (hS _ _ _ _ hS'))
      | false => exact fin _ _ hk (.shared g as bs ms f args ts r hev hop (hS _ _ _ _ hS'))
    · exact hf.elim
  · split at h
    · exact h.elim
    · exact h.elim

include hS in
theorem trace_of : ∀ (l : List Oper) (i : Nat) (s : St), opsW E.plain T n st ops K i l s →
    ∃ zs : Nat → Z, zs i = zOf s ∧ (∀ (k : Nat) o, l[k]? = some o → Step P T n ops (st (i + k)) o (zs (i + k)) (zs (i + k + 1))) ∧ ∃ s', K s' ∧ zOf s' = zs (i + l.length) ∧ s'.sv = s.sv
  | [], i, s, h => ⟨fun _ => zOf s, rfl, fun k o hk => by simp at hk, s, h, rfl, rfl⟩
  | o :: r, i, s, h => by
    have go : ∀ s1, (∃ s2, opsW E.plain T n st ops K (i + 1) r s2 ∧ Step P T n ops (st i) o (zOf s1) (zOf s2) ∧ s2.sv = s1.sv) → zOf s1 = zOf s → s1.sv = s.sv →
        ∃ zs : Nat → Z, zs i = zOf s ∧ (∀ (k : Nat) o', (o :: r)[k]? = some o' → Step P T n ops (st (i + k)) o' (zs (i + k)) (zs (i + k + 1))) ∧ ∃ s', K s' ∧ zOf s' = zs (i + (o :: r).length) ∧ s'.sv = s.sv := by
      rintro s1 ⟨s2, hw, hst, hsv⟩ heq hsv1
      obtain ⟨zs, g1, g2, s', g3, g4, g5⟩ := trace_of r (i + 1) s2 hw
      refine ⟨fun k => if k ≤ i then zOf s else zs k, if_pos (Nat.le_refl _), fun k o' hk => ?_, s', g3, ?_, g5.trans (hsv.trans hsv1)⟩
      · cases k with
        | zero =>
          simp at hk
          subst hk
          dsimp only
          simp only [Nat.add_zero]
          rw [if_pos (Nat.le_refl _), if_neg (by omega), g1, ← heq]
          exact hst
        | succ k =>
          have := g2 k o' (by simpa using hk)
          dsimp only
          rw [if_neg (by omega), if_neg (by omega)]
          rw [show i + (k + 1) = i + 1 + k from by omega]
          exact this
      · dsimp only
        rw [if_neg (by simp)]
        rw [g4]
        congr 1
        simp; omega
    have known : ∀ t b, look s.tm t = .val (.bool b) → zOf (s.put (some t) (.val (.bool b))) = zOf s := fun t b ht => by
      unfold zOf
      rw [look_put_upd, hp_put, upd_known ht]
    unfold opsW at h
    simp only [putF_eq] at h
    split at h
    · rename_i hg
      exact go s (one_step hS (.inl hg) h) rfl rfl
    · rename_i j want hg
      split at h
      · exact h.elim
      · rename_i t ht
        split at h
        · rename_i b hl
          have hk := known t b hl
          have hl' : look (s.put (some t) (.val (.bool b))).tm t = .val (.bool b) := by rw [look_put]; simp
          have skip : want = !b → opsW E.plain T n st ops K (i + 1) r ((s.put (some t) (.val (.bool b))).put o.dst (.val undef)) → ∃ s2, opsW E.plain T n st ops K (i + 1) r s2 ∧ Step P T n ops (st i) o (zOf (s.put (some t) (.val (.bool b)))) (zOf s2) ∧ s2.sv = (s.put (some t) (.val (.bool b))).sv := fun hwb hw => by
            refine ⟨_, hw, ?_, by cases o.dst <;> rfl⟩
            have e : zOf ((s.put (some t) (.val (.bool b))).put o.dst (.val undef)) = ⟨upd (zOf (s.put (some t) (.val (.bool b)))).lk o.dst (.val undef), (zOf (s.put (some t) (.val (.bool b)))).hp⟩ := by
              unfold zOf
              rw [look_put_upd, hp_put]
            rw [e]
            exact .skip j t want (.bool b) hg ht hl' (by rw [hwb]; cases b <;> simp)
          cases b <;> cases want <;> simp only [ifB] at h
          · exact go _ (one_step hS (.inr ⟨j, t, false, hg, ht, hl'⟩) h) hk rfl
          · exact go _ (skip rfl h) hk rfl
          · exact go _ (skip rfl h) hk rfl
          · exact go _ (one_step hS (.inr ⟨j, t, true, hg, ht, hl'⟩) h) hk rfl
        · rename_i vs hl
          refine go s ⟨_, h, ?_, by cases o.dst <;> rfl⟩ rfl rfl
          have e : zOf (s.put o.dst (.val undef)) = ⟨upd (zOf s).lk o.dst (.val undef), (zOf s).hp⟩ := by
            unfold zOf
            rw [look_put_upd, hp_put]
          rw [e]
          exact .skip j t want (.tuple vs) hg ht hl (by simp)
        · exact h.elim
end

/-! ### What stands before what -/

def bitsOf (acc : List Nat) (o : Oper) : Nat := o.after.toList.foldl (fun s e => bif Region.binds .any e then s ||| 2 ^ e.on ||| acc.getD e.on 0 else s) 0

theorem foldl_bits (acc : List Nat) (i : Nat) : ∀ (l : List Edge) (s : Nat), (l.foldl (fun s e => bif Region.binds .any e then s ||| 2 ^ e.on ||| acc.getD e.on 0 else s) s).testBit i = true →
    s.testBit i = true ∨ ∃ e ∈ l, Region.binds .any e = true ∧ (i = e.on ∨ (acc.getD e.on 0).testBit i = true)
  | [], s, h => .inl h
  | e :: l, s, h => by
    rcases foldl_bits acc i l _ h with g | ⟨e', he', hb, g⟩
    · dsimp only at g
      cases hb : Region.binds .any e with
      | false => rw [hb] at g; exact .inl g
      | true =>
        rw [hb] at g
        simp only [cond_true, Nat.testBit_or, Nat.testBit_two_pow, Bool.or_eq_true, decide_eq_true_eq] at g
        rcases g with (g | g) | g
        · exact .inl g
        · exact .inr ⟨e, .head _, hb, .inl g.symm⟩
        · exact .inr ⟨e, .head _, hb, .inr g⟩
    · exact .inr ⟨e', .tail _ he', hb, g⟩

theorem befores_get : ∀ (l : List Oper) (acc : List Nat), (∀ k, k < acc.length → (befores l acc).getD k 0 = acc.getD k 0) ∧ ∀ (k : Nat) o, l[k]? = some o → ∃ acc' : List Nat, (∀ q, acc'.getD q 0 = (befores l acc).getD q 0 ∨ acc'.getD q 0 = 0) ∧ (befores l acc).getD (acc.length + k) 0 = bitsOf acc' o
  | [], acc => ⟨fun k _ => rfl, fun k o h => by simp at h⟩
  | o :: r, acc => by
    obtain ⟨g1, g2⟩ := befores_get r (acc ++ [bitsOf acc o])
    have he : befores (o :: r) acc = befores r (acc ++ [bitsOf acc o]) := rfl
    rw [he]
    refine ⟨fun k hk => ?_, fun k o' hk => ?_⟩
    · rw [g1 k (by simp; omega)]
      simp [List.getD_eq_getElem?_getD, List.getElem?_append_left hk]
    · cases k with
      | zero =>
        simp at hk
        subst hk
        refine ⟨acc, fun q => ?_, ?_⟩
        · by_cases hq : q < acc.length
          · left; rw [g1 q (by simp; omega)]; simp [List.getD_eq_getElem?_getD, List.getElem?_append_left hq]
          · right; simp [List.getD_eq_getElem?_getD, List.getElem?_eq_none (show acc.length ≤ q from by omega)]
        · rw [g1 _ (by simp)]; simp [List.getD_eq_getElem?_getD]
      | succ k =>
        obtain ⟨acc', h1, h2⟩ := g2 k o' (by simpa using hk)
        refine ⟨acc', h1, ?_⟩
        rw [← h2]
        congr 1
        simp; omega

/-- What stands before an operation is named by it, or stands before what it names. -/
theorem before_inv {ops : Array Oper} {i j : Nat} {o : Oper} (ho : ops[j]? = some o) (h : isBefore (befores ops.toList []) i j = true) : ∃ e ∈ o.after, Region.binds .any e = true ∧ (i = e.on ∨ isBefore (befores ops.toList []) i e.on = true) := by
  obtain ⟨_, g⟩ := befores_get ops.toList []
  obtain ⟨acc', h1, h2⟩ := g j o (by simpa using ho)
  unfold isBefore at h
  rw [show ([] : List Nat).length + j = j from by simp] at h2
  rw [h2] at h
  rcases foldl_bits acc' i _ _ h with g | ⟨e, he, hb, g⟩
  · simp at g
  · refine ⟨e, by simpa using he, hb, ?_⟩
    rcases g with g | g
    · exact .inl g
    · right
      unfold isBefore
      rcases h1 e.on with q | q
      · rw [← q]; exact g
      · rw [q] at g; simp at g
end Go.Tr

/- Regions that draw their order, the proof: the invariant, a step, the end. Conditions: the program's rules take any order. -/
namespace Go.Tr
open Go Go.RowKit

theorem row_pair {gl : List (Nat × Nat)} {ops : Array Oper} {bf : List Nat} {j : Nat} {y : Oper} : ∀ (l : List Oper) (i0 : Nat), rowOk gl ops bf j y i0 l = true → ∀ (k : Nat) x, l[k]? = some x → i0 + k < j → pairOk gl ops bf (i0 + k) j x y = true
  | [], _, _, k, x, hk, _ => by simp at hk
  | a :: r, i0, h, k, x, hk, hlt => by
    unfold rowOk at h
    have h0 : Nat.blt i0 j = true := by rw [Nat.blt_eq]; omega
    rw [h0, cond_true, Bool.and_eq_true] at h
    cases k with
    | zero => simp at hk; subst hk; exact h.1
    | succ k =>
      have := row_pair r (i0 + 1) h.2 k x (by simpa using hk) (by omega)
      rwa [show i0 + 1 + k = i0 + (k + 1) from by omega] at this

theorem all_pair {gl : List (Nat × Nat)} {ops : Array Oper} {bf : List Nat} : ∀ (l : List Oper) (j0 : Nat), allOk gl ops bf j0 l = true → ∀ (k : Nat) y, l[k]? = some y →
    (∀ (i : Nat) x, ops[i]? = some x → i < j0 + k → pairOk gl ops bf i (j0 + k) x y = true) ∧ (∀ e ∈ y.after, Region.binds .any e = true → e.on < j0 + k)
  | [], _, _, k, x, hk => by simp at hk
  | a :: r, j0, h, k, y, hk => by
    unfold allOk at h
    simp only [Bool.and_eq_true] at h
    cases k with
    | zero =>
      simp at hk
      subst hk
      refine ⟨fun i x hx hlt => ?_, fun e he hb => ?_⟩
      · have := row_pair ops.toList 0 h.1.1.1 i x (by simpa using hx) (by omega)
        simpa using this
      · have := List.all_eq_true.1 h.1.1.2 e (by simpa using he)
        rw [hb] at this
        simpa using this
    | succ k =>
      have := all_pair r (j0 + 1) h.2 k y (by simpa using hk)
      rwa [show j0 + 1 + k = j0 + (k + 1) from by omega] at this

def In (listed : Array Bool) (j : Nat) : Prop := listed.getD j false = true
def Wr (ops : Array Oper) (j : Nat) (t : Tmp) : Prop := ∃ o, ops[j]? = some o ∧ o.dst = some t

theorem In_lt {listed : Array Bool} {j : Nat} (h : In listed j) : j < listed.size := by
  rcases Nat.lt_or_ge j listed.size with g | g
  · exact g
  · unfold In at h; simp [Array.getElem?_eq_none g] at h

theorem In_set {listed : Array Bool} {i j : Nat} (hi : i < listed.size) : In (listed.setIfInBounds i true) j ↔ (j = i ∨ In listed j) := by
  unfold In
  by_cases h : i = j
  · subst h; simp [hi]
  · rw [getD_set_ne false h]
    constructor
    · exact .inr
    · rintro (g | g)
      · exact absurd g.symm h
      · exact g

/-- What stands beside the heap. -/
structure SideOk (P : Program) (F : Fr) (w0 : World) (sv0 : List (Nat × AV)) (j : Option Ex) (ny : Nat) (a : Act) (w : World) (c : Cx) : Prop where
  hy : ∀ i l, c.y i = some l → i < ny
  sv : ∀ i, VR P w c (look sv0 i) (F.X i)
  keep : ∀ x ∈ F.G, c.p x.1 ∧ w0.heap.size ≤ x.1 ∧ w.heap[x.1]? = some x.2.1 ∧ ∀ i, x.2.2 = some i → c.y i = some x.1
  rcd : ∀ i l rc', F.rc = some (i, l, rc') → c.y i = some l ∧ c.p l ∧ w0.heap.size ≤ l ∧ w.heap[l]? = some (.loop (recAt rc' j))
  defers : ∃ ds : List Nat, a.defers = ds.map markOf ∧ ds.Nodup ∧ ∀ D ∈ ds, c.p D ∧ w0.heap.size ≤ D ∧ w.heap[D]? = some (.deferred (some [])) ∧ ∀ x ∈ F.G, x.1 ≠ D

theorem SideOk.moved {P : Program} {F : Fr} {w0 w w' : World} {sv0 : List (Nat × AV)} {j : Option Ex} {ny : Nat} {a a' : Act} {c c' : Cx} {base : Nat} (h : SideOk P F w0 sv0 j ny a w c) (e : Ext base w c w' c') (hyE : c'.y = c.y) (ha : a'.defers = a.defers) : SideOk P F w0 sv0 j ny a' w' c' := by
  refine ⟨by rw [hyE]; exact h.hy, fun i => (h.sv i).mono e, fun x hx => ?_, fun i l rc' hrc => ?_, ?_⟩
  · obtain ⟨g1, g2, g3, g4⟩ := h.keep x hx
    exact ⟨e.p _ g1, g2, (e.pb _ g1).trans g3, fun i hi => e.y _ _ (g4 i hi)⟩
  · obtain ⟨g1, g2, g3, g4⟩ := h.rcd i l rc' hrc
    exact ⟨e.y _ _ g1, e.p _ g2, g3, (e.pb _ g2).trans g4⟩
  · obtain ⟨ds, g1, g2, g3⟩ := h.defers
    exact ⟨ds, ha.trans g1, g2, fun D hD => by obtain ⟨p1, p2, p3, p4⟩ := g3 D hD; exact ⟨e.p _ p1, p2, (e.pb _ p1).trans p3, p4⟩⟩

/-- What is known when some operations have been carried out. -/
structure DI (P : Program) (ops : Array Oper) (zs : Nat → Z) (F : Fr) (sv0 : List (Nat × AV)) (w0 : World) (q : Nat → Prop) (listed : Array Bool) (m : Nat) (a : Act) (w : World) (c : Cx) : Prop where
  size : listed.size = ops.size
  hr : HR P w0.heap.size w c (zs m).hp
  ro : RO c (zs m).hp
  dom : ∀ b oi, c.O b = some oi → b < (zs 0).hp.blocks.length ∨ ∃ j, In listed j ∧ (zs j).hp.blocks.length ≤ b ∧ b < (zs (j + 1)).hp.blocks.length
  domN : ∀ b r, c.N b = some r → b < (zs 0).hp.maps.length ∨ ∃ j, In listed j ∧ (zs j).hp.maps.length ≤ b ∧ b < (zs (j + 1)).hp.maps.length
  tm : ∀ t i, i ≤ ops.size → (∀ j, j < i → Wr ops j t → In listed j) → (∀ j, i ≤ j → Wr ops j t → ¬ In listed j) → VR P w c ((zs i).lk t) (a.tmps.getD t undef)
  tsize : a.tmps.size = F.n
  side : SideOk P F w0 sv0 (zs 0).hp.jump (zs 0).hp.ny a w c
  below : Below w0.heap.size w0 w
  pq : ∀ b, c.p b → q b ∨ w0.heap.size ≤ b
  closed : ∀ i j, In listed j → isBefore (befores ops.toList []) i j = true → In listed i
  m1 : m ≤ ops.size
  m2 : ∀ j, j < m → effAt ops j = true → In listed j
  m3 : m = ops.size ∨ (effAt ops m = true ∧ ¬ In listed m)

theorem eff_at {ops : Array Oper} {i : Nat} {o : Oper} (ho : ops[i]? = some o) : effAt ops i = effOp ops o := by
  unfold effAt
  rw [nth?_eq, Array.getElem?_toList, ho]

theorem eff_impure {ops : Array Oper} {o : Oper} (h : effOp ops o = true) : pureOp o = false := by
  unfold effOp at h
  unfold pureOp
  split at h <;> rename_i hop <;> first | rw [hop] | cases h

theorem eff_hard {ops : Array Oper} {o : Oper} (h : effOp ops o = true) : softOp o = false := by
  unfold effOp at h
  unfold softOp
  split at h <;> rename_i hop <;> first | rw [hop] | cases h

theorem eff_noread {ops : Array Oper} {o : Oper} (h : effOp ops o = true) : readBase o = none := by
  unfold effOp at h
  unfold readBase
  split at h <;> rename_i hop <;> first | rw [hop] | cases h

theorem soft_noread {o : Oper} (h : softOp o = true) : readBase o = none := by
  unfold softOp at h
  unfold readBase
  split at h <;> rename_i hop <;> first | rw [hop] | cases h

theorem gateSt_some {gl : List (Nat × Nat)} {ops : Array Oper} {k : Nat} {ρ : Operand → AV} {b : Bool} (h : gateSt gl ops k ρ = some b) : b = effAt ops k ∧ gateAt gl ops k ρ = true := by
  unfold gateSt at h
  cases hg : gateAt gl ops k ρ with
  | false => rw [hg] at h; cases h
  | true => rw [hg] at h; cases h; exact ⟨rfl, rfl⟩

section
variable {gl : List (Nat × Nat)} {P : Program} {T : Nat → Option TI} {F : Fr} {sv0 : List (Nat × AV)} {ops : Array Oper} {zs : Nat → Z} {w0 w : World} {q : Nat → Prop} {listed : Array Bool} {m : Nat} {a : Act} {c : Cx}

theorem Step.len {st : (Operand → AV) → Option Bool} {o : Oper} {z z' : Z} (h : Step P T F.n ops st o z z') : z.hp.blocks.length ≤ z'.hp.blocks.length ∧ z.hp.maps.length ≤ z'.hp.maps.length := by
  cases h with
  | run v h' _ _ _ hk => exact hk.len
  | skip => exact ⟨Nat.le_refl _, Nat.le_refl _⟩
theorem Step.le {k : Nat} {o : Oper} {z z' : Z} (h : Step P T F.n ops (gateSt gl ops k) o z z') (hs : effAt ops k = false) : HpLe z.hp z'.hp := by
  cases h with
  | run v h' _ _ h3 hk =>
    obtain ⟨b, g1, g2⟩ := h3
    exact hk.le (g2.resolve_left (by rw [(gateSt_some g1).1, hs]; simp))
  | skip => exact .refl _
theorem Step.read {st : (Operand → AV) → Option Bool} {o : Oper} {z z' : Z} (h : Step P T F.n ops st o z z') {b : Operand} (hp : readBase o = some b) : z'.hp = z.hp := by
  cases h with
  | run v h' _ _ h3 hk => exact (hk.read hp).1
  | skip => rfl
theorem Step.same {st : (Operand → AV) → Option Bool} {o : Oper} {z z' : Z} (h : Step P T F.n ops st o z z') (hp : pureOp o = true) : z'.hp = z.hp := by
  cases h with
  | run v h' _ _ h3 hk => exact (hk.pure hp).1
  | skip => rfl
theorem Step.same' {st : (Operand → AV) → Option Bool} {o : Oper} {z z' : Z} (h : Step P T F.n ops st o z z') (hp : softOp o = true) : z'.hp = z.hp := by
  cases h with
  | run v h' _ _ h3 hk => exact (hk.soft hp).1
  | skip => rfl
theorem Step.store {st : (Operand → AV) → Option Bool} {o : Oper} {z z' : Z} (h : Step P T F.n ops st o z z') (hp : storeOp o = true) : ShapeLe z.hp z'.hp ∧ ShapeLe z'.hp z.hp := by
  cases h with
  | run v h' _ _ h3 hk => exact hk.store hp
  | skip => exact ⟨.refl _, .refl _⟩
theorem Step.lk {st : (Operand → AV) → Option Bool} {o : Oper} {z z' : Z} (h : Step P T F.n ops st o z z') {t : Tmp} (ht : o.dst ≠ some t) : z'.lk t = z.lk t := by
  cases h with
  | run v h' _ _ h3 hk => simp only [upd]; rw [if_neg ht]
  | skip => simp only [upd]; rw [if_neg ht]

theorem Step.keep {st : (Operand → AV) → Option Bool} {o : Oper} {z z' : Z} (h : Step P T F.n ops st o z z') : z'.hp.jump = z.hp.jump ∧ z'.hp.ny = z.hp.ny := by
  cases h with
  | run v h' _ _ h3 hk =>
    cases hk with
    | op v h' hev => exact gives_keep hev
    | own => exact ⟨rfl, rfl⟩
    | shared => exact ⟨rfl, rfl⟩
  | skip => exact ⟨rfl, rfl⟩

variable (hs : ∀ (k : Nat) o, ops[k]? = some o → Step P T F.n ops (gateSt gl ops k) o (zs k) (zs (k + 1)))

include hs in
theorem z_keep : ∀ (j : Nat), j ≤ ops.size → (zs j).hp.jump = (zs 0).hp.jump ∧ (zs j).hp.ny = (zs 0).hp.ny
  | 0, _ => ⟨rfl, rfl⟩
  | j + 1, hj => by
    have h1 := z_keep j (by omega)
    have h2 := (hs j ops[j] (by simp)).keep
    exact ⟨h2.1.trans h1.1, h2.2.trans h1.2⟩

include hs in
theorem z_len {i j : Nat} (hij : i ≤ j) (hj : j ≤ ops.size) : (zs i).hp.blocks.length ≤ (zs j).hp.blocks.length ∧ (zs i).hp.maps.length ≤ (zs j).hp.maps.length := by
  induction j with
  | zero =>
    have : i = 0 := by omega
    subst this
    exact ⟨Nat.le_refl _, Nat.le_refl _⟩
  | succ j ih =>
    rcases Nat.lt_or_ge i (j + 1) with h | h
    · have g := ih (by omega) (by omega)
      have := (hs j ops[j] (by simp)).len
      exact ⟨Nat.le_trans g.1 this.1, Nat.le_trans g.2 this.2⟩
    · have : i = j + 1 := by omega
      subst this
      exact ⟨Nat.le_refl _, Nat.le_refl _⟩

include hs in
theorem z_le {i j : Nat} (hij : i ≤ j) (hj : j ≤ ops.size) (hn : ∀ k, i ≤ k → k < j → effAt ops k = false) : HpLe (zs i).hp (zs j).hp := by
  induction j with
  | zero =>
    have : i = 0 := by omega
    subst this
    exact .refl _
  | succ j ih =>
    rcases Nat.lt_or_ge i (j + 1) with h | h
    · exact (ih (by omega) (by omega) (fun k h1 h2 => hn k h1 (by omega))).trans ((hs j ops[j] (by simp)).le (hn j (by omega) (by omega)))
    · have : i = j + 1 := by omega
      subst this
      exact .refl _

include hs in
theorem z_lk {i j : Nat} {t : Tmp} (hij : i ≤ j) (hj : j ≤ ops.size) (hn : ∀ k, i ≤ k → k < j → ¬ Wr ops k t) : (zs j).lk t = (zs i).lk t := by
  induction j with
  | zero =>
    have : i = 0 := by omega
    subst this
    rfl
  | succ j ih =>
    rcases Nat.lt_or_ge i (j + 1) with h | h
    · have ho : ops[j]? = some ops[j] := by simp
      rw [(hs j _ ho).lk (fun e => hn j (by omega) (by omega) ⟨_, ho, e⟩)]
      exact ih (by omega) (by omega) (fun k h1 h2 => hn k h1 (by omega))
    · have : i = j + 1 := by omega
      subst this
      rfl

theorem next_eff : ∀ (d i : Nat), ops.size - i = d → i ≤ ops.size → ∃ m, i ≤ m ∧ m ≤ ops.size ∧ (∀ k, i ≤ k → k < m → effAt ops k = false) ∧ (m = ops.size ∨ effAt ops m = true)
  | 0, i, hd, hi => ⟨i, Nat.le_refl _, hi, fun k h1 h2 => by omega, .inl (by omega)⟩
  | d + 1, i, hd, hi => by
    cases he : effAt ops i with
    | true => exact ⟨i, Nat.le_refl _, hi, fun k h1 h2 => by omega, .inr he⟩
    | false =>
      obtain ⟨m, g1, g2, g3, g4⟩ := next_eff d (i + 1) (by omega) (by omega)
      refine ⟨m, by omega, g2, fun k h1 h2 => ?_, g4⟩
      rcases Nat.lt_or_ge i k with h | h
      · exact g3 k h h2
      · have : k = i := by omega
        subst this
        exact he

variable (hp : ∀ (i j : Nat) x y, ops[i]? = some x → ops[j]? = some y → i < j → pairOk gl ops (befores ops.toList []) i j x y = true)

include hp in
theorem pair_eff {i j : Nat} {x y : Oper} (hx : ops[i]? = some x) (hy : ops[j]? = some y) (hij : i < j) (h : (effOp ops x = true ∧ pureOp y = false ∧ softOp y = false ∧ readBase y = none) ∨ (effOp ops y = true ∧ pureOp x = false ∧ softOp x = false ∧ readBase x = none)) : isBefore (befores ops.toList []) i j = true := by
  have := hp i j x y hx hy hij
  unfold pairOk at this
  rcases Bool.or_eq_true_iff.1 this with g | g
  · exact g
  · have hns : gateStatic ops i j x y = false := by
      unfold gateStatic
      rcases h with ⟨h1, h2, h3, h4⟩ | ⟨h1, h2, h3, h4⟩
      · simp [h1, h4]
      · cases effOp ops x <;> simp [h1, h4]
    rcases h with ⟨h1, h2, h3, h4⟩ | ⟨h1, h2, h3, h4⟩ <;> simp [h1, h2, h3, hns] at g

include hp in
/-- A read and a write that are not ordered are named by a gate. -/
theorem pair_gate {i j : Nat} {x y : Oper} (hx : ops[i]? = some x) (hy : ops[j]? = some y) (hij : i < j) (hn : ¬ isBefore (befores ops.toList []) i j = true)
    (h : (effOp ops x = true ∧ pureOp y = false ∧ softOp y = false) ∨ (effOp ops y = true ∧ pureOp x = false ∧ softOp x = false)) : (i, j) ∈ gl ∧ gateStatic ops i j x y = true := by
  have := hp i j x y hx hy hij
  unfold pairOk at this
  rcases Bool.or_eq_true_iff.1 this with g | g
  · exact absurd g hn
  · have hg : (gl.any (fun p => Nat.beq p.1 i && Nat.beq p.2 j) && gateStatic ops i j x y) = true := by
      rcases h with ⟨h1, h2, h3⟩ | ⟨h1, h2, h3⟩ <;> simp [h1, h2, h3] at g ⊢ <;> exact g.2
    rw [Bool.and_eq_true] at hg
    refine ⟨?_, hg.2⟩
    obtain ⟨p, h1, h2⟩ := List.any_eq_true.1 hg.1
    rw [Bool.and_eq_true] at h2
    have e1 := Nat.eq_of_beq_eq_true h2.1
    have e2 := Nat.eq_of_beq_eq_true h2.2
    rw [← e1, ← e2]
    exact h1

include hp in
theorem pair_soft {i j : Nat} {x y : Oper} (hx : ops[i]? = some x) (hy : ops[j]? = some y) (hij : i < j) (hso : softOp x = true ∨ softOp y = true) (hn : ¬ isBefore (befores ops.toList []) i j = true) :
    (effOp ops x = true → pureOp y = false → storeOp x = true ∧ ∀ (k : Nat) z, ops[k]? = some z → i < k → k < j → pureOp z = true ∨ softOp z = true ∨ storeOp z = true) ∧ (effOp ops y = true → pureOp x = false → storeOp y = true) := by
  have := hp i j x y hx hy hij
  unfold pairOk at this
  rcases Bool.or_eq_true_iff.1 this with g | g
  · exact absurd g hn
  · have hns : gateStatic ops i j x y = false := by
      unfold gateStatic
      rcases hso with h | h
      · have h1 : effOp ops x = false := by
          cases he : effOp ops x with
          | false => rfl
          | true => rw [eff_hard he] at h; cases h
        simp [h1, soft_noread h]
      · cases effOp ops x with
        | true => simp [soft_noread h]
        | false =>
          have h1 : effOp ops y = false := by
            cases he : effOp ops y with
            | false => rfl
            | true => rw [eff_hard he] at h; cases h
          simp [h1]
    rw [hns, Bool.and_false, Bool.or_false] at g
    simp only [Bool.and_eq_true, Bool.or_eq_true, Bool.not_eq_true'] at g
    refine ⟨fun h1 h2 => ?_, fun h1 h2 => ?_⟩
    · rcases g.2.1 with (g | g) | g
      · rw [h1] at g; cases g
      · rw [h2] at g; cases g
      · refine ⟨g.1.2, fun k z hz h3 h4 => ?_⟩
        have hk := List.all_eq_true.1 g.2 k (List.mem_range.2 (Array.getElem?_eq_some_iff.1 hz).1)
        rw [nth?_eq, Array.getElem?_toList, hz] at hk
        have e1 : Nat.blt i k = true := by rw [Nat.blt_eq]; exact h3
        have e2 : Nat.blt k j = true := by rw [Nat.blt_eq]; exact h4
        simp only [e1, e2, Bool.and_self, Bool.not_true, Bool.false_or, Bool.or_eq_true] at hk
        rcases hk with (hk | hk) | hk
        · exact .inl hk
        · exact .inr (.inl hk)
        · exact .inr (.inr hk)
    · rcases g.2.2 with (g | g) | g
      · rw [h1] at g; cases g
      · rw [h2] at g; cases g
      · exact g.2

include hp in
theorem pair_rw {i j : Nat} {x y : Oper} (hx : ops[i]? = some x) (hy : ops[j]? = some y) (hij : i < j) {t : Tmp} (h : (x.dst = some t ∧ t ∈ readsOf ops y) ∨ (y.dst = some t ∧ t ∈ readsOf ops x) ∨ (x.dst = some t ∧ y.dst = some t)) : isBefore (befores ops.toList []) i j = true := by
  have := hp i j x y hx hy hij
  unfold pairOk at this
  rcases Bool.or_eq_true_iff.1 this with g | g
  · exact g
  · rcases h with ⟨h1, h2⟩ | ⟨h1, h2⟩ | ⟨h1, h2⟩
    · have := hasNat_iff.2 h2; simp [h1, this] at g
    · have := hasNat_iff.2 h2; simp [h1, this] at g
    · simp [h1, h2] at g

include hp in
theorem DI.early (h : DI P ops zs F sv0 w0 q listed m a w c) {j : Nat} {o : Oper} (ho : ops[j]? = some o) (hj : In listed j) (hnp : pureOp o = false) (hns : softOp o = false) (hnr : readBase o = none) : j < m := by
  rcases Nat.lt_or_ge j m with g | g
  · exact g
  · have hlt := In_lt hj
    rw [h.size] at hlt
    rcases h.m3 with e | ⟨e1, e2⟩
    · omega
    · rcases Nat.eq_or_lt_of_le g with e | e
      · subst e; exact absurd hj e2
      · have hm : ops[m]? = some ops[m] := by simp
        exact absurd (h.closed m j hj (pair_eff hp hm ho e (.inl ⟨by rw [← eff_at hm]; exact e1, hnp, hns, hnr⟩))) e2

include hs hp in
theorem DI.range (h : DI P ops zs F sv0 w0 q listed m a w c) : (∀ b oi, c.O b = some oi → b < (zs m).hp.blocks.length) ∧ (∀ b r, c.N b = some r → b < (zs m).hp.maps.length) := by
  have early : ∀ j, In listed j → (zs (j + 1)).hp ≠ (zs j).hp → j + 1 ≤ m ∧ m ≤ ops.size := fun j hj hne => by
    have hlt := In_lt hj
    rw [h.size] at hlt
    have ho : ops[j]? = some ops[j] := by simp
    refine ⟨h.early hp ho hj ?_ ?_ ?_, h.m1⟩
    · cases hpo : pureOp ops[j] with
      | false => rfl
      | true => exact absurd ((hs j _ ho).same hpo) hne
    · cases hpo : softOp ops[j] with
      | false => rfl
      | true => exact absurd ((hs j _ ho).same' hpo) hne
    · cases hpo : readBase ops[j] with
      | none => rfl
      | some b => exact absurd ((hs j _ ho).read hpo) hne
  refine ⟨fun b oi hb => ?_, fun b r hb => ?_⟩
  · rcases h.dom b oi hb with g | ⟨j, hj, g1, g2⟩
    · exact Nat.lt_of_lt_of_le g (z_len hs (Nat.zero_le _) h.m1).1
    · have := early j hj (fun e => by rw [e] at g2; omega)
      exact Nat.lt_of_lt_of_le g2 (z_len hs this.1 this.2).1
  · rcases h.domN b r hb with g | ⟨j, hj, g1, g2⟩
    · exact Nat.lt_of_lt_of_le g (z_len hs (Nat.zero_le _) h.m1).2
    · have := early j hj (fun e => by rw [e] at g2; omega)
      exact Nat.lt_of_lt_of_le g2 (z_len hs this.1 this.2).2
end
end Go.Tr

/- Regions that draw their order, the proof: a step and the end. Conditions: the program's rules take any order. -/
namespace Go.Tr
open Go Go.RowKit

theorem mem_tmpsOf : ∀ {l : List Operand} {t : Tmp}, .tmp t ∈ l → t ∈ tmpsOf l
  | .tmp t' :: r, t, h => by
    rcases List.mem_cons.1 h with e | h
    · cases e; exact .head _
    · exact .tail _ (mem_tmpsOf h)
  | .const _ :: r, t, h => by
    rcases List.mem_cons.1 h with e | h
    · cases e
    · exact mem_tmpsOf (l := r) h
  | .func _ :: r, t, h => by
    rcases List.mem_cons.1 h with e | h
    · cases e
    · exact mem_tmpsOf (l := r) h
  | .global _ :: r, t, h => by
    rcases List.mem_cons.1 h with e | h
    · cases e
    · exact mem_tmpsOf (l := r) h

theorem reads_op {ops : Array Oper} {o : Oper} {t : Tmp} (h : .tmp t ∈ o.op.operands) : t ∈ readsOf ops o :=
  List.mem_append_left _ (mem_tmpsOf (by simpa using h))
theorem reads_guard {ops : Array Oper} {o : Oper} {t : Tmp} {j : Nat} {b : Bool} (hg : o.guard = some (j, b)) (ht : (nth? ops.toList j).bind (·.dst) = some t) : t ∈ readsOf ops o := by
  unfold readsOf
  rw [hg]
  refine List.mem_append_right _ ?_
  simp only
  rw [ht]
  exact .head _

theorem guard_val {P : Program} {w : World} {c : Cx} {ops : Array Oper} {a : Act} {o : Oper} {j : Nat} {want : Bool} (hg : o.guard = some (j, want)) {t : Tmp} (ht : (nth? ops.toList j).bind (·.dst) = some t) {b : Bool}
    (hv : VR P w c (.val (.bool b)) (a.tmps.getD t undef)) : Region.wanted o (yielded ops a.tmps) = (b == want) := by
  rw [nth?_eq] at ht
  have ht' : (ops[j]?).bind (·.dst) = some t := by simpa using ht
  have hv := hv.val_inv
  have hs : a.tmps[t]? = some (.bool b) := by
    cases hq : a.tmps[t]? with
    | none => simp [hq, undef] at hv
    | some u => simp [hq] at hv; rw [hv]
  unfold Region.wanted
  rw [hg]
  simp [yielded, ht', hs]

theorem guard_not {P : Program} {w : World} {c : Cx} {ops : Array Oper} {a : Act} {o : Oper} {j : Nat} {want : Bool} (hg : o.guard = some (j, want)) {t : Tmp} (ht : (nth? ops.toList j).bind (·.dst) = some t) {v : Value} (hne : v ≠ .bool want)
    (hv : VR P w c (.val v) (a.tmps.getD t undef)) : Region.wanted o (yielded ops a.tmps) = false := by
  rw [nth?_eq] at ht
  have ht' : (ops[j]?).bind (·.dst) = some t := by simpa using ht
  have hv := hv.val_inv
  unfold Region.wanted
  rw [hg]
  simp only [yielded, ht', Option.bind_some]
  cases hq : a.tmps[t]? with
  | none => rfl
  | some u =>
    have : u = v := by simpa [hq] using hv
    subst this
    cases u with
    | bool b =>
      have : b ≠ want := fun e => hne (by rw [e])
      cases b <;> cases want <;> first | rfl | exact absurd rfl this
    | _ => rfl

theorem Kind.nodefer {P : Program} {T : Nat → Option TI} {o : Oper} {ρ : Operand → AV} {h h' : Hp} {v : AV} (hk : Kind P T o ρ h v h') : ∀ c, o.op ≠ .defer c := fun c hc => by
  cases hk with
  | op v h' hev => unfold opEv at hev; rw [hc] at hev; exact hev
  | own g as bs ms f args ts r hev hop hS => rw [hop] at hc; cases hc
  | shared g as bs ms f args ts r hev hop hS => rw [hop] at hc; cases hc

section
variable {gl : List (Nat × Nat)} {P : Program} {T : Nat → Option TI} {F : Fr} {sv0 : List (Nat × AV)} {ops : Array Oper} {zs : Nat → Z} {w0 w : World} {q : Nat → Prop} {listed : Array Bool} {m : Nat} {a : Act} {c : Cx}
variable (hs : ∀ (k : Nat) o, ops[k]? = some o → Step P T F.n ops (gateSt gl ops k) o (zs k) (zs (k + 1)))
variable (hp : ∀ (i j : Nat) x y, ops[i]? = some x → ops[j]? = some y → i < j → pairOk gl ops (befores ops.toList []) i j x y = true)

include hs hp in
/-- Behind one more operation. -/
theorem DI.put (h : DI P ops zs F sv0 w0 q listed m a w c) {i : Nat} {o : Oper} (ho : ops[i]? = some o) (hni : ¬ In listed i) (hbef : ∀ j, isBefore (befores ops.toList []) j i = true → In listed j) (haft : ∀ j, In listed j → ¬ isBefore (befores ops.toList []) i j = true)
    {v : AV} {u : Value} {w' : World} {c' : Cx} {m' : Nat} (hlk : (zs (i + 1)).lk = upd (zs i).lk o.dst v) (hu : VR P w' c' v u) (hd : slotOk F.n o.dst = true ∨ (v = .val undef ∧ u = undef)) (hyE : c'.y = c.y) (hr : HR P w0.heap.size w' c' (zs m').hp) (ro : RO c' (zs m').hp) (e : Ext w0.heap.size w c w' c')
    (dom : ∀ b oi, c'.O b = some oi → (∃ oi', c.O b = some oi') ∨ ((zs i).hp.blocks.length ≤ b ∧ b < (zs (i + 1)).hp.blocks.length))
    (domN : ∀ b r, c'.N b = some r → (∃ r', c.N b = some r') ∨ ((zs i).hp.maps.length ≤ b ∧ b < (zs (i + 1)).hp.maps.length))
    (pq : ∀ b, c'.p b → q b ∨ w0.heap.size ≤ b) (hm : (m' = m ∧ i ≠ m) ∨ (i = m ∧ m < m' ∧ m' ≤ ops.size ∧ (∀ k, m + 1 ≤ k → k < m' → effAt ops k = false) ∧ (m' = ops.size ∨ effAt ops m' = true))) :
    DI P ops zs F sv0 w0 q (listed.setIfInBounds i true) m' (a.put o.dst u) w' c' := by
  have hil : i < listed.size := by rw [h.size]; exact (Array.getElem?_eq_some_iff.1 ho).1
  have hio : i < ops.size := (Array.getElem?_eq_some_iff.1 ho).1
  have inset : ∀ j, In (listed.setIfInBounds i true) j ↔ (j = i ∨ In listed j) := fun j => In_set hil
  refine ⟨by simp [h.size], hr, ro, fun b oi hb => ?_, fun b r hb => ?_, fun t k hk c1 c2 => ?_, ?_, ?_, h.below.trans e.below, pq, fun i' j hj hb => ?_, ?_, fun j hj he => ?_, ?_⟩
  · rcases dom b oi hb with ⟨oi', g⟩ | g
    · rcases h.dom b oi' g with g | ⟨j, hj, g⟩
      · exact .inl g
      · exact .inr ⟨j, (inset j).2 (.inr hj), g⟩
    · exact .inr ⟨i, (inset i).2 (.inl rfl), g⟩
  · rcases domN b r hb with ⟨oi', g⟩ | g
    · rcases h.domN b oi' g with g | ⟨j, hj, g⟩
      · exact .inl g
      · exact .inr ⟨j, (inset j).2 (.inr hj), g⟩
    · exact .inr ⟨i, (inset i).2 (.inl rfl), g⟩
  · by_cases hdt : o.dst = some t
    · have hik : i < k := by
        rcases Nat.lt_or_ge i k with g | g
        · exact g
        · exact absurd ((inset i).2 (.inl rfl)) (c2 i g ⟨o, ho, hdt⟩)
      have hc : (zs k).lk t = (zs (i + 1)).lk t := z_lk hs hik hk fun j h1 h2 hw => by
        obtain ⟨x, hx, hxt⟩ := hw
        have hin := (inset j).1 (c1 j h2 ⟨x, hx, hxt⟩)
        rcases hin with e | hin
        · omega
        · exact haft j hin (pair_rw hp ho hx (by omega) (.inr (.inr ⟨hdt, hxt⟩)))
      rw [hc, hlk]
      simp only [upd]
      rw [if_pos hdt]
      rcases hd with hd | hd
      · have hlt : t < a.tmps.size := by rw [h.tsize]; rw [hdt] at hd; exact Nat.le_of_ble_eq_true hd
        rw [hdt]
        simpa [Act.put, hlt] using hu
      · rw [hd.1, hd.2, hdt]
        have e : (a.put (some t) undef).tmps.getD t undef = undef := by
          by_cases hlt : t < a.tmps.size
          · simp [Act.put, hlt]
          · simp [Act.put]
        rw [e]
        exact .tree (.val _)
    · have hold := h.tm t k hk (fun j hj hw => by
          rcases (inset j).1 (c1 j hj hw) with e | g
          · subst e
            obtain ⟨x, hx, hxt⟩ := hw
            rw [ho] at hx
            cases hx
            exact absurd hxt hdt
          · exact g) (fun j hj hw hin => c2 j hj hw ((inset j).2 (.inr hin)))
      have := hold.mono e
      have e2 : (a.put o.dst u).tmps.getD t undef = a.tmps.getD t undef := by
        cases hdd : o.dst with
        | none => rfl
        | some d =>
          have hne : d ≠ t := fun e => hdt (by rw [hdd, e])
          simp [Act.put, Array.getElem?_setIfInBounds_ne hne]
      rw [e2]
      exact this
  · cases o.dst <;> simp [Act.put, h.tsize]
  · exact h.side.moved e hyE (by cases o.dst <;> rfl)
  · rcases (inset j).1 hj with e | g
    · subst e; exact (inset i').2 (.inr (hbef i' hb))
    · exact (inset i').2 (.inr (h.closed i' j g hb))
  · rcases hm with ⟨e1, _⟩ | ⟨_, _, g, _⟩
    · rw [e1]; exact h.m1
    · exact g
  · rcases hm with ⟨e1, _⟩ | ⟨e1, e2, e3, e4, e5⟩
    · rw [e1] at hj; exact (inset j).2 (.inr (h.m2 j hj he))
    · rcases Nat.lt_or_ge j m with g | g
      · exact (inset j).2 (.inr (h.m2 j g he))
      · rcases Nat.eq_or_lt_of_le g with g | g
        · exact (inset j).2 (.inl (by omega))
        · rw [e4 j g hj] at he; cases he
  · rcases hm with ⟨e1, e2⟩ | ⟨e1, e2, e3, e4, e5⟩
    · rw [e1]
      rcases h.m3 with g | ⟨g1, g2⟩
      · exact .inl g
      · exact .inr ⟨g1, fun hin => by rcases (inset m).1 hin with g | g; exact e2 g.symm; exact g2 g⟩
    · rcases e5 with g | g
      · exact .inl g
      · by_cases hmo : m' = ops.size
        · exact .inl hmo
        · right
          refine ⟨g, fun hin => ?_⟩
          have hx : ops[m']? = some ops[m'] := by simp
          rcases (inset m').1 hin with g' | g'
          · omega
          · have := h.early hp hx g' (eff_impure (by rw [← eff_at hx]; exact g)) (eff_hard (by rw [← eff_at hx]; exact g)) (eff_noread (by rw [← eff_at hx]; exact g)); omega

include hs hp in
theorem di_step (hT : TOK P T) (h : DI P ops zs F sv0 w0 q listed m a w c) {i : Nat} (hi : i ∈ Region.ready .any ops listed) {Q : Exit → Act → World → Prop} {K : Act → World → Prop}
    (hK : ∀ a' w' c' m', DI P ops zs F sv0 w0 q (listed.setIfInBounds i true) m' a' w' c' → K a' w') : wpOpIn (FR F.r) 0 P ops Q i K a w := by
  obtain ⟨hun, o, ho, hedge⟩ := mem_ready.1 hi
  have hio : i < ops.size := (Array.getElem?_eq_some_iff.1 ho).1
  have hil : i < listed.size := by rw [h.size]; exact hio
  have hni : ¬ In listed i := fun g => by unfold In at g; simp [hil] at g hun; rw [g] at hun; cases hun
  have hbef : ∀ j, isBefore (befores ops.toList []) j i = true → In listed j := fun j hb => by
    obtain ⟨e, he, hbi, g⟩ := before_inv ho hb
    have hin : In listed e.on := hedge e he hbi
    rcases g with g | g
    · rw [g]; exact hin
    · exact h.closed j e.on hin g
  have haft : ∀ j, In listed j → ¬ isBefore (befores ops.toList []) i j = true := fun j hj hb => hni (h.closed i j hj hb)
  have hrd : ∀ t ∈ readsOf ops o, VR P w c ((zs i).lk t) (a.tmps.getD t undef) := fun t ht => by
    refine h.tm t i (Nat.le_of_lt hio) (fun j hj hw => ?_) (fun j hj hw hin => ?_)
    · obtain ⟨x, hx, hxt⟩ := hw
      exact hbef j (pair_rw hp hx ho hj (.inl ⟨hxt, ht⟩))
    · rcases Nat.eq_or_lt_of_le hj with e | e
      · subst e; exact hni hin
      · obtain ⟨x, hx, hxt⟩ := hw
        exact haft j hin (pair_rw hp ho hx e (.inr (.inl ⟨hxt, ht⟩)))
  have hρ : ∀ x ∈ o.op.operands, VR P w c (evL (zs i).lk x) (a.eval x) := fun x hx => by
    cases x with
    | tmp t => exact hrd t (reads_op hx)
    | const v => exact .tree (constAV_ok v)
    | global g => exact .tree (.top _)
    | func f => exact .tree (.func _ _ _ #[] #[] rfl rfl (by simp))
  have hbase : w0.heap.size ≤ w.heap.size := h.below.size
  obtain ⟨hrange, hrangeM⟩ := h.range hs hp
  -- the next place of writing
  obtain ⟨m2, n1, n2, n3, n4⟩ : ∃ m2, (i = m → m < m2 ∧ m2 ≤ ops.size) ∧ True ∧ (∀ k, m + 1 ≤ k → k < m2 → effAt ops k = false) ∧ (i = m → m2 = ops.size ∨ effAt ops m2 = true) := by
    by_cases him : i = m
    · obtain ⟨m2, g1, g2, g3, g4⟩ := next_eff (ops := ops) _ (m + 1) rfl (by omega)
      exact ⟨m2, fun _ => ⟨g1, g2⟩, trivial, g3, fun _ => g4⟩
    · exact ⟨0, fun e => absurd e him, trivial, fun k h1 h2 => by omega, fun e => absurd e him⟩
  have step := hs i o ho
  have pqq : ∀ {w' : World} {c' : Cx} {x x' : Hp}, QOut P w0.heap.size w c x w' c' x' → ∀ b, c'.p b → q b ∨ w0.heap.size ≤ b := fun hq b hb => by
    rcases hq.pN b hb with g | g | ⟨i, oi, g1, g2, g3⟩ | ⟨i, g⟩
    · exact h.pq b g
    · exact .inr (by omega)
    · have := h.hr.own i oi g1 g2; exact .inr (by omega)
    · have := h.hr.mown i b g; exact .inr (by omega)
  unfold wpOpIn
  simp only [ho]
  generalize hz : zs (i + 1) = z' at step
  cases step with
  | skip j t want v hg ht hl hne =>
    have hw : Region.wanted o (yielded ops a.tmps) = false := by
      have hv := hrd t (reads_guard hg ht)
      rw [hl] at hv
      exact guard_not hg ht hne hv
    rw [hw]
    simp only [Bool.false_eq_true, if_false]
    refine ⟨fun _ _ => trivial, ?_⟩
    by_cases him : i = m
    · have hzm : (zs (m + 1)).hp = (zs m).hp := by rw [← him, hz]
      have e := z_le hs (show m + 1 ≤ m2 from (n1 him).1) (n1 him).2 n3
      rw [hzm] at e
      exact hK _ _ c m2 (h.put hs hp ho hni hbef haft (v := .val undef) (by rw [hz]) (.tree (.val _)) (.inr ⟨rfl, rfl⟩) rfl (h.hr.grow hrange hrangeM e) (h.ro.grow e) (.refl _ _ _) (fun b oi hb => .inl ⟨oi, hb⟩) (fun b r hb => .inl ⟨r, hb⟩) h.pq
        (.inr ⟨him, (n1 him).1, (n1 him).2, n3, n4 him⟩))
    · exact hK _ _ c m (h.put hs hp ho hni hbef haft (v := .val undef) (by rw [hz]) (.tree (.val _)) (.inr ⟨rfl, rfl⟩) rfl h.hr h.ro (.refl _ _ _) (fun b oi hb => .inl ⟨oi, hb⟩) (fun b r hb => .inl ⟨r, hb⟩) h.pq (.inl ⟨rfl, him⟩))
  | run v h' hg hslot hst hk =>
    have hw : Region.wanted o (yielded ops a.tmps) = true := by
      rcases hg with hg | ⟨j, t, b, hg, ht, hl⟩
      · unfold Region.wanted; rw [hg]
      · have hv := hrd t (reads_guard hg ht)
        rw [hl] at hv
        rw [guard_val hg ht hv]
        cases b <;> rfl
    rw [hw]
    simp only [if_true]
    have hnd := hk.nodefer
    have hz1 : (zs (i + 1)).hp = h' := by rw [hz]
    have hz2 : (zs (i + 1)).lk = upd (zs i).lk o.dst v := by rw [hz]
    by_cases him : i = m
    · subst him
      have e := z_le hs (show i + 1 ≤ m2 from (n1 rfl).1) (n1 rfl).2 n3
      rw [hz1] at e
      refine wp_in hnd (kind_ok hT h.hr hbase hρ hk (fun _ => h.ro) (fun b h1 h2 => ?_) (fun b h1 h2 => ?_) fun u w' c' hout hu => ?_)
      · cases hO : c.O b with
        | none => rfl
        | some oi => have := hrange b oi hO; omega
      · cases hO : c.N b with
        | none => rfl
        | some oi => have := hrangeM b oi hO; omega
      · rcases hout with ⟨_, hq⟩ | ⟨_, hq⟩
        · have r1 : ∀ b oi, c'.O b = some oi → b < h'.blocks.length := fun b oi hb => by rcases hq.oNew b oi hb with g | g; exact Nat.lt_of_lt_of_le (hrange b oi g) hq.le.blen; exact g.2
          have r2 : ∀ b r, c'.N b = some r → b < h'.maps.length := fun b r hb => by rcases hq.nNew b r hb with g | g; exact Nat.lt_of_lt_of_le (hrangeM b r g) hq.le.mlen; exact g.2
          exact hK _ _ c' m2 (h.put hs hp ho hni hbef haft hz2 hu (.inl hslot) hq.yE (hq.hr.grow r1 r2 e) ((hq.roOf h.ro).grow e) (hq.ext.low hbase)
            (fun b oi hb => by rw [hz1]; rcases hq.oNew b oi hb with g | g; exact .inl ⟨_, g⟩; exact .inr g) (fun b r hb => by rw [hz1]; rcases hq.nNew b r hb with g | g; exact .inl ⟨_, g⟩; exact .inr g) (pqq hq)
            (.inr ⟨rfl, (n1 rfl).1, (n1 rfl).2, n3, n4 rfl⟩))
        · have r1 : ∀ b oi, c'.O b = some oi → b < h'.blocks.length := fun b oi hb => by obtain ⟨oi', g⟩ := hq.oNew b oi hb; rw [hq.blen]; exact hrange b oi' g
          have r2 : ∀ b r, c'.N b = some r → b < h'.maps.length := fun b r hb => by obtain ⟨oi', g⟩ := hq.nNew b r hb; rw [hq.mlen]; exact hrangeM b oi' g
          exact hK _ _ c' m2 (h.put hs hp ho hni hbef haft hz2 hu (.inl hslot) hq.yE (hq.hr.grow r1 r2 e) (hq.ro.grow e) hq.ext
            (fun b oi hb => .inl (hq.oNew b oi hb)) (fun b r hb => .inl (hq.nNew b r hb)) (fun b hb => h.pq b (hq.pE b hb))
            (.inr ⟨rfl, (n1 rfl).1, (n1 rfl).2, n3, n4 rfl⟩))
    · have light : isEff o (evL (zs i).lk) = false → Kind P T o (evL (zs i).lk) (zs m).hp v (zs m).hp → o.wpIn (FR F.r) 0 P a w K Q := fun hq0 hany => by
        refine wp_in hnd (kind_ok hT h.hr hbase hρ hany (fun he => by rw [hq0] at he; cases he) (fun b h1 h2 => by omega) (fun b h1 h2 => by omega) fun u w' c' hout hu => ?_)
        rcases hout with ⟨_, hq⟩ | ⟨g, _⟩
        · exact hK _ _ c' m (h.put hs hp ho hni hbef haft hz2 hu (.inl hslot) hq.yE hq.hr (hq.roOf h.ro) (hq.ext.low hbase)
            (fun b oi hb => by rcases hq.oNew b oi hb with g | g; exact .inl ⟨_, g⟩; omega) (fun b r hb => by rcases hq.nNew b r hb with g | g; exact .inl ⟨_, g⟩; omega) (pqq hq) (.inl ⟨rfl, him⟩))
        · rw [hq0] at g; cases g
      cases hpo : pureOp o with
      | true => exact light (pure_quiet hpo _) ((hk.pure hpo).2 (zs m).hp)
      | false =>
      cases hso : softOp o with
      | true =>
        have hm1 := h.m1
        refine light (soft_quiet hso _) ((hk.soft hso).2 (zs m).hp ?_)
        rcases Nat.lt_or_ge i m with hlt | hge
        · -- later writes keep the shape
          have up : ∀ d, i + d ≤ m → ShapeLe (zs i).hp (zs (i + d)).hp := fun d => by
            induction d with
            | zero => intro _; exact .refl _
            | succ d ih =>
              intro hd
              refine (ih (by omega)).trans ?_
              have hx : ops[i + d]? = some ops[i + d] := by simp
              cases he : effAt ops (i + d) with
              | false => exact ((hs _ _ hx).le he).shape
              | true =>
                have hin := h.m2 (i + d) (by omega) he
                have hne : i < i + d := by
                  rcases Nat.eq_zero_or_pos d with e | e
                  · subst e; exact absurd hin hni
                  · omega
                exact ((hs _ _ hx).store ((pair_soft hp ho hx hne (.inl hso) (haft _ hin)).2 (by rw [← eff_at hx]; exact he) hpo)).1
          have := up (m - i) (by omega)
          rwa [show i + (m - i) = m from by omega] at this
        · -- ahead of a write that keeps the shape
          have hmi : m < i := by omega
          rcases h.m3 with g | ⟨g1, g2⟩
          · omega
          · have hxm : ops[m]? = some ops[m] := by simp
            obtain ⟨s1, s2⟩ := (pair_soft hp hxm ho hmi (.inr hso) (fun hb => g2 (hbef m hb))).1 (by rw [← eff_at hxm]; exact g1) hpo
            have down : ∀ d, m + d ≤ i → ShapeLe (zs (m + d)).hp (zs m).hp := fun d => by
              induction d with
              | zero => intro _; exact .refl _
              | succ d ih =>
                intro hd
                refine ShapeLe.trans ?_ (ih (by omega))
                have hx : ops[m + d]? = some ops[m + d] := by simp
                have hst : storeOp ops[m + d] = true → ShapeLe (zs (m + (d + 1))).hp (zs (m + d)).hp := fun g => ((hs _ _ hx).store g).2
                rcases Nat.eq_zero_or_pos d with e | e
                · subst e; exact hst s1
                · rcases s2 (m + d) _ hx (by omega) (by omega) with g | g | g
                  · rw [show m + (d + 1) = m + d + 1 from rfl, (hs _ _ hx).same g]; exact .refl _
                  · rw [show m + (d + 1) = m + d + 1 from rfl, (hs _ _ hx).same' g]; exact .refl _
                  · exact hst g
            have := down (i - m) (by omega)
            rwa [show m + (i - m) = i from by omega] at this
      | false =>
      cases hro : readBase o with
      | some rb =>
        have hm1 := h.m1
        obtain ⟨bst, hst1, hst2⟩ := hst
        have hgate := (gateSt_some hst1).2
        refine light (read_quiet hro _) ((hk.read hro).2 (zs m).hp ?_)
        rcases Nat.lt_or_ge i m with hlt | hge
        · cases hfree : heapFree (evL (zs i).lk rb) with
          | true => exact .inl hfree
          | false =>
          have fst : ∀ k, i < k → k < m → effAt ops k = true → ∃ y, ops[k]? = some y ∧ (i, k) ∈ gl ∧ gateStatic ops i k o y = true := fun k h1 h2 he => by
            have hin := h.m2 k h2 he
            have hx : ops[k]? = some ops[k] := by simp
            exact ⟨_, hx, pair_gate hp ho hx h1 (haft k hin) (.inr ⟨by rw [← eff_at hx]; exact he, hpo, hso⟩)⟩
          have kept : ∀ k y, i < k → k ≤ ops.size → ops[k]? = some y → gateStatic ops i k o y = true → evL (zs k).lk rb = evL (zs i).lk rb := fun k y h1 h2 hy hg => by
            have hxe : effOp ops o = false := by
              cases he : effOp ops o with
              | false => rfl
              | true => rw [eff_noread he] at hro; cases hro
            unfold gateStatic at hg
            rw [hxe, hro] at hg
            simp only [cond_false, Bool.and_eq_true] at hg
            have hg2 := hg.2
            split at hg2
            case h_2 => cases hg2
            rename_i b0 t0 e1 e2
            cases e1
            cases rb with
            | tmp t =>
              refine z_lk hs (Nat.le_of_lt h1) h2 fun k' c1 c2 hw => ?_
              obtain ⟨z, hz', hzt⟩ := hw
              unfold slotKept at hg2
              have := List.all_eq_true.1 hg2 k' (List.mem_range.2 (Array.getElem?_eq_some_iff.1 hz').1)
              rw [nth?_eq, Array.getElem?_toList, hz'] at this
              have q1 : Nat.ble i k' = true := by rw [Nat.ble_eq]; exact c1
              have q2 : Nat.blt k' k = true := by rw [Nat.blt_eq]; exact c2
              simp [q1, q2, hzt] at this
            | const _ => rfl
            | global _ => rfl
            | func _ => rfl
          cases hbo : blockOf (evL (zs i).lk rb) with
          | none =>
            rcases hk.readable hro with g | ⟨b', g⟩
            · rw [hfree] at g; cases g
            · rw [hbo] at g; cases g
          | some bi =>
            refine .inr ⟨bi, hbo, ?_⟩
            have up : ∀ d, i + d ≤ m → ∀ k0, (zs i).hp.blocks[bi]? = some k0 → ∃ k', (zs (i + d)).hp.blocks[bi]? = some k' ∧ ABro k0 k' := fun d => by
              induction d with
              | zero => intro _ k0 hk0; exact ⟨k0, hk0, .refl _⟩
              | succ d ih =>
                intro hd k0 hk0
                obtain ⟨k1, hk1, r1⟩ := ih (by omega) k0 hk0
                have hx : ops[i + d]? = some ops[i + d] := by simp
                have viaLe : HpLe (zs (i + d)).hp (zs (i + d + 1)).hp → ∃ k', (zs (i + d + 1)).hp.blocks[bi]? = some k' ∧ ABro k0 k' := fun hle => by
                  obtain ⟨k2, hk2, r2⟩ := hle.b bi k1 hk1
                  exact ⟨k2, hk2, r1.trans r2⟩
                show ∃ k', (zs (i + d + 1)).hp.blocks[bi]? = some k' ∧ ABro k0 k'
                cases he : effAt ops (i + d) with
                | false => exact viaLe ((hs _ _ hx).le he)
                | true =>
                  have hin := h.m2 (i + d) (by omega) he
                  have hne : i < i + d := by
                    rcases Nat.eq_zero_or_pos d with e | e
                    · subst e; exact absurd hin hni
                    · omega
                  obtain ⟨y, hy, hgl, hgs⟩ := fst (i + d) hne (by omega) he
                  have hkept := kept (i + d) y hne (by omega) hy hgs
                  rw [hx] at hy
                  cases hy
                  have hstep := hs _ _ hx
                  generalize zs (i + d + 1) = zn at hstep viaLe ⊢
                  cases hstep with
                  | skip => exact ⟨k1, hk1, r1⟩
                  | run v2 h2' _ _ h3 hk2 =>
                    obtain ⟨b2, g1, g2⟩ := h3
                    cases hie : isEff ops[i + d] (evL (zs (i + d)).lk) with
                    | false => exact viaLe (hk2.le hie)
                    | true =>
                      have hga := (gateSt_some g1).2
                      have hone := List.all_eq_true.1 hga _ hgl
                      simp only [Nat.beq_refl, Bool.not_true, Bool.false_or] at hone
                      unfold gateOne at hone
                      rw [nth?_eq, Array.getElem?_toList, ho, nth?_eq, Array.getElem?_toList, hx] at hone
                      have hxe : effOp ops o = false := by
                        cases he : effOp ops o with
                        | false => rfl
                        | true => rw [eff_noread he] at hro; cases hro
                      simp only [hxe, cond_false, hro] at hone
                      split at hone
                      case h_2 => cases hone
                      rename_i b0 t0 e1 e2
                      cases e1
                      obtain ⟨bt, kt, ht1, ht2⟩ := hk2.target hie e2
                      rw [hkept] at hone
                      unfold apart at hone
                      have hft : heapFree (evL (zs (i + d)).lk t0) = false := by
                        revert ht1
                        cases evL (zs (i + d)).lk t0 <;> simp [blockOf, heapFree]
                      rw [hfree, hft, hbo, ht1] at hone
                      simp only [Bool.false_or, Bool.not_eq_true'] at hone
                      have hneq : bi ≠ bt := fun e => by rw [e, Nat.beq_refl] at hone; cases hone
                      refine ⟨k1, ?_, r1⟩
                      show h2'.blocks[bi]? = some k1
                      rw [ht2]
                      simp only [Hp.setB]
                      rw [setNth_eq, List.getElem?_set, if_neg (fun e => hneq e.symm)]
                      exact hk1
            have := up (m - i) (by omega)
            rwa [show i + (m - i) = m from by omega] at this
        · have hmi : m < i := by omega
          rcases h.m3 with g | ⟨g1, g2⟩
          · omega
          · have hxm : ops[m]? = some ops[m] := by simp
            have hme : effOp ops ops[m] = true := by rw [← eff_at hxm]; exact g1
            obtain ⟨hgl, hgs⟩ := pair_gate hp hxm ho hmi (fun hb => g2 (hbef m hb)) (.inl ⟨hme, hpo, hso⟩)
            have hone := List.all_eq_true.1 hgate _ hgl
            simp only [Nat.beq_refl, Bool.not_true, Bool.false_or] at hone
            unfold gateOne at hone
            rw [nth?_eq, Array.getElem?_toList, hxm, nth?_eq, Array.getElem?_toList, ho] at hone
            simp only [hme, cond_true, hro] at hone
            exact .inl hone
      | none =>
        have hlt : i < m := by
          rcases Nat.lt_or_ge i m with g | g
          · exact g
          · have hmi : m < i := by omega
            rcases h.m3 with g' | ⟨g1, g2⟩
            · omega
            · have hx : ops[m]? = some ops[m] := by simp
              exact absurd (hbef m (pair_eff hp hx ho hmi (.inl ⟨by rw [← eff_at hx]; exact g1, hpo, hso, hro⟩))) g2
        have hm1 := h.m1
        have hnoe : ∀ k, i ≤ k → k < m → effAt ops k = false := fun k h1 h2 => by
          cases he : effAt ops k with
          | false => rfl
          | true =>
            have hin := h.m2 k h2 he
            rcases Nat.eq_or_lt_of_le h1 with e | e
            · subst e; exact absurd hin hni
            · have hx : ops[k]? = some ops[k] := by simp
              exact absurd (pair_eff hp ho hx e (.inr ⟨by rw [← eff_at hx]; exact he, hpo, hso, hro⟩)) (haft k hin)
        have hei : isEff o (evL (zs i).lk) = false := by obtain ⟨bst, q1, q2⟩ := hst; exact q2.resolve_left (by rw [(gateSt_some q1).1, hnoe i (Nat.le_refl _) hlt]; simp)
        have e1 := z_le hs (Nat.le_of_lt hlt) hm1 hnoe
        have e2 := z_le hs (show i + 1 ≤ m from hlt) hm1 (fun k h1 h2 => hnoe k (by omega) h2)
        rw [hz1] at e2
        have hfree : ∀ b, (zs i).hp.blocks.length ≤ b → b < h'.blocks.length → c.O b = none := fun b h1 h2 => by
          cases hO : c.O b with
          | none => rfl
          | some oi =>
            rcases h.dom b oi hO with g | ⟨j, hj, g1, g2⟩
            · have := (z_len hs (Nat.zero_le i) (Nat.le_of_lt hio)).1; omega
            · have hjl := In_lt hj
              rw [h.size] at hjl
              rcases Nat.lt_trichotomy j i with g | g | g
              · have := (z_len hs (show j + 1 ≤ i from g) (Nat.le_of_lt hio)).1; omega
              · subst g; exact absurd hj hni
              · have := (z_len hs (show i + 1 ≤ j from g) (Nat.le_of_lt hjl)).1; rw [hz1] at this; omega
        have hfreeM : ∀ b, (zs i).hp.maps.length ≤ b → b < h'.maps.length → c.N b = none := fun b h1 h2 => by
          cases hO : c.N b with
          | none => rfl
          | some oi =>
            rcases h.domN b oi hO with g | ⟨j, hj, g1, g2⟩
            · have := (z_len hs (Nat.zero_le i) (Nat.le_of_lt hio)).2; omega
            · have hjl := In_lt hj
              rw [h.size] at hjl
              rcases Nat.lt_trichotomy j i with g | g | g
              · have := (z_len hs (show j + 1 ≤ i from g) (Nat.le_of_lt hio)).2; omega
              · subst g; exact absurd hj hni
              · have := (z_len hs (show i + 1 ≤ j from g) (Nat.le_of_lt hjl)).2; rw [hz1] at this; omega
        refine wp_in hnd (kind_ok hT (h.hr.back e1) hbase hρ hk (fun he => by rw [hei] at he; cases he) hfree hfreeM fun u w' c' hout hu => ?_)
        rcases hout with ⟨_, hq⟩ | ⟨g, _⟩
        · obtain ⟨k1, k2⟩ := hq.beside h.hr h.ro hrange hrangeM (.refl _) e2
          exact hK _ _ c' m (h.put hs hp ho hni hbef haft hz2 hu (.inl hslot) hq.yE k1 k2 (hq.ext.low hbase)
            (fun b oi hb => by rw [hz1]; rcases hq.oNew b oi hb with g | g; exact .inl ⟨_, g⟩; exact .inr g) (fun b r hb => by rw [hz1]; rcases hq.nNew b r hb with g | g; exact .inl ⟨_, g⟩; exact .inr g) (pqq hq) (.inl ⟨rfl, him⟩))
        · rw [hei] at g; cases g

include hs hp in
theorem di_any (hT : TOK P T) (hedges : ∀ (j : Nat) y, ops[j]? = some y → ∀ e ∈ y.after, Region.binds .any e = true → e.on < j) {Q : Exit → Act → World → Prop}
    (hQ : ∀ s' a' w' c', zOf s' = zs ops.size → s'.sv = sv0 → SR P F w0 q s' a' w' c' → Q .normal a' w') {s' : St} (hs' : zOf s' = zs ops.size) (hsv : s'.sv = sv0) :
    ∀ (fuel : Nat) (listed : Array Bool) (m : Nat) (a : Act) (w : World) (c : Cx), listed.toList.count false ≤ fuel → DI P ops zs F sv0 w0 q listed m a w c → wpAnyIn (FR F.r) 0 P .any ops Q fuel listed a w := by
  have done : ∀ (listed : Array Bool) (m : Nat) (a : Act) (w : World) (c : Cx), DI P ops zs F sv0 w0 q listed m a w c → Region.ready .any ops listed = [] → Q .normal a w := by
    intro listed m a w c h hr
    have all : ∀ k j, j < k → j < ops.size → In listed j := by
      intro k
      induction k with
      | zero => intro j hj; omega
      | succ k ih =>
        intro j hj hjo
        rcases Nat.lt_or_ge j k with g | g
        · exact ih j g hjo
        · have : j = k := by omega
          subst this
          cases hl : listed.getD j false with
          | true => exact hl
          | false =>
            exfalso
            have hx : ops[j]? = some ops[j] := by simp
            have hjl : j < listed.size := by rw [h.size]; exact hjo
            have : j ∈ Region.ready .any ops listed := mem_ready.2 ⟨by simp [hjl] at hl ⊢; exact hl, _, hx, fun e he hb => ih e.on (hedges j _ hx e he hb) (Nat.lt_trans (hedges j _ hx e he hb) hjo)⟩
            rw [hr] at this
            cases this
    have hm : m = ops.size := by
      rcases h.m3 with g | ⟨_, g⟩
      · exact g
      · have := h.m1
        rcases Nat.lt_or_ge m ops.size with g' | g'
        · exact absurd (all (m + 1) m (by omega) g') g
        · omega
    obtain ⟨r1, r2⟩ := h.range hs hp
    subst hm
    have e1 : s'.hp = (zs ops.size).hp := by rw [← hs']; rfl
    have e2 : look s'.tm = (zs ops.size).lk := by rw [← hs']; rfl
    obtain ⟨j1, j2⟩ := z_keep hs ops.size (Nat.le_refl _)
    refine hQ s' a w c hs' hsv ⟨⟨by rw [e1]; exact h.hr, by rw [e1]; exact h.ro, by rw [e1]; exact r1, by rw [e1]; exact r2, by rw [e1, j2]; exact h.side.hy, h.below, h.pq, by rw [hsv]; exact h.side.sv, h.side.keep, by rw [e1, j1]; exact h.side.rcd⟩, fun t => ?_, h.tsize, h.side.defers⟩
    rw [e2]
    refine h.tm t ops.size (Nat.le_refl _) (fun j hj _ => all (j + 1) j (by omega) hj) (fun j hj hw => ?_)
    obtain ⟨x, hx, _⟩ := hw
    have := (Array.getElem?_eq_some_iff.1 hx).1
    omega
  intro fuel
  induction fuel with
  | zero =>
    intro listed m a w c hc h
    have hr : Region.ready .any ops listed = [] := by
      cases hrr : Region.ready .any ops listed with
      | nil => rfl
      | cons i r =>
        exfalso
        have hi : i ∈ Region.ready .any ops listed := by rw [hrr]; exact .head _
        obtain ⟨hun, o, ho, _⟩ := mem_ready.1 hi
        have hil : i < listed.size := by rw [h.size]; exact (Array.getElem?_eq_some_iff.1 ho).1
        have : false ∈ listed.toList := by
          simp [hil] at hun
          rw [← hun]
          simp
        have := List.count_pos_iff.2 this
        omega
    exact ⟨hr, done listed m a w c h hr⟩
  | succ fuel ih =>
    intro listed m a w c hc h
    refine ⟨done listed m a w c h, fun i hi => di_step hs hp hT h hi fun a' w' c' m' h' => ih _ m' a' w' c' ?_ h'⟩
    obtain ⟨hun, o, ho, _⟩ := mem_ready.1 hi
    have hil : i < listed.size := by rw [h.size]; exact (Array.getElem?_eq_some_iff.1 ho).1
    have hf : listed.toList[i]'(by simpa using hil) = false := by
      simp [hil] at hun
      simpa using hun
    rw [Array.toList_setIfInBounds, List.count_set (by simpa using hil), hf]
    show List.count false listed.toList - 1 + 0 ≤ fuel
    omega
end

/-- Regions that draw are as their text, where the rules take any order. -/
theorem drawn_ok {P : Program} {T : Nat → Option TI} (hT : TOK P T) (hm : P.follows .mixedOrders = true) : DrawnOk P T := by
  intro F E w0 q id ops K Q s a w c gl hS hd hQ h hw
  unfold drawOk at hd
  rw [Bool.and_eq_true] at hd
  have hall := all_pair ops.toList 0 hd.1
  have hp : ∀ (i j : Nat) x y, ops[i]? = some x → ops[j]? = some y → i < j → pairOk gl ops (befores ops.toList []) i j x y = true := fun i j x y hx hy hij => by
    have := (hall j y (by simpa using hy)).1 i x hx (by omega)
    simpa using this
  have hedges : ∀ (j : Nat) y, ops[j]? = some y → ∀ e ∈ y.after, Region.binds .any e = true → e.on < j := fun j y hy e he hb => by
    have := (hall j y (by simpa using hy)).2 e he hb
    simpa using this
  obtain ⟨zs, g1, g2, s', g3, g4, g5⟩ := trace_of hS ops.toList 0 s hw
  have hs : ∀ (k : Nat) o, ops[k]? = some o → Step P T F.n ops (gateSt gl ops k) o (zs k) (zs (k + 1)) := fun k o hk => by
    have := g2 k o (by simpa using hk)
    simpa using this
  have g4' : zOf s' = zs ops.size := by simpa using g4
  have hK : ∀ s2 a' w' c', zOf s2 = zs ops.size → s2.sv = s.sv → SR P F w0 q s2 a' w' c' → Q .normal a' w' := fun s2 a' w' c' hz hsv hsr => by
    have e : zOf s2 = zOf s' := hz.trans g4'.symm
    have e1 : s'.hp = s2.hp := by injection e with _ e; exact e.symm
    have e2 : look s'.tm = look s2.tm := by injection e with e _; exact e.symm
    exact hQ s' a' w' c' ⟨⟨by rw [e1]; exact hsr.hr, by rw [e1]; exact hsr.ro, by rw [e1]; exact hsr.hi, by rw [e1]; exact hsr.hiM, by rw [e1]; exact hsr.hy, hsr.below, hsr.pq, by rw [g5, ← hsv]; exact hsr.sv, hsr.keep, by rw [e1]; exact hsr.rcd⟩, fun t => by rw [e2]; exact hsr.tm t, hsr.size, hsr.defers⟩ g3
  refine wpIn_region_any hm ?_
  have h' := h.drew
  obtain ⟨m, n1, n2, n3, n4⟩ := next_eff (ops := ops) _ 0 rfl (Nat.zero_le _)
  have e0 := z_le hs n1 n2 n3
  have z0 : (zs 0).hp = s.hp := by rw [g1]; rfl
  rw [z0] at e0
  have none : ∀ j, ¬ In (Array.replicate ops.size false) j := fun j hj => by
    have := In_lt hj
    unfold In at hj
    simp at this
    simp [this] at hj
  refine di_any (sv0 := s.sv) hs hp hT hedges hK g4' g5 ops.size _ m a _ c (by simp) ⟨by simp, h'.hr.grow h'.hi h'.hiM e0, h'.ro.grow e0, fun b oi hb => .inl (by rw [z0]; exact h'.hi b oi hb), fun b r hb => .inl (by rw [z0]; exact h'.hiM b r hb), fun t i hi c1 c2 => ?_, h'.size, ⟨by rw [z0]; exact h'.hy, h'.sv, h'.keep, by rw [z0]; exact h'.rcd, h'.defers⟩, h'.below, h'.pq,
    fun i j hj => absurd hj (none j), n2, fun j hj he => (by rw [n3 j (Nat.zero_le _) hj] at he; cases he), n4.imp (fun g => g) fun g => ⟨g, none m⟩⟩
  have : (zs i).lk t = (zs 0).lk t := z_lk hs (Nat.zero_le i) hi fun k _ hk hw => none k (c1 k hk hw)
  rw [this, g1]
  exact h'.tm t
end Go.Tr

/- The contract of a function from its body. Conditions: the program's rules take any order. -/
namespace Go.Tr
open Go Go.RowKit

theorem sound {P : Program} {T : Nat → Option TI} {d : Nat} (hT : TOK P T) (hm : P.follows .mixedOrders = true) {f : FuncId} {fn : Func} {args : List AV} {r : AV} {fr : Bool} (hf : P.funcs[f]? = some fn) (hn : (fn.name == "runtime.NumGoroutine") = false) (hlen : Nat.ble args.length fn.ntmps = true) (hb : Body (envOf P T d) T fn args r fr) : Sound1 P f args r fr :=
  sound_of_body hT (drawn_ok hT hm) hf hn (Nat.le_of_ble_eq_true hlen) hb
end Go.Tr

/- The opening of a law: what an argument reads as, as abstract values, with its shape. Conditions: types of numbers, truth values, strings, slices, structs and arrays. -/
namespace Go.Tr
open Go Go.RowKit

def V2 (P : Program) (w : World) (q : Nat → Prop) : List AV → List Value → Prop
  | [], [] => True
  | x :: xs, v :: vs => (VT P w q x v ∧ v.oneCell' = true) ∧ V2 P w q xs vs
  | _, _ => False

def All2 {α β : Type} (p : α → β → Prop) : List α → List β → Prop
  | [], [] => True
  | x :: xs, y :: ys => p x y ∧ All2 p xs ys
  | _, _ => False

/-- The shape of what a type's cells read as. -/
def TyC (P : Program) : Nat → TypeId → List AV → Prop
  | 0, _, _ => True
  | m + 1, t, xs => match P.underlying t with
    | some .bool => ∃ b, xs = [.val (.bool b)]
    | some (.int k) => ∃ n, xs = [.val (.int k n)] ∧ inK k n
    | some .string => ∃ s : ByteArray, xs = [.val (.string s)] ∧ s.size ≤ 9223372036854775807
    | some (.slice e) => ∃ len f, xs = [.rslice (P.cellsOf e) len f] ∧ len ≤ 9223372036854775807 ∧ ∀ i, i < len → TyC P m e (f i)
    | some (.struct fs) => ∃ ps : List (List AV), xs = ps.flatten ∧ All2 (fun f p => TyC P m f.type p) fs.toList ps
    | some (.array n e) => ∃ ps : List (List AV), xs = ps.flatten ∧ ps.length = n ∧ ∀ p ∈ ps, TyC P m e p
    | _ => False

def layF (P : Program) (g : TypeId → Bool) : List Field → Nat → Nat → Bool
  | [], off, tot => Nat.beq off tot
  | f :: r, off, tot => Nat.beq f.offset off && g f.type && layF P g r (off + P.cellsOf f.type) tot

/-- Types that are covered, laid out part behind part. -/
def lay (P : Program) : Nat → TypeId → Bool
  | 0, _ => false
  | m + 1, t => match P.underlying t with
    | some .bool | some (.int _) | some .string => true
    | some (.slice e) => Nat.blt 0 (P.cellsOf e) && lay P m e
    | some (.struct fs) => layF P (lay P m) fs.toList 0 (P.cellsOf t)
    | some (.array n e) => Nat.beq (P.cellsOf t) (n * P.cellsOf e) && lay P m e
    | _ => false

section
variable {H : Type} {enc : TypeId × Value → H} {P : Program} {w : World} {spare : Nat → Bool} {held : Bool} {q : Nat → Prop}

theorem V2_len : ∀ {xs : List AV} {vs : List Value}, V2 P w q xs vs → xs.length = vs.length
  | [], [], _ => rfl
  | x :: xs, v :: vs, h => by simp [V2_len h.2]
  | [], _ :: _, h => h.elim
  | _ :: _, [], h => h.elim

theorem V2_append : ∀ {xs : List AV} {vs : List Value} {ys : List AV} {us : List Value}, V2 P w q xs vs → V2 P w q ys us → V2 P w q (xs ++ ys) (vs ++ us)
  | [], [], _, _, _, h => h
  | _ :: _, _ :: _, _, _, h, h' => ⟨h.1, V2_append h.2 h'⟩
  | [], _ :: _, _, _, h, _ => h.elim
  | _ :: _, [], _, _, h, _ => h.elim

theorem V2_get : ∀ {xs : List AV} {vs : List Value}, V2 P w q xs vs → ∀ (i : Nat) x, xs[i]? = some x → VT P w q x (vs.getD i undef) ∧ (vs.getD i undef).oneCell' = true
  | [], [], _, i, x, hx => by simp at hx
  | y :: ys, v :: vs, h, 0, x, hx => by
    simp at hx
    subst hx
    simpa using h.1
  | y :: ys, v :: vs, h, i + 1, x, hx => by
    have := V2_get h.2 i x (by simpa using hx)
    simpa using this
  | [], _ :: _, h, _, _, _ => h.elim
  | _ :: _, [], h, _, _, _ => h.elim

theorem mapM_cons_some {α β : Type} {f : α → Option β} {a : α} {l : List α} {r : List β} (h : (a :: l).mapM f = some r) : ∃ b bs, f a = some b ∧ l.mapM f = some bs ∧ r = b :: bs := by
  rw [List.mapM_cons] at h
  cases ha : f a with
  | none => simp [ha] at h
  | some b =>
    cases hl : l.mapM f with
    | none => simp [ha, hl] at h
    | some bs => simp [ha, hl] at h; exact ⟨b, bs, rfl, rfl, h.symm⟩

theorem mapM_get {α β : Type} {f : α → Option β} : ∀ {l : List α} {r : List β}, l.mapM f = some r → r.length = l.length ∧ ∀ (i : Nat) x, l[i]? = some x → ∃ y, f x = some y ∧ r[i]? = some y
  | [], r, h => by simp at h; subst h; exact ⟨rfl, fun i x hx => by simp at hx⟩
  | a :: l, r, h => by
    obtain ⟨b, bs, h1, h2, rfl⟩ := mapM_cons_some h
    obtain ⟨g1, g2⟩ := mapM_get h2
    refine ⟨by simp [g1], fun i x hx => ?_⟩
    cases i with
    | zero => simp at hx; subst hx; exact ⟨b, h1, rfl⟩
    | succ i => simpa using g2 i x (by simpa using hx)

theorem cells_some {a : Addr} {n : Nat} {cs : List Value} (h : w.cells? 0 a n = some cs) : cs.length = n ∧ ∀ j, j < n → w.cell? (a.add j) = some (cs.getD j undef) := by
  unfold World.cells? at h
  rw [if_pos (Nat.zero_le _)] at h
  obtain ⟨h1, h2⟩ := mapM_get h
  refine ⟨by simpa using h1, fun j hj => ?_⟩
  obtain ⟨y, h3, h4⟩ := h2 j j (by simp [hj])
  rw [h3, List.getD_eq_getElem?_getD, h4]
  rfl

theorem cell_spot {a : Addr} {v : Value} (h : w.cell? a = some v) : a.spot = none ∧ a.block < w.heap.size := by
  unfold World.cell? at h
  split at h
  · rename_i c t fr hb
    refine ⟨?_, ?_⟩
    · cases hs : a.spot with
      | none => rfl
      | some s => simp [hs] at h
    · exact (Array.getElem?_eq_some_iff.1 hb).1
  · cases h

theorem addr_add2 (blk off u j : Nat) : ((⟨blk, off, none⟩ : Addr).add u).add j = ⟨blk, off + (u + j), none⟩ := by
  unfold Addr.add
  by_cases h1 : u = 0
  · subst h1
    by_cases h2 : j = 0
    · subst h2; rfl
    · simp [h2]
  · by_cases h2 : j = 0
    · subst h2; simp [h1]
    · simp [h1, h2, Nat.add_assoc]

theorem fields_av {g : TypeId → List Value → Option (DataW H × List MemPlace)} {T : TypeId → List AV → Prop} {ly : TypeId → Bool}
    (ih : ∀ t, ly t = true → ∀ cs x, g t cs = some x → ∃ xs, V2 P w q xs cs ∧ T t xs) (cs : List Value) : ∀ (fs : List Field) (off : Nat) (r : List (DataW H × List MemPlace)), layF P ly fs off cs.length = true →
    (fs.mapM fun f => g f.type ((cs.drop f.offset).take (P.cellsOf f.type))) = some r → ∃ ps : List (List AV), V2 P w q ps.flatten (cs.drop off) ∧ All2 (fun f p => T f.type p) fs ps
  | [], off, r, hl, h => by
    have := Nat.eq_of_beq_eq_true hl
    subst this
    exact ⟨[], by simp [V2], trivial⟩
  | f :: fs, off, r, hl, h => by
    simp only [layF, Bool.and_eq_true] at hl
    obtain ⟨⟨h1, h2⟩, h3⟩ := hl
    have e := Nat.eq_of_beq_eq_true h1
    obtain ⟨b, bs, g1, g2, rfl⟩ := mapM_cons_some h
    obtain ⟨p, p1, p2⟩ := ih _ h2 _ _ g1
    obtain ⟨ps, r1, r2⟩ := fields_av ih cs fs _ _ h3 g2
    refine ⟨p :: ps, ?_, p2, r2⟩
    rw [List.flatten_cons]
    have : cs.drop off = (cs.drop f.offset).take (P.cellsOf f.type) ++ cs.drop (off + P.cellsOf f.type) := by
      rw [e, ← List.drop_drop]
      exact (List.take_append_drop _ _).symm
    rw [this]
    exact V2_append p1 r1

theorem items_av {g : List Value → Option (DataW H × List MemPlace)} {T : List AV → Prop} (ih : ∀ cs x, g cs = some x → ∃ xs, V2 P w q xs cs ∧ T xs) (cs : List Value) (s n : Nat) (hn : cs.length = n * s)
    (h : ∀ i, i < n → ∃ x, g ((cs.drop (i * s)).take s) = some x) : ∀ (k i : Nat), i + k = n → ∃ ps : List (List AV), V2 P w q ps.flatten (cs.drop (i * s)) ∧ ps.length = k ∧ ∀ p ∈ ps, T p
  | 0, i, hi => by
    have : i = n := by omega
    subst this
    refine ⟨[], ?_, rfl, nofun⟩
    rw [List.drop_eq_nil_of_le (by omega)]
    exact trivial
  | k + 1, i, hi => by
    obtain ⟨x, hx⟩ := h i (by omega)
    obtain ⟨p, p1, p2⟩ := ih _ _ hx
    obtain ⟨ps, r1, r2, r3⟩ := items_av ih cs s n hn h k (i + 1) (by omega)
    refine ⟨p :: ps, ?_, by simp [r2], fun y hy => ?_⟩
    · rw [List.flatten_cons]
      have : cs.drop (i * s) = (cs.drop (i * s)).take s ++ cs.drop ((i + 1) * s) := by
        rw [Nat.succ_mul, ← List.drop_drop]
        exact (List.take_append_drop _ _).symm
      rw [this]
      exact V2_append p1 r1
    · rcases List.mem_cons.1 hy with rfl | hy
      · exact p2
      · exact r3 y hy

theorem trod_av (hq : ∀ b, b < w.heap.size → q b) : ∀ (m : Nat) (t : TypeId), lay P m t = true → ∀ (fuel : Nat) (cs : List Value) (x : DataW H × List MemPlace), DataW.trod enc P w 0 spare held fuel t cs = some x → ∃ xs, V2 P w q xs cs ∧ TyC P m t xs
  | 0, t, hl, _, _, _, _ => by simp [lay] at hl
  | m + 1, t, hl, 0, cs, x, h => by simp [DataW.trod] at h
  | m + 1, t, hl, fuel + 1, cs, x, h => by
    unfold lay at hl
    unfold TyC
    unfold DataW.trod at h
    cases hu : P.underlying t with
    | none => simp [hu] at hl
    | some d =>
      simp only [hu] at hl h ⊢
      cases d with
      | bool =>
        split at h <;> first | (cases h; done) | (rename_i e; cases e; done) | skip
        cases h
        exact ⟨[.val (.bool _)], ⟨⟨.val _, rfl⟩, trivial⟩, _, rfl⟩
      | int k =>
        split at h <;> first | (cases h; done) | (rename_i e; cases e; done) | skip
        rename_i e
        cases e
        split at h
        · rename_i hk
          obtain ⟨rfl, hw⟩ := hk
          simp only [Lit.wf, Bool.and_eq_true, decide_eq_true_eq] at hw
          exact ⟨[.val (.int _ _)], ⟨⟨.val _, rfl⟩, trivial⟩, _, rfl, hw⟩
        · cases h
      | string =>
        split at h <;> first | (cases h; done) | (rename_i e; cases e; done) | skip
        split at h
        · rename_i hs
          exact ⟨[.val (.string _)], ⟨⟨.val _, rfl⟩, trivial⟩, _, rfl, hs⟩
        · cases h
      | slice e =>
        simp only [Bool.and_eq_true] at hl
        split at h <;> first | (cases h; done) | (rename_i e; cases e; done) | skip
        · exact ⟨[.rslice (P.cellsOf e) 0 fun _ => []], ⟨⟨.rslice0 _ _ _ _, rfl⟩, trivial⟩, _, _, rfl, by omega, fun i hi => absurd hi (Nat.not_lt_zero i)⟩
        · rename_i e0 a len cap e1
          cases e1
          split at h
          case isFalse => cases h
          rename_i hb
          have hes : 0 < P.cellsOf e := Nat.le_of_ble_eq_true hl.1
          cases hM : (List.range len).mapM fun i => (w.cells? 0 (a.add (i * P.cellsOf e)) (P.cellsOf e)).bind (DataW.trod enc P w 0 spare held fuel e) with
          | none => rw [hM] at h; cases h
          | some elems =>
            obtain ⟨_, g2⟩ := mapM_get hM
            have hx : ∀ i, ∃ xs : List AV, i < len → ∃ cs, (cs.length = P.cellsOf e ∧ ∀ j, j < P.cellsOf e → w.cell? ((a.add (i * P.cellsOf e)).add j) = some (cs.getD j undef)) ∧ V2 P w q xs cs ∧ TyC P m e xs := fun i => by
              by_cases hi : i < len
              · obtain ⟨y, y1, _⟩ := g2 i i (by simp [hi])
                cases hc : w.cells? 0 (a.add (i * P.cellsOf e)) (P.cellsOf e) with
                | none => rw [hc] at y1; cases y1
                | some cs1 =>
                  rw [hc] at y1
                  obtain ⟨xs, x1, x2⟩ := trod_av hq m e hl.2 _ _ _ y1
                  exact ⟨xs, fun _ => ⟨cs1, cells_some hc, x1, x2⟩⟩
              · exact ⟨[], fun h => absurd h hi⟩
            have hf := fun i => (Classical.choose_spec (hx i))
            generalize hF : (fun i => Classical.choose (hx i)) = F
            have hf : ∀ i, i < len → ∃ cs, (cs.length = P.cellsOf e ∧ ∀ j, j < P.cellsOf e → w.cell? ((a.add (i * P.cellsOf e)).add j) = some (cs.getD j undef)) ∧ V2 P w q (F i) cs ∧ TyC P m e (F i) := fun i hi => by
              have := Classical.choose_spec (hx i) hi
              rw [← hF]
              exact this
            refine ⟨[.rslice (P.cellsOf e) len F], ⟨⟨?_, rfl⟩, trivial⟩, len, F, rfl, ?_, fun i hi => ?_⟩
            · rcases Nat.eq_zero_or_pos len with rfl | hp
              · exact .rslice0 _ _ _ _
              · obtain ⟨cs0, c1, _, _⟩ := hf 0 hp
                have hc0 := c1.2 0 hes
                have e0 : ((a.add (0 * P.cellsOf e)).add 0) = a := by simp [Addr.add]
                rw [e0] at hc0
                obtain ⟨s1, s2⟩ := cell_spot hc0
                obtain ⟨blk, off, spot⟩ := a
                simp only at s1 s2
                subst s1
                have hG : ∀ i, ∃ cs : List Value, i < len → (cs.length = P.cellsOf e ∧ ∀ j, j < P.cellsOf e → w.cell? (((⟨blk, off, none⟩ : Addr).add (i * P.cellsOf e)).add j) = some (cs.getD j undef)) ∧ V2 P w q (F i) cs := fun i => by
                  by_cases hi : i < len
                  · obtain ⟨cs, c1, c2, _⟩ := hf i hi
                    exact ⟨cs, fun _ => ⟨c1, c2⟩⟩
                  · exact ⟨[], fun h => absurd h hi⟩
                refine .rslice _ _ _ blk off cap (fun i j => (Classical.choose (hG i)).getD j undef) hb.2.1 (hq _ s2) (fun i hi => ?_) (fun i j hi hj => ?_) (fun i j x hi hx => ?_)
                · obtain ⟨c1, c2⟩ := Classical.choose_spec (hG i) hi
                  rw [V2_len c2, c1.1]
                · obtain ⟨c1, c2⟩ := Classical.choose_spec (hG i) hi
                  have hc := c1.2 j hj
                  have ea : ((⟨blk, off, none⟩ : Addr).add (i * P.cellsOf e)).add j = ⟨blk, off + (i * P.cellsOf e + j), none⟩ := by
                    exact addr_add2 blk off _ j
                  rw [ea] at hc
                  refine ⟨hc, ?_⟩
                  have hlt : j < (F i).length := by rw [V2_len c2, c1.1]; exact hj
                  exact (V2_get c2 j _ (List.getElem?_eq_getElem hlt)).2
                · obtain ⟨c1, c2⟩ := Classical.choose_spec (hG i) hi
                  exact (V2_get c2 j x hx).1
            · have := hb.2.2
              unfold maxLen at this
              omega
            · obtain ⟨_, _, _, h3⟩ := hf i hi
              exact h3
      | struct fs =>
        replace h : (if cs.length = P.cellsOf t then (fs.toList.mapM fun f => DataW.trod enc P w 0 spare held fuel f.type ((cs.drop f.offset).take (P.cellsOf f.type))).map fun xs => (.agg (xs.map (·.1)), xs.flatMap (·.2)) else none) = some x := h
        split at h
        case isFalse => cases h
        rename_i hc
        cases hM : fs.toList.mapM fun f => DataW.trod enc P w 0 spare held fuel f.type ((cs.drop f.offset).take (P.cellsOf f.type)) with
        | none => rw [hM] at h; cases h
        | some r =>
          obtain ⟨ps, p1, p2⟩ := fields_av (T := TyC P m) (ly := lay P m) (fun t ht cs x hx => trod_av hq m t ht fuel cs x hx) cs fs.toList 0 r (by rw [hc]; exact hl) hM
          exact ⟨ps.flatten, by simpa using p1, ps, rfl, p2⟩
      | array n e =>
        simp only [Bool.and_eq_true] at hl
        replace h : (if cs.length = P.cellsOf t then ((List.range n).mapM fun i => DataW.trod enc P w 0 spare held fuel e ((cs.drop (i * P.cellsOf e)).take (P.cellsOf e))).map fun xs => (.agg (xs.map (·.1)), xs.flatMap (·.2)) else none) = some x := h
        split at h
        case isFalse => cases h
        rename_i hc
        cases hM : (List.range n).mapM fun i => DataW.trod enc P w 0 spare held fuel e ((cs.drop (i * P.cellsOf e)).take (P.cellsOf e)) with
        | none => rw [hM] at h; cases h
        | some r =>
          obtain ⟨_, g2⟩ := mapM_get hM
          obtain ⟨ps, p1, p2, p3⟩ := items_av (T := TyC P m e) (fun cs x hx => trod_av hq m e hl.2 fuel cs x hx) cs (P.cellsOf e) n (by rw [hc]; exact Nat.eq_of_beq_eq_true hl.1)
            (fun i hi => by obtain ⟨y, y1, _⟩ := g2 i i (by simp [hi]); exact ⟨y, y1⟩) n 0 (by omega)
          exact ⟨ps.flatten, by simpa using p1, ps, rfl, p2, p3⟩
      | _ => simp at hl

/-- The shape of an argument. -/
def TyA (P : Program) (m : Nat) (t : TypeId) (x : AV) : Prop :=
  match P.underlying t with
  | some (.struct _) | some (.array _ _) => ∃ xs, x = .agg xs ∧ TyC P m t xs
  | _ => TyC P m t [x]

/-- An argument of a law, as an abstract value. -/
theorem open_av {r : Reach} {b0 : Nat} {t : TypeId} {v : Value} {d : DataW H} {ps : List MemPlace} {m : Nat} (hl : lay P m t = true) (hq : ∀ b, b < w.heap.size → q b)
    (hv : Value.okWide P w r b0 t v) (hd : DataW.Trod enc P w 0 spare held t v d ps) : ∃ x, VT P w q x v ∧ TyA P m t x := by
  obtain ⟨fuel, hf⟩ := hd
  obtain ⟨xs, h1, h2⟩ := trod_av hq m t hl fuel _ _ hf
  have agg : ∀ cs, v = .agg cs → VT P w q (.agg xs) v := by
    rintro cs rfl
    have hlen := V2_len h1
    refine .agg xs cs (by rw [hlen]; simp [Value.cells]) (fun u hu => ?_) (fun i x hx => ?_)
    · obtain ⟨i, hi, rfl⟩ := List.getElem_of_mem hu
      have hx : i < xs.length := by rw [hlen]; simpa [Value.cells] using hi
      have := (V2_get h1 i _ (List.getElem?_eq_getElem hx)).2
      have hi' : i < cs.size := by simpa using hi
      simpa [Value.cells, List.getD_eq_getElem?_getD, hi'] using this
    · have := (V2_get h1 i x hx).1
      simpa [Value.cells, List.getD_eq_getElem?_getD, Array.getD_eq_getD_getElem?] using this
  have one : ∀ u, v.cells.toList = [u] → v = u → ∃ x, VT P w q x v ∧ TyC P m t [x] := by
    rintro u e rfl
    rw [e] at h1
    match xs, h1, h2 with
    | [x], h1, h2 => exact ⟨x, h1.1.1, h2⟩
  unfold TyA
  unfold Value.okWide at hv
  split
  · rename_i fs hu
    simp only [hu] at hv
    obtain ⟨cs, e, _, _⟩ := hv
    exact ⟨_, agg cs e, xs, rfl, h2⟩
  · rename_i n e hu
    simp only [hu] at hv
    obtain ⟨cs, e, _, _⟩ := hv
    exact ⟨_, agg cs e, xs, rfl, h2⟩
  · rename_i n1 n2
    have hc : Cell.okWide P w r b0 t v := by
      split at hv
      · rename_i hu; exact absurd hu (n1 _)
      · rename_i hu; exact absurd hu (n2 _ _)
      · exact hv
    cases v with
    | agg cs =>
      simp only [Cell.okWide] at hc
      split at hc <;> first | (rename_i e _; cases e; done) | (rename_i e; cases e; done) | (simp [Cell.ok] at hc)
    | tuple cs =>
      simp only [Cell.okWide] at hc
      split at hc <;> first | (rename_i e _; cases e; done) | (rename_i e; cases e; done) | (simp [Cell.ok] at hc)
    | _ => exact one _ rfl rfl
end
end Go.Tr

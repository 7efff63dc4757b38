/- What an operation does to the abstract heap; an operation carried out beside others. Conditions: none. -/
import Derived.Test.YtkomdfgffgkphaaTrX
namespace Go.Tr
open Go Go.RowKit

/-- What an operand is, by a look-up. -/
def evL (lk : Tmp → AV) : Operand → AV
  | .tmp t => lk t
  | .const v => constAV v
  | .func f => .func (.func f) 0 []
  | .global _ => .top

theorem eval_evL (s : St) : s.eval = evL (look s.tm) := by
  funext x; cases x <;> rfl

theorem addB_le (h : Hp) (k : AB) : HpLe h (h.addB k) :=
  ⟨fun i x hx => ⟨x, by simp only [Hp.addB]; rw [List.getElem?_append_left (List.getElem?_eq_some_iff.1 hx).1]; exact hx, .refl _⟩, fun i x hx => ⟨x, hx, .refl _⟩⟩
theorem addM_le (h : Hp) (k : AM) : HpLe h { h with maps := h.maps ++ [k] } :=
  ⟨fun i x hx => ⟨x, hx, .refl _⟩, fun i x hx => ⟨x, by show (h.maps ++ [k])[i]? = _; rw [List.getElem?_append_left (List.getElem?_eq_some_iff.1 hx).1]; exact hx, .refl _⟩⟩
theorem addBs_le (h : Hp) (ks : List AB) : HpLe h { h with blocks := h.blocks ++ ks } :=
  ⟨fun i x hx => ⟨x, by show (h.blocks ++ ks)[i]? = _; rw [List.getElem?_append_left (List.getElem?_eq_some_iff.1 hx).1]; exact hx, .refl _⟩, fun i x hx => ⟨x, hx, .refl _⟩⟩
theorem ro_le (h : Hp) (bs ms : List Nat) : HpLe h (roHp h bs ms) := by
  refine ⟨fun i k hk => ?_, fun i k hk => ?_⟩
  · refine ⟨_, by simp only [roHp]; rw [roB_get, hk]; rfl, ?_⟩
    cases hasNat bs (0 + i) with
    | true => exact .inr rfl
    | false => exact .inl rfl
  · refine ⟨_, by simp only [roHp]; rw [roM_get, hk]; rfl, ?_⟩
    cases hasNat ms (0 + i) with
    | true => exact .inr rfl
    | false => exact .inl rfl

/-- The heap behind an operation. -/
def HpStep (o : Oper) (ρ : Operand → AV) (h h' : Hp) : Prop :=
  h' = h ∨ (∃ k, h' = h.addB k) ∨ (∃ k, h' = { h with maps := h.maps ++ [k] }) ∨ (isEff o ρ = true ∧ ((∃ b k, h' = h.setB b k) ∨ ∃ b k, h' = { h with maps := setNth h.maps b k }))

theorem binEv_h {op : BinOp} {d : Option TI} {x y : AV} {h h' : Hp} {v : AV} (hev : (binEv op d x y h).gives v h') : h' = h ∧ ∀ h2, (binEv op d x y h2).gives v h2 := by
  unfold binEv at hev ⊢
  repeat' split at hev
  all_goals first
    | exact aggEv_h hev
    | (simp only [Res.gives] at hev <;> first | exact hev.elim | (refine ⟨hev.2.symm, fun h2 => ?_⟩; simp_all [Res.gives]; done) | (refine ⟨hev.2.2.symm, fun h2 => ?_⟩; simp_all [Res.gives]; done))

theorem nilEv_h {op : BinOp} {d : Option TI} {x : AV} {h h' : Hp} {v : AV} (hev : (nilEv op d x h).gives v h') : h' = h ∧ ∀ h2, (nilEv op d x h2).gives v h2 := by
  unfold nilEv at hev ⊢
  repeat' split at hev
  all_goals simp only [Res.gives] at hev ⊢
  all_goals first
    | exact hev.elim
    | exact ⟨hev.2.2.symm, fun h2 => ⟨hev.1, hev.2.1, trivial⟩⟩

theorem hpStep {T : Nat → Option TI} {o : Oper} {ρ : Operand → AV} {h h' : Hp} {v : AV} (hev : (opEv T o ρ h).gives v h') : HpStep o ρ h h' := by
  unfold opEv at hev
  split at hev
  all_goals try simp only [Bool.cond_eq_ite] at hev
  all_goals (repeat' split at hev)
  all_goals first | exact .inl (binEv_h hev).1 | exact .inl (nilEv_h hev).1 | simp only [Res.gives] at hev
  all_goals first
    | exact hev.elim
    | exact .inl hev.2.symm
    | exact .inl hev.2.2.symm
    | exact .inr (.inl ⟨_, hev.2.symm⟩)
    | exact .inr (.inl ⟨_, hev.2.2.symm⟩)
    | exact .inr (.inr (.inl ⟨_, hev.2.symm⟩))
    | exact .inr (.inr (.inr ⟨by unfold isEff; simp only [*], .inl ⟨_, _, hev.2.symm⟩⟩))
    | exact .inr (.inr (.inr ⟨by unfold isEff; simp only [*], .inr ⟨_, _, hev.2.symm⟩⟩))
    | exact .inr (.inr (.inr ⟨by unfold isEff; simp only [*], .inl ⟨_, _, hev.2.2.symm⟩⟩))

theorem pure_any {T : Nat → Option TI} {o : Oper} {ρ : Operand → AV} {h h' : Hp} {v : AV} (hp : pureOp o = true) (hev : (opEv T o ρ h).gives v h') : h' = h ∧ ∀ h2, (opEv T o ρ h2).gives v h2 := by
  unfold pureOp at hp
  unfold opEv at hev ⊢
  split at hp
  case h_12 => cases hp
  all_goals rename_i hop
  all_goals simp only [hop] at hev ⊢
  all_goals try simp only [Bool.cond_eq_ite] at hev ⊢
  case h_5 =>
    split at hev
    · rename_i hc; exact nilEv_h hev
    · rename_i hc; exact binEv_h hev
  all_goals (repeat' split at hev)
  all_goals simp only [Res.gives] at hev
  all_goals first
    | exact hev.elim
    | (refine ⟨hev.2.symm, fun h2 => ?_⟩; simp_all [Res.gives]; done)
    | (refine ⟨hev.2.2.symm, fun h2 => ?_⟩; simp_all [Res.gives]; done)
    | (obtain ⟨g1, g2, g3⟩ := hev; refine ⟨g3.symm, fun h2 => ?_⟩; simp only [*, Res.gives, and_self]; done)
    | (obtain ⟨g1, g2, g3⟩ := hev; subst g2; refine ⟨g3.symm, fun h2 => ?_⟩; simp only [*, Res.gives, and_self])


/-- The second heap has the blocks of the first one, of the same shape. -/
def ShapeLe (h H : Hp) : Prop := ∀ (b : Nat) k, h.blocks[b]? = some k → ∃ k', H.blocks[b]? = some k' ∧ k'.es = k.es ∧ k'.ver = k.ver
theorem ShapeLe.refl (h : Hp) : ShapeLe h h := fun _ k hk => ⟨k, hk, rfl, rfl⟩
theorem ShapeLe.trans {a b c : Hp} (h : ShapeLe a b) (k : ShapeLe b c) : ShapeLe a c := fun i x hx => by
  obtain ⟨y, hy, e1, e2⟩ := h i x hx
  obtain ⟨z, hz, e3, e4⟩ := k i y hy
  exact ⟨z, hz, e3.trans e1, e4.trans e2⟩
theorem HpLe.shape {a b : Hp} (h : HpLe a b) : ShapeLe a b := fun i x hx => by
  obtain ⟨y, hy, e⟩ := h.b i x hx
  exact ⟨y, hy, by rcases e with rfl | rfl <;> exact ⟨rfl, rfl⟩⟩

theorem ShapeLe.block {h H : Hp} (e : ShapeLe h H) {b ver : Nat} {k : AB} (hk : h.block b ver = some k) : ∃ k', H.block b ver = some k' ∧ k'.es = k.es := by
  obtain ⟨hb, hv⟩ := block_some hk
  obtain ⟨k', g1, g2, g3⟩ := e b k hb
  refine ⟨k', ?_, g2⟩
  unfold Hp.block
  rw [nth?_eq, g1]
  simp [g3, hv]

theorem soft_any {T : Nat → Option TI} {o : Oper} {ρ : Operand → AV} {h h' : Hp} {v : AV} (hp : softOp o = true) (hev : (opEv T o ρ h).gives v h') : h' = h ∧ ∀ H, ShapeLe h H → (opEv T o ρ H).gives v H := by
  unfold softOp at hp
  unfold opEv at hev ⊢
  split at hp
  case h_3 => cases hp
  all_goals rename_i hop
  all_goals simp only [hop] at hev ⊢
  all_goals try simp only [Bool.cond_eq_ite] at hev ⊢
  all_goals (repeat' split at hev)
  all_goals simp only [Res.gives] at hev
  all_goals first
    | exact hev.elim
    | (refine ⟨hev.2.symm, fun H e => ?_⟩; simp_all [Res.gives]; done)
    | (refine ⟨hev.2.2.symm, fun H e => ?_⟩; simp_all [Res.gives]; done)
    | (rename_i hb _; refine ⟨hev.2.symm, fun H e => ?_⟩; obtain ⟨k', g1, g2⟩ := e.block hb; simp_all [Res.gives]; done)
    | (rename_i hb; refine ⟨hev.2.symm, fun H e => ?_⟩; obtain ⟨k', g1, g2⟩ := e.block hb; simp_all [Res.gives]; done)
    | (rename_i hb _; refine ⟨hev.2.2.symm, fun H e => ?_⟩; obtain ⟨k', g1, g2⟩ := e.block hb; simp_all [Res.gives]; done)
    | (rename_i hb; refine ⟨hev.2.2.symm, fun H e => ?_⟩; obtain ⟨k', g1, g2⟩ := e.block hb; simp_all [Res.gives]; done)

theorem setB_shape {h : Hp} {b : Nat} {k k' : AB} (hb : h.blocks[b]? = some k) (h1 : k'.es = k.es) (h2 : k'.ver = k.ver) : ShapeLe h (h.setB b k') ∧ ShapeLe (h.setB b k') h := by
  refine ⟨fun i x hx => ?_, fun i x hx => ?_⟩
  · by_cases hi : i = b
    · subst hi
      rw [hb] at hx
      cases hx
      exact ⟨k', by simp only [Hp.setB]; rw [setNth_eq, List.getElem?_set]; simp [(List.getElem?_eq_some_iff.1 hb).1], h1, h2⟩
    · exact ⟨x, by simp only [Hp.setB]; rw [setNth_eq, List.getElem?_set, if_neg (fun e => hi e.symm)]; exact hx, rfl, rfl⟩
  · simp only [Hp.setB] at hx
    rcases set_get hx with ⟨rfl, rfl⟩ | ⟨_, g⟩
    · exact ⟨k, hb, h1.symm, h2.symm⟩
    · exact ⟨x, g, rfl, rfl⟩

theorem store_shape {T : Nat → Option TI} {o : Oper} {ρ : Operand → AV} {h h' : Hp} {v : AV} (hp : storeOp o = true) (hev : (opEv T o ρ h).gives v h') : ShapeLe h h' ∧ ShapeLe h' h := by
  unfold storeOp at hp
  unfold opEv at hev
  split at hp
  case h_2 => cases hp
  rename_i hop
  simp only [hop] at hev
  simp only [Bool.cond_eq_ite] at hev
  repeat' split at hev
  all_goals simp only [Res.gives] at hev
  all_goals first
    | exact hev.elim
    | (rename_i hb _ _ _; have g1 := (block_some hb).1; have e := hev.2; subst e; exact setB_shape g1 rfl rfl)

/-- What a reading operation reads is the same in both heaps. -/
def SameAt (x : AV) (h H : Hp) : Prop := heapFree x = true ∨ ∃ i, blockOf x = some i ∧ ∀ k, h.blocks[i]? = some k → ∃ k', H.blocks[i]? = some k' ∧ ABro k k'
theorem SameAt.block {b ver idx sub : Nat} {h H : Hp} (e : SameAt (.optr b ver idx sub) h H) {k : AB} (hk : h.block b ver = some k) : ∃ k', H.block b ver = some k' ∧ ABro k k' := by
  rcases e with e | ⟨i, e1, e2⟩
  · cases e
  · cases e1
    obtain ⟨hb, hv⟩ := block_some hk
    obtain ⟨k', g1, g2⟩ := e2 k hb
    refine ⟨k', ?_, g2⟩
    unfold Hp.block
    rw [nth?_eq, g1]
    rcases g2 with rfl | rfl <;> simp [hv]
theorem SameAt.slice {b ver off len : Nat} {cap : Option Nat} {h H : Hp} (e : SameAt (.oslice b ver off len cap) h H) {k : AB} (hk : h.block b ver = some k) : ∃ k', H.block b ver = some k' ∧ ABro k k' :=
  SameAt.block (idx := 0) (sub := 0) (by rcases e with e | e; cases e; exact .inr e) hk

theorem read_any {T : Nat → Option TI} {o : Oper} {ρ : Operand → AV} {h h' : Hp} {v : AV} {b : Operand} (hp : readBase o = some b) (hev : (opEv T o ρ h).gives v h') : h' = h ∧ ∀ H, SameAt (ρ b) h H → (opEv T o ρ H).gives v H := by
  unfold readBase at hp
  unfold opEv at hev ⊢
  split at hp
  case h_3 => cases hp
  · rename_i t a hop
    cases hp
    simp only [hop] at hev ⊢
    split at hev
    · rename_i ti ht
      split at hev
      · rename_i b ver idx sub hx
        split at hev
        · rename_i k hk
          split at hev
          · rename_i u hu
            obtain ⟨e1, e2⟩ := hev
            subst e1
            refine ⟨e2.symm, fun H e => ?_⟩
            rw [hx] at e
            obtain ⟨k', g1, g2⟩ := SameAt.block e hk
            have hf : k'.f = k.f := by rcases g2 with rfl | rfl <;> rfl
            simp only [g1, hf, hu]
            exact ⟨rfl, rfl⟩
          · exact hev.elim
        · exact hev.elim
      · rename_i l hx
        split at hev
        · rename_i u hu
          obtain ⟨e1, e2⟩ := hev
          subst e1
          exact ⟨e2.symm, fun H e => ⟨rfl, rfl⟩⟩
        · exact hev.elim
      · exact hev.elim
    · exact hev.elim
  · rename_i t x lo hi hop
    cases hp
    · simp only [hop] at hev ⊢
      split at hev
      · rename_i e _ _ _ _ ht
        split at hev
        · rename_i ei he
          split at hev
          · rename_i es len f hx
            split at hev
            · rename_i l r hl hr
              cases hb : Nat.beq es ei.size with
              | false => rw [hb] at hev; exact hev.elim
              | true =>
                rw [hb] at hev
                obtain ⟨e0, e1, e2⟩ := hev
                subst e1
                exact ⟨e2.symm, fun H e => by simp only [cond_true]; exact ⟨e0, rfl, rfl⟩⟩
            · exact hev.elim
          · rename_i b ver off len cap hx
            split at hev
            · rename_i k l r hk hl hr
              cases hb : Nat.beq k.es ei.size with
              | false => rw [hb] at hev; exact hev.elim
              | true =>
                rw [hb] at hev
                obtain ⟨e0, e1, e2⟩ := hev
                subst e1
                refine ⟨e2.symm, fun H e => ?_⟩
                rw [hx] at e
                obtain ⟨k', g1, g2⟩ := SameAt.slice e hk
                have hf : k'.es = k.es := by rcases g2 with rfl | rfl <;> rfl
                simp only [g1, hl, hr, hf, hb, cond_true]
                exact ⟨e0, rfl, rfl⟩
            · exact hev.elim
          · exact hev.elim
        · exact hev.elim
      · rename_i ht
        split at hev
        · rename_i s hx
          split at hev
          · rename_i l r hl hr
            obtain ⟨e0, e1, e2⟩ := hev
            subst e1
            exact ⟨e2.symm, fun H e => ⟨e0, rfl, rfl⟩⟩
          · exact hev.elim
        · exact hev.elim
      · exact hev.elim

/-- An operation that is carried out, what it gives. -/
inductive Kind (P : Program) (T : Nat → Option TI) (o : Oper) (ρ : Operand → AV) (h : Hp) : AV → Hp → Prop
  | op (v : AV) (h' : Hp) : (opEv T o ρ h).gives v h' → Kind P T o ρ h v h'
  | own (g : FuncId) (as : List AV) (bs ms : List Nat) (f : Operand) (args : Array Operand) (ts : Array TypeId) (r : AV) : opEv T o ρ h = .call g as bs ms → o.op = .call { callee := .value f, args, argTypes := ts } → Sound1 P g as r true →
      Kind P T o ρ h (adopt r h.blocks.length).1 { h with blocks := h.blocks ++ (adopt r h.blocks.length).2 }
  | shared (g : FuncId) (as : List AV) (bs ms : List Nat) (f : Operand) (args : Array Operand) (ts : Array TypeId) (r : AV) : opEv T o ρ h = .call g as bs ms → o.op = .call { callee := .value f, args, argTypes := ts } → Sound1 P g as r false →
      Kind P T o ρ h r (roHp h bs ms)

section
variable {P : Program} {T : Nat → Option TI} {w w' : World} {c c' : Cx} {base : Nat} {hp hp' : Hp}

theorem call_quiet {o : Oper} {f : Operand} {args : Array Operand} {ts : Array TypeId} (hop : o.op = .call { callee := .value f, args, argTypes := ts }) (ρ : Operand → AV) : isEff o ρ = false := by
  unfold isEff; rw [hop]

theorem Kind.le {o : Oper} {ρ : Operand → AV} {v : AV} (h : Kind P T o ρ hp v hp') (he : isEff o ρ = false) : HpLe hp hp' := by
  cases h with
  | op v h' hev =>
    rcases hpStep hev with rfl | ⟨k, rfl⟩ | ⟨k, rfl⟩ | ⟨g, _⟩
    · exact .refl _
    · exact addB_le _ _
    · exact addM_le _ _
    · rw [he] at g; cases g
  | own g as bs ms f args ts r hev hop hS => exact addBs_le _ _
  | shared g as bs ms f args ts r hev hop hS => exact ro_le _ _ _

theorem Kind.len {o : Oper} {ρ : Operand → AV} {v : AV} (h : Kind P T o ρ hp v hp') : hp.blocks.length ≤ hp'.blocks.length ∧ hp.maps.length ≤ hp'.maps.length := by
  cases he : isEff o ρ with
  | false => exact ⟨(h.le he).blen, (h.le he).mlen⟩
  | true =>
    cases h with
    | op v h' hev =>
      rcases hpStep hev with rfl | ⟨k, rfl⟩ | ⟨k, rfl⟩ | ⟨_, ⟨b, k, rfl⟩ | ⟨b, k, rfl⟩⟩
      · exact ⟨Nat.le_refl _, Nat.le_refl _⟩
      · exact ⟨(addB_le _ _).blen, (addB_le _ _).mlen⟩
      · exact ⟨(addM_le _ _).blen, (addM_le _ _).mlen⟩
      · simp [Hp.setB, setNth_eq]
      · simp [setNth_eq]
    | own g as bs ms f args ts r hev hop hS => rw [call_quiet hop] at he; cases he
    | shared g as bs ms f args ts r hev hop hS => rw [call_quiet hop] at he; cases he

theorem Kind.pure {o : Oper} {ρ : Operand → AV} {v : AV} (h : Kind P T o ρ hp v hp') (hp0 : pureOp o = true) : hp' = hp ∧ ∀ h2, Kind P T o ρ h2 v h2 := by
  cases h with
  | op v h' hev =>
    obtain ⟨e, g⟩ := pure_any hp0 hev
    exact ⟨e, fun h2 => .op v h2 (g h2)⟩
  | own g as bs ms f args ts r hev hop hS => unfold pureOp at hp0; rw [hop] at hp0; cases hp0
  | shared g as bs ms f args ts r hev hop hS => unfold pureOp at hp0; rw [hop] at hp0; cases hp0

theorem Kind.soft {o : Oper} {ρ : Operand → AV} {v : AV} (h : Kind P T o ρ hp v hp') (hp0 : softOp o = true) : hp' = hp ∧ ∀ H, ShapeLe hp H → Kind P T o ρ H v H := by
  cases h with
  | op v h' hev =>
    obtain ⟨e, g⟩ := soft_any hp0 hev
    exact ⟨e, fun H hs => .op v H (g H hs)⟩
  | own g as bs ms f args ts r hev hop hS => unfold softOp at hp0; rw [hop] at hp0; cases hp0
  | shared g as bs ms f args ts r hev hop hS => unfold softOp at hp0; rw [hop] at hp0; cases hp0

theorem Kind.store {o : Oper} {ρ : Operand → AV} {v : AV} (h : Kind P T o ρ hp v hp') (hp0 : storeOp o = true) : ShapeLe hp hp' ∧ ShapeLe hp' hp := by
  cases h with
  | op v h' hev => exact store_shape hp0 hev
  | own g as bs ms f args ts r hev hop hS => unfold storeOp at hp0; rw [hop] at hp0; cases hp0
  | shared g as bs ms f args ts r hev hop hS => unfold storeOp at hp0; rw [hop] at hp0; cases hp0

theorem Kind.read {o : Oper} {ρ : Operand → AV} {v : AV} {b : Operand} (h : Kind P T o ρ hp v hp') (hp0 : readBase o = some b) : hp' = hp ∧ ∀ H, SameAt (ρ b) hp H → Kind P T o ρ H v H := by
  cases h with
  | op v h' hev =>
    obtain ⟨e, g⟩ := read_any hp0 hev
    exact ⟨e, fun H hs => .op v H (g H hs)⟩
  | own g as bs ms f args ts r hev hop hS => unfold readBase at hp0; rw [hop] at hp0; cases hp0
  | shared g as bs ms f args ts r hev hop hS => unfold readBase at hp0; rw [hop] at hp0; cases hp0

theorem Kind.readable {o : Oper} {ρ : Operand → AV} {v : AV} {b : Operand} (h : Kind P T o ρ hp v hp') (hb : readBase o = some b) : heapFree (ρ b) = true ∨ ∃ i, blockOf (ρ b) = some i := by
  cases h with
  | own g as bs ms f args ts r hev hop hS => unfold readBase at hb; rw [hop] at hb; cases hb
  | shared g as bs ms f args ts r hev hop hS => unfold readBase at hb; rw [hop] at hb; cases hb
  | op v h' hev =>
    unfold readBase at hb
    unfold opEv at hev
    split at hb
    case h_3 => cases hb
    · rename_i t a hop
      cases hb
      simp only [hop] at hev
      split at hev
      · split at hev
        · rename_i hx; rw [hx]; exact .inr ⟨_, rfl⟩
        · rename_i hx; rw [hx]; exact .inl rfl
        · exact hev.elim
      · exact hev.elim
    · rename_i t x lo hi hop
      cases hb
      · simp only [hop] at hev
        split at hev
        · split at hev
          · split at hev
            · rename_i hx; rw [hx]; exact .inl rfl
            · rename_i hx; rw [hx]; exact .inr ⟨_, rfl⟩
            · exact hev.elim
          · exact hev.elim
        · split at hev
          · rename_i hx; rw [hx]; exact .inl rfl
          · exact hev.elim
        · exact hev.elim

theorem read_quiet {o : Oper} {b : Operand} (h : readBase o = some b) (ρ : Operand → AV) : isEff o ρ = false := by
  unfold readBase at h
  unfold isEff
  split at h <;> rename_i hop <;> first | rw [hop] | cases h

theorem Kind.target {o : Oper} {ρ : Operand → AV} {v : AV} {t : Operand} (h : Kind P T o ρ hp v hp') (he : isEff o ρ = true) (ht : effTarget o = some t) : ∃ b k', blockOf (ρ t) = some b ∧ hp' = hp.setB b k' := by
  cases h with
  | own g as bs ms f args ts r hev hop hS => rw [call_quiet hop] at he; cases he
  | shared g as bs ms f args ts r hev hop hS => rw [call_quiet hop] at he; cases he
  | op v h' hev =>
    unfold effTarget at ht
    unfold opEv at hev
    split at ht
    · rename_i t' a x hop
      cases ht
      simp only [hop] at hev
      simp only [Bool.cond_eq_ite] at hev
      repeat' split at hev
      all_goals simp only [Res.gives] at hev
      all_goals first
        | exact hev.elim
        | (rename_i hx _ _ _ _ _ _; exact ⟨_, _, by rw [hx]; rfl, hev.2.symm⟩)
        | (rename_i hx _ _ _ _ _; exact ⟨_, _, by rw [hx]; rfl, hev.2.symm⟩)
        | (rename_i hx _ _ _ _; exact ⟨_, _, by rw [hx]; rfl, hev.2.symm⟩)
    · rename_i args ts hop
      unfold isEff at he
      rw [hop] at he
      simp only at he
      simp only [hop] at hev
      obtain ⟨la⟩ := args
      match la, ht with
      | [], ht => simp [nth?] at ht
      | os :: rest, ht =>
        simp only [nth?, Option.some.injEq] at ht
        subst ht
        simp only [List.map_cons] at he hev
        generalize ρ os = xs at he hev ⊢
        split at he
        · rename_i b ver off len rst heq
          simp only [List.cons.injEq] at heq
          obtain ⟨rfl, _⟩ := heq
          simp only [Bool.cond_eq_ite] at hev
          repeat' split at hev
          all_goals try simp only [Res.gives] at hev
          all_goals first
            | exact hev.elim
            | (rename_i q; simp at q; done)
            | (rename_i q _ _ _ _; simp at q; done)
            | (rename_i q _; simp at q; done)
            | (rename_i q _ _ _ _; simp only [List.cons.injEq, AV.oslice.injEq] at q; obtain ⟨⟨rfl, _⟩, _⟩ := q; exact ⟨_, _, rfl, hev.2.2.symm⟩)
        · cases he
    · cases ht

theorem soft_quiet {o : Oper} (h : softOp o = true) (ρ : Operand → AV) : isEff o ρ = false := by
  unfold softOp at h
  unfold isEff
  split at h <;> rename_i hop <;> first | rw [hop] | cases h

theorem pure_quiet {o : Oper} (h : pureOp o = true) (ρ : Operand → AV) : isEff o ρ = false := by
  unfold pureOp at h
  unfold isEff
  split at h <;> rename_i hop <;> first | rw [hop] | cases h

/-- An operation carried out. -/
theorem kind_ok (hT : TOK P T) (h : HR P base w c hp) (hbase : base ≤ w.heap.size) {o : Oper} {a : Act} {ρ : Operand → AV} {v : AV} (hρ : ∀ x ∈ o.op.operands, VR P w c (ρ x) (a.eval x)) (hk : Kind P T o ρ hp v hp')
    (hro : isEff o ρ = true → RO c hp) (hfree : ∀ b, hp.blocks.length ≤ b → b < hp'.blocks.length → c.O b = none) (hfreeM : ∀ b, hp.maps.length ≤ b → b < hp'.maps.length → c.N b = none)
    {next : Act → World → Prop} {Q : Exit → Act → World → Prop}
    (hn : ∀ u w' c', ((isEff o ρ = false ∧ QOut P base w c hp w' c' hp') ∨ (isEff o ρ = true ∧ EOut P base w c hp w' c' hp')) → VR P w' c' v u → next (a.put o.dst u) w') : o.wp P a w next Q := by
  have calls : ∀ (g : FuncId) (as : List AV) (bs ms : List Nat) (f : Operand) (args : Array Operand) (ts : Array TypeId) (r : AV) (fr : Bool), opEv T o ρ hp = .call g as bs ms → o.op = .call { callee := .value f, args, argTypes := ts } → Sound1 P g as r fr →
      (fr = true → ∀ b, hp.blocks.length ≤ b → b < hp.blocks.length + (adopt r hp.blocks.length).2.length → c.O b = none) →
      (∀ u w' c', (match fr with
        | true => QOut P base w c hp w' c' { hp with blocks := hp.blocks ++ (adopt r hp.blocks.length).2 } ∧ VR P w' c' (adopt r hp.blocks.length).1 u
        | false => QOut P base w c hp w' c' (roHp hp bs ms) ∧ VR P w' c' r u) → next (a.put o.dst u) w') → o.wp P a w next Q := by
    intro g as bs ms f args ts r fr hev hop hS hf hnn
    obtain ⟨vs, g1, g2⟩ := op_call h hbase hop (hρ f (by rw [hop]; simp [Op.operands, Call.operands])) (fun x hx => hρ x (by rw [hop]; simp [Op.operands, Call.operands, hx])) hev hS hf
    unfold Oper.wp
    rw [g1]
    refine Calls.mono g2 ?_
    rintro e w' ⟨u, rfl, c', hres⟩
    cases fr with
    | true => exact hnn u w' c' hres
    | false => exact hnn u w' c' hres
  cases hk with
  | own g as bs ms f args ts r hev hop hS =>
    refine calls g as bs ms f args ts r true hev hop hS (fun _ b h1 h2 => hfree b h1 (by simpa using h2)) fun u w' c' hres => hn u w' c' (.inl ⟨call_quiet hop _, hres.1⟩) hres.2
  | shared g as bs ms f args ts r hev hop hS =>
    refine calls g as bs ms f args ts _ false hev hop hS (fun e => by cases e) fun u w' c' hres => hn u w' c' (.inl ⟨call_quiet hop _, hres.1⟩) hres.2
  | op v h' hev =>
    cases he : isEff o ρ with
    | false =>
      obtain ⟨u, w', c', g1, g2, g3⟩ := quiet_op hT h hbase (fun _ => rfl) hρ he hev hfree hfreeM
      unfold Oper.wp
      rw [g1]
      exact hn u w' c' (.inl ⟨he, g2⟩) g3
    | true =>
      have hRO := hro he
      have he0 := he
      unfold isEff at he
      split at he
      · rename_i t x y hop
        obtain ⟨w', c', g1, g2, rfl⟩ := eff_store hT h hRO hbase hop (hρ x (by rw [hop]; simp [Op.operands])) (hρ y (by rw [hop]; simp [Op.operands])) hev
        unfold Oper.wp
        rw [g1]
        exact hn _ w' c' (.inr ⟨he0, g2⟩) (.tree (.top _))
      · rename_i t x y z hop
        obtain ⟨w', c', g1, g2, rfl⟩ := eff_mapUpdate hT h hRO hop (hρ x (by rw [hop]; simp [Op.operands])) (hρ y (by rw [hop]; simp [Op.operands])) (hρ z (by rw [hop]; simp [Op.operands])) hev
        unfold Oper.wp
        rw [g1]
        exact hn _ w' c' (.inr ⟨he0, g2⟩) (.tree (.top _))
      · rename_i args ts hop
        obtain ⟨u, w', c', g1, g2, g3⟩ := append_eff hT h hRO hbase hop (fun x hx => hρ x (by rw [hop]; simp [Op.operands, Call.operands, hx])) he0 hev
        unfold Oper.wp
        rw [g1]
        exact hn u w' c' (.inr ⟨he0, g2⟩) g3
      · cases he

/-- A heap that has grown beside. -/
theorem HR.grow (h : HR P base w c hp) (hi : ∀ b oi, c.O b = some oi → b < hp.blocks.length) (hiM : ∀ b r, c.N b = some r → b < hp.maps.length) (e : HpLe hp hp') : HR P base w c hp' := by
  refine ⟨fun b k oi hk hO => ?_, h.sep, h.own, h.st, fun b m r hm hN => ?_, h.mown, h.msep, h.bm⟩
  · have hlt := hi b oi hO
    obtain ⟨k', hk', er⟩ := e.b b _ (List.getElem?_eq_getElem hlt)
    rw [hk] at hk'
    cases hk'
    exact (h.blk b _ oi (List.getElem?_eq_getElem hlt) hO).ro er
  · have hlt := hiM b r hN
    obtain ⟨k', hk', er⟩ := e.m b _ (List.getElem?_eq_getElem hlt)
    rw [hm] at hk'
    cases hk'
    exact (h.maps b _ r (List.getElem?_eq_getElem hlt) hN).ro er

theorem HR.back (h : HR P base w c hp') (e : HpLe hp hp') : HR P base w c hp := by
  refine ⟨fun b k oi hk hO => ?_, h.sep, h.own, h.st, fun b m r hm hN => ?_, h.mown, h.msep, h.bm⟩
  · obtain ⟨k', hk', er⟩ := e.b b _ hk
    exact (h.blk b k' oi hk' hO).ro' er
  · obtain ⟨k', hk', er⟩ := e.m b _ hm
    exact (h.maps b k' r hk' hN).ro' er

theorem ro_true {k k' : AB} (e : ABro k k') (h : k.ro = true) : k'.ro = true := by rcases e with rfl | rfl; exact h; rfl
theorem ro_trueM {k k' : AM} (e : AMro k k') (h : k.ro = true) : k'.ro = true := by rcases e with rfl | rfl; exact h; rfl

theorem RO.grow (h : RO c hp) (e : HpLe hp hp') : RO c hp' :=
  ⟨fun b oi h1 h2 h3 => by obtain ⟨k, hk, hr⟩ := h.b b oi h1 h2 h3; obtain ⟨k', hk', er⟩ := e.b b k hk; exact ⟨k', hk', ro_true er hr⟩,
   fun b r h1 h3 => by obtain ⟨k, hk, hr⟩ := h.m b r h1 h3; obtain ⟨k', hk', er⟩ := e.m b k hk; exact ⟨k', hk', ro_trueM er hr⟩⟩

/-- An operation that turns no old memory, carried out beside others: H is what is known around it, H' what is known behind. -/
theorem QOut.beside {H H' : Hp} (q : QOut P base w c hp w' c' hp') (h : HR P base w c H) (ro : RO c H) (hi : ∀ b oi, c.O b = some oi → b < H.blocks.length) (hiM : ∀ b r, c.N b = some r → b < H.maps.length) (e : HpLe H H') (e' : HpLe hp' H') :
    HR P base w' c' H' ∧ RO c' H' := by
  refine ⟨⟨fun b k oi hk hO => ?_, q.hr.sep, q.hr.own, q.hr.st, fun b m r hm hN => ?_, q.hr.mown, q.hr.msep, q.hr.bm⟩, ⟨fun b oi h1 h2 h3 => ?_, fun b r h1 h3 => ?_⟩⟩
  · rcases q.oNew b oi hO with hO0 | ⟨_, hlt⟩
    · have hlt := hi b oi hO0
      obtain ⟨k', hk', er⟩ := e.b b _ (List.getElem?_eq_getElem hlt)
      rw [hk] at hk'
      cases hk'
      exact (h.blk_old q.ext (List.getElem?_eq_getElem hlt) hO0).ro er
    · obtain ⟨k', hk', er⟩ := e'.b b _ (List.getElem?_eq_getElem hlt)
      rw [hk] at hk'
      cases hk'
      exact (q.hr.blk b _ oi (List.getElem?_eq_getElem hlt) hO).ro er
  · rcases q.nNew b r hN with hN0 | ⟨_, hlt⟩
    · have hlt := hiM b r hN0
      obtain ⟨k', hk', er⟩ := e.m b _ (List.getElem?_eq_getElem hlt)
      rw [hm] at hk'
      cases hk'
      exact (h.map_old q.ext (List.getElem?_eq_getElem hlt) hN0).ro er
    · obtain ⟨k', hk', er⟩ := e'.m b _ (List.getElem?_eq_getElem hlt)
      rw [hm] at hk'
      cases hk'
      exact (q.hr.maps b _ r (List.getElem?_eq_getElem hlt) hN).ro er
  · rcases q.ro b oi h1 h2 h3 with ⟨g1, g2⟩ | ⟨k, hk, hr⟩
    · obtain ⟨k, hk, hr⟩ := ro.b b oi g1 h2 g2
      obtain ⟨k', hk', er⟩ := e.b b k hk
      exact ⟨k', hk', ro_true er hr⟩
    · obtain ⟨k', hk', er⟩ := e'.b b k hk
      exact ⟨k', hk', ro_true er hr⟩
  · rcases q.rom b r h1 h3 with ⟨g1, g2⟩ | ⟨k, hk, hr⟩
    · obtain ⟨k, hk, hr⟩ := ro.m b r g1 g2
      obtain ⟨k', hk', er⟩ := e.m b k hk
      exact ⟨k', hk', ro_trueM er hr⟩
    · obtain ⟨k', hk', er⟩ := e'.m b k hk
      exact ⟨k', hk', ro_trueM er hr⟩
end
end Go.Tr

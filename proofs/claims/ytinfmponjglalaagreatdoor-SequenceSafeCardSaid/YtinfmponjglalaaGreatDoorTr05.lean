/- What an operation does to the abstract heap; an operation carried out beside others. Conditions: none. -/
import Derived.Test.YtinfmponjglalaaGreatDoorTr04
set_option linter.unusedSectionVars false
set_option linter.unnecessarySimpa false
set_option linter.unusedVariables false
set_option linter.unusedSimpArgs false

namespace Go.Tr
open Go Go.RowKit

variable [GTab]

def evL (lk : Tmp → AV) : Operand → AV
 | .tmp t=>lk t
 | .const v=>constAV v
 | .func f=>.func (.func f) 0 []
 | .global g=>gAV g

theorem eval_evL (s : St) : s.eval = evL (look s.tm) := by
  funext x; cases x <;> rfl

theorem addB_le (h : Hp) (k : AB) : HpLe h (h.addB k) :=
  ⟨fun i x hx=>⟨x,by simp only [Hp.addB]; rw [List.getElem?_append_left (List.getElem?_eq_some_iff.1 hx).1]; exact hx,.refl _⟩,fun i x hx=>⟨x,hx,.refl _⟩⟩
theorem addM_le (h : Hp) (k : AM) : HpLe h { h with maps := h.maps ++ [k] } :=
  ⟨fun i x hx=>⟨x,hx,.refl _⟩,fun i x hx=>⟨x,by show (h.maps ++ [k])[i]? = _; rw [List.getElem?_append_left (List.getElem?_eq_some_iff.1 hx).1]; exact hx,.refl _⟩⟩
theorem addBs_le (h : Hp) (ks : List AB) : HpLe h { h with blocks := h.blocks ++ ks } :=
  ⟨fun i x hx=>⟨x,by show (h.blocks ++ ks)[i]? = _; rw [List.getElem?_append_left (List.getElem?_eq_some_iff.1 hx).1]; exact hx,.refl _⟩,fun i x hx=>⟨x,hx,.refl _⟩⟩
theorem ro_le (h : Hp) (bs ms : List Nat) : HpLe h (roHp h bs ms) := by
 refine ⟨fun i k hk=>?_,fun i k hk=>?_⟩
 ·refine ⟨_,by simp only [roHp]; rw [roB_get,hk]; rfl,?_⟩
  cases hasNat bs (0 + i) with
  | true=>exact .inr rfl
  | false=>exact .inl rfl
 ·refine ⟨_,by simp only [roHp]; rw [roM_get,hk]; rfl,?_⟩
  cases hasNat ms (0 + i) with
  | true=>exact .inr rfl
  | false=>exact .inl rfl

def HpStep (o : Oper) (ρ : Operand → AV) (h h' : Hp) : Prop :=
  h' = h ∨ (∃ k,h' = h.addB k) ∨ (∃ k,h' = { h with maps := h.maps ++ [k] }) ∨ (isEff o ρ = true ∧ ((∃ b k,h' = h.setB b k) ∨ ∃ b k,h' = { h with maps := setNth h.maps b k }))

theorem binEv_h {op : BinOp} {d : Option TI} {x y : AV} {yo : Bool} {h h' : Hp} {v : AV} (hev : (binEv op d x y yo h).gives v h') : h' = h ∧ ∀ h2,(binEv op d x y yo h2).gives v h2 := by
 unfold binEv at hev ⊢
 repeat' split at hev
 all_goals first
  | exact aggEv_h hev
  | (simp only [Res.gives] at hev <;> first | exact hev.elim | (refine ⟨hev.2.symm,fun h2=>?_⟩; simp_all [Res.gives]; done) | (refine ⟨hev.2.2.symm,fun h2=>?_⟩; simp_all [Res.gives]; done))

theorem nilEv_h {op : BinOp} {d : Option TI} {x : AV} {h h' : Hp} {v : AV} (hev : (nilEv op d x h).gives v h') : h' = h ∧ ∀ h2,(nilEv op d x h2).gives v h2 := by
 unfold nilEv at hev ⊢
 repeat' split at hev
 all_goals simp only [Res.gives] at hev ⊢
 all_goals first
  | exact hev.elim
  | exact ⟨hev.2.2.symm,fun h2=>⟨hev.1,hev.2.1,trivial⟩⟩

theorem hpStep {T : Nat → Option TI} {o : Oper} {ρ : Operand → AV} {h h' : Hp} {v : AV} (hev : (opEv T o ρ h).gives v h') : HpStep o ρ h h' := by
 unfold opEv at hev
 split at hev
 all_goals try simp only [Bool.cond_eq_ite,forceNr_eq,forceC_eq,forceT_eq,force0_eq,force1_eq] at hev
 all_goals (repeat' split at hev)
 all_goals first | exact .inl (binEv_h hev).1 | exact .inl (nilEv_h hev).1 | simp only [Res.gives] at hev
 all_goals first
  | exact hev.elim
  | exact .inl hev.2.symm
  | exact .inl hev.2.2.symm
  | exact .inr (.inl ⟨_,hev.2.symm⟩)
  | exact .inr (.inl ⟨_,hev.2.2.symm⟩)
  | exact .inr (.inr (.inl ⟨_,hev.2.symm⟩))
  | exact .inr (.inr (.inr ⟨by unfold isEff; simp only [*],.inl ⟨_,_,hev.2.symm⟩⟩))
  | exact .inr (.inr (.inr ⟨by unfold isEff; simp only [*],.inr ⟨_,_,hev.2.symm⟩⟩))
  | exact .inr (.inr (.inr ⟨by unfold isEff; simp only [*],.inl ⟨_,_,hev.2.2.symm⟩⟩))
  | exact hev.elim (fun e=>.inr (.inl ⟨_,e.2.2.symm⟩)) (fun e=>.inl e.2.2.symm)
  | exact .inr (.inr (.inr ⟨by unfold isEff; simp only [*],by rcases hev with ⟨_,_,e⟩ | ⟨_,_,e⟩ <;> exact .inl ⟨_,_,e.symm⟩⟩))
  | exact .inr (.inr (.inr ⟨by unfold isEff; simp only [*],by obtain ⟨G',hG,hv,e⟩ := hev; exact .inl ⟨_,_,e.symm⟩⟩))

theorem pure_any {T : Nat → Option TI} {o : Oper} {ρ : Operand → AV} {h h' : Hp} {v : AV} (hp : pureOp o = true) (hev : (opEv T o ρ h).gives v h') : h' = h ∧ ∀ h2,(opEv T o ρ h2).gives v h2 := by
 unfold pureOp at hp
 unfold opEv at hev ⊢
 split at hp
 case h_12=>cases hp
 all_goals rename_i hop
 all_goals simp only [hop] at hev ⊢
 all_goals try simp only [Bool.cond_eq_ite] at hev ⊢
 case h_5 =>
  split at hev
  ·rename_i hc; exact nilEv_h hev
  ·rename_i hc; exact binEv_h hev
 all_goals (repeat' split at hev)
 all_goals simp only [Res.gives] at hev
 all_goals first
  | exact hev.elim
  | (refine ⟨hev.2.symm,fun h2=>?_⟩; simp_all [Res.gives]; done)
  | (refine ⟨hev.2.2.symm,fun h2=>?_⟩; simp_all [Res.gives]; done)
  | (obtain ⟨g1,g2,g3⟩ := hev; refine ⟨g3.symm,fun h2=>?_⟩; simp only [*,Res.gives,and_self]; done)
  | (obtain ⟨g1,g2,g3⟩ := hev; subst g2; refine ⟨g3.symm,fun h2=>?_⟩; simp only [*,Res.gives,and_self])

def ShapeLe (h H : Hp) : Prop := ∀ (b : Nat) k,h.blocks[b]? = some k → ∃ k',H.blocks[b]? = some k' ∧ k'.es = k.es ∧ k'.ver = k.ver
theorem ShapeLe.refl (h : Hp) : ShapeLe h h := fun _ k hk=>⟨k,hk,rfl,rfl⟩
theorem ShapeLe.trans {a b c : Hp} (h : ShapeLe a b) (k : ShapeLe b c) : ShapeLe a c := fun i x hx=>by
 obtain ⟨y,hy,e1,e2⟩ := h i x hx
 obtain ⟨z,hz,e3,e4⟩ := k i y hy
 exact ⟨z,hz,e3.trans e1,e4.trans e2⟩
theorem HpLe.shape {a b : Hp} (h : HpLe a b) : ShapeLe a b := fun i x hx=>by
 obtain ⟨y,hy,e⟩ := h.b i x hx
 exact ⟨y,hy,by rcases e with rfl | rfl <;> exact ⟨rfl,rfl⟩⟩

theorem ShapeLe.block {h H : Hp} (e : ShapeLe h H) {b ver : Nat} {k : AB} (hk : h.block b ver = some k) : ∃ k',H.block b ver = some k' ∧ k'.es = k.es := by
 obtain ⟨hb,hv⟩ := block_some hk
 obtain ⟨k',g1,g2,g3⟩ := e b k hb
 refine ⟨k',?_,g2⟩
 unfold Hp.block
 rw [nth?_eq,g1]
 simp [g3,hv]

theorem soft_any {T : Nat → Option TI} {o : Oper} {ρ : Operand → AV} {h h' : Hp} {v : AV} (hp : softOp o = true) (hev : (opEv T o ρ h).gives v h') : h' = h ∧ ∀ H,ShapeLe h H → (opEv T o ρ H).gives v H := by
 unfold softOp at hp
 unfold opEv at hev ⊢
 split at hp
 case h_3=>cases hp
 all_goals rename_i hop
 all_goals simp only [hop] at hev ⊢
 all_goals try simp only [Bool.cond_eq_ite] at hev ⊢
 all_goals (repeat' split at hev)
 all_goals simp only [Res.gives] at hev
 all_goals first
  | exact hev.elim
  | (refine ⟨hev.2.symm,fun H e=>?_⟩; simp_all [Res.gives]; done)
  | (refine ⟨hev.2.2.symm,fun H e=>?_⟩; simp_all [Res.gives]; done)
  | (rename_i hb _; refine ⟨hev.2.symm,fun H e=>?_⟩; obtain ⟨k',g1,g2⟩ := e.block hb; simp_all [Res.gives]; done)
  | (rename_i hb; refine ⟨hev.2.symm,fun H e=>?_⟩; obtain ⟨k',g1,g2⟩ := e.block hb; simp_all [Res.gives]; done)
  | (rename_i hb _; refine ⟨hev.2.2.symm,fun H e=>?_⟩; obtain ⟨k',g1,g2⟩ := e.block hb; simp_all [Res.gives]; done)
  | (rename_i hb; refine ⟨hev.2.2.symm,fun H e=>?_⟩; obtain ⟨k',g1,g2⟩ := e.block hb; simp_all [Res.gives]; done)

theorem setB_shape {h : Hp} {b : Nat} {k k' : AB} (hb : h.blocks[b]? = some k) (h1 : k'.es = k.es) (h2 : k'.ver = k.ver) : ShapeLe h (h.setB b k') ∧ ShapeLe (h.setB b k') h := by
 refine ⟨fun i x hx=>?_,fun i x hx=>?_⟩
 ·by_cases hi : i = b
  ·subst hi
   rw [hb] at hx
   cases hx
   exact ⟨k',by simp only [Hp.setB]; rw [setNth_eq,List.getElem?_set]; simp [(List.getElem?_eq_some_iff.1 hb).1],h1,h2⟩
  ·exact ⟨x,by simp only [Hp.setB]; rw [setNth_eq,List.getElem?_set,if_neg (fun e=>hi e.symm)]; exact hx,rfl,rfl⟩
 ·simp only [Hp.setB] at hx
  rcases set_get hx with ⟨rfl,rfl⟩ | ⟨_,g⟩
  ·exact ⟨k,hb,h1.symm,h2.symm⟩
  ·exact ⟨x,g,rfl,rfl⟩

theorem store_shape {T : Nat → Option TI} {o : Oper} {ρ : Operand → AV} {h h' : Hp} {v : AV} (hp : storeOp o = true) (hev : (opEv T o ρ h).gives v h') : ShapeLe h h' ∧ ShapeLe h' h := by
 unfold storeOp at hp
 unfold opEv at hev
 split at hp
 case h_2=>cases hp
 rename_i hop
 simp only [hop] at hev
 simp only [Bool.cond_eq_ite,forceC_eq,forceT_eq] at hev
 repeat' split at hev
 all_goals simp only [Res.gives] at hev
 all_goals first
  | exact hev.elim
  | (rename_i hb _ _ _; have g1 := (block_some hb).1; have e := hev.2; subst e; exact setB_shape g1 rfl rfl)
  | (rename_i hb _ _ _ _; have g1 := (block_some hb).1; have e := hev.2; subst e; exact setB_shape g1 rfl rfl)
  | (rename_i hb _ _ _ _ _; have g1 := (block_some hb).1; have e := hev.2; subst e; exact setB_shape g1 rfl rfl)
  | (rename_i hb _ _ _ _ _ _; have g1 := (block_some hb).1; have e := hev.2; subst e; exact setB_shape g1 rfl rfl)
  | (rename_i hb _ _ _ _ _ _ _; have g1 := (block_some hb).1; have e := hev.2; subst e; exact setB_shape g1 rfl rfl)
  | (rename_i hb _ _; have g1 := (block_some hb).1; obtain ⟨G',hG,hv,e⟩ := hev; subst e; exact setB_shape g1 rfl rfl)
  | (rename_i hb _ _ _; have g1 := (block_some hb).1; obtain ⟨G',hG,hv,e⟩ := hev; subst e; exact setB_shape g1 rfl rfl)
  | (rename_i hb _ _ _ _; have g1 := (block_some hb).1; obtain ⟨G',hG,hv,e⟩ := hev; subst e; exact setB_shape g1 rfl rfl)
  | (rename_i hb _ _ _ _ _; have g1 := (block_some hb).1; obtain ⟨G',hG,hv,e⟩ := hev; subst e; exact setB_shape g1 rfl rfl)
  | (rename_i hb _ _ _ _ _ _; have g1 := (block_some hb).1; obtain ⟨G',hG,hv,e⟩ := hev; subst e; exact setB_shape g1 rfl rfl)

def ABx (k k' : AB) : Prop := ∃ r,k' = { k with ro := r }
theorem ABx.refl (k : AB) : ABx k k := ⟨k.ro,rfl⟩
theorem ABx.symm {a b : AB} (h : ABx a b) : ABx b a := by
  obtain ⟨r,rfl⟩ := h
  exact ⟨a.ro,rfl⟩
theorem ABx.trans {a b c : AB} (h : ABx a b) (k : ABx b c) : ABx a c := by
 obtain ⟨r,rfl⟩ := h
 obtain ⟨r',rfl⟩ := k
 exact ⟨r',rfl⟩
theorem ABro.x {a b : AB} (h : ABro a b) : ABx a b := by
 rcases h with rfl | rfl
 ·exact .refl _
 ·exact ⟨true,rfl⟩

def SameAt (x : AV) (h H : Hp) : Prop := heapFree x = true ∨ ∃ i,blockOf x = some i ∧ ∀ k,h.blocks[i]? = some k → ∃ k',H.blocks[i]? = some k' ∧ ABx k k'
theorem SameAt.block {b ver idx sub : Nat} {h H : Hp} (e : SameAt (.optr b ver idx sub) h H) {k : AB} (hk : h.block b ver = some k) : ∃ k',H.block b ver = some k' ∧ ABx k k' := by
 rcases e with e | ⟨i,e1,e2⟩
 ·cases e
 ·cases e1
  obtain ⟨hb,hv⟩ := block_some hk
  obtain ⟨k',g1,g2⟩ := e2 k hb
  refine ⟨k',?_,g2⟩
  unfold Hp.block
  rw [nth?_eq,g1]
  obtain ⟨r,rfl⟩ := g2
  simp [hv]
theorem SameAt.slice {b ver off len : Nat} {cap : Option Nat} {h H : Hp} (e : SameAt (.oslice b ver off len cap) h H) {k : AB} (hk : h.block b ver = some k) : ∃ k',H.block b ver = some k' ∧ ABx k k' :=
  SameAt.block (idx := 0) (sub := 0) (by rcases e with e | e; cases e; exact .inr e) hk

theorem SameAt.blk {b ver : Nat} {x : AV} {h H : Hp} {k : AB} (hk : h.block b ver = some k) (e : SameAt x h H) (h1 : heapFree x = false) (h2 : blockOf x = some b) : ∃ k',H.block b ver = some k' ∧ ABx k k' :=
 SameAt.block (idx := 0) (sub := 0) (by
  rcases e with e | ⟨i,e1,e2⟩
  ·rw [h1] at e; cases e
  ·rw [h2] at e1; cases e1; exact .inr ⟨_,rfl,e2⟩) hk

theorem read_any {T : Nat → Option TI} {o : Oper} {ρ : Operand → AV} {h h' : Hp} {v : AV} {b : Operand} (hp : readBase o = some b) (hev : (opEv T o ρ h).gives v h') : h' = h ∧ ∀ H, SameAt (ρ b) h H → (opEv T o ρ H).gives v H := by
  unfold readBase at hp
  unfold opEv at hev ⊢
  split at hp
  case h_4=>cases hp
  · rename_i t a hop
    cases hp
    simp only [hop] at hev ⊢
    split at hev
    · rename_i ti ht
      split at hev
      · rename_i b ver idx sub hx
        split at hev
        · rename_i k hk
          split at hev
          · rename_i u hu
            obtain ⟨e1,e2⟩ := hev
            subst e1
            refine ⟨e2.symm,fun H e=>?_⟩
            rw [hx] at e
            obtain ⟨k',g1,g2⟩ := SameAt.block e hk
            have hf : k'.f = k.f := by obtain ⟨r,rfl⟩ := g2; rfl
            simp only [g1,hf,hu]
            exact ⟨rfl,rfl⟩
          · exact hev.elim
        · exact hev.elim
      · rename_i l hx
        split at hev
        · rename_i u hu
          obtain ⟨e1,e2⟩ := hev
          subst e1
          exact ⟨e2.symm,fun H e=>⟨rfl,rfl⟩⟩
        · exact hev.elim
      · exact hev.elim
    · exact hev.elim
  · rename_i t x lo hi hop
    cases hp
    · simp only [hop] at hev ⊢
      split at hev
      · rename_i e _ _ _ _ ht
        split at hev
        · rename_i ei he
          split at hev
          · rename_i es len f hx
            split at hev
            · rename_i l r hl hr
              cases hb : Nat.beq es ei.size with
              | false=>rw [hb] at hev; exact hev.elim
              | true =>
                rw [hb] at hev
                obtain ⟨e0,e1,e2⟩ := hev
                subst e1
                exact ⟨e2.symm,fun H e=>by simp only [cond_true]; exact ⟨e0,rfl,rfl⟩⟩
            · exact hev.elim
          · rename_i b ver off len cap hx
            split at hev
            · rename_i k l r hk hl hr
              cases hb : Nat.beq k.es ei.size with
              | false=>rw [hb] at hev; exact hev.elim
              | true =>
                rw [hb] at hev
                obtain ⟨e0,e1,e2⟩ := hev
                subst e1
                refine ⟨e2.symm,fun H e=>?_⟩
                rw [hx] at e
                obtain ⟨k',g1,g2⟩ := SameAt.slice e hk
                have hf : k'.es = k.es := by obtain ⟨r,rfl⟩ := g2; rfl
                have hlen : k'.len = k.len := by obtain ⟨r,rfl⟩ := g2; rfl
                simp only [g1,hl,hr,hf,hlen,hb,cond_true]
                exact ⟨e0,rfl,rfl⟩
            · exact hev.elim
          · exact hev.elim
        · exact hev.elim
      · rename_i ht
        split at hev
        · rename_i s hx
          split at hev
          · rename_i l r hl hr
            obtain ⟨e0,e1,e2⟩ := hev
            subst e1
            exact ⟨e2.symm,fun H e=>⟨e0,rfl,rfl⟩⟩
          · exact hev.elim
        · exact hev.elim
      · rename_i n e _ _ _ _ ht
        split at hev
        · rename_i ei b ver idx sub he hx
          split at hev
          · split at hev
            · rename_i k hk
              cases hb : (Nat.blt 0 ei.size && Nat.blt 0 n && Nat.ble (sub + n * ei.size) k.es) with
              | false=>rw [hb] at hev; exact hev.elim
              | true =>
                rw [hb] at hev
                obtain ⟨e1,e2⟩ := hev
                subst e1
                refine ⟨e2.symm,fun H e=>?_⟩
                rw [hx] at e
                obtain ⟨k',g1,g2⟩ := SameAt.block e hk
                have hf : k'.es = k.es := by obtain ⟨r,rfl⟩ := g2; rfl
                simp only [g1,hf,hb,cond_true]
                exact ⟨rfl,rfl⟩
            · exact hev.elim
          · exfalso
            simp only [Bool.cond_eq_ite] at hev
            (repeat' split at hev) <;> exact hev
        · exact hev.elim
      · exact hev.elim
  · rename_i args ts hop
    simp only [hop] at hev ⊢
    rw [hp] at hev ⊢
    split at hev
    · rename_i t x ht hx
      cases hx
      split at hev <;> rename_i hT1 hr <;> first
        | (obtain ⟨e1,e2⟩ := hev; subst e1; exact ⟨e2.symm,fun H _=>⟨rfl,rfl⟩⟩)
        | (split at hev
           · rename_i k hk
             obtain ⟨e1,e2⟩ := hev
             subst e1
             refine ⟨e2.symm,fun H e=>?_⟩
             obtain ⟨k',g1,g2⟩ := SameAt.blk hk e (by rw [hr]; rfl) (by rw [hr]; rfl)
             simp only [g1]
             exact ⟨rfl,rfl⟩
           · exact hev.elim)
        | exact hev.elim
    · exact hev.elim

def PeekR (o : Oper) (k k' : AB) : Prop := match softOp o with | true=>k'.es = k.es ∧ k'.ver = k.ver | false=>ABx k k'
theorem PeekR.refl (o : Oper) (k : AB) : PeekR o k k := by
 unfold PeekR
 cases softOp o with
 | true=>exact ⟨rfl,rfl⟩
 | false=>exact ABx.refl k
theorem PeekR.trans {o : Oper} {a b c : AB} (h : PeekR o a b) (k : PeekR o b c) : PeekR o a c := by
 unfold PeekR at *
 cases hs : softOp o with
 | true=>rw [hs] at h k; exact ⟨k.1.trans h.1,k.2.trans h.2⟩
 | false=>rw [hs] at h k; exact ABx.trans h k
theorem PeekR.symm {o : Oper} {a b : AB} (h : PeekR o a b) : PeekR o b a := by
 unfold PeekR at *
 cases hs : softOp o with
 | true=>rw [hs] at h; exact ⟨h.1.symm,h.2.symm⟩
 | false=>rw [hs] at h; exact ABx.symm h
theorem ABx.peek {o : Oper} {a b : AB} (h : ABx a b) : PeekR o a b := by
 unfold PeekR
 cases softOp o with
 | true=>obtain ⟨r,rfl⟩ := h; exact ⟨rfl,rfl⟩
 | false=>exact h
theorem PeekR.of_soft {o : Oper} (hs : softOp o = true) {a b : AB} (h1 : b.es = a.es) (h2 : b.ver = a.ver) : PeekR o a b := by
  unfold PeekR; rw [hs]; exact ⟨h1,h2⟩
def PeekAt (o : Oper) (x : AV) (h H : Hp) : Prop := heapFree x = true ∨ ∃ i,blockOf x = some i ∧ ∀ k,h.blocks[i]? = some k → ∃ k',H.blocks[i]? = some k' ∧ PeekR o k k'
theorem PeekAt.soft {o : Oper} {x : AV} {h H : Hp} (e : PeekAt o x h H) (hs : softOp o = true) {b ver : Nat} {k : AB} (hx : blockOf x = some b) (hf : heapFree x = false) (hk : h.block b ver = some k) : ∃ k',H.block b ver = some k' ∧ k'.es = k.es := by
 rcases e with e | ⟨i,e1,e2⟩
 ·rw [hf] at e; cases e
 ·rw [hx] at e1
  cases e1
  obtain ⟨hb,hv⟩ := block_some hk
  obtain ⟨k',g1,g2⟩ := e2 k hb
  unfold PeekR at g2
  rw [hs] at g2
  refine ⟨k',?_,g2.1⟩
  unfold Hp.block
  rw [nth?_eq,g1]
  simp [hv,g2.2]
theorem soft_peek {T : Nat → Option TI} {o : Oper} {ρ : Operand → AV} {h h' : Hp} {v : AV} {b : Operand} (hp : softBase o = some b) (hev : (opEv T o ρ h).gives v h') : h' = h ∧ ∀ H,PeekAt o (ρ b) h H → (opEv T o ρ H).gives v H := by
 have hso : softOp o = true := by
  unfold softBase at hp
  split at hp <;> first | (rename_i hop; simp [softOp,hop]; done) | cases hp
 unfold softBase at hp
 unfold opEv at hev ⊢
 split at hp
 case h_3=>cases hp
 all_goals rename_i hop
 all_goals cases hp
 all_goals simp only [hop] at hev ⊢
 all_goals try simp only [Bool.cond_eq_ite] at hev ⊢
 all_goals (repeat' split at hev)
 all_goals simp only [Res.gives] at hev
 all_goals first
  | exact hev.elim
  | (refine ⟨hev.2.symm,fun H e=>?_⟩; simp_all [Res.gives]; done)
  | (refine ⟨hev.2.2.symm,fun H e=>?_⟩; simp_all [Res.gives]; done)
  | (rename_i hx _ _ hb _; refine ⟨hev.2.symm,fun H e=>?_⟩; rw [hx] at e; obtain ⟨k',g1,g2⟩ := e.soft hso rfl rfl hb; simp_all [Res.gives]; done)
  | (rename_i hx _ hb _; refine ⟨hev.2.symm,fun H e=>?_⟩; rw [hx] at e; obtain ⟨k',g1,g2⟩ := e.soft hso rfl rfl hb; simp_all [Res.gives]; done)
  | (rename_i hx _ hb; refine ⟨hev.2.symm,fun H e=>?_⟩; rw [hx] at e; obtain ⟨k',g1,g2⟩ := e.soft hso rfl rfl hb; simp_all [Res.gives]; done)
  | (rename_i hx _ _ hb _; refine ⟨hev.2.2.symm,fun H e=>?_⟩; rw [hx] at e; obtain ⟨k',g1,g2⟩ := e.soft hso rfl rfl hb; simp_all [Res.gives]; done)
  | (rename_i hx _ hb _; refine ⟨hev.2.2.symm,fun H e=>?_⟩; rw [hx] at e; obtain ⟨k',g1,g2⟩ := e.soft hso rfl rfl hb; simp_all [Res.gives]; done)
  | (rename_i hx _ hb; refine ⟨hev.2.2.symm,fun H e=>?_⟩; rw [hx] at e; obtain ⟨k',g1,g2⟩ := e.soft hso rfl rfl hb; simp_all [Res.gives]; done)
  | (rename_i hx _ _ hb; refine ⟨hev.2.2.symm,fun H e=>?_⟩; rw [hx] at e; obtain ⟨k',g1,g2⟩ := e.soft hso rfl rfl hb; simp_all [Res.gives]; done)
  | (rename_i hx _ _ hb; refine ⟨hev.2.symm,fun H e=>?_⟩; rw [hx] at e; obtain ⟨k',g1,g2⟩ := e.soft hso rfl rfl hb; simp_all [Res.gives]; done)

inductive Kind (P : Program) (T : Nat → Option TI) (o : Oper) (ρ : Operand → AV) (h : Hp) : AV → Hp → Prop
 | op (v : AV) (h' : Hp) : (opEv T o ρ h).gives v h' → Kind P T o ρ h v h'
 | own (g : FuncId) (as : List AV) (bs ms : List Nat) (f : Operand) (args : Array Operand) (ts : Array TypeId) (r : AV) : opEv T o ρ h = .call g as bs ms → o.op = .call { callee := .value f, args, argTypes := ts } → Sound1 P g as r true →
   Kind P T o ρ h (adopt r h.blocks.length).1 { h with blocks := h.blocks ++ (adopt r h.blocks.length).2 }
 | shared (g : FuncId) (as : List AV) (bs ms : List Nat) (f : Operand) (args : Array Operand) (ts : Array TypeId) (r : AV) : opEv T o ρ h = .call g as bs ms → o.op = .call { callee := .value f, args, argTypes := ts } → Sound1 P g as r false →
   Kind P T o ρ h r (roHp h bs ms)

section
variable {P : Program} {T : Nat → Option TI} {w w' : World} {c c' : Cx} {base : Nat} {hp hp' : Hp}

theorem call_quiet {o : Oper} {f : Operand} {args : Array Operand} {ts : Array TypeId} (hop : o.op = .call { callee := .value f,args,argTypes := ts }) (ρ : Operand → AV) : isEff o ρ = false := by
  unfold isEff; rw [hop]

theorem Kind.le {o : Oper} {ρ : Operand → AV} {v : AV} (h : Kind P T o ρ hp v hp') (he : isEff o ρ = false) : HpLe hp hp' := by
 cases h with
 | op v h' hev =>
  rcases hpStep hev with rfl | ⟨k,rfl⟩ | ⟨k,rfl⟩ | ⟨g,_⟩
  ·exact .refl _
  ·exact addB_le _ _
  ·exact addM_le _ _
  ·rw [he] at g; cases g
 | own g as bs ms f args ts r hev hop hS=>exact addBs_le _ _
 | shared g as bs ms f args ts r hev hop hS=>exact ro_le _ _ _

theorem Kind.len {o : Oper} {ρ : Operand → AV} {v : AV} (h : Kind P T o ρ hp v hp') : hp.blocks.length ≤ hp'.blocks.length ∧ hp.maps.length ≤ hp'.maps.length := by
 cases he : isEff o ρ with
 | false=>exact ⟨(h.le he).blen,(h.le he).mlen⟩
 | true =>
  cases h with
  | op v h' hev =>
   rcases hpStep hev with rfl | ⟨k,rfl⟩ | ⟨k,rfl⟩ | ⟨_,⟨b,k,rfl⟩ | ⟨b,k,rfl⟩⟩
   ·exact ⟨Nat.le_refl _,Nat.le_refl _⟩
   ·exact ⟨(addB_le _ _).blen,(addB_le _ _).mlen⟩
   ·exact ⟨(addM_le _ _).blen,(addM_le _ _).mlen⟩
   ·simp [Hp.setB,setNth_eq]
   ·simp [setNth_eq]
  | own g as bs ms f args ts r hev hop hS=>rw [call_quiet hop] at he; cases he
  | shared g as bs ms f args ts r hev hop hS=>rw [call_quiet hop] at he; cases he

theorem Kind.pure {o : Oper} {ρ : Operand → AV} {v : AV} (h : Kind P T o ρ hp v hp') (hp0 : pureOp o = true) : hp' = hp ∧ ∀ h2,Kind P T o ρ h2 v h2 := by
 cases h with
 | op v h' hev =>
  obtain ⟨e,g⟩ := pure_any hp0 hev
  exact ⟨e,fun h2=>.op v h2 (g h2)⟩
 | own g as bs ms f args ts r hev hop hS=>unfold pureOp at hp0; rw [hop] at hp0; cases hp0
 | shared g as bs ms f args ts r hev hop hS=>unfold pureOp at hp0; rw [hop] at hp0; cases hp0

theorem Kind.soft {o : Oper} {ρ : Operand → AV} {v : AV} (h : Kind P T o ρ hp v hp') (hp0 : softOp o = true) : hp' = hp ∧ ∀ H,ShapeLe hp H → Kind P T o ρ H v H := by
 cases h with
 | op v h' hev =>
  obtain ⟨e,g⟩ := soft_any hp0 hev
  exact ⟨e,fun H hs=>.op v H (g H hs)⟩
 | own g as bs ms f args ts r hev hop hS=>unfold softOp at hp0; rw [hop] at hp0; cases hp0
 | shared g as bs ms f args ts r hev hop hS=>unfold softOp at hp0; rw [hop] at hp0; cases hp0

theorem Kind.store {o : Oper} {ρ : Operand → AV} {v : AV} (h : Kind P T o ρ hp v hp') (hp0 : storeOp o = true) : ShapeLe hp hp' ∧ ShapeLe hp' hp := by
 cases h with
 | op v h' hev=>exact store_shape hp0 hev
 | own g as bs ms f args ts r hev hop hS=>unfold storeOp at hp0; rw [hop] at hp0; cases hp0
 | shared g as bs ms f args ts r hev hop hS=>unfold storeOp at hp0; rw [hop] at hp0; cases hp0

theorem Kind.read {o : Oper} {ρ : Operand → AV} {v : AV} {b : Operand} (h : Kind P T o ρ hp v hp') (hp0 : readBase o = some b) : hp' = hp ∧ ∀ H,SameAt (ρ b) hp H → Kind P T o ρ H v H := by
 cases h with
 | op v h' hev =>
  obtain ⟨e,g⟩ := read_any hp0 hev
  exact ⟨e,fun H hs=>.op v H (g H hs)⟩
 | own g as bs ms f args ts r hev hop hS=>unfold readBase at hp0; rw [hop] at hp0; cases hp0
 | shared g as bs ms f args ts r hev hop hS=>unfold readBase at hp0; rw [hop] at hp0; cases hp0

theorem Kind.readable {o : Oper} {ρ : Operand → AV} {v : AV} {b : Operand} (h : Kind P T o ρ hp v hp') (hb : readBase o = some b) : heapFree (ρ b) = true ∨ ∃ i,blockOf (ρ b) = some i := by
 cases h with
 | own g as bs ms f args ts r hev hop hS=>unfold readBase at hb; rw [hop] at hb; cases hb
 | shared g as bs ms f args ts r hev hop hS=>unfold readBase at hb; rw [hop] at hb; cases hb
 | op v h' hev =>
  unfold readBase at hb
  unfold opEv at hev
  split at hb
  case h_4=>cases hb
  ·rename_i t a hop
   cases hb
   simp only [hop] at hev
   split at hev
   ·split at hev
    ·rename_i hx; rw [hx]; exact .inr ⟨_,rfl⟩
    ·rename_i hx; rw [hx]; exact .inl rfl
    ·exact hev.elim
   ·exact hev.elim
  ·rename_i t x lo hi hop
   cases hb
   ·simp only [hop] at hev
    split at hev
    ·split at hev
     ·split at hev
      ·rename_i hx; rw [hx]; exact .inl rfl
      ·rename_i hx; rw [hx]; exact .inr ⟨_,rfl⟩
      ·exact hev.elim
     ·exact hev.elim
    ·split at hev
     ·rename_i hx; rw [hx]; exact .inl rfl
     ·exact hev.elim
    ·split at hev
     ·rename_i hx; rw [hx]; exact .inr ⟨_,rfl⟩
     ·exact hev.elim
    ·exact hev.elim
  ·rename_i args ts hop
   simp only [hop] at hev
   rw [hb] at hev
   split at hev
   ·rename_i t x ht hx
    cases hx
    split at hev <;> rename_i hT1 hr <;> first
     | (rw [hr]; exact .inl rfl)
     | (rw [hr]; exact .inr ⟨_,rfl⟩)
     | exact hev.elim
   ·exact hev.elim

theorem read_quiet {o : Oper} {b : Operand} (h : readBase o = some b) (ρ : Operand → AV) : isEff o ρ = false := by
 unfold readBase at h
 unfold isEff
 split at h <;> rename_i hop <;> first | rw [hop] | cases h

theorem PeekAt.read {o : Oper} {x : AV} {h H : Hp} (hs : softOp o = false) (e : PeekAt o x h H) : SameAt x h H := by
 rcases e with e | ⟨i,e1,e2⟩
 ·exact .inl e
 ·refine .inr ⟨i,e1,fun k hk=>?_⟩
  obtain ⟨k',g1,g2⟩ := e2 k hk
  unfold PeekR at g2
  rw [hs] at g2
  exact ⟨k',g1,g2⟩
theorem read_hard {o : Oper} {b : Operand} (h : readBase o = some b) : softOp o = false := by
  unfold readBase at h
  split at h <;> first | (rename_i hop; simp [softOp,hop]; done) | cases h
theorem Kind.peek {o : Oper} {ρ : Operand → AV} {v : AV} {b : Operand} (h : Kind P T o ρ hp v hp') (hp0 : peekBase o = some b) : hp' = hp ∧ ∀ H,PeekAt o (ρ b) hp H → Kind P T o ρ H v H := by
 unfold peekBase at hp0
 cases hr : readBase o with
 | some b' =>
  rw [hr] at hp0
  cases hp0
  exact ⟨(h.read hr).1,fun H e=>(h.read hr).2 H (e.read (read_hard hr))⟩
 | none =>
  rw [hr] at hp0
  cases h with
  | op v h' hev =>
   obtain ⟨e,g⟩ := soft_peek hp0 hev
   exact ⟨e,fun H hs=>.op v H (g H hs)⟩
  | own g as bs ms f args ts r hev hop hS=>simp only [softBase,hop] at hp0; cases hp0
  | shared g as bs ms f args ts r hev hop hS=>simp only [softBase,hop] at hp0; cases hp0
theorem peek_quiet {o : Oper} {b : Operand} (h : peekBase o = some b) (ρ : Operand → AV) : isEff o ρ = false := by
 unfold peekBase at h
 cases hr : readBase o with
 | some b'=>exact read_quiet hr ρ
 | none =>
  rw [hr] at h
  unfold isEff
  simp only [softBase] at h
  split at h <;> rename_i hop <;> first | rw [hop] | cases h
theorem Kind.peekable {o : Oper} {ρ : Operand → AV} {v : AV} {b : Operand} (h : Kind P T o ρ hp v hp') (hb : peekBase o = some b) : heapFree (ρ b) = true ∨ ∃ i,blockOf (ρ b) = some i := by
 unfold peekBase at hb
 cases hr : readBase o with
 | some b'=>rw [hr] at hb; cases hb; exact h.readable hr
 | none =>
  rw [hr] at hb
  replace hb : softBase o = some b := hb
  cases h with
  | own g as bs ms f args ts r hev hop hS=>simp only [softBase,hop] at hb; cases hb
  | shared g as bs ms f args ts r hev hop hS=>simp only [softBase,hop] at hb; cases hb
  | op v h' hev =>
   unfold softBase at hb
   unfold opEv at hev
   split at hb
   case h_3=>cases hb
   all_goals rename_i hop
   all_goals cases hb
   all_goals simp only [hop] at hev
   all_goals try simp only [Bool.cond_eq_ite] at hev
   all_goals (repeat' split at hev)
   all_goals simp only [Res.gives] at hev
   all_goals first
    | exact hev.elim
    | (simp_all [heapFree,blockOf]; done)
theorem Kind.new {o : Oper} {ρ : Operand → AV} {v : AV} (h : Kind P T o ρ hp v hp') (hn : newOp o = true) : ∃ (k : AB) (V : Nat → AV),(∀ n,blockOf (V n) = some n ∧ heapFree (V n) = false) ∧ v = V hp.blocks.length ∧ hp' = hp.addB k ∧ ∀ H : Hp,Kind P T o ρ H (V H.blocks.length) (H.addB k) := by
 cases h with
 | own g as bs ms f args ts r hev hop hS=>simp only [newOp,hop] at hn; cases hn
 | shared g as bs ms f args ts r hev hop hS=>simp only [newOp,hop] at hn; cases hn
 | op v h' hev =>
  unfold newOp at hn
  have hev0 := hev
  unfold opEv at hev
  split at hn
  case h_4=>cases hn
  ·rename_i t hop
   simp only [hop] at hev
   simp only [forceNr_eq,forceC_eq] at hev
   split at hev
   ·rename_i ti ht
    refine ⟨_,fun n=>.optr n 0 0 0,fun n=>⟨rfl,rfl⟩,hev.1.symm,hev.2.symm,fun H=>.op _ _ ?_⟩
    unfold opEv
    simp only [hop,forceNr_eq,forceC_eq,ht]
    exact ⟨rfl,rfl⟩
   ·exact hev.elim
  ·rename_i t x hop
   simp only [hop] at hev
   simp only [forceNr_eq,forceC_eq,forceT_eq,Bool.cond_eq_ite] at hev
   split at hev
   ·rename_i ti ht
    split at hev
    ·rename_i hc
     refine ⟨_,fun n=>.optr n 0 0 0,fun n=>⟨rfl,rfl⟩,hev.1.symm,hev.2.symm,fun H=>.op _ _ ?_⟩
     unfold opEv
     simp only [hop,forceNr_eq,forceC_eq,forceT_eq,Bool.cond_eq_ite,ht,if_pos hc]
     exact ⟨rfl,rfl⟩
    ·exact hev.elim
   ·exact hev.elim
  ·rename_i t len parts hop
   simp only [hop] at hev
   simp only [forceNr_eq,forceC_eq,forceT_eq,Bool.cond_eq_ite] at hev
   split at hev
   ·rename_i e _ _ _ _ ht
    split at hev
    ·rename_i ei he
     split at hev
     ·rename_i l hl
      split at hev
      ·rename_i hc
       refine ⟨_,fun n=>.oslice n 0 0 len (some len),fun n=>⟨rfl,rfl⟩,hev.1.symm,hev.2.symm,fun H=>.op _ _ ?_⟩
       unfold opEv
       simp only [hop,forceNr_eq,forceC_eq,forceT_eq,Bool.cond_eq_ite,ht,he,hl,if_pos hc]
       exact ⟨rfl,rfl⟩
      ·exact hev.elim
     ·exact hev.elim
    ·exact hev.elim
   ·exact hev.elim
theorem new_quiet {o : Oper} (h : newOp o = true) (ρ : Operand → AV) : isEff o ρ = false := by
 unfold newOp at h
 unfold isEff
 split at h <;> rename_i hop <;> first | rw [hop] | cases h

theorem Kind.target {o : Oper} {ρ : Operand → AV} {v : AV} {t : Operand} (h : Kind P T o ρ hp v hp') (he : isEff o ρ = true) (ht : effTarget o = some t) : ∃ b k',blockOf (ρ t) = some b ∧ hp' = hp.setB b k' := by
 cases h with
 | own g as bs ms f args ts r hev hop hS=>rw [call_quiet hop] at he; cases he
 | shared g as bs ms f args ts r hev hop hS=>rw [call_quiet hop] at he; cases he
 | op v h' hev =>
  unfold effTarget at ht
  unfold opEv at hev
  split at ht
  ·rename_i t' a x hop
   cases ht
   simp only [hop] at hev
   simp only [Bool.cond_eq_ite,forceC_eq,forceT_eq] at hev
   repeat' split at hev
   all_goals simp only [Res.gives] at hev
   all_goals first
    | exact hev.elim
    | (rename_i hx _ _ _ _ _ _ _ _ _; exact ⟨_,_,by rw [hx]; rfl,hev.2.symm⟩)
    | (rename_i hx _ _ _ _ _ _ _ _; exact ⟨_,_,by rw [hx]; rfl,hev.2.symm⟩)
    | (rename_i hx _ _ _ _ _ _ _; exact ⟨_,_,by rw [hx]; rfl,hev.2.symm⟩)
    | (rename_i hx _ _ _ _ _ _; exact ⟨_,_,by rw [hx]; rfl,hev.2.symm⟩)
    | (rename_i hx _ _ _ _ _; exact ⟨_,_,by rw [hx]; rfl,hev.2.symm⟩)
    | (rename_i hx _ _ _ _; exact ⟨_,_,by rw [hx]; rfl,hev.2.symm⟩)
    | (rename_i hx _ _ _ _ _ _ _ _; obtain ⟨G',hG,hv,e⟩ := hev; exact ⟨_,_,by rw [hx]; rfl,e.symm⟩)
    | (rename_i hx _ _ _ _ _ _ _; obtain ⟨G',hG,hv,e⟩ := hev; exact ⟨_,_,by rw [hx]; rfl,e.symm⟩)
    | (rename_i hx _ _ _ _ _ _; obtain ⟨G',hG,hv,e⟩ := hev; exact ⟨_,_,by rw [hx]; rfl,e.symm⟩)
    | (rename_i hx _ _ _ _ _; obtain ⟨G',hG,hv,e⟩ := hev; exact ⟨_,_,by rw [hx]; rfl,e.symm⟩)
    | (rename_i hx _ _ _ _; obtain ⟨G',hG,hv,e⟩ := hev; exact ⟨_,_,by rw [hx]; rfl,e.symm⟩)
    | (rename_i hx _ _ _; obtain ⟨G',hG,hv,e⟩ := hev; exact ⟨_,_,by rw [hx]; rfl,e.symm⟩)
  ·rename_i args ts hop
   unfold isEff at he
   rw [hop] at he
   simp only at he
   simp only [hop] at hev
   obtain ⟨la⟩ := args
   match la,ht with
   | [],ht=>simp [nth?] at ht
   | os :: rest, ht =>
    simp only [nth?,Option.some.injEq] at ht
    subst ht
    simp only [List.map_cons] at he hev
    generalize ρ os = xs at he hev ⊢
    split at he
    ·rename_i b ver off len rst heq
     simp only [List.cons.injEq] at heq
     obtain ⟨rfl,_⟩ := heq
     simp only [Bool.cond_eq_ite] at hev
     repeat' split at hev
     all_goals try simp only [Res.gives] at hev
     all_goals first
      | exact hev.elim
      | (rename_i q; simp at q; done)
      | (rename_i q _ _ _ _; simp at q; done)
      | (rename_i q _; simp at q; done)
      | (rename_i q _ _ _ _; simp only [List.cons.injEq,AV.oslice.injEq] at q; obtain ⟨⟨rfl,_⟩,_⟩ := q; rcases hev with ⟨_,_,e⟩ | ⟨_,_,e⟩ <;> exact ⟨_,_,rfl,e.symm⟩)
    ·cases he
  ·cases ht

theorem soft_quiet {o : Oper} (h : softOp o = true) (ρ : Operand → AV) : isEff o ρ = false := by
 unfold softOp at h
 unfold isEff
 split at h <;> rename_i hop <;> first | rw [hop] | cases h

theorem pure_quiet {o : Oper} (h : pureOp o = true) (ρ : Operand → AV) : isEff o ρ = false := by
 unfold pureOp at h
 unfold isEff
 split at h <;> rename_i hop <;> first | rw [hop] | cases h

theorem kind_ok (hT : TOK P T) (h : HR P base w c hp) (hg : GOk P w c.p) (hbase : base ≤ w.heap.size) {o : Oper} {a : Act} {ρ : Operand → AV} {v : AV} (hρ : ∀ x ∈ o.op.operands,VR P w c (ρ x) (a.eval x)) (hk : Kind P T o ρ hp v hp')
  (hro : isEff o ρ = true → RO c hp) (hfree : ∀ b,hp.blocks.length ≤ b → b < hp'.blocks.length → c.O b = none) (hfreeM : ∀ b,hp.maps.length ≤ b → b < hp'.maps.length → c.N b = none)
  {next : Act → World → Prop} {Q : Exit → Act → World → Prop}
  (hn : ∀ u w' c',((isEff o ρ = false ∧ QOut P base w c hp w' c' hp') ∨ (isEff o ρ = true ∧ EOut P base w c hp w' c' hp')) → VR P w' c' v u → next (a.put o.dst u) w') : o.wp P a w next Q := by
 have calls : ∀ (g : FuncId) (as : List AV) (bs ms : List Nat) (f : Operand) (args : Array Operand) (ts : Array TypeId) (r : AV) (fr : Bool),opEv T o ρ hp = .call g as bs ms → o.op = .call { callee := .value f,args,argTypes := ts } → Sound1 P g as r fr →
   (fr = true → ∀ b,hp.blocks.length ≤ b → b < hp.blocks.length + (adopt r hp.blocks.length).2.length → c.O b = none) →
   (∀ u w' c',(match fr with
    | true=>QOut P base w c hp w' c' { hp with blocks := hp.blocks ++ (adopt r hp.blocks.length).2 } ∧ VR P w' c' (adopt r hp.blocks.length).1 u
    | false=>QOut P base w c hp w' c' (roHp hp bs ms) ∧ VR P w' c' r u) → next (a.put o.dst u) w') → o.wp P a w next Q := by
  intro g as bs ms f args ts r fr hev hop hS hf hnn
  obtain ⟨vs,g1,g2⟩ := op_call h hg hbase hop (hρ f (by rw [hop]; simp [Op.operands,Call.operands])) (fun x hx=>hρ x (by rw [hop]; simp [Op.operands,Call.operands,hx])) hev hS hf
  unfold Oper.wp
  rw [g1]
  refine Calls.mono g2 ?_
  rintro e w' ⟨u,rfl,c',hres⟩
  cases fr with
  | true=>exact hnn u w' c' hres
  | false=>exact hnn u w' c' hres
 cases hk with
 | own g as bs ms f args ts r hev hop hS =>
  refine calls g as bs ms f args ts r true hev hop hS (fun _ b h1 h2=>hfree b h1 (by simpa using h2)) fun u w' c' hres=>hn u w' c' (.inl ⟨call_quiet hop _,hres.1⟩) hres.2
 | shared g as bs ms f args ts r hev hop hS =>
  refine calls g as bs ms f args ts _ false hev hop hS (fun e=>by cases e) fun u w' c' hres=>hn u w' c' (.inl ⟨call_quiet hop _,hres.1⟩) hres.2
 | op v h' hev =>
  cases he : isEff o ρ with
  | false =>
   obtain ⟨u,w',c',g1,g2,g3⟩ := quiet_op hT h hbase (fun _=>rfl) hρ he hev hfree hfreeM
   unfold Oper.wp
   rw [g1]
   exact hn u w' c' (.inl ⟨he,g2⟩) g3
  | true =>
   have hRO := hro he
   have he0 := he
   unfold isEff at he
   split at he
   ·rename_i t x y hop
    obtain ⟨w',c',g1,g2,rfl⟩ := eff_store hT h hRO hbase hop (hρ x (by rw [hop]; simp [Op.operands])) (hρ y (by rw [hop]; simp [Op.operands])) hev
    unfold Oper.wp
    rw [g1]
    exact hn _ w' c' (.inr ⟨he0,g2⟩) (.tree (.top _))
   ·rename_i t x y z hop
    obtain ⟨w',c',g1,g2,rfl⟩ := eff_mapUpdate hT h hRO (.inl hop) (hρ x (by rw [hop]; simp [Op.operands])) (hρ y (by rw [hop]; simp [Op.operands])) (hρ z (by rw [hop]; simp [Op.operands])) hev
    unfold Oper.wp
    rw [g1]
    exact hn _ w' c' (.inr ⟨he0,g2⟩) (.tree (.top _))
   ·rename_i t x y z hop
    obtain ⟨w',c',g1,g2,rfl⟩ := eff_mapUpdate hT h hRO (.inr hop) (hρ x (by rw [hop]; simp [Op.operands])) (hρ y (by rw [hop]; simp [Op.operands])) (hρ z (by rw [hop]; simp [Op.operands])) hev
    unfold Oper.wp
    rw [g1]
    exact hn _ w' c' (.inr ⟨he0,g2⟩) (.tree (.top _))
   ·rename_i x y hop
    exfalso
    unfold opEv at hev
    rw [hop] at hev
    simp only [Bool.cond_eq_ite] at hev
    (repeat' split at hev) <;> exact hev
   ·rename_i args ts hop
    obtain ⟨u,w',c',g1,g2,g3⟩ := eff_clear hT h hRO hbase hop (fun x hx=>hρ x (by rw [hop]; simp [Op.operands,Call.operands,hx])) hev
    unfold Oper.wp
    rw [g1]
    exact hn u w' c' (.inr ⟨he0,g2⟩) g3
   ·rename_i args ts hop
    obtain ⟨u,w',c',g1,g2,g3⟩ := append_eff hT h hRO hbase hop (fun x hx=>hρ x (by rw [hop]; simp [Op.operands,Call.operands,hx])) he0 hev
    unfold Oper.wp
    rw [g1]
    exact hn u w' c' (.inr ⟨he0,g2⟩) g3
   ·cases he

theorem HR.grow (h : HR P base w c hp) (hi : ∀ b oi,c.O b = some oi → b < hp.blocks.length) (hiM : ∀ b r,c.N b = some r → b < hp.maps.length) (e : HpLe hp hp') : HR P base w c hp' := by
 refine ⟨fun b k oi hk hO=>?_,h.sep,h.own,h.st,fun b m r hm hN=>?_,h.mown,h.msep,h.bm⟩
 ·have hlt := hi b oi hO
  obtain ⟨k',hk',er⟩ := e.b b _ (List.getElem?_eq_getElem hlt)
  rw [hk] at hk'
  cases hk'
  exact (h.blk b _ oi (List.getElem?_eq_getElem hlt) hO).ro er
 ·have hlt := hiM b r hN
  obtain ⟨k',hk',er⟩ := e.m b _ (List.getElem?_eq_getElem hlt)
  rw [hm] at hk'
  cases hk'
  exact (h.maps b _ r (List.getElem?_eq_getElem hlt) hN).ro er

theorem HR.back (h : HR P base w c hp') (e : HpLe hp hp') : HR P base w c hp := by
 refine ⟨fun b k oi hk hO=>?_,h.sep,h.own,h.st,fun b m r hm hN=>?_,h.mown,h.msep,h.bm⟩
 ·obtain ⟨k',hk',er⟩ := e.b b _ hk
  exact (h.blk b k' oi hk' hO).ro' er
 ·obtain ⟨k',hk',er⟩ := e.m b _ hm
  exact (h.maps b k' r hk' hN).ro' er

theorem ro_true {k k' : AB} (e : ABro k k') (h : k.ro = true) : k'.ro = true := by rcases e with rfl | rfl; exact h; rfl
theorem ro_trueM {k k' : AM} (e : AMro k k') (h : k.ro = true) : k'.ro = true := by rcases e with rfl | rfl; exact h; rfl

theorem RO.grow (h : RO c hp) (e : HpLe hp hp') : RO c hp' :=
  ⟨fun b oi h1 h2 h3=>by obtain ⟨k,hk,hr⟩ := h.b b oi h1 h2 h3; obtain ⟨k',hk',er⟩ := e.b b k hk; exact ⟨k',hk',ro_true er hr⟩,
   fun b r h1 h3=>by obtain ⟨k,hk,hr⟩ := h.m b r h1 h3; obtain ⟨k',hk',er⟩ := e.m b k hk; exact ⟨k',hk',ro_trueM er hr⟩⟩

theorem QOut.beside {H H' : Hp} (q : QOut P base w c hp w' c' hp') (h : HR P base w c H) (ro : RO c H) (hi : ∀ b oi,c.O b = some oi → b < H.blocks.length) (hiM : ∀ b r,c.N b = some r → b < H.maps.length) (e : HpLe H H') (e' : HpLe hp' H') :
  HR P base w' c' H' ∧ RO c' H' := by
 refine ⟨⟨fun b k oi hk hO=>?_,q.hr.sep,q.hr.own,q.hr.st,fun b m r hm hN=>?_,q.hr.mown,q.hr.msep,q.hr.bm⟩,⟨fun b oi h1 h2 h3=>?_,fun b r h1 h3=>?_⟩⟩
 ·rcases q.oNew b oi hO with hO0 | ⟨_,hlt⟩
  ·have hlt := hi b oi hO0
   obtain ⟨k',hk',er⟩ := e.b b _ (List.getElem?_eq_getElem hlt)
   rw [hk] at hk'
   cases hk'
   exact (h.blk_old q.ext (List.getElem?_eq_getElem hlt) hO0).ro er
  ·obtain ⟨k',hk',er⟩ := e'.b b _ (List.getElem?_eq_getElem hlt)
   rw [hk] at hk'
   cases hk'
   exact (q.hr.blk b _ oi (List.getElem?_eq_getElem hlt) hO).ro er
 ·rcases q.nNew b r hN with hN0 | ⟨_,hlt⟩
  ·have hlt := hiM b r hN0
   obtain ⟨k',hk',er⟩ := e.m b _ (List.getElem?_eq_getElem hlt)
   rw [hm] at hk'
   cases hk'
   exact (h.map_old q.ext (List.getElem?_eq_getElem hlt) hN0).ro er
  ·obtain ⟨k',hk',er⟩ := e'.m b _ (List.getElem?_eq_getElem hlt)
   rw [hm] at hk'
   cases hk'
   exact (q.hr.maps b _ r (List.getElem?_eq_getElem hlt) hN).ro er
 ·rcases q.ro b oi h1 h2 h3 with ⟨g1,g2⟩ | ⟨k,hk,hr⟩
  ·obtain ⟨k,hk,hr⟩ := ro.b b oi g1 h2 g2
   obtain ⟨k',hk',er⟩ := e.b b k hk
   exact ⟨k',hk',ro_true er hr⟩
  ·obtain ⟨k',hk',er⟩ := e'.b b k hk
   exact ⟨k',hk',ro_true er hr⟩
 ·rcases q.rom b r h1 h3 with ⟨g1,g2⟩ | ⟨k,hk,hr⟩
  ·obtain ⟨k,hk,hr⟩ := ro.m b r g1 g2
   obtain ⟨k',hk',er⟩ := e.m b k hk
   exact ⟨k',hk',ro_trueM er hr⟩
  ·obtain ⟨k',hk',er⟩ := e'.m b k hk
   exact ⟨k',hk',ro_trueM er hr⟩
end
end Go.Tr

/- Regions that draw their order: any order leads where the order of the text leads. Conditions: none. -/
namespace Go.Tr
open Go Go.RowKit

variable [GTab]

structure Z where
 lk : Tmp → AV
 hp : Hp

def upd (lk : Tmp → AV) (d : Option Tmp) (v : AV) : Tmp → AV := fun t=>if d = some t then v else lk t

theorem look_put_upd (s : St) (d : Option Tmp) (v : AV) : look (s.put d v).tm = upd (look s.tm) d v := by
 funext t
 cases d with
 | none=>simp [St.put,upd]
 | some d=>rw [look_put]; simp [upd]

theorem hp_put (s : St) (d : Option Tmp) (v : AV) : (s.put d v).hp = s.hp := by cases d <;> rfl

theorem upd_known {lk : Tmp → AV} {t : Tmp} {v : AV} (h : lk t = v) : upd lk (some t) v = lk := by
 funext t'
 unfold upd
 split
 ·rename_i e; cases e; exact h.symm
 ·rfl

inductive Step (P : Program) (T : Nat → Option TI) (n : Nat) (ops : Array Oper) (st : (Operand → AV) → Option Bool) (o : Oper) (z : Z) : Z → Prop
 | run (v : AV) (h' : Hp) : (o.guard = none ∨ ∃ j t b, o.guard = some (j, b) ∧ (nth? ops.toList j).bind (·.dst) = some t ∧ z.lk t = .val (.bool b)) →
   slotOk n o.dst = true → (∃ b,st (evL z.lk) = some b ∧ (b = true ∨ isEff o (evL z.lk) = false)) → Kind P T o (evL z.lk) z.hp v h' → Step P T n ops st o z ⟨upd z.lk o.dst v,h'⟩
 | skip (j : Nat) (t : Tmp) (want : Bool) (v : Value) : o.guard = some (j,want) → (nth? ops.toList j).bind (·.dst) = some t → z.lk t = .val v → v ≠ .bool want → Step P T n ops st o z ⟨upd z.lk o.dst (.val undef),z.hp⟩

def zOf (s : St) : Z := ⟨look s.tm,s.hp⟩

section
variable {P : Program} {T : Nat → Option TI} {n : Nat} {ops : Array Oper} {st : Nat → (Operand → AV) → Option Bool} {K : St → Prop} {E : Env} (hS : ∀ f args r fr,E.S f args r fr → Sound1 P f args r fr)

include hS in
theorem one_step {stb : (Operand → AV) → Option Bool} {o : Oper} {s : St} {K : St → Prop} (hg : o.guard = none ∨ ∃ j t b,o.guard = some (j,b) ∧ (nth? ops.toList j).bind (·.dst) = some t ∧ look s.tm t = .val (.bool b)) (h : oneW E.plain T n stb o s K) : ∃ s',K s' ∧ Step P T n ops stb o (zOf s) (zOf s') ∧ s'.sv = s.sv := by
 unfold oneW at h
 simp only [putF_eq] at h
 split at h
 ·exact h.elim
 rename_i bb hbb
 split at h
 case h_2=>exact h.elim
 rename_i hs
 rw [Bool.and_eq_true,Bool.or_eq_true] at hs
 have hst : ∃ b,stb (evL (zOf s).lk) = some b ∧ (b = true ∨ isEff o (evL (zOf s).lk) = false) := by
  refine ⟨bb,by rw [eval_evL] at hbb; exact hbb,?_⟩
  rcases hs.2 with g | g
  ·exact .inl g
  ·right
   rw [eval_evL] at g
   simpa [zOf] using g
 have fin : ∀ v h',K (({ s with hp := h' } : St).put o.dst v) → Kind P T o (evL (zOf s).lk) (zOf s).hp v h' → ∃ s',K s' ∧ Step P T n ops stb o (zOf s) (zOf s') ∧ s'.sv = s.sv := fun v h' hk hkd=>by
  refine ⟨_,hk,?_,by cases o.dst <;> rfl⟩
  have e : zOf (({ s with hp := h' } : St).put o.dst v) = ⟨upd (zOf s).lk o.dst v,h'⟩ := by
   unfold zOf
   rw [look_put_upd,hp_put]
  rw [e]
  exact .run v h' hg hs.1 hst hkd
 unfold opW at h
 rw [eval_evL] at h
 split at h
 ·exact h.elim
 ·rename_i v h' hev
  exact fin v h' h (.op v h' (by show (opEv T o (evL (look s.tm)) s.hp).gives v h'; rw [hev]; exact ⟨rfl,rfl⟩))
 ·rename_i p v h' hev
  exact fin v h' h.2 (.op v h' (by show (opEv T o (evL (look s.tm)) s.hp).gives v h'; rw [hev]; exact ⟨h.1,rfl,rfl⟩))
 ·rename_i h0 b k g fl hev
  obtain ⟨G',hG,h⟩ := h
  exact fin _ _ h (.op _ _ (by show (opEv T o (evL (look s.tm)) s.hp).gives _ _; rw [hev]; exact ⟨G',hG,rfl,rfl⟩))
 ·rename_i p _ v h' p' _ v' h'' hev
  rcases h with ⟨h0,h⟩ | ⟨h0,h⟩
  ·exact fin v h' h (.op v h' (by show (opEv T o (evL (look s.tm)) s.hp).gives v h'; rw [hev]; exact .inl ⟨h0,rfl,rfl⟩))
  ·exact fin v' h'' h (.op v' h'' (by show (opEv T o (evL (look s.tm)) s.hp).gives v' h''; rw [hev]; exact .inr ⟨h0,rfl,rfl⟩))
 ·exact h.elim
 ·exact h.elim
 ·exact h.elim
 ·exact h.elim
 ·rename_i p _ b h' hev
  have h : p ∧ K ((({ s with hp := h' } : St)).put o.dst (.val (.bool b))) := h
  exact fin _ h' h.2 (.op _ h' (by show (opEv T o (evL (look s.tm)) s.hp).gives _ h'; rw [hev]; exact ⟨h.1,rfl,rfl⟩))
 ·rename_i g as bs ms hev
  split at h
  case h_2=>exact h.elim
  rename_i f args ts hop
  rcases h with ⟨r,fr,hS',hk⟩ | hf | hf | hf
  ·cases fr with
   | true=>exact fin _ _ hk (.own g as bs ms f args ts r hev hop (hS _ _ _ _ hS'))
   | false=>exact fin _ _ hk (.shared g as bs ms f args ts r hev hop (hS _ _ _ _ hS'))
  ·obtain ⟨lf,hf⟩ := hf; (split at hf <;> exact hf.elim)
  ·obtain ⟨lf,hf⟩ := hf
   split at hf
   ·split at hf
    ·exact hf.2.2.2.1.elim
    ·exact hf.elim
   ·exact hf.elim
  ·cases hf.1
 ·split at h
  ·exact h.elim
  ·exact h.elim

include hS in
theorem trace_of : ∀ (l : List Oper) (i : Nat) (s : St),opsW E.plain T n st ops K i l s →
  ∃ zs : Nat → Z,zs i = zOf s ∧ (∀ (k : Nat) o,l[k]? = some o → Step P T n ops (st (i + k)) o (zs (i + k)) (zs (i + k + 1))) ∧ ∃ s',K s' ∧ zOf s' = zs (i + l.length) ∧ s'.sv = s.sv
 | [],i,s,h=>⟨fun _=>zOf s,rfl,fun k o hk=>by simp at hk,s,h,rfl,rfl⟩
 | o :: r, i, s, h => by
  have go : ∀ s1,(∃ s2,opsW E.plain T n st ops K (i + 1) r s2 ∧ Step P T n ops (st i) o (zOf s1) (zOf s2) ∧ s2.sv = s1.sv) → zOf s1 = zOf s → s1.sv = s.sv →
    ∃ zs : Nat → Z,zs i = zOf s ∧ (∀ (k : Nat) o',(o :: r)[k]? = some o' → Step P T n ops (st (i + k)) o' (zs (i + k)) (zs (i + k + 1))) ∧ ∃ s',K s' ∧ zOf s' = zs (i + (o :: r).length) ∧ s'.sv = s.sv := by
   rintro s1 ⟨s2,hw,hst,hsv⟩ heq hsv1
   obtain ⟨zs,g1,g2,s',g3,g4,g5⟩ := trace_of r (i + 1) s2 hw
   refine ⟨fun k=>if k ≤ i then zOf s else zs k,if_pos (Nat.le_refl _),fun k o' hk=>?_,s',g3,?_,g5.trans (hsv.trans hsv1)⟩
   ·cases k with
    | zero =>
     simp at hk
     subst hk
     dsimp only
     simp only [Nat.add_zero]
     rw [if_pos (Nat.le_refl _),if_neg (by omega),g1,← heq]
     exact hst
    | succ k =>
     have := g2 k o' (by simpa using hk)
     dsimp only
     rw [if_neg (by omega),if_neg (by omega)]
     rw [show i + (k + 1) = i + 1 + k from by omega]
     exact this
   ·dsimp only
    rw [if_neg (by simp)]
    rw [g4]
    congr 1
    simp; omega
  have known : ∀ t b,look s.tm t = .val (.bool b) → zOf (s.put (some t) (.val (.bool b))) = zOf s := fun t b ht=>by
   unfold zOf
   rw [look_put_upd,hp_put,upd_known ht]
  unfold opsW at h
  simp only [putF_eq] at h
  split at h
  ·rename_i hg
   exact go s (one_step hS (.inl hg) h) rfl rfl
  ·rename_i j want hg
   split at h
   ·exact h.elim
   ·rename_i t ht
    split at h
    ·rename_i b hl
     have hk := known t b hl
     have hl' : look (s.put (some t) (.val (.bool b))).tm t = .val (.bool b) := by rw [look_put]; simp
     have skip : want = !b → opsW E.plain T n st ops K (i + 1) r ((s.put (some t) (.val (.bool b))).put o.dst (.val undef)) → ∃ s2,opsW E.plain T n st ops K (i + 1) r s2 ∧ Step P T n ops (st i) o (zOf (s.put (some t) (.val (.bool b)))) (zOf s2) ∧ s2.sv = (s.put (some t) (.val (.bool b))).sv := fun hwb hw=>by
      refine ⟨_,hw,?_,by cases o.dst <;> rfl⟩
      have e : zOf ((s.put (some t) (.val (.bool b))).put o.dst (.val undef)) = ⟨upd (zOf (s.put (some t) (.val (.bool b)))).lk o.dst (.val undef),(zOf (s.put (some t) (.val (.bool b)))).hp⟩ := by
       unfold zOf
       rw [look_put_upd,hp_put]
      rw [e]
      exact .skip j t want (.bool b) hg ht hl' (by rw [hwb]; cases b <;> simp)
     cases b <;> cases want <;> simp only [ifB] at h
     ·exact go _ (one_step hS (.inr ⟨j,t,false,hg,ht,hl'⟩) h) hk rfl
     ·exact go _ (skip rfl h) hk rfl
     ·exact go _ (skip rfl h) hk rfl
     ·exact go _ (one_step hS (.inr ⟨j,t,true,hg,ht,hl'⟩) h) hk rfl
    ·rename_i vs hl
     refine go s ⟨_,h,?_,by cases o.dst <;> rfl⟩ rfl rfl
     have e : zOf (s.put o.dst (.val undef)) = ⟨upd (zOf s).lk o.dst (.val undef),(zOf s).hp⟩ := by
      unfold zOf
      rw [look_put_upd,hp_put]
     rw [e]
     exact .skip j t want (.tuple vs) hg ht hl (by simp)
    ·exact h.elim
end

def bitsOf (acc : List Nat) (o : Oper) : Nat := o.after.toList.foldl (fun s e=>bif Region.binds .any e then s ||| 2 ^ e.on ||| acc.getD e.on 0 else s) 0

theorem foldl_bits (acc : List Nat) (i : Nat) : ∀ (l : List Edge) (s : Nat),(l.foldl (fun s e=>bif Region.binds .any e then s ||| 2 ^ e.on ||| acc.getD e.on 0 else s) s).testBit i = true →
  s.testBit i = true ∨ ∃ e ∈ l,Region.binds .any e = true ∧ (i = e.on ∨ (acc.getD e.on 0).testBit i = true)
 | [],s,h=>.inl h
 | e :: l, s, h => by
  rcases foldl_bits acc i l _ h with g | ⟨e',he',hb,g⟩
  ·dsimp only at g
   cases hb : Region.binds .any e with
   | false=>rw [hb] at g; exact .inl g
   | true =>
    rw [hb] at g
    simp only [cond_true,Nat.testBit_or,Nat.testBit_two_pow,Bool.or_eq_true,decide_eq_true_eq] at g
    rcases g with (g | g) | g
    ·exact .inl g
    ·exact .inr ⟨e,.head _,hb,.inl g.symm⟩
    ·exact .inr ⟨e,.head _,hb,.inr g⟩
  ·exact .inr ⟨e',.tail _ he',hb,g⟩

theorem befores_get : ∀ (l : List Oper) (acc : List Nat),(∀ k,k < acc.length → (befores l acc).getD k 0 = acc.getD k 0) ∧ ∀ (k : Nat) o,l[k]? = some o → ∃ acc' : List Nat,(∀ q,acc'.getD q 0 = (befores l acc).getD q 0 ∨ acc'.getD q 0 = 0) ∧ (befores l acc).getD (acc.length + k) 0 = bitsOf acc' o
 | [],acc=>⟨fun k _=>rfl,fun k o h=>by simp at h⟩
 | o :: r, acc => by
  obtain ⟨g1,g2⟩ := befores_get r (acc ++ [bitsOf acc o])
  have he : befores (o :: r) acc = befores r (acc ++ [bitsOf acc o]) := rfl
  rw [he]
  refine ⟨fun k hk=>?_,fun k o' hk=>?_⟩
  ·rw [g1 k (by simp; omega)]
   simp [List.getD_eq_getElem?_getD,List.getElem?_append_left hk]
  ·cases k with
   | zero =>
    simp at hk
    subst hk
    refine ⟨acc,fun q=>?_,?_⟩
    ·by_cases hq : q < acc.length
     ·left; rw [g1 q (by simp; omega)]; simp [List.getD_eq_getElem?_getD,List.getElem?_append_left hq]
     ·right; simp [List.getD_eq_getElem?_getD,List.getElem?_eq_none (show acc.length ≤ q from by omega)]
    ·rw [g1 _ (by simp)]; simp [List.getD_eq_getElem?_getD]
   | succ k =>
    obtain ⟨acc',h1,h2⟩ := g2 k o' (by simpa using hk)
    refine ⟨acc',h1,?_⟩
    rw [← h2]
    congr 1
    simp; omega

theorem before_inv {ops : Array Oper} {i j : Nat} {o : Oper} (ho : ops[j]? = some o) (h : isBefore (befores ops.toList []) i j = true) : ∃ e ∈ o.after,Region.binds .any e = true ∧ (i = e.on ∨ isBefore (befores ops.toList []) i e.on = true) := by
 obtain ⟨_,g⟩ := befores_get ops.toList []
 obtain ⟨acc',h1,h2⟩ := g j o (by simpa using ho)
 unfold isBefore at h
 rw [show ([] : List Nat).length + j = j from by simp] at h2
 rw [h2] at h
 rcases foldl_bits acc' i _ _ h with g | ⟨e,he,hb,g⟩
 ·simp at g
 ·refine ⟨e,by simpa using he,hb,?_⟩
  rcases g with g | g
  ·exact .inl g
  ·right
   unfold isBefore
   rcases h1 e.on with q | q
   ·rw [← q]; exact g
   ·rw [q] at g; simp at g
end Go.Tr

/- Regions that draw their order, the proof: the invariant, a step, the end. Conditions: the program's rules take any order. -/
namespace Go.Tr
open Go Go.RowKit

variable [GTab]

theorem row_pair {gl : List (Nat × Nat)} {ops : Array Oper} {bf : List Nat} {j : Nat} {y : Oper} : ∀ (l : List Oper) (i0 : Nat),rowOk gl ops bf j y i0 l = true → ∀ (k : Nat) x,l[k]? = some x → i0 + k < j → pairOk gl ops bf (i0 + k) j x y = true
 | [],_,_,k,x,hk,_=>by simp at hk
 | a :: r, i0, h, k, x, hk, hlt => by
  unfold rowOk at h
  have h0 : Nat.blt i0 j = true := by rw [Nat.blt_eq]; omega
  rw [h0,cond_true,Bool.and_eq_true] at h
  cases k with
  | zero=>simp at hk; subst hk; exact h.1
  | succ k =>
   have := row_pair r (i0 + 1) h.2 k x (by simpa using hk) (by omega)
   rwa [show i0 + 1 + k = i0 + (k + 1) from by omega] at this

theorem all_pair {gl : List (Nat × Nat)} {ops : Array Oper} {bf : List Nat} : ∀ (l : List Oper) (j0 : Nat),allOk gl ops bf j0 l = true → ∀ (k : Nat) y,l[k]? = some y →
  (∀ (i : Nat) x,ops[i]? = some x → i < j0 + k → pairOk gl ops bf i (j0 + k) x y = true) ∧ (∀ e ∈ y.after,Region.binds .any e = true → e.on < j0 + k)
 | [],_,_,k,x,hk=>by simp at hk
 | a :: r, j0, h, k, y, hk => by
  unfold allOk at h
  simp only [Bool.and_eq_true] at h
  cases k with
  | zero =>
   simp at hk
   subst hk
   refine ⟨fun i x hx hlt=>?_,fun e he hb=>?_⟩
   ·have := row_pair ops.toList 0 h.1.1.1 i x (by simpa using hx) (by omega)
    simpa using this
   ·have := List.all_eq_true.1 h.1.1.2 e (by simpa using he)
    rw [hb] at this
    simpa using this
  | succ k =>
   have := all_pair r (j0 + 1) h.2 k y (by simpa using hk)
   rwa [show j0 + 1 + k = j0 + (k + 1) from by omega] at this

def In (listed : Array Bool) (j : Nat) : Prop := listed.getD j false = true
def Wr (ops : Array Oper) (j : Nat) (t : Tmp) : Prop := ∃ o,ops[j]? = some o ∧ o.dst = some t

theorem In_lt {listed : Array Bool} {j : Nat} (h : In listed j) : j < listed.size := by
 rcases Nat.lt_or_ge j listed.size with g | g
 ·exact g
 ·unfold In at h; simp [Array.getElem?_eq_none g] at h

theorem In_set {listed : Array Bool} {i j : Nat} (hi : i < listed.size) : In (listed.setIfInBounds i true) j ↔ (j = i ∨ In listed j) := by
 unfold In
 by_cases h : i = j
 ·subst h; simp [hi]
 ·rw [getD_set_ne false h]
  constructor
  ·exact .inr
  ·rintro (g | g)
   ·exact absurd g.symm h
   ·exact g

structure SideOk (P : Program) (F : Fr) (w0 : World) (sv0 : List (Nat × AV)) (j : Option Ex) (ny : Nat) (a : Act) (w : World) (c : Cx) : Prop where
 hy : ∀ i l,c.y i = some l → i < ny
 sv : ∀ i,VR P w c (look sv0 i) (F.X i)
 keep : ∀ x ∈ F.G,c.p x.1 ∧ w0.heap.size ≤ x.1 ∧ w.heap[x.1]? = some x.2.1 ∧ ∀ i,x.2.2 = some i → c.y i = some x.1
 rcd : ∀ i l rc',F.rc = some (i,l,rc') → c.y i = some l ∧ c.p l ∧ w0.heap.size ≤ l ∧ w.heap[l]? = some (.loop (recAt rc' j))
 defers : ∃ ds : List Nat,a.defers = ds.map markOf ∧ ds.Nodup ∧ ∀ D ∈ ds,c.p D ∧ w0.heap.size ≤ D ∧ w.heap[D]? = some (.deferred (some [])) ∧ ∀ x ∈ F.G,x.1 ≠ D
 gok : GOk P w c.p

theorem SideOk.moved {P : Program} {F : Fr} {w0 w w' : World} {sv0 : List (Nat × AV)} {j : Option Ex} {ny : Nat} {a a' : Act} {c c' : Cx} {base : Nat} (h : SideOk P F w0 sv0 j ny a w c) (e : Ext base w c w' c') (hyE : c'.y = c.y) (ha : a'.defers = a.defers) : SideOk P F w0 sv0 j ny a' w' c' := by
 refine ⟨by rw [hyE]; exact h.hy,fun i=>(h.sv i).mono e,fun x hx=>?_,fun i l rc' hrc=>?_,?_,h.gok.mono e.p e.pb⟩
 ·obtain ⟨g1,g2,g3,g4⟩ := h.keep x hx
  exact ⟨e.p _ g1,g2,(e.pb _ g1).trans g3,fun i hi=>e.y _ _ (g4 i hi)⟩
 ·obtain ⟨g1,g2,g3,g4⟩ := h.rcd i l rc' hrc
  exact ⟨e.y _ _ g1,e.p _ g2,g3,(e.pb _ g2).trans g4⟩
 ·obtain ⟨ds,g1,g2,g3⟩ := h.defers
  exact ⟨ds,ha.trans g1,g2,fun D hD=>by obtain ⟨p1,p2,p3,p4⟩ := g3 D hD; exact ⟨e.p _ p1,p2,(e.pb _ p1).trans p3,p4⟩⟩

structure DI (P : Program) (ops : Array Oper) (zs : Nat → Z) (F : Fr) (sv0 : List (Nat × AV)) (w0 : World) (q : Nat → Prop) (listed : Array Bool) (m : Nat) (a : Act) (w : World) (c : Cx) : Prop where
 size : listed.size = ops.size
 hr : HR P w0.heap.size w c (zs m).hp
 ro : RO c (zs m).hp
 dom : ∀ b oi,c.O b = some oi → b < (zs 0).hp.blocks.length ∨ ∃ j,In listed j ∧ (zs j).hp.blocks.length ≤ b ∧ b < (zs (j + 1)).hp.blocks.length
 domN : ∀ b r,c.N b = some r → b < (zs 0).hp.maps.length ∨ ∃ j,In listed j ∧ (zs j).hp.maps.length ≤ b ∧ b < (zs (j + 1)).hp.maps.length
 tm : ∀ t i,i ≤ ops.size → (∀ j,j < i → Wr ops j t → In listed j) → (∀ j,i ≤ j → Wr ops j t → ¬ In listed j) → VR P w c ((zs i).lk t) (a.tmps.getD t undef)
 tsize : a.tmps.size = F.n
 side : SideOk P F w0 sv0 (zs 0).hp.jump (zs 0).hp.ny a w c
 below : Below w0.heap.size w0 w
 pq : ∀ b,c.p b → q b ∨ w0.heap.size ≤ b
 closed : ∀ i j,In listed j → isBefore (befores ops.toList []) i j = true → In listed i
 m1 : m ≤ ops.size
 m2 : ∀ j,j < m → effAt ops j = true → In listed j
 m3 : m = ops.size ∨ (effAt ops m = true ∧ ¬ In listed m)

theorem eff_at {ops : Array Oper} {i : Nat} {o : Oper} (ho : ops[i]? = some o) : effAt ops i = effOp ops o := by
 unfold effAt
 rw [nth?_eq,Array.getElem?_toList,ho]

theorem eff_impure {ops : Array Oper} {o : Oper} (h : effOp ops o = true) : pureOp o = false := by
 unfold effOp at h
 unfold pureOp
 split at h <;> rename_i hop <;> first | rw [hop] | cases h

theorem eff_hard {ops : Array Oper} {o : Oper} (h : effOp ops o = true) : softOp o = false := by
 unfold effOp at h
 unfold softOp
 split at h <;> rename_i hop <;> first | rw [hop] | cases h

theorem eff_noread {ops : Array Oper} {o : Oper} (h : effOp ops o = true) : readBase o = none := by
 unfold effOp at h
 unfold readBase
 split at h <;> rename_i hop <;> first | rw [hop] | cases h

theorem soft_noread {o : Oper} (h : softOp o = true) : readBase o = none := by
 unfold softOp at h
 unfold readBase
 split at h <;> rename_i hop <;> first | rw [hop] | cases h

theorem eff_nosoft {ops : Array Oper} {o : Oper} (h : effOp ops o = true) : softBase o = none := by
 unfold effOp at h
 unfold softBase
 split at h <;> rename_i hop <;> first | rw [hop] | cases h
theorem eff_nopeek {ops : Array Oper} {o : Oper} (h : effOp ops o = true) : peekBase o = none := by
 unfold peekBase
 rw [eff_noread h]
 exact eff_nosoft h
theorem eff_nonew {ops : Array Oper} {o : Oper} (h : effOp ops o = true) : newOp o = false := by
 unfold effOp at h
 unfold newOp
 split at h <;> rename_i hop <;> first | rw [hop] | cases h
theorem soft_base {o : Oper} (h : softOp o = false) : softBase o = none := by
 unfold softOp at h
 unfold softBase
 split at h <;> first | rfl | cases h
theorem hard_peek {o : Oper} (hr : readBase o = none) (h : softOp o = false) : peekBase o = none := by
 unfold peekBase
 rw [hr]
 exact soft_base h
theorem soft_peek_some {o : Oper} (h : softOp o = true) : ∃ b,peekBase o = some b := by
 unfold softOp at h
 split at h <;> first | (rename_i hop; simp [peekBase,readBase,softBase,hop]; done) | cases h

theorem gateSt_some {gl : List (Nat × Nat)} {ops : Array Oper} {k : Nat} {ρ : Operand → AV} {b : Bool} (h : gateSt gl ops k ρ = some b) : b = effAt ops k ∧ gateAt gl ops k ρ = true := by
 unfold gateSt at h
 cases hg : gateAt gl ops k ρ with
 | false=>rw [hg] at h; cases h
 | true=>rw [hg] at h; cases h; exact ⟨rfl,rfl⟩

section
variable {gl : List (Nat × Nat)} {P : Program} {T : Nat → Option TI} {F : Fr} {sv0 : List (Nat × AV)} {ops : Array Oper} {zs : Nat → Z} {w0 w : World} {q : Nat → Prop} {listed : Array Bool} {m : Nat} {a : Act} {c : Cx}

theorem Step.len {st : (Operand → AV) → Option Bool} {o : Oper} {z z' : Z} (h : Step P T F.n ops st o z z') : z.hp.blocks.length ≤ z'.hp.blocks.length ∧ z.hp.maps.length ≤ z'.hp.maps.length := by
 cases h with
 | run v h' _ _ _ hk=>exact hk.len
 | skip=>exact ⟨Nat.le_refl _,Nat.le_refl _⟩
theorem Step.le {k : Nat} {o : Oper} {z z' : Z} (h : Step P T F.n ops (gateSt gl ops k) o z z') (hs : effAt ops k = false) : HpLe z.hp z'.hp := by
 cases h with
 | run v h' _ _ h3 hk =>
  obtain ⟨b,g1,g2⟩ := h3
  exact hk.le (g2.resolve_left (by rw [(gateSt_some g1).1,hs]; simp))
 | skip=>exact .refl _
theorem Step.read {st : (Operand → AV) → Option Bool} {o : Oper} {z z' : Z} (h : Step P T F.n ops st o z z') {b : Operand} (hp : readBase o = some b) : z'.hp = z.hp := by
 cases h with
 | run v h' _ _ h3 hk=>exact (hk.read hp).1
 | skip=>rfl
theorem Step.same {st : (Operand → AV) → Option Bool} {o : Oper} {z z' : Z} (h : Step P T F.n ops st o z z') (hp : pureOp o = true) : z'.hp = z.hp := by
 cases h with
 | run v h' _ _ h3 hk=>exact (hk.pure hp).1
 | skip=>rfl
theorem Step.same' {st : (Operand → AV) → Option Bool} {o : Oper} {z z' : Z} (h : Step P T F.n ops st o z z') (hp : softOp o = true) : z'.hp = z.hp := by
 cases h with
 | run v h' _ _ h3 hk=>exact (hk.soft hp).1
 | skip=>rfl
theorem Step.store {st : (Operand → AV) → Option Bool} {o : Oper} {z z' : Z} (h : Step P T F.n ops st o z z') (hp : storeOp o = true) : ShapeLe z.hp z'.hp ∧ ShapeLe z'.hp z.hp := by
 cases h with
 | run v h' _ _ h3 hk=>exact hk.store hp
 | skip=>exact ⟨.refl _,.refl _⟩
theorem Step.lk {st : (Operand → AV) → Option Bool} {o : Oper} {z z' : Z} (h : Step P T F.n ops st o z z') {t : Tmp} (ht : o.dst ≠ some t) : z'.lk t = z.lk t := by
 cases h with
 | run v h' _ _ h3 hk=>simp only [upd]; rw [if_neg ht]
 | skip=>simp only [upd]; rw [if_neg ht]

theorem Step.keep {st : (Operand → AV) → Option Bool} {o : Oper} {z z' : Z} (h : Step P T F.n ops st o z z') : z'.hp.jump = z.hp.jump ∧ z'.hp.ny = z.hp.ny := by
 cases h with
 | run v h' _ _ h3 hk =>
  cases hk with
  | op v h' hev=>exact gives_keep hev
  | own=>exact ⟨rfl,rfl⟩
  | shared=>exact ⟨rfl,rfl⟩
 | skip=>exact ⟨rfl,rfl⟩

variable (hs : ∀ (k : Nat) o,ops[k]? = some o → Step P T F.n ops (gateSt gl ops k) o (zs k) (zs (k + 1)))

include hs in
theorem z_keep : ∀ (j : Nat),j ≤ ops.size → (zs j).hp.jump = (zs 0).hp.jump ∧ (zs j).hp.ny = (zs 0).hp.ny
 | 0,_=>⟨rfl,rfl⟩
 | j + 1,hj=>by
  have h1 := z_keep j (by omega)
  have h2 := (hs j ops[j] (by simp)).keep
  exact ⟨h2.1.trans h1.1,h2.2.trans h1.2⟩

include hs in
theorem z_len {i j : Nat} (hij : i ≤ j) (hj : j ≤ ops.size) : (zs i).hp.blocks.length ≤ (zs j).hp.blocks.length ∧ (zs i).hp.maps.length ≤ (zs j).hp.maps.length := by
 induction j with
 | zero =>
  have : i = 0 := by omega
  subst this
  exact ⟨Nat.le_refl _,Nat.le_refl _⟩
 | succ j ih =>
  rcases Nat.lt_or_ge i (j + 1) with h | h
  ·have g := ih (by omega) (by omega)
   have := (hs j ops[j] (by simp)).len
   exact ⟨Nat.le_trans g.1 this.1,Nat.le_trans g.2 this.2⟩
  ·have : i = j + 1 := by omega
   subst this
   exact ⟨Nat.le_refl _,Nat.le_refl _⟩

include hs in
theorem z_le {i j : Nat} (hij : i ≤ j) (hj : j ≤ ops.size) (hn : ∀ k,i ≤ k → k < j → effAt ops k = false) : HpLe (zs i).hp (zs j).hp := by
 induction j with
 | zero =>
  have : i = 0 := by omega
  subst this
  exact .refl _
 | succ j ih =>
  rcases Nat.lt_or_ge i (j + 1) with h | h
  ·exact (ih (by omega) (by omega) (fun k h1 h2=>hn k h1 (by omega))).trans ((hs j ops[j] (by simp)).le (hn j (by omega) (by omega)))
  ·have : i = j + 1 := by omega
   subst this
   exact .refl _

include hs in
theorem z_lk {i j : Nat} {t : Tmp} (hij : i ≤ j) (hj : j ≤ ops.size) (hn : ∀ k,i ≤ k → k < j → ¬ Wr ops k t) : (zs j).lk t = (zs i).lk t := by
 induction j with
 | zero =>
  have : i = 0 := by omega
  subst this
  rfl
 | succ j ih =>
  rcases Nat.lt_or_ge i (j + 1) with h | h
  ·have ho : ops[j]? = some ops[j] := by simp
   rw [(hs j _ ho).lk (fun e=>hn j (by omega) (by omega) ⟨_,ho,e⟩)]
   exact ih (by omega) (by omega) (fun k h1 h2=>hn k h1 (by omega))
  ·have : i = j + 1 := by omega
   subst this
   rfl

theorem next_eff : ∀ (d i : Nat),ops.size - i = d → i ≤ ops.size → ∃ m,i ≤ m ∧ m ≤ ops.size ∧ (∀ k,i ≤ k → k < m → effAt ops k = false) ∧ (m = ops.size ∨ effAt ops m = true)
 | 0,i,hd,hi=>⟨i,Nat.le_refl _,hi,fun k h1 h2=>by omega,.inl (by omega)⟩
 | d + 1, i, hd, hi => by
  cases he : effAt ops i with
  | true=>exact ⟨i,Nat.le_refl _,hi,fun k h1 h2=>by omega,.inr he⟩
  | false =>
   obtain ⟨m,g1,g2,g3,g4⟩ := next_eff d (i + 1) (by omega) (by omega)
   refine ⟨m,by omega,g2,fun k h1 h2=>?_,g4⟩
   rcases Nat.lt_or_ge i k with h | h
   ·exact g3 k h h2
   ·have : k = i := by omega
    subst this
    exact he

variable (hp : ∀ (i j : Nat) x y,ops[i]? = some x → ops[j]? = some y → i < j → pairOk gl ops (befores ops.toList []) i j x y = true)

include hp in
theorem pair_eff {i j : Nat} {x y : Oper} (hx : ops[i]? = some x) (hy : ops[j]? = some y) (hij : i < j) (h : (effOp ops x = true ∧ pureOp y = false ∧ softOp y = false ∧ readBase y = none) ∨ (effOp ops y = true ∧ pureOp x = false ∧ softOp x = false ∧ readBase x = none ∧ newOp x = false)) : isBefore (befores ops.toList []) i j = true := by
 have := hp i j x y hx hy hij
 unfold pairOk at this
 rcases Bool.or_eq_true_iff.1 this with g | g
 ·exact g
 ·have hns : gateStatic ops i j x y = false := by
   unfold gateStatic
   rcases h with ⟨h1,h2,h3,h4⟩ | ⟨h1,h2,h3,h4,h5⟩
   ·simp [h1,hard_peek h4 h3]
   ·cases hx : effOp ops x with
    | true=>simp [h1]
    | false =>
     simp only [cond_false,h1,Bool.true_and,hard_peek h4 h3,h5,Bool.false_and]
     split <;> rfl
  rcases h with ⟨h1,h2,h3,h4⟩ | ⟨h1,h2,h3,h4,h5⟩ <;> simp [h1,h2,h3,hns] at g

include hp in
theorem pair_gate {i j : Nat} {x y : Oper} (hx : ops[i]? = some x) (hy : ops[j]? = some y) (hij : i < j) (hn : ¬ isBefore (befores ops.toList []) i j = true)
  (h : (effOp ops x = true ∧ pureOp y = false ∧ softOp y = false) ∨ (effOp ops y = true ∧ pureOp x = false ∧ softOp x = false)) : (i,j) ∈ gl ∧ gateStatic ops i j x y = true := by
 have := hp i j x y hx hy hij
 unfold pairOk at this
 rcases Bool.or_eq_true_iff.1 this with g | g
 ·exact absurd g hn
 ·have hg : (gl.any (fun p=>Nat.beq p.1 i && Nat.beq p.2 j) && gateStatic ops i j x y) = true := by
   rcases h with ⟨h1,h2,h3⟩ | ⟨h1,h2,h3⟩ <;> simp [h1,h2,h3] at g ⊢ <;> exact g.2
  rw [Bool.and_eq_true] at hg
  refine ⟨?_,hg.2⟩
  obtain ⟨p,h1,h2⟩ := List.any_eq_true.1 hg.1
  rw [Bool.and_eq_true] at h2
  have e1 := Nat.eq_of_beq_eq_true h2.1
  have e2 := Nat.eq_of_beq_eq_true h2.2
  rw [← e1,← e2]
  exact h1

include hp in
theorem pair_look {i j : Nat} {x y : Oper} (hx : ops[i]? = some x) (hy : ops[j]? = some y) (hij : i < j) (hn : ¬ isBefore (befores ops.toList []) i j = true) :
  (effOp ops x = true → pureOp y = false → (softOp y = true ∧ storeOp x = true) ∨ ((i,j) ∈ gl ∧ gateStatic ops i j x y = true)) ∧
  (effOp ops y = true → pureOp x = false → (softOp x = true ∧ storeOp y = true) ∨ ((i,j) ∈ gl ∧ gateStatic ops i j x y = true)) := by
 have := hp i j x y hx hy hij
 unfold pairOk at this
 rcases Bool.or_eq_true_iff.1 this with g | g
 ·exact absurd g hn
 ·have gate : (gl.any (fun p=>Nat.beq p.1 i && Nat.beq p.2 j) && gateStatic ops i j x y) = true → (i,j) ∈ gl ∧ gateStatic ops i j x y = true := fun hg=>by
   rw [Bool.and_eq_true] at hg
   refine ⟨?_,hg.2⟩
   obtain ⟨p,h1,h2⟩ := List.any_eq_true.1 hg.1
   rw [Bool.and_eq_true] at h2
   have e1 := Nat.eq_of_beq_eq_true h2.1
   have e2 := Nat.eq_of_beq_eq_true h2.2
   rw [← e1,← e2]
   exact h1
  rw [Bool.and_eq_true] at g
  rcases Bool.or_eq_true_iff.1 g.2 with g | g
  ·simp only [Bool.and_eq_true,Bool.or_eq_true,Bool.not_eq_true'] at g
   refine ⟨fun h1 h2=>.inl ?_,fun h1 h2=>.inl ?_⟩
   ·rcases g.1 with (g | g) | g
    ·rw [h1] at g; cases g
    ·rw [h2] at g; cases g
    ·exact g.1
   ·rcases g.2 with (g | g) | g
    ·rw [h1] at g; cases g
    ·rw [h2] at g; cases g
    ·exact g
  ·exact ⟨fun _ _=>.inr (gate g),fun _ _=>.inr (gate g)⟩

include hp in
theorem pair_rw {i j : Nat} {x y : Oper} (hx : ops[i]? = some x) (hy : ops[j]? = some y) (hij : i < j) {t : Tmp} (h : (x.dst = some t ∧ t ∈ readsOf ops y) ∨ (y.dst = some t ∧ t ∈ readsOf ops x) ∨ (x.dst = some t ∧ y.dst = some t)) : isBefore (befores ops.toList []) i j = true := by
 have := hp i j x y hx hy hij
 unfold pairOk at this
 rcases Bool.or_eq_true_iff.1 this with g | g
 ·exact g
 ·rcases h with ⟨h1,h2⟩ | ⟨h1,h2⟩ | ⟨h1,h2⟩
  ·have := hasNat_iff.2 h2; simp [h1,this] at g
  ·have := hasNat_iff.2 h2; simp [h1,this] at g
  ·simp [h1,h2] at g

include hp in
theorem DI.early (h : DI P ops zs F sv0 w0 q listed m a w c) {j : Nat} {o : Oper} (ho : ops[j]? = some o) (hj : In listed j) (hnp : pureOp o = false) (hns : softOp o = false) (hnr : readBase o = none) : j < m := by
 rcases Nat.lt_or_ge j m with g | g
 ·exact g
 ·have hlt := In_lt hj
  rw [h.size] at hlt
  rcases h.m3 with e | ⟨e1,e2⟩
  ·omega
  ·rcases Nat.eq_or_lt_of_le g with e | e
   ·subst e; exact absurd hj e2
   ·have hm : ops[m]? = some ops[m] := by simp
    exact absurd (h.closed m j hj (pair_eff hp hm ho e (.inl ⟨by rw [← eff_at hm]; exact e1,hnp,hns,hnr⟩))) e2

include hs hp in
theorem DI.range (h : DI P ops zs F sv0 w0 q listed m a w c) : (∀ b oi,c.O b = some oi → b < (zs m).hp.blocks.length) ∧ (∀ b r,c.N b = some r → b < (zs m).hp.maps.length) := by
 have early : ∀ j,In listed j → (zs (j + 1)).hp ≠ (zs j).hp → j + 1 ≤ m ∧ m ≤ ops.size := fun j hj hne=>by
  have hlt := In_lt hj
  rw [h.size] at hlt
  have ho : ops[j]? = some ops[j] := by simp
  refine ⟨h.early hp ho hj ?_ ?_ ?_,h.m1⟩
  ·cases hpo : pureOp ops[j] with
   | false=>rfl
   | true=>exact absurd ((hs j _ ho).same hpo) hne
  ·cases hpo : softOp ops[j] with
   | false=>rfl
   | true=>exact absurd ((hs j _ ho).same' hpo) hne
  ·cases hpo : readBase ops[j] with
   | none=>rfl
   | some b=>exact absurd ((hs j _ ho).read hpo) hne
 refine ⟨fun b oi hb=>?_,fun b r hb=>?_⟩
 ·rcases h.dom b oi hb with g | ⟨j,hj,g1,g2⟩
  ·exact Nat.lt_of_lt_of_le g (z_len hs (Nat.zero_le _) h.m1).1
  ·have := early j hj (fun e=>by rw [e] at g2; omega)
   exact Nat.lt_of_lt_of_le g2 (z_len hs this.1 this.2).1
 ·rcases h.domN b r hb with g | ⟨j,hj,g1,g2⟩
  ·exact Nat.lt_of_lt_of_le g (z_len hs (Nat.zero_le _) h.m1).2
  ·have := early j hj (fun e=>by rw [e] at g2; omega)
   exact Nat.lt_of_lt_of_le g2 (z_len hs this.1 this.2).2
end
end Go.Tr

/- All operations together. Conditions: none. -/
import Derived.Test.YtkomdfgffgkphaaTrP
namespace Go.Tr
open Go Go.RowKit

section
variable {P : Program} {T : Nat → Option TI} {w w' : World} {c c' : Cx} {base : Nat} {hp hp' : Hp}

def QuietOut (P : Program) (base : Nat) (w : World) (c : Cx) (hp hp' : Hp) (x : Sem Next) (v : AV) : Prop :=
  ∃ u w' c', x.run P w = .ok (.value u) w' ∧ QOut P base w c hp w' c' hp' ∧ VR P w' c' v u

theorem PureOut.quiet (h : HR P base w c hp) {x : Sem Value} {v : AV} {o : Oper} {r : Operand → Value} (hx : hp' = hp ∧ PureOut P w c x v) (he : execOp r o = (do pure (.value (← x)))) : QuietOut P base w c hp hp' (execOp r o) v := by
  obtain ⟨rfl, u, h1, h2⟩ := hx
  refine ⟨u, w, c, ?_, qout_same h (Below.refl _ _) rfl, h2⟩
  rw [he]
  simp [h1]

theorem same_quiet (h : HR P base w c hp) {v : AV} {x : Sem Next} (hx : hp' = hp ∧ ∃ u, x.run P w = .ok (.value u) w ∧ VR P w c v u) : QuietOut P base w c hp hp' x v := by
  obtain ⟨rfl, u, h1, h2⟩ := hx
  exact ⟨u, w, c, h1, qout_same h (Below.refl _ _) rfl, h2⟩

theorem append_quiet (hT : TOK P T) (h : HR P base w c hp) (hbase : base ≤ w.heap.size) {o : Oper} {args : Array Operand} {ts : Array TypeId} {ρ : Operand → AV} {r : Operand → Value} (hop : o.op = .call { callee := .builtin .append, args, argTypes := ts })
    (hx : ∀ x ∈ args, VR P w c (ρ x) (r x)) (hq : isEff o ρ = false) {v : AV} (hev : (opEv T o ρ hp).gives v hp') (hfree : ∀ b, hp.blocks.length ≤ b → b < hp'.blocks.length → c.O b = none) :
    QuietOut P base w c hp hp' (execOp r o) v := by
  unfold isEff at hq
  rw [hop] at hq
  simp only at hq
  unfold opEv at hev
  rw [hop] at hev
  simp only at hev
  split at hev
  · rename_i t t' s x hts hargs
    have hts' : ts = #[t, t'] := by rw [← hts]
    obtain ⟨la⟩ := args
    match la, hargs with
    | [], hr => simp at hr
    | [_], hr => simp at hr
    | _ :: _ :: _ :: _, hr => simp at hr
    | [os, ox], hr =>
      simp only [List.map_cons, List.map_nil, List.cons.injEq, and_true] at hr
      obtain ⟨hrs, hrx⟩ := hr
      have hvs := hx os (by simp)
      have hvx := hx ox (by simp)
      rw [hrs] at hvs
      rw [hrx] at hvx
      simp only [List.map_cons, List.map_nil, hrs] at hq
      split at hev
      · rename_i e _ _ _ _ ht
        split at hev
        · rename_i ei m fx he hel
          rw [he] at hel
          simp only at hel
          cases htt : Nat.beq t t' with
          | false => rw [htt] at hel; cases hel
          | true =>
            rw [htt] at hel
            simp only [cond_true] at hel
            have := Nat.eq_of_beq_eq_true htt
            subst this
            obtain ⟨news, hE⟩ := elems_ok h hvx hel
            have hex : ∀ u w', (Builtin.append_ #[t, t] o.type #[r os, r ox]).run P w = .ok u w' → (execOp r o).run P w = .ok (.value u) w' := fun u w' hh => by
              unfold execOp
              simp only [hop, resolve, invoke, builtin, Sem.run_bind, Sem.run_pure, Result.andThen_ok]
              simp [hts', hh]
            cases hb : Nat.blt 0 ei.size with
            | false => simp only [hb, cond_false] at hev; exact hev.elim
            | true =>
              simp only [hb, cond_true] at hev
              split at hev
              · -- an empty slice
                obtain ⟨hby, rfl, rfl⟩ := hev
                have hlen : (hp.addB { es := ei.size, len := m, f := fx, flat := flatOf hp x }).blocks.length = hp.blocks.length + 1 := by simp [Hp.addB]
                have hf := hfree hp.blocks.length (Nat.le_refl _) (by omega)
                cases hvs with
                | tree hvs =>
                  generalize hrs2 : r os = us at hvs
                  cases hvs with
                  | eslice a =>
                    by_cases hm : m = 0
                    · subst hm
                      obtain ⟨u, w', c', g1, g2, g3⟩ := append_none (ty := o.type) hT h hbase hf ht rfl he (a := a) hE (k := { es := ei.size, len := 0, f := fx, flat := flatOf hp x }) rfl rfl rfl
                      exact ⟨u, w', c', hex u w' (by rw [hrs2]; exact g1), g2, g3⟩
                    · have hE0 : Elems P w c ei.size 0 (fun _ => []) true (.slice a 0 0) #[] := ⟨⟨a, 0, rfl, Nat.zero_le _⟩, fun w' _ => by cases a <;> simp [Builtin.firstCells, loadCells, loadCellsFrom], by simp, by simp, by intro i hi; omega, by intro i j y hi; omega⟩
                      obtain ⟨u, w', c', g1, g2, g3⟩ := append_new (ty := o.type) hT h hbase hf ht rfl he hE0 hE (by omega) (by rw [Nat.zero_add]; rw [Nat.mul_add] at hby; omega) (by rw [Nat.mul_add] at hby; omega) (k := { es := ei.size, len := m, f := fx, flat := flatOf hp x }) rfl (by simp) rfl (fun i hi => by simp) (fun hfl => by simpa using hfl)
                      rw [Nat.zero_add] at g3
                      exact ⟨u, w', c', hex u w' (by rw [hrs2]; exact g1), g2, g3⟩
              · rename_i b ver off len cp
                split at hev
                · rename_i k hk
                  cases hb2 : Nat.beq k.es ei.size with
                  | false => rw [hb2] at hev; exact hev.elim
                  | true =>
                    rw [hb2] at hev
                    obtain ⟨⟨hcp, hby⟩, rfl, rfl⟩ := hev
                    have hf := hfree hp.blocks.length (Nat.le_refl _) (by simp [Hp.addB])
                    have hes := Nat.eq_of_beq_eq_true hb2
                    obtain ⟨hkb, hkv⟩ := block_some hk
                    obtain ⟨oi, hO, hle, _, hv'⟩ := hvs.oslice_inv
                    have hB := h.blk b k oi hkb hO
                    obtain ⟨hn1, a, k1, hu, hk1, hk2, hk3, hk4⟩ := hv' (by rw [hB.ver, hkv])
                    have hkc := hk4 cp rfl
                    subst hkc
                    rcases hcp with hcp | ⟨hm, hc0⟩
                    · have hel0 : elemsOf hp ei.size (.oslice b ver off len (some k1)) = some (len, fun i => k.f (off + i)) := by simp [elemsOf, hk, hb2]
                      obtain ⟨olds, hE0⟩ := elems_ok h hvs hel0
                      have hfl0 : flatOf hp (.oslice b ver off len (some k1)) = k.flat := by simp [flatOf, hk]
                      rw [hfl0, hu] at hE0
                      obtain ⟨u, w', c', g1, g2, g3⟩ := append_new (ty := o.type) hT h hbase hf ht rfl he hE0 hE hcp (by rw [Nat.mul_add] at hby; omega) (by rw [Nat.mul_add] at hby; omega)
                        (k := { es := ei.size, len := len + m, f := fun i => if i < len then k.f (off + i) else fx (i - len), flat := flatOf hp x && k.flat }) rfl rfl rfl (fun i hi => rfl) (fun hfl => hfl)
                      exact ⟨u, w', c', hex u w' (by rw [hu]; exact g1), g2, g3⟩
                    · subst hm
                      have hl0 : len = 0 := by omega
                      subst hl0
                      rw [hc0] at hu
                      obtain ⟨u, w', c', g1, g2, g3⟩ := append_none (ty := o.type) hT h hbase hf ht rfl he (a := a) hE (k := { es := ei.size, len := 0 + 0, f := fun i => if i < 0 then k.f (off + i) else fx (i - 0), flat := flatOf hp x && k.flat }) rfl rfl rfl
                      exact ⟨u, w', c', hex u w' (by rw [hu]; exact g1), g2, g3⟩
                · exact hev.elim
              · rename_i es len cp f
                cases hb2 : Nat.beq es ei.size with
                | false => rw [hb2] at hev; exact hev.elim
                | true =>
                  rw [hb2] at hev
                  obtain ⟨⟨hcp, hby⟩, rfl, rfl⟩ := hev
                  have hf := hfree hp.blocks.length (Nat.le_refl _) (by simp [Hp.addB])
                  have hel0 : elemsOf hp ei.size (.cslice es len cp f) = some (len, f) := by simp [elemsOf, hb2]
                  obtain ⟨olds, hE0⟩ := elems_ok h hvs hel0
                  have hfl0 : flatOf hp (.cslice es len cp f) = true := rfl
                  rw [hfl0] at hE0
                  obtain ⟨a, hu⟩ : ∃ a, r os = .slice a len cp := by
                    cases hvs with
                    | tree hvs =>
                      generalize r os = us at hvs
                      cases hvs with
                      | cslice0 _ _ _ a => exact ⟨a, rfl⟩
                      | cslice _ _ _ _ b off g => exact ⟨_, rfl⟩
                  rw [hu] at hE0
                  obtain ⟨u, w', c', g1, g2, g3⟩ := append_new (ty := o.type) hT h hbase hf ht rfl he hE0 hE hcp (by rw [Nat.mul_add] at hby; omega) (by rw [Nat.mul_add] at hby; omega)
                    (k := { es := ei.size, len := len + m, f := fun i => if i < len then f i else fx (i - len), flat := flatOf hp x }) rfl rfl rfl (fun i hi => rfl) (fun hfl => by simpa using hfl)
                  exact ⟨u, w', c', hex u w' (by rw [hu]; exact g1), g2, g3⟩
              · simp at hq
              · exact hev.elim
        · exact hev.elim
      · exact hev.elim
  · exact hev.elim

theorem append_eff (hT : TOK P T) (h : HR P base w c hp) (ro : RO c hp) (hbase : base ≤ w.heap.size) {o : Oper} {args : Array Operand} {ts : Array TypeId} {ρ : Operand → AV} {r : Operand → Value} (hop : o.op = .call { callee := .builtin .append, args, argTypes := ts })
    (hx : ∀ x ∈ args, VR P w c (ρ x) (r x)) (hq : isEff o ρ = true) {v : AV} (hev : (opEv T o ρ hp).gives v hp') :
    ∃ u w' c', (execOp r o).run P w = .ok (.value u) w' ∧ EOut P base w c hp w' c' hp' ∧ VR P w' c' v u := by
  unfold isEff at hq
  rw [hop] at hq
  simp only at hq
  unfold opEv at hev
  rw [hop] at hev
  simp only at hev
  split at hev
  · rename_i t t' s x hts hargs
    have hts' : ts = #[t, t'] := by rw [← hts]
    obtain ⟨la⟩ := args
    match la, hargs with
    | [], hr => simp at hr
    | [_], hr => simp at hr
    | _ :: _ :: _ :: _, hr => simp at hr
    | [os, ox], hr =>
      simp only [List.map_cons, List.map_nil, List.cons.injEq, and_true] at hr
      obtain ⟨hrs, hrx⟩ := hr
      have hvs := hx os (by simp)
      have hvx := hx ox (by simp)
      rw [hrs] at hvs
      rw [hrx] at hvx
      simp only [List.map_cons, List.map_nil, hrs] at hq
      split at hev
      · rename_i e _ _ _ _ ht
        split at hev
        · rename_i ei m fx he hel
          rw [he] at hel
          simp only at hel
          cases htt : Nat.beq t t' with
          | false => rw [htt] at hel; cases hel
          | true =>
            rw [htt] at hel
            simp only [cond_true] at hel
            have := Nat.eq_of_beq_eq_true htt
            subst this
            obtain ⟨news, hE⟩ := elems_ok h hvx hel
            have hex : ∀ u w', (Builtin.append_ #[t, t] o.type #[r os, r ox]).run P w = .ok u w' → (execOp r o).run P w = .ok (.value u) w' := fun u w' hh => by
              unfold execOp
              simp only [hop, resolve, invoke, builtin, Sem.run_bind, Sem.run_pure, Result.andThen_ok]
              simp [hts', hh]
            cases hb : Nat.blt 0 ei.size with
            | false => simp only [hb, cond_false] at hev; exact hev.elim
            | true =>
              simp only [hb, cond_true] at hev
              split at hev
              · simp at hq
              · simp at hq
              · simp at hq
              · rename_i b ver off len
                split at hev
                · rename_i k hk
                  cases hb2 : (Nat.beq k.es ei.size && !k.ro) with
                  | false => rw [hb2] at hev; exact hev.elim
                  | true =>
                    rw [hb2] at hev
                    obtain ⟨hby, rfl, rfl⟩ := hev
                    simp only [Bool.and_eq_true, Bool.not_eq_true'] at hb2
                    have hes := Nat.eq_of_beq_eq_true hb2.1
                    obtain ⟨hkb, hkv⟩ := block_some hk
                    obtain ⟨oi, hO, hle, _, hv'⟩ := hvs.oslice_inv
                    have hB := h.blk b k oi hkb hO
                    obtain ⟨hn1, a, k1, hu, hk1, hk2, hk3, hk4⟩ := hv' (by rw [hB.ver, hkv])
                    have hel0 : elemsOf hp ei.size (.oslice b ver off len none) = some (len, fun i => k.f (off + i)) := by simp [elemsOf, hk, hb2.1]
                    obtain ⟨olds, hE0⟩ := elems_ok h hvs hel0
                    have hfl0 : flatOf hp (.oslice b ver off len none) = k.flat := by simp [flatOf, hk]
                    rw [hfl0, hu] at hE0
                    rw [← hkv]
                    obtain ⟨u, w', c', g1, g2, g3⟩ := append_own (ty := o.type) hT h ro hbase ht rfl he hkb hO hb2.2 hes hn1 hk1 hk2 hk3 hE0 hE (by rw [Nat.mul_add] at hby; omega) (by rw [Nat.mul_add] at hby; omega)
                      (k' := { k with len := len + m, ver := k.ver + 1, f := fun i => if i < len then k.f (off + i) else fx (i - len), flat := flatOf hp x && k.flat }) rfl rfl rfl hb2.2 (fun i hi => rfl) (fun hfl => hfl)
                    exact ⟨u, w', c', hex u w' (by rw [hu]; exact g1), g2, g3⟩
                · exact hev.elim
              · exact hev.elim
        · exact hev.elim
      · exact hev.elim
  · exact hev.elim

theorem mem_operands {o : Oper} {op : Op} (h : o.op = op) {x : Operand} (hx : x ∈ op.operands) : x ∈ o.op.operands := by rw [h]; exact hx

theorem binEv_any {op : BinOp} {d : Option TI} {x y : AV} {h h' : Hp} {p : Prop} {dp : Decidable p} {b : Bool} (hev : binEv op d x y h = @Res.anyB p dp b h') : False := by
  unfold binEv at hev
  repeat' split at hev
  all_goals first
    | cases hev
    | (unfold aggEv at hev
       (repeat' split at hev)
       all_goals first
         | cases hev
         | (simp only [Bool.cond_eq_ite] at hev
            (repeat' split at hev)
            all_goals cases hev))

/-- A truth value that is not known. -/
theorem any_real (hT : TOK P T) {o : Oper} {ρ : Operand → AV} {r : Operand → Value} (hcst : ∀ v, r (.const v) = v) (hρ : ∀ x ∈ o.op.operands, VR P w c (ρ x) (r x)) {p : Prop} {dp : Decidable p} {b : Bool} {h' : Hp}
    (hev : opEv T o ρ hp = @Res.anyB p dp b h') : h' = hp ∧ ∃ b' : Bool, (p → b' = b) ∧ (execOp r o).run P w = .ok (.value (.bool b')) w := by
  have key : ∀ op t x y ty, o.op = .binOp op t x y ty → h' = hp ∧ ∃ b' : Bool, (p → b' = b) ∧ (execOp r o).run P w = .ok (.value (.bool b')) w := by
    intro op t x y ty hop
    unfold opEv at hev; rw [hop] at hev
    simp only at hev
    split at hev
    · rename_i hn
      obtain ⟨e1, b', e2, e3⟩ := real_nil (t := t) (x := x) (y := y) (fun d hd => (hT _ _ hd).1) (hρ x (mem_operands hop (by simp [Op.operands]))) hcst hn hev
      refine ⟨e1, b', e2, ?_⟩
      have he : execOp r o = (do pure (.value (← (do eqGuard op t x y (r x) (r y); binOp op t (r x) (r y))))) := by simp [execOp, hop]
      rw [he, Sem.run_bind, e3]
      rfl
    · exact (binEv_any hev).elim
  by_cases hb : ∃ op t x y ty, o.op = .binOp op t x y ty
  · obtain ⟨op, t, x, y, ty, hop⟩ := hb
    exact key op t x y ty hop
  · exfalso
    unfold opEv at hev
    split at hev
    all_goals try simp only [Bool.cond_eq_ite] at hev
    all_goals (repeat' split at hev)
    all_goals first
      | (cases hev; done)
      | exact hb ⟨_, _, _, _, _, by assumption⟩

/-- An operation that turns no old memory, other than a call. -/
theorem quiet_op (hT : TOK P T) (h : HR P base w c hp) (hbase : base ≤ w.heap.size) {o : Oper} {ρ : Operand → AV} {r : Operand → Value} (hcst : ∀ v, r (.const v) = v) (hρ : ∀ x ∈ o.op.operands, VR P w c (ρ x) (r x)) (hq : isEff o ρ = false)
    {v : AV} (hev : (opEv T o ρ hp).gives v hp') (hfree : ∀ b, hp.blocks.length ≤ b → b < hp'.blocks.length → c.O b = none) (hfreeM : ∀ b, hp.maps.length ≤ b → b < hp'.maps.length → c.N b = none) :
    QuietOut P base w c hp hp' (execOp r o) v := by
  have fre : ∀ k, hp' = hp.addB k → c.O hp.blocks.length = none := fun k hk => hfree _ (Nat.le_refl _) (by subst hk; simp [Hp.addB])
  cases hop : o.op with
  | move x =>
    have hx := hρ x (mem_operands hop (by simp [Op.operands]))
    unfold opEv at hev; rw [hop] at hev
    obtain ⟨rfl, rfl⟩ := hev
    exact ⟨r x, w, c, by simp [execOp, hop], qout_same h (Below.refl _ _) rfl, hx⟩
  | assign x =>
    have hx := hρ x (mem_operands hop (by simp [Op.operands]))
    unfold opEv at hev; rw [hop] at hev
    obtain ⟨rfl, rfl⟩ := hev
    exact ⟨r x, w, c, by simp [execOp, hop], qout_same h (Below.refl _ _) rfl, hx⟩
  | pick x a b =>
    have hx := hρ x (mem_operands hop (by simp [Op.operands]))
    have ha := hρ a (mem_operands hop (by simp [Op.operands]))
    have hb := hρ b (mem_operands hop (by simp [Op.operands]))
    unfold opEv at hev; rw [hop] at hev
    simp only at hev
    split at hev
    · rename_i hr; rw [hr] at hx
      obtain ⟨rfl, rfl⟩ := hev
      exact ⟨r a, w, c, by simp [execOp, hop, hx.val_inv, asBool], qout_same h (Below.refl _ _) rfl, ha⟩
    · rename_i hr; rw [hr] at hx
      obtain ⟨rfl, rfl⟩ := hev
      exact ⟨r b, w, c, by simp [execOp, hop, hx.val_inv, asBool], qout_same h (Below.refl _ _) rfl, hb⟩
    · exact hev.elim
  | alloc t =>
    have hf : c.O hp.blocks.length = none := by
      have hev2 := hev
      unfold opEv at hev2; rw [hop] at hev2; simp only at hev2
      split at hev2
      · obtain ⟨_, e⟩ := hev2; exact fre _ e.symm
      · exact hev2.elim
    exact make_alloc hT h hbase hop hev hf
  | box t x =>
    have hf : c.O hp.blocks.length = none := by
      have hev2 := hev
      unfold opEv at hev2; rw [hop] at hev2; simp only at hev2
      split at hev2
      · rename_i ti _
        cases hb : (Nat.beq (ρ x).cells.length ti.size && (ρ x).storable) with
        | false => rw [hb] at hev2; exact hev2.elim
        | true => rw [hb] at hev2; obtain ⟨_, e⟩ := hev2; exact fre _ e.symm
      · exact hev2.elim
    exact make_box h hbase hop (hρ x (mem_operands hop (by simp [Op.operands]))) hev hf
  | build t ps => exact same_quiet h (pure_build hT hop (fun p hp' => hρ p.2 (mem_operands hop (by simp [Op.operands]; exact ⟨p.1, by simpa using hp'⟩))) hev)
  | buildSlice t n ps =>
    have hf : c.O hp.blocks.length = none := by
      have hev2 := hev
      unfold opEv at hev2; rw [hop] at hev2; simp only at hev2
      split at hev2
      · split at hev2
        · rename_i ei _
          split at hev2
          · cases hb : (Nat.ble (n * ei.size) 100000 && Nat.blt 0 ei.size) with
            | false => rw [hb] at hev2; exact hev2.elim
            | true => rw [hb] at hev2; obtain ⟨_, e⟩ := hev2; exact fre _ e.symm
          · exact hev2.elim
        · exact hev2.elim
      · exact hev2.elim
    exact make_buildSlice hT h hbase hop (fun p hp' => hρ p.2 (mem_operands hop (by simp [Op.operands]; exact ⟨p.1, by simpa using hp'⟩))) hev hf
  | load t x => exact PureOut.quiet h (pure_load hT h hop (hρ x (mem_operands hop (by simp [Op.operands]))) hev) (by simp [execOp, hop])
  | binOp op t x y ty =>
    have hx := hρ x (mem_operands hop (by simp [Op.operands]))
    have hy := hρ y (mem_operands hop (by simp [Op.operands]))
    unfold opEv at hev; rw [hop] at hev
    have hd : ∀ d, T t = some d → P.underlying t = some d.desc := fun d hd => (hT _ _ hd).1
    simp only at hev
    split at hev
    · rename_i hn
      exact PureOut.quiet h (pure_nil (t := t) (x := x) (y := y) hd hx hcst hn hev) (by simp [execOp, hop])
    · exact PureOut.quiet h (pure_bin (t := t) (x := x) (y := y) hd (fun ti ks h1 h2 => hT.kinds _ _ _ h1 h2) hx hy hev) (by simp [execOp, hop])
  | unOp op t x => exact PureOut.quiet h (pure_un hop (hρ x (mem_operands hop (by simp [Op.operands]))) hev) (by simp [execOp, hop])
  | convert src dst x =>
    have hx := hρ x (mem_operands hop (by simp [Op.operands]))
    unfold opEv at hev; rw [hop] at hev
    simp only at hev
    split at hev
    · rename_i _ hs hd hr
      exact PureOut.quiet h (pure_convert hT hx hs hd hr hev) (by simp [execOp, hop])
    · rename_i _ _ _ _ _ _ _ _ s hs hd hr
      split at hev
      · rename_i he
        obtain ⟨rfl, rfl⟩ := hev
        rw [hr] at hx
        obtain ⟨u, w', c', g1, g2, g3⟩ := make_bytes hT h (s := s) hs rfl hd rfl he rfl
        exact ⟨u, w', c', by simp [execOp, hop, hx.val_inv, g1], g2, g3⟩
      · exact hev.elim
    · exact hev.elim
  | makeFunc fn first captured =>
    unfold opEv at hev; rw [hop] at hev
    simp only at hev
    obtain ⟨rfl, rfl⟩ := hev
    refine ⟨.func fn (first.map r) (captured.map r), w, c, by simp [execOp, hop, Instr.makeFunc], qout_same h (Below.refl _ _) rfl, .func fn _ _ _ _ (by simp) (by simp) fun i x hi => ?_⟩
    have e : first.map r ++ captured.map r = (first ++ captured).map r := by simp
    have e2 : first.toList.map ρ ++ captured.toList.map ρ = (first ++ captured).toList.map ρ := by simp
    rw [e]
    rw [e2, List.getElem?_map] at hi
    cases hc : (first ++ captured).toList[i]? with
    | none => rw [hc] at hi; cases hi
    | some y =>
      rw [hc] at hi
      simp only [Option.map_some, Option.some.injEq] at hi
      subst hi
      have hm : y ∈ first ++ captured := by
        have := List.mem_of_getElem? hc
        simpa using this
      have := hρ y (mem_operands hop (by simp [Op.operands]; simpa using hm))
      have hy : (first ++ captured)[i]? = some y := by rw [← Array.getElem?_toList]; exact hc
      simp only [Array.getD_eq_getD_getElem?, Array.getElem?_map, hy, Option.map_some, Option.getD_some]
      exact this
  | makeMap t rs =>
    cases rs with
    | none =>
      have hf : c.N hp.maps.length = none := by
        have hev2 := hev
        unfold opEv at hev2; rw [hop] at hev2; simp only at hev2
        split at hev2
        · split at hev2
          · obtain ⟨_, rfl⟩ := hev2; exact hfreeM _ (Nat.le_refl _) (by simp)
          · exact hev2.elim
        · exact hev2.elim
      exact make_map hT h hbase hop hev hf
    | some q => unfold opEv at hev; rw [hop] at hev; exact hev.elim
  | makeSlice t l m =>
    have hf : c.O hp.blocks.length = none := by
      have hev2 := hev
      unfold opEv at hev2; rw [hop] at hev2; simp only at hev2
      split at hev2
      · split at hev2
        · rename_i ei _
          cases hb : Nat.blt 0 ei.size with
          | false => rw [hb] at hev2; exact hev2.elim
          | true => rw [hb] at hev2; obtain ⟨_, _, e⟩ := hev2; exact fre _ e.symm
        · exact hev2.elim
      · exact hev2.elim
    exact make_makeSlice hT h hbase hop (hρ l (mem_operands hop (by simp [Op.operands]))) (hρ m (mem_operands hop (by simp [Op.operands]))) hev hf
  | slice t x lo hi mx =>
    cases mx with
    | none =>
      refine PureOut.quiet h (pure_slice hT h hop (hρ x (mem_operands hop (by simp [Op.operands]))) (fun y hy => hρ y (mem_operands hop (by simp [Op.operands, hy]))) (fun y hy => hρ y (mem_operands hop (by simp [Op.operands, hy]))) hev) (by simp [execOp, hop])
    | some q =>
      refine PureOut.quiet h (pure_slice3 hT hop (hρ x (mem_operands hop (by simp [Op.operands]))) (fun y hy => hρ y (mem_operands hop (by simp [Op.operands, hy]))) (fun y hy => hρ y (mem_operands hop (by simp [Op.operands, hy]))) (hρ q (mem_operands hop (by simp [Op.operands]))) hev) (by simp [execOp, hop])
  | fieldAddr s x i => exact PureOut.quiet h (pure_fieldAddr hT h hop (hρ x (mem_operands hop (by simp [Op.operands]))) hev) (by simp [execOp, hop])
  | field s x i => exact PureOut.quiet h (pure_field hT hop (hρ x (mem_operands hop (by simp [Op.operands]))) hev) (by simp [execOp, hop])
  | indexAddr t x i => exact PureOut.quiet h (pure_indexAddr hT h hop (hρ x (mem_operands hop (by simp [Op.operands]))) (hρ i (mem_operands hop (by simp [Op.operands]))) hev) (by simp [execOp, hop])
  | index t x i => exact PureOut.quiet h (pure_index hT hop (hρ x (mem_operands hop (by simp [Op.operands]))) (hρ i (mem_operands hop (by simp [Op.operands]))) hev) (by simp [execOp, hop])
  | lookup t x i ok => exact PureOut.quiet h (pure_lookup hT h hop (hρ x (mem_operands hop (by simp [Op.operands]))) (hρ i (mem_operands hop (by simp [Op.operands]))) hev) (by simp [execOp, hop])
  | extract x i => exact PureOut.quiet h (pure_extract hop (hρ x (mem_operands hop (by simp [Op.operands]))) hev) (by simp [execOp, hop])
  | nilCheck x =>
    have hx := hρ x (mem_operands hop (by simp [Op.operands]))
    unfold opEv at hev; rw [hop] at hev
    simp only at hev
    split at hev
    · rename_i hr
      split at hev
      · rename_i k hk
        obtain ⟨rfl, rfl⟩ := hev
        rw [hr] at hx
        obtain ⟨a, hu, _, _⟩ := optr_move h hx hk
        exact ⟨r x, w, c, by simp [execOp, hop, hu], qout_same h (Below.refl _ _) rfl, hx⟩
      · exact hev.elim
    · rename_i hr
      obtain ⟨rfl, rfl⟩ := hev
      rw [hr] at hx
      obtain ⟨a, hu, _, _⟩ := rptr_move hx
      exact ⟨r x, w, c, by simp [execOp, hop, hu], qout_same h (Below.refl _ _) rfl, hx⟩
    · exact hev.elim
  | call cl =>
    obtain ⟨callee, args, ts⟩ := cl
    have hargs : ∀ x ∈ args, VR P w c (ρ x) (r x) := fun x hx => hρ x (mem_operands hop (by simp [Op.operands, Call.operands, hx]))
    cases callee with
    | builtin b =>
      cases b with
      | len => exact same_quiet h (pure_len hT h hop hargs hev)
      | max => exact same_quiet h (pure_max hop hargs hev)
      | min => exact same_quiet h (pure_min hop hargs hev)
      | append => exact append_quiet hT h hbase hop hargs hq hev hfree
      | _ => unfold opEv at hev; rw [hop] at hev; exact hev.elim
    | value f =>
      unfold opEv at hev; rw [hop] at hev
      simp only at hev
      split at hev <;> exact hev.elim
    | invoke a b => unfold opEv at hev; rw [hop] at hev; exact hev.elim
  | store t a x => simp [isEff, hop] at hq
  | mapUpdate t a b x => simp [isEff, hop] at hq
  | _ => unfold opEv at hev; rw [hop] at hev; exact hev.elim
end
end Go.Tr

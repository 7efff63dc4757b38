/- Operations that turn nothing, one by one (2): what they come to is what opEv says. Conditions: none. -/
import Derived.Test.YtkomdfgffgkphaaTrC
import Derived.Laws.Cover3
namespace Go.Tr
open Go Go.RowKit

def Res.gives (r : Res) (v : AV) (h : Hp) : Prop :=
  match r with
  | .ok v' h' => v' = v ∧ h' = h
  | @Res.need p _ v' h' => p ∧ v' = v ∧ h' = h
  | @Res.anyB p _ b h' => p ∧ .val (.bool b) = v ∧ h' = h
  | _ => False

theorem aggEv_h {op : BinOp} {d : Option TI} {l m : List AV} {h h' : Hp} {v : AV} (hev : (aggEv op d l m h).gives v h') : h' = h ∧ ∀ h2, (aggEv op d l m h2).gives v h2 := by
  unfold aggEv at hev ⊢
  split at hev
  · rename_i ks
    split at hev
    · rename_i vs us hv hu
      cases hk : (kOk ks vs && kOk ks us) with
      | false => rw [hk] at hev; exact hev.elim
      | true =>
        rw [hk] at hev
        simp only [cond_true] at hev
        split at hev
        · obtain ⟨rfl, rfl⟩ := hev
          exact ⟨rfl, fun h2 => by simp only [hv, hu, hk, cond_true]; exact ⟨rfl, rfl⟩⟩
        · obtain ⟨rfl, rfl⟩ := hev
          exact ⟨rfl, fun h2 => by simp only [hv, hu, hk, cond_true]; exact ⟨rfl, rfl⟩⟩
        · exact hev.elim
    · exact hev.elim
  · exact hev.elim

theorem wrap_in {k : IntKind} {n : Int} (h : inK k n) : k.wrap n = n := by
  obtain ⟨h1, h2⟩ := h
  cases k <;> simp [IntKind.min, IntKind.max, IntKind.signed, IntKind.bits] at h1 h2 <;> simp [IntKind.wrap, IntKind.signed, IntKind.bits] <;> omega

section
variable {P : Program} {T : Nat → Option TI} {w : World} {c : Cx} {base : Nat} {hp : Hp}

/-- What an operation without calls gives: a value, the world unturned. -/
def PureOut (P : Program) (w : World) (c : Cx) (x : Sem Value) (v : AV) : Prop := ∃ u, x.run P w = .ok u w ∧ VR P w c v u

theorem equalIn_some_nil (t e : TypeId) (ad : Addr) (n k d : Nat) (h : P.underlying t = some (.slice e)) : (Op.equalIn (d + 1) t (.slice (some ad) n k) (.slice none 0 0)).run P w = .ok false w := by
  simp [Op.equalIn, run_underlying h]
theorem equal_some_nil (t e : TypeId) (ad : Addr) (n k : Nat) (h : P.underlying t = some (.slice e)) : (Op.equal t (.slice (some ad) n k) (.slice none 0 0)).run P w = .ok false w :=
  equalIn_some_nil t e ad n k 9999 h

theorem nil_const {y : Operand} {ρ : Operand → Value} (hρ : ∀ v, ρ (.const v) = v) (hy : isNilC y = true) : ρ y = .slice none 0 0 := by
  unfold isNilC at hy
  split at hy
  · exact hρ _
  · cases hy

/-- A slice against nil: some truth value. -/
theorem real_nil {op : BinOp} {t : TypeId} {d : Option TI} (hd : ∀ x, d = some x → P.underlying t = some x.desc) {x y : Operand} {a : AV} {u : Value} (ha : VR P w c a u) {ρ : Operand → Value} (hρ : ∀ v, ρ (.const v) = v) (hy : isNilC y = true)
    {p : Prop} {dp : Decidable p} {b : Bool} {hp' : Hp} (hev : nilEv op d a hp = @Res.anyB p dp b hp') :
    hp' = hp ∧ ∃ b' : Bool, (p → b' = b) ∧ (do eqGuard op t x y u (ρ y); binOp op t u (ρ y)).run P w = .ok (.bool b') w := by
  rw [nil_const hρ hy]
  have go : ∀ e aa n k (op : BinOp) (p : Prop) (b : Bool), P.underlying t = some (.slice e) → (op = .eql ∨ op = .neq) → (p → b = (if op = .eql then aa.isNone else !aa.isNone)) → ∃ b' : Bool, (p → b' = b) ∧ (do eqGuard op t x y (.slice aa n k) (.slice none 0 0); binOp op t (.slice aa n k) (.slice none 0 0)).run P w = .ok (.bool b') w := by
    intro e aa n k op p b hu hop hb
    rcases hop with rfl | rfl
    · exact ⟨aa.isNone, fun hpp => by rw [hb hpp]; rfl, by simp [eqGuard, binOp, run_equal_slice_nil w t e aa n k hu]⟩
    · exact ⟨!aa.isNone, fun hpp => by rw [hb hpp]; rfl, by simp [eqGuard, binOp, run_equal_slice_nil w t e aa n k hu]⟩
  unfold nilEv at hev
  split at hev
  · rename_i e _ _ _ _ es len f
    have hu := hd _ rfl
    cases ha with
    | tree ha =>
      split at hev
      · cases hev
        refine ⟨rfl, ?_⟩
        cases ha with
        | rslice0 _ _ aa k => exact go e aa 0 k _ _ _ hu (.inl rfl) (fun h => by omega)
        | rslice _ _ _ b off k g h1 h2 h3 h4 h5 => exact go e _ _ _ _ _ _ hu (.inl rfl) (fun h => rfl)
      · cases hev
        refine ⟨rfl, ?_⟩
        cases ha with
        | rslice0 _ _ aa k => exact go e aa 0 k _ _ _ hu (.inr rfl) (fun h => by omega)
        | rslice _ _ _ b off k g h1 h2 h3 h4 h5 => exact go e _ _ _ _ _ _ hu (.inr rfl) (fun h => rfl)
      · cases hev
  · rename_i e _ _ _ _
    have hu := hd _ rfl
    cases ha with
    | tree ha =>
      cases ha with
      | eslice aa =>
        split at hev
        · cases hev
          exact ⟨rfl, go e aa 0 0 _ _ _ hu (.inl rfl) (fun h => h.elim)⟩
        · cases hev
          exact ⟨rfl, go e aa 0 0 _ _ _ hu (.inr rfl) (fun h => h.elim)⟩
        · cases hev
  · cases hev

theorem pure_nil {op : BinOp} {t : TypeId} {d : Option TI} (hd : ∀ x, d = some x → P.underlying t = some x.desc) {x y : Operand} {a : AV} {u : Value} (ha : VR P w c a u) {ρ : Operand → Value} (hρ : ∀ v, ρ (.const v) = v) (hy : isNilC y = true)
    {v : AV} {hp' : Hp} (hev : (nilEv op d a hp).gives v hp') :
    hp' = hp ∧ PureOut P w c (do eqGuard op t x y u (ρ y); binOp op t u (ρ y)) v := by
  have key : ∀ (p : Prop) (dp : Decidable p) (b : Bool) (h' : Hp), nilEv op d a hp = @Res.anyB p dp b h' → hp' = hp ∧ PureOut P w c (do eqGuard op t x y u (ρ y); binOp op t u (ρ y)) v := by
    intro p dp b h' he
    rw [he] at hev
    obtain ⟨hpp, rfl, rfl⟩ := hev
    obtain ⟨e1, b', e2, e3⟩ := real_nil (x := x) hd ha hρ hy he
    exact ⟨e1, .bool b', e3, by rw [e2 hpp]; exact .tree (.val _)⟩
  cases hn : nilEv op d a hp with
  | anyB p b h' => exact key _ _ _ _ hn
  | bad => rw [hn] at hev; exact hev.elim
  | ok v' h' => exfalso; unfold nilEv at hn; (repeat' split at hn); all_goals cases hn
  | need p v' h' => exfalso; unfold nilEv at hn; (repeat' split at hn); all_goals cases hn
  | call => rw [hn] at hev; exact hev.elim
  | yieldc => rw [hn] at hev; exact hev.elim

theorem valsOf_eq : ∀ {l : List AV} {vs : List Value} {us : Array Value}, valsOf l = some vs → us.size = l.length → (∀ i x, l[i]? = some x → VR P w c x (us.getD i undef)) → us = vs.toArray
  | [], vs, us, h, hs, _ => by
    simp only [valsOf, Option.some.injEq] at h
    subst h
    exact Array.eq_empty_of_size_eq_zero (by simpa using hs)
  | x :: r, vs, us, h, hs, hr => by
    cases x with
    | val v =>
      simp only [valsOf] at h
      split at h
      · rename_i l hl
        cases h
        obtain ⟨ul⟩ := us
        cases ul with
        | nil => simp at hs
        | cons u0 ul =>
          have h0 := (hr 0 _ rfl).val_inv
          simp at h0
          subst h0
          have := valsOf_eq (us := ul.toArray) hl (by simpa using hs) (fun i x hx => by simpa using hr (i + 1) x (by simpa using hx))
          simp at this
          simp [this]
      · cases h
    | _ => simp [valsOf] at h

theorem pure_bin {op : BinOp} {t : TypeId} {d : Option TI} (hd : ∀ x, d = some x → P.underlying t = some x.desc) (hk : ∀ x ks, d = some x → x.kinds = some ks → KOK P t ks) {x y : Operand} {a b : AV} {u u' : Value} (ha : VR P w c a u) (hb : VR P w c b u')
    {v : AV} {hp' : Hp} (hev : (binEv op d a b hp).gives v hp') :
    hp' = hp ∧ PureOut P w c (do eqGuard op t x y u u'; binOp op t u u') v := by
  unfold binEv at hev
  split at hev
  · have := ha.val_inv; have := hb.val_inv; subst_vars
    split at hev
    · rename_i k i k' j hk
      subst hk
      split at hev <;> simp only [Res.gives] at hev
      · obtain ⟨hw, rfl, rfl⟩ := hev
        exact ⟨rfl, _, by simp [eqGuard, binOp, Op.intArith, wrap_in hw], .tree (.val _)⟩
      · obtain ⟨hw, rfl, rfl⟩ := hev
        exact ⟨rfl, _, by simp [eqGuard, binOp, Op.intArith, wrap_in hw], .tree (.val _)⟩
      · obtain ⟨hw, rfl, rfl⟩ := hev
        exact ⟨rfl, _, by simp [eqGuard, binOp, Op.intArith, wrap_in hw], .tree (.val _)⟩
      · obtain ⟨⟨h0, hw⟩, rfl, rfl⟩ := hev
        exact ⟨rfl, _, by simp [eqGuard, binOp, Op.intDiv, h0, wrap_in hw], .tree (.val _)⟩
      · obtain ⟨h0, rfl, rfl⟩ := hev
        exact ⟨rfl, _, by simp [eqGuard, binOp, Op.intDiv, h0], .tree (.val _)⟩
      all_goals first
        | exact hev.elim
        | (obtain ⟨rfl, rfl⟩ := hev; exact ⟨rfl, _, by simp [eqGuard, binOp, Op.intCmp], .tree (.val _)⟩)
    · exact hev.elim
  · have := ha.val_inv; have := hb.val_inv; subst_vars
    split at hev <;> simp only [Res.gives] at hev
    · obtain ⟨rfl, rfl⟩ := hev
      exact ⟨rfl, _, by simp only [eqGuard_at_bool, pure_bind]; exact run_eql_bool w t _ _ (hd _ rfl), .tree (.val _)⟩
    · obtain ⟨rfl, rfl⟩ := hev
      exact ⟨rfl, _, by simp only [eqGuard_at_bool, pure_bind]; exact run_neq_bool w t _ _ (hd _ rfl), .tree (.val _)⟩
  · have := ha.val_inv; have := hb.val_inv; subst_vars
    split at hev <;> simp only [Res.gives] at hev
    · obtain ⟨rfl, rfl⟩ := hev
      exact ⟨rfl, _, by simp [eqGuard, binOp, Op.stringOp], .tree (.val _)⟩
    · obtain ⟨rfl, rfl⟩ := hev
      exact ⟨rfl, _, by simp [eqGuard, binOp, Op.stringOp], .tree (.val _)⟩
    · obtain ⟨hsz, rfl, rfl⟩ := hev
      refine ⟨rfl, _, ?_, .tree (.val _)⟩
      simp only [eqGuard_add, pure_bind, binOp, Op.stringOp, IntKind.max_i64]
      rw [if_neg (by omega)]
      rfl
  · rename_i l m
    obtain ⟨us, rfl, hs1, _, hr1⟩ := ha.agg_inv
    obtain ⟨us', rfl, hs2, _, hr2⟩ := hb.agg_inv
    unfold aggEv at hev
    split at hev
    · rename_i ks
      split at hev
      · rename_i vs vs' hv1 hv2
        cases hkk : (kOk ks vs && kOk ks vs') with
        | false => rw [hkk] at hev; exact hev.elim
        | true =>
          rw [hkk] at hev
          rw [Bool.and_eq_true] at hkk
          have e1 := valsOf_eq hv1 hs1 hr1
          have e2 := valsOf_eq hv2 hs2 hr2
          subst e1; subst e2
          obtain ⟨g1, g2⟩ := hk _ _ rfl rfl w vs vs' op x y hkk.1 hkk.2
          simp only [cond_true] at hev
          split at hev <;> simp only [Res.gives] at hev
          · obtain ⟨rfl, rfl⟩ := hev
            exact ⟨rfl, _, by simp only [Sem.run_bind, g2, Result.andThen_ok]; simp [binOp, g1], .tree (.val _)⟩
          · obtain ⟨rfl, rfl⟩ := hev
            exact ⟨rfl, _, by simp only [Sem.run_bind, g2, Result.andThen_ok]; simp [binOp, g1], .tree (.val _)⟩
      · exact hev.elim
    · exact hev.elim
  · exact hev.elim

theorem pure_load (hT : TOK P T) (h : HR P base w c hp) {t : TypeId} {o : Oper} {x : Operand} {ρ : Operand → AV} {r : Operand → Value} (hop : o.op = .load t x) (hx : VR P w c (ρ x) (r x))
    {v : AV} {hp' : Hp} (hev : (opEv T o ρ hp).gives v hp') : hp' = hp ∧ PureOut P w c (Instr.loadAt t (r x)) v := by
  unfold opEv at hev
  rw [hop] at hev
  simp only at hev
  split at hev
  · rename_i ti ht
    split at hev
    · rename_i b ver idx sub hr
      rw [hr] at hx
      split at hev
      · rename_i k hk
        split at hev
        · rename_i v' hv
          obtain ⟨rfl, rfl⟩ := hev
          obtain ⟨hkb, hkv⟩ := block_some hk
          obtain ⟨oi, hO, hle, _, hv'⟩ := hx.optr_inv
          have hb := h.blk b k oi hkb hO
          obtain ⟨hidx, hu⟩ := hv' (by rw [hb.ver, hkv])
          rw [hu]
          refine ⟨rfl, load_ofCells hT ht hv fun j y hy => ?_⟩
          rw [getElem?_drop'] at hy
          obtain ⟨u, h1, h2, h3, _⟩ := hb.cell (by rw [← hb.n]; exact hidx) hy
          exact ⟨u, by rw [← h1]; congr 2; omega, h2, h3⟩
        · exact hev.elim
      · exact hev.elim
    · rename_i l hr
      rw [hr] at hx
      split at hev
      · rename_i v' hv
        obtain ⟨rfl, rfl⟩ := hev
        cases hx with
        | tree hx =>
          generalize r x = rx at hx
          cases hx with
          | rptr _ b off g hpb hcell hrel =>
            refine ⟨rfl, load_ofCells hT ht hv fun j y hy => ?_⟩
            have hj := (List.getElem?_eq_some_iff.1 hy).1
            exact ⟨g j, (hcell j hj).1, (hcell j hj).2, .tree (hrel j y hy)⟩
      · exact hev.elim
    · exact hev.elim
  · exact hev.elim

theorem find_field {fields : Array Field} {i : Nat} {f : Field} (h : nth? fields.toList i = some f) : fields[i]? = some f := by
  rw [nth?_eq] at h; simpa using h

theorem addr_add (b o n : Nat) : (⟨b, o, none⟩ : Addr).add n = ⟨b, o + n, none⟩ := Addr.add_lit b o n

/-- A pointer to a block of the call's own, moved within an element. -/
theorem optr_move (h : HR P base w c hp) {b ver idx sub : Nat} {k : AB} {u : Value} (hx : VR P w c (.optr b ver idx sub) u) (hk : hp.block b ver = some k) :
    ∃ a : Addr, u = .pointer (some a) ∧ a.spot = none ∧ ∀ n, VR P w c (.optr b ver idx (sub + n)) (.pointer (some (a.add n))) := by
  obtain ⟨hkb, hkv⟩ := block_some hk
  obtain ⟨oi, hO, hle, _, hv'⟩ := hx.optr_inv
  have hb := h.blk b k oi hkb hO
  obtain ⟨hidx, hu⟩ := hv' (by rw [hb.ver, hkv])
  exact ⟨_, hu, rfl, fun n => .optr _ _ _ _ _ oi hO hle rfl fun _ => ⟨hidx, by rw [addr_add]; congr 3; omega⟩⟩

theorem rptr_move {l : List AV} {u : Value} (hx : VR P w c (.rptr l) u) : ∃ a : Addr, u = .pointer (some a) ∧ a.spot = none ∧ ∀ n, VR P w c (.rptr (l.drop n)) (.pointer (some (a.add n))) := by
  cases hx with
  | tree hx =>
    cases hx with
    | rptr _ b off g hpb hcell hrel =>
      refine ⟨_, rfl, rfl, fun n => .tree ?_⟩
      rw [addr_add]
      refine .rptr _ b (off + n) (fun j => g (n + j)) hpb (fun j hj => ?_) (fun j x hj => ?_)
      · have := hcell (n + j) (by simp at hj; omega)
        rwa [← Nat.add_assoc] at this
      · rw [getElem?_drop'] at hj
        exact hrel _ _ hj

theorem pure_fieldAddr (hT : TOK P T) (h : HR P base w c hp) {s : TypeId} {i : Nat} {o : Oper} {x : Operand} {ρ : Operand → AV} {r : Operand → Value} (hop : o.op = .fieldAddr s x i) (hx : VR P w c (ρ x) (r x))
    {v : AV} {hp' : Hp} (hev : (opEv T o ρ hp).gives v hp') : hp' = hp ∧ PureOut P w c (Instr.fieldAt s (r x) i) v := by
  unfold opEv at hev
  rw [hop] at hev
  simp only at hev
  split at hev
  · rename_i fields _ _ _ _ hs
    obtain ⟨hd, _⟩ := hT _ _ hs
    split at hev
    · rename_i f hf
      have hf' := find_field hf
      have hrun : ∀ (fi : TI), T f.type = some fi → Nat.blt 0 fi.size = true → ∀ a : Addr, (Instr.fieldAt s (.pointer (some a)) i).run P w = .ok (.pointer (some (a.add f.offset))) w := fun fi hft hz a => by
        have hpos : 0 < fi.size := Nat.le_of_ble_eq_true hz
        obtain ⟨_, _, _, inf, hinf, hsz, _⟩ := hT _ _ hft
        have hne : inf.size ≠ 0 := by omega
        simp [Instr.fieldAt, run_underlying hd, hf', Instr.sureAddr, fieldPlace, sizeOf, typeInfo, hinf, hne]
      split at hev
      · rename_i fi b ver idx sub hft hr
        rw [hr] at hx
        split at hev
        · rename_i k hk
          cases hz : Nat.blt 0 fi.size with
          | false => rw [hz] at hev; exact hev.elim
          | true =>
            rw [hz] at hev
            obtain ⟨rfl, rfl⟩ := hev
            obtain ⟨a, hu, _, hm⟩ := optr_move h hx hk
            rw [hu]
            exact ⟨rfl, _, hrun fi hft hz a, hm _⟩
        · exact hev.elim
      · rename_i fi l hft hr
        rw [hr] at hx
        cases hz : Nat.blt 0 fi.size with
        | false => rw [hz] at hev; exact hev.elim
        | true =>
          rw [hz] at hev
          obtain ⟨rfl, rfl⟩ := hev
          obtain ⟨a, hu, _, hm⟩ := rptr_move hx
          rw [hu]
          exact ⟨rfl, _, hrun fi hft hz a, hm _⟩
      · exact hev.elim
    · exact hev.elim
  · exact hev.elim

theorem idxOf_some {x : AV} {n : Int} {u : Value} (hx : VR P w c x u) (h : idxOf x = some n) : ∃ k, u = .int k n := by
  unfold idxOf at h
  split at h
  · cases h; exact ⟨_, hx.val_inv⟩
  · cases h

/-- An element of a slice that is known. -/
theorem rslice_at {es len : Nat} {f : Nat → List AV} {u : Value} (hx : VR P w c (.rslice es len f) u) (hpos : 0 < len) : ∃ b off k, u = .slice (some ⟨b, off, none⟩) len k ∧
    ∀ i, i < len → VR P w c (.rptr (f i)) (.pointer (some ⟨b, off + i * es, none⟩)) := by
  cases hx with
  | tree hx =>
    cases hx with
    | rslice0 => omega
    | rslice _ _ _ b off k g _ hpb hl hcell hrel =>
      refine ⟨b, off, k, rfl, fun i hi => .tree (.rptr _ b _ (g i) hpb (fun j hj => ?_) (fun j x hj => hrel i j x hi hj))⟩
      rw [hl i hi] at hj
      have := hcell i j hi hj
      rwa [← Nat.add_assoc] at this

theorem pure_indexAddr (hT : TOK P T) (h : HR P base w c hp) {t : TypeId} {o : Oper} {x ix : Operand} {ρ : Operand → AV} {r : Operand → Value} (hop : o.op = .indexAddr t x ix) (hx : VR P w c (ρ x) (r x)) (hi : VR P w c (ρ ix) (r ix))
    {v : AV} {hp' : Hp} (hev : (opEv T o ρ hp).gives v hp') : hp' = hp ∧ PureOut P w c (Instr.indexAt t (r x) (r ix)) v := by
  unfold opEv at hev
  rw [hop] at hev
  simp only at hev
  split at hev
  · rename_i e _ _ _ _ n ht hn
    obtain ⟨hd, _⟩ := hT _ _ ht
    obtain ⟨k, hk⟩ := idxOf_some hi hn
    rw [hk]
    split at hev
    · rename_i ei es len f he hr
      obtain ⟨_, _, _, inf, hinf, hsz, _⟩ := hT _ _ he
      rw [hr] at hx
      cases hb : Nat.beq es ei.size with
      | false => rw [hb] at hev; exact hev.elim
      | true =>
        rw [hb] at hev
        obtain ⟨⟨h0, h1⟩, rfl, rfl⟩ := hev
        have hes := Nat.eq_of_beq_eq_true hb
        obtain ⟨b, off, kk, hu, hat⟩ := rslice_at hx (by omega)
        rw [hu]
        refine ⟨rfl, _, ?_, hat n.toNat (by omega)⟩
        simp [Instr.indexAt, asIntOf, run_underlying hd, h0, h1, sizeOf, typeInfo, hinf, addr_add, hsz, hes]
    · rename_i ei b ver off len cap he hr
      obtain ⟨_, _, _, inf, hinf, hsz, _⟩ := hT _ _ he
      rw [hr] at hx
      split at hev
      · rename_i kk hkk
        cases hb : Nat.beq kk.es ei.size with
        | false => rw [hb] at hev; exact hev.elim
        | true =>
          rw [hb] at hev
          obtain ⟨⟨h0, h1⟩, rfl, rfl⟩ := hev
          have hes := Nat.eq_of_beq_eq_true hb
          obtain ⟨hkb, hkv⟩ := block_some hkk
          obtain ⟨oi, hO, hle, _, hv'⟩ := hx.oslice_inv
          have hB := h.blk b kk oi hkb hO
          obtain ⟨hn1, a, k1, hu, hk1, hk2, hk3, _⟩ := hv' (by rw [hB.ver, hkv])
          have ha := hk3 (by omega)
          rw [hu, ha]
          refine ⟨rfl, _, ?_, .optr _ _ _ _ _ oi hO hle rfl fun _ => ⟨by omega, rfl⟩⟩
          have hes' := hB.es
          simp [Instr.indexAt, asIntOf, run_underlying hd, h0, h1, sizeOf, typeInfo, hinf, addr_add, hsz]
          rw [hes', hes, Nat.add_mul]
          omega
      · exact hev.elim
    · exact hev.elim
  · rename_i m e _ _ _ _ n ht hn
    obtain ⟨hd, _⟩ := hT _ _ ht
    obtain ⟨k, hk⟩ := idxOf_some hi hn
    rw [hk]
    split at hev
    · rename_i ei b ver idx sub he hr
      obtain ⟨_, _, _, inf, hinf, hsz, _⟩ := hT _ _ he
      rw [hr] at hx
      split at hev
      · rename_i kk hkk
        obtain ⟨⟨h0, h1⟩, rfl, rfl⟩ := hev
        obtain ⟨a, hu, _, hm⟩ := optr_move h hx hkk
        rw [hu]
        refine ⟨rfl, _, ?_, hm _⟩
        simp [Instr.indexAt, asIntOf, run_underlying hd, h0, h1, sizeOf, typeInfo, hinf, hsz, Instr.sureAddr]
      · exact hev.elim
    · rename_i ei l he hr
      obtain ⟨_, _, _, inf, hinf, hsz, _⟩ := hT _ _ he
      rw [hr] at hx
      obtain ⟨⟨h0, h1⟩, rfl, rfl⟩ := hev
      obtain ⟨a, hu, _, hm⟩ := rptr_move hx
      rw [hu]
      refine ⟨rfl, _, ?_, hm _⟩
      simp [Instr.indexAt, asIntOf, run_underlying hd, h0, h1, sizeOf, typeInfo, hinf, hsz, Instr.sureAddr]
    · exact hev.elim
  · exact hev.elim
end
end Go.Tr

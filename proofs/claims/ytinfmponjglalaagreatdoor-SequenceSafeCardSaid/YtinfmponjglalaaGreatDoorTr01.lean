/- Operations that turn nothing, one by one (2): what they come to is what opEv says. Conditions: none. -/
import Derived.Test.YtinfmponjglalaaGreatDoorTr00
import Derived.Laws.Cover3
import Derived.MapKept
set_option linter.unusedSectionVars false
set_option linter.unnecessarySimpa false
set_option linter.unusedVariables false
set_option linter.unusedSimpArgs false

namespace Go.Tr
open Go Go.RowKit

def Res.gives (r : Res) (v : AV) (h : Hp) : Prop :=
 match r with
 | .ok v' h'=>v' = v ∧ h' = h
 | @Res.need p _ v' h'=>p ∧ v' = v ∧ h' = h
 | @Res.anyB p _ b h'=>p ∧ .val (.bool b) = v ∧ h' = h
 | .upd h0 b k g fl=>∃ F : Nat → List AV,(∀ i,i < k.len → F i = g i) ∧ .top = v ∧ h0.setB b (k.wr F fl) = h
 | @Res.either p _ v1 h1 p' _ v2 h2=>(p ∧ v1 = v ∧ h1 = h) ∨ (p' ∧ v2 = v ∧ h2 = h)
 | _=>False

theorem aggEv_h {op : BinOp} {d : Option TI} {l m : List AV} {h h' : Hp} {v : AV} (hev : (aggEv op d l m h).gives v h') : h' = h ∧ ∀ h2,(aggEv op d l m h2).gives v h2 := by
 unfold aggEv at hev ⊢
 split at hev
 ·rename_i ks
  split at hev
  ·rename_i vs us hv hu
   cases hk : (kOk ks vs && kOk ks us) with
   | false=>rw [hk] at hev; exact hev.elim
   | true =>
    rw [hk] at hev
    simp only [cond_true] at hev
    split at hev
    ·obtain ⟨rfl,rfl⟩ := hev
     exact ⟨rfl,fun h2=>by exact ⟨rfl,rfl⟩⟩
    ·obtain ⟨rfl,rfl⟩ := hev
     exact ⟨rfl,fun h2=>by exact ⟨rfl,rfl⟩⟩
    ·exact hev.elim
  ·exact hev.elim
 ·exact hev.elim

theorem wrap_in {k : IntKind} {n : Int} (h : inK k n) : k.wrap n = n := by
 obtain ⟨h1,h2⟩ := h
 cases k <;> simp [IntKind.min,IntKind.max,IntKind.signed,IntKind.bits] at h1 h2 <;> simp [IntKind.wrap,IntKind.signed,IntKind.bits] <;> omega

section
variable [GTab] {P : Program} {T : Nat → Option TI} {w : World} {c : Cx} {base : Nat} {hp : Hp}

def PureOut (P : Program) (w : World) (c : Cx) (x : Sem Value) (v : AV) : Prop := ∃ u,x.run P w = .ok u w ∧ VR P w c v u

theorem equalIn_some_nil (t e : TypeId) (ad : Addr) (n k d : Nat) (h : P.underlying t = some (.slice e)) : (Op.equalIn (d + 1) t (.slice (some ad) n k) (.slice none 0 0)).run P w = .ok false w := by
  simp [Op.equalIn,run_underlying h]
theorem equal_some_nil (t e : TypeId) (ad : Addr) (n k : Nat) (h : P.underlying t = some (.slice e)) : (Op.equal t (.slice (some ad) n k) (.slice none 0 0)).run P w = .ok false w :=
  equalIn_some_nil t e ad n k 9999 h

theorem nil_const {y : Operand} {ρ : Operand → Value} (hρ : ∀ v,ρ (.const v) = v) (hy : isNilC y = true) : ρ y = .slice none 0 0 := by
 unfold isNilC at hy
 split at hy
 ·exact hρ _
 ·cases hy

theorem real_nil {op : BinOp} {t : TypeId} {d : Option TI} (hd : ∀ x,d = some x → P.underlying t = some x.desc) {x y : Operand} {a : AV} {u : Value} (ha : VR P w c a u) {ρ : Operand → Value} (hρ : ∀ v,ρ (.const v) = v) (hy : isNilC y = true)
  {p : Prop} {dp : Decidable p} {b : Bool} {hp' : Hp} (hev : nilEv op d a hp = @Res.anyB p dp b hp') :
  hp' = hp ∧ ∃ b' : Bool,(p → b' = b) ∧ (do eqGuard op t x y u (ρ y); binOp op t u (ρ y)).run P w = .ok (.bool b') w := by
 rw [nil_const hρ hy]
 have go : ∀ e aa n k (op : BinOp) (p : Prop) (b : Bool),P.underlying t = some (.slice e) → (op = .eql ∨ op = .neq) → (p → b = (if op = .eql then aa.isNone else !aa.isNone)) → ∃ b' : Bool,(p → b' = b) ∧ (do eqGuard op t x y (.slice aa n k) (.slice none 0 0); binOp op t (.slice aa n k) (.slice none 0 0)).run P w = .ok (.bool b') w := by
  intro e aa n k op p b hu hop hb
  rcases hop with rfl | rfl
  ·exact ⟨aa.isNone,fun hpp=>by rw [hb hpp]; rfl,by simp [eqGuard,binOp,run_equal_slice_nil w t e aa n k hu]⟩
  ·exact ⟨!aa.isNone,fun hpp=>by rw [hb hpp]; rfl,by simp [eqGuard,binOp,run_equal_slice_nil w t e aa n k hu]⟩
 unfold nilEv at hev
 split at hev
 ·rename_i e _ _ _ _ es len f
  have hu := hd _ rfl
  cases ha with
  | tree ha =>
   split at hev
   ·cases hev
    refine ⟨rfl,?_⟩
    cases ha with
    | rslice0 _ _ aa k=>exact go e aa 0 k _ _ _ hu (.inl rfl) (fun h=>by omega)
    | rslice _ _ _ b off k g h1 h2 h3 h4 h5=>exact go e _ _ _ _ _ _ hu (.inl rfl) (fun h=>rfl)
   ·cases hev
    refine ⟨rfl,?_⟩
    cases ha with
    | rslice0 _ _ aa k=>exact go e aa 0 k _ _ _ hu (.inr rfl) (fun h=>by omega)
    | rslice _ _ _ b off k g h1 h2 h3 h4 h5=>exact go e _ _ _ _ _ _ hu (.inr rfl) (fun h=>rfl)
   ·cases hev
 ·rename_i e _ _ _ _
  have hu := hd _ rfl
  cases ha with
  | tree ha =>
   cases ha with
   | eslice aa =>
    split at hev
    ·cases hev
     exact ⟨rfl,go e aa 0 0 _ _ _ hu (.inl rfl) (fun h=>h.elim)⟩
    ·cases hev
     exact ⟨rfl,go e aa 0 0 _ _ _ hu (.inr rfl) (fun h=>h.elim)⟩
    ·cases hev
 ·cases hev

theorem pure_nil {op : BinOp} {t : TypeId} {d : Option TI} (hd : ∀ x,d = some x → P.underlying t = some x.desc) {x y : Operand} {a : AV} {u : Value} (ha : VR P w c a u) {ρ : Operand → Value} (hρ : ∀ v,ρ (.const v) = v) (hy : isNilC y = true)
  {v : AV} {hp' : Hp} (hev : (nilEv op d a hp).gives v hp') :
  hp' = hp ∧ PureOut P w c (do eqGuard op t x y u (ρ y); binOp op t u (ρ y)) v := by
 have key : ∀ (p : Prop) (dp : Decidable p) (b : Bool) (h' : Hp),nilEv op d a hp = @Res.anyB p dp b h' → hp' = hp ∧ PureOut P w c (do eqGuard op t x y u (ρ y); binOp op t u (ρ y)) v := by
  intro p dp b h' he
  rw [he] at hev
  obtain ⟨hpp,rfl,rfl⟩ := hev
  obtain ⟨e1,b',e2,e3⟩ := real_nil (x := x) hd ha hρ hy he
  exact ⟨e1,.bool b',e3,by rw [e2 hpp]; exact .tree (.val _)⟩
 cases hn : nilEv op d a hp with
 | anyB p b h'=>exact key _ _ _ _ hn
 | bad=>rw [hn] at hev; exact hev.elim
 | ok v' h'=>exfalso; unfold nilEv at hn; (repeat' split at hn); all_goals cases hn
 | need p v' h'=>exfalso; unfold nilEv at hn; (repeat' split at hn); all_goals cases hn
 | upd h0 b k g fl=>exfalso; unfold nilEv at hn; (repeat' split at hn); all_goals cases hn
 | call=>rw [hn] at hev; exact hev.elim
 | yieldc=>rw [hn] at hev; exact hev.elim
 | either p v' h' p' v'' h''=>exfalso; unfold nilEv at hn; (repeat' split at hn); all_goals cases hn
 | share=>rw [hn] at hev; exact hev.elim
 | ranged=>rw [hn] at hev; exact hev.elim
 | nextc=>rw [hn] at hev; exact hev.elim
 | insF=>rw [hn] at hev; exact hev.elim

theorem valsOf_eq : ∀ {l : List AV} {vs : List Value} {us : Array Value},valsOf l = some vs → us.size = l.length → (∀ i x,l[i]? = some x → VR P w c x (us.getD i undef)) → us = vs.toArray
 | [],vs,us,h,hs,_=>by
  simp only [valsOf,Option.some.injEq] at h
  subst h
  exact Array.eq_empty_of_size_eq_zero (by simpa using hs)
 | x :: r, vs, us, h, hs, hr => by
  cases x with
  | val v =>
   simp only [valsOf] at h
   split at h
   ·rename_i l hl
    cases h
    obtain ⟨ul⟩ := us
    cases ul with
    | nil=>simp at hs
    | cons u0 ul =>
     have h0 := (hr 0 _ rfl).val_inv
     simp at h0
     subst h0
     have := valsOf_eq (us := ul.toArray) hl (by simpa using hs) (fun i x hx=>by simpa using hr (i + 1) x (by simpa using hx))
     simp at this
     simp [this]
   ·cases h
  | _=>simp [valsOf] at h

theorem pairO_some {x y : Option Nat} (h : (pairO x y).isSome = true) : ∃ a b,x = some a ∧ y = some b ∧ pairO x y = some (a,b) := by
 cases x with
 | none=>cases h
 | some a=>cases y with
  | none=>cases h
  | some b=>exact ⟨a,b,rfl,rfl,rfl⟩
theorem fOp2_some {op : BinOp} {x y : Option Nat} {r : Nat} (h : fOp2 op x y = some r) : ∃ a b,x = some a ∧ y = some b ∧ fOp op a b = some r := by
 cases x with
 | none=>cases h
 | some a=>cases y with
  | none=>cases h
  | some b=>exact ⟨a,b,rfl,rfl,h⟩
theorem run_arith {op : BinOp} {a b r : Nat} (h : fOp op a b = some r) (P : Program) (w : World) : (Op.Complex.arith op .f64 a b).run P w = .ok r w := by
 unfold fOp at h
 unfold Op.Complex.arith Op.floatArith
 split at h
 ·simp [h]
 ·simp [h]
 ·simp [h]
 ·cases h
theorem run_cOp {op : BinOp} {a b c d : Nat} (h : (cOp op a b c d).isSome = true) (P : Program) (w : World) : (Op.complexOp op .f64 a b c d).run P w = .ok (.complex .f64 ((cOp op a b c d).getD (0,0)).1 ((cOp op a b c d).getD (0,0)).2) w := by
 unfold cOp at h ⊢
 unfold Op.complexOp
 split at h
 ·obtain ⟨x,y,h1,h2,h3⟩ := pairO_some h
  simp [h3,run_arith h1,run_arith h2]
 ·obtain ⟨x,y,h1,h2,h3⟩ := pairO_some h
  simp [h3,run_arith h1,run_arith h2]
 ·obtain ⟨x,y,h1,h2,h3⟩ := pairO_some h
  obtain ⟨x1,x2,g1,g2,g3⟩ := fOp2_some h1
  obtain ⟨y1,y2,g4,g5,g6⟩ := fOp2_some h2
  simp [h3,Op.Complex.conv,Op.Complex.product,Op.Complex.mul,Op.Complex.add,Op.Complex.sub,run_arith g1,run_arith g2,run_arith g3,run_arith g4,run_arith g5,run_arith g6]
 ·cases h
theorem nili_const {y : Operand} (hy : isNilI y = true) : y = .const .nilIface := by
 unfold isNilI at hy
 split at hy
 ·rfl
 ·cases hy
theorem equal_iface_nil (t tx : TypeId) (v : Value) {ms : Array (String × TypeId)} (h : P.underlying t = some (.interface ms)) : (Op.equal t (.iface tx v) .nilIface).run P w = .ok false w := by
  have g : ∀ d : Nat,(Op.equalIn (d + 1) t (.iface tx v) .nilIface).run P w = .ok false w := fun d=>by simp [Op.equalIn,run_underlying h]
  exact g 9999
theorem equal_nil_nil (t : TypeId) {ms : Array (String × TypeId)} (h : P.underlying t = some (.interface ms)) : (Op.equal t .nilIface .nilIface).run P w = .ok true w := by
  have g : ∀ d : Nat,(Op.equalIn (d + 1) t .nilIface .nilIface).run P w = .ok true w := fun d=>by simp [Op.equalIn,run_underlying h]
  exact g 9999
theorem pure_bin {op : BinOp} {t : TypeId} {d : Option TI} (hd : ∀ x,d = some x → P.underlying t = some x.desc) (hk : ∀ x ks,d = some x → x.kinds = some ks → KOK P t ks) {x y : Operand} {a b : AV} {u u' : Value} (ha : VR P w c a u) (hb : VR P w c b u')
  {v : AV} {hp' : Hp} (hev : (binEv op d a b (isNilI y) hp).gives v hp') :
  hp' = hp ∧ PureOut P w c (do eqGuard op t x y u u'; binOp op t u u') v := by
 unfold binEv at hev
 split at hev
 ·have := ha.val_inv; have := hb.val_inv; subst_vars
  split at hev
  ·rename_i k i k' j hk
   subst hk
   split at hev <;> simp only [Res.gives] at hev
   ·obtain ⟨hw,rfl,rfl⟩ := hev
    exact ⟨rfl,_,by simp [eqGuard,binOp,Op.intArith,wrap_in hw],.tree (.val _)⟩
   ·obtain ⟨hw,rfl,rfl⟩ := hev
    exact ⟨rfl,_,by simp [eqGuard,binOp,Op.intArith,wrap_in hw],.tree (.val _)⟩
   ·obtain ⟨hw,rfl,rfl⟩ := hev
    exact ⟨rfl,_,by simp [eqGuard,binOp,Op.intArith,wrap_in hw],.tree (.val _)⟩
   ·obtain ⟨⟨h0,hw⟩,rfl,rfl⟩ := hev
    exact ⟨rfl,_,by simp [eqGuard,binOp,Op.intDiv,h0,wrap_in hw],.tree (.val _)⟩
   ·obtain ⟨h0,rfl,rfl⟩ := hev
    exact ⟨rfl,_,by simp [eqGuard,binOp,Op.intDiv,h0],.tree (.val _)⟩
   all_goals first
    | exact hev.elim
    | (obtain ⟨rfl,rfl⟩ := hev; exact ⟨rfl,_,by simp [eqGuard,binOp,Op.intCmp,Op.intBits,bitI],.tree (.val _)⟩)
    | (obtain ⟨h0,rfl,rfl⟩ := hev; exact ⟨rfl,_,by (have : ¬ j < 0 := by omega); simp [eqGuard,binOp,Op.shift,shlI,shrI,this],.tree (.val _)⟩)
  ·rename_i j _
   split at hev <;> simp only [Res.gives] at hev
   all_goals first
    | exact hev.elim
    | (obtain ⟨h0,rfl,rfl⟩ := hev; exact ⟨rfl,_,by (have : ¬ j < 0 := by omega); simp [eqGuard,binOp,Op.shift,shlI,shrI,this],.tree (.val _)⟩)
 ·have := ha.val_inv; have := hb.val_inv; subst_vars
  split at hev <;> simp only [Res.gives] at hev
  ·obtain ⟨rfl,rfl⟩ := hev
   exact ⟨rfl,_,by simp only [eqGuard_at_bool,pure_bind]; exact run_eql_bool w t _ _ (hd _ rfl),.tree (.val _)⟩
  ·obtain ⟨rfl,rfl⟩ := hev
   exact ⟨rfl,_,by simp only [eqGuard_at_bool,pure_bind]; exact run_neq_bool w t _ _ (hd _ rfl),.tree (.val _)⟩
 ·have := ha.val_inv; have := hb.val_inv; subst_vars
  split at hev <;> simp only [Res.gives] at hev
  ·obtain ⟨rfl,rfl⟩ := hev
   exact ⟨rfl,_,by simp [eqGuard,binOp,Op.stringOp],.tree (.val _)⟩
  ·obtain ⟨rfl,rfl⟩ := hev
   exact ⟨rfl,_,by simp [eqGuard,binOp,Op.stringOp],.tree (.val _)⟩
  ·obtain ⟨hsz,rfl,rfl⟩ := hev
   refine ⟨rfl,_,?_,.tree (.val _)⟩
   simp only [eqGuard_add,pure_bind,binOp,Op.stringOp,IntKind.max_i64]
   rw [if_neg (by omega)]
   rfl
 ·rename_i l m
  obtain ⟨us,rfl,hs1,_,hr1⟩ := ha.agg_inv
  obtain ⟨us',rfl,hs2,_,hr2⟩ := hb.agg_inv
  unfold aggEv at hev
  split at hev
  ·rename_i ks
   split at hev
   ·rename_i vs vs' hv1 hv2
    cases hkk : (kOk ks vs && kOk ks vs') with
    | false=>rw [hkk] at hev; exact hev.elim
    | true =>
     rw [hkk] at hev
     rw [Bool.and_eq_true] at hkk
     have e1 := valsOf_eq hv1 hs1 hr1
     have e2 := valsOf_eq hv2 hs2 hr2
     subst e1; subst e2
     obtain ⟨g1,g2⟩ := hk _ _ rfl rfl w vs vs' op x y hkk.1 hkk.2
     simp only [cond_true] at hev
     split at hev <;> simp only [Res.gives] at hev
     ·obtain ⟨rfl,rfl⟩ := hev
      exact ⟨rfl,_,by simp only [Sem.run_bind,g2,Result.andThen_ok]; simp [binOp,g1],.tree (.val _)⟩
     ·obtain ⟨rfl,rfl⟩ := hev
      exact ⟨rfl,_,by simp only [Sem.run_bind,g2,Result.andThen_ok]; simp [binOp,g1],.tree (.val _)⟩
   ·exact hev.elim
  ·exact hev.elim
 ·obtain ⟨t',v',rfl⟩ := ha.err_inv
  have := hb.val_inv; subst this
  split at hev <;> simp only [Res.gives] at hev
  ·obtain ⟨rfl,rfl⟩ := hev
   exact ⟨rfl,_,by simp only [eqGuard_at_iface,pure_bind]; simp [binOp,equal_iface_nil t _ _ (hd _ rfl)],.tree (.val _)⟩
  ·obtain ⟨rfl,rfl⟩ := hev
   exact ⟨rfl,_,by simp only [eqGuard_at_iface,pure_bind]; simp [binOp,equal_iface_nil t _ _ (hd _ rfl)],.tree (.val _)⟩
 ·have := ha.val_inv; subst this
  have := hb.val_inv; subst this
  split at hev <;> simp only [Res.gives] at hev
  ·rename_i hy
   obtain ⟨rfl,rfl⟩ := hev
   rw [nili_const hy]
   exact ⟨rfl,_,by simp only [eqGuard_nil_constR,pure_bind]; simp [binOp,equal_nil_nil t (hd _ rfl)],.tree (.val _)⟩
  ·rename_i hy
   obtain ⟨rfl,rfl⟩ := hev
   rw [nili_const hy]
   exact ⟨rfl,_,by simp only [eqGuard_nil_constR,pure_bind]; simp [binOp,equal_nil_nil t (hd _ rfl)],.tree (.val _)⟩
 ·rename_i a b c e
  have h1 := ha.val_inv
  have h2 := hb.val_inv
  subst h1; subst h2
  obtain ⟨hk,rfl,rfl⟩ := hev
  refine ⟨rfl,_,?_,.tree (.val _)⟩
  have hop : op = .add ∨ op = .sub ∨ op = .mul := by
   unfold cOp at hk
   split at hk
   ·exact .inl rfl
   ·exact .inr (.inl rfl)
   ·exact .inr (.inr rfl)
   ·cases hk
  rcases hop with rfl | rfl | rfl <;> simp [eqGuard,binOp,run_cOp hk]
 ·exact hev.elim

theorem pure_load (hT : TOK P T) (h : HR P base w c hp) {t : TypeId} {o : Oper} {x : Operand} {ρ : Operand → AV} {r : Operand → Value} (hop : o.op = .load t x) (hx : VR P w c (ρ x) (r x))
  {v : AV} {hp' : Hp} (hev : (opEv T o ρ hp).gives v hp') : hp' = hp ∧ PureOut P w c (Instr.loadAt t (r x)) v := by
 unfold opEv at hev
 rw [hop] at hev
 simp only at hev
 split at hev
 ·rename_i ti ht
  split at hev
  ·rename_i b ver idx sub hr
   rw [hr] at hx
   split at hev
   ·rename_i k hk
    split at hev
    ·rename_i v' hv
     obtain ⟨rfl,rfl⟩ := hev
     obtain ⟨hkb,hkv⟩ := block_some hk
     obtain ⟨oi,hO,hle,_,hv'⟩ := hx.optr_inv
     have hb := h.blk b k oi hkb hO
     obtain ⟨hidx,hu⟩ := hv' (by rw [hb.ver,hkv])
     rw [hu]
     refine ⟨rfl,load_ofCells hT ht hv fun j y hy=>?_⟩
     rw [getElem?_drop'] at hy
     obtain ⟨u,h1,h2,h3,_⟩ := hb.cell (by rw [← hb.n]; exact hidx) hy
     exact ⟨u,by rw [← h1]; congr 2; omega,h2,h3⟩
    ·exact hev.elim
   ·exact hev.elim
  ·rename_i l hr
   rw [hr] at hx
   split at hev
   ·rename_i v' hv
    obtain ⟨rfl,rfl⟩ := hev
    cases hx with
    | tree hx =>
     generalize r x = rx at hx
     cases hx with
     | rptr _ b off g hpb hcell hrel =>
      refine ⟨rfl,load_ofCells hT ht hv fun j y hy=>?_⟩
      have hj := (List.getElem?_eq_some_iff.1 hy).1
      exact ⟨g j,(hcell j hj).1,(hcell j hj).2,.tree (hrel j y hy)⟩
   ·exact hev.elim
  ·exact hev.elim
 ·exact hev.elim

theorem find_field {fields : Array Field} {i : Nat} {f : Field} (h : nth? fields.toList i = some f) : fields[i]? = some f := by
  rw [nth?_eq] at h; simpa using h

theorem addr_add (b o n : Nat) : (⟨b,o,none⟩ : Addr).add n = ⟨b,o + n,none⟩ := Addr.add_lit b o n

theorem optr_move (h : HR P base w c hp) {b ver idx sub : Nat} {k : AB} {u : Value} (hx : VR P w c (.optr b ver idx sub) u) (hk : hp.block b ver = some k) :
  ∃ a : Addr,u = .pointer (some a) ∧ a.spot = none ∧ ∀ n,VR P w c (.optr b ver idx (sub + n)) (.pointer (some (a.add n))) := by
 obtain ⟨hkb,hkv⟩ := block_some hk
 obtain ⟨oi,hO,hle,_,hv'⟩ := hx.optr_inv
 have hb := h.blk b k oi hkb hO
 obtain ⟨hidx,hu⟩ := hv' (by rw [hb.ver,hkv])
 exact ⟨_,hu,rfl,fun n=>.optr _ _ _ _ _ oi hO hle rfl fun _=>⟨hidx,by rw [addr_add]; congr 3; omega⟩⟩

theorem rptr_move {l : List AV} {u : Value} (hx : VR P w c (.rptr l) u) : ∃ a : Addr,u = .pointer (some a) ∧ a.spot = none ∧ ∀ n,VR P w c (.rptr (l.drop n)) (.pointer (some (a.add n))) := by
 cases hx with
 | tree hx =>
  cases hx with
  | rptr _ b off g hpb hcell hrel =>
   refine ⟨_,rfl,rfl,fun n=>.tree ?_⟩
   rw [addr_add]
   refine .rptr _ b (off + n) (fun j=>g (n + j)) hpb (fun j hj=>?_) (fun j x hj=>?_)
   ·have := hcell (n + j) (by simp at hj; omega)
    rwa [← Nat.add_assoc] at this
   ·rw [getElem?_drop'] at hj
    exact hrel _ _ hj

theorem pure_fieldAddr (hT : TOK P T) (h : HR P base w c hp) {s : TypeId} {i : Nat} {o : Oper} {x : Operand} {ρ : Operand → AV} {r : Operand → Value} (hop : o.op = .fieldAddr s x i) (hx : VR P w c (ρ x) (r x))
  {v : AV} {hp' : Hp} (hev : (opEv T o ρ hp).gives v hp') : hp' = hp ∧ PureOut P w c (Instr.fieldAt s (r x) i) v := by
 unfold opEv at hev
 rw [hop] at hev
 simp only at hev
 split at hev
 ·rename_i fields _ _ _ _ hs
  obtain ⟨hd,_⟩ := hT _ _ hs
  split at hev
  ·rename_i f hf
   have hf' := find_field hf
   have hrun : ∀ (fi : TI),T f.type = some fi → Nat.blt 0 fi.size = true → ∀ a : Addr,(Instr.fieldAt s (.pointer (some a)) i).run P w = .ok (.pointer (some (a.add f.offset))) w := fun fi hft hz a=>by
    have hpos : 0 < fi.size := Nat.le_of_ble_eq_true hz
    obtain ⟨_,_,_,inf,hinf,hsz,_⟩ := hT _ _ hft
    have hne : inf.size ≠ 0 := by omega
    simp [Instr.fieldAt,run_underlying hd,hf',Instr.sureAddr,fieldPlace,sizeOf,typeInfo,hinf,hne]
   split at hev
   ·rename_i fi b ver idx sub hft hr
    rw [hr] at hx
    split at hev
    ·rename_i k hk
     cases hz : Nat.blt 0 fi.size with
     | false=>rw [hz] at hev; exact hev.elim
     | true =>
      rw [hz] at hev
      obtain ⟨rfl,rfl⟩ := hev
      obtain ⟨a,hu,_,hm⟩ := optr_move h hx hk
      rw [hu]
      exact ⟨rfl,_,hrun fi hft hz a,hm _⟩
    ·exact hev.elim
   ·rename_i fi l hft hr
    rw [hr] at hx
    cases hz : Nat.blt 0 fi.size with
    | false=>rw [hz] at hev; exact hev.elim
    | true =>
     rw [hz] at hev
     obtain ⟨rfl,rfl⟩ := hev
     obtain ⟨a,hu,_,hm⟩ := rptr_move hx
     rw [hu]
     exact ⟨rfl,_,hrun fi hft hz a,hm _⟩
   ·exact hev.elim
  ·exact hev.elim
 ·exact hev.elim

theorem idxOf_some {x : AV} {n : Int} {u : Value} (hx : VR P w c x u) (h : idxOf x = some n) : ∃ k,u = .int k n := by
 unfold idxOf at h
 split at h
 ·cases h; exact ⟨_,hx.val_inv⟩
 ·cases h

theorem rslice_at {es len : Nat} {f : Nat → List AV} {u : Value} (hx : VR P w c (.rslice es len f) u) (hpos : 0 < len) : ∃ b off k,u = .slice (some ⟨b,off,none⟩) len k ∧
  ∀ i,i < len → VR P w c (.rptr (f i)) (.pointer (some ⟨b,off + i * es,none⟩)) := by
 cases hx with
 | tree hx =>
  cases hx with
  | rslice0=>omega
  | rslice _ _ _ b off k g _ hpb hl hcell hrel =>
   refine ⟨b,off,k,rfl,fun i hi=>.tree (.rptr _ b _ (g i) hpb (fun j hj=>?_) (fun j x hj=>hrel i j x hi hj))⟩
   rw [hl i hi] at hj
   have := hcell i j hi hj
   rwa [← Nat.add_assoc] at this

theorem pure_indexAddr (hT : TOK P T) (h : HR P base w c hp) {t : TypeId} {o : Oper} {x ix : Operand} {ρ : Operand → AV} {r : Operand → Value} (hop : o.op = .indexAddr t x ix) (hx : VR P w c (ρ x) (r x)) (hi : VR P w c (ρ ix) (r ix))
  {v : AV} {hp' : Hp} (hev : (opEv T o ρ hp).gives v hp') : hp' = hp ∧ PureOut P w c (Instr.indexAt t (r x) (r ix)) v := by
 unfold opEv at hev
 rw [hop] at hev
 simp only at hev
 split at hev
 ·rename_i e _ _ _ _ n ht hn
  obtain ⟨hd,_⟩ := hT _ _ ht
  obtain ⟨k,hk⟩ := idxOf_some hi hn
  rw [hk]
  split at hev
  ·rename_i ei es len f he hr
   obtain ⟨_,_,_,inf,hinf,hsz,_⟩ := hT _ _ he
   rw [hr] at hx
   cases hb : Nat.beq es ei.size with
   | false=>rw [hb] at hev; exact hev.elim
   | true =>
    rw [hb] at hev
    obtain ⟨⟨h0,h1⟩,rfl,rfl⟩ := hev
    have hes := Nat.eq_of_beq_eq_true hb
    obtain ⟨b,off,kk,hu,hat⟩ := rslice_at hx (by omega)
    rw [hu]
    refine ⟨rfl,_,?_,hat n.toNat (by omega)⟩
    simp [Instr.indexAt,asIntOf,run_underlying hd,h0,h1,sizeOf,typeInfo,hinf,addr_add,hsz,hes]
  ·rename_i ei es len cp f he hr
   obtain ⟨_,_,_,inf,hinf,hsz,_⟩ := hT _ _ he
   rw [hr] at hx
   cases hb : Nat.beq es ei.size with
   | false=>rw [hb] at hev; exact hev.elim
   | true =>
    rw [hb] at hev
    obtain ⟨⟨h0,h1⟩,rfl,rfl⟩ := hev
    have hes := Nat.eq_of_beq_eq_true hb
    have hx' : VR P w c (.rslice es len f) (r x) := by cases hx with | tree hx=>exact .tree hx.unclip
    obtain ⟨b,off,kk,hu,hat⟩ := rslice_at hx' (by omega)
    rw [hu]
    refine ⟨rfl,_,?_,hat n.toNat (by omega)⟩
    simp [Instr.indexAt,asIntOf,run_underlying hd,h0,h1,sizeOf,typeInfo,hinf,addr_add,hsz,hes]
  ·rename_i ei b ver idx sub es len he hr
   obtain ⟨_,_,_,inf,hinf,hsz,_⟩ := hT _ _ he
   rw [hr] at hx
   split at hev
   ·rename_i kk hkk
    cases hb : Nat.beq es ei.size with
    | false=>rw [hb] at hev; exact hev.elim
    | true =>
     rw [hb] at hev
     obtain ⟨⟨h0,h1⟩,rfl,rfl⟩ := hev
     have hes := Nat.eq_of_beq_eq_true hb
     obtain ⟨hkb,hkv⟩ := block_some hkk
     obtain ⟨oi,hO,hle,_,hv'⟩ := hx.aslice_inv
     have hB := h.blk b kk oi hkb hO
     obtain ⟨hidx,hz,hu⟩ := hv' (by rw [hB.ver,hkv])
     rw [hu]
     refine ⟨rfl,_,?_,.optr _ _ _ _ _ oi hO hle rfl fun _=>⟨hidx,rfl⟩⟩
     simp [Instr.indexAt,asIntOf,run_underlying hd,h0,h1,sizeOf,typeInfo,hinf,addr_add,hsz]
     rw [hes]
     omega
   ·exact hev.elim
  ·rename_i ei b ver off len cap he hr
   obtain ⟨_,_,_,inf,hinf,hsz,_⟩ := hT _ _ he
   rw [hr] at hx
   split at hev
   ·rename_i kk hkk
    cases hb : Nat.beq kk.es ei.size with
    | false=>rw [hb] at hev; exact hev.elim
    | true =>
     rw [hb] at hev
     obtain ⟨⟨h0,h1⟩,rfl,rfl⟩ := hev
     have hes := Nat.eq_of_beq_eq_true hb
     obtain ⟨hkb,hkv⟩ := block_some hkk
     obtain ⟨oi,hO,hle,_,hv'⟩ := hx.oslice_inv
     have hB := h.blk b kk oi hkb hO
     obtain ⟨hn1,a,k1,hu,hk1,hk2,hkn,hk3,_⟩ := hv' (by rw [hB.ver,hkv])
     have ha := hk3 (by omega)
     rw [hu,ha]
     refine ⟨rfl,_,?_,.optr _ _ _ _ _ oi hO hle rfl fun _=>⟨by omega,rfl⟩⟩
     have hes' := hB.es
     simp [Instr.indexAt,asIntOf,run_underlying hd,h0,h1,sizeOf,typeInfo,hinf,addr_add,hsz]
     rw [hes',hes,Nat.add_mul]
     omega
   ·exact hev.elim
  ·exact hev.elim
 ·rename_i m e _ _ _ _ n ht hn
  obtain ⟨hd,_⟩ := hT _ _ ht
  obtain ⟨k,hk⟩ := idxOf_some hi hn
  rw [hk]
  split at hev
  ·rename_i ei b ver idx sub he hr
   obtain ⟨_,_,_,inf,hinf,hsz,_⟩ := hT _ _ he
   rw [hr] at hx
   split at hev
   ·rename_i kk hkk
    obtain ⟨⟨h0,h1⟩,rfl,rfl⟩ := hev
    obtain ⟨a,hu,_,hm⟩ := optr_move h hx hkk
    rw [hu]
    refine ⟨rfl,_,?_,hm _⟩
    simp [Instr.indexAt,asIntOf,run_underlying hd,h0,h1,sizeOf,typeInfo,hinf,hsz,Instr.sureAddr]
   ·exact hev.elim
  ·rename_i ei l he hr
   obtain ⟨_,_,_,inf,hinf,hsz,_⟩ := hT _ _ he
   rw [hr] at hx
   obtain ⟨⟨h0,h1⟩,rfl,rfl⟩ := hev
   obtain ⟨a,hu,_,hm⟩ := rptr_move hx
   rw [hu]
   refine ⟨rfl,_,?_,hm _⟩
   simp [Instr.indexAt,asIntOf,run_underlying hd,h0,h1,sizeOf,typeInfo,hinf,hsz,Instr.sureAddr]
  ·exact hev.elim
 ·exact hev.elim
end
end Go.Tr

/- Operations that turn nothing, one by one (3). Conditions: none. -/
namespace Go.Tr
open Go Go.RowKit
variable [GTab]

section
variable {P : Program} {T : Nat → Option TI} {w : World} {c : Cx} {base : Nat} {hp : Hp}

theorem run_bound (k : IntKind) (i : Int) (y : Nat) (code : BoundsCode) (h0 : 0 ≤ i) (h1 : i ≤ y) : (Instr.sliceBound (.int k i) y code).run P w = .ok i.toNat w := by
  simp [Instr.sliceBound,asIntOf,h0,h1]

theorem run_bounds (b : Bool) (len cap : Nat) (lo hi : Option Value) (l r : Int) (hl : lo = none ∧ l = 0 ∨ ∃ k,lo = some (.int k l)) (hr : hi = none ∧ r = len ∨ ∃ k,hi = some (.int k r))
  (h0 : 0 ≤ l) (h1 : l ≤ r) (h2 : r ≤ cap) :
  (Instr.sliceBounds b len cap lo hi none).run P w = .ok (l.toNat,r.toNat,cap) w := by
 have hr2 : ((r.toNat : Nat) : Int) = r := by omega
 have hb : ∀ k code,(Instr.sliceBound (.int k r) cap code).run P w = .ok r.toNat w := fun k code=>run_bound k r cap code (by omega) (by omega)
 have hb2 : ∀ k code,(Instr.sliceBound (.int k l) r.toNat code).run P w = .ok l.toNat w := fun k code=>run_bound k l r.toNat code (by omega) (by omega)
 rcases hr with ⟨rfl,rfl⟩ | ⟨k,rfl⟩
 ·have hb3 : ∀ k code,(Instr.sliceBound (.int k l) len code).run P w = .ok l.toNat w := fun k code=>run_bound k l len code (by omega) (by omega)
  rcases hl with ⟨rfl,rfl⟩ | ⟨k',rfl⟩
  ·simp [Instr.sliceBounds]
  ·simp [Instr.sliceBounds,hb3]
 ·rcases hl with ⟨rfl,rfl⟩ | ⟨k',rfl⟩
  ·simp [Instr.sliceBounds,hb]
  ·simp [Instr.sliceBounds,hb,hb2]

theorem optIdx_some {lo : Option Operand} {ρ : Operand → AV} {r : Operand → Value} (h : ∀ x,lo = some x → VR P w c (ρ x) (r x)) {d l : Int} (hl : optIdx ρ lo d = some l) :
  lo.map r = none ∧ l = d ∨ ∃ k,lo.map r = some (.int k l) := by
 cases lo with
 | none=>simp [optIdx] at hl; exact .inl ⟨rfl,hl.symm⟩
 | some x=>obtain ⟨k,hk⟩ := idxOf_some (h x rfl) hl; exact .inr ⟨k,by simp [hk]⟩

theorem slice_arith {off n k1 cap : Nat} {l q : Int} (h0 : 0 ≤ l) (h1 : l ≤ q) (h2 : off + q ≤ n) (hkn : n ≤ off + k1) (hk2 : off + k1 ≤ cap) :
    off + l.toNat + (q - l).toNat ≤ n ∧ (q - l).toNat ≤ k1 - l.toNat ∧ off + l.toNat + (k1 - l.toNat) ≤ cap ∧ n ≤ off + l.toNat + (k1 - l.toNat) := by omega

theorem pure_slice (hT : TOK P T) (h : HR P base w c hp) {t : TypeId} {o : Oper} {x : Operand} {lo hi : Option Operand} {ρ : Operand → AV} {r : Operand → Value} (hop : o.op = .slice t x lo hi none)
  (hx : VR P w c (ρ x) (r x)) (hlo : ∀ y,lo = some y → VR P w c (ρ y) (r y)) (hhi : ∀ y,hi = some y → VR P w c (ρ y) (r y))
  {v : AV} {hp' : Hp} (hev : (opEv T o ρ hp).gives v hp') : hp' = hp ∧ PureOut P w c (Instr.sliceAt t (r x) (lo.map r) (hi.map r) none) v := by
 unfold opEv at hev
 rw [hop] at hev
 simp only at hev
 split at hev
 ·rename_i e _ _ _ _ ht
  have hd := (hT _ _ ht).1
  split at hev
  ·rename_i ei he
   obtain ⟨_,_,_,inf,hinf,hsz,_⟩ := hT _ _ he
   have hrun : ∀ (a : Option Addr) (len cap : Nat) (l q : Int),(lo.map r = none ∧ l = 0 ∨ ∃ k,lo.map r = some (.int k l)) → (hi.map r = none ∧ q = len ∨ ∃ k,hi.map r = some (.int k q)) →
     0 ≤ l → l ≤ q → q ≤ cap → (Instr.sliceAt t (.slice a len cap) (lo.map r) (hi.map r) none).run P w =
      .ok (.slice (if cap = l.toNat then a else a.map (·.add (l.toNat * ei.size))) (q.toNat - l.toNat) (cap - l.toNat)) w := fun a len cap l q h1 h2 h3 h4 h5=>by
    simp [Instr.sliceAt,run_underlying hd,Instr.slice,run_bounds true len cap _ _ l q h1 h2 h3 h4 h5,sizeOf,typeInfo,hinf,hsz]
   split at hev
   ·rename_i es len f hr
    rw [hr] at hx
    split at hev
    ·rename_i l q hl hq
     cases hb : Nat.beq es ei.size with
     | false=>rw [hb] at hev; exact hev.elim
     | true =>
      rw [hb] at hev
      simp only [cond_true,shiftF_eq] at hev
      obtain ⟨⟨h0,h1,h2⟩,rfl,rfl⟩ := hev
      have hes := Nat.eq_of_beq_eq_true hb
      have hl' := optIdx_some hlo hl
      have hq' := optIdx_some hhi hq
      have e2 : q.toNat - l.toNat = (q - l).toNat := by omega
      refine ⟨rfl,?_⟩
      cases hx with
      | tree hx =>
       generalize r x = rx at hx
       cases hx with
       | rslice0 _ _ a k =>
        refine ⟨_,hrun a 0 k l q hl' hq' h0 h1 (by omega),.tree ?_⟩
        have e1 : (q - l).toNat = 0 := by omega
        rw [e2,e1]
        exact .rslice0 _ _ _ _
       | rslice _ _ _ b off k g hlk hpb hlen hcell hrel =>
        refine ⟨_,hrun _ len k l q hl' hq' h0 h1 (by omega),.tree ?_⟩
        rw [e2]
        by_cases hz : (q - l).toNat = 0
        ·rw [hz]; exact .rslice0 _ _ _ _
        ·rw [if_neg (by omega),Option.map_some,addr_add]
         refine .rslice _ _ _ b (off + l.toNat * ei.size) _ (fun i j=>g (l.toNat + i) j) (by omega) hpb (fun i hi=>hlen _ (by omega)) (fun i j hi hj=>?_) (fun i j y hi hy=>hrel _ _ _ (by omega) hy)
         have := hcell (l.toNat + i) j (by omega) hj
         rw [Nat.add_mul,hes] at this
         rw [hes]
         rw [show off + l.toNat * ei.size + (i * ei.size + j) = off + (l.toNat * ei.size + i * ei.size + j) from by omega]
         exact this
    ·exact hev.elim
   ·rename_i b ver off len cap hr
    rw [hr] at hx
    split at hev
    ·rename_i kk l q hkk hl hq
     cases hb : Nat.beq kk.es ei.size with
     | false=>rw [hb] at hev; exact hev.elim
     | true =>
      rw [hb] at hev
      obtain ⟨⟨h0,h1,h2⟩,rfl,rfl⟩ := hev
      have hes := Nat.eq_of_beq_eq_true hb
      have hl' := optIdx_some hlo hl
      have hq' := optIdx_some hhi hq
      have e2 : q.toNat - l.toNat = (q - l).toNat := by omega
      obtain ⟨hkb,hkv⟩ := block_some hkk
      obtain ⟨oi,hO,hle,_,hv'⟩ := hx.oslice_inv
      have hB := h.blk b kk oi hkb hO
      obtain ⟨hn1,a,k1,hu,hk1,hk2,hkn,hk3,hk4⟩ := hv' (by rw [hB.ver,hkv])
      rw [hu]
      have hn := hB.n
      have hR := hrun a len k1 l q hl' hq' h0 h1 (by omega)
      obtain ⟨r1,r2,r3,r4⟩ := slice_arith (n := oi.n) h0 h1 (by omega) hkn hk2
      refine ⟨rfl,_,hR,.oslice _ _ _ _ _ _ oi hO hle rfl fun _=>⟨r1,(if k1 = l.toNat then a else a.map (·.add (l.toNat * ei.size))),k1 - l.toNat,by rw [e2],r2,r3,r4,fun hne=>?_,fun cp hcp=>?_⟩⟩
      ·have hk0 : k1 ≠ 0 := fun e=>hne (by rw [e]; exact Nat.zero_sub _)
       have hk0' : k1 ≠ l.toNat := fun e=>hne (by rw [e]; exact Nat.sub_self _)
       rw [if_neg hk0',hk3 hk0,Option.map_some,addr_add,Nat.add_mul,hB.es,hes,Nat.add_assoc]
      ·cases cap with
       | none=>simp at hcp
       | some c0=>simp only [Option.some.injEq] at hcp; rw [hk4 c0 rfl]; exact hcp
    ·exact hev.elim
   ·exact hev.elim
  ·exact hev.elim
 ·rename_i ht
  have hd := (hT _ _ ht).1
  split at hev
  ·rename_i s hr
   rw [hr] at hx
   split at hev
   ·rename_i l q hl hq
    obtain ⟨⟨h0,h1,h2⟩,rfl,rfl⟩ := hev
    have := hx.val_inv
    rw [this]
    refine ⟨rfl,_,?_,.tree (.val _)⟩
    simp [Instr.sliceAt,run_underlying hd,Instr.slice,run_bounds false s.size s.size _ _ l q (optIdx_some hlo hl) (optIdx_some hhi hq) h0 h1 h2]
   ·exact hev.elim
  ·exact hev.elim
 ·rename_i n e _ _ _ _ ht
  have hd := (hT _ _ ht).1
  split at hev
  ·rename_i ei b ver idx sub he hr
   obtain ⟨_,_,_,inf,hinf,hsz,_⟩ := hT _ _ he
   split at hev
   ·split at hev
    ·rename_i k hk
     simp only [Bool.cond_eq_ite] at hev
     split at hev
     ·rename_i hb
      simp only [Bool.and_eq_true] at hb
      obtain ⟨⟨b1,b2⟩,b3⟩ := hb
      have b2 : 0 < n := Nat.le_of_ble_eq_true b2
      obtain ⟨rfl,rfl⟩ := hev
      rw [hr] at hx
      obtain ⟨hkb,hkv⟩ := block_some hk
      obtain ⟨oi,hO,hle,_,hv'⟩ := hx.optr_inv
      have hB := h.blk b k oi hkb hO
      obtain ⟨hidx,hu⟩ := hv' (by rw [hB.ver,hkv])
      rw [hu]
      refine ⟨rfl,.slice (some ⟨oi.blk,oi.lo + (idx * oi.es + sub),none⟩) n n,?_,.aslice _ _ _ _ _ _ _ oi hO hle rfl fun _=>⟨hidx,by rw [hB.es]; exact Nat.le_of_ble_eq_true b3,rfl⟩⟩
      have hbn := run_bounds (P := P) (w := w) false n n none none 0 n (.inl ⟨rfl,rfl⟩) (.inl ⟨rfl,rfl⟩) (by omega) (by omega) (by omega)
      have e0 : ¬ n = 0 := by omega
      simp [Instr.sliceAt,run_underlying hd,Instr.sureAddr,hbn,sizeOf,typeInfo,hinf,hsz,e0,addr_add]
     ·exact hev.elim
    ·exact hev.elim
   ·exfalso
    split at hev
    ·simp only [Bool.cond_eq_ite] at hev
     split at hev <;> exact hev
    ·exact hev
  ·exact hev.elim
 ·exact hev.elim

theorem run_bounds3 (len cap : Nat) (lo : Option Value) (l r m : Int) {kr km : IntKind} (hl : lo = none ∧ l = 0 ∨ ∃ k,lo = some (.int k l)) (h0 : 0 ≤ l) (h1 : l ≤ r) (h2 : r ≤ m) (h3 : m ≤ cap) :
  (Instr.sliceBounds true len cap lo (some (.int kr r)) (some (.int km m))).run P w = .ok (l.toNat,r.toNat,m.toNat) w := by
 have hm : ∀ code,(Instr.sliceBound (.int km m) cap code).run P w = .ok m.toNat w := fun code=>run_bound km m cap code (by omega) (by omega)
 have hr : ∀ code,(Instr.sliceBound (.int kr r) m.toNat code).run P w = .ok r.toNat w := fun code=>run_bound kr r m.toNat code (by omega) (by omega)
 rcases hl with ⟨rfl,rfl⟩ | ⟨k,rfl⟩
 ·simp [Instr.sliceBounds,hm,hr]
 ·have hl : ∀ code,(Instr.sliceBound (.int k l) r.toNat code).run P w = .ok l.toNat w := fun code=>run_bound k l r.toNat code (by omega) (by omega)
  simp [Instr.sliceBounds,hm,hr,hl]

theorem pure_slice3 (hT : TOK P T) (_ : HR P base w c hp) {t : TypeId} {o : Oper} {x mx : Operand} {lo hi : Option Operand} {ρ : Operand → AV} {r : Operand → Value} (hop : o.op = .slice t x lo hi (some mx))
  (hx : VR P w c (ρ x) (r x)) (hlo : ∀ y,lo = some y → VR P w c (ρ y) (r y)) (hhi : ∀ y,hi = some y → VR P w c (ρ y) (r y)) (hmx : VR P w c (ρ mx) (r mx))
  {v : AV} {hp' : Hp} (hev : (opEv T o ρ hp).gives v hp') : hp' = hp ∧ PureOut P w c (Instr.sliceAt t (r x) (lo.map r) (hi.map r) (some (r mx))) v := by
 unfold opEv at hev
 rw [hop] at hev
 simp only at hev
 split at hev
 case h_2=>exact hev.elim
 rename_i e _ _ _ _ ht
 have hd := (hT _ _ ht).1
 split at hev
 case h_2=>exact hev.elim
 rename_i ei he
 obtain ⟨_,_,_,inf,hinf,hsz,_⟩ := hT _ _ he
 have hrun : ∀ (a : Option Addr) (len cap : Nat) (l q m : Int),(lo.map r = none ∧ l = 0 ∨ ∃ k,lo.map r = some (.int k l)) → hi.isSome = true → (∃ k,hi.map r = some (.int k q)) → idxOf (ρ mx) = some m →
   0 ≤ l → l ≤ q → q ≤ m → m ≤ cap → (Instr.sliceAt t (.slice a len cap) (lo.map r) (hi.map r) (some (r mx))).run P w =
    .ok (.slice (if m.toNat = l.toNat then a else a.map (·.add (l.toNat * ei.size))) (q.toNat - l.toNat) (m.toNat - l.toNat)) w := fun a len cap l q m h1 _ h2 hm h3 h4 h5 h6=>by
  obtain ⟨km,hkm⟩ := idxOf_some hmx hm
  obtain ⟨kq,hkq⟩ := h2
  rw [hkm,hkq]
  simp [Instr.sliceAt,run_underlying hd,Instr.slice,run_bounds3 len cap _ l q m h1 h3 h4 h5 h6,sizeOf,typeInfo,hinf,hsz]
 have hiv : ∀ (q d : Int),optIdx ρ hi d = some q → hi.isSome = true → ∃ k,hi.map r = some (.int k q) := fun q d hq hs=>by
  rcases optIdx_some hhi hq with ⟨h1,_⟩ | h1
  ·cases hi with
   | none=>cases hs
   | some y=>simp at h1
  ·exact h1
 split at hev
 ·rename_i l m hr hl hm
  rw [hr] at hx
  split at hev
  ·rename_i q hq
   obtain ⟨⟨hs,rfl,rfl,rfl⟩,rfl,rfl⟩ := hev
   refine ⟨rfl,?_⟩
   cases hx with
   | tree hx =>
    generalize r x = rx at hx
    cases hx with
    | eslice a =>
     refine ⟨_,hrun a 0 0 0 0 0 (optIdx_some hlo hl) hs (hiv 0 0 hq hs) hm (by omega) (by omega) (by omega) (by omega),.tree ?_⟩
     exact .eslice _
  ·exact hev.elim
 ·rename_i es len f l m hr hl hm
  rw [hr] at hx
  split at hev
  ·rename_i q hq
   cases hb : Nat.beq es ei.size with
   | false=>rw [hb] at hev; exact hev.elim
   | true =>
    rw [hb] at hev
    simp only [cond_true,shiftF_eq] at hev
    obtain ⟨⟨hs,h0,h1,h2,h3⟩,rfl,rfl⟩ := hev
    have hes := Nat.eq_of_beq_eq_true hb
    have hl' := optIdx_some hlo hl
    have e2 : q.toNat - l.toNat = (q - l).toNat := by omega
    have e3 : m.toNat - l.toNat = (m - l).toNat := by omega
    refine ⟨rfl,?_⟩
    cases hx with
    | tree hx =>
     generalize r x = rx at hx
     cases hx with
     | rslice0 _ _ a k =>
      refine ⟨_,hrun a 0 k l q m hl' hs (hiv q _ hq hs) hm h0 h1 h2 (by omega),.tree ?_⟩
      have e1 : (q - l).toNat = 0 := by omega
      rw [e2,e1,e3]
      exact .cslice0 _ _ _ _
     | rslice _ _ _ b off k g hlk hpb hlen hcell hrel =>
      refine ⟨_,hrun _ len k l q m hl' hs (hiv q _ hq hs) hm h0 h1 h2 (by omega),.tree ?_⟩
      rw [e2,e3]
      by_cases hz : (q - l).toNat = 0
      ·rw [hz]; exact .cslice0 _ _ _ _
      ·rw [if_neg (by omega),Option.map_some,addr_add]
       refine .cslice _ _ _ _ b (off + l.toNat * ei.size) (fun i j=>g (l.toNat + i) j) (by omega) hpb (fun i hi=>hlen _ (by omega)) (fun i j hi hj=>?_) (fun i j y hi hy=>hrel _ _ _ (by omega) hy)
       have := hcell (l.toNat + i) j (by omega) hj
       rw [Nat.add_mul,hes] at this
       rw [hes]
       rw [show off + l.toNat * ei.size + (i * ei.size + j) = off + (l.toNat * ei.size + i * ei.size + j) from by omega]
       exact this
  ·exact hev.elim
 ·simp only [Bool.cond_eq_ite] at hev
  (repeat' split at hev) <;> exact hev.elim
 ·exact hev.elim

theorem run_slice3 (hT : TOK P T) (h : HR P base w c hp) {t e : TypeId} {ti ei : TI} (ht : T t = some ti) (htd : ti.desc = .slice e) (he : T e = some ei) {b ver off len : Nat} {cap : Option Nat} {k : AB} {u : Value} (hx : VR P w c (.oslice b ver off len cap) u) (hk : hp.block b ver = some k)
  {lo : Option Value} {l r m : Int} {kr km : IntKind} (hl : lo = none ∧ l = 0 ∨ ∃ k,lo = some (.int k l)) (h0 : 0 ≤ l) (h1 : l ≤ r) (h2 : r ≤ m) (h3 : m ≤ len) :
  ∃ v,(Instr.sliceAt t u lo (some (.int kr r)) (some (.int km m))).run P w = .ok v w := by
 obtain ⟨_,_,_,inf,hinf,hsz,_⟩ := hT _ _ he
 have hd := (hT _ _ ht).1
 rw [htd] at hd
 obtain ⟨hkb,hkv⟩ := block_some hk
 obtain ⟨oi,hO,hle,_,hv'⟩ := hx.oslice_inv
 have hB := h.blk b k oi hkb hO
 obtain ⟨_,a,k1,hu,hk1,_⟩ := hv' (by rw [hB.ver,hkv])
 rw [hu]
 exact ⟨_,by simp [Instr.sliceAt,run_underlying hd,Instr.slice,run_bounds3 len k1 _ l r m hl h0 h1 h2 (by omega),sizeOf,typeInfo,hinf,hsz]; rfl⟩

theorem part_ofCells (hT : TOK P T) {t : TypeId} {ti : TI} (ht : T t = some ti) {l : List AV} {v : AV} {off : Nat} (hv : ofCells ti.desc ti.size (l.drop off) = some v)
  {vs : Array Value} (hs : vs.size = l.length) (ho : ∀ v ∈ vs.toList,v.oneCell' = true) (hr : ∀ i x,l[i]? = some x → VR P w c x (vs.getD i undef)) :
  ∃ u,(part t vs off).run P w = .ok u w ∧ VR P w c v u := by
 obtain ⟨hd,_,_,i,hi,hsz,_⟩ := hT t ti ht
 unfold ofCells at hv
 cases ha : isAggT ti.desc with
 | true =>
  rw [ha] at hv
  have hisagg : (isAgg t).run P w = .ok true w := by
   unfold isAgg
   simp only [Sem.run_bind,run_underlying hd,Result.andThen_ok]
   revert ha; cases ti.desc <;> simp [isAggT]
  cases hn : Nat.ble ti.size (l.drop off).length with
  | false=>rw [hn] at hv; simp at hv
  | true =>
   rw [hn] at hv
   simp at hv
   subst hv
   have hle := Nat.le_of_ble_eq_true hn
   simp at hle
   refine ⟨_,by simp [part,hisagg,sizeOf,typeInfo,hi,hsz]; rfl,.agg _ _ (by simp; omega) (fun v hv=>ho v ?_) (fun j x hx=>?_)⟩
   ·simp at hv
    rw [List.mem_take_iff_getElem] at hv
    obtain ⟨j,hj,rfl⟩ := hv
    simp
   ·have hj : j < ti.size := by have := (List.getElem?_eq_some_iff.1 hx).1; simp at this; omega
    rw [List.getElem?_take,if_pos hj,List.getElem?_drop] at hx
    have := hr _ x hx
    have hlt : off + j < vs.size := by rw [hs]; exact (List.getElem?_eq_some_iff.1 hx).1
    simp only [Array.getD_eq_getD_getElem?] at this ⊢
    rw [Array.getElem?_extract]
    rw [if_pos (by omega)]
    exact this
 | false =>
  rw [ha] at hv
  have hisagg : (isAgg t).run P w = .ok false w := by
   unfold isAgg
   simp only [Sem.run_bind,run_underlying hd,Result.andThen_ok]
   revert ha; cases ti.desc <;> simp [isAggT]
  cases hdr : l.drop off with
  | nil=>rw [hdr] at hv; simp at hv
  | cons x r =>
   rw [hdr] at hv
   simp at hv
   subst hv
   have hx : l[off]? = some x := by
    have := List.getElem?_drop (xs := l) (i := off) (j := 0)
    rw [hdr] at this
    simpa using this.symm
   have hlt : off < vs.size := by rw [hs]; exact (List.getElem?_eq_some_iff.1 hx).1
   have := hr off x hx
   simp [hlt] at this
   exact ⟨vs[off],by simp [part,hisagg,hlt],this⟩

theorem pure_field (hT : TOK P T) {t : TypeId} {i : Nat} {o : Oper} {x : Operand} {ρ : Operand → AV} {r : Operand → Value} (hop : o.op = .field t x i) (hx : VR P w c (ρ x) (r x))
  {v : AV} {hp' : Hp} (hev : (opEv T o ρ hp).gives v hp') : hp' = hp ∧ PureOut P w c (Instr.field t (r x) i) v := by
 unfold opEv at hev
 rw [hop] at hev
 simp only at hev
 split at hev
 ·rename_i fields _ _ _ _ l ht hr
  have hd := (hT _ _ ht).1
  rw [hr] at hx
  split at hev
  ·rename_i f hf
   have hf' := find_field hf
   split at hev
   ·rename_i fi hft
    split at hev
    ·rename_i v' hv
     obtain ⟨rfl,rfl⟩ := hev
     obtain ⟨vs,hu,hs,ho,hrel⟩ := hx.agg_inv
     obtain ⟨u,h1,h2⟩ := part_ofCells hT hft hv hs ho hrel
     exact ⟨rfl,u,by rw [hu]; simp [Instr.field,run_underlying hd,hf',asAgg,h1],h2⟩
    ·exact hev.elim
   ·exact hev.elim
  ·exact hev.elim
 ·exact hev.elim

theorem pure_index (hT : TOK P T) {t : TypeId} {o : Oper} {x ix : Operand} {ρ : Operand → AV} {r : Operand → Value} (hop : o.op = .index t x ix) (hx : VR P w c (ρ x) (r x)) (hi : VR P w c (ρ ix) (r ix))
  {v : AV} {hp' : Hp} (hev : (opEv T o ρ hp).gives v hp') : hp' = hp ∧ PureOut P w c (Instr.index t (r x) (r ix)) v := by
 unfold opEv at hev
 rw [hop] at hev
 simp only at hev
 split at hev
 ·rename_i s n ht hr hn
  have hd := (hT _ _ ht).1
  obtain ⟨k,hk⟩ := idxOf_some hi hn
  rw [hr] at hx
  obtain ⟨⟨h0,h1⟩,rfl,rfl⟩ := hev
  rw [hk,hx.val_inv]
  refine ⟨rfl,_,?_,.tree (.val _)⟩
  have hlt : n.toNat < s.size := by omega
  have hlt' : n.toNat < s.data.toList.length := by simpa using hlt
  have hb : s[n.toNat]? = some (s.data.toList.getD n.toNat 0) := by
   rw [ByteArray.getElem?_lt' s n.toNat hlt,List.getD_eq_getElem?_getD,List.getElem?_eq_getElem hlt']
   rfl
  simp only [Instr.index,Sem.run_bind,asIntOf,Sem.run_pure,Result.andThen_ok,run_underlying hd,if_pos h0,hb]
 ·rename_i m e _ _ _ _ l n ht hr hn
  have hd := (hT _ _ ht).1
  obtain ⟨k,hk⟩ := idxOf_some hi hn
  rw [hr] at hx
  split at hev
  ·rename_i ei he
   split at hev
   ·rename_i v' hv
    obtain ⟨⟨h0,h1⟩,rfl,rfl⟩ := hev
    obtain ⟨vs,hu,hs,ho,hrel⟩ := hx.agg_inv
    obtain ⟨u,g1,g2⟩ := part_ofCells hT he hv hs ho hrel
    refine ⟨rfl,u,?_,g2⟩
    obtain ⟨_,_,_,i0,hi0,hsz,_⟩ := hT _ _ he
    have hso : (sizeOf e).run P w = .ok ei.size w := by simp [Go.sizeOf,typeInfo,hi0,hsz]
    rw [hk,hu]
    simp [Instr.index,asIntOf,run_underlying hd,h0,h1,hso,g1]
   ·exact hev.elim
  ·exact hev.elim
 ·exact hev.elim

theorem pure_extract {i : Nat} {o : Oper} {x : Operand} {ρ : Operand → AV} {r : Operand → Value} (hop : o.op = .extract x i) (hx : VR P w c (ρ x) (r x))
  {v : AV} {hp' : Hp} (hev : (opEv T o ρ hp).gives v hp') : hp' = hp ∧ PureOut P w c (Instr.extract (r x) i) v := by
 unfold opEv at hev
 rw [hop] at hev
 simp only at hev
 split at hev
 ·rename_i l hr
  rw [hr] at hx
  split at hev
  ·rename_i v' hv
   obtain ⟨rfl,rfl⟩ := hev
   rw [nth?_eq] at hv
   obtain ⟨vs,hu,hs,hrel⟩ := hx.tuple_inv
   have hlt : i < vs.size := by rw [hs]; exact (List.getElem?_eq_some_iff.1 hv).1
   have := hrel i _ hv
   simp [hlt] at this
   exact ⟨rfl,vs[i],by rw [hu]; simp [Instr.extract,hlt],this⟩
  ·exact hev.elim
 ·exact hev.elim

theorem pure_un {op : UnOp} {t : TypeId} {o : Oper} {x : Operand} {ρ : Operand → AV} {r : Operand → Value} (hop : o.op = .unOp op t x) (hx : VR P w c (ρ x) (r x))
  {v : AV} {hp' : Hp} (hev : (opEv T o ρ hp).gives v hp') : hp' = hp ∧ PureOut P w c (Op.unary op (r x)) v := by
 unfold opEv at hev
 rw [hop] at hev
 simp only at hev
 split at hev
 ·rename_i b hr
  rw [hr] at hx
  obtain ⟨rfl,rfl⟩ := hev
  rw [hx.val_inv]
  exact ⟨rfl,_,by simp [Op.unary],.tree (.val _)⟩
 ·rename_i k n hr
  rw [hr] at hx
  obtain ⟨hk,rfl,rfl⟩ := hev
  rw [hx.val_inv]
  have := wrap_in hk
  exact ⟨rfl,_,by simp [Op.unary,Op.intArith,this],.tree (.val _)⟩
 ·exact hev.elim

theorem vEqL_iff : ∀ {ks : List LK} {vs us : List Value},kOk ks vs = true → kOk ks us = true → (vEqL vs us = true ↔ vs = us)
 | [],[],[],_,_=>by simp [vEqL]
 | [],_ :: _,_,h,_=>by simp [kOk] at h
 | [],[],_ :: _,_,h=>by simp [kOk] at h
 | k :: ks,[],_,h,_=>by cases k <;> simp [kOk] at h
 | k :: ks,_ :: _,[],_,h=>by cases k <;> simp [kOk] at h
 | k :: ks,v :: vs,u :: us,h1,h2=>by
  obtain ⟨p1,p2⟩ := kOk_cons h1
  obtain ⟨q1,q2⟩ := kOk_cons h2
  have ih := vEqL_iff p2 q2
  cases k <;> cases v <;> simp [kOk] at p1 <;> cases u <;> simp [kOk] at q1 <;> simp_all [vEqL]
  rename_i s t
  intro _
  have h1 := beq_toListBytes s t
  have h2 := MapKept.bytes_beq s t
  rw [h1,beq_iff_eq] at h2
  exact h2

def KeyT (P : Program) (kt : TypeId) : KK → Prop
 | .str=>P.underlying kt = some .string
 | .int k=>P.underlying kt = some (.int k)
 | .agg ks=>∃ d,P.underlying kt = some d ∧ isAggT d = true ∧ KOK P kt ks ∧ CKOK P kt ks

theorem find_known {ki : KK} {kt : TypeId} (hT : TOK P T) (hk : keyKind T kt = some ki) : KeyT P kt ki := by
 unfold keyKind at hk
 split at hk
 ·rename_i h; cases hk; exact (hT _ _ h).1
 ·rename_i h; cases hk; exact (hT _ _ h).1
 ·rename_i ti h
  cases hk
  exact ⟨_,(hT _ _ h).1,(hT.keys _ _ _ h rfl).1,hT.kinds _ _ _ h rfl,(hT.keys _ _ _ h rfl).2⟩
 ·cases hk

theorem lksIs_eq : ∀ {a b : List LK},lksIs a b = true → a = b
 | [],[],_=>rfl
 | .bool :: r,.bool :: s,h=>by rw [lksIs_eq (show lksIs r s = true from h)]
 | .int k :: r,.int k' :: s,h=>by
  simp only [lksIs,Bool.and_eq_true,decide_eq_true_eq] at h
  rw [h.1,lksIs_eq h.2]
 | .str :: r,.str :: s,h=>by rw [lksIs_eq (show lksIs r s = true from h)]
 | [],_ :: _,h=>by simp [lksIs] at h
 | .bool :: _,[],h=>by simp [lksIs] at h
 | .int _ :: _,[],h=>by simp [lksIs] at h
 | .str :: _,[],h=>by simp [lksIs] at h
 | .bool :: _,.int _ :: _,h=>by simp [lksIs] at h
 | .bool :: _,.str :: _,h=>by simp [lksIs] at h
 | .int _ :: _,.bool :: _,h=>by simp [lksIs] at h
 | .int _ :: _,.str :: _,h=>by simp [lksIs] at h
 | .str :: _,.bool :: _,h=>by simp [lksIs] at h
 | .str :: _,.int _ :: _,h=>by simp [lksIs] at h

theorem kindIs_eq {a b : KK} (h : kindIs a b = true) : a = b := by
 cases a <;> cases b <;> simp_all [kindIs]
 exact lksIs_eq h

theorem keyIs_ok {ki : KK} {key : Value} (h : keyIs ki key = true) : keyOk ki key := h

theorem keyEq_iff {ki : KK} {a b : Value} (ha : keyOk ki a) (hb : keyOk ki b) : opEv.keyEq a b = true ↔ a = b := by
 unfold keyOk at ha hb
 cases ki with
 | str=>cases a <;> simp [keyIs] at ha; cases b <;> simp [keyIs] at hb; simp [opEv.keyEq,MapKept.bytes_beq]
 | int k=>cases a <;> simp [keyIs] at ha; cases b <;> simp [keyIs] at hb; subst ha; subst hb; simp [opEv.keyEq]
 | agg ks =>
  cases a <;> simp [keyIs] at ha
  cases b <;> simp [keyIs] at hb
  rename_i l m
  simp only [opEv.keyEq,vEqL_iff ha hb,Value.agg.injEq]
  exact ⟨fun h=>Array.ext' h,fun h=>by rw [h]⟩

theorem keyEq_false {ki : KK} {a b : Value} (ha : keyOk ki a) (hb : keyOk ki b) : opEv.keyEq a b = false ↔ a ≠ b := by
  rw [← Bool.not_eq_true,keyEq_iff ha hb]

theorem run_checkKey {ki : KK} {kt : TypeId} {key : Value} (hu : KeyT P kt ki) (hk : keyOk ki key) (b : Bool) : (Instr.checkKey b 10000 kt key).run P w = .ok () w := by
 unfold keyOk at hk
 cases ki with
 | str =>
  have hu : P.underlying kt = some .string := hu
  unfold Instr.checkKey
  simp only [Sem.run_bind,run_underlying hu,Result.andThen_ok]
  cases key <;> simp [keyIs] at hk
  rfl
 | int k =>
  have hu : P.underlying kt = some (.int k) := hu
  unfold Instr.checkKey
  simp only [Sem.run_bind,run_underlying hu,Result.andThen_ok]
  cases key <;> simp [keyIs] at hk
  rfl
 | agg ks =>
  obtain ⟨d,hd,ha,_,hck⟩ := hu
  cases key <;> simp [keyIs] at hk
  rename_i l
  have := hck b w l.toList hk
  simpa using this

def findV (key : Value) : List MapEntry → Nat → Option (Nat × Value)
 | [],_=>none
 | e :: es,i=>bif opEv.keyEq key e.key then some (i,e.val) else findV key es (i + 1)

theorem run_findKey {ki : KK} {kt : TypeId} {key : Value} (hu : KeyT P kt ki) (hk : keyOk ki key) (es : List MapEntry) (hes : ∀ e ∈ es,keyOk ki e.key) :
  (Instr.findKey kt key es).run P w = .ok (findV key es 0) w := by
 have now : ∀ d,P.underlying kt = some d → (∀ e : MapEntry,keyOk ki e.key → Instr.sameNow d key e.key = some (opEv.keyEq key e.key)) → (Instr.findKey kt key es).run P w = .ok (findV key es 0) w := fun d hd hs=>by
  have : ∀ (l : List MapEntry) (i : Nat),(∀ e ∈ l,keyOk ki e.key) → Instr.findNow d key l i = some (findV key l i) := by
   intro l
   induction l with
   | nil=>intro i _; rfl
   | cons e l ih =>
    intro i hl
    simp only [Instr.findNow,hs e (hl e (.head _)),findV]
    cases opEv.keyEq key e.key with
    | true=>rfl
    | false=>exact ih (i + 1) fun x hx=>hl x (.tail _ hx)
  simp [Instr.findKey,run_underlying hd,this es 0 hes]
 unfold keyOk at hk
 cases ki with
 | str =>
  refine now _ hu fun e he=>?_
  unfold keyOk at he
  revert he
  cases key <;> simp [keyIs] at hk
  cases e.key <;> simp [keyIs,Instr.sameNow,opEv.keyEq]
 | int k =>
  refine now _ hu fun e he=>?_
  unfold keyOk at he
  revert he
  cases key <;> simp [keyIs] at hk
  cases e.key <;> simp [keyIs,Instr.sameNow,opEv.keyEq]
  rintro rfl
  simp [← hk]
 | agg ks =>
  obtain ⟨d,hd,ha,hkk,_⟩ := hu
  cases key <;> simp [keyIs] at hk
  rename_i cs
  have ask : ∀ (l : List MapEntry) (i : Nat),(∀ e ∈ l,keyOk (.agg ks) e.key) → (Instr.findAsking kt (.agg cs) l i).run P w = .ok (findV (.agg cs) l i) w := by
   intro l
   induction l with
   | nil=>intro i _; simp [Instr.findAsking,findV]
   | cons e l ih =>
    intro i hl
    have he := hl e (.head _)
    unfold keyOk at he
    have hq : (Op.equal kt (.agg cs) e.key).run P w = .ok (opEv.keyEq (.agg cs) e.key) w := by
     revert he
     cases e.key <;> simp [keyIs]
     rename_i ds
     intro he
     have := (hkk w cs.toList ds.toList .eql (.tmp 0) (.tmp 0) hk he).1
     simpa [opEv.keyEq] using this
    simp only [Instr.findAsking,Sem.run_bind,hq,Result.andThen_ok,findV]
    cases opEv.keyEq (.agg cs) e.key with
    | true=>simp
    | false =>
     have := ih (i + 1) fun x hx=>hl x (.tail _ hx)
     simpa using this
  cases es with
  | nil=>simp [Instr.findKey,run_underlying hd,Instr.findNow,findV]
  | cons e l =>
   have hn : Instr.findNow d (.agg cs) (e :: l) 0 = none := by
    have : Instr.sameNow d (.agg cs) e.key = none := by
     cases d <;> simp [isAggT] at ha <;> rfl
    simp [Instr.findNow,this]
   have := ask (e :: l) 0 hes
   simp [Instr.findKey,run_underlying hd,hn,this]

theorem findV_some {ki : KK} {key : Value} (hk : keyOk ki key) : ∀ (l : List MapEntry) (i : Nat),(∀ e ∈ l,keyOk ki e.key) → ∀ j v,findV key l i = some (j,v) → ∃ q e,j = i + q ∧ l[q]? = some e ∧ e.key = key ∧ e.val = v
 | [],i,_,j,v,h=>by simp [findV] at h
 | e :: l, i, hl, j, v, h => by
  unfold findV at h
  cases hb : opEv.keyEq key e.key with
  | true =>
   rw [hb] at h
   simp only [cond_true,Option.some.injEq,Prod.mk.injEq] at h
   exact ⟨0,e,by omega,rfl,((keyEq_iff hk (hl e (.head _))).1 hb).symm,h.2⟩
  | false =>
   rw [hb] at h
   obtain ⟨q,e',h1,h2,h3⟩ := findV_some hk l (i + 1) (fun x hx=>hl x (.tail _ hx)) j v h
   exact ⟨q + 1,e',by omega,by simpa using h2,h3⟩

theorem findV_none {ki : KK} {key : Value} (hk : keyOk ki key) : ∀ (l : List MapEntry) (i : Nat),(∀ e ∈ l,keyOk ki e.key) → findV key l i = none → ∀ e ∈ l,e.key ≠ key
 | [],i,_,h=>by simp
 | e :: l, i, hl, h => by
  unfold findV at h
  cases hb : opEv.keyEq key e.key with
  | true=>rw [hb] at h; cases h
  | false =>
   rw [hb] at h
   intro x hx
   rcases List.mem_cons.1 hx with rfl | hx
   ·exact fun e'=>(keyEq_false hk (hl _ (.head _))).1 hb e'.symm
   ·exact findV_none hk l (i + 1) (fun x hx=>hl x (.tail _ hx)) h x hx

theorem keyOf_eq {x : AV} {key u : Value} (h : keyOf x = some key) (hx : VR P w c x u) : u = key := by
 unfold keyOf at h
 split at h
 ·cases h; exact hx.val_inv
 ·split at h
  ·rename_i vs hv
   cases h
   obtain ⟨us,rfl,hs,_,hr⟩ := hx.agg_inv
   rw [valsOf_eq hv hs hr]
  ·cases h
 ·cases h

theorem pure_lookup (hT : TOK P T) (h : HR P base w c hp) {t : TypeId} {ok : Bool} {o : Oper} {x ix : Operand} {ρ : Operand → AV} {r : Operand → Value} (hop : o.op = .lookup t x ix ok) (hx : VR P w c (ρ x) (r x)) (hi : VR P w c (ρ ix) (r ix))
  {v : AV} {hp' : Hp} (hev : (opEv T o ρ hp).gives v hp') : hp' = hp ∧ PureOut P w c (Instr.lookup t (r x) (r ix) ok) v := by
 unfold opEv at hev
 rw [hop] at hev
 simp only at hev
 split at hev
 ·rename_i kt et _ _ _ _ key ht hkey
  have hd := (hT _ _ ht).1
  rw [keyOf_eq hkey hi]
  split at hev
  ·rename_i ki hki
   have hu := find_known hT hki
   -- what is known of the entries,and what follows
   have main : ∀ (ki' : KK) (et' : TypeId) (has : Value → Bool) (get : Value → AV) (q : Nat) (es : Array MapEntry) (clock : Nat),w.heap[q]? = some (.map es clock) →
     MapR P w c.p ki' et' has get es clock →
     (kindIs ki ki' && keyIs ki key && Nat.beq et et') = true → (T et).isSome = true →
     ∃ u b,(Instr.lookup t (.map (some q)) key ok).run P w = .ok (if ok then .tuple #[u,.bool b] else u) w ∧ VT P w c.p (get key) u ∧ has key = b := by
    intro ki' et' has get q es clock hq hM hb hte
    rw [Bool.and_eq_true,Bool.and_eq_true] at hb
    obtain ⟨⟨hb1,hb2⟩,hb3⟩ := hb
    have := kindIs_eq hb1; subst this
    have := Nat.eq_of_beq_eq_true hb3; subst this
    have hko := keyIs_ok hb2
    obtain ⟨ei,hei⟩ := Option.isSome_iff_exists.1 hte
    obtain ⟨_,_,_,inf,hinf,_,_,hz⟩ := hT _ _ hei
    have hck := fun b=>run_checkKey (w := w) hu hko b
    have hgo := run_getObj_map (P := P) w q es clock hq
    have hfk := run_findKey (w := w) hu hko es.toList hM.ek.keys
    cases ho : findV key es.toList 0 with
    | none =>
     rw [ho] at hfk
     have hz' : zeroOf P et = some ei.zero := by simp [zeroOf,hinf,hz]
     have hno : has key = false := by
      cases hh : has key with
      | false=>rfl
      | true =>
       obtain ⟨e,he,hke⟩ := (hM.ek.has key hko).1 hh
       exact absurd hke (findV_none hko _ _ hM.ek.keys ho e he)
     refine ⟨ei.zero,false,?_,hM.zero key _ hko hno hz',hno⟩
     simp [Instr.lookup,run_underlying hd,hgo,hck,hfk,zeroValue,typeInfo,hinf,hz]
    | some iv =>
     obtain ⟨i,v0⟩ := iv
     rw [ho] at hfk
     obtain ⟨_,e,_,he,hke,hve⟩ := findV_some hko _ _ hM.ek.keys i v0 ho
     have hm := List.mem_of_getElem? he
     refine ⟨v0,true,?_,?_,(hM.ek.has key hko).2 ⟨e,hm,hke⟩⟩
     ·simp [Instr.lookup,run_underlying hd,hgo,hck,hfk]
     ·have := hM.get e hm
      rwa [hke,hve] at this
   have fin : ∀ (has : Value → Bool) (get : Value → AV) (m : Value),(∃ u b,(Instr.lookup t m key ok).run P w = .ok (if ok then .tuple #[u,.bool b] else u) w ∧ VT P w c.p (get key) u ∧ has key = b) →
     (bif ok then Res.ok (.tuple [get key,.val (.bool (has key))]) hp else .ok (get key) hp).gives v hp' → hp' = hp ∧ PureOut P w c (Instr.lookup t m key ok) v := by
    rintro has get m ⟨u,b,h1,h2,h3⟩ hev
    cases ok with
    | false =>
     obtain ⟨rfl,rfl⟩ := hev
     exact ⟨rfl,u,h1,.tree h2⟩
    | true =>
     obtain ⟨rfl,rfl⟩ := hev
     refine ⟨rfl,_,h1,.tree (.tuple _ _ rfl fun i x hx=>?_)⟩
     match i with
     | 0=>simp at hx; subst hx; exact h2
     | 1=>simp at hx; subst hx; rw [h3]; exact .val _
     | i + 2=>simp at hx
   cases hte : (T et).isSome with
   | false=>rw [hte] at hev; simp [Res.gives] at hev
   | true =>
    rw [hte] at hev
    simp only [cond_true] at hev
    split at hev
    ·rename_i b hr
     rw [hr] at hx
     obtain ⟨q,hu',hN⟩ := hx.omap_inv
     rw [hu']
     split at hev
     ·rename_i am ham
      rw [nth?_eq] at ham
      cases hb : (kindIs ki am.ki && keyIs ki key && Nat.beq et am.et && am.it.isNone) with
      | false=>rw [hb] at hev; exact hev.elim
      | true =>
       rw [hb] at hev
       rw [Bool.and_eq_true] at hb
       obtain ⟨es,clock,hq,hM⟩ := (h.maps b am q ham hN).ex (by simpa using hb.2)
       exact fin am.has am.get _ (main am.ki am.et am.has am.get q es clock hq hM hb.1 hte) hev
     ·exact hev.elim
    ·rename_i ki' et' has get hr
     rw [hr] at hx
     cases hb : (kindIs ki ki' && keyIs ki key && Nat.beq et et') with
     | false=>rw [hb] at hev; exact hev.elim
     | true =>
      rw [hb] at hev
      cases hx with
      | tree hx =>
       generalize r x = rx at hx ⊢
       cases hx with
       | rmap _ _ _ _ q es clock hpq hq g1 g2 g3=>exact fin has get _ (main ki' et' has get q es clock hq ⟨g1,g2,g3⟩ hb hte) hev
    ·exact hev.elim
  ·exact hev.elim
 ·exact hev.elim

theorem pure_entry (h : HR P base w c hp) {o : Oper} {x : Operand} {ρ : Operand → AV} {r : Operand → Value} (hop : o.op = .entry x) (hx : VR P w c (ρ x) (r x))
  {v : AV} {hp' : Hp} (hev : (opEv T o ρ hp).gives v hp') : hp' = hp ∧ PureOut P w c (Instr.entry (r x)) v := by
 unfold opEv at hev
 rw [hop] at hev
 simp only at hev
 split at hev
 ·rename_i b hr
  rw [hr] at hx
  obtain ⟨q,hu,hN⟩ := hx.oiter_inv
  rw [hu]
  split at hev
  ·rename_i am ham
   rw [nth?_eq] at ham
   split at hev
   ·rename_i seen l hb hcur
    obtain ⟨rfl,rfl⟩ := hev
    obtain ⟨m,es,clock,since,sn,last,g1,g2,g3,g4,g5,g6,g7,g8,g9⟩ := ((h.maps b am q ham hN).it seen hb).ex
    rcases g9 with g9 | ⟨e,he,hbk,hvt⟩
    ·rw [hcur] at g9; cases g9
    ·rw [hcur] at hvt
     refine ⟨rfl,_,?_,.tree hvt⟩
     have hf : es.find? (·.born == e.born) = some e := by
      rw [← Array.find?_toList]
      have : ∀ (l : List MapEntry),(∀ (i j : Nat) a a',l[i]? = some a → l[j]? = some a' → a.born = a'.born → i = j) → e ∈ l → l.find? (·.born == e.born) = some e := by
       intro l
       induction l with
       | nil=>intro _ h; cases h
       | cons a l ih =>
        intro hnd hm
        cases hab : a.born == e.born with
        | true =>
         have hab' := beq_iff_eq.1 hab
         rcases List.mem_cons.1 hm with rfl | hm
         ·simp
         ·obtain ⟨i,hi,hie⟩ := List.getElem_of_mem hm
          have := hnd 0 (i + 1) a e rfl (by simpa [hie] using List.getElem?_eq_getElem hi) hab'
          omega
        | false =>
         rw [List.find?_cons,hab]
         rcases List.mem_cons.1 hm with rfl | hm
         ·simp at hab
         ·exact ih (fun i j x x' h1 h2 h3=>by have := hnd (i + 1) (j + 1) x x' (by simpa using h1) (by simpa using h2) h3; omega) hm
      exact this es.toList g4.ek.born he
     have e5 : clock = last := g6.symm
     simp only [Instr.entry,getObj,Sem.run_bind,Sem.run,g1,g3,Result.andThen,hbk,e5,bne_self_eq_false,Bool.false_eq_true,if_false,hf]
     rfl
   ·exact hev.elim
  ·exact hev.elim
 ·exact hev.elim

theorem pure_convert (hT : TOK P T) {src dst : TypeId} {x : Operand} {ρ : Operand → AV} {r : Operand → Value} (hx : VR P w c (ρ x) (r x))
  {k : IntKind} {n : Int} {k' : IntKind} {v : AV} {hp' : Hp} {ts : TI} {s b z kz} (hs : T src = some ts) (hd : T dst = some ⟨.int k,s,b,z,kz⟩) (hr : ρ x = .val (.int k' n)) (hev : (Res.need (inK k n) (.val (.int k n)) hp).gives v hp') :
  hp' = hp ∧ PureOut P w c (convert src dst (r x)) v := by
 obtain ⟨hk,rfl,rfl⟩ := hev
 have h1 := (hT _ _ hs).1
 have h2 := (hT _ _ hd).1
 rw [hr] at hx
 rw [hx.val_inv]
 refine ⟨rfl,_,?_,.tree (.val _)⟩
 simp [convert,run_underlying h1,run_underlying h2,Conv.intToInt,wrap_in hk]

theorem pure_toF (hT : TOK P T) {src dst : TypeId} {x : Operand} {ρ : Operand → AV} {r : Operand → Value} (hx : VR P w c (ρ x) (r x))
  {n : Int} {k' : IntKind} {v : AV} {hp' : Hp} {ts : TI} {s b z kz} (hs : T src = some ts) (hd : T dst = some ⟨.float .f64,s,b,z,kz⟩) (hr : ρ x = .val (.int k' n)) (hev : (Res.ok (.val (.float .f64 (FloatKind.f64.nearest n))) hp).gives v hp') :
  hp' = hp ∧ PureOut P w c (convert src dst (r x)) v := by
 obtain ⟨rfl,rfl⟩ := hev
 have h1 := (hT _ _ hs).1
 have h2 := (hT _ _ hd).1
 rw [hr] at hx
 rw [hx.val_inv]
 refine ⟨rfl,_,?_,.tree (.val _)⟩
 simp [convert,run_underlying h1,run_underlying h2,Conv.intToFloat]
theorem pure_ofF (hT : TOK P T) {src dst : TypeId} {x : Operand} {ρ : Operand → AV} {r : Operand → Value} (hx : VR P w c (ρ x) (r x))
  {k : IntKind} {f : Nat} {v : AV} {hp' : Hp} {ts : TI} {s b z kz} (hs : T src = some ts) (hd : T dst = some ⟨.int k,s,b,z,kz⟩) (hr : ρ x = .val (.float .f64 f)) (hev : (Res.need ((fInt f).isSome = true ∧ inK k ((fInt f).getD 0)) (.val (.int k ((fInt f).getD 0))) hp).gives v hp') :
  hp' = hp ∧ PureOut P w c (convert src dst (r x)) v := by
 obtain ⟨⟨h0,hk⟩,rfl,rfl⟩ := hev
 have h1 := (hT _ _ hs).1
 have h2 := (hT _ _ hd).1
 rw [hr] at hx
 rw [hx.val_inv]
 refine ⟨rfl,_,?_,.tree (.val _)⟩
 obtain ⟨n,hn⟩ := Option.isSome_iff_exists.1 h0
 rw [hn] at hk ⊢
 have hk : k.min ≤ n ∧ n ≤ k.max := hk
 have hn : (FloatKind.f64.decode f).toInt .zero = some n := hn
 simp [convert,run_underlying h1,run_underlying h2,Conv.floatToInt,hn,hk]

theorem pure_complex {o : Oper} {args : Array Operand} {ts : Array TypeId} {ρ : Operand → AV} {r : Operand → Value} (hop : o.op = .call { callee := .builtin .complex,args,argTypes := ts })
  (hx : ∀ x ∈ args,VR P w c (ρ x) (r x)) {v : AV} {hp' : Hp} (hev : (opEv T o ρ hp).gives v hp') : hp' = hp ∧ ∃ u,(execOp r o).run P w = .ok (.value u) w ∧ VR P w c v u := by
 unfold opEv at hev
 rw [hop] at hev
 simp only at hev
 split at hev
 ·rename_i a b hr
  obtain ⟨rfl,rfl⟩ := hev
  obtain ⟨la⟩ := args
  match la,hr with
  | [],hr=>simp at hr
  | [_],hr=>simp at hr
  | _ :: _ :: _ :: _,hr=>simp at hr
  | [x,y],hr =>
   simp only [List.map_cons,List.map_nil,List.cons.injEq,and_true] at hr
   have h1 := hx x (by simp)
   have h2 := hx y (by simp)
   rw [hr.1] at h1; rw [hr.2] at h2
   refine ⟨rfl,_,?_,.tree (.val _)⟩
   have e : Builtin.complex_ ts o.type #[.float .f64 a,.float .f64 b] = pure (.complex .f64 a b) := rfl
   simp [execOp,hop,resolve,invoke,builtin,h1.val_inv,h2.val_inv,e]
 ·exact hev.elim
theorem pure_real {o : Oper} {args : Array Operand} {ts : Array TypeId} {ρ : Operand → AV} {r : Operand → Value} (hop : o.op = .call { callee := .builtin .real,args,argTypes := ts })
  (hx : ∀ x ∈ args,VR P w c (ρ x) (r x)) {v : AV} {hp' : Hp} (hev : (opEv T o ρ hp).gives v hp') : hp' = hp ∧ ∃ u,(execOp r o).run P w = .ok (.value u) w ∧ VR P w c v u := by
 unfold opEv at hev
 rw [hop] at hev
 simp only at hev
 split at hev
 ·rename_i a b hr
  obtain ⟨rfl,rfl⟩ := hev
  obtain ⟨la⟩ := args
  match la,hr with
  | [],hr=>simp at hr
  | _ :: _ :: _,hr=>simp at hr
  | [x],hr =>
   simp only [List.map_cons,List.map_nil,List.cons.injEq,and_true] at hr
   have h1 := hx x (by simp)
   rw [hr] at h1
   refine ⟨rfl,_,?_,.tree (.val _)⟩
   have e : Builtin.real_ ts o.type #[.complex .f64 a b] = pure (.float .f64 a) := rfl
   simp [execOp,hop,resolve,invoke,builtin,h1.val_inv,e]
 ·exact hev.elim
theorem pure_imag {o : Oper} {args : Array Operand} {ts : Array TypeId} {ρ : Operand → AV} {r : Operand → Value} (hop : o.op = .call { callee := .builtin .imag,args,argTypes := ts })
  (hx : ∀ x ∈ args,VR P w c (ρ x) (r x)) {v : AV} {hp' : Hp} (hev : (opEv T o ρ hp).gives v hp') : hp' = hp ∧ ∃ u,(execOp r o).run P w = .ok (.value u) w ∧ VR P w c v u := by
 unfold opEv at hev
 rw [hop] at hev
 simp only at hev
 split at hev
 ·rename_i a b hr
  obtain ⟨rfl,rfl⟩ := hev
  obtain ⟨la⟩ := args
  match la,hr with
  | [],hr=>simp at hr
  | _ :: _ :: _,hr=>simp at hr
  | [x],hr =>
   simp only [List.map_cons,List.map_nil,List.cons.injEq,and_true] at hr
   have h1 := hx x (by simp)
   rw [hr] at h1
   refine ⟨rfl,_,?_,.tree (.val _)⟩
   have e : Builtin.imag_ ts o.type #[.complex .f64 a b] = pure (.float .f64 b) := rfl
   simp [execOp,hop,resolve,invoke,builtin,h1.val_inv,e]
 ·exact hev.elim

theorem pure_len (hT : TOK P T) (h : HR P base w c hp) {o : Oper} {args : Array Operand} {ts : Array TypeId} {ρ : Operand → AV} {r : Operand → Value} (hop : o.op = .call { callee := .builtin .len,args,argTypes := ts })
  (hx : ∀ x ∈ args,VR P w c (ρ x) (r x)) {v : AV} {hp' : Hp} (hev : (opEv T o ρ hp).gives v hp') : hp' = hp ∧ ∃ u,(execOp r o).run P w = .ok (.value u) w ∧ VR P w c v u := by
 have hex : (execOp r o).run P w = ((Builtin.len_ ts o.type (args.map r)).run P w).andThen fun u w'=>.ok (.value u) w' := by
  unfold execOp
  simp only [hop,resolve,invoke,builtin,Sem.run_bind,Sem.run_pure,Result.andThen_ok]
 unfold opEv at hev
 rw [hop] at hev
 simp only at hev
 split at hev
 ·rename_i t x ht hxx
  rw [nth?_eq] at ht hxx
  have ht' : ts[0]? = some t := by simpa using ht
  have hx' : args[0]? = some x := by simpa using hxx
  have hvx := hx x (Array.mem_of_getElem? hx')
  have har : (args.map r)[0]? = some (r x) := by simp [hx']
  rw [hex]
  split at hev
  ·rename_i e _ _ _ _ hT1 hr
   have hd := (hT _ _ hT1).1
   rw [hr] at hvx
   obtain ⟨rfl,rfl⟩ := hev
   cases hvx with
   | tree hvx =>
    generalize r x = rx at hvx har
    cases hvx with
    | eslice a=>exact ⟨rfl,_,by simp [Builtin.len_,ht',har,run_underlying hd]; rfl,.tree (.val _)⟩
  ·rename_i e _ _ _ _ es len f hT1 hr
   have hd := (hT _ _ hT1).1
   rw [hr] at hvx
   obtain ⟨rfl,rfl⟩ := hev
   cases hvx with
   | tree hvx =>
    generalize r x = rx at hvx har
    cases hvx with
    | rslice0=>exact ⟨rfl,_,by simp [Builtin.len_,ht',har,run_underlying hd]; rfl,.tree (.val _)⟩
    | rslice=>exact ⟨rfl,_,by simp [Builtin.len_,ht',har,run_underlying hd]; rfl,.tree (.val _)⟩
  ·rename_i hT1 hr
   have hd := (hT _ _ hT1).1
   rw [hr] at hvx
   obtain ⟨rfl,rfl⟩ := hev
   cases hvx with
   | tree hvx =>
    generalize r x = rx at hvx har
    cases hvx with
    | cslice0=>exact ⟨rfl,_,by simp [Builtin.len_,ht',har,run_underlying hd]; rfl,.tree (.val _)⟩
    | cslice=>exact ⟨rfl,_,by simp [Builtin.len_,ht',har,run_underlying hd]; rfl,.tree (.val _)⟩
  ·rename_i b ver idx sub es len hT1 hr
   have hd := (hT _ _ hT1).1
   rw [hr] at hvx
   split at hev
   ·rename_i k hk
    obtain ⟨rfl,rfl⟩ := hev
    obtain ⟨hkb,hkv⟩ := block_some hk
    obtain ⟨oi,hO,hle,_,hv'⟩ := hvx.aslice_inv
    have hB := h.blk b k oi hkb hO
    obtain ⟨_,_,hu⟩ := hv' (by rw [hB.ver,hkv])
    rw [hu] at har
    exact ⟨rfl,_,by simp [Builtin.len_,ht',har,run_underlying hd]; rfl,.tree (.val _)⟩
   ·exact hev.elim
  ·rename_i b ver off len cap hT1 hr
   have hd := (hT _ _ hT1).1
   rw [hr] at hvx
   split at hev
   ·rename_i k hk
    obtain ⟨rfl,rfl⟩ := hev
    obtain ⟨hkb,hkv⟩ := block_some hk
    obtain ⟨oi,hO,hle,_,hv'⟩ := hvx.oslice_inv
    have hB := h.blk b k oi hkb hO
    obtain ⟨_,a,k1,hu,_⟩ := hv' (by rw [hB.ver,hkv])
    rw [hu] at har
    exact ⟨rfl,_,by simp [Builtin.len_,ht',har,run_underlying hd]; rfl,.tree (.val _)⟩
   ·exact hev.elim
  ·rename_i s hT1 hr
   have hd := (hT _ _ hT1).1
   rw [hr] at hvx
   obtain ⟨rfl,rfl⟩ := hev
   rw [hvx.val_inv] at har
   exact ⟨rfl,_,by simp [Builtin.len_,ht',har,run_underlying hd]; rfl,.tree (.val _)⟩
  ·rename_i n e _ _ _ _ l hT1 hr
   have hd := (hT _ _ hT1).1
   obtain ⟨rfl,rfl⟩ := hev
   refine ⟨rfl,_,by simp [Builtin.len_,ht',har,run_underlying hd]; rfl,.tree (.val _)⟩
  ·exact hev.elim
 ·exact hev.elim

theorem pure_max {o : Oper} {args : Array Operand} {ts : Array TypeId} {ρ : Operand → AV} {r : Operand → Value} (hop : o.op = .call { callee := .builtin .max,args,argTypes := ts })
  (hx : ∀ x ∈ args,VR P w c (ρ x) (r x)) {v : AV} {hp' : Hp} (hev : (opEv T o ρ hp).gives v hp') : hp' = hp ∧ ∃ u,(execOp r o).run P w = .ok (.value u) w ∧ VR P w c v u := by
 unfold opEv at hev
 rw [hop] at hev
 simp only at hev
 split at hev
 ·rename_i k a k' b hr
  obtain ⟨rfl,rfl⟩ := hev
  obtain ⟨la⟩ := args
  match la,hr with
  | [],hr=>simp at hr
  | [_],hr=>simp at hr
  | _ :: _ :: _ :: _,hr=>simp at hr
  | [x,y],hr =>
   simp only [List.map_cons,List.map_nil,List.cons.injEq,and_true] at hr
   have h1 := hx x (by simp)
   have h2 := hx y (by simp)
   rw [hr.1] at h1; rw [hr.2] at h2
   refine ⟨rfl,_,?_,.tree (.val _)⟩
   simp [execOp,hop,resolve,invoke,builtin,h1.val_inv,h2.val_inv,run_max_int2]
 ·exact hev.elim

theorem pure_min {o : Oper} {args : Array Operand} {ts : Array TypeId} {ρ : Operand → AV} {r : Operand → Value} (hop : o.op = .call { callee := .builtin .min,args,argTypes := ts })
  (hx : ∀ x ∈ args,VR P w c (ρ x) (r x)) {v : AV} {hp' : Hp} (hev : (opEv T o ρ hp).gives v hp') : hp' = hp ∧ ∃ u,(execOp r o).run P w = .ok (.value u) w ∧ VR P w c v u := by
 unfold opEv at hev
 rw [hop] at hev
 simp only at hev
 split at hev
 ·rename_i k a k' b hr
  obtain ⟨rfl,rfl⟩ := hev
  obtain ⟨la⟩ := args
  match la,hr with
  | [],hr=>simp at hr
  | [_],hr=>simp at hr
  | _ :: _ :: _ :: _,hr=>simp at hr
  | [x,y],hr =>
   simp only [List.map_cons,List.map_nil,List.cons.injEq,and_true] at hr
   have h1 := hx x (by simp)
   have h2 := hx y (by simp)
   rw [hr.1] at h1; rw [hr.2] at h2
   refine ⟨rfl,_,?_,.tree (.val _)⟩
   simp [execOp,hop,resolve,invoke,builtin,h1.val_inv,h2.val_inv,run_min_int2]
 ·exact hev.elim
end
end Go.Tr

/- New memory: blocks and maps of the call's own; what is kept beside them. Conditions: none. -/
namespace Go.Tr
open Go Go.RowKit
variable [GTab]

def ABro (k k' : AB) : Prop := k' = k ∨ k' = { k with ro := true }
def AMro (k k' : AM) : Prop := k' = k ∨ k' = { k with ro := true }
theorem ABro.refl (k : AB) : ABro k k := .inl rfl
theorem AMro.refl (k : AM) : AMro k k := .inl rfl
theorem ABro.trans {a b c : AB} (h : ABro a b) (k : ABro b c) : ABro a c := by
  rcases h with rfl | rfl <;> rcases k with rfl | rfl <;> first | exact .inl rfl | exact .inr rfl
theorem AMro.trans {a b c : AM} (h : AMro a b) (k : AMro b c) : AMro a c := by
  rcases h with rfl | rfl <;> rcases k with rfl | rfl <;> first | exact .inl rfl | exact .inr rfl

structure HpLe (h h' : Hp) : Prop where
  b : ∀ (i : Nat) (k : AB),h.blocks[i]? = some k → ∃ k',h'.blocks[i]? = some k' ∧ ABro k k'
  m : ∀ (i : Nat) (k : AM),h.maps[i]? = some k → ∃ k',h'.maps[i]? = some k' ∧ AMro k k'
theorem HpLe.refl (h : Hp) : HpLe h h := ⟨fun _ k hk=>⟨k,hk,.refl k⟩,fun _ k hk=>⟨k,hk,.refl k⟩⟩
theorem HpLe.trans {a b c : Hp} (h : HpLe a b) (k : HpLe b c) : HpLe a c :=
  ⟨fun i x hx=>by obtain ⟨y,hy,e⟩ := h.b i x hx; obtain ⟨z,hz,e'⟩ := k.b i y hy; exact ⟨z,hz,e.trans e'⟩,
   fun i x hx=>by obtain ⟨y,hy,e⟩ := h.m i x hx; obtain ⟨z,hz,e'⟩ := k.m i y hy; exact ⟨z,hz,e.trans e'⟩⟩
theorem HpLe.blen {h h' : Hp} (e : HpLe h h') : h.blocks.length ≤ h'.blocks.length := by
 rcases Nat.eq_zero_or_pos h.blocks.length with h0 | h0
 ·omega
 ·obtain ⟨k',hk',_⟩ := e.b (h.blocks.length - 1) _ (List.getElem?_eq_getElem (by omega))
  have := (List.getElem?_eq_some_iff.1 hk').1
  omega
theorem HpLe.mlen {h h' : Hp} (e : HpLe h h') : h.maps.length ≤ h'.maps.length := by
 rcases Nat.eq_zero_or_pos h.maps.length with h0 | h0
 ·omega
 ·obtain ⟨k',hk',_⟩ := e.m (h.maps.length - 1) _ (List.getElem?_eq_getElem (by omega))
  have := (List.getElem?_eq_some_iff.1 hk').1
  omega

structure QOut (P : Program) (base : Nat) (w : World) (c : Cx) (hp : Hp) (w' : World) (c' : Cx) (hp' : Hp) : Prop where
 hr : HR P base w' c' hp'
 ext : Ext w.heap.size w c w' c'
 le : HpLe hp hp'
 oOld : ∀ b oi,c.O b = some oi → c'.O b = some oi
 oNew : ∀ b oi,c'.O b = some oi → c.O b = some oi ∨ (hp.blocks.length ≤ b ∧ b < hp'.blocks.length)
 nNew : ∀ b r,c'.N b = some r → c.N b = some r ∨ (hp.maps.length ≤ b ∧ b < hp'.maps.length)
 ro : ∀ b oi,c'.O b = some oi → oi.cap ≠ 0 → c'.p oi.blk → (c.O b = some oi ∧ c.p oi.blk) ∨ ∃ k,hp'.blocks[b]? = some k ∧ k.ro = true
 rom : ∀ b r,c'.N b = some r → c'.p r → (c.N b = some r ∧ c.p r) ∨ ∃ m,hp'.maps[b]? = some m ∧ m.ro = true
 pN : ∀ b,c'.p b → c.p b ∨ w.heap.size ≤ b ∨ (∃ i oi,c.O i = some oi ∧ oi.cap ≠ 0 ∧ oi.blk = b) ∨ (∃ i,c.N i = some b)
 yE : c'.y = c.y

theorem QOut.roOf {P : Program} {base : Nat} {w : World} {c : Cx} {hp : Hp} {w' : World} {c' : Cx} {hp' : Hp} (q : QOut P base w c hp w' c' hp') (h : RO c hp) : RO c' hp' where
 b := fun b oi h1 h2 h3 => by
  rcases q.ro b oi h1 h2 h3 with ⟨g1,g2⟩ | g
  ·obtain ⟨k,hk,hr⟩ := h.b b oi g1 h2 g2
   obtain ⟨k',hk',e⟩ := q.le.b b k hk
   exact ⟨k',hk',by rcases e with rfl | rfl <;> first | exact hr | rfl⟩
  ·exact g
 m := fun b r h1 h3 => by
  rcases q.rom b r h1 h3 with ⟨g1,g2⟩ | g
  ·obtain ⟨k,hk,hr⟩ := h.m b r g1 g2
   obtain ⟨k',hk',e⟩ := q.le.m b k hk
   exact ⟨k',hk',by rcases e with rfl | rfl <;> first | exact hr | rfl⟩
  ·exact g

section
variable {P : Program} {T : Nat → Option TI} {w w' : World} {c c' : Cx} {base : Nat} {hp hp' : Hp}

theorem Ext.low {base' : Nat} (h : Ext base w c w' c') (hb : base' ≤ base) : Ext base' w c w' c' := ⟨h.below.mono hb,h.p,h.pb,h.O,h.N,h.y⟩

theorem BR.mono {k : AB} {oi : OI} {base : Nat} (e : Ext base w c w' c') (h : BR P w c k oi) (hb : oi.cap ≠ 0 → w'.heap[oi.blk]? = w.heap[oi.blk]?) : BR P w' c' k oi where
 n := h.n
 es := h.es
 ver := h.ver
 le := h.le
 row := fun hc=>by rw [hb hc]; exact h.row hc
 el := h.el
 rel := fun i j x v hi hx hv=>by
  have hcap : oi.cap ≠ 0 := by have := h.n; have := h.le; omega
  rw [World.cell?_of_block (w := w) (a := ⟨oi.blk,_,none⟩) (hb hcap)] at hv
  obtain ⟨h1,h2⟩ := h.rel i j x v hi hx hv
  exact ⟨h1.mono e,fun hf=>(h2 hf).mono e.p e.pb⟩

theorem BR.ro {k k' : AB} {oi : OI} (e : ABro k k') (h : BR P w c k oi) : BR P w c k' oi := by
 rcases e with rfl | rfl
 ·exact h
 ·exact ⟨h.n,h.es,h.ver,h.le,h.row,h.el,h.rel⟩
theorem BR.ro' {k k' : AB} {oi : OI} (e : ABro k k') (h : BR P w c k' oi) : BR P w c k oi := by
 rcases e with rfl | rfl
 ·exact h
 ·exact ⟨h.n,h.es,h.ver,h.le,h.row,h.el,h.rel⟩

theorem MR.mono {m : AM} {r : Nat} {base : Nat} (e : Ext base w c w' c') (h : MR P w c m r) (hb : w'.heap[r]? = w.heap[r]?) : MR P w' c' m r := by
 refine ⟨fun hi=>?_,fun seen hi=>?_⟩
 ·obtain ⟨es,clock,h1,h2⟩ := h.ex hi
  exact ⟨es,clock,hb.trans h1,h2.mono e.p e.pb⟩
 ·obtain ⟨q,es,clock,since,sn,last,g1,g2,g3,g4,g5,g6,g7,g8,g9⟩ := (h.it seen hi).ex
  refine ⟨q,es,clock,since,sn,last,hb.trans g1,e.p q g2,(e.pb q g2).trans g3,g4.mono e.p e.pb,g5,g6,g7,g8,?_⟩
  rcases g9 with g9 | ⟨a,a1,a2,a3⟩
  ·exact .inl g9
  ·exact .inr ⟨a,a1,a2,a3.mono e.p e.pb⟩
theorem MR.ro {k k' : AM} {r : Nat} (e : AMro k k') (h : MR P w c k r) : MR P w c k' r := by
 rcases e with rfl | rfl
 ·exact h
 ·exact ⟨h.ex,fun seen hi=>⟨(h.it seen hi).ex⟩⟩
theorem MR.ro' {k k' : AM} {r : Nat} (e : AMro k k') (h : MR P w c k' r) : MR P w c k r := by
 rcases e with rfl | rfl
 ·exact h
 ·exact ⟨h.ex,fun seen hi=>⟨(h.it seen hi).ex⟩⟩

theorem HR.blk_old (h : HR P base w c hp) (e : Ext w.heap.size w c w' c') {b : Nat} {k : AB} {oi : OI} (hk : hp.blocks[b]? = some k) (hO : c.O b = some oi) : BR P w' c' k oi :=
  (h.blk b k oi hk hO).mono e fun hc=>e.below.block _ (h.own b oi hO hc).2
theorem HR.map_old (h : HR P base w c hp) (e : Ext w.heap.size w c w' c') {b : Nat} {m : AM} {r : Nat} (hk : hp.maps[b]? = some m) (hO : c.N b = some r) : MR P w' c' m r :=
  (h.maps b m r hk hO).mono e (e.below.block _ (h.mown b r hO).2)

theorem qout_same (h : HR P base w c hp) (hw : Below w.heap.size w w') (hs : w'.heap.size = w.heap.size) : QOut P base w c hp w' c hp := by
 have e : Ext w.heap.size w c w' c := ⟨hw,fun _ h=>h,fun b hb=>hw.block b (h.st b hb),fun _ oi h=>⟨oi,h,Nat.le_refl _,fun _=>rfl⟩,fun _ _ h=>h,fun _ _ h=>h⟩
 exact ⟨⟨fun b k oi hk hO=>h.blk_old e hk hO,h.sep,fun b oi hO hc=>by rw [hs]; exact h.own b oi hO hc,fun b hb=>by rw [hs]; exact h.st b hb,fun b m r hk hO=>h.map_old e hk hO,
  fun b r hO=>by rw [hs]; exact h.mown b r hO,h.msep,h.bm⟩,e,.refl _,fun _ _ h=>h,fun _ _ h=>.inl h,fun _ _ h=>.inl h,fun _ _ h1 _ h3=>.inl ⟨h1,h3⟩,fun _ _ h1 h3=>.inl ⟨h1,h3⟩,fun _ h=>.inl h,rfl⟩

theorem qout_stable (h : HR P base w c hp) (hw : Below w.heap.size w w') (q : Nat → Prop) (hq : ∀ b,q b → w.heap.size ≤ b ∧ b < w'.heap.size) : QOut P base w c hp w' { c with p := fun b=>c.p b ∨ q b } hp := by
 have e : Ext w.heap.size w c w' { c with p := fun b=>c.p b ∨ q b } := ⟨hw,fun _ h=>.inl h,fun b hb=>hw.block b (h.st b hb),fun _ oi h=>⟨oi,h,Nat.le_refl _,fun _=>rfl⟩,fun _ _ h=>h,fun _ _ h=>h⟩
 have hs := hw.size
 refine ⟨⟨fun b k oi hk hO=>h.blk_old e hk hO,h.sep,fun b oi hO hc=>?_,fun b hb=>?_,fun b m r hk hO=>h.map_old e hk hO,
  fun b r hO=>?_,h.msep,h.bm⟩,e,.refl _,fun _ _ h=>h,fun _ _ h=>.inl h,fun _ _ h=>.inl h,fun b oi h1 h2 h3=>.inl ⟨h1,?_⟩,fun b r h1 h3=>.inl ⟨h1,?_⟩,fun b hb=>hb.imp id fun hb=>.inl (hq b hb).1,rfl⟩
 ·have := h.own b oi hO hc; omega
 ·rcases hb with hb | hb
  ·have := h.st b hb; omega
  ·exact (hq b hb).2
 ·have := h.mown b r hO; omega
 ·rcases h3 with h3 | h3
  ·exact h3
  ·have := h.own b oi h1 h2; have := hq _ h3; omega
 ·rcases h3 with h3 | h3
  ·exact h3
  ·have := h.mown b r h1; have := hq _ h3; omega

theorem getElem?_snoc {α : Type} {l : List α} {x : α} {i : Nat} {y : α} (h : (l ++ [x])[i]? = some y) : (i < l.length ∧ l[i]? = some y) ∨ (i = l.length ∧ y = x) := by
 rcases Nat.lt_trichotomy i l.length with hi | hi | hi
 ·rw [List.getElem?_append_left hi] at h; exact .inl ⟨hi,h⟩
 ·subst hi; simp at h; exact .inr ⟨rfl,h.symm⟩
 ·rw [List.getElem?_eq_none (by simp; omega)] at h; cases h

def Cx.addO (c : Cx) (n : Nat) (oi : OI) : Cx := { c with O := fun b=>if b = n then some oi else c.O b }

theorem qout_block (h : HR P base w c hp) (hbase : base ≤ w.heap.size) (hw : Below w.heap.size w w') (hfree : c.O hp.blocks.length = none) {k : AB} {oi : OI}
  (hlt : oi.cap ≠ 0 → w.heap.size ≤ oi.blk ∧ oi.blk < w'.heap.size)
  (hk : Ext w.heap.size w c w' (c.addO hp.blocks.length oi) → BR P w' (c.addO hp.blocks.length oi) k oi) : QOut P base w c hp w' (c.addO hp.blocks.length oi) (hp.addB k) := by
 have e : Ext w.heap.size w c w' (c.addO hp.blocks.length oi) := ⟨hw,fun _ h=>h,fun b hb=>hw.block b (h.st b hb),fun b oi' hb=>⟨oi',by
  simp only [Cx.addO]; rw [if_neg (fun e=>by rw [e,hfree] at hb; cases hb)]; exact hb,Nat.le_refl _,fun _=>rfl⟩,fun _ _ h=>h,fun _ _ h=>h⟩
 have hs := hw.size
 have hcase : ∀ b oi',(c.addO hp.blocks.length oi).O b = some oi' → (b = hp.blocks.length ∧ oi' = oi) ∨ (b ≠ hp.blocks.length ∧ c.O b = some oi') := fun b oi' hb=>by
  simp only [Cx.addO] at hb
  by_cases hbn : b = hp.blocks.length
  ·rw [if_pos hbn] at hb; exact .inl ⟨hbn,(Option.some.inj hb).symm⟩
  ·rw [if_neg hbn] at hb; exact .inr ⟨hbn,hb⟩
 have hlen : (hp.addB k).blocks.length = hp.blocks.length + 1 := by simp [Hp.addB]
 refine ⟨⟨fun b k' oi' hk' hO=>?_,fun b b' o1 o2 h1 h2 hne=>?_,fun b oi' hO hc=>?_,fun b hb=>by have := h.st b hb; omega,fun b m r hk hO=>h.map_old e hk hO,fun b r hO=>?_,h.msep,fun b i oi' r hO hc hN=>?_⟩,e,
  ⟨fun i x hx=>⟨x,?_,.refl _⟩,fun i x hx=>⟨x,hx,.refl _⟩⟩,fun b oi' hb=>?_,fun b oi' hb=>?_,fun _ _ h=>.inl h,fun b oi' h1 h2 h3=>?_,fun b r h1 h3=>.inl ⟨h1,h3⟩,fun _ h=>.inl h,rfl⟩
 ·rcases hcase b oi' hO with ⟨rfl,rfl⟩ | ⟨hne,hO'⟩
  ·rcases getElem?_snoc hk' with ⟨hlt',_⟩ | ⟨_,rfl⟩
   ·omega
   ·exact hk e
  ·rcases getElem?_snoc hk' with ⟨_,hk''⟩ | ⟨he,_⟩
   ·exact h.blk_old e hk'' hO'
   ·exact absurd he hne
 ·rcases hcase b o1 h1 with ⟨rfl,rfl⟩ | ⟨hne1,hO1⟩ <;> rcases hcase b' o2 h2 with ⟨rfl,rfl⟩ | ⟨hne2,hO2⟩
  ·exact absurd rfl hne
  ·by_cases hc : o1.cap = 0
   ·exact .inr (.inl hc)
   ·by_cases hc2 : o2.cap = 0
    ·exact .inr (.inr hc2)
    ·have := hlt hc; have := h.own b' o2 hO2 hc2; exact .inl (by omega)
  ·by_cases hc : o2.cap = 0
   ·exact .inr (.inr hc)
   ·by_cases hc2 : o1.cap = 0
    ·exact .inr (.inl hc2)
    ·have := hlt hc; have := h.own b o1 hO1 hc2; exact .inl (by omega)
  ·exact h.sep b b' o1 o2 hO1 hO2 hne
 ·rcases hcase b oi' hO with ⟨rfl,rfl⟩ | ⟨_,hO'⟩
  ·have := hlt hc; omega
  ·have := h.own b oi' hO' hc; omega
 ·have := h.mown b r hO; omega
 ·rcases hcase b oi' hO with ⟨rfl,rfl⟩ | ⟨_,hO'⟩
  ·have := hlt hc; have := h.mown i r hN; omega
  ·exact h.bm b i oi' r hO' hc hN
 ·show (hp.blocks ++ [k])[i]? = some x
  rw [List.getElem?_append_left (List.getElem?_eq_some_iff.1 hx).1]; exact hx
 ·obtain ⟨o1,g1,_,g2⟩ := e.O b oi' hb
  simp only [Cx.addO]; rw [if_neg (fun e=>by rw [e,hfree] at hb; cases hb)]; exact hb
 ·rcases hcase b oi' hb with ⟨rfl,rfl⟩ | ⟨_,hO'⟩
  ·exact .inr ⟨Nat.le_refl _,by omega⟩
  ·exact .inl hO'
 ·rcases hcase b oi' h1 with ⟨rfl,rfl⟩ | ⟨_,hO'⟩
  ·have := hlt h2; have := h.st _ h3; omega
  ·exact .inl ⟨hO',h3⟩

theorem below_alloc (w : World) (o : Obj) : Below w.heap.size w (w.alloc o) := (Below.refl _ _).alloc (Nat.le_refl _) o
end
end Go.Tr

/- Structs put together; variables, slices and maps made. Conditions: none. -/
namespace Go.Tr
open Go Go.RowKit
variable [GTab]

theorem splice_length : ∀ (l : List AV) (off : Nat) (vs : List AV),(splice l off vs).length = l.length
 | [],_,_=>by simp [splice]
 | x :: r,0,[]=>by simp [splice]
 | x :: r,0,v :: vs=>by simp [splice,splice_length r 0 vs]
 | x :: r,n + 1,vs=>by simp [splice,splice_length r n vs]

theorem splice_get : ∀ (l : List AV) (off : Nat) (vs : List AV) (i : Nat),i < l.length → (splice l off vs)[i]? = if off ≤ i ∧ i - off < vs.length then vs[i - off]? else l[i]?
 | [],_,_,i,h=>by simp at h
 | x :: r,0,[],i,h=>by simp [splice]
 | x :: r,0,v :: vs,0,h=>by simp [splice]
 | x :: r,0,v :: vs,i + 1,h=>by
  have := splice_get r 0 vs i (by simpa using h)
  simp only [splice,List.getElem?_cons_succ]
  simp only [Nat.zero_le,true_and,Nat.sub_zero] at this ⊢
  rw [this]
  simp only [List.length_cons,Nat.add_lt_add_iff_right,List.getElem?_cons_succ]
 | x :: r,n + 1,vs,0,h=>by simp [splice]
 | x :: r,n + 1,vs,i + 1,h=>by
  have := splice_get r n vs i (by simpa using h)
  simp only [splice,List.getElem?_cons_succ]
  rw [this]
  simp only [Nat.add_le_add_iff_right,Nat.add_sub_add_right]

theorem foldl_set (off : Nat) : ∀ (l : List Value) (k : Nat) (cs : Array Value),off + k + l.length ≤ cs.size →
  ((l.zipIdx k).foldl (fun cs (p : Value × Nat)=>cs.setIfInBounds (off + p.2) p.1) cs).size = cs.size ∧
  ∀ i,((l.zipIdx k).foldl (fun cs (p : Value × Nat)=>cs.setIfInBounds (off + p.2) p.1) cs)[i]? = if off + k ≤ i ∧ i - (off + k) < l.length then l[i - (off + k)]? else cs[i]?
 | [],k,cs,_=>by simp
 | v :: r, k, cs, h => by
  simp only [List.length_cons] at h
  have ih := foldl_set off r (k + 1) (cs.setIfInBounds (off + k) v) (by simp; omega)
  simp only [List.zipIdx_cons,List.foldl_cons]
  refine ⟨by rw [ih.1]; simp,fun i=>?_⟩
  rw [ih.2 i]
  by_cases h1 : i = off + k
  ·subst h1
   have hlt : off + k < cs.size := by omega
   rw [if_neg (by omega),if_pos (by simp)]
   simp [hlt]
  ·by_cases h2 : off + k ≤ i ∧ i - (off + k) < (v :: r).length
   ·rw [if_pos h2]
    simp only [List.length_cons] at h2
    rw [if_pos (by omega)]
    rw [show i - (off + k) = (i - (off + (k + 1))) + 1 from by omega,List.getElem?_cons_succ]
   ·rw [if_neg h2]
    simp only [List.length_cons] at h2
    rw [if_neg (by omega),Array.getElem?_setIfInBounds_ne (by omega)]

section
variable {P : Program} {T : Nat → Option TI} {w w' : World} {c c' : Cx} {base : Nat} {hp hp' : Hp}

structure CR (P : Program) (w : World) (c : Cx) (l : List AV) (vs : Array Value) : Prop where
 size : vs.size = l.length
 one : ∀ v ∈ vs.toList,v.oneCell' = true
 rel : ∀ i x,l[i]? = some x → VR P w c x (vs.getD i undef)

theorem VR.cr {x : AV} {u : Value} (h : VR P w c x u) (hs : x.storable = true) : CR P w c x.cells u.cells := ⟨(h.cells hs).1,(h.cells hs).2.1,(h.cells hs).2.2⟩
theorem CR.agg {l : List AV} {vs : Array Value} (h : CR P w c l vs) : VR P w c (.agg l) (.agg vs) := .agg l vs h.size h.one h.rel

theorem CR.splice {l m : List AV} {vs us : Array Value} (h : CR P w c l vs) (k : CR P w c m us) {off : Nat} (hle : off + us.size ≤ vs.size) :
  CR P w c (splice l off m) (us.zipIdx.foldl (fun cs p=>cs.setIfInBounds (off + p.2) p.1) vs) := by
 have e : us.zipIdx.foldl (fun cs p=>cs.setIfInBounds (off + p.2) p.1) vs = (us.toList.zipIdx 0).foldl (fun cs (p : Value × Nat)=>cs.setIfInBounds (off + p.2) p.1) vs := by
  rw [← Array.foldl_toList,Array.toList_zipIdx]
 have f := foldl_set off us.toList 0 vs (by simpa using hle)
 simp only [Nat.add_zero] at f
 rw [e]
 refine ⟨by rw [f.1,splice_length,h.size],fun v hv=>?_,fun i x hx=>?_⟩
 ·obtain ⟨i,hi,rfl⟩ := List.getElem_of_mem hv
  have hg := f.2 i
  simp only [Array.length_toList] at hi
  rw [Array.getElem?_eq_getElem hi] at hg
  simp only [Array.getElem_toList]
  split at hg
  ·exact k.one _ (List.mem_of_getElem? hg.symm)
  ·exact h.one _ (by rw [← Array.getElem?_toList] at hg; exact List.mem_of_getElem? hg.symm)
 ·have hi : i < l.length := by have := (List.getElem?_eq_some_iff.1 hx).1; rwa [splice_length] at this
  rw [splice_get _ _ _ _ hi] at hx
  simp only [Array.getD_eq_getD_getElem?]
  rw [f.2 i]
  split at hx
  ·rename_i hc
   rw [if_pos ⟨hc.1,by simp; rw [k.size]; exact hc.2⟩]
   have := k.rel _ x hx
   simpa using this
  ·rename_i hc
   rw [if_neg (fun hh=>hc ⟨hh.1,by have := hh.2; simp at this; rw [← k.size]; exact this⟩)]
   have := h.rel _ x hx
   simpa using this

theorem fill_ok {place : Nat → Option (Nat × Nat)} {ρ : Operand → AV} {r : Operand → Value} : ∀ (ps : List (Nat × Operand)) (l l' : List AV) (vs : Array Value),CR P w c l vs → (∀ p ∈ ps,VR P w c (ρ p.2) (r p.2)) →
  buildCells place l (ps.map fun p=>(p.1,ρ p.2)) = some l' → ∃ vs',Instr.fill place vs (ps.map fun p=>(p.1,r p.2)) = some vs' ∧ CR P w c l' vs' ∧ l'.length = l.length
 | [],l,l',vs,h,_,hb=>by simp [buildCells] at hb; subst hb; exact ⟨vs,rfl,h,rfl⟩
 | (i, x) :: ps, l, l', vs, h, hp, hb => by
  simp only [List.map_cons,buildCells] at hb
  cases hpl : place i with
  | none=>rw [hpl] at hb; cases hb
  | some q =>
   obtain ⟨off,size⟩ := q
   rw [hpl] at hb
   simp only at hb
   cases hc : (Nat.beq (ρ x).cells.length size && Nat.ble (off + size) l.length && (ρ x).storable) with
   | false=>rw [hc] at hb; cases hb
   | true =>
    rw [hc] at hb
    simp only [cond_true] at hb
    rw [Bool.and_eq_true,Bool.and_eq_true] at hc
    obtain ⟨⟨h1,h2⟩,h3⟩ := hc
    have h1 := Nat.eq_of_beq_eq_true h1
    have h2 := Nat.le_of_ble_eq_true h2
    have hx := (hp (i,x) (by simp)).cr h3
    have hsz : (r x).cells.size = size := by rw [hx.size,h1]
    obtain ⟨vs',g1,g2,g3⟩ := fill_ok ps _ l' _ (h.splice hx (off := off) (by rw [hsz,h.size]; exact h2)) (fun p hm=>hp p (by simp [hm])) hb
    refine ⟨vs',?_,g2,by rw [g3,splice_length]⟩
    simp only [List.map_cons,Instr.fill,hpl]
    rw [if_neg (by rw [hsz,h.size]; simp; exact h2)]
    exact g1

theorem zero_cr (hT : TOK P T) {t : TypeId} {ti : TI} (ht : T t = some ti) (hl : (zeroCells ti).length = ti.size) : CR P w c (zeroCells ti) ti.zero.cells := by
 obtain ⟨_,h2,h3,_⟩ := hT t ti ht
 have hz : VR P w c (constAV ti.zero) ti.zero := .tree (constAV_ok _)
 unfold zeroCells at hl ⊢
 have hcase : (constAV ti.zero).storable = true ∨ ti.zero.cells.size = 1 ∧ (constAV ti.zero).cells = [.top] := by
  unfold constAV
  split
  ·exact .inl rfl
  ·rename_i cs heq
   rw [heq] at h3
   have : cs.toList.all Value.oneCell' = true := List.all_eq_true.2 h3
   simp [this]
   exact .inl rfl
  ·rename_i vs heq
   rw [heq] at h3
   have := h3 (.tuple vs) (by simp [Value.cells])
   simp [Value.oneCell'] at this
  ·rename_i v h5 h6 h7
   have hvc : ti.zero.cells = #[ti.zero] := by cases hzz : ti.zero <;> simp_all [Value.cells]
   have := h3 ti.zero (by rw [hvc]; simp)
   exact .inl this
 rcases hcase with h | ⟨_,h⟩
 ·exact hz.cr h
 ·refine ⟨by rw [h2,← hl],h3,fun i x hx=>?_⟩
  rw [h] at hx
  have : x = .top := by
   cases i with
   | zero=>simpa using hx.symm
   | succ i=>simp at hx
  subst this
  exact .tree (.top _)
end
end Go.Tr

/- Operations that make memory of the call's own. Conditions: none. -/
namespace Go.Tr
open Go Go.RowKit
variable [GTab]

section
variable {P : Program} {T : Nat → Option TI} {w w' : World} {c c' : Cx} {base : Nat} {hp hp' : Hp}

theorem zero_len (hT : TOK P T) {t : TypeId} {ti : TI} (ht : T t = some ti) : (zeroCells ti).length = ti.size := by
 obtain ⟨_,h2,h3,_⟩ := hT t ti ht
 rw [← h2]
 unfold zeroCells constAV
 split
 ·rename_i h; rw [h]; rfl
 ·rename_i cs heq
  rw [heq] at h3 ⊢
  have : cs.toList.all Value.oneCell' = true := List.all_eq_true.2 h3
  rw [this]
  simp [AV.cells,Value.cells]
 ·rename_i vs heq
  rw [heq] at h3
  have := h3 (.tuple vs) (by simp [Value.cells])
  simp [Value.oneCell'] at this
 ·rename_i v h5 h6 h7
  have hvc : ti.zero.cells = #[ti.zero] := by cases hzz : ti.zero <;> simp_all [Value.cells]
  rw [hvc]; rfl

theorem VR.toVT : ∀ (n : Nat) {x : AV} {v : Value},AV.tree n x = true → VR P w c x v → VT P w c.p x v
 | 0,x,v,h,_=>by simp [AV.tree] at h
 | n + 1, x, v, h, hv => by
  cases hv with
  | tree h=>exact h
  | agg l vs hs ho hr =>
   simp only [AV.tree] at h
   exact .agg l vs hs ho fun i y hy=>VR.toVT n (List.all_eq_true.1 h y (List.mem_of_getElem? hy)) (hr i y hy)
  | tuple l vs hs hr =>
   simp only [AV.tree] at h
   exact .tuple l vs hs fun i y hy=>VR.toVT n (List.all_eq_true.1 h y (List.mem_of_getElem? hy)) (hr i y hy)
  | func fn nf l f0 vs h0 hs hr =>
   simp only [AV.tree] at h
   exact .func fn nf l f0 vs h0 hs fun i y hy=>VR.toVT n (List.all_eq_true.1 h y (List.mem_of_getElem? hy)) (hr i y hy)
  | optr=>simp [AV.tree] at h
  | oslice=>simp [AV.tree] at h
  | omap=>simp [AV.tree] at h
  | yld=>simp [AV.tree] at h
  | oiter=>simp [AV.tree] at h
  | aslice=>simp [AV.tree] at h

theorem new_block (h : HR P base w c hp) (hbase : base ≤ w.heap.size) (hfree : c.O hp.blocks.length = none) (cs : Array Value) (t : TypeId) (w0 : World) (hw0 : Below w.heap.size w w0) (hsz0 : w0.heap.size = w.heap.size)
  (k : AB) (cap : Nat) (hlen : k.len ≤ cap) (hcs : cap * k.es ≤ cs.size) (hver : k.ver = 0) (hone : ∀ v ∈ cs.toList,v.oneCell' = true) (hel : ∀ i,i < k.len → (k.f i).length = k.es)
  (hrel : ∀ (i j : Nat) (x : AV),i < k.len → (k.f i)[j]? = some x → VR P w c x (cs.getD (i * k.es + j) undef)) (hflat : k.flat = true → ∀ (i j : Nat) (x : AV),i < k.len → (k.f i)[j]? = some x → AV.tree 4 x = true) :
  QOut P base w c hp (w0.alloc (.cells cs t)) (c.addO hp.blocks.length ⟨w.heap.size,0,cap,k.es,k.len,0⟩) (hp.addB k) := by
 have hb : Below w.heap.size w (w0.alloc (.cells cs t)) := hw0.alloc (by omega) _
 refine qout_block h hbase hb hfree (fun _=>⟨Nat.le_refl _,by simp; omega⟩) fun e=>?_
 have hnew : (w0.alloc (.cells cs t)).heap[w.heap.size]? = some (.cells cs t (0,0)) := by rw [← hsz0]; exact heap_alloc_new w0 _
 refine ⟨rfl,rfl,hver.symm,hlen,fun _=>⟨cs,t,hnew,by simpa using hcs,hone⟩,hel,fun i j x v hi hx hv=>?_⟩
 have hv' : v = cs.getD (i * k.es + j) undef := by
  simp only [World.cell?,hnew,Nat.zero_add] at hv
  simp at hv
  simp [hv]
 rw [hv']
 have hr := (hrel i j x hi hx).mono e
 refine ⟨hr,fun hf=>VR.toVT 4 (hflat hf i j x hi hx) hr⟩

theorem addO_self (c : Cx) (n : Nat) (oi : OI) : (c.addO n oi).O n = some oi := by simp [Cx.addO]

theorem zero_tree (ti : TI) (x : AV) (hx : x ∈ zeroCells ti) : AV.tree 4 x = true := by
 simp only [zeroCells] at hx
 unfold constAV at hx
 split at hx
 ·simp [AV.cells] at hx; subst hx; rfl
 ·cases hall : (_ : Array Value).toList.all Value.oneCell' with
  | false=>rw [hall] at hx; simp [AV.cells] at hx; subst hx; rfl
  | true =>
   rw [hall] at hx
   simp only [cond_true,AV.cells,List.mem_map] at hx
   obtain ⟨u,_,rfl⟩ := hx
   split <;> rfl
 ·simp [AV.cells] at hx; subst hx; rfl
 ·simp [AV.cells] at hx; subst hx; rfl

theorem make_alloc (hT : TOK P T) (h : HR P base w c hp) (hbase : base ≤ w.heap.size) {t : TypeId} {o : Oper} {ρ : Operand → AV} {r : Operand → Value} (hop : o.op = .alloc t)
  {v : AV} (hev : (opEv T o ρ hp).gives v hp') (hfree : c.O hp.blocks.length = none) :
  ∃ u w' c',(execOp r o).run P w = .ok (.value u) w' ∧ QOut P base w c hp w' c' hp' ∧ VR P w' c' v u := by
 unfold opEv at hev
 rw [hop] at hev
 simp only at hev
 split at hev
 ·rename_i ti ht
  simp only [forceNr_eq,forceC_eq] at hev
  obtain ⟨rfl,rfl⟩ := hev
  obtain ⟨_,_,_,inf,hinf,_,_,hz⟩ := hT _ _ ht
  have hcr := zero_cr (P := P) (w := w) (c := c) hT ht (zero_len hT ht)
  refine ⟨_,_,_,?_,new_block h hbase hfree ti.zero.cells t w (Below.refl _ _) rfl _ 1 (Nat.le_refl _) (by simp [hcr.size,zero_len hT ht]) rfl hcr.one (fun _ _=>zero_len hT ht) (fun i j x hi hx=>?_) (fun _ i j x hi hx=>?_),
   .optr _ _ _ _ _ _ (addO_self _ _ _) (Nat.le_refl _) rfl fun _=>⟨Nat.zero_lt_one,rfl⟩⟩
  ·simp [execOp,hop,Instr.alloc,zeroValue,typeInfo,hinf,hz,newVar,newRow]
  ·have : i = 0 := by simp at hi; exact hi
   subst this
   simpa using hcr.rel j x hx
  ·exact zero_tree ti x (List.mem_of_getElem? hx)
 ·exact hev.elim

theorem make_box (h : HR P base w c hp) (hbase : base ≤ w.heap.size) {t : TypeId} {o : Oper} {x : Operand} {ρ : Operand → AV} {r : Operand → Value} (hop : o.op = .box t x) (hx : VR P w c (ρ x) (r x))
  {v : AV} (hev : (opEv T o ρ hp).gives v hp') (hfree : c.O hp.blocks.length = none) :
  ∃ u w' c',(execOp r o).run P w = .ok (.value u) w' ∧ QOut P base w c hp w' c' hp' ∧ VR P w' c' v u := by
 unfold opEv at hev
 rw [hop] at hev
 simp only at hev
 split at hev
 ·rename_i ti ht
  cases hb : (Nat.beq (ρ x).cells.length ti.size && (ρ x).storable) with
  | false=>rw [hb] at hev; exact hev.elim
  | true =>
   rw [hb] at hev
   simp only [cond_true,forceNr_eq,forceC_eq,forceT_eq] at hev
   obtain ⟨rfl,rfl⟩ := hev
   rw [Bool.and_eq_true] at hb
   have hl := Nat.eq_of_beq_eq_true hb.1
   have hcr := hx.cr hb.2
   refine ⟨_,_,_,?_,new_block h hbase hfree (r x).cells t w (Below.refl _ _) rfl _ 1 (Nat.le_refl _) (by simp [hcr.size,hl]) rfl hcr.one (fun _ _=>hl) (fun i j y hi hy=>?_) (fun hf i j y hi hy=>?_),
    .optr _ _ _ _ _ _ (addO_self _ _ _) (Nat.le_refl _) rfl fun _=>⟨Nat.zero_lt_one,rfl⟩⟩
   ·simp [execOp,hop,Instr.box,newVar,newRow]
   ·have : i = 0 := by simp at hi; exact hi
    subst this
    simpa using hcr.rel j y hy
   ·exact List.all_eq_true.1 hf y (List.mem_of_getElem? hy)
 ·exact hev.elim

theorem pure_build (hT : TOK P T) {t : TypeId} {o : Oper} {ps : Array (Nat × Operand)} {ρ : Operand → AV} {r : Operand → Value} (hop : o.op = .build t ps) (hx : ∀ p ∈ ps.toList,VR P w c (ρ p.2) (r p.2))
  {v : AV} (hev : (opEv T o ρ hp).gives v hp') : hp' = hp ∧ ∃ u,(execOp r o).run P w = .ok (.value u) w ∧ VR P w c v u := by
 have hex : ∀ cells,P.built t (ps.toList.map fun p=>(p.1,r p.2)) = some cells → (execOp r o).run P w = .ok (.value (.agg cells)) w := fun cells hb=>by
  have hpm : (ps.map fun (p : Nat × Operand)=>(p.1,r p.2)).toList = ps.toList.map fun p=>(p.1,r p.2) := by simp
  have := run_build (P := P) w t (ps.map fun p=>(p.1,r p.2)) cells (by rw [hpm]; exact hb)
  unfold execOp
  rw [hop]
  simp only [Sem.run_bind]
  rw [show (Array.map (fun x=>match x with | (i,x)=>(i,r x)) ps) = ps.map fun (p : Nat × Operand)=>(p.1,r p.2) from rfl,this]
  rfl
 have hplaces : ∀ (fs : List Field) (pl : List (Nat × Nat)),placesOf T fs = some pl → fs.mapM (fun f=>(P.info? f.type).map fun i=>(f.offset,i.size)) = some pl := by
  intro fs
  induction fs with
  | nil=>intro pl hp; simp [placesOf] at hp; subst hp; rfl
  | cons f fs ih =>
   intro pl hp
   simp only [placesOf] at hp
   split at hp
   ·rename_i fi l hf hl
    cases hp
    obtain ⟨_,_,_,inf,hinf,hs,_⟩ := hT _ _ hf
    simp [List.mapM_cons,hinf,hs,ih l hl]
   ·cases hp
 unfold opEv at hev
 rw [hop] at hev
 simp only at hev
 split at hev
 ·rename_i ti ht
  obtain ⟨hd,_,_,inf,hinf,hsz,_,hz⟩ := hT _ _ ht
  have hcr := zero_cr (P := P) (w := w) (c := c) hT ht (zero_len hT ht)
  split at hev
  ·rename_i fields hdesc
   split at hev
   ·rename_i pl hpl
    split at hev
    ·rename_i l hl
     obtain ⟨rfl,rfl⟩ := hev
     obtain ⟨vs,g1,g2,_⟩ := fill_ok ps.toList _ _ _ hcr hx hl
     refine ⟨rfl,_,hex vs ?_,g2.agg⟩
     have hfun : (fun i=>pl.toArray[i]?) = nth? pl := by funext i; rw [nth?_eq]; simp
     simp only [Program.built,hinf,hd,hdesc,hz,hplaces _ _ hpl,hfun,g1]
    ·exact hev.elim
   ·exact hev.elim
  ·rename_i n e hdesc
   split at hev
   ·rename_i ei he
    split at hev
    ·rename_i l hl
     obtain ⟨rfl,rfl⟩ := hev
     obtain ⟨_,_,_,inf',hinf',hsz',_⟩ := hT _ _ he
     obtain ⟨vs,g1,g2,_⟩ := fill_ok ps.toList _ _ _ hcr hx hl
     refine ⟨rfl,_,hex vs ?_,g2.agg⟩
     simp only [Program.built,hinf,hd,hdesc,hz,hinf',hsz',g1]
    ·exact hev.elim
   ·exact hev.elim
  ·exact hev.elim
 ·exact hev.elim
end
end Go.Tr

/- Slices and maps made. Conditions: none. -/
namespace Go.Tr
open Go Go.RowKit
variable [GTab]

theorem rep_length (l : List AV) : ∀ n,((List.range n).flatMap fun _=>l).length = n * l.length
 | 0=>by simp
 | n + 1=>by rw [List.range_succ,List.flatMap_append,List.length_append,rep_length l n,Nat.add_mul]; simp

theorem rep_get (l : List AV) : ∀ (n i : Nat),((List.range n).flatMap fun _=>l)[i]? = if i < n * l.length then l[i % l.length]? else none
 | 0,i=>by simp
 | n + 1, i => by
  rw [List.range_succ,List.flatMap_append]
  simp only [List.flatMap_cons,List.flatMap_nil,List.append_nil]
  rw [List.getElem?_append,rep_length,rep_get l n i]
  by_cases h : i < n * l.length
  ·rw [if_pos h,if_pos h,if_pos (by rw [Nat.add_mul]; omega)]
  ·rw [if_neg h]
   by_cases h2 : i < (n + 1) * l.length
   ·rw [if_pos h2]
    rw [Nat.add_mul,Nat.one_mul] at h2
    have hm : i % l.length = i - n * l.length := by
     rw [show i = (i - n * l.length) + n * l.length from by omega,Nat.add_mul_mod_self_right,Nat.mod_eq_of_lt (by omega)]
     omega
    rw [hm]
   ·rw [if_neg h2]
    rw [Nat.add_mul,Nat.one_mul] at h2
    exact List.getElem?_eq_none (by omega)

section
variable {P : Program} {T : Nat → Option TI} {w w' : World} {c c' : Cx} {base : Nat} {hp hp' : Hp}

theorem rep_cr {l : List AV} {vs : Array Value} (h : CR P w c l vs) (hpos : 0 < l.length) (n : Nat) :
  CR P w c ((List.range n).flatMap fun _=>l) ((Array.range (n * l.length)).map (vs[· % vs.size]!)) := by
 refine ⟨by rw [rep_length]; simp,fun v hv=>?_,fun i x hx=>?_⟩
 ·simp at hv
  obtain ⟨i,_,rfl⟩ := hv
  have hlt : i % vs.size < vs.size := Nat.mod_lt _ (by rw [h.size]; exact hpos)
  rw [getElem!_pos vs (i % vs.size) hlt]
  exact h.one _ (by simp)
 ·rw [rep_get] at hx
  split at hx
  ·rename_i hi
   have := h.rel _ x hx
   simp only [Array.getD_eq_getD_getElem?]
   have hlt : i % vs.size < vs.size := Nat.mod_lt _ (by rw [h.size]; exact hpos)
   simp [hi,getElem!_pos vs (i % vs.size) hlt]
   rw [h.size] at hlt
   simpa [h.size,hlt] using this
  ·cases hx

theorem row_rel {l : List AV} {vs : Array Value} (h : CR P w c l vs) (es i j : Nat) (x : AV) (hx : ((l.drop (i * es)).take es)[j]? = some x) : VR P w c x (vs.getD (i * es + j) undef) := by
 have hj : j < es := by have := (List.getElem?_eq_some_iff.1 hx).1; simp at this; omega
 rw [List.getElem?_take,if_pos hj,List.getElem?_drop] at hx
 exact h.rel _ x hx

theorem row_len {l : List AV} {n es : Nat} (h : l.length = n * es) {i : Nat} (hi : i < n) : ((l.drop (i * es)).take es).length = es := by
 have : (i + 1) * es ≤ n * es := Nat.mul_le_mul_right _ hi
 rw [Nat.add_mul,Nat.one_mul] at this
 simp
 omega

theorem make_buildSlice (hT : TOK P T) (h : HR P base w c hp) (hbase : base ≤ w.heap.size) {t : TypeId} {n : Nat} {o : Oper} {ps : Array (Nat × Operand)} {ρ : Operand → AV} {r : Operand → Value} (hop : o.op = .buildSlice t n ps)
  (hx : ∀ p ∈ ps.toList,VR P w c (ρ p.2) (r p.2)) {v : AV} (hev : (opEv T o ρ hp).gives v hp') (hfree : c.O hp.blocks.length = none) :
  ∃ u w' c',(execOp r o).run P w = .ok (.value u) w' ∧ QOut P base w c hp w' c' hp' ∧ VR P w' c' v u := by
 unfold opEv at hev
 rw [hop] at hev
 simp only at hev
 split at hev
 ·rename_i e _ _ _ _ ht
  have hd := (hT _ _ ht).1
  split at hev
  ·rename_i ei he
   obtain ⟨_,_,_,inf,hinf,hsz,_,hz⟩ := hT _ _ he
   split at hev
   ·rename_i l hl
    cases hb : (Nat.ble (n * ei.size) 100000 && Nat.blt 0 ei.size) with
    | false=>rw [hb] at hev; exact hev.elim
    | true =>
     rw [hb] at hev
     simp only [cond_true,forceNr_eq,forceC_eq,forceT_eq] at hev
     obtain ⟨rfl,rfl⟩ := hev
     rw [Bool.and_eq_true] at hb
     have h1 := Nat.le_of_ble_eq_true hb.1
     have hpos : 0 < ei.size := Nat.le_of_ble_eq_true hb.2
     have hzl := zero_len hT he
     have hcr := rep_cr (zero_cr (P := P) (w := w) (c := c) hT he hzl) (by omega) n
     obtain ⟨vs,g1,g2,g3⟩ := fill_ok ps.toList _ _ _ hcr hx hl
     have hll : l.length = n * ei.size := by rw [g3,rep_length,hzl]
     refine ⟨_,_,_,?_,new_block h hbase hfree vs e w (Below.refl _ _) rfl _ n (Nat.le_refl _) (by simp [g2.size,hll]) rfl g2.one (fun i hi=>row_len hll hi) (fun i j x hi hx=>row_rel g2 _ i j x hx) (fun hf i j x hi hx=>?_),
      .oslice _ _ _ _ _ _ _ (addO_self _ _ _) (Nat.le_refl _) rfl fun _=>⟨by simp,some ⟨w.heap.size,0,none⟩,n,rfl,Nat.le_refl _,by simp,by simp,fun _=>by simp,fun cp hcp=>by simpa using hcp⟩⟩
     ·have hpm : (ps.map fun (p : Nat × Operand)=>(p.1,r p.2)).toList = ps.toList.map fun p=>(p.1,r p.2) := by simp
      have hrange : (if n * inf.size = 0 then (#[] : Array Value) else ei.zero.cells) = ei.zero.cells ∨ n * inf.size = 0 := by
       by_cases h0 : n * inf.size = 0
       ·exact .inr h0
       ·exact .inl (if_neg h0)
      have hbig : ¬ (16777216 < n * inf.size) := by rw [hsz]; omega
      unfold execOp
      rw [hop]
      simp only [Sem.run_bind]
      rw [show (Array.map (fun x=>match x with | (i,x)=>(i,r x)) ps) = ps.map fun (p : Nat × Operand)=>(p.1,r p.2) from rfl]
      rw [hsz] at hbig
      by_cases h0 : n * ei.size = 0
      ·have hn : n = 0 := by rcases Nat.mul_eq_zero.1 h0 with h | h <;> omega
       subst hn
       have hr0 : ∀ f : Nat → Value,(Array.range 0).map f = #[] := fun f=>by rw [Array.range_zero',Array.map_empty]
       have g1' : Instr.fill (fun i=>some (i * ei.size,ei.size)) #[] (ps.toList.map fun p=>(p.1,r p.2)) = some vs := by
        rw [Nat.zero_mul,hr0] at g1; exact g1
       simp [Instr.buildSlice,run_underlying hd,sizeOf,typeInfo,hinf,hsz,newRow]
       rw [hr0,g1']
       simp
      ·rw [hzl] at g1
       simp [Instr.buildSlice,run_underlying hd,sizeOf,typeInfo,zeroValue,hinf,hsz,hz,newRow,hbig,h0]
       rw [g1]
       simp
     ·have := List.mem_of_getElem? hx
      exact List.all_eq_true.1 hf x (List.mem_of_mem_drop (List.mem_of_mem_take this))
   ·exact hev.elim
  ·exact hev.elim
 ·exact hev.elim

theorem mul_add_mod' {i n j : Nat} (h : j < n) : (i * n + j) % n = j := by
  rw [Nat.add_comm,Nat.add_mul_mod_self_right,Nat.mod_eq_of_lt h]

theorem make_makeSlice (hT : TOK P T) (h : HR P base w c hp) (hbase : base ≤ w.heap.size) {t : TypeId} {o : Oper} {l m : Operand} {ρ : Operand → AV} {r : Operand → Value} (hop : o.op = .makeSlice t l m)
  (hl : VR P w c (ρ l) (r l)) (hm : VR P w c (ρ m) (r m)) {v : AV} (hev : (opEv T o ρ hp).gives v hp') (hfree : c.O hp.blocks.length = none) :
  ∃ u w' c',(execOp r o).run P w = .ok (.value u) w' ∧ QOut P base w c hp w' c' hp' ∧ VR P w' c' v u := by
 unfold opEv at hev
 rw [hop] at hev
 simp only at hev
 split at hev
 ·rename_i e _ _ _ _ n q ht hln hmn
  have hd := (hT _ _ ht).1
  rw [hln] at hl
  rw [hmn] at hm
  split at hev
  ·rename_i ei he
   obtain ⟨_,_,_,inf,hinf,hsz,hby,hz⟩ := hT _ _ he
   cases hb : Nat.blt 0 ei.size with
   | false=>rw [hb] at hev; exact hev.elim
   | true =>
    rw [hb] at hev
    obtain ⟨⟨h0,h1,h2,h3⟩,rfl,rfl⟩ := hev
    have hpos : 0 < ei.size := Nat.le_of_ble_eq_true hb
    have hzl := zero_len hT he
    have hz0 := zero_cr (P := P) (w := w) (c := c) hT he hzl
    have hcr := rep_cr hz0 (by omega) q.toNat
    have el := hl.val_inv
    have em := hm.val_inv
    have hr := run_make (P := P) w t e inf ei.zero hd hinf hz .i64 .i64 n q h0 h1 (by rw [hby,Int.mul_comm]; omega) (by omega)
    have hmade : madeCells ei.zero.cells (q.toNat * inf.size) = (Array.range (q.toNat * (zeroCells ei).length)).map (ei.zero.cells[· % ei.zero.cells.size]!) := by rw [hzl,hsz]; rfl
    rw [hmade] at hr
    refine ⟨_,_,_,?_,new_block h hbase hfree _ e w (Below.refl _ _) rfl _ q.toNat (by simp; omega) (by rw [hcr.size,rep_length,hzl]; exact Nat.le_refl _) rfl hcr.one (fun i hi=>hzl) (fun i j x hi hx=>?_) (fun _ i j x hi hx=>?_),
     .oslice _ _ _ _ _ _ _ (addO_self _ _ _) (Nat.le_refl _) rfl fun _=>⟨by simp,some ⟨w.heap.size,0,none⟩,q.toNat,rfl,by omega,by simp,by simp; omega,fun _=>by simp,fun cp hcp=>by simpa using hcp⟩⟩
    ·simp [execOp,hop,el,em,hr]
    ·have hi' : i < n.toNat := hi
     have hj0 : j < (zeroCells ei).length := (List.getElem?_eq_some_iff.1 hx).1
     have hj : j < ei.size := by omega
     refine hcr.rel (i * ei.size + j) x ?_
     have hij : i * ei.size + j < q.toNat * ei.size := by
      have : (i + 1) * ei.size ≤ q.toNat * ei.size := Nat.mul_le_mul_right _ (by omega)
      rw [Nat.add_mul,Nat.one_mul] at this
      omega
     rw [rep_get,hzl,if_pos hij,mul_add_mod' hj]
     exact hx
    ·exact zero_tree ei x (List.mem_of_getElem? hx)
  ·exact hev.elim
 ·exact hev.elim
end
end Go.Tr

/- The built-in append, and stores: what is known of a slice's cells; the two ways of append. Conditions: none. -/
namespace Go.Tr
open Go Go.RowKit
variable [GTab]

section
variable {P : Program} {T : Nat → Option TI} {w w' : World} {c c' : Cx} {base : Nat} {hp hp' : Hp}

structure Elems (P : Program) (w : World) (c : Cx) (es m : Nat) (fx : Nat → List AV) (fl : Bool) (u : Value) (news : Array Value) : Prop where
 sl : ∃ a k,u = .slice a m k ∧ m ≤ k
 run : ∀ w',w'.heap = w.heap → (Builtin.firstCells es m u).run P w' = .ok news w'
 size : news.size = m * es
 one : ∀ v ∈ news.toList,v.oneCell' = true
 len : ∀ i,i < m → (fx i).length = es
 rel : ∀ (i j : Nat) (y : AV),i < m → (fx i)[j]? = some y → VR P w c y (news.getD (i * es + j) undef) ∧ (fl = true → VT P w c.p y (news.getD (i * es + j) undef))

theorem div_mod_lt {k m es : Nat} (h : k < m * es) : k / es < m ∧ k % es < es := by
 have hes : 0 < es := by rcases Nat.eq_zero_or_pos es with h0 | h0 <;> simp_all
 exact ⟨Nat.div_lt_of_lt_mul (by rwa [Nat.mul_comm]),Nat.mod_lt _ hes⟩

theorem cell_heap {w w' : World} (h : w'.heap = w.heap) (a : Addr) : w'.cell? a = w.cell? a := by simp [World.cell?,h]

theorem elems_ok (h : HR P base w c hp) {es m : Nat} {fx : Nat → List AV} {x : AV} {u : Value} (hx : VR P w c x u) (he : elemsOf hp es x = some (m,fx)) : ∃ news,Elems P w c es m fx (flatOf hp x) u news := by
 have none0 : ∀ (fx : Nat → List AV) (fl : Bool) (a : Option Addr) (k : Nat),Elems P w c es 0 fx fl (.slice a 0 k) #[] := fun fx fl a k =>
  ⟨⟨a,k,rfl,Nat.zero_le _⟩,fun w' _=>by cases a <;> simp [Builtin.firstCells,loadCells,loadCellsFrom],by simp,by simp,by intro i hi; omega,by intro i j y hi; omega⟩
 cases x with
 | eslice =>
  simp [elemsOf] at he
  obtain ⟨rfl,rfl⟩ := he
  cases hx with
  | tree hx=>cases hx; exact ⟨_,none0 _ _ _ _⟩
 | rslice es' len f =>
  simp only [elemsOf] at he
  cases hb : Nat.beq es' es with
  | false=>rw [hb] at he; cases he
  | true =>
   rw [hb] at he
   simp at he
   obtain ⟨rfl,rfl⟩ := he
   have := Nat.eq_of_beq_eq_true hb
   subst this
   cases hx with
   | tree hx =>
    cases hx with
    | rslice0=>exact ⟨_,none0 _ _ _ _⟩
    | rslice _ _ _ b off k g hk hpb hl hcell hrel =>
     have hget : ∀ j,j < len * es' → w.cell? ⟨b,off + j,none⟩ = some (g (j / es') (j % es')) ∧ (g (j / es') (j % es')).oneCell' = true := fun j hj=>by
      obtain ⟨h1,h2⟩ := div_mod_lt hj
      have := hcell (j / es') (j % es') h1 h2
      rwa [show j / es' * es' + j % es' = j from by rw [Nat.mul_comm]; exact Nat.div_add_mod j es'] at this
     refine ⟨((List.range (len * es')).map fun j=>g (j / es') (j % es')).toArray,⟨_,_,rfl,hk⟩,fun w' hw'=>?_,by simp,fun v hv=>?_,hl,fun i j y hi hy=>?_⟩
     ·exact run_loadCells w' ⟨b,off,none⟩ (len * es') _ fun j hj=>by rw [addr_add,cell_heap hw']; exact (hget j hj).1
     ·simp at hv
      obtain ⟨j,hj,rfl⟩ := hv
      exact (hget j hj).2
     ·have hj : j < es' := by rw [← hl i hi]; exact (List.getElem?_eq_some_iff.1 hy).1
      have hij : i * es' + j < len * es' := by
       have : (i + 1) * es' ≤ len * es' := Nat.mul_le_mul_right _ hi
       rw [Nat.add_mul,Nat.one_mul] at this
       omega
      have hd : (i * es' + j) / es' = i := by
       rw [Nat.add_comm,Nat.add_mul_div_right _ _ (by omega),Nat.div_eq_of_lt hj,Nat.zero_add]
      have hm := mul_add_mod' (i := i) hj
      have hv : (((List.range (len * es')).map fun j=>g (j / es') (j % es')).toArray).getD (i * es' + j) undef = g i j := by
       simp [hij,hd,hm]
      rw [hv]
      exact ⟨.tree (hrel i j y hi hy),fun _=>hrel i j y hi hy⟩
 | oslice b ver off len cap =>
  simp only [elemsOf,shiftF_eq] at he
  split at he
  ·rename_i k hk
   cases hb : Nat.beq k.es es with
   | false=>rw [hb] at he; cases he
   | true =>
    rw [hb] at he
    simp at he
    obtain ⟨rfl,rfl⟩ := he
    have hes := Nat.eq_of_beq_eq_true hb
    obtain ⟨hkb,hkv⟩ := block_some hk
    obtain ⟨oi,hO,hle,_,hv'⟩ := hx.oslice_inv
    have hB := h.blk b k oi hkb hO
    obtain ⟨hn1,a,k1,hu,hk1,hk2,hkn,hk3,_⟩ := hv' (by rw [hB.ver,hkv])
    have hfl : flatOf hp (.oslice b ver off len cap) = k.flat := by simp [flatOf,hk]
    rw [hfl,hu]
    by_cases h0 : len = 0
    ·subst h0; exact ⟨_,none0 _ _ _ _⟩
    ·have hk0 : k1 ≠ 0 := by omega
     rw [hk3 hk0]
     have hcap : oi.cap ≠ 0 := by omega
     obtain ⟨cs,t,hrow,hsz,hone⟩ := hB.row hcap
     have hoes : oi.es = es := by rw [hB.es,hes]
     have hget : ∀ j,j < len * es → oi.lo + off * es + j < cs.size := fun j hj=>by
      have : (off + len) * es ≤ oi.cap * es := Nat.mul_le_mul_right _ (by have := hB.le; omega)
      rw [Nat.add_mul] at this
      rw [hoes] at hsz
      omega
     refine ⟨((List.range (len * es)).map fun j=>cs.getD (oi.lo + off * es + j) undef).toArray,⟨_,_,rfl,hk1⟩,fun w' hw'=>?_,by simp,fun v hv=>?_,fun i hi=>?_,fun i j y hi hy=>?_⟩
     ·refine run_loadCells w' _ (len * es) _ fun j hj=>?_
      rw [addr_add,cell_heap hw',hoes]
      simp [World.cell?,hrow,hget j hj]
     ·simp at hv
      obtain ⟨j,hj,rfl⟩ := hv
      rw [Array.getElem?_eq_getElem (hget j hj)]
      exact hone _ (by simp)
     ·rw [← hes]; exact hB.el _ (by have := hB.n; omega)
     ·have hlen : off + i < k.len := by have := hB.n; omega
      obtain ⟨v,g1,g2,g3,g4⟩ := hB.cell hlen hy
      have hj : j < es := by rw [← hes,← hB.el _ hlen]; exact (List.getElem?_eq_some_iff.1 hy).1
      have hij : i * es + j < len * es := by
       have : (i + 1) * es ≤ len * es := Nat.mul_le_mul_right _ hi
       rw [Nat.add_mul,Nat.one_mul] at this
       omega
      have hv : (((List.range (len * es)).map fun j=>cs.getD (oi.lo + off * es + j) undef).toArray).getD (i * es + j) undef = v := by
       have e1 : oi.lo + ((off + i) * oi.es + j) = oi.lo + off * es + (i * es + j) := by rw [hoes,Nat.add_mul]; omega
       rw [e1] at g1
       simp only [World.cell?,hrow] at g1
       simp at g1
       simp [hij,g1]
      rw [hv]
      exact ⟨g3,g4⟩
  ·cases he
 | top=>simp [elemsOf] at he
 | val=>simp [elemsOf] at he
 | agg=>simp [elemsOf] at he
 | tuple=>simp [elemsOf] at he
 | func=>simp [elemsOf] at he
 | rptr=>simp [elemsOf] at he
 | optr=>simp [elemsOf] at he
 | omap=>simp [elemsOf] at he
 | yld=>simp [elemsOf] at he
 | oiter=>simp [elemsOf] at he
 | err=>simp [elemsOf] at he
 | aslice b ver idx sub es' len =>
  simp only [elemsOf] at he
  split at he
  ·rename_i k hk
   cases hb : Nat.beq es' es with
   | false=>rw [hb] at he; cases he
   | true =>
    rw [hb] at he
    simp at he
    obtain ⟨rfl,rfl⟩ := he
    have hes := Nat.eq_of_beq_eq_true hb
    subst hes
    obtain ⟨hkb,hkv⟩ := block_some hk
    obtain ⟨oi,hO,hle,_,hv'⟩ := hx.aslice_inv
    have hB := h.blk b k oi hkb hO
    obtain ⟨hidx,hsz',hu⟩ := hv' (by rw [hB.ver,hkv])
    have hfl : flatOf hp (.aslice b ver idx sub es' len) = k.flat := by simp [flatOf,hk]
    rw [hfl,hu]
    have hcap : oi.cap ≠ 0 := by have := hB.le; omega
    have hidx' : idx < k.len := by rw [← hB.n]; exact hidx
    obtain ⟨cs,t,hrow,hsz,hone⟩ := hB.row hcap
    have hel := hB.el idx hidx'
    have hoes := hB.es
    have hbase : ∀ j,j < len * es' → idx * oi.es + sub + j < oi.cap * oi.es := fun j hj=>by
     have h1 : (idx + 1) * oi.es ≤ oi.cap * oi.es := Nat.mul_le_mul_right _ (by have := hB.le; omega)
     rw [Nat.add_mul,Nat.one_mul] at h1
     omega
    have hget : ∀ j,j < len * es' → oi.lo + (idx * oi.es + sub) + j < cs.size := fun j hj=>by
     have := hbase j hj; omega
    refine ⟨((List.range (len * es')).map fun j=>cs.getD (oi.lo + (idx * oi.es + sub) + j) undef).toArray,⟨_,_,rfl,Nat.le_refl _⟩,fun w' hw'=>?_,by simp,fun v hv=>?_,fun i hi=>?_,fun i j y hi hy=>?_⟩
    ·refine run_loadCells w' _ (len * es') _ fun j hj=>?_
     rw [addr_add,cell_heap hw']
     simp [World.cell?,hrow,hget j hj]
    ·simp at hv
     obtain ⟨j,hj,rfl⟩ := hv
     rw [Array.getElem?_eq_getElem (hget j hj)]
     exact hone _ (by simp)
    ·rw [List.length_take,List.length_drop,hel,← hoes]
     have : (i + 1) * es' ≤ len * es' := Nat.mul_le_mul_right _ hi
     rw [Nat.add_mul,Nat.one_mul] at this
     omega
    ·have hj : j < es' := by have := (List.getElem?_eq_some_iff.1 hy).1; simp at this; omega
     rw [List.getElem?_take,if_pos hj,getElem?_drop'] at hy
     obtain ⟨v,g1,g2,g3,g4⟩ := hB.cell hidx' hy
     have hij : i * es' + j < len * es' := by
      have : (i + 1) * es' ≤ len * es' := Nat.mul_le_mul_right _ hi
      rw [Nat.add_mul,Nat.one_mul] at this
      omega
     have hv : (((List.range (len * es')).map fun j=>cs.getD (oi.lo + (idx * oi.es + sub) + j) undef).toArray).getD (i * es' + j) undef = v := by
      have e1 : oi.lo + (idx * oi.es + (sub + i * es' + j)) = oi.lo + (idx * oi.es + sub) + (i * es' + j) := by omega
      rw [e1] at g1
      simp only [World.cell?,hrow] at g1
      simp at g1
      simp [hij,g1]
     rw [hv]
     exact ⟨g3,g4⟩
  ·cases he
 | cslice es' len cc f =>
  simp only [elemsOf] at he
  cases hb : Nat.beq es' es with
  | false=>rw [hb] at he; cases he
  | true =>
   rw [hb] at he
   simp at he
   obtain ⟨rfl,rfl⟩ := he
   have := Nat.eq_of_beq_eq_true hb
   subst this
   cases hx with
   | tree hx =>
    cases hx with
    | cslice0=>exact ⟨_,none0 _ _ _ _⟩
    | cslice _ _ _ _ b off g hk hpb hl hcell hrel =>
     have hget : ∀ j,j < len * es' → w.cell? ⟨b,off + j,none⟩ = some (g (j / es') (j % es')) ∧ (g (j / es') (j % es')).oneCell' = true := fun j hj=>by
      obtain ⟨h1,h2⟩ := div_mod_lt hj
      have := hcell (j / es') (j % es') h1 h2
      rwa [show j / es' * es' + j % es' = j from by rw [Nat.mul_comm]; exact Nat.div_add_mod j es'] at this
     refine ⟨((List.range (len * es')).map fun j=>g (j / es') (j % es')).toArray,⟨_,_,rfl,hk⟩,fun w' hw'=>?_,by simp,fun v hv=>?_,hl,fun i j y hi hy=>?_⟩
     ·exact run_loadCells w' ⟨b,off,none⟩ (len * es') _ fun j hj=>by rw [addr_add,cell_heap hw']; exact (hget j hj).1
     ·simp at hv
      obtain ⟨j,hj,rfl⟩ := hv
      exact (hget j hj).2
     ·have hj : j < es' := by rw [← hl i hi]; exact (List.getElem?_eq_some_iff.1 hy).1
      have hij : i * es' + j < len * es' := by
       have : (i + 1) * es' ≤ len * es' := Nat.mul_le_mul_right _ hi
       rw [Nat.add_mul,Nat.one_mul] at this
       omega
      have hd : (i * es' + j) / es' = i := by
       rw [Nat.add_comm,Nat.add_mul_div_right _ _ (by omega),Nat.div_eq_of_lt hj,Nat.zero_add]
      have hm := mul_add_mod' (i := i) hj
      have hv : (((List.range (len * es')).map fun j=>g (j / es') (j % es')).toArray).getD (i * es' + j) undef = g i j := by
       simp [hij,hd,hm]
      rw [hv]
      exact ⟨.tree (hrel i j y hi hy),fun _=>hrel i j y hi hy⟩
 | rmap=>simp [elemsOf] at he
end
end Go.Tr

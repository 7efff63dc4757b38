/- Regions that draw their order, the proof: a step and the end. Conditions: the program's rules take any order. -/
import Derived.Test.YtinfmponjglalaaGreatDoorTr05
set_option linter.unusedSectionVars false
set_option linter.unnecessarySimpa false
set_option linter.unusedVariables false
set_option linter.unusedSimpArgs false

namespace Go.Tr
open Go Go.RowKit

variable [GTab]

theorem mem_tmpsOf : ∀ {l : List Operand} {t : Tmp},.tmp t ∈ l → t ∈ tmpsOf l
 | .tmp t' :: r,t,h=>by
  rcases List.mem_cons.1 h with e | h
  ·cases e; exact .head _
  ·exact .tail _ (mem_tmpsOf h)
 | .const _ :: r,t,h=>by
  rcases List.mem_cons.1 h with e | h
  ·cases e
  ·exact mem_tmpsOf (l := r) h
 | .func _ :: r,t,h=>by
  rcases List.mem_cons.1 h with e | h
  ·cases e
  ·exact mem_tmpsOf (l := r) h
 | .global _ :: r,t,h=>by
  rcases List.mem_cons.1 h with e | h
  ·cases e
  ·exact mem_tmpsOf (l := r) h

theorem reads_op {ops : Array Oper} {o : Oper} {t : Tmp} (h : .tmp t ∈ o.op.operands) : t ∈ readsOf ops o :=
  List.mem_append_left _ (mem_tmpsOf (by simpa using h))
theorem reads_guard {ops : Array Oper} {o : Oper} {t : Tmp} {j : Nat} {b : Bool} (hg : o.guard = some (j,b)) (ht : (nth? ops.toList j).bind (·.dst) = some t) : t ∈ readsOf ops o := by
 unfold readsOf
 rw [hg]
 refine List.mem_append_right _ ?_
 simp only
 rw [ht]
 exact .head _

theorem guard_val {P : Program} {w : World} {c : Cx} {ops : Array Oper} {a : Act} {o : Oper} {j : Nat} {want : Bool} (hg : o.guard = some (j,want)) {t : Tmp} (ht : (nth? ops.toList j).bind (·.dst) = some t) {b : Bool}
  (hv : VR P w c (.val (.bool b)) (a.tmps.getD t undef)) : Region.wanted o (yielded ops a.tmps) = (b == want) := by
 rw [nth?_eq] at ht
 have ht' : (ops[j]?).bind (·.dst) = some t := by simpa using ht
 have hv := hv.val_inv
 have hs : a.tmps[t]? = some (.bool b) := by
  cases hq : a.tmps[t]? with
  | none=>simp [hq,undef] at hv
  | some u=>simp [hq] at hv; rw [hv]
 unfold Region.wanted
 rw [hg]
 simp [yielded,ht',hs]

theorem guard_not {P : Program} {w : World} {c : Cx} {ops : Array Oper} {a : Act} {o : Oper} {j : Nat} {want : Bool} (hg : o.guard = some (j,want)) {t : Tmp} (ht : (nth? ops.toList j).bind (·.dst) = some t) {v : Value} (hne : v ≠ .bool want)
  (hv : VR P w c (.val v) (a.tmps.getD t undef)) : Region.wanted o (yielded ops a.tmps) = false := by
 rw [nth?_eq] at ht
 have ht' : (ops[j]?).bind (·.dst) = some t := by simpa using ht
 have hv := hv.val_inv
 unfold Region.wanted
 rw [hg]
 simp only [yielded,ht',Option.bind_some]
 cases hq : a.tmps[t]? with
 | none=>rfl
 | some u =>
  have : u = v := by simpa [hq] using hv
  subst this
  cases u with
  | bool b =>
   have : b ≠ want := fun e=>hne (by rw [e])
   cases b <;> cases want <;> first | rfl | exact absurd rfl this
  | _=>rfl

theorem Kind.nodefer {P : Program} {T : Nat → Option TI} {o : Oper} {ρ : Operand → AV} {h h' : Hp} {v : AV} (hk : Kind P T o ρ h v h') : ∀ c,o.op ≠ .defer c := fun c hc=>by
 cases hk with
 | op v h' hev=>unfold opEv at hev; rw [hc] at hev; exact hev
 | own g as bs ms f args ts r hev hop hS=>rw [hop] at hc; cases hc
 | shared g as bs ms f args ts r hev hop hS=>rw [hop] at hc; cases hc

section
variable {gl : List (Nat × Nat)} {P : Program} {T : Nat → Option TI} {F : Fr} {sv0 : List (Nat × AV)} {ops : Array Oper} {zs : Nat → Z} {w0 w : World} {q : Nat → Prop} {listed : Array Bool} {m : Nat} {a : Act} {c : Cx}
variable (hs : ∀ (k : Nat) o,ops[k]? = some o → Step P T F.n ops (gateSt gl ops k) o (zs k) (zs (k + 1)))
variable (hp : ∀ (i j : Nat) x y,ops[i]? = some x → ops[j]? = some y → i < j → pairOk gl ops (befores ops.toList []) i j x y = true)

include hs hp in
theorem DI.put (h : DI P ops zs F sv0 w0 q listed m a w c) {i : Nat} {o : Oper} (ho : ops[i]? = some o) (hni : ¬ In listed i) (hbef : ∀ j, isBefore (befores ops.toList []) j i = true → In listed j) (haft : ∀ j, In listed j → ¬ isBefore (befores ops.toList []) i j = true)
    {v : AV} {u : Value} {w' : World} {c' : Cx} {m' : Nat} (hlk : (zs (i + 1)).lk = upd (zs i).lk o.dst v) (hu : VR P w' c' v u) (hd : slotOk F.n o.dst = true ∨ (v = .val undef ∧ u = undef)) (hyE : c'.y = c.y) (hr : HR P w0.heap.size w' c' (zs m').hp) (ro : RO c' (zs m').hp) (e : Ext w0.heap.size w c w' c')
    (dom : ∀ b oi,c'.O b = some oi → (∃ oi',c.O b = some oi') ∨ ((zs i).hp.blocks.length ≤ b ∧ b < (zs (i + 1)).hp.blocks.length))
    (domN : ∀ b r,c'.N b = some r → (∃ r',c.N b = some r') ∨ ((zs i).hp.maps.length ≤ b ∧ b < (zs (i + 1)).hp.maps.length))
    (pq : ∀ b,c'.p b → q b ∨ w0.heap.size ≤ b) (hm : (m' = m ∧ i ≠ m) ∨ (i = m ∧ m < m' ∧ m' ≤ ops.size ∧ (∀ k,m + 1 ≤ k → k < m' → effAt ops k = false) ∧ (m' = ops.size ∨ effAt ops m' = true))) :
    DI P ops zs F sv0 w0 q (listed.setIfInBounds i true) m' (a.put o.dst u) w' c' := by
  have hil : i < listed.size := by rw [h.size]; exact (Array.getElem?_eq_some_iff.1 ho).1
  have hio : i < ops.size := (Array.getElem?_eq_some_iff.1 ho).1
  have inset : ∀ j,In (listed.setIfInBounds i true) j ↔ (j = i ∨ In listed j) := fun j=>In_set hil
  refine ⟨by simp [h.size],hr,ro,fun b oi hb=>?_,fun b r hb=>?_,fun t k hk c1 c2=>?_,?_,?_,h.below.trans e.below,pq,fun i' j hj hb=>?_,?_,fun j hj he=>?_,?_⟩
  · rcases dom b oi hb with ⟨oi',g⟩ | g
    · rcases h.dom b oi' g with g | ⟨j,hj,g⟩
      · exact .inl g
      · exact .inr ⟨j,(inset j).2 (.inr hj),g⟩
    · exact .inr ⟨i,(inset i).2 (.inl rfl),g⟩
  · rcases domN b r hb with ⟨oi',g⟩ | g
    · rcases h.domN b oi' g with g | ⟨j,hj,g⟩
      · exact .inl g
      · exact .inr ⟨j,(inset j).2 (.inr hj),g⟩
    · exact .inr ⟨i,(inset i).2 (.inl rfl),g⟩
  · by_cases hdt : o.dst = some t
    · have hik : i < k := by
        rcases Nat.lt_or_ge i k with g | g
        · exact g
        · exact absurd ((inset i).2 (.inl rfl)) (c2 i g ⟨o,ho,hdt⟩)
      have hc : (zs k).lk t = (zs (i + 1)).lk t := z_lk hs hik hk fun j h1 h2 hw=>by
        obtain ⟨x,hx,hxt⟩ := hw
        have hin := (inset j).1 (c1 j h2 ⟨x,hx,hxt⟩)
        rcases hin with e | hin
        · omega
        · exact haft j hin (pair_rw hp ho hx (by omega) (.inr (.inr ⟨hdt,hxt⟩)))
      rw [hc,hlk]
      simp only [upd]
      rw [if_pos hdt]
      rcases hd with hd | hd
      · have hlt : t < a.tmps.size := by rw [h.tsize]; rw [hdt] at hd; exact Nat.le_of_ble_eq_true hd
        rw [hdt]
        simpa [Act.put,hlt] using hu
      · rw [hd.1,hd.2,hdt]
        have e : (a.put (some t) undef).tmps.getD t undef = undef := by
          by_cases hlt : t < a.tmps.size
          · simp [Act.put,hlt]
          · simp [Act.put]
        rw [e]
        exact .tree (.val _)
    · have hold := h.tm t k hk (fun j hj hw=>by
          rcases (inset j).1 (c1 j hj hw) with e | g
          · subst e
            obtain ⟨x,hx,hxt⟩ := hw
            rw [ho] at hx
            cases hx
            exact absurd hxt hdt
          · exact g) (fun j hj hw hin=>c2 j hj hw ((inset j).2 (.inr hin)))
      have := hold.mono e
      have e2 : (a.put o.dst u).tmps.getD t undef = a.tmps.getD t undef := by
        cases hdd : o.dst with
        | none=>rfl
        | some d =>
          have hne : d ≠ t := fun e=>hdt (by rw [hdd,e])
          simp [Act.put,Array.getElem?_setIfInBounds_ne hne]
      rw [e2]
      exact this
  · cases o.dst <;> simp [Act.put,h.tsize]
  · exact h.side.moved e hyE (by cases o.dst <;> rfl)
  · rcases (inset j).1 hj with e | g
    · subst e; exact (inset i').2 (.inr (hbef i' hb))
    · exact (inset i').2 (.inr (h.closed i' j g hb))
  · rcases hm with ⟨e1,_⟩ | ⟨_,_,g,_⟩
    · rw [e1]; exact h.m1
    · exact g
  · rcases hm with ⟨e1,_⟩ | ⟨e1,e2,e3,e4,e5⟩
    · rw [e1] at hj; exact (inset j).2 (.inr (h.m2 j hj he))
    · rcases Nat.lt_or_ge j m with g | g
      · exact (inset j).2 (.inr (h.m2 j g he))
      · rcases Nat.eq_or_lt_of_le g with g | g
        · exact (inset j).2 (.inl (by omega))
        · rw [e4 j g hj] at he; cases he
  · rcases hm with ⟨e1,e2⟩ | ⟨e1,e2,e3,e4,e5⟩
    · rw [e1]
      rcases h.m3 with g | ⟨g1,g2⟩
      · exact .inl g
      · exact .inr ⟨g1,fun hin=>by rcases (inset m).1 hin with g | g; exact e2 g.symm; exact g2 g⟩
    · rcases e5 with g | g
      · exact .inl g
      · by_cases hmo : m' = ops.size
        · exact .inl hmo
        · right
          refine ⟨g,fun hin=>?_⟩
          have hx : ops[m']? = some ops[m'] := by simp
          rcases (inset m').1 hin with g' | g'
          · omega
          · have := h.early hp hx g' (eff_impure (by rw [← eff_at hx]; exact g)) (eff_hard (by rw [← eff_at hx]; exact g)) (eff_noread (by rw [← eff_at hx]; exact g)); omega

theorem VR_block {P : Program} {w : World} {c : Cx} {x : AV} {v : Value} (h : VR P w c x v) {bi : Nat} (hb : blockOf x = some bi) : ∃ oi,c.O bi = some oi := by
 cases h with
 | tree hv=>cases hv <;> cases hb
 | optr b ver idx sub v oi hO=>cases hb; exact ⟨_,hO⟩
 | oslice b ver off len cap v oi hO=>cases hb; exact ⟨_,hO⟩
 | aslice b ver idx sub es len v oi hO=>cases hb; exact ⟨_,hO⟩
 | _=>cases hb
include hs in
theorem z_slot {t : Operand} {a b : Nat} (h : slotKept ops t a b = true) (h1 : a ≤ b) (h2 : b ≤ ops.size) : evL (zs b).lk t = evL (zs a).lk t := by
 cases t with
 | tmp t =>
  refine z_lk hs h1 h2 fun k' c1 c2 hw=>?_
  obtain ⟨z,hz',hzt⟩ := hw
  unfold slotKept at h
  have := List.all_eq_true.1 h k' (List.mem_range.2 (Array.getElem?_eq_some_iff.1 hz').1)
  rw [nth?_eq,Array.getElem?_toList,hz'] at this
  have q1 : Nat.ble a k' = true := by rw [Nat.ble_eq]; exact c1
  have q2 : Nat.blt k' b = true := by rw [Nat.blt_eq]; exact c2
  simp [q1,q2,hzt] at this
 | const _=>rfl
 | global _=>rfl
 | func _=>rfl
include hs in
theorem z_target {k : Nat} {y : Oper} {t0 : Operand} (hy : ops[k]? = some y) (e2 : effTarget y = some t0) : HpLe (zs k).hp (zs (k + 1)).hp ∨ ∃ b k',blockOf (evL (zs k).lk t0) = some b ∧ (zs (k + 1)).hp = (zs k).hp.setB b k' := by
 have hstep := hs _ _ hy
 generalize zs (k + 1) = zn at hstep
 cases hstep with
 | skip=>exact .inl (.refl _)
 | run v2 h2' _ _ h3 hk2 =>
  cases hie : isEff y (evL (zs k).lk) with
  | false=>exact .inl (hk2.le hie)
  | true=>exact .inr (hk2.target hie e2)
include hs in
theorem z_gate {k : Nat} {y : Oper} (hy : ops[k]? = some y) (hn : ¬ HpLe (zs k).hp (zs (k + 1)).hp) : ∃ b,gateSt gl ops k (evL (zs k).lk) = some b ∧ True := by
 have hstep := hs _ _ hy
 generalize zs (k + 1) = zn at hstep hn
 cases hstep with
 | skip=>exact absurd (.refl _) hn
 | run v2 h2' _ _ h3 hk2 =>
  obtain ⟨b,g1,g2⟩ := h3
  exact ⟨b,g1,trivial⟩
theorem peekBase_mem {o : Oper} {b : Operand} (h : peekBase o = some b) : b ∈ o.op.operands := by
 unfold peekBase readBase softBase at h
 unfold Op.operands
 split at h
 ·rename_i b' hb'
  cases h
  split at hb'
  ·rename_i t a hop; cases hb'; rw [hop]; simp
  ·rename_i t x lo hi hop; cases hb'; rw [hop]; simp
  ·rename_i args ts hop; rw [hop]; rw [nth?_eq] at hb'; have := Array.mem_of_getElem? (xs := args) (i := 0) (by simpa using hb'); simp [Call.operands,this]
  ·cases hb'
 ·split at h
  ·rename_i t a hop; cases h; rw [hop]; simp
  ·rename_i t x lo hop; cases h; rw [hop]; simp
  ·cases h
theorem readBase_mem {o : Oper} {b : Operand} (h : readBase o = some b) : b ∈ o.op.operands := by
 unfold readBase at h
 unfold Op.operands
 split at h
 ·rename_i t a hop; cases h; rw [hop]; simp
 ·rename_i t x lo hi hop; cases h; rw [hop]; simp
 ·rename_i args ts hop; rw [hop]; rw [nth?_eq] at h; have := Array.mem_of_getElem? (xs := args) (i := 0) (by simpa using h); simp [Call.operands,this]
 ·cases h

include hs hp in
theorem di_step (hT : TOK P T) (h : DI P ops zs F sv0 w0 q listed m a w c) {i : Nat} (hi : i ∈ Region.ready .any ops listed) {Q : Exit → Act → World → Prop} {K : Act → World → Prop}
  (hK : ∀ a' w' c' m',DI P ops zs F sv0 w0 q (listed.setIfInBounds i true) m' a' w' c' → K a' w') : wpOpIn (FR F.r) 0 P ops Q i K a w := by
 obtain ⟨hun,o,ho,hedge⟩ := mem_ready.1 hi
 have hio : i < ops.size := (Array.getElem?_eq_some_iff.1 ho).1
 have hil : i < listed.size := by rw [h.size]; exact hio
 have hni : ¬ In listed i := fun g=>by unfold In at g; simp [hil] at g hun; rw [g] at hun; cases hun
 have hbef : ∀ j,isBefore (befores ops.toList []) j i = true → In listed j := fun j hb=>by
  obtain ⟨e,he,hbi,g⟩ := before_inv ho hb
  have hin : In listed e.on := hedge e he hbi
  rcases g with g | g
  ·rw [g]; exact hin
  ·exact h.closed j e.on hin g
 have haft : ∀ j,In listed j → ¬ isBefore (befores ops.toList []) i j = true := fun j hj hb=>hni (h.closed i j hj hb)
 have hrd : ∀ t ∈ readsOf ops o,VR P w c ((zs i).lk t) (a.tmps.getD t undef) := fun t ht=>by
  refine h.tm t i (Nat.le_of_lt hio) (fun j hj hw=>?_) (fun j hj hw hin=>?_)
  ·obtain ⟨x,hx,hxt⟩ := hw
   exact hbef j (pair_rw hp hx ho hj (.inl ⟨hxt,ht⟩))
  ·rcases Nat.eq_or_lt_of_le hj with e | e
   ·subst e; exact hni hin
   ·obtain ⟨x,hx,hxt⟩ := hw
    exact haft j hin (pair_rw hp ho hx e (.inr (.inl ⟨hxt,ht⟩)))
 have hρ : ∀ x ∈ o.op.operands,VR P w c (evL (zs i).lk x) (a.eval x) := fun x hx=>by
  cases x with
  | tmp t=>exact hrd t (reads_op hx)
  | const v=>exact .tree (constAV_ok v)
  | global g =>
   show VR P w c (gAV g) _
   unfold gAV
   split
   ·rename_i l hl
    exact .tree (h.side.gok.g g l hl).1
   ·exact .tree (.top _)
  | func f=>exact .tree (.func _ _ _ #[] #[] rfl rfl (by simp))
 have hbase : w0.heap.size ≤ w.heap.size := h.below.size
 obtain ⟨hrange,hrangeM⟩ := h.range hs hp
 -- the next place of writing
 obtain ⟨m2,n1,n2,n3,n4⟩ : ∃ m2,(i = m → m < m2 ∧ m2 ≤ ops.size) ∧ True ∧ (∀ k,m + 1 ≤ k → k < m2 → effAt ops k = false) ∧ (i = m → m2 = ops.size ∨ effAt ops m2 = true) := by
  by_cases him : i = m
  ·obtain ⟨m2,g1,g2,g3,g4⟩ := next_eff (ops := ops) _ (m + 1) rfl (by omega)
   exact ⟨m2,fun _=>⟨g1,g2⟩,trivial,g3,fun _=>g4⟩
  ·exact ⟨0,fun e=>absurd e him,trivial,fun k h1 h2=>by omega,fun e=>absurd e him⟩
 have step := hs i o ho
 have pqq : ∀ {w' : World} {c' : Cx} {x x' : Hp},QOut P w0.heap.size w c x w' c' x' → ∀ b,c'.p b → q b ∨ w0.heap.size ≤ b := fun hq b hb=>by
  rcases hq.pN b hb with g | g | ⟨i,oi,g1,g2,g3⟩ | ⟨i,g⟩
  ·exact h.pq b g
  ·exact .inr (by omega)
  ·have := h.hr.own i oi g1 g2; exact .inr (by omega)
  ·have := h.hr.mown i b g; exact .inr (by omega)
 unfold wpOpIn
 simp only [ho]
 generalize hz : zs (i + 1) = z' at step
 cases step with
 | skip j t want v hg ht hl hne =>
  have hw : Region.wanted o (yielded ops a.tmps) = false := by
   have hv := hrd t (reads_guard hg ht)
   rw [hl] at hv
   exact guard_not hg ht hne hv
  rw [hw]
  simp only [Bool.false_eq_true,if_false]
  refine ⟨fun _ _=>trivial,?_⟩
  by_cases him : i = m
  ·have hzm : (zs (m + 1)).hp = (zs m).hp := by rw [← him,hz]
   have e := z_le hs (show m + 1 ≤ m2 from (n1 him).1) (n1 him).2 n3
   rw [hzm] at e
   exact hK _ _ c m2 (h.put hs hp ho hni hbef haft (v := .val undef) (by rw [hz]) (.tree (.val _)) (.inr ⟨rfl,rfl⟩) rfl (h.hr.grow hrange hrangeM e) (h.ro.grow e) (.refl _ _ _) (fun b oi hb=>.inl ⟨oi,hb⟩) (fun b r hb=>.inl ⟨r,hb⟩) h.pq
    (.inr ⟨him,(n1 him).1,(n1 him).2,n3,n4 him⟩))
  ·exact hK _ _ c m (h.put hs hp ho hni hbef haft (v := .val undef) (by rw [hz]) (.tree (.val _)) (.inr ⟨rfl,rfl⟩) rfl h.hr h.ro (.refl _ _ _) (fun b oi hb=>.inl ⟨oi,hb⟩) (fun b r hb=>.inl ⟨r,hb⟩) h.pq (.inl ⟨rfl,him⟩))
 | run v h' hg hslot hst hk =>
  have hw : Region.wanted o (yielded ops a.tmps) = true := by
   rcases hg with hg | ⟨j,t,b,hg,ht,hl⟩
   ·unfold Region.wanted; rw [hg]
   ·have hv := hrd t (reads_guard hg ht)
    rw [hl] at hv
    rw [guard_val hg ht hv]
    cases b <;> rfl
  rw [hw]
  simp only [if_true]
  have hnd := hk.nodefer
  have hz1 : (zs (i + 1)).hp = h' := by rw [hz]
  have hz2 : (zs (i + 1)).lk = upd (zs i).lk o.dst v := by rw [hz]
  by_cases him : i = m
  ·subst him
   have e := z_le hs (show i + 1 ≤ m2 from (n1 rfl).1) (n1 rfl).2 n3
   rw [hz1] at e
   refine wp_in hnd (kind_ok hT h.hr h.side.gok hbase hρ hk (fun _=>h.ro) (fun b h1 h2=>?_) (fun b h1 h2=>?_) fun u w' c' hout hu=>?_)
   ·cases hO : c.O b with
    | none=>rfl
    | some oi=>have := hrange b oi hO; omega
   ·cases hO : c.N b with
    | none=>rfl
    | some oi=>have := hrangeM b oi hO; omega
   ·rcases hout with ⟨_,hq⟩ | ⟨_,hq⟩
    ·have r1 : ∀ b oi,c'.O b = some oi → b < h'.blocks.length := fun b oi hb=>by rcases hq.oNew b oi hb with g | g; exact Nat.lt_of_lt_of_le (hrange b oi g) hq.le.blen; exact g.2
     have r2 : ∀ b r,c'.N b = some r → b < h'.maps.length := fun b r hb=>by rcases hq.nNew b r hb with g | g; exact Nat.lt_of_lt_of_le (hrangeM b r g) hq.le.mlen; exact g.2
     exact hK _ _ c' m2 (h.put hs hp ho hni hbef haft hz2 hu (.inl hslot) hq.yE (hq.hr.grow r1 r2 e) ((hq.roOf h.ro).grow e) (hq.ext.low hbase)
      (fun b oi hb=>by rw [hz1]; rcases hq.oNew b oi hb with g | g; exact .inl ⟨_,g⟩; exact .inr g) (fun b r hb=>by rw [hz1]; rcases hq.nNew b r hb with g | g; exact .inl ⟨_,g⟩; exact .inr g) (pqq hq)
      (.inr ⟨rfl,(n1 rfl).1,(n1 rfl).2,n3,n4 rfl⟩))
    ·have r1 : ∀ b oi,c'.O b = some oi → b < h'.blocks.length := fun b oi hb=>by obtain ⟨oi',g⟩ := hq.oNew b oi hb; rw [hq.blen]; exact hrange b oi' g
     have r2 : ∀ b r,c'.N b = some r → b < h'.maps.length := fun b r hb=>by obtain ⟨oi',g⟩ := hq.nNew b r hb; rw [hq.mlen]; exact hrangeM b oi' g
     exact hK _ _ c' m2 (h.put hs hp ho hni hbef haft hz2 hu (.inl hslot) hq.yE (hq.hr.grow r1 r2 e) (hq.ro.grow e) hq.ext
      (fun b oi hb=>.inl (hq.oNew b oi hb)) (fun b r hb=>.inl (hq.nNew b r hb)) (fun b hb=>h.pq b (hq.pE b hb))
      (.inr ⟨rfl,(n1 rfl).1,(n1 rfl).2,n3,n4 rfl⟩))
  ·have light : isEff o (evL (zs i).lk) = false → Kind P T o (evL (zs i).lk) (zs m).hp v (zs m).hp → o.wpIn (FR F.r) 0 P a w K Q := fun hq0 hany => by
    refine wp_in hnd (kind_ok hT h.hr h.side.gok hbase hρ hany (fun he=>by rw [hq0] at he; cases he) (fun b h1 h2=>by omega) (fun b h1 h2=>by omega) fun u w' c' hout hu=>?_)
    rcases hout with ⟨_,hq⟩ | ⟨g,_⟩
    ·exact hK _ _ c' m (h.put hs hp ho hni hbef haft hz2 hu (.inl hslot) hq.yE hq.hr (hq.roOf h.ro) (hq.ext.low hbase)
      (fun b oi hb=>by rcases hq.oNew b oi hb with g | g; exact .inl ⟨_,g⟩; omega) (fun b r hb=>by rcases hq.nNew b r hb with g | g; exact .inl ⟨_,g⟩; omega) (pqq hq) (.inl ⟨rfl,him⟩))
    ·rw [hq0] at g; cases g
   cases hpo : pureOp o with
   | true=>exact light (pure_quiet hpo _) ((hk.pure hpo).2 (zs m).hp)
   | false =>
   cases hro : peekBase o with
   | some rb =>
    have hm1 := h.m1
    obtain ⟨bst,hst1,hst2⟩ := hst
    have hgate := (gateSt_some hst1).2
    have hne0 : effOp ops o = false := by
     cases he : effOp ops o with
     | false=>rfl
     | true=>rw [eff_nopeek he] at hro; cases hro
    refine light (peek_quiet hro _) ((hk.peek hro).2 (zs m).hp ?_)
    cases hfree : heapFree (evL (zs i).lk rb) with
    | true=>exact .inl hfree
    | false =>
    cases hbo : blockOf (evL (zs i).lk rb) with
    | none =>
     rcases hk.peekable hro with g | ⟨b',g⟩
     ·rw [hfree] at g; cases g
     ·rw [hbo] at g; cases g
    | some bi =>
    refine .inr ⟨bi,hbo,?_⟩
    have slot := fun {t : Operand} {a b : Nat}=>z_slot hs (t := t) (a := a) (b := b)
    have viaLe : ∀ {k : Nat} {k0 k1 : AB},HpLe (zs k).hp (zs (k + 1)).hp → (zs k).hp.blocks[bi]? = some k1 → PeekR o k0 k1 → ∃ k',(zs (k + 1)).hp.blocks[bi]? = some k' ∧ PeekR o k0 k' := fun hle hk1 r1=>by
     obtain ⟨k2,hk2,r2⟩ := hle.b bi _ hk1
     exact ⟨k2,hk2,r1.trans r2.x.peek⟩
    have viaSt : ∀ {k : Nat} {k0 k1 : AB},softOp o = true → ShapeLe (zs k).hp (zs (k + 1)).hp → (zs k).hp.blocks[bi]? = some k1 → PeekR o k0 k1 → ∃ k',(zs (k + 1)).hp.blocks[bi]? = some k' ∧ PeekR o k0 k' := fun hsf hle hk1 r1=>by
     obtain ⟨k2,hk2,e1,e2⟩ := hle bi _ hk1
     exact ⟨k2,hk2,r1.trans (.of_soft hsf e1 e2)⟩
    have viaGate : ∀ {k : Nat} {y : Oper} {t0 : Operand} {k0 k1 : AB},ops[k]? = some y → effTarget y = some t0 → apart (evL (zs i).lk rb) (evL (zs k).lk t0) = true → (zs k).hp.blocks[bi]? = some k1 → PeekR o k0 k1 → ∃ k',(zs (k + 1)).hp.blocks[bi]? = some k' ∧ PeekR o k0 k' := fun {k y t0 k0 k1} hy e2 hap hk1 r1=>by
     rcases z_target hs hy e2 with g | ⟨bt,kt,g1,g2⟩
     ·exact viaLe g hk1 r1
     ·unfold apart at hap
      have hft : heapFree (evL (zs k).lk t0) = false := by
       revert g1
       cases evL (zs k).lk t0 <;> simp [blockOf,heapFree]
      rw [hfree,hft,hbo,g1] at hap
      simp only [Bool.false_or,Bool.not_eq_true'] at hap
      have hneq : bi ≠ bt := fun e=>by rw [e,Nat.beq_refl] at hap; cases hap
      refine ⟨k1,?_,r1⟩
      rw [g2]
      simp only [Hp.setB]
      rw [setNth_eq,List.getElem?_set,if_neg (fun e=>hneq e.symm)]
      exact hk1
    rcases Nat.lt_or_ge i m with hlt | hge
    ·have up : ∀ d, i + d ≤ m → ∀ k0, (zs i).hp.blocks[bi]? = some k0 → ∃ k', (zs (i + d)).hp.blocks[bi]? = some k' ∧ PeekR o k0 k' := fun d => by
      induction d with
      | zero=>intro _ k0 hk0; exact ⟨k0,hk0,.refl _ _⟩
      | succ d ih =>
       intro hd k0 hk0
       obtain ⟨k1,hk1,r1⟩ := ih (by omega) k0 hk0
       have hx : ops[i + d]? = some ops[i + d] := by simp
       show ∃ k',(zs (i + d + 1)).hp.blocks[bi]? = some k' ∧ PeekR o k0 k'
       cases he : effAt ops (i + d) with
       | false=>exact viaLe ((hs _ _ hx).le he) hk1 r1
       | true =>
        have hin := h.m2 (i + d) (by omega) he
        have hne : i < i + d := by
         rcases Nat.eq_zero_or_pos d with e | e
         ·subst e; exact absurd hin hni
         ·omega
        have hye : effOp ops ops[i + d] = true := by rw [← eff_at hx]; exact he
        rcases (pair_look hp ho hx hne (haft _ hin)).2 hye hpo with ⟨g1,g2⟩ | ⟨hgl,hgs⟩
        ·exact viaSt g1 ((hs _ _ hx).store g2).1 hk1 r1
        ·have hgs2 := hgs
         unfold gateStatic at hgs2
         rw [hne0,hye] at hgs2
         simp only [cond_false,Bool.true_and,hro] at hgs2
         split at hgs2
         case h_2=>cases hgs2
         rename_i t0 e2
         have hkept := slot hgs2 (Nat.le_of_lt hne) (by omega)
         have hstep := hs _ _ hx
         by_cases hskip : HpLe (zs (i + d)).hp (zs (i + d + 1)).hp
         ·exact viaLe hskip hk1 r1
         ·obtain ⟨bst2,q1,q2⟩ := z_gate hs hx hskip
          have hga := (gateSt_some q1).2
          have hone := List.all_eq_true.1 hga _ hgl
          simp only [Nat.beq_refl,Bool.not_true,Bool.false_or] at hone
          unfold gateOne at hone
          rw [nth?_eq,Array.getElem?_toList,ho,nth?_eq,Array.getElem?_toList,hx] at hone
          simp only [hne0,cond_false,hro,e2] at hone
          rw [hkept] at hone
          exact viaGate hx e2 hone hk1 r1
     have := up (m - i) (by omega)
     rwa [show i + (m - i) = m from by omega] at this
    ·have hmi : m < i := by omega
     rcases h.m3 with g | ⟨g1,g2⟩
     ·omega
     ·have hlen : bi < (zs m).hp.blocks.length := by
       obtain ⟨oi,hO⟩ := VR_block (hρ rb (peekBase_mem hro)) hbo
       exact hrange bi oi hO
      have up : ∀ d, m + d ≤ i → ∃ k', (zs (m + d)).hp.blocks[bi]? = some k' ∧ PeekR o ((zs m).hp.blocks[bi]'hlen) k' := fun d => by
       induction d with
       | zero=>intro _; exact ⟨_,List.getElem?_eq_getElem hlen,.refl _ _⟩
       | succ d ih =>
        intro hd
        obtain ⟨k1,hk1,r1⟩ := ih (by omega)
        have hx : ops[m + d]? = some ops[m + d] := by simp
        show ∃ k',(zs (m + d + 1)).hp.blocks[bi]? = some k' ∧ PeekR o ((zs m).hp.blocks[bi]'hlen) k'
        cases he : effAt ops (m + d) with
        | false=>exact viaLe ((hs _ _ hx).le he) hk1 r1
        | true =>
         have hme : effOp ops ops[m + d] = true := by rw [← eff_at hx]; exact he
         have hnin : ¬ In listed (m + d) := fun hin=>by
          rcases Nat.eq_zero_or_pos d with e | e
          ·subst e; exact g2 hin
          ·have hxm : ops[m]? = some ops[m] := by simp
           have hmm : effOp ops ops[m] = true := by rw [← eff_at hxm]; exact g1
           exact g2 (h.closed m (m + d) hin (pair_eff hp hxm hx (by omega) (.inl ⟨hmm,eff_impure hme,eff_hard hme,eff_noread hme⟩)))
         rcases (pair_look hp hx ho (by omega) (fun hb=>hnin (hbef _ hb))).1 hme hpo with ⟨q1,q2⟩ | ⟨hgl,hgs⟩
         ·exact viaSt q1 ((hs _ _ hx).store q2).1 hk1 r1
         ·have hone := List.all_eq_true.1 hgate _ hgl
          simp only [Nat.beq_refl,Bool.not_true,Bool.false_or] at hone
          unfold gateOne at hone
          rw [nth?_eq,Array.getElem?_toList,hx,nth?_eq,Array.getElem?_toList,ho] at hone
          simp only [hme,cond_true,hro,hfree,Bool.false_or] at hone
          split at hone
          case h_2=>cases hone
          rename_i t0 e2
          rw [Bool.and_eq_true] at hone
          have hkept := slot hone.1 (by omega) (Nat.le_of_lt hio)
          have hap := hone.2
          rw [hkept] at hap
          exact viaGate hx e2 hap hk1 r1
      refine fun k hk3=>⟨_,List.getElem?_eq_getElem hlen,?_⟩
      obtain ⟨k',h1,h2⟩ := up (i - m) (by omega)
      rw [show m + (i - m) = i from by omega,hk3] at h1
      cases h1
      exact h2.symm
   | none =>
    have hso : softOp o = false := by
     cases hq : softOp o with
     | false=>rfl
     | true=>obtain ⟨b,g⟩ := soft_peek_some hq; rw [hro] at g; cases g
    have hrb : readBase o = none := by
     unfold peekBase at hro
     cases hq : readBase o with
     | none=>rfl
     | some b=>rw [hq] at hro; cases hro
    have hlt : i < m := by
     rcases Nat.lt_or_ge i m with g | g
     ·exact g
     ·have hmi : m < i := by omega
      rcases h.m3 with g' | ⟨g1,g2⟩
      ·omega
      ·have hx : ops[m]? = some ops[m] := by simp
       exact absurd (hbef m (pair_eff hp hx ho hmi (.inl ⟨by rw [← eff_at hx]; exact g1,hpo,hso,hrb⟩))) g2
    have hm1 := h.m1
    cases hnew : newOp o with
    | true =>
     obtain ⟨kn,V,hVn,hv0,hh0,hany⟩ := hk.new hnew
     have hnm := (z_len hs (Nat.le_of_lt hlt) hm1).1
     generalize hH0 : ({ (zs m).hp with blocks := (zs m).hp.blocks.take (zs i).hp.blocks.length } : Hp) = H0
     have hH0l : H0.blocks.length = (zs i).hp.blocks.length := by rw [← hH0]; simp; omega
     have hH0b : ∀ j,j < (zs i).hp.blocks.length → H0.blocks[j]? = (zs m).hp.blocks[j]? := fun j hj=>by
      rw [← hH0]
      show ((zs m).hp.blocks.take _)[j]? = _
      rw [List.getElem?_take_of_lt hj]
     have hH0m : H0.maps = (zs m).hp.maps := by rw [← hH0]
     have e1 : HpLe H0 (zs m).hp := ⟨fun j k hj=>by
      have hjl : j < (zs i).hp.blocks.length := by rw [← hH0l]; exact (List.getElem?_eq_some_iff.1 hj).1
      exact ⟨k,by rw [← hH0b j hjl]; exact hj,.refl _⟩,fun j k hj=>⟨k,by rw [← hH0m]; exact hj,.refl _⟩⟩
     have hkH : Kind P T o (evL (zs i).lk) H0 v (H0.addB kn) := by
      have := hany H0
      rwa [hH0l,← hv0] at this
     have hlen1 : h'.blocks.length = (zs i).hp.blocks.length + 1 := by rw [hh0]; simp [Hp.addB]
     have hlenH : (H0.addB kn).blocks.length = (zs i).hp.blocks.length + 1 := by simp [Hp.addB,hH0l]
     have hmapH : (H0.addB kn).maps = H0.maps := rfl
     have hstay : ∀ d, i + 1 + d ≤ m → ∃ k', (zs (i + 1 + d)).hp.blocks[(zs i).hp.blocks.length]? = some k' ∧ ABro kn k' := fun d => by
      induction d with
      | zero =>
       intro _
       refine ⟨kn,?_,.refl _⟩
       show (zs (i + 1)).hp.blocks[_]? = _
       rw [hz1,hh0]
       simp [Hp.addB]
      | succ d ih =>
       intro hd
       obtain ⟨k1,hk1,r1⟩ := ih (by omega)
       have hx : ops[i + 1 + d]? = some ops[i + 1 + d] := by simp
       have viaLe : HpLe (zs (i + 1 + d)).hp (zs (i + 1 + d + 1)).hp → ∃ k',(zs (i + 1 + d + 1)).hp.blocks[(zs i).hp.blocks.length]? = some k' ∧ ABro kn k' := fun hle=>by
        obtain ⟨k2,hk2,r2⟩ := hle.b _ k1 hk1
        exact ⟨k2,hk2,r1.trans r2⟩
       show ∃ k',(zs (i + 1 + d + 1)).hp.blocks[(zs i).hp.blocks.length]? = some k' ∧ ABro kn k'
       cases he : effAt ops (i + 1 + d) with
       | false=>exact viaLe ((hs _ _ hx).le he)
       | true =>
        have hin := h.m2 (i + 1 + d) (by omega) he
        have hye : effOp ops ops[i + 1 + d] = true := by rw [← eff_at hx]; exact he
        have hne0 : effOp ops o = false := by
         cases he : effOp ops o with
         | false=>rfl
         | true=>rw [eff_nonew he] at hnew; cases hnew
        rcases (pair_look hp ho hx (by omega) (haft _ hin)).2 hye hpo with ⟨g1,g2⟩ | ⟨hgl,hgs⟩
        ·rw [hso] at g1; cases g1
        ·unfold gateStatic at hgs
         rw [hne0,hye] at hgs
         simp only [cond_false,Bool.true_and,hro,hnew] at hgs
         split at hgs
         case h_2=>cases hgs
         rename_i t0 e2
         split at hgs
         case h_2=>cases hgs
         rename_i d0 ed
         have hkept := z_slot hs hgs (by omega) (show i + 1 + d ≤ ops.size by omega)
         have hdv : evL (zs (i + 1 + d)).lk (.tmp d0) = V (zs i).hp.blocks.length := by
          rw [hkept]
          show (zs (i + 1)).lk d0 = _
          rw [hz2,ed,hv0]
          simp [upd]
         by_cases hskip : HpLe (zs (i + 1 + d)).hp (zs (i + 1 + d + 1)).hp
         ·exact viaLe hskip
         ·obtain ⟨bst2,q1,q2⟩ := z_gate hs hx hskip
          have hga := (gateSt_some q1).2
          have hone := List.all_eq_true.1 hga _ hgl
          simp only [Nat.beq_refl,Bool.not_true,Bool.false_or] at hone
          unfold gateOne at hone
          rw [nth?_eq,Array.getElem?_toList,ho,nth?_eq,Array.getElem?_toList,hx] at hone
          simp only [hne0,cond_false,hro,e2,ed] at hone
          rw [hdv] at hone
          rcases z_target hs hx e2 with g | ⟨bt,kt,g1,g2⟩
          ·exact viaLe g
          ·unfold apart at hone
           have hft : heapFree (evL (zs (i + 1 + d)).lk t0) = false := by
            revert g1
            cases evL (zs (i + 1 + d)).lk t0 <;> simp [blockOf,heapFree]
           rw [hft,g1,(hVn _).1,(hVn _).2] at hone
           simp only [Bool.false_or,Bool.not_eq_true'] at hone
           have hneq : (zs i).hp.blocks.length ≠ bt := fun e=>by rw [e,Nat.beq_refl] at hone; cases hone
           refine ⟨k1,?_,r1⟩
           rw [g2]
           simp only [Hp.setB]
           rw [setNth_eq,List.getElem?_set,if_neg (fun e=>hneq e.symm)]
           exact hk1
     have e2 : HpLe (H0.addB kn) (zs m).hp := ⟨fun j k hj=>by
      rcases Nat.lt_or_ge j (zs i).hp.blocks.length with hjl | hjl
      ·refine ⟨k,?_,.refl _⟩
       rw [← hH0b j hjl]
       have hj : (H0.blocks ++ [kn])[j]? = some k := hj
       rwa [List.getElem?_append_left (by omega)] at hj
      ·have hj2 : j < (zs i).hp.blocks.length + 1 := by rw [← hlenH]; exact (List.getElem?_eq_some_iff.1 hj).1
       have hje : j = (zs i).hp.blocks.length := by omega
       subst hje
       have hj : (H0.blocks ++ [kn])[(zs i).hp.blocks.length]? = some k := hj
       rw [← hH0l] at hj
       simp at hj
       subst hj
       have := hstay (m - (i + 1)) (by omega)
       rwa [show i + 1 + (m - (i + 1)) = m from by omega] at this,fun j k hj=>⟨k,by rw [← hH0m]; exact hj,.refl _⟩⟩
     have hfreeN : ∀ b,(zs i).hp.blocks.length ≤ b → b < h'.blocks.length → c.O b = none := fun b h1 h2=>by
      cases hO : c.O b with
      | none=>rfl
      | some oi =>
       rcases h.dom b oi hO with g | ⟨j,hj,g1,g2⟩
       ·have := (z_len hs (Nat.zero_le i) (Nat.le_of_lt hio)).1; omega
       ·have hjl := In_lt hj
        rw [h.size] at hjl
        rcases Nat.lt_trichotomy j i with g | g | g
        ·have := (z_len hs (show j + 1 ≤ i from g) (Nat.le_of_lt hio)).1; omega
        ·subst g; exact absurd hj hni
        ·have := (z_len hs (show i + 1 ≤ j from g) (Nat.le_of_lt hjl)).1; rw [hz1] at this; omega
     refine wp_in hnd (kind_ok hT (h.hr.back e1) h.side.gok hbase hρ hkH (fun he=>by rw [new_quiet hnew] at he; cases he) (fun b h1 h2=>hfreeN b (by omega) (by omega)) (fun b h1 h2=>absurd h2 (by rw [hmapH]; omega)) fun u w' c' hout hu=>?_)
     rcases hout with ⟨_,hq⟩ | ⟨g,_⟩
     ·obtain ⟨k1,k2⟩ := hq.beside h.hr h.ro hrange hrangeM (.refl _) e2
      exact hK _ _ c' m (h.put hs hp ho hni hbef haft hz2 hu (.inl hslot) hq.yE k1 k2 (hq.ext.low hbase)
       (fun b oi hb=>by rw [hz1]; rcases hq.oNew b oi hb with g | g; exact .inl ⟨_,g⟩; exact .inr ⟨by omega,by omega⟩) (fun b r hb=>by rcases hq.nNew b r hb with g | g; exact .inl ⟨_,g⟩; exact absurd g.2 (by rw [hmapH]; omega)) (pqq hq) (.inl ⟨rfl,him⟩))
     ·rw [new_quiet hnew] at g; cases g
    | false =>
    have hnoe : ∀ k,i ≤ k → k < m → effAt ops k = false := fun k h1 h2=>by
     cases he : effAt ops k with
     | false=>rfl
     | true =>
      have hin := h.m2 k h2 he
      rcases Nat.eq_or_lt_of_le h1 with e | e
      ·subst e; exact absurd hin hni
      ·have hx : ops[k]? = some ops[k] := by simp
       exact absurd (pair_eff hp ho hx e (.inr ⟨by rw [← eff_at hx]; exact he,hpo,hso,hrb,hnew⟩)) (haft k hin)
    have hei : isEff o (evL (zs i).lk) = false := by obtain ⟨bst,q1,q2⟩ := hst; exact q2.resolve_left (by rw [(gateSt_some q1).1,hnoe i (Nat.le_refl _) hlt]; simp)
    have e1 := z_le hs (Nat.le_of_lt hlt) hm1 hnoe
    have e2 := z_le hs (show i + 1 ≤ m from hlt) hm1 (fun k h1 h2=>hnoe k (by omega) h2)
    rw [hz1] at e2
    have hfree : ∀ b,(zs i).hp.blocks.length ≤ b → b < h'.blocks.length → c.O b = none := fun b h1 h2=>by
     cases hO : c.O b with
     | none=>rfl
     | some oi =>
      rcases h.dom b oi hO with g | ⟨j,hj,g1,g2⟩
      ·have := (z_len hs (Nat.zero_le i) (Nat.le_of_lt hio)).1; omega
      ·have hjl := In_lt hj
       rw [h.size] at hjl
       rcases Nat.lt_trichotomy j i with g | g | g
       ·have := (z_len hs (show j + 1 ≤ i from g) (Nat.le_of_lt hio)).1; omega
       ·subst g; exact absurd hj hni
       ·have := (z_len hs (show i + 1 ≤ j from g) (Nat.le_of_lt hjl)).1; rw [hz1] at this; omega
    have hfreeM : ∀ b,(zs i).hp.maps.length ≤ b → b < h'.maps.length → c.N b = none := fun b h1 h2=>by
     cases hO : c.N b with
     | none=>rfl
     | some oi =>
      rcases h.domN b oi hO with g | ⟨j,hj,g1,g2⟩
      ·have := (z_len hs (Nat.zero_le i) (Nat.le_of_lt hio)).2; omega
      ·have hjl := In_lt hj
       rw [h.size] at hjl
       rcases Nat.lt_trichotomy j i with g | g | g
       ·have := (z_len hs (show j + 1 ≤ i from g) (Nat.le_of_lt hio)).2; omega
       ·subst g; exact absurd hj hni
       ·have := (z_len hs (show i + 1 ≤ j from g) (Nat.le_of_lt hjl)).2; rw [hz1] at this; omega
    refine wp_in hnd (kind_ok hT (h.hr.back e1) h.side.gok hbase hρ hk (fun he=>by rw [hei] at he; cases he) hfree hfreeM fun u w' c' hout hu=>?_)
    rcases hout with ⟨_,hq⟩ | ⟨g,_⟩
    ·obtain ⟨k1,k2⟩ := hq.beside h.hr h.ro hrange hrangeM (.refl _) e2
     exact hK _ _ c' m (h.put hs hp ho hni hbef haft hz2 hu (.inl hslot) hq.yE k1 k2 (hq.ext.low hbase)
      (fun b oi hb=>by rw [hz1]; rcases hq.oNew b oi hb with g | g; exact .inl ⟨_,g⟩; exact .inr g) (fun b r hb=>by rw [hz1]; rcases hq.nNew b r hb with g | g; exact .inl ⟨_,g⟩; exact .inr g) (pqq hq) (.inl ⟨rfl,him⟩))
    ·rw [hei] at g; cases g

include hs hp in
theorem di_any (hT : TOK P T) (hedges : ∀ (j : Nat) y,ops[j]? = some y → ∀ e ∈ y.after,Region.binds .any e = true → e.on < j) {Q : Exit → Act → World → Prop}
  (hQ : ∀ s' a' w' c',zOf s' = zs ops.size → s'.sv = sv0 → SR P F w0 q s' a' w' c' → Q .normal a' w') {s' : St} (hs' : zOf s' = zs ops.size) (hsv : s'.sv = sv0) :
  ∀ (fuel : Nat) (listed : Array Bool) (m : Nat) (a : Act) (w : World) (c : Cx),listed.toList.count false ≤ fuel → DI P ops zs F sv0 w0 q listed m a w c → wpAnyIn (FR F.r) 0 P .any ops Q fuel listed a w := by
 have done : ∀ (listed : Array Bool) (m : Nat) (a : Act) (w : World) (c : Cx), DI P ops zs F sv0 w0 q listed m a w c → Region.ready .any ops listed = [] → Q .normal a w := by
  intro listed m a w c h hr
  have all : ∀ k j,j < k → j < ops.size → In listed j := by
   intro k
   induction k with
   | zero=>intro j hj; omega
   | succ k ih =>
    intro j hj hjo
    rcases Nat.lt_or_ge j k with g | g
    ·exact ih j g hjo
    ·have : j = k := by omega
     subst this
     cases hl : listed.getD j false with
     | true=>exact hl
     | false =>
      exfalso
      have hx : ops[j]? = some ops[j] := by simp
      have hjl : j < listed.size := by rw [h.size]; exact hjo
      have : j ∈ Region.ready .any ops listed := mem_ready.2 ⟨by simp [hjl] at hl ⊢; exact hl,_,hx,fun e he hb=>ih e.on (hedges j _ hx e he hb) (Nat.lt_trans (hedges j _ hx e he hb) hjo)⟩
      rw [hr] at this
      cases this
  have hm : m = ops.size := by
   rcases h.m3 with g | ⟨_,g⟩
   ·exact g
   ·have := h.m1
    rcases Nat.lt_or_ge m ops.size with g' | g'
    ·exact absurd (all (m + 1) m (by omega) g') g
    ·omega
  obtain ⟨r1,r2⟩ := h.range hs hp
  subst hm
  have e1 : s'.hp = (zs ops.size).hp := by rw [← hs']; rfl
  have e2 : look s'.tm = (zs ops.size).lk := by rw [← hs']; rfl
  obtain ⟨j1,j2⟩ := z_keep hs ops.size (Nat.le_refl _)
  refine hQ s' a w c hs' hsv ⟨⟨by rw [e1]; exact h.hr,by rw [e1]; exact h.ro,by rw [e1]; exact r1,by rw [e1]; exact r2,by rw [e1,j2]; exact h.side.hy,h.below,h.pq,by rw [hsv]; exact h.side.sv,h.side.keep,by rw [e1,j1]; exact h.side.rcd,h.side.gok⟩,fun t=>?_,h.tsize,h.side.defers⟩
  rw [e2]
  refine h.tm t ops.size (Nat.le_refl _) (fun j hj _=>all (j + 1) j (by omega) hj) (fun j hj hw=>?_)
  obtain ⟨x,hx,_⟩ := hw
  have := (Array.getElem?_eq_some_iff.1 hx).1
  omega
 intro fuel
 induction fuel with
 | zero =>
  intro listed m a w c hc h
  have hr : Region.ready .any ops listed = [] := by
   cases hrr : Region.ready .any ops listed with
   | nil=>rfl
   | cons i r =>
    exfalso
    have hi : i ∈ Region.ready .any ops listed := by rw [hrr]; exact .head _
    obtain ⟨hun,o,ho,_⟩ := mem_ready.1 hi
    have hil : i < listed.size := by rw [h.size]; exact (Array.getElem?_eq_some_iff.1 ho).1
    have : false ∈ listed.toList := by
     simp [hil] at hun
     rw [← hun]
     simp
    have := List.count_pos_iff.2 this
    omega
  exact ⟨hr,done listed m a w c h hr⟩
 | succ fuel ih =>
  intro listed m a w c hc h
  refine ⟨done listed m a w c h,fun i hi=>di_step hs hp hT h hi fun a' w' c' m' h'=>ih _ m' a' w' c' ?_ h'⟩
  obtain ⟨hun,o,ho,_⟩ := mem_ready.1 hi
  have hil : i < listed.size := by rw [h.size]; exact (Array.getElem?_eq_some_iff.1 ho).1
  have hf : listed.toList[i]'(by simpa using hil) = false := by
   simp [hil] at hun
   simpa using hun
  rw [Array.toList_setIfInBounds,List.count_set (by simpa using hil),hf]
  show List.count false listed.toList - 1 + 0 ≤ fuel
  omega
end

theorem drawn_any {P : Program} {T : Nat → Option TI} (hT : TOK P T) (F : Fr) (E : Env) (w0 : World) (q : Nat → Prop) (ops : Array Oper) (K : St → Prop) (Q : Exit → Act → World → Prop) (s : St) (a : Act) (w : World) (c : Cx) (gl : List (Nat × Nat)) (hS : ∀ f args r fr,E.S f args r fr → Sound1 P f args r fr) (hd : drawOk1 gl ops = true)
  (hQ : ∀ s' a' w' c',SR P F w0 q s' a' w' c' → K s' → Q .normal a' w') (h : SR P F w0 q s a w c) (hw : opsW E.plain T F.n (gateSt gl ops) ops K 0 ops.toList s) : wpAnyIn (FR F.r) 0 P .any ops Q ops.size (Array.replicate ops.size false) a { w with drawn := w.drawn + 1 } := by
 unfold drawOk1 at hd
 rw [Bool.and_eq_true] at hd
 have hall := all_pair ops.toList 0 hd.1
 have hp : ∀ (i j : Nat) x y,ops[i]? = some x → ops[j]? = some y → i < j → pairOk gl ops (befores ops.toList []) i j x y = true := fun i j x y hx hy hij=>by
  have := (hall j y (by simpa using hy)).1 i x hx (by omega)
  simpa using this
 have hedges : ∀ (j : Nat) y,ops[j]? = some y → ∀ e ∈ y.after,Region.binds .any e = true → e.on < j := fun j y hy e he hb=>by
  have := (hall j y (by simpa using hy)).2 e he hb
  simpa using this
 obtain ⟨zs,g1,g2,s',g3,g4,g5⟩ := trace_of hS ops.toList 0 s hw
 have hs : ∀ (k : Nat) o,ops[k]? = some o → Step P T F.n ops (gateSt gl ops k) o (zs k) (zs (k + 1)) := fun k o hk=>by
  have := g2 k o (by simpa using hk)
  simpa using this
 have g4' : zOf s' = zs ops.size := by simpa using g4
 have hK : ∀ s2 a' w' c',zOf s2 = zs ops.size → s2.sv = s.sv → SR P F w0 q s2 a' w' c' → Q .normal a' w' := fun s2 a' w' c' hz hsv hsr=>by
  have e : zOf s2 = zOf s' := hz.trans g4'.symm
  have e1 : s'.hp = s2.hp := by injection e with _ e; exact e.symm
  have e2 : look s'.tm = look s2.tm := by injection e with e _; exact e.symm
  exact hQ s' a' w' c' ⟨⟨by rw [e1]; exact hsr.hr,by rw [e1]; exact hsr.ro,by rw [e1]; exact hsr.hi,by rw [e1]; exact hsr.hiM,by rw [e1]; exact hsr.hy,hsr.below,hsr.pq,by rw [g5,← hsv]; exact hsr.sv,hsr.keep,by rw [e1]; exact hsr.rcd,hsr.gok⟩,fun t=>by rw [e2]; exact hsr.tm t,hsr.size,hsr.defers⟩ g3
 have h' := h.drew
 obtain ⟨m,n1,n2,n3,n4⟩ := next_eff (ops := ops) _ 0 rfl (Nat.zero_le _)
 have e0 := z_le hs n1 n2 n3
 have z0 : (zs 0).hp = s.hp := by rw [g1]; rfl
 rw [z0] at e0
 have none : ∀ j,¬ In (Array.replicate ops.size false) j := fun j hj=>by
  have := In_lt hj
  unfold In at hj
  simp at this
  simp [this] at hj
 refine di_any (sv0 := s.sv) hs hp hT hedges hK g4' g5 ops.size _ m a _ c (by simp) ⟨by simp,h'.hr.grow h'.hi h'.hiM e0,h'.ro.grow e0,fun b oi hb=>.inl (by rw [z0]; exact h'.hi b oi hb),fun b r hb=>.inl (by rw [z0]; exact h'.hiM b r hb),fun t i hi c1 c2=>?_,h'.size,⟨by rw [z0]; exact h'.hy,h'.sv,h'.keep,by rw [z0]; exact h'.rcd,h'.defers,h'.gok⟩,h'.below,h'.pq,
  fun i j hj=>absurd hj (none j),n2,fun j hj he=>(by rw [n3 j (Nat.zero_le _) hj] at he; cases he),n4.imp (fun g=>g) fun g=>⟨g,none m⟩⟩
 have : (zs i).lk t = (zs 0).lk t := z_lk hs (Nat.zero_le i) hi fun k _ hk hw=>none k (c1 k hk hw)
 rw [this,g1]
 exact h'.tm t

theorem posOf_none : ∀ (σ : List Nat) (i : Nat),(∀ x ∈ σ,x ≠ i) → posOf σ i = σ.length
 | [],_,_=>rfl
 | x :: r, i, h => by
  have h1 : Nat.beq x i = false := by
   cases hb : Nat.beq x i with
   | false=>rfl
   | true=>exact absurd (Nat.eq_of_beq_eq_true hb) (h x (List.mem_cons_self ..))
  unfold posOf
  rw [h1,cond_false,posOf_none r i fun y hy=>h y (List.mem_cons_of_mem _ hy)]
  rfl
structure Perm (σ : List Nat) (n : Nat) : Prop where
 len : σ.length = n
 at1 : ∀ i,i < n → σ[posOf σ i]? = some i
 at2 : ∀ k,k < n → ∃ j,j < n ∧ σ[k]? = some j ∧ posOf σ j = k
theorem Perm.of {σ : List Nat} {n : Nat} (h : permL σ n = true) : Perm σ n := by
 unfold permL at h
 rw [Bool.and_eq_true,Bool.and_eq_true] at h
 refine ⟨Nat.eq_of_beq_eq_true h.1.1,fun i hi=>?_,fun k hk=>?_⟩
 ·have := List.all_eq_true.1 h.1.2 i (List.mem_range.2 hi)
  rw [nth?_eq] at this
  split at this
  ·rename_i j hj; rw [hj,Nat.eq_of_beq_eq_true this]
  ·cases this
 ·have := List.all_eq_true.1 h.2 k (List.mem_range.2 hk)
  rw [nth?_eq] at this
  split at this
  ·rename_i j hj
   rw [Bool.and_eq_true] at this
   exact ⟨j,by have := this.1; rwa [Nat.blt_eq] at this,hj,Nat.eq_of_beq_eq_true this.2⟩
  ·cases this
theorem Perm.lt {σ : List Nat} {n : Nat} (h : Perm σ n) {i : Nat} (hi : i < n) : posOf σ i < n := by
  rw [← h.len]
  exact (List.getElem?_eq_some_iff.1 (h.at1 i hi)).1
theorem Perm.out {σ : List Nat} {n : Nat} (h : Perm σ n) {i : Nat} (hi : n ≤ i) : posOf σ i = n := by
 rw [posOf_none,h.len]
 intro x hx e
 obtain ⟨k,hk,hx⟩ := List.getElem_of_mem hx
 obtain ⟨j,h1,h2,_⟩ := h.at2 k (by rw [← h.len]; exact hk)
 rw [List.getElem?_eq_getElem hk] at h2
 cases h2
 omega
theorem Perm.op {σ : List Nat} {ops : Array Oper} (h : Perm σ ops.size) {i : Nat} {o : Oper} (ho : ops[i]? = some o) : (arrL σ ops)[posOf σ i]? = some (renO σ o) := by
 have hi := (Array.getElem?_eq_some_iff.1 ho).1
 unfold arrL
 rw [List.getElem?_toArray,List.getElem?_map,h.at1 i hi]
 show some (renO σ (opAt ops i)) = _
 unfold opAt
 rw [nth?_eq,Array.getElem?_toList,ho]
theorem arrL_size (σ : List Nat) (ops : Array Oper) : (arrL σ ops).size = σ.length := by simp [arrL]
theorem renO_dst (σ : List Nat) (o : Oper) : (renO σ o).dst = o.dst := by cases o; rfl
theorem Perm.bind {σ : List Nat} {ops : Array Oper} (h : Perm σ ops.size) (j : Nat) : ((arrL σ ops)[posOf σ j]?).bind (·.dst) = (ops[j]?).bind (·.dst) := by
 rcases Nat.lt_or_ge j ops.size with hj | hj
 ·have ho : ops[j]? = some ops[j] := by simp
  rw [h.op ho,ho]
  exact renO_dst σ _
 ·rw [h.out hj]
  have e1 : ops[j]? = none := by simp; omega
  have e2 : (arrL σ ops)[ops.size]? = none := by
   simp [arrL_size,h.len]
  rw [e1,e2]
theorem Perm.wanted {σ : List Nat} {ops : Array Oper} (h : Perm σ ops.size) (o : Oper) (tmps : Array Value) : Region.wanted (renO σ o) (yielded (arrL σ ops) tmps) = Region.wanted o (yielded ops tmps) := by
 obtain ⟨dst,op,type,pos,after,guard⟩ := o
 cases guard with
 | none=>rfl
 | some g =>
  show (yielded (arrL σ ops) tmps (posOf σ g.1) == some g.2) = (yielded ops tmps g.1 == some g.2)
  unfold yielded
  rw [h.bind]
structure LR (σ : List Nat) (n : Nat) (l l' : Array Bool) : Prop where
 s1 : l.size = n
 s2 : l'.size = n
 eq : ∀ i,i < n → l'[posOf σ i]? = l[i]?
theorem LR.set {σ : List Nat} {n : Nat} (h : Perm σ n) {l l' : Array Bool} (r : LR σ n l l') {i : Nat} (hi : i < n) : LR σ n (l.setIfInBounds i true) (l'.setIfInBounds (posOf σ i) true) := by
 refine ⟨by simp [r.s1],by simp [r.s2],fun j hj=>?_⟩
 rw [Array.getElem?_setIfInBounds,Array.getElem?_setIfInBounds]
 by_cases e : i = j
 ·subst e
  simp [r.s1,r.s2,hi,h.lt hi]
 ·have ne : posOf σ i ≠ posOf σ j := fun g=>by
   have h1 := h.at1 i hi
   rw [g,h.at1 j hj] at h1
   cases h1
   exact e rfl
  rw [if_neg e,if_neg ne]
  exact r.eq j hj
theorem LR.getD {σ : List Nat} {n : Nat} (h : Perm σ n) {l l' : Array Bool} (r : LR σ n l l') (i : Nat) (d : Bool) : l'.getD (posOf σ i) d = l.getD i d := by
 rw [Array.getD_eq_getD_getElem?,Array.getD_eq_getD_getElem?]
 rcases Nat.lt_or_ge i n with hi | hi
 ·rw [r.eq i hi]
 ·rw [h.out hi]
  have e1 : l[i]? = none := by simp [r.s1]; omega
  have e2 : l'[n]? = none := by simp [r.s2]
  rw [e1,e2]
theorem renO_ready (σ : List Nat) (o : Oper) (l : Array Bool) : ((renO σ o).after.all fun e=>!Region.binds .any e || l.getD e.on false) = o.after.all fun e=>!Region.binds .any e || l.getD (posOf σ e.on) false := by
 obtain ⟨dst,op,type,pos,after,guard⟩ := o
 show (after.map fun e=>{ e with on := posOf σ e.on }).all _ = _
 rw [Array.all_map]
 rfl
theorem LR.ready {σ : List Nat} {ops : Array Oper} (h : Perm σ ops.size) {l l' : Array Bool} (r : LR σ ops.size l l') {i : Nat} (hi : i < ops.size) : posOf σ i ∈ Region.ready .any (arrL σ ops) l' ↔ i ∈ Region.ready .any ops l := by
 have ho : ops[i]? = some ops[i] := by simp [hi]
 unfold Region.ready
 rw [List.mem_filter,List.mem_filter,List.mem_range,List.mem_range,arrL_size,h.len,h.op ho,ho,r.getD h]
 simp only [Option.map_some,Option.getD_some,renO_ready]
 have e : (ops[i].after.all fun e=>!Region.binds .any e || l'.getD (posOf σ e.on) false) = ops[i].after.all fun e=>!Region.binds .any e || l.getD e.on false := by
  congr 1
  funext e
  rw [r.getD h]
 rw [e]
 exact ⟨fun g=>⟨hi,g.2⟩,fun g=>⟨h.lt hi,g.2⟩⟩
theorem any_perm {F : Fence} {n : Nat} {P : Program} {ops : Array Oper} {σ : List Nat} {Q : Exit → Act → World → Prop} (h : Perm σ ops.size) : ∀ (fuel : Nat) (l l' : Array Bool) (a : Act) (w : World),LR σ ops.size l l' → wpAnyIn F n P .any (arrL σ ops) Q fuel l' a w → wpAnyIn F n P .any ops Q fuel l a w := by
 have nil : ∀ {l l' : Array Bool},LR σ ops.size l l' → Region.ready .any ops l = [] → Region.ready .any (arrL σ ops) l' = [] := fun {l l'} r hn=>by
  rw [List.eq_nil_iff_forall_not_mem]
  intro k hk
  have hlt : k < ops.size := by
   have := List.mem_range.1 (List.mem_filter.1 hk).1
   rwa [arrL_size,h.len] at this
  obtain ⟨j,hj,_,e⟩ := h.at2 k hlt
  rw [← e] at hk
  have := (r.ready h hj).1 hk
  rw [hn] at this
  cases this
 have lin : ∀ {l l' : Array Bool},LR σ ops.size l l' → Region.ready .any (arrL σ ops) l' = [] → Region.ready .any ops l = [] := fun {l l'} r hn=>by
  rw [List.eq_nil_iff_forall_not_mem]
  intro k hk
  have hlt : k < ops.size := List.mem_range.1 (List.mem_filter.1 hk).1
  have := (r.ready h hlt).2 hk
  rw [hn] at this
  cases this
 intro fuel
 induction fuel with
 | zero=>intro l l' a w r hh; exact ⟨lin r hh.1,hh.2⟩
 | succ fuel ih =>
  intro l l' a w r hh
  refine ⟨fun hn=>hh.1 (nil r hn),fun i hi=>?_⟩
  have hlt : i < ops.size := List.mem_range.1 (List.mem_filter.1 hi).1
  have ho : ops[i]? = some ops[i] := by simp
  have g := hh.2 _ ((r.ready h hlt).2 hi)
  unfold wpOpIn at g ⊢
  rw [h.op ho] at g
  rw [ho]
  simp only at g ⊢
  rw [h.wanted] at g
  have hK : ∀ a w,wpAnyIn F n P .any (arrL σ ops) Q fuel (l'.setIfInBounds (posOf σ i) true) a w → wpAnyIn F n P .any ops Q fuel (l.setIfInBounds i true) a w := fun a w=>ih _ _ a w (r.set h hlt)
  split
  ·rename_i hw
   rw [if_pos hw] at g
   have g' : ops[i].wpIn F n P a w (wpAnyIn F n P .any (arrL σ ops) Q fuel (l'.setIfInBounds (posOf σ i) true)) Q := by
    revert g
    generalize ops[i] = o
    intro g
    obtain ⟨dst,op,type,pos,after,guard⟩ := o
    exact g
   exact Oper.wpIn_mono hK g'
  ·rename_i hw
   rw [if_neg hw] at g
   refine ⟨fun f hf=>g.1 f ?_,hK _ _ ?_⟩
   ·revert hf
    generalize ops[i] = o
    intro hf
    obtain ⟨dst,op,type,pos,after,guard⟩ := o
    exact hf
   ·have g2 := g.2
    rwa [renO_dst] at g2

theorem any_arr {F : Fence} {n : Nat} {P : Program} {ops : Array Oper} {gl : List (Nat × Nat)} {Q : Exit → Act → World → Prop} (h2 : permOk gl ops = true) {a : Act} {w : World} (h1 : wpAnyIn F n P .any (arr gl ops) Q (arr gl ops).size (Array.replicate (arr gl ops).size false) a w) : wpAnyIn F n P .any ops Q ops.size (Array.replicate ops.size false) a w := by
 unfold permOk at h2
 unfold arr at h1
 cases ho : ordOf gl with
 | nil=>rw [ho] at h1; exact h1
 | cons i r =>
  rw [ho] at h1 h2
  have hp := Perm.of h2
  simp only [arrL_size,hp.len] at h1
  exact any_perm hp ops.size _ _ a _ ⟨by simp,by simp,fun j hj=>by
   have := hp.lt hj
   simp [hj,this]⟩ h1

theorem wpIn_tailQ {F : Fence} {n : Nat} {P : Program} {o : Oper} {a : Act} {w : World} {K : Act → World → Prop} {Q Q1 : Exit → Act → World → Prop} (h1 : ∀ e a w,e ≠ .normal → Q1 e a w → Q e a w) (h : o.wpIn F n P a w K Q1) : o.wpIn F n P a w K Q := by
 have hl : LetsOut Q1 → LetsOut Q := fun ⟨a,w,g⟩=>⟨a,w,h1 _ a w (by nofun) g⟩
 unfold Oper.wpIn at *
 refine ⟨h.1,?_⟩
 have hh := h.2
 generalize (o.semAt F.round a.eval).run P w = r at *
 cases r with
 | ok x w' =>
  cases x <;> simp only [Oper.uponIn] at hh ⊢ <;>
   first
    | exact hh
    | exact ⟨hh.1,CallsIn.mono hh.2 (fun e w'' he=>by cases e <;> first | exact he | exact h1 _ _ _ (by nofun) he | exact hl he)⟩
    | exact ⟨hh.1,RoundIn.mono hh.2 (fun e w'' he=>by cases e <;> first | exact he | exact h1 _ _ _ (by nofun) he | exact hl he)⟩
 | halt x w'=>cases x <;> simp only [Oper.uponIn] at hh ⊢ <;> first | exact hh | exact h1 _ _ _ (by nofun) hh

structure TailOk (c : Nat) (ops : Array Oper) : Prop where
 le : c ≤ ops.size
 asc : ∀ (i : Nat) o,ops[i]? = some o → ∀ e ∈ o.after,Region.binds .any e = true → e.on < i
 grd : ∀ (i : Nat) o,ops[i]? = some o → ∀ g b,o.guard = some (g,b) → g < i
 bef : ∀ i,c ≤ i → i < ops.size → ∀ j,j < i → isBefore (befores ops.toList []) j i = true
theorem TailOk.of {c : Nat} {ops : Array Oper} (h : tailOk c ops = true) : TailOk c ops := by
 unfold tailOk at h
 rw [Bool.and_eq_true] at h
 have ha := fun i (hi : i < ops.size)=>List.all_eq_true.1 h.2 i (List.mem_range.2 hi)
 have hasc : ∀ (i : Nat) o,ops[i]? = some o → ascOk i o = true := fun i o ho=>by
  have := ha i (Array.getElem?_eq_some_iff.1 ho).1
  rw [Bool.and_eq_true,nth?_eq,Array.getElem?_toList,ho] at this
  exact this.1
 refine ⟨Nat.le_of_ble_eq_true h.1,fun i o ho e he hb=>?_,fun i o ho g b hg=>?_,fun i hc hi j hj=>?_⟩
 ·have := hasc i o ho
  unfold ascOk at this
  rw [Bool.and_eq_true] at this
  have := List.all_eq_true.1 this.1 e (by simpa using he)
  rw [hb] at this
  simpa [Nat.blt_eq] using this
 ·have := hasc i o ho
  unfold ascOk at this
  rw [Bool.and_eq_true,hg] at this
  have := this.2
  rwa [Nat.blt_eq] at this
 ·have := ha i hi
  rw [Bool.and_eq_true,Bool.or_eq_true] at this
  rcases this.2 with g | g
  ·rw [Nat.blt_eq] at g; omega
  ·exact List.all_eq_true.1 g j (List.mem_range.2 hj)
theorem TailOk.lt {c : Nat} {ops : Array Oper} (h : TailOk c ops) : ∀ (k j : Nat),isBefore (befores ops.toList []) j k = true → k < ops.size → j < k := by
 intro k
 induction k using Nat.strongRecOn with
 | ind k ih =>
  intro j hb hk
  have ho : ops[k]? = some ops[k] := by simp
  obtain ⟨e,he,hbi,g⟩ := before_inv ho hb
  have h1 := h.asc k _ ho e he hbi
  rcases g with g | g
  ·omega
  ·have := ih e.on h1 j g (by omega)
   omega
theorem ready_closed {ops : Array Oper} {l : Array Bool} (hc : ∀ i j,isBefore (befores ops.toList []) i j = true → In l j → In l i) {i : Nat} (hi : i ∈ Region.ready .any ops l) {j : Nat} (hb : isBefore (befores ops.toList []) j i = true) : In l j := by
 obtain ⟨_,o,ho,hedge⟩ := mem_ready.1 hi
 obtain ⟨e,he,hbi,g⟩ := before_inv ho hb
 have hin : In l e.on := hedge e he hbi
 rcases g with g | g
 ·rw [g]; exact hin
 ·exact hc j e.on g hin
theorem unlisted {l : Array Bool} {j : Nat} (hj : j < l.size) : l.getD j true = false ↔ ¬ In l j := by
  unfold In
  simp [hj]
theorem tail_run {F : Fence} {n : Nat} {P : Program} {ops : Array Oper} {Q : Exit → Act → World → Prop} {c : Nat} (ht : TailOk c ops) : ∀ (m i : Nat) (l : Array Bool) (a : Act) (w : World),i + m = ops.size → c ≤ i → l.size = ops.size → (∀ j,In l j ↔ j < i) → ∀ fuel,m ≤ fuel → wpOpsIn F n P ops Q (List.range' i m) a w → wpAnyIn F n P .any ops Q fuel l a w
 | 0, i, l, a, w, him, hci, hls, hl, fuel, hf, hw => by
  have hr : Region.ready .any ops l = [] := by
   rw [List.eq_nil_iff_forall_not_mem]
   intro k hk
   obtain ⟨hun,o,ho,_⟩ := mem_ready.1 hk
   have hks := (Array.getElem?_eq_some_iff.1 ho).1
   exact (unlisted (by omega)).1 hun ((hl k).2 (by omega))
  cases fuel with
  | zero=>exact ⟨hr,hw⟩
  | succ f=>exact ⟨fun _=>hw,fun k hk=>by rw [hr] at hk; cases hk⟩
 | m + 1, i, l, a, w, him, hci, hls, hl, fuel, hf, hw => by
  obtain ⟨f,rfl⟩ : ∃ f,fuel = f + 1 := ⟨fuel - 1,by omega⟩
  have his : i < ops.size := by omega
  have ho : ops[i]? = some ops[i] := by simp
  have hri : i ∈ Region.ready .any ops l := mem_ready.2 ⟨(unlisted (by omega)).2 (fun g=>by have := (hl i).1 g; omega),_,ho,fun e he hb=>(hl _).2 (ht.asc i _ ho e he hb)⟩
  have hcl : ∀ i' j,isBefore (befores ops.toList []) i' j = true → In l j → In l i' := fun i' j hb hj=>by
   have h1 := (hl j).1 hj
   have := ht.lt j i' hb (by omega)
   exact (hl i').2 (by omega)
  refine ⟨fun hn=>(by rw [hn] at hri; cases hri),fun k hk=>?_⟩
  have hki : k = i := by
   obtain ⟨hun,o,hok,_⟩ := mem_ready.1 hk
   have hks := (Array.getElem?_eq_some_iff.1 hok).1
   have h1 : ¬ k < i := fun g=>(unlisted (by omega)).1 hun ((hl k).2 g)
   rcases Nat.eq_or_lt_of_le (Nat.le_of_not_lt h1) with e | e
   ·exact e.symm
   ·have := ready_closed hcl hk (ht.bef k (by omega) hks i e)
    have := (hl i).1 this
    omega
  subst hki
  rw [List.range'_succ,wpOpsIn_cons] at hw
  refine wpOpIn_mono (fun a' w' h'=>tail_run ht m (k + 1) _ a' w' (by omega) (by omega) (by simpa using hls) (fun j=>?_) f (by omega) h') hw
  rw [In_set (by omega),hl]
  omega
theorem preOps_get {c : Nat} {ops : Array Oper} {i : Nat} (hi : i < c) : (preOps c ops)[i]? = ops[i]? := by
  unfold preOps
  rw [List.getElem?_toArray,List.getElem?_take,if_pos hi,Array.getElem?_toList]
theorem preOps_size {c : Nat} {ops : Array Oper} (h : c ≤ ops.size) : (preOps c ops).size = c := by
 unfold preOps
 simp
 omega
theorem pre_run {F : Fence} {n : Nat} {P : Program} {ops : Array Oper} {Q Q1 : Exit → Act → World → Prop} {c : Nat} (ht : TailOk c ops) (hq : ∀ e a w,e ≠ .normal → Q1 e a w → Q e a w) (hn1 : ∀ a w,Q1 .normal a w → wpOpsIn F n P ops Q (List.range' c (ops.size - c)) a w) :
  ∀ (fuel : Nat) (l l' : Array Bool) (a : Act) (w : World),l.size = ops.size → l'.size = c → (∀ j,j < c → (In l' j ↔ In l j)) → (∀ j,In l j → j < c) → (∀ i j,isBefore (befores ops.toList []) i j = true → In l j → In l i) →
   wpAnyIn F n P .any (preOps c ops) Q1 fuel l' a w → wpAnyIn F n P .any ops Q (fuel + (ops.size - c)) l a w := by
 have hle := ht.le
 have rd : ∀ {l l' : Array Bool} {i : Nat},l.size = ops.size → l'.size = c → (∀ j,j < c → (In l' j ↔ In l j)) → i < c → (i ∈ Region.ready .any (preOps c ops) l' ↔ i ∈ Region.ready .any ops l) := fun {l l' i} s1 s2 he hi=>by
  rw [mem_ready,mem_ready,preOps_get hi,unlisted (by omega),unlisted (by omega),he i hi]
  constructor
  ·rintro ⟨g,o,ho,h⟩
   exact ⟨g,o,ho,fun e h1 h2=>(he e.on (by have := ht.asc i o ho e h1 h2; omega)).1 (h e h1 h2)⟩
  ·rintro ⟨g,o,ho,h⟩
   exact ⟨g,o,ho,fun e h1 h2=>(he e.on (by have := ht.asc i o ho e h1 h2; omega)).2 (h e h1 h2)⟩
 have fin : ∀ {l l' : Array Bool} {a : Act} {w : World} (fuel : Nat),l.size = ops.size → l'.size = c → (∀ j,j < c → (In l' j ↔ In l j)) → (∀ j,In l j → j < c) → (∀ j,j < c → In l j) → wpAnyIn F n P .any (preOps c ops) Q1 fuel l' a w → wpAnyIn F n P .any ops Q (fuel + (ops.size - c)) l a w := fun {l l' a w} fuel s1 s2 he ht2 hall h=>by
  have hr : Region.ready .any (preOps c ops) l' = [] := by
   rw [List.eq_nil_iff_forall_not_mem]
   intro k hk
   obtain ⟨hun,o,ho,_⟩ := mem_ready.1 hk
   have hks := (Array.getElem?_eq_some_iff.1 ho).1
   rw [preOps_size hle] at hks
   exact (unlisted (by omega)).1 hun ((he k hks).2 (hall k hks))
  have hq1 : Q1 .normal a w := by
   cases fuel with
   | zero=>exact h.2
   | succ f=>exact h.1 hr
  exact tail_run ht (ops.size - c) c l a w (by omega) (Nat.le_refl _) s1 (fun j=>⟨ht2 j,hall j⟩) _ (by omega) (hn1 a w hq1)
 have least : ∀ {l : Array Bool},¬ (∀ j,j < c → In l j) → ∃ j,j < c ∧ ¬ In l j ∧ ∀ k,k < j → In l k := fun {l} h=>by
  have hex : ∃ j,j < c ∧ ¬ In l j := Classical.byContradiction fun g=>h fun j hj=>Classical.byContradiction fun g2=>g ⟨j,hj,g2⟩
  obtain ⟨j,hj⟩ := hex
  induction j using Nat.strongRecOn with
  | ind j ih =>
   by_cases g : ∀ k,k < j → In l k
   ·exact ⟨j,hj.1,hj.2,g⟩
   ·have : ∃ k,k < j ∧ ¬ In l k := Classical.byContradiction fun g3=>g fun k hk=>Classical.byContradiction fun g4=>g3 ⟨k,hk,g4⟩
    obtain ⟨k,hk,hkn⟩ := this
    exact ih k hk ⟨by omega,hkn⟩
 intro fuel
 induction fuel with
 | zero =>
  intro l l' a w s1 s2 he ht2 hcl h
  by_cases hall : ∀ j,j < c → In l j
  ·exact fin 0 s1 s2 he ht2 hall h
  ·exfalso
   obtain ⟨j,hj,hjn,hlt⟩ := least hall
   have ho : ops[j]? = some ops[j] := by simp
   have : j ∈ Region.ready .any ops l := mem_ready.2 ⟨(unlisted (by omega)).2 hjn,_,ho,fun e h1 h2=>hlt _ (ht.asc j _ ho e h1 h2)⟩
   have := (rd s1 s2 he hj).2 this
   rw [h.1] at this
   cases this
 | succ fuel ih =>
  intro l l' a w s1 s2 he ht2 hcl h
  by_cases hall : ∀ j,j < c → In l j
  ·exact fin _ s1 s2 he ht2 hall h
  ·obtain ⟨j,hj,hjn,hlt⟩ := least hall
   have ho : ops[j]? = some ops[j] := by simp
   have hjr : j ∈ Region.ready .any ops l := mem_ready.2 ⟨(unlisted (by omega)).2 hjn,_,ho,fun e h1 h2=>hlt _ (ht.asc j _ ho e h1 h2)⟩
   rw [show fuel + 1 + (ops.size - c) = fuel + (ops.size - c) + 1 by omega]
   refine ⟨fun hn=>(by rw [hn] at hjr; cases hjr),fun i hi=>?_⟩
   have hic : i < c := by
    rcases Nat.lt_or_ge i c with g | g
    ·exact g
    ·obtain ⟨_,o,hoi,_⟩ := mem_ready.1 hi
     exact absurd (ready_closed hcl hi (ht.bef i g (Array.getElem?_eq_some_iff.1 hoi).1 j (by omega))) hjn
   have h2 := h.2 i ((rd s1 s2 he hic).2 hi)
   have ih' : ∀ a w,wpAnyIn F n P .any (preOps c ops) Q1 fuel (l'.setIfInBounds i true) a w → wpAnyIn F n P .any ops Q (fuel + (ops.size - c)) (l.setIfInBounds i true) a w := fun a w=>ih _ _ a w (by simpa using s1) (by simpa using s2)
    (fun k hk=>by rw [In_set (by omega),In_set (by omega),he k hk])
    (fun k hk=>by rcases (In_set (by omega)).1 hk with e | e; omega; exact ht2 k e)
    (fun x y hb hy=>by
     rcases (In_set (by omega)).1 hy with e | e
     ·subst e; exact (In_set (by omega)).2 (.inr (ready_closed hcl hi hb))
     ·exact (In_set (by omega)).2 (.inr (hcl x y hb e)))
   have hoi : ops[i]? = some ops[i] := by simp
   unfold wpOpIn at h2 ⊢
   rw [preOps_get hic,hoi] at h2
   rw [hoi]
   simp only at h2 ⊢
   have hwt : Region.wanted ops[i] (yielded (preOps c ops) a.tmps) = Region.wanted ops[i] (yielded ops a.tmps) := by
    unfold Region.wanted
    cases hg : ops[i].guard with
    | none=>rfl
    | some gb =>
     have hlt' := ht.grd i _ hoi gb.1 gb.2 hg
     show (yielded (preOps c ops) a.tmps gb.1 == some gb.2) = (yielded ops a.tmps gb.1 == some gb.2)
     unfold yielded
     rw [preOps_get (by omega)]
   rw [hwt] at h2
   split
   ·rename_i g
    rw [if_pos g] at h2
    exact wpIn_tailQ hq (Oper.wpIn_mono ih' h2)
   ·rename_i g
    rw [if_neg g] at h2
    exact ⟨h2.1,ih' _ _ h2.2⟩

theorem hasNil_mem : ∀ {os : List (List Nat)},hasNil os = true → [] ∈ os
 | [],h=>by cases h
 | [] :: _,_=>by simp
 | (_ :: _) :: l,h=>List.mem_cons_of_mem _ (hasNil_mem (os := l) h)
theorem restL_mem {i : Nat} : ∀ {os : List (List Nat)} {σ : List Nat},σ ∈ restL i os → i :: σ ∈ os
 | [],_,h=>by cases h
 | [] :: l,σ,h=>List.mem_cons_of_mem _ (restL_mem (os := l) h)
 | (j :: r) :: l, σ, h => by
  unfold restL at h
  cases hb : Nat.beq j i with
  | true =>
   rw [hb] at h
   have e := Nat.eq_of_beq_eq_true hb
   rcases List.mem_cons.1 h with g | g
   ·rw [g,e]; simp
   ·exact List.mem_cons_of_mem _ (restL_mem g)
  | false =>
   rw [hb] at h
   exact List.mem_cons_of_mem _ (restL_mem h)
theorem rdyL_ready {ops : Array Oper} {done : List Nat} {l : Array Bool} (hs : l.size = ops.size) (hl : ∀ j,j < ops.size → (In l j ↔ j ∈ done)) {i : Nat} (h : i ∈ Region.ready .any ops l) : i ∈ rdyL ops.toList done := by
 obtain ⟨hun,o,ho,he⟩ := mem_ready.1 h
 have hi := (Array.getElem?_eq_some_iff.1 ho).1
 unfold rdyL
 rw [List.mem_filter,List.mem_range,Array.length_toList]
 refine ⟨hi,?_⟩
 have hn : hasNat done i = false := by
  cases hh : hasNat done i with
  | false=>rfl
  | true=>exact absurd ((hl i hi).2 (hasNat_iff.1 hh)) ((unlisted (by omega)).1 hun)
 rw [hn,nth?_eq,Array.getElem?_toList,ho]
 simp only [Bool.not_false,Bool.true_and,List.all_eq_true]
 intro e hem
 cases hb : Region.binds .any e with
 | false=>rfl
 | true =>
  have h1 := he e (by simpa using hem) hb
  have h2 : In l e.on := h1
  have h3 := In_lt h2
  rw [Bool.not_true,Bool.false_or]
  exact hasNat_iff.2 ((hl e.on (by omega)).1 h2)
theorem cover_mem {ops : Array Oper} : ∀ (fuel t : Nat) (l : Array Bool) (done : List Nat) (os : List (List Nat)),l.size = ops.size → (∀ j ∈ done,j < ops.size) → (∀ j,j < ops.size → (In l j ↔ j ∈ done)) → coverL ops.toList fuel done os = true → Region.linearise.go .any ops fuel t l [] ∈ os := by
 intro fuel
 induction fuel with
 | zero =>
  intro t l done os hs _ hl h
  unfold coverL at h
  rw [Bool.and_eq_true] at h
  simp only [Region.linearise.go]
  exact hasNil_mem h.2
 | succ f ih =>
  intro t l done os hs hdone hl h
  simp only [Region.linearise.go]
  change (match (Region.ready .any ops l)[t % (Region.ready .any ops l).length]? with
   | some i=>Region.linearise.go .any ops f (t / (Region.ready .any ops l).length) (l.setIfInBounds i true) [i]
   | none=>[].reverse) ∈ os
  cases hi : (Region.ready .any ops l)[t % (Region.ready .any ops l).length]? with
  | none =>
   have hnil : Region.ready .any ops l = [] := by
    cases hr : Region.ready .any ops l with
    | nil=>rfl
    | cons x xs =>
     rw [hr] at hi
     have hlt : t % (x :: xs).length < (x :: xs).length := Nat.mod_lt _ (by simp)
     simp at hi
     simp at hlt
     omega
   have hr2 : rdyL ops.toList done = [] := by
    rw [List.eq_nil_iff_forall_not_mem]
    intro k hk
    unfold rdyL at hk
    rw [List.mem_filter,List.mem_range,Array.length_toList,nth?_eq,Array.getElem?_toList,Bool.and_eq_true,Bool.not_eq_true'] at hk
    have hks := hk.1
    have hun : ¬ In l k := fun g=>by
     have := hasNat_iff.2 ((hl k hks).1 g)
     rw [hk.2.1] at this; cases this
    have hed : ∀ e ∈ (ops[k]).after,Region.binds .any e = true → l.getD e.on false = true := fun e he hb=>by
     have h2 := hk.2.2
     rw [Array.getElem?_eq_getElem hks] at h2
     simp only [List.all_eq_true] at h2
     have h3 := h2 e (by simpa using he)
     rw [hb,Bool.not_true,Bool.false_or] at h3
     exact (hl _ (hdone e.on (hasNat_iff.1 h3))).2 (hasNat_iff.1 h3)
    have : k ∈ Region.ready .any ops l := mem_ready.2 ⟨(unlisted (by omega)).2 hun,ops[k],by simp,hed⟩
    rw [hnil] at this; cases this
   unfold coverL at h
   rw [hr2] at h
   exact hasNil_mem h
  | some i =>
   have him := List.mem_of_getElem? hi
   have hrd := rdyL_ready hs hl him
   have hic : i < ops.size := by obtain ⟨_,o,ho,_⟩ := mem_ready.1 him; exact (Array.getElem?_eq_some_iff.1 ho).1
   unfold coverL at h
   cases hr : rdyL ops.toList done with
   | nil=>rw [hr] at hrd; cases hrd
   | cons x r =>
    rw [hr] at h hrd
    have h2 := List.all_eq_true.1 h i hrd
    simp only []
    rw [linearise_go_acc,List.reverse_singleton,List.singleton_append]
    refine restL_mem (ih _ _ (i :: done) _ (by simpa using hs) (fun j hj=>by rcases List.mem_cons.1 hj with e | hj; rw [e]; exact hic; exact hdone j hj) (fun j hj=>?_) h2)
    rw [In_set (by omega),hl j hj,List.mem_cons]
theorem drawn_ok {P : Program} {T : Nat → Option TI} (hT : TOK P T) (hm : P.follows .mixedOrders = true) : DrawnOk P T := by
 refine ⟨?_,?_,fun F id ops Q a w os hco h=>wpIn_region_draw fun t=>?_⟩
 ·intro F E w0 q id ops K Q s a w c gl hS hd hQ h hw
  unfold drawOk at hd
  rw [Bool.and_eq_true,Bool.and_eq_true] at hd
  have h1 := drawn_any hT F E w0 q (arr gl ops) K Q s a w c gl hS hd.1.2 hQ h hw
  exact wpIn_region_any hm (any_arr hd.1.1 h1)
 ·intro F E w0 q id ops K Q s a w c gl cut hS hd hK h hw
  rw [Bool.and_eq_true] at hd
  have ht := TailOk.of hd.1
  have hdr := hd.2
  unfold drawOk at hdr
  rw [Bool.and_eq_true,Bool.and_eq_true] at hdr
  have h1 := drawn_any hT F E w0 q (arr gl (preOps cut ops)) K (fun e a w=>match e with | .normal=>wpOpsIn (FR F.r) 0 P ops Q (List.range' cut (ops.size - cut)) a w | e=>Q e a w) s a w c gl hS hdr.1.2 hK h hw
  have h2 := any_arr hdr.1.1 h1
  refine wpIn_region_any hm ?_
  have hsz := preOps_size ht.le
  rw [hsz] at h2
  have none : ∀ k j,¬ In (Array.replicate k false) j := fun k j hj=>by
   have := In_lt hj
   unfold In at hj
   simp at this
   simp [this] at hj
  have := pre_run (Q := Q) ht (fun e a w hne g=>by cases e <;> first | exact absurd rfl hne | exact g) (fun a w g=>g) cut (Array.replicate ops.size false) (Array.replicate cut false) a _ (by simp) (by simp) (fun j hj=>⟨fun g=>absurd g (none _ _),fun g=>absurd g (none _ _)⟩) (fun j g=>absurd g (none _ _)) (fun i j _ g=>absurd g (none _ _)) h2
  rwa [show cut + (ops.size - cut) = ops.size by have := ht.le; omega] at this
 ·simp only [Region.schedule,hm,Bool.true_or,if_true]
  refine h _ (cover_mem ops.size t _ [] os (by simp) (fun j hj=>by cases hj) (fun j hj=>⟨fun g=>?_,fun g=>by cases g⟩) hco)
  unfold In at g
  simp [hj] at g
end Go.Tr

/- The contract of a function from its body. Conditions: the program's rules take any order. -/
namespace Go.Tr
open Go Go.RowKit

variable [GTab]

theorem sound {P : Program} {T : Nat → Option TI} {d : Nat} (hT : TOK P T) (hm : P.follows .mixedOrders = true) {f : FuncId} {fn : Func} {args : List AV} {r : AV} {fr : Bool} (hf : P.funcs[f]? = some fn) (hn : (fn.name == "runtime.NumGoroutine") = false) (hlen : Nat.ble args.length fn.ntmps = true) (hb : Body (envOf P T d) T fn args r fr) : Sound1 P f args r fr :=
  sound_of_body hT (drawn_ok hT hm) hf hn (Nat.le_of_ble_eq_true hlen) hb
end Go.Tr

/- A contract whose result holds no references: the memory of the arguments stays the caller's own. Conditions: none. -/
namespace Go.Tr
open Go Go.RowKit

def plain0 : AV → Bool
  | .val _=>true
  | _=>false
def plain1 : AV → Bool
  | .agg l=>l.all plain0
  | x=>plain0 x
def plainA : AV → Bool
 | .tuple l=>l.all plain1
 | x=>plain1 x

theorem adoptL_plain : ∀ (l : List AV) (n : Nat),l.all plain0 = true → adoptL l n = (l,[])
 | [],n,_=>rfl
 | x :: r,n,h=>by
  simp only [List.all_cons,Bool.and_eq_true] at h
  cases x with
  | val v=>simp [adoptL,adoptL_plain r n h.2]
  | _=>simp [plain0] at h
theorem adopt1_plain (x : AV) (n : Nat) (h : plain1 x = true) : adopt1 x n = (x,[]) := by
 cases x with
 | agg l=>simp only [adopt1]; rw [adoptL_plain l n h]
 | val v=>rfl
 | _=>simp [plain1,plain0] at h
theorem adoptT_plain : ∀ (l : List AV) (n : Nat),l.all plain1 = true → adoptT l n = (l,[])
 | [],n,_=>rfl
 | x :: r,n,h=>by
  simp only [List.all_cons,Bool.and_eq_true] at h
  simp only [adoptT,adopt1_plain x n h.1,List.length_nil,Nat.add_zero,adoptT_plain r n h.2,List.append_nil]
theorem adopt_plain (x : AV) (n : Nat) (h : plainA x = true) : adopt x n = (x,[]) := by
 cases x with
 | tuple l=>simp only [adopt]; rw [adoptT_plain l n h]
 | agg l=>exact adopt1_plain (.agg l) n h
 | val v=>rfl
 | _=>simp [plainA,plain1,plain0] at h

section
variable {P : Program} {w : World} {p q : Nat → Prop}
theorem VT_plain0 {x : AV} {u : Value} (hx : plain0 x = true) (h : VT P w p x u) : VT P w q x u := by
 cases h with
 | val=>exact .val _
 | _=>simp [plain0] at hx
theorem VT_plain1 {x : AV} {u : Value} (hx : plain1 x = true) (h : VT P w p x u) : VT P w q x u := by
 cases h with
 | val=>exact .val _
 | agg l vs h1 h2 h3=>exact .agg l vs h1 h2 fun i x hi=>VT_plain0 (List.all_eq_true.1 hx x (List.mem_of_getElem? hi)) (h3 i x hi)
 | _=>simp [plain1,plain0] at hx
theorem VT_plain {x : AV} {u : Value} (hx : plainA x = true) (h : VT P w p x u) : VT P w q x u := by
 cases h with
 | val=>exact .val _
 | agg l vs h1 h2 h3=>exact VT_plain1 hx (.agg l vs h1 h2 h3)
 | tuple l vs h1 h3=>exact .tuple l vs h1 fun i x hi=>VT_plain1 (List.all_eq_true.1 hx x (List.mem_of_getElem? hi)) (h3 i x hi)
 | _=>simp [plainA,plain1,plain0] at hx

theorem Sound1.pl [GTab] {f : FuncId} {args : List AV} {r : AV} (h : Sound1 P f args r false) (hr : plainA r = true) : Sound1 P f args r true := by
 refine ⟨h.1,fun w q vs hq hg hs hv=>?_⟩
 refine Calls.mono (h.2 w q vs hq hg hs hv) ?_
 rintro e w' ⟨u,h1,h2,h3⟩
 refine ⟨u,h1,h2,fun n yv=>⟨fun _=>none,fun _=>False,nofun,nofun,?_,?_,nofun⟩⟩
 ·rw [adopt_plain r n hr]
  exact .tree (VT_plain hr h3)
 ·intro i k oi hi
  rw [adopt_plain r n hr] at hi
  simp at hi
end
end Go.Tr

/- Branches of a walk. Conditions: none. -/
namespace Go.Tr
open Go

theorem ifB_dec {p : Prop} [Decidable p] {x y : Prop} (h1 : p → x) (h2 : ¬ p → y) : ifB (decide p) x y := by
 by_cases h : p
 ·rw [decide_eq_true h]; exact h1 h
 ·rw [decide_eq_false h]; exact h2 h
theorem ifB_not {b : Bool} {x y : Prop} (h : ifB b y x) : ifB (!b) x y := by cases b <;> exact h
theorem ifB_beq {a b : Int} {x y : Prop} (h1 : a = b → x) (h2 : ¬ a = b → y) : ifB (a == b) x y :=
  ifB_intro (fun h=>h1 (eq_of_beq h)) (fun h=>h2 (ne_of_beq_false h))
theorem ifB_bne {a b : Int} {x y : Prop} (h1 : ¬ a = b → x) (h2 : a = b → y) : ifB (a != b) x y :=
  ifB_intro (fun h=>h1 (bne_iff_ne.1 h)) (fun h=>h2 (bne_eq_false_iff_eq.1 h))
theorem ifB_beqB {a b : Bool} {x y : Prop} (h1 : a = b → x) (h2 : ¬ a = b → y) : ifB (a == b) x y :=
  ifB_intro (fun h=>h1 (eq_of_beq h)) (fun h=>h2 (ne_of_beq_false h))
theorem ifB_and {a b : Bool} {x y : Prop} (h1 : a = true → b = true → x) (h2 : (a && b) = false → y) : ifB (a && b) x y :=
  ifB_intro (fun h=>by rw [Bool.and_eq_true] at h; exact h1 h.1 h.2) h2
theorem ifB_veq2 {k1 k2 k3 k4 : IntKind} {a b c d : Int} {x y : Prop} (h1 : a = b ∧ c = d → x) (h2 : ¬(a = b ∧ c = d) → y) : ifB (vEqL [.int k1 a,.int k2 c] [.int k3 b,.int k4 d]) x y := by
 refine ifB_intro (fun h=>h1 ?_) (fun h=>h2 fun e=>?_)
 ·simp only [vEqL,Bool.and_eq_true,beq_iff_eq,and_true] at h
  exact h
 ·rw [e.1,e.2] at h
  simp [vEqL] at h
theorem getD_setB (m : List Bool) (a i : Nat) (v : Bool) : (m.set a v).getD i false = if i = a ∧ a < m.length then v else m.getD i false := by
 simp only [List.getD_eq_getElem?_getD,List.getElem?_set]
 by_cases h : a = i
 ·subst h
  by_cases h2 : a < m.length
  ·simp [h2]
  ·simp [h2]
 ·rw [if_neg h,if_neg (fun e=>h e.1.symm)]
theorem getD_setI (m : List Int) (a i : Nat) (v : Int) : (m.set a v).getD i 0 = if i = a ∧ a < m.length then v else m.getD i 0 := by
 simp only [List.getD_eq_getElem?_getD,List.getElem?_set]
 by_cases h : a = i
 ·subst h
  by_cases h2 : a < m.length
  ·simp [h2]
  ·simp [h2]
 ·rw [if_neg h,if_neg (fun e=>h e.1.symm)]
theorem row1 (x : List Bool) (a i : Nat) (v : Bool) (ha : a < x.length) : [.val (.bool ((x.set a v).getD i false))] = bif Nat.beq i (0 + a) then splice [.val (.bool (x.getD i false))] 0 [.val (.bool v)] else [.val (.bool (x.getD i false))] := by
 rw [getD_setB,Nat.zero_add]
 cases e : Nat.beq i a with
 | true=>rw [if_pos ⟨Nat.eq_of_beq_eq_true e,ha⟩]; rfl
 | false=>rw [if_neg (fun h=>Nat.ne_of_beq_eq_false e h.1)]; rfl
theorem rowI (x : List Int) (a i : Nat) (v : Int) (ha : a < x.length) : [.val (.int .i64 ((x.set a v).getD i 0))] = bif Nat.beq i (0 + a) then splice [.val (.int .i64 (x.getD i 0))] 0 [.val (.int .i64 v)] else [.val (.int .i64 (x.getD i 0))] := by
 rw [getD_setI,Nat.zero_add]
 cases e : Nat.beq i a with
 | true=>rw [if_pos ⟨Nat.eq_of_beq_eq_true e,ha⟩]; rfl
 | false=>rw [if_neg (fun h=>Nat.ne_of_beq_eq_false e h.1)]; rfl
def keepTm (keep : List Nat) (tm : List (Nat × AV)) : List (Nat × AV) := keep.map fun t=>(t,look tm t)
theorem keep_ok : ∀ (keep : List Nat) (tm : List (Nat × AV)) (t : Nat),look (keepTm keep tm) t = look tm t ∨ look (keepTm keep tm) t = .top
 | [],tm,t=>.inr rfl
 | k :: r,tm,t=>by
  show (bif Nat.beq k t then look tm k else look (keepTm r tm) t) = _ ∨ (bif Nat.beq k t then look tm k else look (keepTm r tm) t) = _
  cases h : Nat.beq k t with
  | true=>cases Nat.eq_of_beq_eq_true h; exact .inl rfl
  | false=>exact keep_ok r tm t
theorem inK64 {n : Int} (h1 : -9223372036854775808 ≤ n) (h2 : n ≤ 9223372036854775807) : inK .i64 n := ⟨h1,h2⟩
theorem inKu8 {n : Int} (h1 : 0 ≤ n) (h2 : n ≤ 255) : inK .u8 n := ⟨h1,h2⟩
theorem byX [GTab] {P : Program} {E : Env} (hE : E.S = Sound1 P) {f : FuncId} {args : List AV} {r : AV} {fr : Bool} (h : Sound1 P f args r fr) : E.S f args r fr := by rw [hE]; exact h
theorem byM [GTab] {P : Program} {E : Env} (hE : E.M = Sound2 P) {f : FuncId} {es len : Nat} {R : Nat → List AV} {rest : List AV} {G : Nat → List AV} (h : Sound2 P f es len R rest G) : E.M f es len R rest G := by rw [hE]; exact h
theorem bA {k k' : AB} (h1 : k'.es = k.es := by exact rfl) (h2 : k'.len = k.len := by exact rfl) (h3 : k'.ver = k.ver := by exact rfl) (h4 : k'.ro = k.ro := by exact rfl) (h5 : k'.flat = true → k.flat = true := by exact fun _=>rfl) (h6 : ∀ i,k'.f i = k.f i := by exact fun _=>rfl) :
    k'.es = k.es ∧ k'.len = k.len ∧ k'.ver = k.ver ∧ k'.ro = k.ro ∧ (k'.flat = true → k.flat = true) ∧ ∀ i,i < k.len → k'.f i = k.f i ∨ RowLe k.flat (k.f i) (k'.f i) := ⟨h1,h2,h3,h4,h5,fun i _=>.inl (h6 i)⟩
end Go.Tr

/- Regions that draw their order, the proof: a step and the end. Conditions: the program's rules take any order. -/
import Derived.Test.YtkomdfgffgkphaaTrDA
namespace Go.Tr
open Go Go.RowKit

theorem mem_tmpsOf : ∀ {l : List Operand} {t : Tmp}, .tmp t ∈ l → t ∈ tmpsOf l
  | .tmp t' :: r, t, h => by
    rcases List.mem_cons.1 h with e | h
    · cases e; exact .head _
    · exact .tail _ (mem_tmpsOf h)
  | .const _ :: r, t, h => by
    rcases List.mem_cons.1 h with e | h
    · cases e
    · exact mem_tmpsOf (l := r) h
  | .func _ :: r, t, h => by
    rcases List.mem_cons.1 h with e | h
    · cases e
    · exact mem_tmpsOf (l := r) h
  | .global _ :: r, t, h => by
    rcases List.mem_cons.1 h with e | h
    · cases e
    · exact mem_tmpsOf (l := r) h

theorem reads_op {ops : Array Oper} {o : Oper} {t : Tmp} (h : .tmp t ∈ o.op.operands) : t ∈ readsOf ops o :=
  List.mem_append_left _ (mem_tmpsOf (by simpa using h))
theorem reads_guard {ops : Array Oper} {o : Oper} {t : Tmp} {j : Nat} {b : Bool} (hg : o.guard = some (j, b)) (ht : (nth? ops.toList j).bind (·.dst) = some t) : t ∈ readsOf ops o := by
  unfold readsOf
  rw [hg]
  refine List.mem_append_right _ ?_
  simp only
  rw [ht]
  exact .head _

theorem guard_val {P : Program} {w : World} {c : Cx} {ops : Array Oper} {a : Act} {o : Oper} {j : Nat} {want : Bool} (hg : o.guard = some (j, want)) {t : Tmp} (ht : (nth? ops.toList j).bind (·.dst) = some t) {b : Bool}
    (hv : VR P w c (.val (.bool b)) (a.tmps.getD t undef)) : Region.wanted o (yielded ops a.tmps) = (b == want) := by
  rw [nth?_eq] at ht
  have ht' : (ops[j]?).bind (·.dst) = some t := by simpa using ht
  have hv := hv.val_inv
  have hs : a.tmps[t]? = some (.bool b) := by
    cases hq : a.tmps[t]? with
    | none => simp [hq, undef] at hv
    | some u => simp [hq] at hv; rw [hv]
  unfold Region.wanted
  rw [hg]
  simp [yielded, ht', hs]

theorem guard_not {P : Program} {w : World} {c : Cx} {ops : Array Oper} {a : Act} {o : Oper} {j : Nat} {want : Bool} (hg : o.guard = some (j, want)) {t : Tmp} (ht : (nth? ops.toList j).bind (·.dst) = some t) {v : Value} (hne : v ≠ .bool want)
    (hv : VR P w c (.val v) (a.tmps.getD t undef)) : Region.wanted o (yielded ops a.tmps) = false := by
  rw [nth?_eq] at ht
  have ht' : (ops[j]?).bind (·.dst) = some t := by simpa using ht
  have hv := hv.val_inv
  unfold Region.wanted
  rw [hg]
  simp only [yielded, ht', Option.bind_some]
  cases hq : a.tmps[t]? with
  | none => rfl
  | some u =>
    have : u = v := by simpa [hq] using hv
    subst this
    cases u with
    | bool b =>
      have : b ≠ want := fun e => hne (by rw [e])
      cases b <;> cases want <;> first | rfl | exact absurd rfl this
    | _ => rfl

theorem Kind.nodefer {P : Program} {T : Nat → Option TI} {o : Oper} {ρ : Operand → AV} {h h' : Hp} {v : AV} (hk : Kind P T o ρ h v h') : ∀ c, o.op ≠ .defer c := fun c hc => by
  cases hk with
  | op v h' hev => unfold opEv at hev; rw [hc] at hev; exact hev
  | own g as bs ms f args ts r hev hop hS => rw [hop] at hc; cases hc
  | shared g as bs ms f args ts r hev hop hS => rw [hop] at hc; cases hc

section
variable {gl : List (Nat × Nat)} {P : Program} {T : Nat → Option TI} {F : Fr} {sv0 : List (Nat × AV)} {ops : Array Oper} {zs : Nat → Z} {w0 w : World} {q : Nat → Prop} {listed : Array Bool} {m : Nat} {a : Act} {c : Cx}
variable (hs : ∀ (k : Nat) o, ops[k]? = some o → Step P T F.n ops (gateSt gl ops k) o (zs k) (zs (k + 1)))
variable (hp : ∀ (i j : Nat) x y, ops[i]? = some x → ops[j]? = some y → i < j → pairOk gl ops (befores ops.toList []) i j x y = true)

include hs hp in
/-- Behind one more operation. -/
theorem DI.put (h : DI P ops zs F sv0 w0 q listed m a w c) {i : Nat} {o : Oper} (ho : ops[i]? = some o) (hni : ¬ In listed i) (hbef : ∀ j, isBefore (befores ops.toList []) j i = true → In listed j) (haft : ∀ j, In listed j → ¬ isBefore (befores ops.toList []) i j = true)
    {v : AV} {u : Value} {w' : World} {c' : Cx} {m' : Nat} (hlk : (zs (i + 1)).lk = upd (zs i).lk o.dst v) (hu : VR P w' c' v u) (hd : slotOk F.n o.dst = true ∨ (v = .val undef ∧ u = undef)) (hyE : c'.y = c.y) (hr : HR P w0.heap.size w' c' (zs m').hp) (ro : RO c' (zs m').hp) (e : Ext w0.heap.size w c w' c')
    (dom : ∀ b oi, c'.O b = some oi → (∃ oi', c.O b = some oi') ∨ ((zs i).hp.blocks.length ≤ b ∧ b < (zs (i + 1)).hp.blocks.length))
    (domN : ∀ b r, c'.N b = some r → (∃ r', c.N b = some r') ∨ ((zs i).hp.maps.length ≤ b ∧ b < (zs (i + 1)).hp.maps.length))
    (pq : ∀ b, c'.p b → q b ∨ w0.heap.size ≤ b) (hm : (m' = m ∧ i ≠ m) ∨ (i = m ∧ m < m' ∧ m' ≤ ops.size ∧ (∀ k, m + 1 ≤ k → k < m' → effAt ops k = false) ∧ (m' = ops.size ∨ effAt ops m' = true))) :
    DI P ops zs F sv0 w0 q (listed.setIfInBounds i true) m' (a.put o.dst u) w' c' := by
  have hil : i < listed.size := by rw [h.size]; exact (Array.getElem?_eq_some_iff.1 ho).1
  have hio : i < ops.size := (Array.getElem?_eq_some_iff.1 ho).1
  have inset : ∀ j, In (listed.setIfInBounds i true) j ↔ (j = i ∨ In listed j) := fun j => In_set hil
  refine ⟨by simp [h.size], hr, ro, fun b oi hb => ?_, fun b r hb => ?_, fun t k hk c1 c2 => ?_, ?_, ?_, h.below.trans e.below, pq, fun i' j hj hb => ?_, ?_, fun j hj he => ?_, ?_⟩
  · rcases dom b oi hb with ⟨oi', g⟩ | g
    · rcases h.dom b oi' g with g | ⟨j, hj, g⟩
      · exact .inl g
      · exact .inr ⟨j, (inset j).2 (.inr hj), g⟩
    · exact .inr ⟨i, (inset i).2 (.inl rfl), g⟩
  · rcases domN b r hb with ⟨oi', g⟩ | g
    · rcases h.domN b oi' g with g | ⟨j, hj, g⟩
      · exact .inl g
      · exact .inr ⟨j, (inset j).2 (.inr hj), g⟩
    · exact .inr ⟨i, (inset i).2 (.inl rfl), g⟩
  · by_cases hdt : o.dst = some t
    · have hik : i < k := by
        rcases Nat.lt_or_ge i k with g | g
        · exact g
        · exact absurd ((inset i).2 (.inl rfl)) (c2 i g ⟨o, ho, hdt⟩)
      have hc : (zs k).lk t = (zs (i + 1)).lk t := z_lk hs hik hk fun j h1 h2 hw => by
        obtain ⟨x, hx, hxt⟩ := hw
        have hin := (inset j).1 (c1 j h2 ⟨x, hx, hxt⟩)
        rcases hin with e | hin
        · omega
        · exact haft j hin (pair_rw hp ho hx (by omega) (.inr (.inr ⟨hdt, hxt⟩)))
      rw [hc, hlk]
      simp only [upd]
      rw [if_pos hdt]
      rcases hd with hd | hd
      · have hlt : t < a.tmps.size := by rw [h.tsize]; rw [hdt] at hd; exact Nat.le_of_ble_eq_true hd
        rw [hdt]
        simpa [Act.put, hlt] using hu
      · rw [hd.1, hd.2, hdt]
        have e : (a.put (some t) undef).tmps.getD t undef = undef := by
          by_cases hlt : t < a.tmps.size
          · simp [Act.put, hlt]
          · simp [Act.put]
        rw [e]
        exact .tree (.val _)
    · have hold := h.tm t k hk (fun j hj hw => by
          rcases (inset j).1 (c1 j hj hw) with e | g
          · subst e
            obtain ⟨x, hx, hxt⟩ := hw
            rw [ho] at hx
            cases hx
            exact absurd hxt hdt
          · exact g) (fun j hj hw hin => c2 j hj hw ((inset j).2 (.inr hin)))
      have := hold.mono e
      have e2 : (a.put o.dst u).tmps.getD t undef = a.tmps.getD t undef := by
        cases hdd : o.dst with
        | none => rfl
        | some d =>
          have hne : d ≠ t := fun e => hdt (by rw [hdd, e])
          simp [Act.put, Array.getElem?_setIfInBounds_ne hne]
      rw [e2]
      exact this
  · cases o.dst <;> simp [Act.put, h.tsize]
  · exact h.side.moved e hyE (by cases o.dst <;> rfl)
  · rcases (inset j).1 hj with e | g
    · subst e; exact (inset i').2 (.inr (hbef i' hb))
    · exact (inset i').2 (.inr (h.closed i' j g hb))
  · rcases hm with ⟨e1, _⟩ | ⟨_, _, g, _⟩
    · rw [e1]; exact h.m1
    · exact g
  · rcases hm with ⟨e1, _⟩ | ⟨e1, e2, e3, e4, e5⟩
    · rw [e1] at hj; exact (inset j).2 (.inr (h.m2 j hj he))
    · rcases Nat.lt_or_ge j m with g | g
      · exact (inset j).2 (.inr (h.m2 j g he))
      · rcases Nat.eq_or_lt_of_le g with g | g
        · exact (inset j).2 (.inl (by omega))
        · rw [e4 j g hj] at he; cases he
  · rcases hm with ⟨e1, e2⟩ | ⟨e1, e2, e3, e4, e5⟩
    · rw [e1]
      rcases h.m3 with g | ⟨g1, g2⟩
      · exact .inl g
      · exact .inr ⟨g1, fun hin => by rcases (inset m).1 hin with g | g; exact e2 g.symm; exact g2 g⟩
    · rcases e5 with g | g
      · exact .inl g
      · by_cases hmo : m' = ops.size
        · exact .inl hmo
        · right
          refine ⟨g, fun hin => ?_⟩
          have hx : ops[m']? = some ops[m'] := by simp
          rcases (inset m').1 hin with g' | g'
          · omega
          · have := h.early hp hx g' (eff_impure (by rw [← eff_at hx]; exact g)) (eff_hard (by rw [← eff_at hx]; exact g)) (eff_noread (by rw [← eff_at hx]; exact g)); omega

include hs hp in
theorem di_step (hT : TOK P T) (h : DI P ops zs F sv0 w0 q listed m a w c) {i : Nat} (hi : i ∈ Region.ready .any ops listed) {Q : Exit → Act → World → Prop} {K : Act → World → Prop}
    (hK : ∀ a' w' c' m', DI P ops zs F sv0 w0 q (listed.setIfInBounds i true) m' a' w' c' → K a' w') : wpOpIn (FR F.r) 0 P ops Q i K a w := by
  obtain ⟨hun, o, ho, hedge⟩ := mem_ready.1 hi
  have hio : i < ops.size := (Array.getElem?_eq_some_iff.1 ho).1
  have hil : i < listed.size := by rw [h.size]; exact hio
  have hni : ¬ In listed i := fun g => by unfold In at g; simp [hil] at g hun; rw [g] at hun; cases hun
  have hbef : ∀ j, isBefore (befores ops.toList []) j i = true → In listed j := fun j hb => by
    obtain ⟨e, he, hbi, g⟩ := before_inv ho hb
    have hin : In listed e.on := hedge e he hbi
    rcases g with g | g
    · rw [g]; exact hin
    · exact h.closed j e.on hin g
  have haft : ∀ j, In listed j → ¬ isBefore (befores ops.toList []) i j = true := fun j hj hb => hni (h.closed i j hj hb)
  have hrd : ∀ t ∈ readsOf ops o, VR P w c ((zs i).lk t) (a.tmps.getD t undef) := fun t ht => by
    refine h.tm t i (Nat.le_of_lt hio) (fun j hj hw => ?_) (fun j hj hw hin => ?_)
    · obtain ⟨x, hx, hxt⟩ := hw
      exact hbef j (pair_rw hp hx ho hj (.inl ⟨hxt, ht⟩))
    · rcases Nat.eq_or_lt_of_le hj with e | e
      · subst e; exact hni hin
      · obtain ⟨x, hx, hxt⟩ := hw
        exact haft j hin (pair_rw hp ho hx e (.inr (.inl ⟨hxt, ht⟩)))
  have hρ : ∀ x ∈ o.op.operands, VR P w c (evL (zs i).lk x) (a.eval x) := fun x hx => by
    cases x with
    | tmp t => exact hrd t (reads_op hx)
    | const v => exact .tree (constAV_ok v)
    | global g => exact .tree (.top _)
    | func f => exact .tree (.func _ _ _ #[] #[] rfl rfl (by simp))
  have hbase : w0.heap.size ≤ w.heap.size := h.below.size
  obtain ⟨hrange, hrangeM⟩ := h.range hs hp
  -- the next place of writing
  obtain ⟨m2, n1, n2, n3, n4⟩ : ∃ m2, (i = m → m < m2 ∧ m2 ≤ ops.size) ∧ True ∧ (∀ k, m + 1 ≤ k → k < m2 → effAt ops k = false) ∧ (i = m → m2 = ops.size ∨ effAt ops m2 = true) := by
    by_cases him : i = m
    · obtain ⟨m2, g1, g2, g3, g4⟩ := next_eff (ops := ops) _ (m + 1) rfl (by omega)
      exact ⟨m2, fun _ => ⟨g1, g2⟩, trivial, g3, fun _ => g4⟩
    · exact ⟨0, fun e => absurd e him, trivial, fun k h1 h2 => by omega, fun e => absurd e him⟩
  have step := hs i o ho
  have pqq : ∀ {w' : World} {c' : Cx} {x x' : Hp}, QOut P w0.heap.size w c x w' c' x' → ∀ b, c'.p b → q b ∨ w0.heap.size ≤ b := fun hq b hb => by
    rcases hq.pN b hb with g | g | ⟨i, oi, g1, g2, g3⟩ | ⟨i, g⟩
    · exact h.pq b g
    · exact .inr (by omega)
    · have := h.hr.own i oi g1 g2; exact .inr (by omega)
    · have := h.hr.mown i b g; exact .inr (by omega)
  unfold wpOpIn
  simp only [ho]
  generalize hz : zs (i + 1) = z' at step
  cases step with
  | skip j t want v hg ht hl hne =>
    have hw : Region.wanted o (yielded ops a.tmps) = false := by
      have hv := hrd t (reads_guard hg ht)
      rw [hl] at hv
      exact guard_not hg ht hne hv
    rw [hw]
    simp only [Bool.false_eq_true, if_false]
    refine ⟨fun _ _ => trivial, ?_⟩
    by_cases him : i = m
    · have hzm : (zs (m + 1)).hp = (zs m).hp := by rw [← him, hz]
      have e := z_le hs (show m + 1 ≤ m2 from (n1 him).1) (n1 him).2 n3
      rw [hzm] at e
      exact hK _ _ c m2 (h.put hs hp ho hni hbef haft (v := .val undef) (by rw [hz]) (.tree (.val _)) (.inr ⟨rfl, rfl⟩) rfl (h.hr.grow hrange hrangeM e) (h.ro.grow e) (.refl _ _ _) (fun b oi hb => .inl ⟨oi, hb⟩) (fun b r hb => .inl ⟨r, hb⟩) h.pq
        (.inr ⟨him, (n1 him).1, (n1 him).2, n3, n4 him⟩))
    · exact hK _ _ c m (h.put hs hp ho hni hbef haft (v := .val undef) (by rw [hz]) (.tree (.val _)) (.inr ⟨rfl, rfl⟩) rfl h.hr h.ro (.refl _ _ _) (fun b oi hb => .inl ⟨oi, hb⟩) (fun b r hb => .inl ⟨r, hb⟩) h.pq (.inl ⟨rfl, him⟩))
  | run v h' hg hslot hst hk =>
    have hw : Region.wanted o (yielded ops a.tmps) = true := by
      rcases hg with hg | ⟨j, t, b, hg, ht, hl⟩
      · unfold Region.wanted; rw [hg]
      · have hv := hrd t (reads_guard hg ht)
        rw [hl] at hv
        rw [guard_val hg ht hv]
        cases b <;> rfl
    rw [hw]
    simp only [if_true]
    have hnd := hk.nodefer
    have hz1 : (zs (i + 1)).hp = h' := by rw [hz]
    have hz2 : (zs (i + 1)).lk = upd (zs i).lk o.dst v := by rw [hz]
    by_cases him : i = m
    · subst him
      have e := z_le hs (show i + 1 ≤ m2 from (n1 rfl).1) (n1 rfl).2 n3
      rw [hz1] at e
      refine wp_in hnd (kind_ok hT h.hr hbase hρ hk (fun _ => h.ro) (fun b h1 h2 => ?_) (fun b h1 h2 => ?_) fun u w' c' hout hu => ?_)
      · cases hO : c.O b with
        | none => rfl
        | some oi => have := hrange b oi hO; omega
      · cases hO : c.N b with
        | none => rfl
        | some oi => have := hrangeM b oi hO; omega
      · rcases hout with ⟨_, hq⟩ | ⟨_, hq⟩
        · have r1 : ∀ b oi, c'.O b = some oi → b < h'.blocks.length := fun b oi hb => by rcases hq.oNew b oi hb with g | g; exact Nat.lt_of_lt_of_le (hrange b oi g) hq.le.blen; exact g.2
          have r2 : ∀ b r, c'.N b = some r → b < h'.maps.length := fun b r hb => by rcases hq.nNew b r hb with g | g; exact Nat.lt_of_lt_of_le (hrangeM b r g) hq.le.mlen; exact g.2
          exact hK _ _ c' m2 (h.put hs hp ho hni hbef haft hz2 hu (.inl hslot) hq.yE (hq.hr.grow r1 r2 e) ((hq.roOf h.ro).grow e) (hq.ext.low hbase)
            (fun b oi hb => by rw [hz1]; rcases hq.oNew b oi hb with g | g; exact .inl ⟨_, g⟩; exact .inr g) (fun b r hb => by rw [hz1]; rcases hq.nNew b r hb with g | g; exact .inl ⟨_, g⟩; exact .inr g) (pqq hq)
            (.inr ⟨rfl, (n1 rfl).1, (n1 rfl).2, n3, n4 rfl⟩))
        · have r1 : ∀ b oi, c'.O b = some oi → b < h'.blocks.length := fun b oi hb => by obtain ⟨oi', g⟩ := hq.oNew b oi hb; rw [hq.blen]; exact hrange b oi' g
          have r2 : ∀ b r, c'.N b = some r → b < h'.maps.length := fun b r hb => by obtain ⟨oi', g⟩ := hq.nNew b r hb; rw [hq.mlen]; exact hrangeM b oi' g
          exact hK _ _ c' m2 (h.put hs hp ho hni hbef haft hz2 hu (.inl hslot) hq.yE (hq.hr.grow r1 r2 e) (hq.ro.grow e) hq.ext
            (fun b oi hb => .inl (hq.oNew b oi hb)) (fun b r hb => .inl (hq.nNew b r hb)) (fun b hb => h.pq b (hq.pE b hb))
            (.inr ⟨rfl, (n1 rfl).1, (n1 rfl).2, n3, n4 rfl⟩))
    · have light : isEff o (evL (zs i).lk) = false → Kind P T o (evL (zs i).lk) (zs m).hp v (zs m).hp → o.wpIn (FR F.r) 0 P a w K Q := fun hq0 hany => by
        refine wp_in hnd (kind_ok hT h.hr hbase hρ hany (fun he => by rw [hq0] at he; cases he) (fun b h1 h2 => by omega) (fun b h1 h2 => by omega) fun u w' c' hout hu => ?_)
        rcases hout with ⟨_, hq⟩ | ⟨g, _⟩
        · exact hK _ _ c' m (h.put hs hp ho hni hbef haft hz2 hu (.inl hslot) hq.yE hq.hr (hq.roOf h.ro) (hq.ext.low hbase)
            (fun b oi hb => by rcases hq.oNew b oi hb with g | g; exact .inl ⟨_, g⟩; omega) (fun b r hb => by rcases hq.nNew b r hb with g | g; exact .inl ⟨_, g⟩; omega) (pqq hq) (.inl ⟨rfl, him⟩))
        · rw [hq0] at g; cases g
      cases hpo : pureOp o with
      | true => exact light (pure_quiet hpo _) ((hk.pure hpo).2 (zs m).hp)
      | false =>
      cases hso : softOp o with
      | true =>
        have hm1 := h.m1
        refine light (soft_quiet hso _) ((hk.soft hso).2 (zs m).hp ?_)
        rcases Nat.lt_or_ge i m with hlt | hge
        · -- later writes keep the shape
          have up : ∀ d, i + d ≤ m → ShapeLe (zs i).hp (zs (i + d)).hp := fun d => by
            induction d with
            | zero => intro _; exact .refl _
            | succ d ih =>
              intro hd
              refine (ih (by omega)).trans ?_
              have hx : ops[i + d]? = some ops[i + d] := by simp
              cases he : effAt ops (i + d) with
              | false => exact ((hs _ _ hx).le he).shape
              | true =>
                have hin := h.m2 (i + d) (by omega) he
                have hne : i < i + d := by
                  rcases Nat.eq_zero_or_pos d with e | e
                  · subst e; exact absurd hin hni
                  · omega
                exact ((hs _ _ hx).store ((pair_soft hp ho hx hne (.inl hso) (haft _ hin)).2 (by rw [← eff_at hx]; exact he) hpo)).1
          have := up (m - i) (by omega)
          rwa [show i + (m - i) = m from by omega] at this
        · -- ahead of a write that keeps the shape
          have hmi : m < i := by omega
          rcases h.m3 with g | ⟨g1, g2⟩
          · omega
          · have hxm : ops[m]? = some ops[m] := by simp
            obtain ⟨s1, s2⟩ := (pair_soft hp hxm ho hmi (.inr hso) (fun hb => g2 (hbef m hb))).1 (by rw [← eff_at hxm]; exact g1) hpo
            have down : ∀ d, m + d ≤ i → ShapeLe (zs (m + d)).hp (zs m).hp := fun d => by
              induction d with
              | zero => intro _; exact .refl _
              | succ d ih =>
                intro hd
                refine ShapeLe.trans ?_ (ih (by omega))
                have hx : ops[m + d]? = some ops[m + d] := by simp
                have hst : storeOp ops[m + d] = true → ShapeLe (zs (m + (d + 1))).hp (zs (m + d)).hp := fun g => ((hs _ _ hx).store g).2
                rcases Nat.eq_zero_or_pos d with e | e
                · subst e; exact hst s1
                · rcases s2 (m + d) _ hx (by omega) (by omega) with g | g | g
                  · rw [show m + (d + 1) = m + d + 1 from rfl, (hs _ _ hx).same g]; exact .refl _
                  · rw [show m + (d + 1) = m + d + 1 from rfl, (hs _ _ hx).same' g]; exact .refl _
                  · exact hst g
            have := down (i - m) (by omega)
            rwa [show m + (i - m) = i from by omega] at this
      | false =>
      cases hro : readBase o with
      | some rb =>
        have hm1 := h.m1
        obtain ⟨bst, hst1, hst2⟩ := hst
        have hgate := (gateSt_some hst1).2
        refine light (read_quiet hro _) ((hk.read hro).2 (zs m).hp ?_)
        rcases Nat.lt_or_ge i m with hlt | hge
        · cases hfree : heapFree (evL (zs i).lk rb) with
          | true => exact .inl hfree
          | false =>
          have fst : ∀ k, i < k → k < m → effAt ops k = true → ∃ y, ops[k]? = some y ∧ (i, k) ∈ gl ∧ gateStatic ops i k o y = true := fun k h1 h2 he => by
            have hin := h.m2 k h2 he
            have hx : ops[k]? = some ops[k] := by simp
            exact ⟨_, hx, pair_gate hp ho hx h1 (haft k hin) (.inr ⟨by rw [← eff_at hx]; exact he, hpo, hso⟩)⟩
          have kept : ∀ k y, i < k → k ≤ ops.size → ops[k]? = some y → gateStatic ops i k o y = true → evL (zs k).lk rb = evL (zs i).lk rb := fun k y h1 h2 hy hg => by
            have hxe : effOp ops o = false := by
              cases he : effOp ops o with
              | false => rfl
              | true => rw [eff_noread he] at hro; cases hro
            unfold gateStatic at hg
            rw [hxe, hro] at hg
            simp only [cond_false, Bool.and_eq_true] at hg
            have hg2 := hg.2
            split at hg2
            case h_2 => cases hg2
            rename_i b0 t0 e1 e2
            cases e1
            cases rb with
            | tmp t =>
              refine z_lk hs (Nat.le_of_lt h1) h2 fun k' c1 c2 hw => ?_
              obtain ⟨z, hz', hzt⟩ := hw
              unfold slotKept at hg2
              have := List.all_eq_true.1 hg2 k' (List.mem_range.2 (Array.getElem?_eq_some_iff.1 hz').1)
              rw [nth?_eq, Array.getElem?_toList, hz'] at this
              have q1 : Nat.ble i k' = true := by rw [Nat.ble_eq]; exact c1
              have q2 : Nat.blt k' k = true := by rw [Nat.blt_eq]; exact c2
              simp [q1, q2, hzt] at this
            | const _ => rfl
            | global _ => rfl
            | func _ => rfl
          cases hbo : blockOf (evL (zs i).lk rb) with
          | none =>
            rcases hk.readable hro with g | ⟨b', g⟩
            · rw [hfree] at g; cases g
            · rw [hbo] at g; cases g
          | some bi =>
            refine .inr ⟨bi, hbo, ?_⟩
            have up : ∀ d, i + d ≤ m → ∀ k0, (zs i).hp.blocks[bi]? = some k0 → ∃ k', (zs (i + d)).hp.blocks[bi]? = some k' ∧ ABro k0 k' := fun d => by
              induction d with
              | zero => intro _ k0 hk0; exact ⟨k0, hk0, .refl _⟩
              | succ d ih =>
                intro hd k0 hk0
                obtain ⟨k1, hk1, r1⟩ := ih (by omega) k0 hk0
                have hx : ops[i + d]? = some ops[i + d] := by simp
                have viaLe : HpLe (zs (i + d)).hp (zs (i + d + 1)).hp → ∃ k', (zs (i + d + 1)).hp.blocks[bi]? = some k' ∧ ABro k0 k' := fun hle => by
                  obtain ⟨k2, hk2, r2⟩ := hle.b bi k1 hk1
                  exact ⟨k2, hk2, r1.trans r2⟩
                show ∃ k', (zs (i + d + 1)).hp.blocks[bi]? = some k' ∧ ABro k0 k'
                cases he : effAt ops (i + d) with
                | false => exact viaLe ((hs _ _ hx).le he)
                | true =>
                  have hin := h.m2 (i + d) (by omega) he
                  have hne : i < i + d := by
                    rcases Nat.eq_zero_or_pos d with e | e
                    · subst e; exact absurd hin hni
                    · omega
                  obtain ⟨y, hy, hgl, hgs⟩ := fst (i + d) hne (by omega) he
                  have hkept := kept (i + d) y hne (by omega) hy hgs
                  rw [hx] at hy
                  cases hy
                  have hstep := hs _ _ hx
                  generalize zs (i + d + 1) = zn at hstep viaLe ⊢
                  cases hstep with
                  | skip => exact ⟨k1, hk1, r1⟩
                  | run v2 h2' _ _ h3 hk2 =>
                    obtain ⟨b2, g1, g2⟩ := h3
                    cases hie : isEff ops[i + d] (evL (zs (i + d)).lk) with
                    | false => exact viaLe (hk2.le hie)
                    | true =>
                      have hga := (gateSt_some g1).2
                      have hone := List.all_eq_true.1 hga _ hgl
                      simp only [Nat.beq_refl, Bool.not_true, Bool.false_or] at hone
                      unfold gateOne at hone
                      rw [nth?_eq, Array.getElem?_toList, ho, nth?_eq, Array.getElem?_toList, hx] at hone
                      have hxe : effOp ops o = false := by
                        cases he : effOp ops o with
                        | false => rfl
                        | true => rw [eff_noread he] at hro; cases hro
                      simp only [hxe, cond_false, hro] at hone
                      split at hone
                      case h_2 => cases hone
                      rename_i b0 t0 e1 e2
                      cases e1
                      obtain ⟨bt, kt, ht1, ht2⟩ := hk2.target hie e2
                      rw [hkept] at hone
                      unfold apart at hone
                      have hft : heapFree (evL (zs (i + d)).lk t0) = false := by
                        revert ht1
                        cases evL (zs (i + d)).lk t0 <;> simp [blockOf, heapFree]
                      rw [hfree, hft, hbo, ht1] at hone
                      simp only [Bool.false_or, Bool.not_eq_true'] at hone
                      have hneq : bi ≠ bt := fun e => by rw [e, Nat.beq_refl] at hone; cases hone
                      refine ⟨k1, ?_, r1⟩
                      show h2'.blocks[bi]? = some k1
                      rw [ht2]
                      simp only [Hp.setB]
                      rw [setNth_eq, List.getElem?_set, if_neg (fun e => hneq e.symm)]
                      exact hk1
            have := up (m - i) (by omega)
            rwa [show i + (m - i) = m from by omega] at this
        · have hmi : m < i := by omega
          rcases h.m3 with g | ⟨g1, g2⟩
          · omega
          · have hxm : ops[m]? = some ops[m] := by simp
            have hme : effOp ops ops[m] = true := by rw [← eff_at hxm]; exact g1
            obtain ⟨hgl, hgs⟩ := pair_gate hp hxm ho hmi (fun hb => g2 (hbef m hb)) (.inl ⟨hme, hpo, hso⟩)
            have hone := List.all_eq_true.1 hgate _ hgl
            simp only [Nat.beq_refl, Bool.not_true, Bool.false_or] at hone
            unfold gateOne at hone
            rw [nth?_eq, Array.getElem?_toList, hxm, nth?_eq, Array.getElem?_toList, ho] at hone
            simp only [hme, cond_true, hro] at hone
            exact .inl hone
      | none =>
        have hlt : i < m := by
          rcases Nat.lt_or_ge i m with g | g
          · exact g
          · have hmi : m < i := by omega
            rcases h.m3 with g' | ⟨g1, g2⟩
            · omega
            · have hx : ops[m]? = some ops[m] := by simp
              exact absurd (hbef m (pair_eff hp hx ho hmi (.inl ⟨by rw [← eff_at hx]; exact g1, hpo, hso, hro⟩))) g2
        have hm1 := h.m1
        have hnoe : ∀ k, i ≤ k → k < m → effAt ops k = false := fun k h1 h2 => by
          cases he : effAt ops k with
          | false => rfl
          | true =>
            have hin := h.m2 k h2 he
            rcases Nat.eq_or_lt_of_le h1 with e | e
            · subst e; exact absurd hin hni
            · have hx : ops[k]? = some ops[k] := by simp
              exact absurd (pair_eff hp ho hx e (.inr ⟨by rw [← eff_at hx]; exact he, hpo, hso, hro⟩)) (haft k hin)
        have hei : isEff o (evL (zs i).lk) = false := by obtain ⟨bst, q1, q2⟩ := hst; exact q2.resolve_left (by rw [(gateSt_some q1).1, hnoe i (Nat.le_refl _) hlt]; simp)
        have e1 := z_le hs (Nat.le_of_lt hlt) hm1 hnoe
        have e2 := z_le hs (show i + 1 ≤ m from hlt) hm1 (fun k h1 h2 => hnoe k (by omega) h2)
        rw [hz1] at e2
        have hfree : ∀ b, (zs i).hp.blocks.length ≤ b → b < h'.blocks.length → c.O b = none := fun b h1 h2 => by
          cases hO : c.O b with
          | none => rfl
          | some oi =>
            rcases h.dom b oi hO with g | ⟨j, hj, g1, g2⟩
            · have := (z_len hs (Nat.zero_le i) (Nat.le_of_lt hio)).1; omega
            · have hjl := In_lt hj
              rw [h.size] at hjl
              rcases Nat.lt_trichotomy j i with g | g | g
              · have := (z_len hs (show j + 1 ≤ i from g) (Nat.le_of_lt hio)).1; omega
              · subst g; exact absurd hj hni
              · have := (z_len hs (show i + 1 ≤ j from g) (Nat.le_of_lt hjl)).1; rw [hz1] at this; omega
        have hfreeM : ∀ b, (zs i).hp.maps.length ≤ b → b < h'.maps.length → c.N b = none := fun b h1 h2 => by
          cases hO : c.N b with
          | none => rfl
          | some oi =>
            rcases h.domN b oi hO with g | ⟨j, hj, g1, g2⟩
            · have := (z_len hs (Nat.zero_le i) (Nat.le_of_lt hio)).2; omega
            · have hjl := In_lt hj
              rw [h.size] at hjl
              rcases Nat.lt_trichotomy j i with g | g | g
              · have := (z_len hs (show j + 1 ≤ i from g) (Nat.le_of_lt hio)).2; omega
              · subst g; exact absurd hj hni
              · have := (z_len hs (show i + 1 ≤ j from g) (Nat.le_of_lt hjl)).2; rw [hz1] at this; omega
        refine wp_in hnd (kind_ok hT (h.hr.back e1) hbase hρ hk (fun he => by rw [hei] at he; cases he) hfree hfreeM fun u w' c' hout hu => ?_)
        rcases hout with ⟨_, hq⟩ | ⟨g, _⟩
        · obtain ⟨k1, k2⟩ := hq.beside h.hr h.ro hrange hrangeM (.refl _) e2
          exact hK _ _ c' m (h.put hs hp ho hni hbef haft hz2 hu (.inl hslot) hq.yE k1 k2 (hq.ext.low hbase)
            (fun b oi hb => by rw [hz1]; rcases hq.oNew b oi hb with g | g; exact .inl ⟨_, g⟩; exact .inr g) (fun b r hb => by rw [hz1]; rcases hq.nNew b r hb with g | g; exact .inl ⟨_, g⟩; exact .inr g) (pqq hq) (.inl ⟨rfl, him⟩))
        · rw [hei] at g; cases g

include hs hp in
theorem di_any (hT : TOK P T) (hedges : ∀ (j : Nat) y, ops[j]? = some y → ∀ e ∈ y.after, Region.binds .any e = true → e.on < j) {Q : Exit → Act → World → Prop}
    (hQ : ∀ s' a' w' c', zOf s' = zs ops.size → s'.sv = sv0 → SR P F w0 q s' a' w' c' → Q .normal a' w') {s' : St} (hs' : zOf s' = zs ops.size) (hsv : s'.sv = sv0) :
    ∀ (fuel : Nat) (listed : Array Bool) (m : Nat) (a : Act) (w : World) (c : Cx), listed.toList.count false ≤ fuel → DI P ops zs F sv0 w0 q listed m a w c → wpAnyIn (FR F.r) 0 P .any ops Q fuel listed a w := by
  have done : ∀ (listed : Array Bool) (m : Nat) (a : Act) (w : World) (c : Cx), DI P ops zs F sv0 w0 q listed m a w c → Region.ready .any ops listed = [] → Q .normal a w := by
    intro listed m a w c h hr
    have all : ∀ k j, j < k → j < ops.size → In listed j := by
      intro k
      induction k with
      | zero => intro j hj; omega
      | succ k ih =>
        intro j hj hjo
        rcases Nat.lt_or_ge j k with g | g
        · exact ih j g hjo
        · have : j = k := by omega
          subst this
          cases hl : listed.getD j false with
          | true => exact hl
          | false =>
            exfalso
            have hx : ops[j]? = some ops[j] := by simp
            have hjl : j < listed.size := by rw [h.size]; exact hjo
            have : j ∈ Region.ready .any ops listed := mem_ready.2 ⟨by simp [hjl] at hl ⊢; exact hl, _, hx, fun e he hb => ih e.on (hedges j _ hx e he hb) (Nat.lt_trans (hedges j _ hx e he hb) hjo)⟩
            rw [hr] at this
            cases this
    have hm : m = ops.size := by
      rcases h.m3 with g | ⟨_, g⟩
      · exact g
      · have := h.m1
        rcases Nat.lt_or_ge m ops.size with g' | g'
        · exact absurd (all (m + 1) m (by omega) g') g
        · omega
    obtain ⟨r1, r2⟩ := h.range hs hp
    subst hm
    have e1 : s'.hp = (zs ops.size).hp := by rw [← hs']; rfl
    have e2 : look s'.tm = (zs ops.size).lk := by rw [← hs']; rfl
    obtain ⟨j1, j2⟩ := z_keep hs ops.size (Nat.le_refl _)
    refine hQ s' a w c hs' hsv ⟨⟨by rw [e1]; exact h.hr, by rw [e1]; exact h.ro, by rw [e1]; exact r1, by rw [e1]; exact r2, by rw [e1, j2]; exact h.side.hy, h.below, h.pq, by rw [hsv]; exact h.side.sv, h.side.keep, by rw [e1, j1]; exact h.side.rcd⟩, fun t => ?_, h.tsize, h.side.defers⟩
    rw [e2]
    refine h.tm t ops.size (Nat.le_refl _) (fun j hj _ => all (j + 1) j (by omega) hj) (fun j hj hw => ?_)
    obtain ⟨x, hx, _⟩ := hw
    have := (Array.getElem?_eq_some_iff.1 hx).1
    omega
  intro fuel
  induction fuel with
  | zero =>
    intro listed m a w c hc h
    have hr : Region.ready .any ops listed = [] := by
      cases hrr : Region.ready .any ops listed with
      | nil => rfl
      | cons i r =>
        exfalso
        have hi : i ∈ Region.ready .any ops listed := by rw [hrr]; exact .head _
        obtain ⟨hun, o, ho, _⟩ := mem_ready.1 hi
        have hil : i < listed.size := by rw [h.size]; exact (Array.getElem?_eq_some_iff.1 ho).1
        have : false ∈ listed.toList := by
          simp [hil] at hun
          rw [← hun]
          simp
        have := List.count_pos_iff.2 this
        omega
    exact ⟨hr, done listed m a w c h hr⟩
  | succ fuel ih =>
    intro listed m a w c hc h
    refine ⟨done listed m a w c h, fun i hi => di_step hs hp hT h hi fun a' w' c' m' h' => ih _ m' a' w' c' ?_ h'⟩
    obtain ⟨hun, o, ho, _⟩ := mem_ready.1 hi
    have hil : i < listed.size := by rw [h.size]; exact (Array.getElem?_eq_some_iff.1 ho).1
    have hf : listed.toList[i]'(by simpa using hil) = false := by
      simp [hil] at hun
      simpa using hun
    rw [Array.toList_setIfInBounds, List.count_set (by simpa using hil), hf]
    show List.count false listed.toList - 1 + 0 ≤ fuel
    omega
end

/-- Regions that draw are as their text, where the rules take any order. -/
theorem drawn_ok {P : Program} {T : Nat → Option TI} (hT : TOK P T) (hm : P.follows .mixedOrders = true) : DrawnOk P T := by
  intro F E w0 q id ops K Q s a w c gl hS hd hQ h hw
  unfold drawOk at hd
  rw [Bool.and_eq_true] at hd
  have hall := all_pair ops.toList 0 hd.1
  have hp : ∀ (i j : Nat) x y, ops[i]? = some x → ops[j]? = some y → i < j → pairOk gl ops (befores ops.toList []) i j x y = true := fun i j x y hx hy hij => by
    have := (hall j y (by simpa using hy)).1 i x hx (by omega)
    simpa using this
  have hedges : ∀ (j : Nat) y, ops[j]? = some y → ∀ e ∈ y.after, Region.binds .any e = true → e.on < j := fun j y hy e he hb => by
    have := (hall j y (by simpa using hy)).2 e he hb
    simpa using this
  obtain ⟨zs, g1, g2, s', g3, g4, g5⟩ := trace_of hS ops.toList 0 s hw
  have hs : ∀ (k : Nat) o, ops[k]? = some o → Step P T F.n ops (gateSt gl ops k) o (zs k) (zs (k + 1)) := fun k o hk => by
    have := g2 k o (by simpa using hk)
    simpa using this
  have g4' : zOf s' = zs ops.size := by simpa using g4
  have hK : ∀ s2 a' w' c', zOf s2 = zs ops.size → s2.sv = s.sv → SR P F w0 q s2 a' w' c' → Q .normal a' w' := fun s2 a' w' c' hz hsv hsr => by
    have e : zOf s2 = zOf s' := hz.trans g4'.symm
    have e1 : s'.hp = s2.hp := by injection e with _ e; exact e.symm
    have e2 : look s'.tm = look s2.tm := by injection e with e _; exact e.symm
    exact hQ s' a' w' c' ⟨⟨by rw [e1]; exact hsr.hr, by rw [e1]; exact hsr.ro, by rw [e1]; exact hsr.hi, by rw [e1]; exact hsr.hiM, by rw [e1]; exact hsr.hy, hsr.below, hsr.pq, by rw [g5, ← hsv]; exact hsr.sv, hsr.keep, by rw [e1]; exact hsr.rcd⟩, fun t => by rw [e2]; exact hsr.tm t, hsr.size, hsr.defers⟩ g3
  refine wpIn_region_any hm ?_
  have h' := h.drew
  obtain ⟨m, n1, n2, n3, n4⟩ := next_eff (ops := ops) _ 0 rfl (Nat.zero_le _)
  have e0 := z_le hs n1 n2 n3
  have z0 : (zs 0).hp = s.hp := by rw [g1]; rfl
  rw [z0] at e0
  have none : ∀ j, ¬ In (Array.replicate ops.size false) j := fun j hj => by
    have := In_lt hj
    unfold In at hj
    simp at this
    simp [this] at hj
  refine di_any (sv0 := s.sv) hs hp hT hedges hK g4' g5 ops.size _ m a _ c (by simp) ⟨by simp, h'.hr.grow h'.hi h'.hiM e0, h'.ro.grow e0, fun b oi hb => .inl (by rw [z0]; exact h'.hi b oi hb), fun b r hb => .inl (by rw [z0]; exact h'.hiM b r hb), fun t i hi c1 c2 => ?_, h'.size, ⟨by rw [z0]; exact h'.hy, h'.sv, h'.keep, by rw [z0]; exact h'.rcd, h'.defers⟩, h'.below, h'.pq,
    fun i j hj => absurd hj (none j), n2, fun j hj he => (by rw [n3 j (Nat.zero_le _) hj] at he; cases he), n4.imp (fun g => g) fun g => ⟨g, none m⟩⟩
  have : (zs i).lk t = (zs 0).lk t := z_lk hs (Nat.zero_le i) hi fun k _ hk hw => none k (c1 k hk hw)
  rw [this, g1]
  exact h'.tm t
end Go.Tr

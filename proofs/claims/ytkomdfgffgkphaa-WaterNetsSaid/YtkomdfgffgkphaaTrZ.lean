/- Regions that draw their order: any order leads where the order of the text leads. Conditions: none. -/
import Derived.Test.YtkomdfgffgkphaaTrY
namespace Go.Tr
open Go Go.RowKit

/-- A state of the walk: what the slots hold, and the heap. -/
structure Z where
  lk : Tmp → AV
  hp : Hp

def upd (lk : Tmp → AV) (d : Option Tmp) (v : AV) : Tmp → AV := fun t => if d = some t then v else lk t

theorem look_put_upd (s : St) (d : Option Tmp) (v : AV) : look (s.put d v).tm = upd (look s.tm) d v := by
  funext t
  cases d with
  | none => simp [St.put, upd]
  | some d => rw [look_put]; simp [upd]

theorem hp_put (s : St) (d : Option Tmp) (v : AV) : (s.put d v).hp = s.hp := by cases d <;> rfl

theorem upd_known {lk : Tmp → AV} {t : Tmp} {v : AV} (h : lk t = v) : upd lk (some t) v = lk := by
  funext t'
  unfold upd
  split
  · rename_i e; cases e; exact h.symm
  · rfl

/-- One step of the walk in the order of the text. -/
inductive Step (P : Program) (T : Nat → Option TI) (n : Nat) (ops : Array Oper) (st : (Operand → AV) → Option Bool) (o : Oper) (z : Z) : Z → Prop
  | run (v : AV) (h' : Hp) : (o.guard = none ∨ ∃ j t b, o.guard = some (j, b) ∧ (nth? ops.toList j).bind (·.dst) = some t ∧ z.lk t = .val (.bool b)) →
      slotOk n o.dst = true → (∃ b, st (evL z.lk) = some b ∧ (b = true ∨ isEff o (evL z.lk) = false)) → Kind P T o (evL z.lk) z.hp v h' → Step P T n ops st o z ⟨upd z.lk o.dst v, h'⟩
  | skip (j : Nat) (t : Tmp) (want : Bool) (v : Value) : o.guard = some (j, want) → (nth? ops.toList j).bind (·.dst) = some t → z.lk t = .val v → v ≠ .bool want → Step P T n ops st o z ⟨upd z.lk o.dst (.val undef), z.hp⟩

def zOf (s : St) : Z := ⟨look s.tm, s.hp⟩

section
variable {P : Program} {T : Nat → Option TI} {n : Nat} {ops : Array Oper} {st : Nat → (Operand → AV) → Option Bool} {K : St → Prop} {E : Env} (hS : ∀ f args r fr, E.S f args r fr → Sound1 P f args r fr)

include hS in
theorem one_step {stb : (Operand → AV) → Option Bool} {o : Oper} {s : St} {K : St → Prop} (hg : o.guard = none ∨ ∃ j t b, o.guard = some (j, b) ∧ (nth? ops.toList j).bind (·.dst) = some t ∧ look s.tm t = .val (.bool b)) (h : oneW E.plain T n stb o s K) : ∃ s', K s' ∧ Step P T n ops stb o (zOf s) (zOf s') ∧ s'.sv = s.sv := by
  unfold oneW at h
  simp only [putF_eq] at h
  split at h
  · exact h.elim
  rename_i bb hbb
  split at h
  case h_2 => exact h.elim
  rename_i hs
  rw [Bool.and_eq_true, Bool.or_eq_true] at hs
  have hst : ∃ b, stb (evL (zOf s).lk) = some b ∧ (b = true ∨ isEff o (evL (zOf s).lk) = false) := by
    refine ⟨bb, by rw [eval_evL] at hbb; exact hbb, ?_⟩
    rcases hs.2 with g | g
    · exact .inl g
    · right
      rw [eval_evL] at g
      simpa [zOf] using g
  have fin : ∀ v h', K (({ s with hp := h' } : St).put o.dst v) → Kind P T o (evL (zOf s).lk) (zOf s).hp v h' → ∃ s', K s' ∧ Step P T n ops stb o (zOf s) (zOf s') ∧ s'.sv = s.sv := fun v h' hk hkd => by
    refine ⟨_, hk, ?_, by cases o.dst <;> rfl⟩
    have e : zOf (({ s with hp := h' } : St).put o.dst v) = ⟨upd (zOf s).lk o.dst v, h'⟩ := by
      unfold zOf
      rw [look_put_upd, hp_put]
    rw [e]
    exact .run v h' hg hs.1 hst hkd
  unfold opW at h
  rw [eval_evL] at h
  split at h
  · exact h.elim
  · rename_i v h' hev
    exact fin v h' h (.op v h' (by show (opEv T o (evL (look s.tm)) s.hp).gives v h'; rw [hev]; exact ⟨rfl, rfl⟩))
  · rename_i p v h' hev
    exact fin v h' h.2 (.op v h' (by show (opEv T o (evL (look s.tm)) s.hp).gives v h'; rw [hev]; exact ⟨h.1, rfl, rfl⟩))
  · rename_i p _ b h' hev
    have h : p ∧ K ((({ s with hp := h' } : St)).put o.dst (.val (.bool b))) := h
    exact fin _ h' h.2 (.op _ h' (by show (opEv T o (evL (look s.tm)) s.hp).gives _ h'; rw [hev]; exact ⟨h.1, rfl, rfl⟩))
  · rename_i g as bs ms hev
    split at h
    case h_2 => exact h.elim
    rename_i f args ts hop
    rcases h with ⟨r, fr, hS', hk⟩ | hf
    · cases fr with
      | true => exact fin _ _ hk (.own g as bs ms f args ts r hev hop (hS _ _ _ _ hS'))
      | false => exact fin _ _ hk (.shared g as bs ms f args ts r hev hop (hS _ _ _ _ hS'))
    · exact hf.elim
  · split at h
    · exact h.elim
    · exact h.elim

include hS in
theorem trace_of : ∀ (l : List Oper) (i : Nat) (s : St), opsW E.plain T n st ops K i l s →
    ∃ zs : Nat → Z, zs i = zOf s ∧ (∀ (k : Nat) o, l[k]? = some o → Step P T n ops (st (i + k)) o (zs (i + k)) (zs (i + k + 1))) ∧ ∃ s', K s' ∧ zOf s' = zs (i + l.length) ∧ s'.sv = s.sv
  | [], i, s, h => ⟨fun _ => zOf s, rfl, fun k o hk => by simp at hk, s, h, rfl, rfl⟩
  | o :: r, i, s, h => by
    have go : ∀ s1, (∃ s2, opsW E.plain T n st ops K (i + 1) r s2 ∧ Step P T n ops (st i) o (zOf s1) (zOf s2) ∧ s2.sv = s1.sv) → zOf s1 = zOf s → s1.sv = s.sv →
        ∃ zs : Nat → Z, zs i = zOf s ∧ (∀ (k : Nat) o', (o :: r)[k]? = some o' → Step P T n ops (st (i + k)) o' (zs (i + k)) (zs (i + k + 1))) ∧ ∃ s', K s' ∧ zOf s' = zs (i + (o :: r).length) ∧ s'.sv = s.sv := by
      rintro s1 ⟨s2, hw, hst, hsv⟩ heq hsv1
      obtain ⟨zs, g1, g2, s', g3, g4, g5⟩ := trace_of r (i + 1) s2 hw
      refine ⟨fun k => if k ≤ i then zOf s else zs k, if_pos (Nat.le_refl _), fun k o' hk => ?_, s', g3, ?_, g5.trans (hsv.trans hsv1)⟩
      · cases k with
        | zero =>
          simp at hk
          subst hk
          dsimp only
          simp only [Nat.add_zero]
          rw [if_pos (Nat.le_refl _), if_neg (by omega), g1, ← heq]
          exact hst
        | succ k =>
          have := g2 k o' (by simpa using hk)
          dsimp only
          rw [if_neg (by omega), if_neg (by omega)]
          rw [show i + (k + 1) = i + 1 + k from by omega]
          exact this
      · dsimp only
        rw [if_neg (by simp)]
        rw [g4]
        congr 1
        simp; omega
    have known : ∀ t b, look s.tm t = .val (.bool b) → zOf (s.put (some t) (.val (.bool b))) = zOf s := fun t b ht => by
      unfold zOf
      rw [look_put_upd, hp_put, upd_known ht]
    unfold opsW at h
    simp only [putF_eq] at h
    split at h
    · rename_i hg
      exact go s (one_step hS (.inl hg) h) rfl rfl
    · rename_i j want hg
      split at h
      · exact h.elim
      · rename_i t ht
        split at h
        · rename_i b hl
          have hk := known t b hl
          have hl' : look (s.put (some t) (.val (.bool b))).tm t = .val (.bool b) := by rw [look_put]; simp
          have skip : want = !b → opsW E.plain T n st ops K (i + 1) r ((s.put (some t) (.val (.bool b))).put o.dst (.val undef)) → ∃ s2, opsW E.plain T n st ops K (i + 1) r s2 ∧ Step P T n ops (st i) o (zOf (s.put (some t) (.val (.bool b)))) (zOf s2) ∧ s2.sv = (s.put (some t) (.val (.bool b))).sv := fun hwb hw => by
            refine ⟨_, hw, ?_, by cases o.dst <;> rfl⟩
            have e : zOf ((s.put (some t) (.val (.bool b))).put o.dst (.val undef)) = ⟨upd (zOf (s.put (some t) (.val (.bool b)))).lk o.dst (.val undef), (zOf (s.put (some t) (.val (.bool b)))).hp⟩ := by
              unfold zOf
              rw [look_put_upd, hp_put]
            rw [e]
            exact .skip j t want (.bool b) hg ht hl' (by rw [hwb]; cases b <;> simp)
          cases b <;> cases want <;> simp only [ifB] at h
          · exact go _ (one_step hS (.inr ⟨j, t, false, hg, ht, hl'⟩) h) hk rfl
          · exact go _ (skip rfl h) hk rfl
          · exact go _ (skip rfl h) hk rfl
          · exact go _ (one_step hS (.inr ⟨j, t, true, hg, ht, hl'⟩) h) hk rfl
        · rename_i vs hl
          refine go s ⟨_, h, ?_, by cases o.dst <;> rfl⟩ rfl rfl
          have e : zOf (s.put o.dst (.val undef)) = ⟨upd (zOf s).lk o.dst (.val undef), (zOf s).hp⟩ := by
            unfold zOf
            rw [look_put_upd, hp_put]
          rw [e]
          exact .skip j t want (.tuple vs) hg ht hl (by simp)
        · exact h.elim
end

/-! ### What stands before what -/

def bitsOf (acc : List Nat) (o : Oper) : Nat := o.after.toList.foldl (fun s e => bif Region.binds .any e then s ||| 2 ^ e.on ||| acc.getD e.on 0 else s) 0

theorem foldl_bits (acc : List Nat) (i : Nat) : ∀ (l : List Edge) (s : Nat), (l.foldl (fun s e => bif Region.binds .any e then s ||| 2 ^ e.on ||| acc.getD e.on 0 else s) s).testBit i = true →
    s.testBit i = true ∨ ∃ e ∈ l, Region.binds .any e = true ∧ (i = e.on ∨ (acc.getD e.on 0).testBit i = true)
  | [], s, h => .inl h
  | e :: l, s, h => by
    rcases foldl_bits acc i l _ h with g | ⟨e', he', hb, g⟩
    · dsimp only at g
      cases hb : Region.binds .any e with
      | false => rw [hb] at g; exact .inl g
      | true =>
        rw [hb] at g
        simp only [cond_true, Nat.testBit_or, Nat.testBit_two_pow, Bool.or_eq_true, decide_eq_true_eq] at g
        rcases g with (g | g) | g
        · exact .inl g
        · exact .inr ⟨e, .head _, hb, .inl g.symm⟩
        · exact .inr ⟨e, .head _, hb, .inr g⟩
    · exact .inr ⟨e', .tail _ he', hb, g⟩

theorem befores_get : ∀ (l : List Oper) (acc : List Nat), (∀ k, k < acc.length → (befores l acc).getD k 0 = acc.getD k 0) ∧ ∀ (k : Nat) o, l[k]? = some o → ∃ acc' : List Nat, (∀ q, acc'.getD q 0 = (befores l acc).getD q 0 ∨ acc'.getD q 0 = 0) ∧ (befores l acc).getD (acc.length + k) 0 = bitsOf acc' o
  | [], acc => ⟨fun k _ => rfl, fun k o h => by simp at h⟩
  | o :: r, acc => by
    obtain ⟨g1, g2⟩ := befores_get r (acc ++ [bitsOf acc o])
    have he : befores (o :: r) acc = befores r (acc ++ [bitsOf acc o]) := rfl
    rw [he]
    refine ⟨fun k hk => ?_, fun k o' hk => ?_⟩
    · rw [g1 k (by simp; omega)]
      simp [List.getD_eq_getElem?_getD, List.getElem?_append_left hk]
    · cases k with
      | zero =>
        simp at hk
        subst hk
        refine ⟨acc, fun q => ?_, ?_⟩
        · by_cases hq : q < acc.length
          · left; rw [g1 q (by simp; omega)]; simp [List.getD_eq_getElem?_getD, List.getElem?_append_left hq]
          · right; simp [List.getD_eq_getElem?_getD, List.getElem?_eq_none (show acc.length ≤ q from by omega)]
        · rw [g1 _ (by simp)]; simp [List.getD_eq_getElem?_getD]
      | succ k =>
        obtain ⟨acc', h1, h2⟩ := g2 k o' (by simpa using hk)
        refine ⟨acc', h1, ?_⟩
        rw [← h2]
        congr 1
        simp; omega

/-- What stands before an operation is named by it, or stands before what it names. -/
theorem before_inv {ops : Array Oper} {i j : Nat} {o : Oper} (ho : ops[j]? = some o) (h : isBefore (befores ops.toList []) i j = true) : ∃ e ∈ o.after, Region.binds .any e = true ∧ (i = e.on ∨ isBefore (befores ops.toList []) i e.on = true) := by
  obtain ⟨_, g⟩ := befores_get ops.toList []
  obtain ⟨acc', h1, h2⟩ := g j o (by simpa using ho)
  unfold isBefore at h
  rw [show ([] : List Nat).length + j = j from by simp] at h2
  rw [h2] at h
  rcases foldl_bits acc' i _ _ h with g | ⟨e, he, hb, g⟩
  · simp at g
  · refine ⟨e, by simpa using he, hb, ?_⟩
    rcases g with g | g
    · exact .inl g
    · right
      unfold isBefore
      rcases h1 e.on with q | q
      · rw [← q]; exact g
      · rw [q] at g; simp at g
end Go.Tr

/- Equality of structs and arrays whose cells can be compared. Conditions: none. -/
import Derived.Test.YtkomdfgffgkphaaTrB
import Derived.ChangeKeysEq
namespace Go.Tr
open Go Go.RowKit

theorem kOk_len : ∀ {ks : List LK} {vs : List Value}, kOk ks vs = true → vs.length = ks.length
  | [], [], _ => rfl
  | .bool :: r, .bool _ :: s, h => by simp only [kOk] at h; simp [kOk_len h]
  | .int _ :: r, .int _ _ :: s, h => by simp only [kOk, Bool.and_eq_true] at h; simp [kOk_len h.2]
  | .str :: r, .string _ :: s, h => by simp only [kOk] at h; simp [kOk_len h]
  | [], _ :: _, h => by simp [kOk] at h
  | .bool :: _, [], h => by simp [kOk] at h
  | .int _ :: _, [], h => by simp [kOk] at h
  | .str :: _, [], h => by simp [kOk] at h
  | .bool :: _, v :: _, h => by cases v <;> first | (simp [kOk] at h; done) | (simp only [kOk] at h; simp [kOk_len h])
  | .int _ :: _, v :: _, h => by cases v <;> first | (simp [kOk] at h; done) | (simp only [kOk, Bool.and_eq_true] at h; simp [kOk_len h.2])
  | .str :: _, v :: _, h => by cases v <;> first | (simp [kOk] at h; done) | (simp only [kOk] at h; simp [kOk_len h])

theorem kOk_cons {k : LK} {ks : List LK} {v : Value} {vs : List Value} (h : kOk (k :: ks) (v :: vs) = true) : kOk [k] [v] = true ∧ kOk ks vs = true := by
  cases k <;> cases v <;> simp [kOk] at h ⊢ <;> exact h

theorem kOk_append : ∀ {a b : List LK} {vs : List Value}, kOk (a ++ b) vs = true → kOk a (vs.take a.length) = true ∧ kOk b (vs.drop a.length) = true
  | [], b, vs, h => by simpa [kOk] using h
  | k :: a, b, [], h => by cases k <;> simp [kOk] at h
  | k :: a, b, v :: vs, h => by
    obtain ⟨h1, h2⟩ := kOk_cons (ks := a ++ b) h
    obtain ⟨g1, g2⟩ := kOk_append h2
    refine ⟨?_, by simpa using g2⟩
    simp only [List.length_cons, List.take_succ_cons]
    cases k <;> cases v <;> simp [kOk] at h1 ⊢ <;> first | exact g1 | exact ⟨h1, g1⟩

theorem vEqL_cons {k : LK} {ks : List LK} {v u : Value} {vs us : List Value} (h1 : kOk (k :: ks) (v :: vs) = true) (h2 : kOk (k :: ks) (u :: us) = true) : vEqL (v :: vs) (u :: us) = (vEqL [v] [u] && vEqL vs us) := by
  cases k <;> cases v <;> cases u <;> simp [kOk] at h1 h2 <;> simp [vEqL]

theorem vEqL_append : ∀ {a b : List LK} {vs us : List Value}, kOk (a ++ b) vs = true → kOk (a ++ b) us = true → vEqL vs us = (vEqL (vs.take a.length) (us.take a.length) && vEqL (vs.drop a.length) (us.drop a.length))
  | [], b, vs, us, _, _ => by simp [vEqL]
  | k :: a, b, [], us, h, _ => by cases k <;> simp [kOk] at h
  | k :: a, b, v :: vs, [], _, h => by cases k <;> simp [kOk] at h
  | k :: a, b, v :: vs, u :: us, h1, h2 => by
    obtain ⟨g1, g2⟩ := kOk_cons (ks := a ++ b) h1
    obtain ⟨p1, p2⟩ := kOk_cons (ks := a ++ b) h2
    have ih := vEqL_append g2 p2
    have e1 := vEqL_cons (ks := a ++ b) h1 h2
    rw [e1, ih]
    simp only [List.length_cons, List.take_succ_cons, List.drop_succ_cons]
    have t1 := (kOk_append (a := k :: a) (b := b) h1).1
    have t2 := (kOk_append (a := k :: a) (b := b) h2).1
    simp only [List.length_cons, List.take_succ_cons] at t1 t2
    rw [vEqL_cons t1 t2, Bool.and_assoc]

section
variable {P : Program}

/-- A value as its cells. -/
def AsV (P : Program) (t : TypeId) (xs : List Value) (x : Value) : Prop :=
  match P.underlying t with
  | some (.struct _) | some (.array _ _) => x = .agg xs.toArray
  | _ => xs = [x]

def EqK (P : Program) (dd : Nat) (t : TypeId) (ks : List LK) : Prop :=
  ∀ (w : World) (xs ys : List Value) (x y : Value), kOk ks xs = true → kOk ks ys = true → AsV P t xs x → AsV P t ys y → (Op.equalIn dd t x y).run P w = .ok (vEqL xs ys) w

theorem part_as {t : TypeId} {m : Nat} {ks : List LK} (hk : leafs P m t = some ks) (hc : P.cellsOf t = ks.length) {off : Nat} {cs : Array Value} {xs : List Value} (w : World) (hx : (cs.toList.drop off).take ks.length = xs) (hok : kOk ks xs = true) :
    ∃ a, (part t cs off).run P w = .ok a w ∧ AsV P t xs a := by
  have hlen := kOk_len hok
  cases m with
  | zero => simp [leafs] at hk
  | succ m =>
    have agg : ∀ kd, P.underlying t = some kd → ((∃ n e, kd = .array n e) ∨ ∃ fs, kd = .struct fs) → ∃ a, (part t cs off).run P w = .ok a w ∧ AsV P t xs a := by
      intro kd hu h
      obtain ⟨i, hi⟩ := info_of_underlying hu
      have hl : (cs.extract off (off + P.cellsOf t)) = xs.toArray := by
        apply Array.ext'
        rw [Array.toList_extract, hc, ← hx]
        simp [List.extract]
      refine ⟨.agg xs.toArray, ?_, ?_⟩
      · rw [← hl]
        rcases h with ⟨n, e, rfl⟩ | ⟨fs, rfl⟩ <;> simp [part, isAgg, run_underlying hu, run_sizeOf w hi]
      · unfold AsV
        rcases h with ⟨n, e, rfl⟩ | ⟨fs, rfl⟩ <;> rw [hu]
    have one : ∀ kd, P.underlying t = some kd → P.plainKey t = true → ks.length = 1 → ∃ a, (part t cs off).run P w = .ok a w ∧ AsV P t xs a := by
      intro kd hu hp h1
      rw [h1] at hx hlen
      obtain ⟨v, hv⟩ := List.length_eq_one_iff.1 hlen
      subst hv
      refine ⟨v, run_part_plain w hp ?_, ?_⟩
      · have : (cs.toList.drop off)[0]? = some v := by
          have := congrArg (fun l : List Value => l[0]?) hx
          simpa [List.getElem?_take] using this
        simpa using this
      · unfold AsV
        rw [hu]
        unfold Program.plainKey at hp
        rw [hu] at hp
        cases kd <;> simp at hp <;> rfl
    unfold leafs at hk
    cases hu : P.underlying t with
    | none => rw [hu] at hk; cases hk
    | some kd =>
      rw [hu] at hk
      cases kd
      case bool => exact one _ hu (by simp [Program.plainKey, hu]) (by cases hk; rfl)
      case int k => exact one _ hu (by simp [Program.plainKey, hu]) (by cases hk; rfl)
      case string => exact one _ hu (by simp [Program.plainKey, hu]) (by cases hk; rfl)
      case struct fs => exact agg _ hu (.inr ⟨fs, rfl⟩)
      case array n e => exact agg _ hu (.inl ⟨n, e, rfl⟩)
      all_goals cases hk

theorem run_eqFields_k (dd m : Nat) (hIH : ∀ t ks, leafs P m t = some ks → EqK P dd t ks) (cs ds : Array Value) : ∀ (fs : List Field) (off : Nat) (ks : List LK), leafsF P (leafs P m) fs off = some ks → ∀ (w : World), kOk ks (cs.toList.drop off) = true → kOk ks (ds.toList.drop off) = true →
    (Op.eqFields dd cs ds fs).run P w = .ok (vEqL (cs.toList.drop off) (ds.toList.drop off)) w
  | [], off, ks, h, w, h1, h2 => by
    simp only [leafsF, Option.some.injEq] at h
    subst h
    have e1 : cs.toList.drop off = [] := by exact List.length_eq_zero_iff.1 (kOk_len h1)
    have e2 : ds.toList.drop off = [] := by exact List.length_eq_zero_iff.1 (kOk_len h2)
    rw [e1, e2]
    simp [Op.eqFields, vEqL]
  | f :: fs, off, ks, h, w, h1, h2 => by
    unfold leafsF at h
    split at h
    · rename_i a b ha hb
      cases hc : (f.name != "_" && Nat.beq f.offset off && Nat.beq (P.cellsOf f.type) a.length) with
      | false => rw [hc] at h; cases h
      | true =>
        rw [hc] at h
        cases h
        simp only [Bool.and_eq_true, bne_iff_ne, ne_eq] at hc
        obtain ⟨⟨c1, c2⟩, c3⟩ := hc
        have c2 := Nat.eq_of_beq_eq_true c2
        have c3 := Nat.eq_of_beq_eq_true c3
        obtain ⟨p1, p2⟩ := kOk_append h1
        obtain ⟨q1, q2⟩ := kOk_append h2
        rw [List.drop_drop] at p2 q2
        obtain ⟨x, r1, r2⟩ := part_as ha c3 w rfl p1
        obtain ⟨y, s1, s2⟩ := part_as ha c3 w rfl q1
        have heq := hIH _ _ ha w _ _ x y p1 q1 r2 s2
        have hrest := run_eqFields_k dd m hIH cs ds fs (off + P.cellsOf f.type) b hb w (by rw [c3]; exact p2) (by rw [c3]; exact q2)
        rw [vEqL_append h1 h2, List.drop_drop, List.drop_drop]
        rw [c3] at hrest
        simp only [Op.eqFields, c1, ne_eq, not_false_eq_true, if_true, Sem.run_bind, c2, r1, s1, heq, Result.andThen_ok]
        cases hv : vEqL ((cs.toList.drop off).take a.length) ((ds.toList.drop off).take a.length) with
        | false => simp
        | true => simp [hrest]
    · cases h

theorem run_eqItems_k (dd m : Nat) {e : TypeId} {a : List LK} (ha : leafs P m e = some a) (hIH : EqK P dd e a) (hc : P.cellsOf e = a.length) (cs ds : Array Value) : ∀ (n i : Nat) (w : World), kOk ((List.range n).flatMap fun _ => a) (cs.toList.drop (i * a.length)) = true → kOk ((List.range n).flatMap fun _ => a) (ds.toList.drop (i * a.length)) = true →
    (Op.eqItems dd e (P.cellsOf e) cs ds (List.range' i n)).run P w = .ok (vEqL (cs.toList.drop (i * a.length)) (ds.toList.drop (i * a.length))) w
  | 0, i, w, h1, h2 => by
    have e1 : cs.toList.drop (i * a.length) = [] := by exact List.length_eq_zero_iff.1 (by rw [kOk_len h1]; rfl)
    have e2 : ds.toList.drop (i * a.length) = [] := by exact List.length_eq_zero_iff.1 (by rw [kOk_len h2]; rfl)
    rw [e1, e2]
    simp [Op.eqItems, vEqL]
  | n + 1, i, w, h1, h2 => by
    have hfl : ((List.range (n + 1)).flatMap fun _ => a) = a ++ (List.range n).flatMap fun _ => a := by
      rw [List.range_succ_eq_map, List.flatMap_cons, List.flatMap_map]
    rw [hfl] at h1 h2
    obtain ⟨p1, p2⟩ := kOk_append h1
    obtain ⟨q1, q2⟩ := kOk_append h2
    rw [List.drop_drop, show i * a.length + a.length = (i + 1) * a.length from by rw [Nat.add_mul, Nat.one_mul]] at p2 q2
    obtain ⟨x, r1, r2⟩ := part_as ha hc w rfl p1
    obtain ⟨y, s1, s2⟩ := part_as ha hc w rfl q1
    have heq := hIH w _ _ x y p1 q1 r2 s2
    have hrest := run_eqItems_k dd m ha hIH hc cs ds n (i + 1) w p2 q2
    rw [vEqL_append h1 h2, List.drop_drop, List.drop_drop, show i * a.length + a.length = (i + 1) * a.length from by rw [Nat.add_mul, Nat.one_mul]]
    rw [List.range'_succ]
    rw [hc] at hrest ⊢
    simp only [Op.eqItems, Sem.run_bind, r1, s1, heq, Result.andThen_ok]
    cases hv : vEqL ((cs.toList.drop (i * a.length)).take a.length) ((ds.toList.drop (i * a.length)).take a.length) with
    | false => simp
    | true => simp [hrest]

theorem run_equalIn_k (d : Nat) : ∀ (m : Nat) (t : TypeId) (ks : List LK), leafs P m t = some ks → EqK P (d + m) t ks
  | 0, _, _, h => by simp [leafs] at h
  | m + 1, t, ks, h => by
    intro w xs ys x y h1 h2 hx hy
    unfold leafs at h
    unfold AsV at hx hy
    cases hu : P.underlying t with
    | none => rw [hu] at h; cases h
    | some kd =>
      rw [hu] at h hx hy
      cases kd
      case bool =>
        cases h
        simp only at hx hy
        subst hx; subst hy
        cases x <;> simp [kOk] at h1
        cases y <;> simp [kOk] at h2
        rw [show d + (m + 1) = (d + m) + 1 from rfl]
        rw [run_equalIn_bool w (d + m) t _ _ hu]
        simp [vEqL]
      case int k =>
        cases h
        simp only at hx hy
        subst hx; subst hy
        cases x <;> simp [kOk] at h1
        cases y <;> simp [kOk] at h2
        rw [show d + (m + 1) = (d + m) + 1 from rfl]
        subst h1
        subst h2
        rw [run_equalIn_int w (d + m) t _ _ _ _ hu]
        simp [vEqL]
      case string =>
        cases h
        simp only at hx hy
        subst hx; subst hy
        cases x <;> simp [kOk] at h1
        cases y <;> simp [kOk] at h2
        rw [show d + (m + 1) = (d + m) + 1 from rfl]
        rw [run_equalIn_string w (d + m) t _ _ hu]
        simp [vEqL]
      case struct fs =>
        simp only at h hx hy
        subst hx; subst hy
        cases hst : P.stoodInHeld t with
        | true => rw [hst] at h; cases h
        | false =>
          rw [hst] at h
          have hfs : P.fieldsOf t = fs := by simp [Program.fieldsOf, hu]
          rw [show d + (m + 1) = (d + m) + 1 from rfl, run_equalIn_struct w (d + m) t _ _ (by rw [hfs]; exact hu) hst, hfs]
          have := run_eqFields_k (d + m) m (fun t ks => run_equalIn_k d m t ks) xs.toArray ys.toArray fs.toList 0 ks h w (by simpa using h1) (by simpa using h2)
          simpa using this
      case array n e =>
        simp only at h hx hy
        subst hx; subst hy
        split at h
        · rename_i a ha
          cases hc : Nat.beq (P.cellsOf e) a.length with
          | false => rw [hc] at h; cases h
          | true =>
            rw [hc] at h
            cases h
            have hc := Nat.eq_of_beq_eq_true hc
            have hi : ∃ i, P.info? e = some i := by
              cases m with
              | zero => simp [leafs] at ha
              | succ m' =>
                unfold leafs at ha
                cases hue : P.underlying e with
                | none => rw [hue] at ha; cases ha
                | some _ => exact info_of_underlying hue
            obtain ⟨i, hi⟩ := hi
            rw [show d + (m + 1) = (d + m) + 1 from rfl, run_equalIn_array w (d + m) _ _ hu hi, List.range_eq_range']
            have := run_eqItems_k (d + m) m ha (run_equalIn_k d m e a ha) hc xs.toArray ys.toArray n 0 w (by simpa using h1) (by simpa using h2)
            simpa using this
        · cases h
      all_goals cases h

/-- What is asked of the kinds of a type's cells. -/
def KOK (P : Program) (t : TypeId) (ks : List LK) : Prop :=
  ∀ (w : World) (xs ys : List Value) (op : BinOp) (a b : Operand), kOk ks xs = true → kOk ks ys = true → (Op.equal t (.agg xs.toArray) (.agg ys.toArray)).run P w = .ok (vEqL xs ys) w ∧ (eqGuard op t a b (.agg xs.toArray) (.agg ys.toArray)).run P w = .ok () w

theorem kinds_ok {t : TypeId} {d : TypeDesc} {ks : List LK} (hd : P.underlying t = some d) (h : kindsOf P t d = some ks) : KOK P t ks := by
  unfold kindsOf at h
  cases hc : (isAggT d && !P.eqGuardType P.depth t) with
  | false => rw [hc] at h; cases h
  | true =>
    rw [hc] at h
    simp only [Bool.and_eq_true, Bool.not_eq_true'] at hc
    intro w xs ys op a b h1 h2
    have as : ∀ zs : List Value, AsV P t zs (.agg zs.toArray) := fun zs => by
      unfold AsV
      rw [hd]
      cases d <;> first | rfl | (simp [isAggT] at hc)
    refine ⟨?_, ?_⟩
    · have := run_equalIn_k 9992 8 t ks h w xs ys _ _ h1 h2 (as xs) (as ys)
      exact this
    · have hg : ∀ (k : Sem Unit), (Sem.run P (do
            let a ← program
            let b ← program
            if (!a.eqGuardType b.depth t) = true then pure () else k) w) = .ok () w := fun k => by
        simp only [Sem.run_bind, run_program, Result.andThen_ok, hc.2, Bool.not_false, if_true, Sem.run_pure]
      unfold eqGuard
      cases op <;> first | (simp; done) | (simp only [Bool.not_true, Bool.false_eq_true, if_false]; exact hg _)
end
end Go.Tr

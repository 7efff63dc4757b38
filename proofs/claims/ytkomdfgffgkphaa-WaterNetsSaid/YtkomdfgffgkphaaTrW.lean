/- Results that are memory of the call's own. Conditions: none. -/
import Derived.Test.YtkomdfgffgkphaaTrV
namespace Go.Tr
open Go Go.RowKit

section
variable {yv : Nat → Option Nat} {P : Program} {T : Nat → Option TI} {w : World} {c : Cx} {base : Nat} {hp : Hp}

/-- A leaf that is no slice of memory. -/
theorem leaf_plain {k jj : Nat} {x y : AV} {v : Value} {p : Nat → Prop} (hx : VR P w c x v) (ho : (ownLeaf hp x).isSome = true) (he : AVE (k + 1) (freeze hp (jj + 1) x) y) (hy : ∀ es len f, y ≠ .rslice es len f) : VT P w p y v ∧ idsOf hp [x] = [] ∨ VT P w p y v := by
  cases x with
  | val u =>
    have e : y = .val u := by cases y <;> first | exact absurd rfl (hy _ _ _) | (simp [freeze, AVE] at he; done) | (simp [freeze, AVE] at he; subst he; rfl)
    subst e
    have := hx.val_inv
    subst this
    exact .inr (.val _)
  | eslice =>
    have e : y = .eslice := by cases y <;> first | rfl | exact absurd rfl (hy _ _ _) | (simp [freeze, AVE] at he; done)
    subst e
    obtain ⟨a, ha⟩ := eslice_inv hx
    subst ha
    exact .inr (.eslice a)
  | oslice b ver off ln cap =>
    simp only [ownLeaf] at ho
    split at ho
    · rename_i kk hk
      cases hf : kk.flat with
      | false => rw [hf] at ho; simp at ho
      | true =>
        have hfz : freeze hp (jj + 1) (.oslice b ver off ln cap) = .rslice kk.es ln fun i => kk.f (off + i) := by simp [freeze, hk, hf]
        rw [hfz] at he
        cases y <;> first | exact absurd rfl (hy _ _ _) | (simp [AVE] at he)
    · simp at ho
  | top => simp [ownLeaf] at ho
  | agg => simp [ownLeaf] at ho
  | tuple => simp [ownLeaf] at ho
  | func => simp [ownLeaf] at ho
  | rslice => simp [ownLeaf] at ho
  | rptr => simp [ownLeaf] at ho
  | optr => simp [ownLeaf] at ho
  | omap => simp [ownLeaf] at ho
  | yld => simp [ownLeaf] at ho
  | cslice => simp [ownLeaf] at ho
  | rmap => simp [ownLeaf] at ho

structure Adp (yv : Nat → Option Nat) (P : Program) (w : World) (c : Cx) (base n : Nat) (ids : List Nat) (ks : List AB) (O : Nat → Option OI) : Prop where
  piece : Piece P w c base n ks.length ids O
  blks : ∀ (i : Nat) k oi, ks[i]? = some k → O (n + i) = some oi → BR P w (eCx yv O) k oi

theorem Adp.join (h : HR P base w c hp) {n : Nat} {ids ids' : List Nat} {ks ks' : List AB} {O O' : Nat → Option OI} (a : Adp yv P w c base n ids ks O) (b : Adp yv P w c base (n + ks.length) ids' ks' O') (hd : ∀ i ∈ ids, i ∉ ids') :
    ∃ O2, Adp yv P w c base n (ids ++ ids') (ks ++ ks') O2 ∧ (∀ b oi, O b = some oi → O2 b = some oi) ∧ (∀ b oi, O' b = some oi → O2 b = some oi) := by
  obtain ⟨O2, g1, g2, g3, g4, g5⟩ := Piece.join h a.piece b.piece hd
  refine ⟨O2, ⟨by rw [List.length_append]; exact g1, fun i k oi hk hO => ?_⟩, g2, g3⟩
  by_cases hi : i < ks.length
  · rw [List.getElem?_append_left hi] at hk
    rw [g4 (n + i) (by omega) (by omega)] at hO
    exact (a.blks i k oi hk hO).enlarge g2
  · have hi : ks.length ≤ i := by omega
    rw [List.getElem?_append_right hi] at hk
    rw [g5 (n + i) (by omega), show n + i = n + ks.length + (i - ks.length) from by omega] at hO
    exact (b.blks _ k oi hk hO).enlarge g3

theorem Adp.nil (n : Nat) : Adp yv P w c base n [] [] (fun _ => none) := ⟨Piece.nil n, fun i k oi h => by simp at h⟩

theorem Piece.ids {n m : Nat} {ids ids' : List Nat} {O : Nat → Option OI} (h : Piece P w c base n m ids O) (hs : ∀ i ∈ ids, i ∈ ids') : Piece P w c base n m ids' O :=
  ⟨h.dom, fun b oi hb hc => by obtain ⟨i, hi, r⟩ := h.src b oi hb hc; exact ⟨i, hs i hi, r⟩, h.sep⟩

theorem leaf_ok (h : HR P base w c hp) {k jj : Nat} {x y : AV} {v : Value} (hx : VR P w c x v) (ho : (ownLeaf hp x).isSome = true) (he : AVE (k + 1) (freeze hp (jj + 1) x) y) (hpl : PlainR [y]) (n : Nat) :
    ∃ O, Adp yv P w c base n (idsOf hp [x]) (adoptL [y] n).2 O ∧ ∀ z ∈ (adoptL [y] n).1[0]?, VR P w (eCx yv O) z v := by
  by_cases hy : ∃ es len f, y = .rslice es len f
  · obtain ⟨es, len, f, rfl⟩ := hy
    obtain ⟨O, g1, g2, oi, g3, g4⟩ := leaf_slice h hx ho he hpl.1 n
    refine ⟨O, ⟨g1, fun i k oi' hk hO => ?_⟩, fun z hz => ?_⟩
    · cases i with
      | zero =>
        simp [adoptL] at hk
        subst hk
        have : oi = oi' := by rw [Nat.add_zero, g3] at hO; exact Option.some.inj hO
        subst this
        exact g4
      | succ i => simp [adoptL] at hk
    · simp [adoptL] at hz
      subst hz
      exact g2
  · have hne : ∀ es len f, y ≠ .rslice es len f := fun es len f e => hy ⟨es, len, f, e⟩
    have e : adoptL [y] n = ([y], []) := by cases y <;> first | exact absurd rfl (hne _ _ _) | rfl
    rw [e]
    refine ⟨_, ⟨(Piece.nil n).ids (fun i hi => by simp at hi), (Adp.nil n (base := base) (c := c)).blks⟩, fun z hz => ?_⟩
    simp at hz
    subst hz
    rcases leaf_plain (p := fun _ => False) hx ho he hne with g | g
    · exact .tree g.1
    · exact .tree g

theorem adoptL_cons (y : AV) (ys : List AV) (n : Nat) : adoptL (y :: ys) n = ((adoptL [y] n).1 ++ (adoptL ys (n + (adoptL [y] n).2.length)).1, (adoptL [y] n).2 ++ (adoptL ys (n + (adoptL [y] n).2.length)).2) ∧ (adoptL [y] n).1.length = 1 := by
  cases y <;> simp [adoptL]

theorem idsOf_cons (x : AV) (xs : List AV) : idsOf hp (x :: xs) = idsOf hp [x] ++ idsOf hp xs := by
  unfold idsOf
  rw [show x :: xs = [x] ++ xs from rfl, List.filterMap_append]

theorem PlainR_cons (y : AV) (ys : List AV) : PlainR (y :: ys) ↔ PlainR [y] ∧ PlainR ys := by
  cases y <;> simp [PlainR]

theorem PlainR_append : ∀ (l m : List AV), PlainR (l ++ m) ↔ PlainR l ∧ PlainR m
  | [], m => by simp [PlainR]
  | x :: l, m => by
    rw [List.cons_append, PlainR_cons, PlainR_append l m, PlainR_cons x l]
    exact and_assoc.symm

theorem adoptL_ok (h : HR P base w c hp) {k jj : Nat} : ∀ (ys xs : List AV) (n : Nat) (vs : Nat → Value), xs.length = ys.length → (∀ (i : Nat) x, xs[i]? = some x → VR P w c x (vs i)) → (∀ x ∈ xs, (ownLeaf hp x).isSome = true) → (idsOf hp xs).Nodup →
    (∀ (i : Nat) x y, xs[i]? = some x → ys[i]? = some y → AVE (k + 1) (freeze hp (jj + 1) x) y) → PlainR ys →
    ∃ O, Adp yv P w c base n (idsOf hp xs) (adoptL ys n).2 O ∧ (adoptL ys n).1.length = ys.length ∧ ∀ (i : Nat) z, (adoptL ys n).1[i]? = some z → VR P w (eCx yv O) z (vs i)
  | [], xs, n, vs, hl, _, _, _, _, _ => by
    have : xs = [] := List.length_eq_zero_iff.1 hl
    subst this
    exact ⟨_, Adp.nil n, rfl, fun i z hz => by simp [adoptL] at hz⟩
  | y :: ys, [], n, vs, hl, _, _, _, _, _ => by simp at hl
  | y :: ys, x :: xs, n, vs, hl, hx, ho, hn, he, hp' => by
    rw [PlainR_cons] at hp'
    rw [idsOf_cons, List.nodup_append] at hn
    obtain ⟨O1, a1, a2⟩ := leaf_ok h (hx 0 x rfl) (ho x (.head _)) (he 0 x y rfl rfl) hp'.1 n
    obtain ⟨O2, b1, bl, b2⟩ := adoptL_ok h (k := k) (jj := jj) ys xs (n + (adoptL [y] n).2.length) (fun i => vs (i + 1)) (by simpa using hl) (fun i x hi => hx (i + 1) x (by simpa using hi)) (fun x hx => ho x (.tail _ hx)) hn.2.1
      (fun i x y hi hj => he (i + 1) x y (by simpa using hi) (by simpa using hj)) hp'.2
    obtain ⟨e, el⟩ := adoptL_cons y ys n
    obtain ⟨O, g1, g2, g3⟩ := Adp.join h a1 b1 (fun i hi hj => hn.2.2 i hi i hj rfl)
    rw [e, idsOf_cons]
    refine ⟨O, g1, by simp [el, bl]; omega, fun i z hz => ?_⟩
    cases i with
    | zero =>
      rw [List.getElem?_append_left (by omega)] at hz
      exact (a2 z hz).enlarge g2
    | succ i =>
      rw [List.getElem?_append_right (by omega), el] at hz
      exact (b2 i z (by simpa using hz)).enlarge g3

theorem adopt1_ok (h : HR P base w c hp) {k jj : Nat} {x y : AV} {v : Value} (hx : VR P w c x v) (ho : ∀ z ∈ x.cells, (ownLeaf hp z).isSome = true) (hn : (idsOf hp x.cells).Nodup) (he : AVE (k + 2) (freeze hp (jj + 2) x) y) (hpl : PlainR y.cells) (n : Nat) :
    ∃ O, Adp yv P w c base n (idsOf hp x.cells) (adopt1 y n).2 O ∧ VR P w (eCx yv O) (adopt1 y n).1 v := by
  by_cases hagg : ∃ l, x = .agg l
  · obtain ⟨l, rfl⟩ := hagg
    obtain ⟨vs, rfl, hs, h1, hr⟩ := hx.agg_inv
    cases y with
    | agg l' =>
      have he' : (l.map (freeze hp (jj + 1))).length = l'.length ∧ ∀ i x y, nth? (l.map (freeze hp (jj + 1))) i = some x → nth? l' i = some y → AVE (k + 1) x y := by simpa [freeze, AVE] using he
      obtain ⟨O, g1, gl, g2⟩ := adoptL_ok h (k := k) (jj := jj) l' l n (fun i => vs.getD i undef) (by simpa using he'.1) (fun i x hi => hr i x hi) ho hn
        (fun i x y hi hj => he'.2 i _ y (by rw [nth?_eq, List.getElem?_map, hi]; rfl) (by rw [nth?_eq]; exact hj)) hpl
      exact ⟨O, g1, .agg _ vs (by show vs.size = (adoptL l' n).1.length; rw [gl, hs, ← he'.1, List.length_map]) h1 g2⟩
    | _ => simp [freeze, AVE] at he
  · have hc : x.cells = [x] := by cases x <;> first | exact absurd ⟨_, rfl⟩ hagg | rfl
    have hox := ho x (by rw [hc]; exact .head _)
    have hny : ∀ l, y ≠ .agg l := fun l e => by
      subst e
      cases x with
      | val u => simp [freeze, AVE] at he
      | eslice => simp [freeze, AVE] at he
      | oslice b ver off ln cap =>
        simp only [ownLeaf] at hox
        split at hox
        · rename_i kk hk
          cases hf : kk.flat with
          | false => rw [hf] at hox; simp at hox
          | true => simp [freeze, hk, hf, AVE] at he
        · simp at hox
      | agg l => exact hagg ⟨l, rfl⟩
      | top => simp [ownLeaf] at hox
      | tuple => simp [ownLeaf] at hox
      | func => simp [ownLeaf] at hox
      | rslice => simp [ownLeaf] at hox
      | rptr => simp [ownLeaf] at hox
      | optr => simp [ownLeaf] at hox
      | omap => simp [ownLeaf] at hox
      | yld => simp [ownLeaf] at hox
      | cslice => simp [ownLeaf] at hox
      | rmap => simp [ownLeaf] at hox
    have hcy : y.cells = [y] := by cases y <;> first | exact absurd rfl (hny _) | rfl
    rw [hcy] at hpl
    rw [hc]
    obtain ⟨O, g1, g2⟩ := leaf_ok h (k := k + 1) (jj := jj + 1) hx hox he hpl n
    have e : adoptL [y] n = ([(adopt1 y n).1], (adopt1 y n).2) := by cases y <;> first | exact absurd rfl (hny _) | rfl
    rw [e] at g1 g2
    exact ⟨O, g1, g2 _ rfl⟩

theorem idsOf_append (l m : List AV) : idsOf hp (l ++ m) = idsOf hp l ++ idsOf hp m := by
  unfold idsOf; rw [List.filterMap_append]

theorem adoptT_ok (h : HR P base w c hp) {k jj : Nat} : ∀ (ys xs : List AV) (n : Nat) (vs : Nat → Value), xs.length = ys.length → (∀ (i : Nat) x, xs[i]? = some x → VR P w c x (vs i)) → (∀ x ∈ xs.flatMap AV.cells, (ownLeaf hp x).isSome = true) → (idsOf hp (xs.flatMap AV.cells)).Nodup →
    (∀ (i : Nat) x y, xs[i]? = some x → ys[i]? = some y → AVE (k + 2) (freeze hp (jj + 2) x) y) → PlainR (ys.flatMap AV.cells) →
    ∃ O, Adp yv P w c base n (idsOf hp (xs.flatMap AV.cells)) (adoptT ys n).2 O ∧ (adoptT ys n).1.length = ys.length ∧ ∀ (i : Nat) z, (adoptT ys n).1[i]? = some z → VR P w (eCx yv O) z (vs i)
  | [], xs, n, vs, hl, _, _, _, _, _ => by
    have : xs = [] := List.length_eq_zero_iff.1 hl
    subst this
    exact ⟨_, Adp.nil n, rfl, fun i z hz => by simp [adoptT] at hz⟩
  | y :: ys, [], n, vs, hl, _, _, _, _, _ => by simp at hl
  | y :: ys, x :: xs, n, vs, hl, hx, ho, hn, he, hp' => by
    rw [List.flatMap_cons] at ho hn hp' ⊢
    rw [PlainR_append] at hp'
    rw [idsOf_append, List.nodup_append] at hn
    obtain ⟨O1, a1, a2⟩ := adopt1_ok h (hx 0 x rfl) (fun x hx => ho x (List.mem_append_left _ hx)) hn.1 (he 0 x y rfl rfl) hp'.1 n
    obtain ⟨O2, b1, bl, b2⟩ := adoptT_ok h (k := k) (jj := jj) ys xs (n + (adopt1 y n).2.length) (fun i => vs (i + 1)) (by simpa using hl) (fun i x hi => hx (i + 1) x (by simpa using hi)) (fun x hx => ho x (List.mem_append_right _ hx)) hn.2.1
      (fun i x y hi hj => he (i + 1) x y (by simpa using hi) (by simpa using hj)) hp'.2
    obtain ⟨O, g1, g2, g3⟩ := Adp.join h a1 b1 (fun i hi hj => hn.2.2 i hi i hj rfl)
    rw [idsOf_append]
    refine ⟨O, g1, by simp [adoptT, bl], fun i z hz => ?_⟩
    cases i with
    | zero =>
      simp [adoptT] at hz
      subst hz
      exact a2.enlarge g2
    | succ i =>
      simp [adoptT] at hz
      exact (b2 i z hz).enlarge g3

theorem adopt_ok (h : HR P base w c hp) {k jj : Nat} {x y : AV} {v : Value} (hx : VR P w c x v) (ho : ownB hp (leaves x) [] = true) (he : AVE (k + 3) (freeze hp (jj + 3) x) y) (hpl : PlainR (leaves y)) (n : Nat) :
    ∃ O, Adp yv P w c base n (idsOf hp (leaves x)) (adopt y n).2 O ∧ VR P w (eCx yv O) (adopt y n).1 v := by
  obtain ⟨o1, o2, _⟩ := ownB_ok (leaves x) [] ho
  by_cases htup : ∃ l, x = .tuple l
  · obtain ⟨l, rfl⟩ := htup
    obtain ⟨vs, rfl, hs, hr⟩ := hx.tuple_inv
    cases y with
    | tuple l' =>
      have he' : (l.map (freeze hp (jj + 2))).length = l'.length ∧ ∀ i x y, nth? (l.map (freeze hp (jj + 2))) i = some x → nth? l' i = some y → AVE (k + 2) x y := by simpa [freeze, AVE] using he
      obtain ⟨O, g1, gl, g2⟩ := adoptT_ok h (k := k) (jj := jj) l' l n (fun i => vs.getD i undef) (by simpa using he'.1) (fun i x hi => hr i x hi) o1 o2
        (fun i x y hi hj => he'.2 i _ y (by rw [nth?_eq, List.getElem?_map, hi]; rfl) (by rw [nth?_eq]; exact hj)) hpl
      exact ⟨O, g1, .tuple _ vs (by show vs.size = (adoptT l' n).1.length; rw [gl, hs, ← he'.1, List.length_map]) g2⟩
    | _ => simp [freeze, AVE] at he
  · have hlx : leaves x = x.cells := by cases x <;> first | exact absurd ⟨_, rfl⟩ htup | rfl
    have hny : ∀ l, y ≠ .tuple l := fun l e => by
      subst e
      rw [hlx] at o1
      cases x with
      | val u => simp [freeze, AVE] at he
      | eslice => simp [freeze, AVE] at he
      | oslice b ver off ln cap =>
        have hox := o1 _ (.head _)
        simp only [ownLeaf] at hox
        split at hox
        · rename_i kk hk
          cases hf : kk.flat with
          | false => rw [hf] at hox; simp at hox
          | true => simp [freeze, hk, hf, AVE] at he
        · simp at hox
      | agg l => simp [freeze, AVE] at he
      | tuple l => exact htup ⟨l, rfl⟩
      | top => have hox := o1 _ (.head _); simp [ownLeaf] at hox
      | func => have hox := o1 _ (.head _); simp [ownLeaf] at hox
      | rslice => have hox := o1 _ (.head _); simp [ownLeaf] at hox
      | rptr => have hox := o1 _ (.head _); simp [ownLeaf] at hox
      | optr => have hox := o1 _ (.head _); simp [ownLeaf] at hox
      | omap => have hox := o1 _ (.head _); simp [ownLeaf] at hox
      | yld => have hox := o1 _ (.head _); simp [ownLeaf] at hox
      | cslice => have hox := o1 _ (.head _); simp [ownLeaf] at hox
      | rmap => have hox := o1 _ (.head _); simp [ownLeaf] at hox
    have hly : leaves y = y.cells := by cases y <;> first | exact absurd rfl (hny _) | rfl
    have ea : adopt y n = adopt1 y n := by cases y <;> first | exact absurd rfl (hny _) | rfl
    rw [hlx] at o1 o2 ⊢
    rw [hly] at hpl
    rw [ea]
    exact adopt1_ok h (k := k + 1) (jj := jj + 1) hx o1 o2 he hpl n

/-- What a body hands back as its own is memory of its own. -/
theorem fresh_at (h : HR P base w c hp) {x y : AV} {v : Value} (hx : VR P w c x v) (ho : ownB hp (leaves x) [] = true) (he : AVE 5 (fz hp x) y) (hpl : PlainR (leaves y)) (n : Nat) : FreshAt P base w n y v := by
  intro yv
  obtain ⟨O, g1, g2⟩ := adopt_ok (yv := yv) h (k := 2) (jj := 2) hx ho he hpl n
  refine ⟨O, fun _ => False, fun b oi hb => ?_, fun _ hf => hf.elim, g2, g1.blks, g1.piece.sep⟩
  have hd := g1.piece.dom b oi hb
  refine ⟨hd.1, hd.2, fun hc => ?_⟩
  obtain ⟨i, _, o0, p1, p2, p3⟩ := g1.piece.src b oi hb hc
  have := h.own i o0 p1 p2
  rw [p3]
  exact ⟨this.1, this.2, id⟩
end
end Go.Tr

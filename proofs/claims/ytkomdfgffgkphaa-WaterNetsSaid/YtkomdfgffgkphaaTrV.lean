/- Results: trees, and memory of the call's own. Conditions: none. -/
import Derived.Test.YtkomdfgffgkphaaTrU
namespace Go.Tr
open Go Go.RowKit

section
variable {yv : Nat → Option Nat} {P : Program} {T : Nat → Option TI} {w : World} {c : Cx} {base : Nat} {hp : Hp}

theorem AVE_ok {p : Nat → Prop} : ∀ (k : Nat) {x y : AV} {v : Value}, AVE k x y → VT P w p x v → VT P w p y v
  | 0, x, y, v, h, _ => h.elim
  | k + 1, x, y, v, h, hx => by
    have eqc : x = y → VT P w p y v := fun e => e ▸ hx
    cases x with
    | rslice es len f =>
      cases y with
      | rslice es' len' g =>
        obtain ⟨rfl, rfl, hf⟩ := h
        cases hx with
        | rslice0 => exact .rslice0 _ _ _ _
        | rslice _ _ _ b off kk gg h1 h2 h3 h4 h5 => exact .rslice _ _ _ b off kk gg h1 h2 (fun i hi => by rw [← hf i hi]; exact h3 i hi) h4 (fun i j y hi hy => h5 i j y hi (by rw [hf i hi]; exact hy))
      | _ => exact eqc h
    | eslice =>
      cases y with
      | rslice es' len' g =>
        have h : len' = 0 := h
        subst h
        cases hx with
        | eslice a => exact .rslice0 _ _ _ _
      | _ => exact eqc h
    | agg l =>
      cases y with
      | agg l' =>
        obtain ⟨hl, hc⟩ := h
        cases hx with
        | agg _ vs hs ho hr =>
                                   refine .agg _ vs (by rw [hs, hl]) ho (fun i y hy => ?_)
                                   have hlt : i < l.length := by rw [hl]; exact (List.getElem?_eq_some_iff.1 hy).1
                                   exact AVE_ok k (hc i _ y (by rw [nth?_eq]; exact List.getElem?_eq_getElem hlt) (by rw [nth?_eq]; exact hy)) (hr i _ (List.getElem?_eq_getElem hlt))
      | _ => exact eqc h
    | tuple l =>
      cases y with
      | tuple l' =>
        obtain ⟨hl, hc⟩ := h
        cases hx with
        | tuple _ vs hs hr =>
                                  refine .tuple _ vs (by rw [hs, hl]) (fun i y hy => ?_)
                                  have hlt : i < l.length := by rw [hl]; exact (List.getElem?_eq_some_iff.1 hy).1
                                  exact AVE_ok k (hc i _ y (by rw [nth?_eq]; exact List.getElem?_eq_getElem hlt) (by rw [nth?_eq]; exact hy)) (hr i _ (List.getElem?_eq_getElem hlt))
      | _ => exact eqc h
    | top => cases y <;> exact eqc h
    | val => cases y <;> exact eqc h
    | func => cases y <;> exact eqc h
    | rptr => cases y <;> exact eqc h
    | optr => cases y <;> exact eqc h
    | oslice => cases y <;> exact eqc h
    | omap => cases y <;> exact eqc h
    | yld => cases y <;> exact eqc h
    | cslice => cases y <;> exact eqc h
    | rmap => cases y <;> exact eqc h

/-- The blocks among leaves. -/
def idsOf (hp : Hp) (xs : List AV) : List Nat := xs.filterMap fun x => (ownLeaf hp x).bind id

theorem ownB_ok : ∀ (xs : List AV) (seen : List Nat), ownB hp xs seen = true → (∀ x ∈ xs, (ownLeaf hp x).isSome = true) ∧ (idsOf hp xs).Nodup ∧ ∀ b ∈ idsOf hp xs, b ∉ seen
  | [], seen, _ => by simp [idsOf]
  | x :: r, seen, h => by
    simp only [ownB] at h
    split at h
    · cases h
    · rename_i hx
      obtain ⟨g1, g2, g3⟩ := ownB_ok r seen h
      have hid : idsOf hp (x :: r) = idsOf hp r := by simp [idsOf, hx]
      rw [hid]
      exact ⟨fun y hy => by rcases List.mem_cons.1 hy with rfl | hy; simp [hx]; exact g1 y hy, g2, g3⟩
    · rename_i b hx
      rw [Bool.and_eq_true] at h
      obtain ⟨g1, g2, g3⟩ := ownB_ok r (b :: seen) h.2
      have hid : idsOf hp (x :: r) = b :: idsOf hp r := by simp [idsOf, hx]
      rw [hid]
      have hb : b ∉ seen := fun hm => by have := hasNat_iff.2 hm; rw [this] at h; simp at h
      exact ⟨fun y hy => by rcases List.mem_cons.1 hy with rfl | hy; simp [hx]; exact g1 y hy, List.nodup_cons.2 ⟨fun hm => g3 b hm (.head _), g2⟩,
        fun b' hm => by rcases List.mem_cons.1 hm with rfl | hm; exact hb; exact fun hs => g3 b' hm (.tail _ hs)⟩

/-- A piece of a result, from number n on. -/
structure Piece (P : Program) (w : World) (c : Cx) (base n m : Nat) (ids : List Nat) (O : Nat → Option OI) : Prop where
  dom : ∀ b oi, O b = some oi → n ≤ b ∧ b < n + m
  src : ∀ b oi, O b = some oi → oi.cap ≠ 0 → ∃ i ∈ ids, ∃ o0, c.O i = some o0 ∧ o0.cap ≠ 0 ∧ oi.blk = o0.blk
  sep : ∀ b b' oi oi', O b = some oi → O b' = some oi' → b ≠ b' → oi.blk ≠ oi'.blk ∨ oi.cap = 0 ∨ oi'.cap = 0

def eCx (yv : Nat → Option Nat) (O : Nat → Option OI) : Cx := ⟨fun _ => False, O, fun _ => none, yv⟩

theorem VR.enlarge {O O' : Nat → Option OI} (h : ∀ b oi, O b = some oi → O' b = some oi) {x : AV} {v : Value} (hx : VR P w (eCx yv O) x v) : VR P w (eCx yv O') x v :=
  VR.mono (base := 0) (c := eCx yv O) (c' := eCx yv O') (w := w) (w' := w) ⟨Below.refl _ _, fun _ h => h, fun _ _ => rfl, fun b oi hb => ⟨oi, h b oi hb, Nat.le_refl _, fun _ => rfl⟩, (fun b r hb => by cases hb), fun _ _ h => h⟩ hx

theorem BR.enlarge {O O' : Nat → Option OI} (h : ∀ b oi, O b = some oi → O' b = some oi) {k : AB} {oi : OI} (hx : BR P w (eCx yv O) k oi) : BR P w (eCx yv O') k oi :=
  BR.mono (base := 0) (c := eCx yv O) (c' := eCx yv O') (w := w) (w' := w) ⟨Below.refl _ _, fun _ h => h, fun _ _ => rfl, fun b oi hb => ⟨oi, h b oi hb, Nat.le_refl _, fun _ => rfl⟩, (fun b r hb => by cases hb), fun _ _ h => h⟩ hx fun _ => rfl

/-- Two pieces side by side. -/
theorem Piece.join (h : HR P base w c hp) {n m m' : Nat} {ids ids' : List Nat} {O O' : Nat → Option OI} (a : Piece P w c base n m ids O) (b : Piece P w c base (n + m) m' ids' O') (hd : ∀ i ∈ ids, i ∉ ids') :
    ∃ O2, Piece P w c base n (m + m') (ids ++ ids') O2 ∧ (∀ b oi, O b = some oi → O2 b = some oi) ∧ (∀ b oi, O' b = some oi → O2 b = some oi) ∧ (∀ b, n ≤ b → b < n + m → O2 b = O b) ∧ (∀ b, n + m ≤ b → O2 b = O' b) := by
  refine ⟨fun b => if b < n + m then O b else O' b, ⟨fun b' oi hb => ?_, fun b' oi hb hc => ?_, fun b1 b2 o1 o2 h1 h2 hne => ?_⟩, fun b' oi hb => ?_, fun b' oi hb => ?_, fun b' _ hlt => if_pos hlt, fun b' hge => if_neg (by omega)⟩
  · split at hb
    · have := a.dom b' oi hb; omega
    · have := b.dom b' oi hb; omega
  · split at hb
    · obtain ⟨i, hi, r⟩ := a.src b' oi hb hc; exact ⟨i, List.mem_append_left _ hi, r⟩
    · obtain ⟨i, hi, r⟩ := b.src b' oi hb hc; exact ⟨i, List.mem_append_right _ hi, r⟩
  · have cross : ∀ o1 o2, (∃ b, O b = some o1) → (∃ b, O' b = some o2) → o1.blk ≠ o2.blk ∨ o1.cap = 0 ∨ o2.cap = 0 := fun o1 o2 ⟨x, hx⟩ ⟨y, hy⟩ => by
      by_cases c1 : o1.cap = 0
      · exact .inr (.inl c1)
      · by_cases c2 : o2.cap = 0
        · exact .inr (.inr c2)
        · obtain ⟨i, hi, p1, q1, q2, q3⟩ := a.src x o1 hx c1
          obtain ⟨j, hj, p2, r1, r2, r3⟩ := b.src y o2 hy c2
          have hij : i ≠ j := fun e => hd i hi (e ▸ hj)
          rcases h.sep i j p1 p2 q1 r1 hij with g | g | g
          · exact .inl (by rw [q3, r3]; exact g)
          · exact absurd g q2
          · exact absurd g r2
    split at h1 <;> split at h2
    · exact a.sep b1 b2 o1 o2 h1 h2 hne
    · exact cross o1 o2 ⟨_, h1⟩ ⟨_, h2⟩
    · rcases cross o2 o1 ⟨_, h2⟩ ⟨_, h1⟩ with g | g | g
      · exact .inl (fun e => g e.symm)
      · exact .inr (.inr g)
      · exact .inr (.inl g)
    · exact b.sep b1 b2 o1 o2 h1 h2 hne
  · have := a.dom b' oi hb; simp only; rw [if_pos (by omega)]; exact hb
  · have := b.dom b' oi hb; simp only; rw [if_neg (by omega)]; exact hb

theorem Piece.nil (n : Nat) : Piece P w c base n 0 [] (fun _ => none) := ⟨fun b oi h => (by cases h), fun b oi h => (by cases h), fun b b' oi oi' h => (by cases h)⟩

/-- A leaf that is a slice becomes a block. -/
theorem leaf_slice (h : HR P base w c hp) {k jj : Nat} {x : AV} {u : Value} {es len : Nat} {g : Nat → List AV} (hx : VR P w c x u) (ho : (ownLeaf hp x).isSome = true) (he : AVE (k + 1) (freeze hp (jj + 1) x) (.rslice es len g)) (hpl : ∀ i, i < len → ∀ y ∈ g i, ∃ v, y = .val v) (n : Nat) :
    ∃ O, Piece P w c base n 1 (idsOf hp [x]) O ∧ VR P w (eCx yv O) (.oslice n 0 0 len none) u ∧ ∃ oi, O n = some oi ∧ BR P w (eCx yv O) { es, len, f := g } oi := by
  have single : ∀ (oi : OI) (ids : List Nat), (oi.cap ≠ 0 → ∃ i ∈ ids, ∃ o0, c.O i = some o0 ∧ o0.cap ≠ 0 ∧ oi.blk = o0.blk) → Piece P w c base n 1 ids (fun b => if b = n then some oi else none) := fun oi ids hs =>
    ⟨fun b o hb => (by split at hb <;> first | (cases hb; done) | (subst_vars; omega)), fun b o hb hc => (by split at hb <;> first | (cases hb; exact hs hc) | (cases hb; done)), fun b b' o o' h1 h2 hne => (by
      split at h1 <;> split at h2 <;> first | (subst_vars; exact absurd rfl hne) | (cases h1; done) | (cases h2; done))⟩
  have empty : ∀ (a : Option Addr) (ids : List Nat), u = .slice a 0 0 → len = 0 → ∃ O, Piece P w c base n 1 ids O ∧ VR P w (eCx yv O) (.oslice n 0 0 len none) u ∧ ∃ oi, O n = some oi ∧ BR P w (eCx yv O) { es, len, f := g } oi := fun a ids hu hl => by
    subst hu; subst hl
    exact ⟨_, single ⟨0, 0, 0, es, 0, 0⟩ ids (fun hc => absurd rfl hc), .oslice _ _ _ _ _ _ ⟨0, 0, 0, es, 0, 0⟩ (by simp [eCx]) (Nat.le_refl _) rfl fun _ => ⟨by simp, a, 0, rfl, Nat.le_refl _, by simp, fun hc => absurd rfl hc, fun cp hcp => by cases hcp⟩,
      _, if_pos rfl, ⟨rfl, rfl, rfl, Nat.le_refl _, fun hc => absurd rfl hc, fun i hi => by simp at hi, fun i j y v hi => by simp at hi⟩⟩
  cases x with
  | val v => simp [freeze, AVE] at he
  | eslice =>
    obtain ⟨a, ha⟩ := eslice_inv hx
    exact empty a _ ha he
  | oslice b ver off ln cap =>
    simp only [ownLeaf] at ho
    split at ho
    · rename_i kk hk
      cases hf : (kk.flat && !kk.ro) with
      | false => rw [hf] at ho; simp at ho
      | true =>
        rw [Bool.and_eq_true] at hf
        have hfz : freeze hp (jj + 1) (.oslice b ver off ln cap) = .rslice kk.es ln fun i => kk.f (off + i) := by simp [freeze, hk, hf.1]
        rw [hfz] at he
        obtain ⟨rfl, rfl, hgf⟩ := he
        obtain ⟨hkb, hkv⟩ := block_some hk
        obtain ⟨oi, hO, hle, _, hv'⟩ := hx.oslice_inv
        have hB := h.blk b kk oi hkb hO
        obtain ⟨hn1, a, k1, hu, hk1, hk2, hk3, _⟩ := hv' (by rw [hB.ver, hkv])
        have hids : idsOf hp [.oslice b ver off ln cap] = [b] := by simp [idsOf, ownLeaf, hk, hf.1, (by simpa using hf.2 : kk.ro = false)]
        by_cases hk0 : k1 = 0
        · subst hk0
          have : ln = 0 := by omega
          subst this
          exact empty a _ hu rfl
        · have hcap : oi.cap ≠ 0 := by omega
          obtain ⟨cs, t, hrow, hsz, hone⟩ := hB.row hcap
          have hn := hB.n
          refine ⟨_, single ⟨oi.blk, oi.lo + off * oi.es, k1, kk.es, ln, 0⟩ _ (fun _ => ⟨b, by rw [hids]; simp, oi, hO, hcap, rfl⟩), .oslice _ _ _ _ _ _ ⟨oi.blk, oi.lo + off * oi.es, k1, kk.es, ln, 0⟩ (by simp [eCx]) (Nat.le_refl _) (by rw [hu]; rfl) fun _ => ⟨by simp, a, k1, hu, hk1, by simp, fun _ => by rw [hk3 hk0]; simp, fun cp hcp => by cases hcp⟩,
            _, if_pos rfl, ⟨rfl, rfl, rfl, hk1, fun _ => ⟨cs, t, hrow, ?_, hone⟩, fun i hi => ?_, fun i j y v hi hy hv => ?_⟩⟩
          · have : (off + k1) * oi.es ≤ oi.cap * oi.es := Nat.mul_le_mul_right _ hk2
            rw [Nat.add_mul] at this
            have := hB.es
            simp only
            rw [← hB.es]
            omega
          · have hi' : i < ln := hi
            show (g i).length = kk.es
            have e2 : kk.f (off + i) = g i := hgf i hi'
            rw [← e2]; exact hB.el _ (by omega)
          · have hi' : i < ln := hi
            obtain ⟨vv, rfl⟩ := hpl i hi' y (List.mem_of_getElem? hy)
            have e2 : kk.f (off + i) = g i := hgf i hi'
            have hy' : (kk.f (off + i))[j]? = some (.val vv) := by rw [e2]; exact hy
            obtain ⟨v2, g1, _, g3, _⟩ := hB.cell (by omega : off + i < kk.len) hy'
            have : v = v2 := by
              have e : oi.lo + ((off + i) * oi.es + j) = oi.lo + off * oi.es + (i * kk.es + j) := by rw [Nat.add_mul, hB.es]; omega
              rw [e] at g1
              simp only at hv
              rw [g1] at hv
              exact (Option.some.inj hv).symm
            subst this
            have := g3.val_inv
            subst this
            exact ⟨.tree (.val _), fun _ => .val _⟩
    · simp at ho
  | top => simp [ownLeaf] at ho
  | agg => simp [ownLeaf] at ho
  | tuple => simp [ownLeaf] at ho
  | func => simp [ownLeaf] at ho
  | rslice => simp [ownLeaf] at ho
  | rptr => simp [ownLeaf] at ho
  | optr => simp [ownLeaf] at ho
  | omap => simp [ownLeaf] at ho
  | yld => simp [ownLeaf] at ho
  | cslice => simp [ownLeaf] at ho
  | rmap => simp [ownLeaf] at ho
end
end Go.Tr

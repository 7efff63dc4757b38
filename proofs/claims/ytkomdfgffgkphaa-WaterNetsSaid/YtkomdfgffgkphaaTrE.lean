/- Operations that turn nothing, one by one (3). Conditions: none. -/
import Derived.Test.YtkomdfgffgkphaaTrD
namespace Go.Tr
open Go Go.RowKit

section
variable {P : Program} {T : Nat → Option TI} {w : World} {c : Cx} {base : Nat} {hp : Hp}

theorem run_bound (k : IntKind) (i : Int) (y : Nat) (code : BoundsCode) (h0 : 0 ≤ i) (h1 : i ≤ y) : (Instr.sliceBound (.int k i) y code).run P w = .ok i.toNat w := by
  simp [Instr.sliceBound, asIntOf, h0, h1]

/-- The two bounds of a slice expression. -/
theorem run_bounds (b : Bool) (len cap : Nat) (lo hi : Option Value) (l r : Int) (hl : lo = none ∧ l = 0 ∨ ∃ k, lo = some (.int k l)) (hr : hi = none ∧ r = len ∨ ∃ k, hi = some (.int k r))
    (h0 : 0 ≤ l) (h1 : l ≤ r) (h2 : r ≤ len) (h3 : len ≤ cap) :
    (Instr.sliceBounds b len cap lo hi none).run P w = .ok (l.toNat, r.toNat, cap) w := by
  have hr2 : ((r.toNat : Nat) : Int) = r := by omega
  have hb : ∀ k code, (Instr.sliceBound (.int k r) cap code).run P w = .ok r.toNat w := fun k code => run_bound k r cap code (by omega) (by omega)
  have hb2 : ∀ k code, (Instr.sliceBound (.int k l) r.toNat code).run P w = .ok l.toNat w := fun k code => run_bound k l r.toNat code (by omega) (by omega)
  rcases hr with ⟨rfl, rfl⟩ | ⟨k, rfl⟩
  · have hb3 : ∀ k code, (Instr.sliceBound (.int k l) len code).run P w = .ok l.toNat w := fun k code => run_bound k l len code (by omega) (by omega)
    rcases hl with ⟨rfl, rfl⟩ | ⟨k', rfl⟩
    · simp [Instr.sliceBounds]
    · simp [Instr.sliceBounds, hb3]
  · rcases hl with ⟨rfl, rfl⟩ | ⟨k', rfl⟩
    · simp [Instr.sliceBounds, hb]
    · simp [Instr.sliceBounds, hb, hb2]

theorem optIdx_some {lo : Option Operand} {ρ : Operand → AV} {r : Operand → Value} (h : ∀ x, lo = some x → VR P w c (ρ x) (r x)) {d l : Int} (hl : optIdx ρ lo d = some l) :
    lo.map r = none ∧ l = d ∨ ∃ k, lo.map r = some (.int k l) := by
  cases lo with
  | none => simp [optIdx] at hl; exact .inl ⟨rfl, hl.symm⟩
  | some x => obtain ⟨k, hk⟩ := idxOf_some (h x rfl) hl; exact .inr ⟨k, by simp [hk]⟩

theorem slice_arith {off len n k1 cap : Nat} {l q : Int} (h0 : 0 ≤ l) (h1 : l ≤ q) (h2 : q ≤ len) (hn : off + len ≤ n) (hk1 : len ≤ k1) (hk2 : off + k1 ≤ cap) :
    off + l.toNat + (q - l).toNat ≤ n ∧ (q - l).toNat ≤ k1 - l.toNat ∧ off + l.toNat + (k1 - l.toNat) ≤ cap := by omega

theorem pure_slice (hT : TOK P T) (h : HR P base w c hp) {t : TypeId} {o : Oper} {x : Operand} {lo hi : Option Operand} {ρ : Operand → AV} {r : Operand → Value} (hop : o.op = .slice t x lo hi none)
    (hx : VR P w c (ρ x) (r x)) (hlo : ∀ y, lo = some y → VR P w c (ρ y) (r y)) (hhi : ∀ y, hi = some y → VR P w c (ρ y) (r y))
    {v : AV} {hp' : Hp} (hev : (opEv T o ρ hp).gives v hp') : hp' = hp ∧ PureOut P w c (Instr.sliceAt t (r x) (lo.map r) (hi.map r) none) v := by
  unfold opEv at hev
  rw [hop] at hev
  simp only at hev
  split at hev
  · rename_i e _ _ _ _ ht
    have hd := (hT _ _ ht).1
    split at hev
    · rename_i ei he
      obtain ⟨_, _, _, inf, hinf, hsz, _⟩ := hT _ _ he
      have hrun : ∀ (a : Option Addr) (len cap : Nat) (l q : Int), (lo.map r = none ∧ l = 0 ∨ ∃ k, lo.map r = some (.int k l)) → (hi.map r = none ∧ q = len ∨ ∃ k, hi.map r = some (.int k q)) →
          0 ≤ l → l ≤ q → q ≤ len → len ≤ cap → (Instr.sliceAt t (.slice a len cap) (lo.map r) (hi.map r) none).run P w =
            .ok (.slice (if cap = l.toNat then a else a.map (·.add (l.toNat * ei.size))) (q.toNat - l.toNat) (cap - l.toNat)) w := fun a len cap l q h1 h2 h3 h4 h5 h6 => by
        simp [Instr.sliceAt, run_underlying hd, Instr.slice, run_bounds true len cap _ _ l q h1 h2 h3 h4 h5 h6, sizeOf, typeInfo, hinf, hsz]
      split at hev
      · rename_i es len f hr
        rw [hr] at hx
        split at hev
        · rename_i l q hl hq
          cases hb : Nat.beq es ei.size with
          | false => rw [hb] at hev; exact hev.elim
          | true =>
            rw [hb] at hev
            obtain ⟨⟨h0, h1, h2⟩, rfl, rfl⟩ := hev
            have hes := Nat.eq_of_beq_eq_true hb
            have hl' := optIdx_some hlo hl
            have hq' := optIdx_some hhi hq
            have e2 : q.toNat - l.toNat = (q - l).toNat := by omega
            refine ⟨rfl, ?_⟩
            cases hx with
            | tree hx =>
              generalize r x = rx at hx
              cases hx with
              | rslice0 _ _ a k =>
                refine ⟨_, hrun a 0 k l q hl' hq' h0 h1 (by omega) (by omega), .tree ?_⟩
                have e1 : (q - l).toNat = 0 := by omega
                rw [e2, e1]
                exact .rslice0 _ _ _ _
              | rslice _ _ _ b off k g hlk hpb hlen hcell hrel =>
                refine ⟨_, hrun _ len k l q hl' hq' h0 h1 h2 hlk, .tree ?_⟩
                rw [e2]
                by_cases hz : (q - l).toNat = 0
                · rw [hz]; exact .rslice0 _ _ _ _
                · rw [if_neg (by omega), Option.map_some, addr_add]
                  refine .rslice _ _ _ b (off + l.toNat * ei.size) _ (fun i j => g (l.toNat + i) j) (by omega) hpb (fun i hi => hlen _ (by omega)) (fun i j hi hj => ?_) (fun i j y hi hy => hrel _ _ _ (by omega) hy)
                  have := hcell (l.toNat + i) j (by omega) hj
                  rw [Nat.add_mul, hes] at this
                  rw [hes]
                  rw [show off + l.toNat * ei.size + (i * ei.size + j) = off + (l.toNat * ei.size + i * ei.size + j) from by omega]
                  exact this
        · exact hev.elim
      · rename_i b ver off len cap hr
        rw [hr] at hx
        split at hev
        · rename_i kk l q hkk hl hq
          cases hb : Nat.beq kk.es ei.size with
          | false => rw [hb] at hev; exact hev.elim
          | true =>
            rw [hb] at hev
            obtain ⟨⟨h0, h1, h2⟩, rfl, rfl⟩ := hev
            have hes := Nat.eq_of_beq_eq_true hb
            have hl' := optIdx_some hlo hl
            have hq' := optIdx_some hhi hq
            have e2 : q.toNat - l.toNat = (q - l).toNat := by omega
            obtain ⟨hkb, hkv⟩ := block_some hkk
            obtain ⟨oi, hO, hle, _, hv'⟩ := hx.oslice_inv
            have hB := h.blk b kk oi hkb hO
            obtain ⟨hn1, a, k1, hu, hk1, hk2, hk3, hk4⟩ := hv' (by rw [hB.ver, hkv])
            rw [hu]
            have hR := hrun a len k1 l q hl' hq' h0 h1 h2 hk1
            obtain ⟨r1, r2, r3⟩ := slice_arith h0 h1 h2 hn1 hk1 hk2
            refine ⟨rfl, _, hR, .oslice _ _ _ _ _ _ oi hO hle rfl fun _ => ⟨r1, (if k1 = l.toNat then a else a.map (·.add (l.toNat * ei.size))), k1 - l.toNat, by rw [e2], r2, r3, fun hne => ?_, fun cp hcp => ?_⟩⟩
            · have hk0 : k1 ≠ 0 := fun e => hne (by rw [e]; exact Nat.zero_sub _)
              have hk0' : k1 ≠ l.toNat := fun e => hne (by rw [e]; exact Nat.sub_self _)
              rw [if_neg hk0', hk3 hk0, Option.map_some, addr_add, Nat.add_mul, hB.es, hes, Nat.add_assoc]
            · cases cap with
              | none => simp at hcp
              | some c0 => simp only [Option.some.injEq] at hcp; rw [hk4 c0 rfl]; exact hcp
        · exact hev.elim
      · exact hev.elim
    · exact hev.elim
  · rename_i ht
    have hd := (hT _ _ ht).1
    split at hev
    · rename_i s hr
      rw [hr] at hx
      split at hev
      · rename_i l q hl hq
        obtain ⟨⟨h0, h1, h2⟩, rfl, rfl⟩ := hev
        have := hx.val_inv
        rw [this]
        refine ⟨rfl, _, ?_, .tree (.val _)⟩
        simp [Instr.sliceAt, run_underlying hd, Instr.slice, run_bounds false s.size s.size _ _ l q (optIdx_some hlo hl) (optIdx_some hhi hq) h0 h1 h2 (Nat.le_refl _)]
      · exact hev.elim
    · exact hev.elim
  · exact hev.elim

/-- A slice expression with three bounds. -/
theorem run_bounds3 (len cap : Nat) (lo : Option Value) (l r m : Int) {kr km : IntKind} (hl : lo = none ∧ l = 0 ∨ ∃ k, lo = some (.int k l)) (h0 : 0 ≤ l) (h1 : l ≤ r) (h2 : r ≤ m) (h3 : m ≤ cap) :
    (Instr.sliceBounds true len cap lo (some (.int kr r)) (some (.int km m))).run P w = .ok (l.toNat, r.toNat, m.toNat) w := by
  have hm : ∀ code, (Instr.sliceBound (.int km m) cap code).run P w = .ok m.toNat w := fun code => run_bound km m cap code (by omega) (by omega)
  have hr : ∀ code, (Instr.sliceBound (.int kr r) m.toNat code).run P w = .ok r.toNat w := fun code => run_bound kr r m.toNat code (by omega) (by omega)
  rcases hl with ⟨rfl, rfl⟩ | ⟨k, rfl⟩
  · simp [Instr.sliceBounds, hm, hr]
  · have hl : ∀ code, (Instr.sliceBound (.int k l) r.toNat code).run P w = .ok l.toNat w := fun code => run_bound k l r.toNat code (by omega) (by omega)
    simp [Instr.sliceBounds, hm, hr, hl]

theorem pure_slice3 (hT : TOK P T) {t : TypeId} {o : Oper} {x mx : Operand} {lo hi : Option Operand} {ρ : Operand → AV} {r : Operand → Value} (hop : o.op = .slice t x lo hi (some mx))
    (hx : VR P w c (ρ x) (r x)) (hlo : ∀ y, lo = some y → VR P w c (ρ y) (r y)) (hhi : ∀ y, hi = some y → VR P w c (ρ y) (r y)) (hmx : VR P w c (ρ mx) (r mx))
    {v : AV} {hp' : Hp} (hev : (opEv T o ρ hp).gives v hp') : hp' = hp ∧ PureOut P w c (Instr.sliceAt t (r x) (lo.map r) (hi.map r) (some (r mx))) v := by
  unfold opEv at hev
  rw [hop] at hev
  simp only at hev
  split at hev
  case h_2 => exact hev.elim
  rename_i e _ _ _ _ ht
  have hd := (hT _ _ ht).1
  split at hev
  case h_2 => exact hev.elim
  rename_i ei he
  obtain ⟨_, _, _, inf, hinf, hsz, _⟩ := hT _ _ he
  have hrun : ∀ (a : Option Addr) (len cap : Nat) (l q m : Int), (lo.map r = none ∧ l = 0 ∨ ∃ k, lo.map r = some (.int k l)) → hi.isSome = true → (∃ k, hi.map r = some (.int k q)) → idxOf (ρ mx) = some m →
      0 ≤ l → l ≤ q → q ≤ m → m ≤ cap → (Instr.sliceAt t (.slice a len cap) (lo.map r) (hi.map r) (some (r mx))).run P w =
        .ok (.slice (if m.toNat = l.toNat then a else a.map (·.add (l.toNat * ei.size))) (q.toNat - l.toNat) (m.toNat - l.toNat)) w := fun a len cap l q m h1 _ h2 hm h3 h4 h5 h6 => by
    obtain ⟨km, hkm⟩ := idxOf_some hmx hm
    obtain ⟨kq, hkq⟩ := h2
    rw [hkm, hkq]
    simp [Instr.sliceAt, run_underlying hd, Instr.slice, run_bounds3 len cap _ l q m h1 h3 h4 h5 h6, sizeOf, typeInfo, hinf, hsz]
  have hiv : ∀ (q d : Int), optIdx ρ hi d = some q → hi.isSome = true → ∃ k, hi.map r = some (.int k q) := fun q d hq hs => by
    rcases optIdx_some hhi hq with ⟨h1, _⟩ | h1
    · cases hi with
      | none => cases hs
      | some y => simp at h1
    · exact h1
  split at hev
  · rename_i l m hr hl hm
    rw [hr] at hx
    split at hev
    · rename_i q hq
      obtain ⟨⟨hs, rfl, rfl, rfl⟩, rfl, rfl⟩ := hev
      refine ⟨rfl, ?_⟩
      cases hx with
      | tree hx =>
        generalize r x = rx at hx
        cases hx with
        | eslice a =>
          refine ⟨_, hrun a 0 0 0 0 0 (optIdx_some hlo hl) hs (hiv 0 0 hq hs) hm (by omega) (by omega) (by omega) (by omega), .tree ?_⟩
          exact .eslice _
    · exact hev.elim
  · rename_i es len f l m hr hl hm
    rw [hr] at hx
    split at hev
    · rename_i q hq
      cases hb : Nat.beq es ei.size with
      | false => rw [hb] at hev; exact hev.elim
      | true =>
        rw [hb] at hev
        obtain ⟨⟨hs, h0, h1, h2, h3⟩, rfl, rfl⟩ := hev
        have hes := Nat.eq_of_beq_eq_true hb
        have hl' := optIdx_some hlo hl
        have e2 : q.toNat - l.toNat = (q - l).toNat := by omega
        have e3 : m.toNat - l.toNat = (m - l).toNat := by omega
        refine ⟨rfl, ?_⟩
        cases hx with
        | tree hx =>
          generalize r x = rx at hx
          cases hx with
          | rslice0 _ _ a k =>
            refine ⟨_, hrun a 0 k l q m hl' hs (hiv q _ hq hs) hm h0 h1 h2 (by omega), .tree ?_⟩
            have e1 : (q - l).toNat = 0 := by omega
            rw [e2, e1, e3]
            exact .cslice0 _ _ _ _
          | rslice _ _ _ b off k g hlk hpb hlen hcell hrel =>
            refine ⟨_, hrun _ len k l q m hl' hs (hiv q _ hq hs) hm h0 h1 h2 (by omega), .tree ?_⟩
            rw [e2, e3]
            by_cases hz : (q - l).toNat = 0
            · rw [hz]; exact .cslice0 _ _ _ _
            · rw [if_neg (by omega), Option.map_some, addr_add]
              refine .cslice _ _ _ _ b (off + l.toNat * ei.size) (fun i j => g (l.toNat + i) j) (by omega) hpb (fun i hi => hlen _ (by omega)) (fun i j hi hj => ?_) (fun i j y hi hy => hrel _ _ _ (by omega) hy)
              have := hcell (l.toNat + i) j (by omega) hj
              rw [Nat.add_mul, hes] at this
              rw [hes]
              rw [show off + l.toNat * ei.size + (i * ei.size + j) = off + (l.toNat * ei.size + i * ei.size + j) from by omega]
              exact this
    · exact hev.elim
  · exact hev.elim

/-- A part of an aggregate. -/
theorem part_ofCells (hT : TOK P T) {t : TypeId} {ti : TI} (ht : T t = some ti) {l : List AV} {v : AV} {off : Nat} (hv : ofCells ti.desc ti.size (l.drop off) = some v)
    {vs : Array Value} (hs : vs.size = l.length) (ho : ∀ v ∈ vs.toList, v.oneCell' = true) (hr : ∀ i x, l[i]? = some x → VR P w c x (vs.getD i undef)) :
    ∃ u, (part t vs off).run P w = .ok u w ∧ VR P w c v u := by
  obtain ⟨hd, _, _, i, hi, hsz, _⟩ := hT t ti ht
  unfold ofCells at hv
  cases ha : isAggT ti.desc with
  | true =>
    rw [ha] at hv
    have hisagg : (isAgg t).run P w = .ok true w := by
      unfold isAgg
      simp only [Sem.run_bind, run_underlying hd, Result.andThen_ok]
      revert ha; cases ti.desc <;> simp [isAggT]
    cases hn : Nat.ble ti.size (l.drop off).length with
    | false => rw [hn] at hv; simp at hv
    | true =>
      rw [hn] at hv
      simp at hv
      subst hv
      have hle := Nat.le_of_ble_eq_true hn
      simp at hle
      refine ⟨_, by simp [part, hisagg, sizeOf, typeInfo, hi, hsz]; rfl, .agg _ _ (by simp; omega) (fun v hv => ho v ?_) (fun j x hx => ?_)⟩
      · simp at hv
        rw [List.mem_take_iff_getElem] at hv
        obtain ⟨j, hj, rfl⟩ := hv
        simp
      · have hj : j < ti.size := by have := (List.getElem?_eq_some_iff.1 hx).1; simp at this; omega
        rw [List.getElem?_take, if_pos hj, List.getElem?_drop] at hx
        have := hr _ x hx
        have hlt : off + j < vs.size := by rw [hs]; exact (List.getElem?_eq_some_iff.1 hx).1
        simp only [Array.getD_eq_getD_getElem?] at this ⊢
        rw [Array.getElem?_extract]
        rw [if_pos (by omega)]
        exact this
  | false =>
    rw [ha] at hv
    have hisagg : (isAgg t).run P w = .ok false w := by
      unfold isAgg
      simp only [Sem.run_bind, run_underlying hd, Result.andThen_ok]
      revert ha; cases ti.desc <;> simp [isAggT]
    cases hdr : l.drop off with
    | nil => rw [hdr] at hv; simp at hv
    | cons x r =>
      rw [hdr] at hv
      simp at hv
      subst hv
      have hx : l[off]? = some x := by
        have := List.getElem?_drop (xs := l) (i := off) (j := 0)
        rw [hdr] at this
        simpa using this.symm
      have hlt : off < vs.size := by rw [hs]; exact (List.getElem?_eq_some_iff.1 hx).1
      have := hr off x hx
      simp [hlt] at this
      exact ⟨vs[off], by simp [part, hisagg, hlt], this⟩

theorem pure_field (hT : TOK P T) {t : TypeId} {i : Nat} {o : Oper} {x : Operand} {ρ : Operand → AV} {r : Operand → Value} (hop : o.op = .field t x i) (hx : VR P w c (ρ x) (r x))
    {v : AV} {hp' : Hp} (hev : (opEv T o ρ hp).gives v hp') : hp' = hp ∧ PureOut P w c (Instr.field t (r x) i) v := by
  unfold opEv at hev
  rw [hop] at hev
  simp only at hev
  split at hev
  · rename_i fields _ _ _ _ l ht hr
    have hd := (hT _ _ ht).1
    rw [hr] at hx
    split at hev
    · rename_i f hf
      have hf' := find_field hf
      split at hev
      · rename_i fi hft
        split at hev
        · rename_i v' hv
          obtain ⟨rfl, rfl⟩ := hev
          obtain ⟨vs, hu, hs, ho, hrel⟩ := hx.agg_inv
          obtain ⟨u, h1, h2⟩ := part_ofCells hT hft hv hs ho hrel
          exact ⟨rfl, u, by rw [hu]; simp [Instr.field, run_underlying hd, hf', asAgg, h1], h2⟩
        · exact hev.elim
      · exact hev.elim
    · exact hev.elim
  · exact hev.elim

theorem pure_index (hT : TOK P T) {t : TypeId} {o : Oper} {x ix : Operand} {ρ : Operand → AV} {r : Operand → Value} (hop : o.op = .index t x ix) (hx : VR P w c (ρ x) (r x)) (hi : VR P w c (ρ ix) (r ix))
    {v : AV} {hp' : Hp} (hev : (opEv T o ρ hp).gives v hp') : hp' = hp ∧ PureOut P w c (Instr.index t (r x) (r ix)) v := by
  unfold opEv at hev
  rw [hop] at hev
  simp only at hev
  split at hev
  · rename_i s n ht hr hn
    have hd := (hT _ _ ht).1
    obtain ⟨k, hk⟩ := idxOf_some hi hn
    rw [hr] at hx
    obtain ⟨⟨h0, h1⟩, rfl, rfl⟩ := hev
    rw [hk, hx.val_inv]
    refine ⟨rfl, _, ?_, .tree (.val _)⟩
    have hlt : n.toNat < s.size := by omega
    have hlt' : n.toNat < s.data.toList.length := by simpa using hlt
    have hb : s[n.toNat]? = some (s.data.toList.getD n.toNat 0) := by
      rw [ByteArray.getElem?_lt' s n.toNat hlt, List.getD_eq_getElem?_getD, List.getElem?_eq_getElem hlt']
      rfl
    simp only [Instr.index, Sem.run_bind, asIntOf, Sem.run_pure, Result.andThen_ok, run_underlying hd, if_pos h0, hb]
  · exact hev.elim

theorem pure_extract {i : Nat} {o : Oper} {x : Operand} {ρ : Operand → AV} {r : Operand → Value} (hop : o.op = .extract x i) (hx : VR P w c (ρ x) (r x))
    {v : AV} {hp' : Hp} (hev : (opEv T o ρ hp).gives v hp') : hp' = hp ∧ PureOut P w c (Instr.extract (r x) i) v := by
  unfold opEv at hev
  rw [hop] at hev
  simp only at hev
  split at hev
  · rename_i l hr
    rw [hr] at hx
    split at hev
    · rename_i v' hv
      obtain ⟨rfl, rfl⟩ := hev
      rw [nth?_eq] at hv
      obtain ⟨vs, hu, hs, hrel⟩ := hx.tuple_inv
      have hlt : i < vs.size := by rw [hs]; exact (List.getElem?_eq_some_iff.1 hv).1
      have := hrel i _ hv
      simp [hlt] at this
      exact ⟨rfl, vs[i], by rw [hu]; simp [Instr.extract, hlt], this⟩
    · exact hev.elim
  · exact hev.elim

theorem pure_un {op : UnOp} {t : TypeId} {o : Oper} {x : Operand} {ρ : Operand → AV} {r : Operand → Value} (hop : o.op = .unOp op t x) (hx : VR P w c (ρ x) (r x))
    {v : AV} {hp' : Hp} (hev : (opEv T o ρ hp).gives v hp') : hp' = hp ∧ PureOut P w c (Op.unary op (r x)) v := by
  unfold opEv at hev
  rw [hop] at hev
  simp only at hev
  split at hev
  · rename_i b hr
    rw [hr] at hx
    obtain ⟨rfl, rfl⟩ := hev
    rw [hx.val_inv]
    exact ⟨rfl, _, by simp [Op.unary], .tree (.val _)⟩
  · rename_i k n hr
    rw [hr] at hx
    obtain ⟨hk, rfl, rfl⟩ := hev
    rw [hx.val_inv]
    have := wrap_in hk
    exact ⟨rfl, _, by simp [Op.unary, Op.intArith, this], .tree (.val _)⟩
  · exact hev.elim

/-- What a map that is known gives. -/
theorem find_known {ki : Option IntKind} {kt : TypeId} (hT : TOK P T) (hk : keyKind T kt = some ki) : P.underlying kt = some (kindOf ki) := by
  unfold keyKind at hk
  split at hk
  · rename_i h; cases hk; exact (hT _ _ h).1
  · rename_i h; cases hk; exact (hT _ _ h).1
  · cases hk

theorem kindIs_eq {a b : Option IntKind} (h : kindIs a b = true) : a = b := by
  cases a <;> cases b <;> simp_all [kindIs]

theorem keyIs_ok {ki : Option IntKind} {key : Value} (h : keyIs ki key = true) : keyOk ki key := by
  cases ki <;> cases key <;> simp_all [keyIs, keyOk]

theorem run_checkKey {ki : Option IntKind} {kt : TypeId} {key : Value} (hu : P.underlying kt = some (kindOf ki)) (hk : keyOk ki key) (b : Bool) : (Instr.checkKey b 10000 kt key).run P w = .ok () w := by
  unfold Instr.checkKey
  simp only [Sem.run_bind, run_underlying hu, Result.andThen_ok]
  cases ki <;> cases key <;> simp_all [kindOf, keyOk]

theorem pure_lookup (hT : TOK P T) (h : HR P base w c hp) {t : TypeId} {ok : Bool} {o : Oper} {x ix : Operand} {ρ : Operand → AV} {r : Operand → Value} (hop : o.op = .lookup t x ix ok) (hx : VR P w c (ρ x) (r x)) (hi : VR P w c (ρ ix) (r ix))
    {v : AV} {hp' : Hp} (hev : (opEv T o ρ hp).gives v hp') : hp' = hp ∧ PureOut P w c (Instr.lookup t (r x) (r ix) ok) v := by
  unfold opEv at hev
  rw [hop] at hev
  simp only at hev
  split at hev
  · rename_i kt et _ _ _ _ key ht hkey
    have hd := (hT _ _ ht).1
    rw [hkey] at hi
    rw [hi.val_inv]
    split at hev
    · rename_i ki hki
      have hu := find_known hT hki
      -- what is known of the entries, and what follows
      have main : ∀ (ki' : Option IntKind) (et' : TypeId) (has : Value → Bool) (get : Value → AV) (q : Nat) (es : Array MapEntry) (clock : Nat), w.heap[q]? = some (.map es clock) →
          (∀ key, keyOk ki' key → ∃ o, Instr.findNow (kindOf ki') key es.toList 0 = some o ∧ (has key = o.isSome)) →
          (∀ key zv, keyOk ki' key → has key = false → zeroOf P et' = some zv → VT P w c.p (get key) zv) →
          (∀ key i v, keyOk ki' key → Instr.findNow (kindOf ki') key es.toList 0 = some (some (i, v)) → VT P w c.p (get key) v) →
          (kindIs ki ki' && keyIs ki key && Nat.beq et et') = true → (T et).isSome = true →
          ∃ u b, (Instr.lookup t (.map (some q)) key ok).run P w = .ok (if ok then .tuple #[u, .bool b] else u) w ∧ VT P w c.p (get key) u ∧ has key = b := by
        intro ki' et' has get q es clock hq h1 h2 h3 hb hte
        rw [Bool.and_eq_true, Bool.and_eq_true] at hb
        obtain ⟨⟨hb1, hb2⟩, hb3⟩ := hb
        have := kindIs_eq hb1; subst this
        have := Nat.eq_of_beq_eq_true hb3; subst this
        have hko := keyIs_ok hb2
        obtain ⟨o1, ho1, ho2⟩ := h1 key hko
        obtain ⟨ei, hei⟩ := Option.isSome_iff_exists.1 hte
        obtain ⟨_, _, _, inf, hinf, _, _, hz⟩ := hT _ _ hei
        have hck := fun b => run_checkKey (w := w) hu hko b
        have hgo := run_getObj_map (P := P) w q es clock hq
        cases o1 with
        | none =>
          have hz' : zeroOf P et = some ei.zero := by simp [zeroOf, hinf, hz]
          refine ⟨ei.zero, false, ?_, h2 key _ hko (by rw [ho2]; rfl) hz', by rw [ho2]; rfl⟩
          simp [Instr.lookup, run_underlying hd, hgo, hck, Instr.findKey, run_underlying hu, ho1, zeroValue, typeInfo, hinf, hz]
        | some iv =>
          obtain ⟨i, v0⟩ := iv
          refine ⟨v0, true, ?_, h3 key i v0 hko ho1, by rw [ho2]; rfl⟩
          simp [Instr.lookup, run_underlying hd, hgo, hck, Instr.findKey, run_underlying hu, ho1]
      have fin : ∀ (has : Value → Bool) (get : Value → AV) (m : Value), (∃ u b, (Instr.lookup t m key ok).run P w = .ok (if ok then .tuple #[u, .bool b] else u) w ∧ VT P w c.p (get key) u ∧ has key = b) →
          (bif ok then Res.ok (.tuple [get key, .val (.bool (has key))]) hp else .ok (get key) hp).gives v hp' → hp' = hp ∧ PureOut P w c (Instr.lookup t m key ok) v := by
        rintro has get m ⟨u, b, h1, h2, h3⟩ hev
        cases ok with
        | false =>
          obtain ⟨rfl, rfl⟩ := hev
          exact ⟨rfl, u, h1, .tree h2⟩
        | true =>
          obtain ⟨rfl, rfl⟩ := hev
          refine ⟨rfl, _, h1, .tree (.tuple _ _ rfl fun i x hx => ?_)⟩
          match i with
          | 0 => simp at hx; subst hx; exact h2
          | 1 => simp at hx; subst hx; rw [h3]; exact .val _
          | i + 2 => simp at hx
      cases hte : (T et).isSome with
      | false => rw [hte] at hev; simp [Res.gives] at hev
      | true =>
        rw [hte] at hev
        simp only [cond_true] at hev
        split at hev
        · rename_i b hr
          rw [hr] at hx
          obtain ⟨q, hu', hN⟩ := hx.omap_inv
          rw [hu']
          split at hev
          · rename_i am ham
            rw [nth?_eq] at ham
            obtain ⟨es, clock, hq, g1, g2, _, g3⟩ := (h.maps b am q ham hN).ex
            cases hb : (kindIs ki am.ki && keyIs ki key && Nat.beq et am.et) with
            | false => rw [hb] at hev; exact hev.elim
            | true =>
              rw [hb] at hev
              exact fin am.has am.get _ (main am.ki am.et am.has am.get q es clock hq g1 g2 g3 hb hte) hev
          · exact hev.elim
        · rename_i ki' et' has get hr
          rw [hr] at hx
          cases hb : (kindIs ki ki' && keyIs ki key && Nat.beq et et') with
          | false => rw [hb] at hev; exact hev.elim
          | true =>
            rw [hb] at hev
            cases hx with
            | tree hx =>
              generalize r x = rx at hx ⊢
              cases hx with
              | rmap _ _ _ _ q es clock hpq hq g1 g2 g3 => exact fin has get _ (main ki' et' has get q es clock hq g1 g2 g3 hb hte) hev
        · exact hev.elim
    · exact hev.elim
  · exact hev.elim

theorem pure_convert (hT : TOK P T) {src dst : TypeId} {x : Operand} {ρ : Operand → AV} {r : Operand → Value} (hx : VR P w c (ρ x) (r x))
    {k : IntKind} {n : Int} {k' : IntKind} {v : AV} {hp' : Hp} {ts : TI} {s b z kz} (hs : T src = some ts) (hd : T dst = some ⟨.int k, s, b, z, kz⟩) (hr : ρ x = .val (.int k' n)) (hev : (Res.need (inK k n) (.val (.int k n)) hp).gives v hp') :
    hp' = hp ∧ PureOut P w c (convert src dst (r x)) v := by
  obtain ⟨hk, rfl, rfl⟩ := hev
  have h1 := (hT _ _ hs).1
  have h2 := (hT _ _ hd).1
  rw [hr] at hx
  rw [hx.val_inv]
  refine ⟨rfl, _, ?_, .tree (.val _)⟩
  simp [convert, run_underlying h1, run_underlying h2, Conv.intToInt, wrap_in hk]

theorem pure_len (hT : TOK P T) (h : HR P base w c hp) {o : Oper} {args : Array Operand} {ts : Array TypeId} {ρ : Operand → AV} {r : Operand → Value} (hop : o.op = .call { callee := .builtin .len, args, argTypes := ts })
    (hx : ∀ x ∈ args, VR P w c (ρ x) (r x)) {v : AV} {hp' : Hp} (hev : (opEv T o ρ hp).gives v hp') : hp' = hp ∧ ∃ u, (execOp r o).run P w = .ok (.value u) w ∧ VR P w c v u := by
  have hex : (execOp r o).run P w = ((Builtin.len_ ts o.type (args.map r)).run P w).andThen fun u w' => .ok (.value u) w' := by
    unfold execOp
    simp only [hop, resolve, invoke, builtin, Sem.run_bind, Sem.run_pure, Result.andThen_ok]
  unfold opEv at hev
  rw [hop] at hev
  simp only at hev
  split at hev
  · rename_i t x ht hxx
    rw [nth?_eq] at ht hxx
    have ht' : ts[0]? = some t := by simpa using ht
    have hx' : args[0]? = some x := by simpa using hxx
    have hvx := hx x (Array.mem_of_getElem? hx')
    have har : (args.map r)[0]? = some (r x) := by simp [hx']
    rw [hex]
    split at hev
    · rename_i e _ _ _ _ hT1 hr
      have hd := (hT _ _ hT1).1
      rw [hr] at hvx
      obtain ⟨rfl, rfl⟩ := hev
      cases hvx with
      | tree hvx =>
        generalize r x = rx at hvx har
        cases hvx with
        | eslice a => exact ⟨rfl, _, by simp [Builtin.len_, ht', har, run_underlying hd]; rfl, .tree (.val _)⟩
    · rename_i e _ _ _ _ es len f hT1 hr
      have hd := (hT _ _ hT1).1
      rw [hr] at hvx
      obtain ⟨rfl, rfl⟩ := hev
      cases hvx with
      | tree hvx =>
        generalize r x = rx at hvx har
        cases hvx with
        | rslice0 => exact ⟨rfl, _, by simp [Builtin.len_, ht', har, run_underlying hd]; rfl, .tree (.val _)⟩
        | rslice => exact ⟨rfl, _, by simp [Builtin.len_, ht', har, run_underlying hd]; rfl, .tree (.val _)⟩
    · rename_i hT1 hr
      have hd := (hT _ _ hT1).1
      rw [hr] at hvx
      obtain ⟨rfl, rfl⟩ := hev
      cases hvx with
      | tree hvx =>
        generalize r x = rx at hvx har
        cases hvx with
        | cslice0 => exact ⟨rfl, _, by simp [Builtin.len_, ht', har, run_underlying hd]; rfl, .tree (.val _)⟩
        | cslice => exact ⟨rfl, _, by simp [Builtin.len_, ht', har, run_underlying hd]; rfl, .tree (.val _)⟩
    · rename_i b ver off len cap hT1 hr
      have hd := (hT _ _ hT1).1
      rw [hr] at hvx
      split at hev
      · rename_i k hk
        obtain ⟨rfl, rfl⟩ := hev
        obtain ⟨hkb, hkv⟩ := block_some hk
        obtain ⟨oi, hO, hle, _, hv'⟩ := hvx.oslice_inv
        have hB := h.blk b k oi hkb hO
        obtain ⟨_, a, k1, hu, _⟩ := hv' (by rw [hB.ver, hkv])
        rw [hu] at har
        exact ⟨rfl, _, by simp [Builtin.len_, ht', har, run_underlying hd]; rfl, .tree (.val _)⟩
      · exact hev.elim
    · rename_i s hT1 hr
      have hd := (hT _ _ hT1).1
      rw [hr] at hvx
      obtain ⟨rfl, rfl⟩ := hev
      rw [hvx.val_inv] at har
      exact ⟨rfl, _, by simp [Builtin.len_, ht', har, run_underlying hd]; rfl, .tree (.val _)⟩
    · rename_i n e _ _ _ _ hT1
      have hd := (hT _ _ hT1).1
      obtain ⟨rfl, rfl⟩ := hev
      refine ⟨rfl, _, by simp [Builtin.len_, ht', har, run_underlying hd]; rfl, .tree (.val _)⟩
    · exact hev.elim
  · exact hev.elim

theorem pure_max {o : Oper} {args : Array Operand} {ts : Array TypeId} {ρ : Operand → AV} {r : Operand → Value} (hop : o.op = .call { callee := .builtin .max, args, argTypes := ts })
    (hx : ∀ x ∈ args, VR P w c (ρ x) (r x)) {v : AV} {hp' : Hp} (hev : (opEv T o ρ hp).gives v hp') : hp' = hp ∧ ∃ u, (execOp r o).run P w = .ok (.value u) w ∧ VR P w c v u := by
  unfold opEv at hev
  rw [hop] at hev
  simp only at hev
  split at hev
  · rename_i k a k' b hr
    obtain ⟨rfl, rfl⟩ := hev
    obtain ⟨la⟩ := args
    match la, hr with
    | [], hr => simp at hr
    | [_], hr => simp at hr
    | _ :: _ :: _ :: _, hr => simp at hr
    | [x, y], hr =>
      simp only [List.map_cons, List.map_nil, List.cons.injEq, and_true] at hr
      have h1 := hx x (by simp)
      have h2 := hx y (by simp)
      rw [hr.1] at h1; rw [hr.2] at h2
      refine ⟨rfl, _, ?_, .tree (.val _)⟩
      simp [execOp, hop, resolve, invoke, builtin, h1.val_inv, h2.val_inv, run_max_int2]
  · exact hev.elim

theorem pure_min {o : Oper} {args : Array Operand} {ts : Array TypeId} {ρ : Operand → AV} {r : Operand → Value} (hop : o.op = .call { callee := .builtin .min, args, argTypes := ts })
    (hx : ∀ x ∈ args, VR P w c (ρ x) (r x)) {v : AV} {hp' : Hp} (hev : (opEv T o ρ hp).gives v hp') : hp' = hp ∧ ∃ u, (execOp r o).run P w = .ok (.value u) w ∧ VR P w c v u := by
  unfold opEv at hev
  rw [hop] at hev
  simp only at hev
  split at hev
  · rename_i k a k' b hr
    obtain ⟨rfl, rfl⟩ := hev
    obtain ⟨la⟩ := args
    match la, hr with
    | [], hr => simp at hr
    | [_], hr => simp at hr
    | _ :: _ :: _ :: _, hr => simp at hr
    | [x, y], hr =>
      simp only [List.map_cons, List.map_nil, List.cons.injEq, and_true] at hr
      have h1 := hx x (by simp)
      have h2 := hx y (by simp)
      rw [hr.1] at h1; rw [hr.2] at h2
      refine ⟨rfl, _, ?_, .tree (.val _)⟩
      simp [execOp, hop, resolve, invoke, builtin, h1.val_inv, h2.val_inv, run_min_int2]
  · exact hev.elim
end
end Go.Tr

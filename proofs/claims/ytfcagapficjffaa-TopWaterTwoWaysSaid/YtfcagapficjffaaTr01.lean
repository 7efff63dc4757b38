/- Operations that turn nothing, one by one (3). Conditions: none. -/
import Derived.Test.YtfcagapficjffaaTr00

namespace Go.Tr
open Go Go.RowKit

section
variable {P : Program} {T : Nat → Option TI} {w : World} {c : Cx} {base : Nat} {hp : Hp}

theorem run_bound (k : IntKind) (i : Int) (y : Nat) (code : BoundsCode) (h0 : 0 ≤ i) (h1 : i ≤ y) : (Instr.sliceBound (.int k i) y code).run P w = .ok i.toNat w := by
  simp [Instr.sliceBound, asIntOf, h0, h1]

/-- The two bounds of a slice expression. -/
theorem run_bounds (b : Bool) (len cap : Nat) (lo hi : Option Value) (l r : Int) (hl : lo = none ∧ l = 0 ∨ ∃ k, lo = some (.int k l)) (hr : hi = none ∧ r = len ∨ ∃ k, hi = some (.int k r))
    (h0 : 0 ≤ l) (h1 : l ≤ r) (h2 : r ≤ len) (h3 : len ≤ cap) :
    (Instr.sliceBounds b len cap lo hi none).run P w = .ok (l.toNat, r.toNat, cap) w := by
  have hr2 : ((r.toNat : Nat) : Int) = r := by omega
  have hb : ∀ k code, (Instr.sliceBound (.int k r) cap code).run P w = .ok r.toNat w := fun k code => run_bound k r cap code (by omega) (by omega)
  have hb2 : ∀ k code, (Instr.sliceBound (.int k l) r.toNat code).run P w = .ok l.toNat w := fun k code => run_bound k l r.toNat code (by omega) (by omega)
  rcases hr with ⟨rfl, rfl⟩ | ⟨k, rfl⟩
  · have hb3 : ∀ k code, (Instr.sliceBound (.int k l) len code).run P w = .ok l.toNat w := fun k code => run_bound k l len code (by omega) (by omega)
    rcases hl with ⟨rfl, rfl⟩ | ⟨k', rfl⟩
    · simp [Instr.sliceBounds]
    · simp [Instr.sliceBounds, hb3]
  · rcases hl with ⟨rfl, rfl⟩ | ⟨k', rfl⟩
    · simp [Instr.sliceBounds, hb]
    · simp [Instr.sliceBounds, hb, hb2]

theorem optIdx_some {lo : Option Operand} {ρ : Operand → AV} {r : Operand → Value} (h : ∀ x, lo = some x → VR P w c (ρ x) (r x)) {d l : Int} (hl : optIdx ρ lo d = some l) :
    lo.map r = none ∧ l = d ∨ ∃ k, lo.map r = some (.int k l) := by
  cases lo with
  | none => simp [optIdx] at hl; exact .inl ⟨rfl, hl.symm⟩
  | some x => obtain ⟨k, hk⟩ := idxOf_some (h x rfl) hl; exact .inr ⟨k, by simp [hk]⟩

theorem slice_arith {off len n k1 cap : Nat} {l q : Int} (h0 : 0 ≤ l) (h1 : l ≤ q) (h2 : q ≤ len) (hn : off + len ≤ n) (hk1 : len ≤ k1) (hk2 : off + k1 ≤ cap) :
    off + l.toNat + (q - l).toNat ≤ n ∧ (q - l).toNat ≤ k1 - l.toNat ∧ off + l.toNat + (k1 - l.toNat) ≤ cap := by omega

theorem pure_slice (hT : TOK P T) (h : HR P base w c hp) {t : TypeId} {o : Oper} {x : Operand} {lo hi : Option Operand} {ρ : Operand → AV} {r : Operand → Value} (hop : o.op = .slice t x lo hi none)
    (hx : VR P w c (ρ x) (r x)) (hlo : ∀ y, lo = some y → VR P w c (ρ y) (r y)) (hhi : ∀ y, hi = some y → VR P w c (ρ y) (r y))
    {v : AV} {hp' : Hp} (hev : (opEv T o ρ hp).gives v hp') : hp' = hp ∧ PureOut P w c (Instr.sliceAt t (r x) (lo.map r) (hi.map r) none) v := by
  unfold opEv at hev
  rw [hop] at hev
  simp only at hev
  split at hev
  · rename_i e _ _ _ _ ht
    have hd := (hT _ _ ht).1
    split at hev
    · rename_i ei he
      obtain ⟨_, _, _, inf, hinf, hsz, _⟩ := hT _ _ he
      have hrun : ∀ (a : Option Addr) (len cap : Nat) (l q : Int), (lo.map r = none ∧ l = 0 ∨ ∃ k, lo.map r = some (.int k l)) → (hi.map r = none ∧ q = len ∨ ∃ k, hi.map r = some (.int k q)) →
          0 ≤ l → l ≤ q → q ≤ len → len ≤ cap → (Instr.sliceAt t (.slice a len cap) (lo.map r) (hi.map r) none).run P w =
            .ok (.slice (if cap = l.toNat then a else a.map (·.add (l.toNat * ei.size))) (q.toNat - l.toNat) (cap - l.toNat)) w := fun a len cap l q h1 h2 h3 h4 h5 h6 => by
        simp [Instr.sliceAt, run_underlying hd, Instr.slice, run_bounds true len cap _ _ l q h1 h2 h3 h4 h5 h6, sizeOf, typeInfo, hinf, hsz]
      split at hev
      · rename_i es len f hr
        rw [hr] at hx
        split at hev
        · rename_i l q hl hq
          cases hb : Nat.beq es ei.size with
          | false => rw [hb] at hev; exact hev.elim
          | true =>
            rw [hb] at hev
            simp only [cond_true, shiftF_eq] at hev
            obtain ⟨⟨h0, h1, h2⟩, rfl, rfl⟩ := hev
            have hes := Nat.eq_of_beq_eq_true hb
            have hl' := optIdx_some hlo hl
            have hq' := optIdx_some hhi hq
            have e2 : q.toNat - l.toNat = (q - l).toNat := by omega
            refine ⟨rfl, ?_⟩
            cases hx with
            | tree hx =>
              generalize r x = rx at hx
              cases hx with
              | rslice0 _ _ a k =>
                refine ⟨_, hrun a 0 k l q hl' hq' h0 h1 (by omega) (by omega), .tree ?_⟩
                have e1 : (q - l).toNat = 0 := by omega
                rw [e2, e1]
                exact .rslice0 _ _ _ _
              | rslice _ _ _ b off k g hlk hpb hlen hcell hrel =>
                refine ⟨_, hrun _ len k l q hl' hq' h0 h1 h2 hlk, .tree ?_⟩
                rw [e2]
                by_cases hz : (q - l).toNat = 0
                · rw [hz]; exact .rslice0 _ _ _ _
                · rw [if_neg (by omega), Option.map_some, addr_add]
                  refine .rslice _ _ _ b (off + l.toNat * ei.size) _ (fun i j => g (l.toNat + i) j) (by omega) hpb (fun i hi => hlen _ (by omega)) (fun i j hi hj => ?_) (fun i j y hi hy => hrel _ _ _ (by omega) hy)
                  have := hcell (l.toNat + i) j (by omega) hj
                  rw [Nat.add_mul, hes] at this
                  rw [hes]
                  rw [show off + l.toNat * ei.size + (i * ei.size + j) = off + (l.toNat * ei.size + i * ei.size + j) from by omega]
                  exact this
        · exact hev.elim
      · rename_i b ver off len cap hr
        rw [hr] at hx
        split at hev
        · rename_i kk l q hkk hl hq
          cases hb : Nat.beq kk.es ei.size with
          | false => rw [hb] at hev; exact hev.elim
          | true =>
            rw [hb] at hev
            obtain ⟨⟨h0, h1, h2⟩, rfl, rfl⟩ := hev
            have hes := Nat.eq_of_beq_eq_true hb
            have hl' := optIdx_some hlo hl
            have hq' := optIdx_some hhi hq
            have e2 : q.toNat - l.toNat = (q - l).toNat := by omega
            obtain ⟨hkb, hkv⟩ := block_some hkk
            obtain ⟨oi, hO, hle, _, hv'⟩ := hx.oslice_inv
            have hB := h.blk b kk oi hkb hO
            obtain ⟨hn1, a, k1, hu, hk1, hk2, hk3, hk4⟩ := hv' (by rw [hB.ver, hkv])
            rw [hu]
            have hR := hrun a len k1 l q hl' hq' h0 h1 h2 hk1
            obtain ⟨r1, r2, r3⟩ := slice_arith h0 h1 h2 hn1 hk1 hk2
            refine ⟨rfl, _, hR, .oslice _ _ _ _ _ _ oi hO hle rfl fun _ => ⟨r1, (if k1 = l.toNat then a else a.map (·.add (l.toNat * ei.size))), k1 - l.toNat, by rw [e2], r2, r3, fun hne => ?_, fun cp hcp => ?_⟩⟩
            · have hk0 : k1 ≠ 0 := fun e => hne (by rw [e]; exact Nat.zero_sub _)
              have hk0' : k1 ≠ l.toNat := fun e => hne (by rw [e]; exact Nat.sub_self _)
              rw [if_neg hk0', hk3 hk0, Option.map_some, addr_add, Nat.add_mul, hB.es, hes, Nat.add_assoc]
            · cases cap with
              | none => simp at hcp
              | some c0 => simp only [Option.some.injEq] at hcp; rw [hk4 c0 rfl]; exact hcp
        · exact hev.elim
      · exact hev.elim
    · exact hev.elim
  · rename_i ht
    have hd := (hT _ _ ht).1
    split at hev
    · rename_i s hr
      rw [hr] at hx
      split at hev
      · rename_i l q hl hq
        obtain ⟨⟨h0, h1, h2⟩, rfl, rfl⟩ := hev
        have := hx.val_inv
        rw [this]
        refine ⟨rfl, _, ?_, .tree (.val _)⟩
        simp [Instr.sliceAt, run_underlying hd, Instr.slice, run_bounds false s.size s.size _ _ l q (optIdx_some hlo hl) (optIdx_some hhi hq) h0 h1 h2 (Nat.le_refl _)]
      · exact hev.elim
    · exact hev.elim
  · exact hev.elim

/-- A slice expression with three bounds. -/
theorem run_bounds3 (len cap : Nat) (lo : Option Value) (l r m : Int) {kr km : IntKind} (hl : lo = none ∧ l = 0 ∨ ∃ k, lo = some (.int k l)) (h0 : 0 ≤ l) (h1 : l ≤ r) (h2 : r ≤ m) (h3 : m ≤ cap) :
    (Instr.sliceBounds true len cap lo (some (.int kr r)) (some (.int km m))).run P w = .ok (l.toNat, r.toNat, m.toNat) w := by
  have hm : ∀ code, (Instr.sliceBound (.int km m) cap code).run P w = .ok m.toNat w := fun code => run_bound km m cap code (by omega) (by omega)
  have hr : ∀ code, (Instr.sliceBound (.int kr r) m.toNat code).run P w = .ok r.toNat w := fun code => run_bound kr r m.toNat code (by omega) (by omega)
  rcases hl with ⟨rfl, rfl⟩ | ⟨k, rfl⟩
  · simp [Instr.sliceBounds, hm, hr]
  · have hl : ∀ code, (Instr.sliceBound (.int k l) r.toNat code).run P w = .ok l.toNat w := fun code => run_bound k l r.toNat code (by omega) (by omega)
    simp [Instr.sliceBounds, hm, hr, hl]

theorem pure_slice3 (hT : TOK P T) {t : TypeId} {o : Oper} {x mx : Operand} {lo hi : Option Operand} {ρ : Operand → AV} {r : Operand → Value} (hop : o.op = .slice t x lo hi (some mx))
    (hx : VR P w c (ρ x) (r x)) (hlo : ∀ y, lo = some y → VR P w c (ρ y) (r y)) (hhi : ∀ y, hi = some y → VR P w c (ρ y) (r y)) (hmx : VR P w c (ρ mx) (r mx))
    {v : AV} {hp' : Hp} (hev : (opEv T o ρ hp).gives v hp') : hp' = hp ∧ PureOut P w c (Instr.sliceAt t (r x) (lo.map r) (hi.map r) (some (r mx))) v := by
  unfold opEv at hev
  rw [hop] at hev
  simp only at hev
  split at hev
  case h_2 => exact hev.elim
  rename_i e _ _ _ _ ht
  have hd := (hT _ _ ht).1
  split at hev
  case h_2 => exact hev.elim
  rename_i ei he
  obtain ⟨_, _, _, inf, hinf, hsz, _⟩ := hT _ _ he
  have hrun : ∀ (a : Option Addr) (len cap : Nat) (l q m : Int), (lo.map r = none ∧ l = 0 ∨ ∃ k, lo.map r = some (.int k l)) → hi.isSome = true → (∃ k, hi.map r = some (.int k q)) → idxOf (ρ mx) = some m →
      0 ≤ l → l ≤ q → q ≤ m → m ≤ cap → (Instr.sliceAt t (.slice a len cap) (lo.map r) (hi.map r) (some (r mx))).run P w =
        .ok (.slice (if m.toNat = l.toNat then a else a.map (·.add (l.toNat * ei.size))) (q.toNat - l.toNat) (m.toNat - l.toNat)) w := fun a len cap l q m h1 _ h2 hm h3 h4 h5 h6 => by
    obtain ⟨km, hkm⟩ := idxOf_some hmx hm
    obtain ⟨kq, hkq⟩ := h2
    rw [hkm, hkq]
    simp [Instr.sliceAt, run_underlying hd, Instr.slice, run_bounds3 len cap _ l q m h1 h3 h4 h5 h6, sizeOf, typeInfo, hinf, hsz]
  have hiv : ∀ (q d : Int), optIdx ρ hi d = some q → hi.isSome = true → ∃ k, hi.map r = some (.int k q) := fun q d hq hs => by
    rcases optIdx_some hhi hq with ⟨h1, _⟩ | h1
    · cases hi with
      | none => cases hs
      | some y => simp at h1
    · exact h1
  split at hev
  · rename_i l m hr hl hm
    rw [hr] at hx
    split at hev
    · rename_i q hq
      obtain ⟨⟨hs, rfl, rfl, rfl⟩, rfl, rfl⟩ := hev
      refine ⟨rfl, ?_⟩
      cases hx with
      | tree hx =>
        generalize r x = rx at hx
        cases hx with
        | eslice a =>
          refine ⟨_, hrun a 0 0 0 0 0 (optIdx_some hlo hl) hs (hiv 0 0 hq hs) hm (by omega) (by omega) (by omega) (by omega), .tree ?_⟩
          exact .eslice _
    · exact hev.elim
  · rename_i es len f l m hr hl hm
    rw [hr] at hx
    split at hev
    · rename_i q hq
      cases hb : Nat.beq es ei.size with
      | false => rw [hb] at hev; exact hev.elim
      | true =>
        rw [hb] at hev
        simp only [cond_true, shiftF_eq] at hev
        obtain ⟨⟨hs, h0, h1, h2, h3⟩, rfl, rfl⟩ := hev
        have hes := Nat.eq_of_beq_eq_true hb
        have hl' := optIdx_some hlo hl
        have e2 : q.toNat - l.toNat = (q - l).toNat := by omega
        have e3 : m.toNat - l.toNat = (m - l).toNat := by omega
        refine ⟨rfl, ?_⟩
        cases hx with
        | tree hx =>
          generalize r x = rx at hx
          cases hx with
          | rslice0 _ _ a k =>
            refine ⟨_, hrun a 0 k l q m hl' hs (hiv q _ hq hs) hm h0 h1 h2 (by omega), .tree ?_⟩
            have e1 : (q - l).toNat = 0 := by omega
            rw [e2, e1, e3]
            exact .cslice0 _ _ _ _
          | rslice _ _ _ b off k g hlk hpb hlen hcell hrel =>
            refine ⟨_, hrun _ len k l q m hl' hs (hiv q _ hq hs) hm h0 h1 h2 (by omega), .tree ?_⟩
            rw [e2, e3]
            by_cases hz : (q - l).toNat = 0
            · rw [hz]; exact .cslice0 _ _ _ _
            · rw [if_neg (by omega), Option.map_some, addr_add]
              refine .cslice _ _ _ _ b (off + l.toNat * ei.size) (fun i j => g (l.toNat + i) j) (by omega) hpb (fun i hi => hlen _ (by omega)) (fun i j hi hj => ?_) (fun i j y hi hy => hrel _ _ _ (by omega) hy)
              have := hcell (l.toNat + i) j (by omega) hj
              rw [Nat.add_mul, hes] at this
              rw [hes]
              rw [show off + l.toNat * ei.size + (i * ei.size + j) = off + (l.toNat * ei.size + i * ei.size + j) from by omega]
              exact this
    · exact hev.elim
  · exact hev.elim

/-- A part of an aggregate. -/
theorem part_ofCells (hT : TOK P T) {t : TypeId} {ti : TI} (ht : T t = some ti) {l : List AV} {v : AV} {off : Nat} (hv : ofCells ti.desc ti.size (l.drop off) = some v)
    {vs : Array Value} (hs : vs.size = l.length) (ho : ∀ v ∈ vs.toList, v.oneCell' = true) (hr : ∀ i x, l[i]? = some x → VR P w c x (vs.getD i undef)) :
    ∃ u, (part t vs off).run P w = .ok u w ∧ VR P w c v u := by
  obtain ⟨hd, _, _, i, hi, hsz, _⟩ := hT t ti ht
  unfold ofCells at hv
  cases ha : isAggT ti.desc with
  | true =>
    rw [ha] at hv
    have hisagg : (isAgg t).run P w = .ok true w := by
      unfold isAgg
      simp only [Sem.run_bind, run_underlying hd, Result.andThen_ok]
      revert ha; cases ti.desc <;> simp [isAggT]
    cases hn : Nat.ble ti.size (l.drop off).length with
    | false => rw [hn] at hv; simp at hv
    | true =>
      rw [hn] at hv
      simp at hv
      subst hv
      have hle := Nat.le_of_ble_eq_true hn
      simp at hle
      refine ⟨_, by simp [part, hisagg, sizeOf, typeInfo, hi, hsz]; rfl, .agg _ _ (by simp; omega) (fun v hv => ho v ?_) (fun j x hx => ?_)⟩
      · simp at hv
        rw [List.mem_take_iff_getElem] at hv
        obtain ⟨j, hj, rfl⟩ := hv
        simp
      · have hj : j < ti.size := by have := (List.getElem?_eq_some_iff.1 hx).1; simp at this; omega
        rw [List.getElem?_take, if_pos hj, List.getElem?_drop] at hx
        have := hr _ x hx
        have hlt : off + j < vs.size := by rw [hs]; exact (List.getElem?_eq_some_iff.1 hx).1
        simp only [Array.getD_eq_getD_getElem?] at this ⊢
        rw [Array.getElem?_extract]
        rw [if_pos (by omega)]
        exact this
  | false =>
    rw [ha] at hv
    have hisagg : (isAgg t).run P w = .ok false w := by
      unfold isAgg
      simp only [Sem.run_bind, run_underlying hd, Result.andThen_ok]
      revert ha; cases ti.desc <;> simp [isAggT]
    cases hdr : l.drop off with
    | nil => rw [hdr] at hv; simp at hv
    | cons x r =>
      rw [hdr] at hv
      simp at hv
      subst hv
      have hx : l[off]? = some x := by
        have := List.getElem?_drop (xs := l) (i := off) (j := 0)
        rw [hdr] at this
        simpa using this.symm
      have hlt : off < vs.size := by rw [hs]; exact (List.getElem?_eq_some_iff.1 hx).1
      have := hr off x hx
      simp [hlt] at this
      exact ⟨vs[off], by simp [part, hisagg, hlt], this⟩

theorem pure_field (hT : TOK P T) {t : TypeId} {i : Nat} {o : Oper} {x : Operand} {ρ : Operand → AV} {r : Operand → Value} (hop : o.op = .field t x i) (hx : VR P w c (ρ x) (r x))
    {v : AV} {hp' : Hp} (hev : (opEv T o ρ hp).gives v hp') : hp' = hp ∧ PureOut P w c (Instr.field t (r x) i) v := by
  unfold opEv at hev
  rw [hop] at hev
  simp only at hev
  split at hev
  · rename_i fields _ _ _ _ l ht hr
    have hd := (hT _ _ ht).1
    rw [hr] at hx
    split at hev
    · rename_i f hf
      have hf' := find_field hf
      split at hev
      · rename_i fi hft
        split at hev
        · rename_i v' hv
          obtain ⟨rfl, rfl⟩ := hev
          obtain ⟨vs, hu, hs, ho, hrel⟩ := hx.agg_inv
          obtain ⟨u, h1, h2⟩ := part_ofCells hT hft hv hs ho hrel
          exact ⟨rfl, u, by rw [hu]; simp [Instr.field, run_underlying hd, hf', asAgg, h1], h2⟩
        · exact hev.elim
      · exact hev.elim
    · exact hev.elim
  · exact hev.elim

theorem pure_index (hT : TOK P T) {t : TypeId} {o : Oper} {x ix : Operand} {ρ : Operand → AV} {r : Operand → Value} (hop : o.op = .index t x ix) (hx : VR P w c (ρ x) (r x)) (hi : VR P w c (ρ ix) (r ix))
    {v : AV} {hp' : Hp} (hev : (opEv T o ρ hp).gives v hp') : hp' = hp ∧ PureOut P w c (Instr.index t (r x) (r ix)) v := by
  unfold opEv at hev
  rw [hop] at hev
  simp only at hev
  split at hev
  · rename_i s n ht hr hn
    have hd := (hT _ _ ht).1
    obtain ⟨k, hk⟩ := idxOf_some hi hn
    rw [hr] at hx
    obtain ⟨⟨h0, h1⟩, rfl, rfl⟩ := hev
    rw [hk, hx.val_inv]
    refine ⟨rfl, _, ?_, .tree (.val _)⟩
    have hlt : n.toNat < s.size := by omega
    have hlt' : n.toNat < s.data.toList.length := by simpa using hlt
    have hb : s[n.toNat]? = some (s.data.toList.getD n.toNat 0) := by
      rw [ByteArray.getElem?_lt' s n.toNat hlt, List.getD_eq_getElem?_getD, List.getElem?_eq_getElem hlt']
      rfl
    simp only [Instr.index, Sem.run_bind, asIntOf, Sem.run_pure, Result.andThen_ok, run_underlying hd, if_pos h0, hb]
  · exact hev.elim

theorem pure_extract {i : Nat} {o : Oper} {x : Operand} {ρ : Operand → AV} {r : Operand → Value} (hop : o.op = .extract x i) (hx : VR P w c (ρ x) (r x))
    {v : AV} {hp' : Hp} (hev : (opEv T o ρ hp).gives v hp') : hp' = hp ∧ PureOut P w c (Instr.extract (r x) i) v := by
  unfold opEv at hev
  rw [hop] at hev
  simp only at hev
  split at hev
  · rename_i l hr
    rw [hr] at hx
    split at hev
    · rename_i v' hv
      obtain ⟨rfl, rfl⟩ := hev
      rw [nth?_eq] at hv
      obtain ⟨vs, hu, hs, hrel⟩ := hx.tuple_inv
      have hlt : i < vs.size := by rw [hs]; exact (List.getElem?_eq_some_iff.1 hv).1
      have := hrel i _ hv
      simp [hlt] at this
      exact ⟨rfl, vs[i], by rw [hu]; simp [Instr.extract, hlt], this⟩
    · exact hev.elim
  · exact hev.elim

theorem pure_un {op : UnOp} {t : TypeId} {o : Oper} {x : Operand} {ρ : Operand → AV} {r : Operand → Value} (hop : o.op = .unOp op t x) (hx : VR P w c (ρ x) (r x))
    {v : AV} {hp' : Hp} (hev : (opEv T o ρ hp).gives v hp') : hp' = hp ∧ PureOut P w c (Op.unary op (r x)) v := by
  unfold opEv at hev
  rw [hop] at hev
  simp only at hev
  split at hev
  · rename_i b hr
    rw [hr] at hx
    obtain ⟨rfl, rfl⟩ := hev
    rw [hx.val_inv]
    exact ⟨rfl, _, by simp [Op.unary], .tree (.val _)⟩
  · rename_i k n hr
    rw [hr] at hx
    obtain ⟨hk, rfl, rfl⟩ := hev
    rw [hx.val_inv]
    have := wrap_in hk
    exact ⟨rfl, _, by simp [Op.unary, Op.intArith, this], .tree (.val _)⟩
  · exact hev.elim

/-- What a map that is known gives. -/
theorem find_known {ki : Option IntKind} {kt : TypeId} (hT : TOK P T) (hk : keyKind T kt = some ki) : P.underlying kt = some (kindOf ki) := by
  unfold keyKind at hk
  split at hk
  · rename_i h; cases hk; exact (hT _ _ h).1
  · rename_i h; cases hk; exact (hT _ _ h).1
  · cases hk

theorem kindIs_eq {a b : Option IntKind} (h : kindIs a b = true) : a = b := by
  cases a <;> cases b <;> simp_all [kindIs]

theorem keyIs_ok {ki : Option IntKind} {key : Value} (h : keyIs ki key = true) : keyOk ki key := by
  cases ki <;> cases key <;> simp_all [keyIs, keyOk]

theorem run_checkKey {ki : Option IntKind} {kt : TypeId} {key : Value} (hu : P.underlying kt = some (kindOf ki)) (hk : keyOk ki key) (b : Bool) : (Instr.checkKey b 10000 kt key).run P w = .ok () w := by
  unfold Instr.checkKey
  simp only [Sem.run_bind, run_underlying hu, Result.andThen_ok]
  cases ki <;> cases key <;> simp_all [kindOf, keyOk]

theorem pure_lookup (hT : TOK P T) (h : HR P base w c hp) {t : TypeId} {ok : Bool} {o : Oper} {x ix : Operand} {ρ : Operand → AV} {r : Operand → Value} (hop : o.op = .lookup t x ix ok) (hx : VR P w c (ρ x) (r x)) (hi : VR P w c (ρ ix) (r ix))
    {v : AV} {hp' : Hp} (hev : (opEv T o ρ hp).gives v hp') : hp' = hp ∧ PureOut P w c (Instr.lookup t (r x) (r ix) ok) v := by
  unfold opEv at hev
  rw [hop] at hev
  simp only at hev
  split at hev
  · rename_i kt et _ _ _ _ key ht hkey
    have hd := (hT _ _ ht).1
    rw [hkey] at hi
    rw [hi.val_inv]
    split at hev
    · rename_i ki hki
      have hu := find_known hT hki
      -- what is known of the entries, and what follows
      have main : ∀ (ki' : Option IntKind) (et' : TypeId) (has : Value → Bool) (get : Value → AV) (q : Nat) (es : Array MapEntry) (clock : Nat), w.heap[q]? = some (.map es clock) →
          (∀ key, keyOk ki' key → ∃ o, Instr.findNow (kindOf ki') key es.toList 0 = some o ∧ (has key = o.isSome)) →
          (∀ key zv, keyOk ki' key → has key = false → zeroOf P et' = some zv → VT P w c.p (get key) zv) →
          (∀ key i v, keyOk ki' key → Instr.findNow (kindOf ki') key es.toList 0 = some (some (i, v)) → VT P w c.p (get key) v) →
          (kindIs ki ki' && keyIs ki key && Nat.beq et et') = true → (T et).isSome = true →
          ∃ u b, (Instr.lookup t (.map (some q)) key ok).run P w = .ok (if ok then .tuple #[u, .bool b] else u) w ∧ VT P w c.p (get key) u ∧ has key = b := by
        intro ki' et' has get q es clock hq h1 h2 h3 hb hte
        rw [Bool.and_eq_true, Bool.and_eq_true] at hb
        obtain ⟨⟨hb1, hb2⟩, hb3⟩ := hb
        have := kindIs_eq hb1; subst this
        have := Nat.eq_of_beq_eq_true hb3; subst this
        have hko := keyIs_ok hb2
        obtain ⟨o1, ho1, ho2⟩ := h1 key hko
        obtain ⟨ei, hei⟩ := Option.isSome_iff_exists.1 hte
        obtain ⟨_, _, _, inf, hinf, _, _, hz⟩ := hT _ _ hei
        have hck := fun b => run_checkKey (w := w) hu hko b
        have hgo := run_getObj_map (P := P) w q es clock hq
        cases o1 with
        | none =>
          have hz' : zeroOf P et = some ei.zero := by simp [zeroOf, hinf, hz]
          refine ⟨ei.zero, false, ?_, h2 key _ hko (by rw [ho2]; rfl) hz', by rw [ho2]; rfl⟩
          simp [Instr.lookup, run_underlying hd, hgo, hck, Instr.findKey, run_underlying hu, ho1, zeroValue, typeInfo, hinf, hz]
        | some iv =>
          obtain ⟨i, v0⟩ := iv
          refine ⟨v0, true, ?_, h3 key i v0 hko ho1, by rw [ho2]; rfl⟩
          simp [Instr.lookup, run_underlying hd, hgo, hck, Instr.findKey, run_underlying hu, ho1]
      have fin : ∀ (has : Value → Bool) (get : Value → AV) (m : Value), (∃ u b, (Instr.lookup t m key ok).run P w = .ok (if ok then .tuple #[u, .bool b] else u) w ∧ VT P w c.p (get key) u ∧ has key = b) →
          (bif ok then Res.ok (.tuple [get key, .val (.bool (has key))]) hp else .ok (get key) hp).gives v hp' → hp' = hp ∧ PureOut P w c (Instr.lookup t m key ok) v := by
        rintro has get m ⟨u, b, h1, h2, h3⟩ hev
        cases ok with
        | false =>
          obtain ⟨rfl, rfl⟩ := hev
          exact ⟨rfl, u, h1, .tree h2⟩
        | true =>
          obtain ⟨rfl, rfl⟩ := hev
          refine ⟨rfl, _, h1, .tree (.tuple _ _ rfl fun i x hx => ?_)⟩
          match i with
          | 0 => simp at hx; subst hx; exact h2
          | 1 => simp at hx; subst hx; rw [h3]; exact .val _
          | i + 2 => simp at hx
      cases hte : (T et).isSome with
      | false => rw [hte] at hev; simp [Res.gives] at hev
      | true =>
        rw [hte] at hev
        simp only [cond_true] at hev
        split at hev
        · rename_i b hr
          rw [hr] at hx
          obtain ⟨q, hu', hN⟩ := hx.omap_inv
          rw [hu']
          split at hev
          · rename_i am ham
            rw [nth?_eq] at ham
            obtain ⟨es, clock, hq, g1, g2, _, g3⟩ := (h.maps b am q ham hN).ex
            cases hb : (kindIs ki am.ki && keyIs ki key && Nat.beq et am.et) with
            | false => rw [hb] at hev; exact hev.elim
            | true =>
              rw [hb] at hev
              exact fin am.has am.get _ (main am.ki am.et am.has am.get q es clock hq g1 g2 g3 hb hte) hev
          · exact hev.elim
        · rename_i ki' et' has get hr
          rw [hr] at hx
          cases hb : (kindIs ki ki' && keyIs ki key && Nat.beq et et') with
          | false => rw [hb] at hev; exact hev.elim
          | true =>
            rw [hb] at hev
            cases hx with
            | tree hx =>
              generalize r x = rx at hx ⊢
              cases hx with
              | rmap _ _ _ _ q es clock hpq hq g1 g2 g3 => exact fin has get _ (main ki' et' has get q es clock hq g1 g2 g3 hb hte) hev
        · exact hev.elim
    · exact hev.elim
  · exact hev.elim

theorem pure_convert (hT : TOK P T) {src dst : TypeId} {x : Operand} {ρ : Operand → AV} {r : Operand → Value} (hx : VR P w c (ρ x) (r x))
    {k : IntKind} {n : Int} {k' : IntKind} {v : AV} {hp' : Hp} {ts : TI} {s b z kz} (hs : T src = some ts) (hd : T dst = some ⟨.int k, s, b, z, kz⟩) (hr : ρ x = .val (.int k' n)) (hev : (Res.need (inK k n) (.val (.int k n)) hp).gives v hp') :
    hp' = hp ∧ PureOut P w c (convert src dst (r x)) v := by
  obtain ⟨hk, rfl, rfl⟩ := hev
  have h1 := (hT _ _ hs).1
  have h2 := (hT _ _ hd).1
  rw [hr] at hx
  rw [hx.val_inv]
  refine ⟨rfl, _, ?_, .tree (.val _)⟩
  simp [convert, run_underlying h1, run_underlying h2, Conv.intToInt, wrap_in hk]

theorem pure_len (hT : TOK P T) (h : HR P base w c hp) {o : Oper} {args : Array Operand} {ts : Array TypeId} {ρ : Operand → AV} {r : Operand → Value} (hop : o.op = .call { callee := .builtin .len, args, argTypes := ts })
    (hx : ∀ x ∈ args, VR P w c (ρ x) (r x)) {v : AV} {hp' : Hp} (hev : (opEv T o ρ hp).gives v hp') : hp' = hp ∧ ∃ u, (execOp r o).run P w = .ok (.value u) w ∧ VR P w c v u := by
  have hex : (execOp r o).run P w = ((Builtin.len_ ts o.type (args.map r)).run P w).andThen fun u w' => .ok (.value u) w' := by
    unfold execOp
    simp only [hop, resolve, invoke, builtin, Sem.run_bind, Sem.run_pure, Result.andThen_ok]
  unfold opEv at hev
  rw [hop] at hev
  simp only at hev
  split at hev
  · rename_i t x ht hxx
    rw [nth?_eq] at ht hxx
    have ht' : ts[0]? = some t := by simpa using ht
    have hx' : args[0]? = some x := by simpa using hxx
    have hvx := hx x (Array.mem_of_getElem? hx')
    have har : (args.map r)[0]? = some (r x) := by simp [hx']
    rw [hex]
    split at hev
    · rename_i e _ _ _ _ hT1 hr
      have hd := (hT _ _ hT1).1
      rw [hr] at hvx
      obtain ⟨rfl, rfl⟩ := hev
      cases hvx with
      | tree hvx =>
        generalize r x = rx at hvx har
        cases hvx with
        | eslice a => exact ⟨rfl, _, by simp [Builtin.len_, ht', har, run_underlying hd]; rfl, .tree (.val _)⟩
    · rename_i e _ _ _ _ es len f hT1 hr
      have hd := (hT _ _ hT1).1
      rw [hr] at hvx
      obtain ⟨rfl, rfl⟩ := hev
      cases hvx with
      | tree hvx =>
        generalize r x = rx at hvx har
        cases hvx with
        | rslice0 => exact ⟨rfl, _, by simp [Builtin.len_, ht', har, run_underlying hd]; rfl, .tree (.val _)⟩
        | rslice => exact ⟨rfl, _, by simp [Builtin.len_, ht', har, run_underlying hd]; rfl, .tree (.val _)⟩
    · rename_i hT1 hr
      have hd := (hT _ _ hT1).1
      rw [hr] at hvx
      obtain ⟨rfl, rfl⟩ := hev
      cases hvx with
      | tree hvx =>
        generalize r x = rx at hvx har
        cases hvx with
        | cslice0 => exact ⟨rfl, _, by simp [Builtin.len_, ht', har, run_underlying hd]; rfl, .tree (.val _)⟩
        | cslice => exact ⟨rfl, _, by simp [Builtin.len_, ht', har, run_underlying hd]; rfl, .tree (.val _)⟩
    · rename_i b ver off len cap hT1 hr
      have hd := (hT _ _ hT1).1
      rw [hr] at hvx
      split at hev
      · rename_i k hk
        obtain ⟨rfl, rfl⟩ := hev
        obtain ⟨hkb, hkv⟩ := block_some hk
        obtain ⟨oi, hO, hle, _, hv'⟩ := hvx.oslice_inv
        have hB := h.blk b k oi hkb hO
        obtain ⟨_, a, k1, hu, _⟩ := hv' (by rw [hB.ver, hkv])
        rw [hu] at har
        exact ⟨rfl, _, by simp [Builtin.len_, ht', har, run_underlying hd]; rfl, .tree (.val _)⟩
      · exact hev.elim
    · rename_i s hT1 hr
      have hd := (hT _ _ hT1).1
      rw [hr] at hvx
      obtain ⟨rfl, rfl⟩ := hev
      rw [hvx.val_inv] at har
      exact ⟨rfl, _, by simp [Builtin.len_, ht', har, run_underlying hd]; rfl, .tree (.val _)⟩
    · rename_i n e _ _ _ _ hT1
      have hd := (hT _ _ hT1).1
      obtain ⟨rfl, rfl⟩ := hev
      refine ⟨rfl, _, by simp [Builtin.len_, ht', har, run_underlying hd]; rfl, .tree (.val _)⟩
    · exact hev.elim
  · exact hev.elim

theorem pure_max {o : Oper} {args : Array Operand} {ts : Array TypeId} {ρ : Operand → AV} {r : Operand → Value} (hop : o.op = .call { callee := .builtin .max, args, argTypes := ts })
    (hx : ∀ x ∈ args, VR P w c (ρ x) (r x)) {v : AV} {hp' : Hp} (hev : (opEv T o ρ hp).gives v hp') : hp' = hp ∧ ∃ u, (execOp r o).run P w = .ok (.value u) w ∧ VR P w c v u := by
  unfold opEv at hev
  rw [hop] at hev
  simp only at hev
  split at hev
  · rename_i k a k' b hr
    obtain ⟨rfl, rfl⟩ := hev
    obtain ⟨la⟩ := args
    match la, hr with
    | [], hr => simp at hr
    | [_], hr => simp at hr
    | _ :: _ :: _ :: _, hr => simp at hr
    | [x, y], hr =>
      simp only [List.map_cons, List.map_nil, List.cons.injEq, and_true] at hr
      have h1 := hx x (by simp)
      have h2 := hx y (by simp)
      rw [hr.1] at h1; rw [hr.2] at h2
      refine ⟨rfl, _, ?_, .tree (.val _)⟩
      simp [execOp, hop, resolve, invoke, builtin, h1.val_inv, h2.val_inv, run_max_int2]
  · exact hev.elim

theorem pure_min {o : Oper} {args : Array Operand} {ts : Array TypeId} {ρ : Operand → AV} {r : Operand → Value} (hop : o.op = .call { callee := .builtin .min, args, argTypes := ts })
    (hx : ∀ x ∈ args, VR P w c (ρ x) (r x)) {v : AV} {hp' : Hp} (hev : (opEv T o ρ hp).gives v hp') : hp' = hp ∧ ∃ u, (execOp r o).run P w = .ok (.value u) w ∧ VR P w c v u := by
  unfold opEv at hev
  rw [hop] at hev
  simp only at hev
  split at hev
  · rename_i k a k' b hr
    obtain ⟨rfl, rfl⟩ := hev
    obtain ⟨la⟩ := args
    match la, hr with
    | [], hr => simp at hr
    | [_], hr => simp at hr
    | _ :: _ :: _ :: _, hr => simp at hr
    | [x, y], hr =>
      simp only [List.map_cons, List.map_nil, List.cons.injEq, and_true] at hr
      have h1 := hx x (by simp)
      have h2 := hx y (by simp)
      rw [hr.1] at h1; rw [hr.2] at h2
      refine ⟨rfl, _, ?_, .tree (.val _)⟩
      simp [execOp, hop, resolve, invoke, builtin, h1.val_inv, h2.val_inv, run_min_int2]
  · exact hev.elim
end
end Go.Tr

/- New memory: blocks and maps of the call's own; what is kept beside them. Conditions: none. -/
namespace Go.Tr
open Go Go.RowKit

/-- The same block, perhaps no longer to be written. -/
def ABro (k k' : AB) : Prop := k' = k ∨ k' = { k with ro := true }
def AMro (k k' : AM) : Prop := k' = k ∨ k' = { k with ro := true }
theorem ABro.refl (k : AB) : ABro k k := .inl rfl
theorem AMro.refl (k : AM) : AMro k k := .inl rfl
theorem ABro.trans {a b c : AB} (h : ABro a b) (k : ABro b c) : ABro a c := by
  rcases h with rfl | rfl <;> rcases k with rfl | rfl <;> first | exact .inl rfl | exact .inr rfl
theorem AMro.trans {a b c : AM} (h : AMro a b) (k : AMro b c) : AMro a c := by
  rcases h with rfl | rfl <;> rcases k with rfl | rfl <;> first | exact .inl rfl | exact .inr rfl

/-- The heap h' holds what h holds, and perhaps more. -/
structure HpLe (h h' : Hp) : Prop where
  b : ∀ (i : Nat) (k : AB), h.blocks[i]? = some k → ∃ k', h'.blocks[i]? = some k' ∧ ABro k k'
  m : ∀ (i : Nat) (k : AM), h.maps[i]? = some k → ∃ k', h'.maps[i]? = some k' ∧ AMro k k'
theorem HpLe.refl (h : Hp) : HpLe h h := ⟨fun _ k hk => ⟨k, hk, .refl k⟩, fun _ k hk => ⟨k, hk, .refl k⟩⟩
theorem HpLe.trans {a b c : Hp} (h : HpLe a b) (k : HpLe b c) : HpLe a c :=
  ⟨fun i x hx => by obtain ⟨y, hy, e⟩ := h.b i x hx; obtain ⟨z, hz, e'⟩ := k.b i y hy; exact ⟨z, hz, e.trans e'⟩,
   fun i x hx => by obtain ⟨y, hy, e⟩ := h.m i x hx; obtain ⟨z, hz, e'⟩ := k.m i y hy; exact ⟨z, hz, e.trans e'⟩⟩
theorem HpLe.blen {h h' : Hp} (e : HpLe h h') : h.blocks.length ≤ h'.blocks.length := by
  rcases Nat.eq_zero_or_pos h.blocks.length with h0 | h0
  · omega
  · obtain ⟨k', hk', _⟩ := e.b (h.blocks.length - 1) _ (List.getElem?_eq_getElem (by omega))
    have := (List.getElem?_eq_some_iff.1 hk').1
    omega
theorem HpLe.mlen {h h' : Hp} (e : HpLe h h') : h.maps.length ≤ h'.maps.length := by
  rcases Nat.eq_zero_or_pos h.maps.length with h0 | h0
  · omega
  · obtain ⟨k', hk', _⟩ := e.m (h.maps.length - 1) _ (List.getElem?_eq_getElem (by omega))
    have := (List.getElem?_eq_some_iff.1 hk').1
    omega

/-- What an operation that turns no old memory leaves. -/
structure QOut (P : Program) (base : Nat) (w : World) (c : Cx) (hp : Hp) (w' : World) (c' : Cx) (hp' : Hp) : Prop where
  hr : HR P base w' c' hp'
  ext : Ext w.heap.size w c w' c'
  le : HpLe hp hp'
  oOld : ∀ b oi, c.O b = some oi → c'.O b = some oi
  oNew : ∀ b oi, c'.O b = some oi → c.O b = some oi ∨ (hp.blocks.length ≤ b ∧ b < hp'.blocks.length)
  nNew : ∀ b r, c'.N b = some r → c.N b = some r ∨ (hp.maps.length ≤ b ∧ b < hp'.maps.length)
  ro : ∀ b oi, c'.O b = some oi → oi.cap ≠ 0 → c'.p oi.blk → (c.O b = some oi ∧ c.p oi.blk) ∨ ∃ k, hp'.blocks[b]? = some k ∧ k.ro = true
  rom : ∀ b r, c'.N b = some r → c'.p r → (c.N b = some r ∧ c.p r) ∨ ∃ m, hp'.maps[b]? = some m ∧ m.ro = true
  pN : ∀ b, c'.p b → c.p b ∨ w.heap.size ≤ b ∨ (∃ i oi, c.O i = some oi ∧ oi.cap ≠ 0 ∧ oi.blk = b) ∨ (∃ i, c.N i = some b)
  yE : c'.y = c.y

theorem QOut.roOf {P : Program} {base : Nat} {w : World} {c : Cx} {hp : Hp} {w' : World} {c' : Cx} {hp' : Hp} (q : QOut P base w c hp w' c' hp') (h : RO c hp) : RO c' hp' where
  b := fun b oi h1 h2 h3 => by
    rcases q.ro b oi h1 h2 h3 with ⟨g1, g2⟩ | g
    · obtain ⟨k, hk, hr⟩ := h.b b oi g1 h2 g2
      obtain ⟨k', hk', e⟩ := q.le.b b k hk
      exact ⟨k', hk', by rcases e with rfl | rfl <;> first | exact hr | rfl⟩
    · exact g
  m := fun b r h1 h3 => by
    rcases q.rom b r h1 h3 with ⟨g1, g2⟩ | g
    · obtain ⟨k, hk, hr⟩ := h.m b r g1 g2
      obtain ⟨k', hk', e⟩ := q.le.m b k hk
      exact ⟨k', hk', by rcases e with rfl | rfl <;> first | exact hr | rfl⟩
    · exact g

section
variable {P : Program} {T : Nat → Option TI} {w w' : World} {c c' : Cx} {base : Nat} {hp hp' : Hp}

theorem Ext.low {base' : Nat} (h : Ext base w c w' c') (hb : base' ≤ base) : Ext base' w c w' c' := ⟨h.below.mono hb, h.p, h.pb, h.O, h.N, h.y⟩

theorem BR.mono {k : AB} {oi : OI} {base : Nat} (e : Ext base w c w' c') (h : BR P w c k oi) (hb : oi.cap ≠ 0 → w'.heap[oi.blk]? = w.heap[oi.blk]?) : BR P w' c' k oi where
  n := h.n
  es := h.es
  ver := h.ver
  le := h.le
  row := fun hc => by rw [hb hc]; exact h.row hc
  el := h.el
  rel := fun i j x v hi hx hv => by
    have hcap : oi.cap ≠ 0 := by have := h.n; have := h.le; omega
    rw [World.cell?_of_block (w := w) (a := ⟨oi.blk, _, none⟩) (hb hcap)] at hv
    obtain ⟨h1, h2⟩ := h.rel i j x v hi hx hv
    exact ⟨h1.mono e, fun hf => (h2 hf).mono e.p e.pb⟩

theorem BR.ro {k k' : AB} {oi : OI} (e : ABro k k') (h : BR P w c k oi) : BR P w c k' oi := by
  rcases e with rfl | rfl
  · exact h
  · exact ⟨h.n, h.es, h.ver, h.le, h.row, h.el, h.rel⟩
theorem BR.ro' {k k' : AB} {oi : OI} (e : ABro k k') (h : BR P w c k' oi) : BR P w c k oi := by
  rcases e with rfl | rfl
  · exact h
  · exact ⟨h.n, h.es, h.ver, h.le, h.row, h.el, h.rel⟩

theorem MR.mono {m : AM} {r : Nat} {base : Nat} (e : Ext base w c w' c') (h : MR P w c m r) (hb : w'.heap[r]? = w.heap[r]?) : MR P w' c' m r := by
  obtain ⟨es, clock, h1, h2, h3, h4, h5⟩ := h.ex
  exact ⟨es, clock, hb.trans h1, h2, fun key zv a b d => (h3 key zv a b d).mono e.p e.pb, h4, fun key i v a b => (h5 key i v a b).mono e.p e.pb⟩
theorem MR.ro {k k' : AM} {r : Nat} (e : AMro k k') (h : MR P w c k r) : MR P w c k' r := by
  rcases e with rfl | rfl
  · exact h
  · exact ⟨h.ex⟩
theorem MR.ro' {k k' : AM} {r : Nat} (e : AMro k k') (h : MR P w c k' r) : MR P w c k r := by
  rcases e with rfl | rfl
  · exact h
  · exact ⟨h.ex⟩

/-- Old blocks and maps are kept where no old memory turned. -/
theorem HR.blk_old (h : HR P base w c hp) (e : Ext w.heap.size w c w' c') {b : Nat} {k : AB} {oi : OI} (hk : hp.blocks[b]? = some k) (hO : c.O b = some oi) : BR P w' c' k oi :=
  (h.blk b k oi hk hO).mono e fun hc => e.below.block _ (h.own b oi hO hc).2
theorem HR.map_old (h : HR P base w c hp) (e : Ext w.heap.size w c w' c') {b : Nat} {m : AM} {r : Nat} (hk : hp.maps[b]? = some m) (hO : c.N b = some r) : MR P w' c' m r :=
  (h.maps b m r hk hO).mono e (e.below.block _ (h.mown b r hO).2)

/-- Nothing but the world's draws has turned. -/
theorem qout_same (h : HR P base w c hp) (hw : Below w.heap.size w w') (hs : w'.heap.size = w.heap.size) : QOut P base w c hp w' c hp := by
  have e : Ext w.heap.size w c w' c := ⟨hw, fun _ h => h, fun b hb => hw.block b (h.st b hb), fun _ oi h => ⟨oi, h, Nat.le_refl _, fun _ => rfl⟩, fun _ _ h => h, fun _ _ h => h⟩
  exact ⟨⟨fun b k oi hk hO => h.blk_old e hk hO, h.sep, fun b oi hO hc => by rw [hs]; exact h.own b oi hO hc, fun b hb => by rw [hs]; exact h.st b hb, fun b m r hk hO => h.map_old e hk hO,
    fun b r hO => by rw [hs]; exact h.mown b r hO, h.msep, h.bm⟩, e, .refl _, fun _ _ h => h, fun _ _ h => .inl h, fun _ _ h => .inl h, fun _ _ h1 _ h3 => .inl ⟨h1, h3⟩, fun _ _ h1 h3 => .inl ⟨h1, h3⟩, fun _ h => .inl h, rfl⟩

/-- The stable memory grows by new blocks. -/
theorem qout_stable (h : HR P base w c hp) (hw : Below w.heap.size w w') (q : Nat → Prop) (hq : ∀ b, q b → w.heap.size ≤ b ∧ b < w'.heap.size) : QOut P base w c hp w' { c with p := fun b => c.p b ∨ q b } hp := by
  have e : Ext w.heap.size w c w' { c with p := fun b => c.p b ∨ q b } := ⟨hw, fun _ h => .inl h, fun b hb => hw.block b (h.st b hb), fun _ oi h => ⟨oi, h, Nat.le_refl _, fun _ => rfl⟩, fun _ _ h => h, fun _ _ h => h⟩
  have hs := hw.size
  refine ⟨⟨fun b k oi hk hO => h.blk_old e hk hO, h.sep, fun b oi hO hc => ?_, fun b hb => ?_, fun b m r hk hO => h.map_old e hk hO,
    fun b r hO => ?_, h.msep, h.bm⟩, e, .refl _, fun _ _ h => h, fun _ _ h => .inl h, fun _ _ h => .inl h, fun b oi h1 h2 h3 => .inl ⟨h1, ?_⟩, fun b r h1 h3 => .inl ⟨h1, ?_⟩, fun b hb => hb.imp id fun hb => .inl (hq b hb).1, rfl⟩
  · have := h.own b oi hO hc; omega
  · rcases hb with hb | hb
    · have := h.st b hb; omega
    · exact (hq b hb).2
  · have := h.mown b r hO; omega
  · rcases h3 with h3 | h3
    · exact h3
    · have := h.own b oi h1 h2; have := hq _ h3; omega
  · rcases h3 with h3 | h3
    · exact h3
    · have := h.mown b r h1; have := hq _ h3; omega

theorem getElem?_snoc {α : Type} {l : List α} {x : α} {i : Nat} {y : α} (h : (l ++ [x])[i]? = some y) : (i < l.length ∧ l[i]? = some y) ∨ (i = l.length ∧ y = x) := by
  rcases Nat.lt_trichotomy i l.length with hi | hi | hi
  · rw [List.getElem?_append_left hi] at h; exact .inl ⟨hi, h⟩
  · subst hi; simp at h; exact .inr ⟨rfl, h.symm⟩
  · rw [List.getElem?_eq_none (by simp; omega)] at h; cases h

/-- A new block of the call's own. -/
def Cx.addO (c : Cx) (n : Nat) (oi : OI) : Cx := { c with O := fun b => if b = n then some oi else c.O b }

theorem qout_block (h : HR P base w c hp) (hbase : base ≤ w.heap.size) (hw : Below w.heap.size w w') (hfree : c.O hp.blocks.length = none) {k : AB} {oi : OI}
    (hlt : oi.cap ≠ 0 → w.heap.size ≤ oi.blk ∧ oi.blk < w'.heap.size)
    (hk : Ext w.heap.size w c w' (c.addO hp.blocks.length oi) → BR P w' (c.addO hp.blocks.length oi) k oi) : QOut P base w c hp w' (c.addO hp.blocks.length oi) (hp.addB k) := by
  have e : Ext w.heap.size w c w' (c.addO hp.blocks.length oi) := ⟨hw, fun _ h => h, fun b hb => hw.block b (h.st b hb), fun b oi' hb => ⟨oi', by
    simp only [Cx.addO]; rw [if_neg (fun e => by rw [e, hfree] at hb; cases hb)]; exact hb, Nat.le_refl _, fun _ => rfl⟩, fun _ _ h => h, fun _ _ h => h⟩
  have hs := hw.size
  have hcase : ∀ b oi', (c.addO hp.blocks.length oi).O b = some oi' → (b = hp.blocks.length ∧ oi' = oi) ∨ (b ≠ hp.blocks.length ∧ c.O b = some oi') := fun b oi' hb => by
    simp only [Cx.addO] at hb
    by_cases hbn : b = hp.blocks.length
    · rw [if_pos hbn] at hb; exact .inl ⟨hbn, (Option.some.inj hb).symm⟩
    · rw [if_neg hbn] at hb; exact .inr ⟨hbn, hb⟩
  have hlen : (hp.addB k).blocks.length = hp.blocks.length + 1 := by simp [Hp.addB]
  refine ⟨⟨fun b k' oi' hk' hO => ?_, fun b b' o1 o2 h1 h2 hne => ?_, fun b oi' hO hc => ?_, fun b hb => by have := h.st b hb; omega, fun b m r hk hO => h.map_old e hk hO, fun b r hO => ?_, h.msep, fun b i oi' r hO hc hN => ?_⟩, e,
    ⟨fun i x hx => ⟨x, ?_, .refl _⟩, fun i x hx => ⟨x, hx, .refl _⟩⟩, fun b oi' hb => ?_, fun b oi' hb => ?_, fun _ _ h => .inl h, fun b oi' h1 h2 h3 => ?_, fun b r h1 h3 => .inl ⟨h1, h3⟩, fun _ h => .inl h, rfl⟩
  · rcases hcase b oi' hO with ⟨rfl, rfl⟩ | ⟨hne, hO'⟩
    · rcases getElem?_snoc hk' with ⟨hlt', _⟩ | ⟨_, rfl⟩
      · omega
      · exact hk e
    · rcases getElem?_snoc hk' with ⟨_, hk''⟩ | ⟨he, _⟩
      · exact h.blk_old e hk'' hO'
      · exact absurd he hne
  · rcases hcase b o1 h1 with ⟨rfl, rfl⟩ | ⟨hne1, hO1⟩ <;> rcases hcase b' o2 h2 with ⟨rfl, rfl⟩ | ⟨hne2, hO2⟩
    · exact absurd rfl hne
    · by_cases hc : o1.cap = 0
      · exact .inr (.inl hc)
      · by_cases hc2 : o2.cap = 0
        · exact .inr (.inr hc2)
        · have := hlt hc; have := h.own b' o2 hO2 hc2; exact .inl (by omega)
    · by_cases hc : o2.cap = 0
      · exact .inr (.inr hc)
      · by_cases hc2 : o1.cap = 0
        · exact .inr (.inl hc2)
        · have := hlt hc; have := h.own b o1 hO1 hc2; exact .inl (by omega)
    · exact h.sep b b' o1 o2 hO1 hO2 hne
  · rcases hcase b oi' hO with ⟨rfl, rfl⟩ | ⟨_, hO'⟩
    · have := hlt hc; omega
    · have := h.own b oi' hO' hc; omega
  · have := h.mown b r hO; omega
  · rcases hcase b oi' hO with ⟨rfl, rfl⟩ | ⟨_, hO'⟩
    · have := hlt hc; have := h.mown i r hN; omega
    · exact h.bm b i oi' r hO' hc hN
  · show (hp.blocks ++ [k])[i]? = some x
    rw [List.getElem?_append_left (List.getElem?_eq_some_iff.1 hx).1]; exact hx
  · obtain ⟨o1, g1, _, g2⟩ := e.O b oi' hb
    simp only [Cx.addO]; rw [if_neg (fun e => by rw [e, hfree] at hb; cases hb)]; exact hb
  · rcases hcase b oi' hb with ⟨rfl, rfl⟩ | ⟨_, hO'⟩
    · exact .inr ⟨Nat.le_refl _, by omega⟩
    · exact .inl hO'
  · rcases hcase b oi' h1 with ⟨rfl, rfl⟩ | ⟨_, hO'⟩
    · have := hlt h2; have := h.st _ h3; omega
    · exact .inl ⟨hO', h3⟩

theorem below_alloc (w : World) (o : Obj) : Below w.heap.size w (w.alloc o) := (Below.refl _ _).alloc (Nat.le_refl _) o
end
end Go.Tr

/- Structs put together; variables, slices and maps made. Conditions: none. -/
namespace Go.Tr
open Go Go.RowKit

theorem splice_length : ∀ (l : List AV) (off : Nat) (vs : List AV), (splice l off vs).length = l.length
  | [], _, _ => by simp [splice]
  | x :: r, 0, [] => by simp [splice]
  | x :: r, 0, v :: vs => by simp [splice, splice_length r 0 vs]
  | x :: r, n + 1, vs => by simp [splice, splice_length r n vs]

theorem splice_get : ∀ (l : List AV) (off : Nat) (vs : List AV) (i : Nat), i < l.length → (splice l off vs)[i]? = if off ≤ i ∧ i - off < vs.length then vs[i - off]? else l[i]?
  | [], _, _, i, h => by simp at h
  | x :: r, 0, [], i, h => by simp [splice]
  | x :: r, 0, v :: vs, 0, h => by simp [splice]
  | x :: r, 0, v :: vs, i + 1, h => by
    have := splice_get r 0 vs i (by simpa using h)
    simp only [splice, List.getElem?_cons_succ]
    simp only [Nat.zero_le, true_and, Nat.sub_zero] at this ⊢
    rw [this]
    simp only [List.length_cons, Nat.add_lt_add_iff_right, List.getElem?_cons_succ]
  | x :: r, n + 1, vs, 0, h => by simp [splice]
  | x :: r, n + 1, vs, i + 1, h => by
    have := splice_get r n vs i (by simpa using h)
    simp only [splice, List.getElem?_cons_succ]
    rw [this]
    simp only [Nat.add_le_add_iff_right, Nat.add_sub_add_right]

theorem foldl_set (off : Nat) : ∀ (l : List Value) (k : Nat) (cs : Array Value), off + k + l.length ≤ cs.size →
    ((l.zipIdx k).foldl (fun cs (p : Value × Nat) => cs.setIfInBounds (off + p.2) p.1) cs).size = cs.size ∧
    ∀ i, ((l.zipIdx k).foldl (fun cs (p : Value × Nat) => cs.setIfInBounds (off + p.2) p.1) cs)[i]? = if off + k ≤ i ∧ i - (off + k) < l.length then l[i - (off + k)]? else cs[i]?
  | [], k, cs, _ => by simp
  | v :: r, k, cs, h => by
    simp only [List.length_cons] at h
    have ih := foldl_set off r (k + 1) (cs.setIfInBounds (off + k) v) (by simp; omega)
    simp only [List.zipIdx_cons, List.foldl_cons]
    refine ⟨by rw [ih.1]; simp, fun i => ?_⟩
    rw [ih.2 i]
    by_cases h1 : i = off + k
    · subst h1
      have hlt : off + k < cs.size := by omega
      rw [if_neg (by omega), if_pos (by simp)]
      simp [hlt]
    · by_cases h2 : off + k ≤ i ∧ i - (off + k) < (v :: r).length
      · rw [if_pos h2]
        simp only [List.length_cons] at h2
        rw [if_pos (by omega)]
        rw [show i - (off + k) = (i - (off + (k + 1))) + 1 from by omega, List.getElem?_cons_succ]
      · rw [if_neg h2]
        simp only [List.length_cons] at h2
        rw [if_neg (by omega), Array.getElem?_setIfInBounds_ne (by omega)]

section
variable {P : Program} {T : Nat → Option TI} {w w' : World} {c c' : Cx} {base : Nat} {hp hp' : Hp}

/-- Cells that are known. -/
structure CR (P : Program) (w : World) (c : Cx) (l : List AV) (vs : Array Value) : Prop where
  size : vs.size = l.length
  one : ∀ v ∈ vs.toList, v.oneCell' = true
  rel : ∀ i x, l[i]? = some x → VR P w c x (vs.getD i undef)

theorem VR.cr {x : AV} {u : Value} (h : VR P w c x u) (hs : x.storable = true) : CR P w c x.cells u.cells := ⟨(h.cells hs).1, (h.cells hs).2.1, (h.cells hs).2.2⟩
theorem CR.agg {l : List AV} {vs : Array Value} (h : CR P w c l vs) : VR P w c (.agg l) (.agg vs) := .agg l vs h.size h.one h.rel

theorem CR.splice {l m : List AV} {vs us : Array Value} (h : CR P w c l vs) (k : CR P w c m us) {off : Nat} (hle : off + us.size ≤ vs.size) :
    CR P w c (splice l off m) (us.zipIdx.foldl (fun cs p => cs.setIfInBounds (off + p.2) p.1) vs) := by
  have e : us.zipIdx.foldl (fun cs p => cs.setIfInBounds (off + p.2) p.1) vs = (us.toList.zipIdx 0).foldl (fun cs (p : Value × Nat) => cs.setIfInBounds (off + p.2) p.1) vs := by
    rw [← Array.foldl_toList, Array.toList_zipIdx]
  have f := foldl_set off us.toList 0 vs (by simpa using hle)
  simp only [Nat.add_zero] at f
  rw [e]
  refine ⟨by rw [f.1, splice_length, h.size], fun v hv => ?_, fun i x hx => ?_⟩
  · obtain ⟨i, hi, rfl⟩ := List.getElem_of_mem hv
    have hg := f.2 i
    simp only [Array.length_toList] at hi
    rw [Array.getElem?_eq_getElem hi] at hg
    simp only [Array.getElem_toList]
    split at hg
    · exact k.one _ (List.mem_of_getElem? hg.symm)
    · exact h.one _ (by rw [← Array.getElem?_toList] at hg; exact List.mem_of_getElem? hg.symm)
  · have hi : i < l.length := by have := (List.getElem?_eq_some_iff.1 hx).1; rwa [splice_length] at this
    rw [splice_get _ _ _ _ hi] at hx
    simp only [Array.getD_eq_getD_getElem?]
    rw [f.2 i]
    split at hx
    · rename_i hc
      rw [if_pos ⟨hc.1, by simp; rw [k.size]; exact hc.2⟩]
      have := k.rel _ x hx
      simpa using this
    · rename_i hc
      rw [if_neg (fun hh => hc ⟨hh.1, by have := hh.2; simp at this; rw [← k.size]; exact this⟩)]
      have := h.rel _ x hx
      simpa using this

theorem fill_ok {place : Nat → Option (Nat × Nat)} {ρ : Operand → AV} {r : Operand → Value} : ∀ (ps : List (Nat × Operand)) (l l' : List AV) (vs : Array Value), CR P w c l vs → (∀ p ∈ ps, VR P w c (ρ p.2) (r p.2)) →
    buildCells place l (ps.map fun p => (p.1, ρ p.2)) = some l' → ∃ vs', Instr.fill place vs (ps.map fun p => (p.1, r p.2)) = some vs' ∧ CR P w c l' vs' ∧ l'.length = l.length
  | [], l, l', vs, h, _, hb => by simp [buildCells] at hb; subst hb; exact ⟨vs, rfl, h, rfl⟩
  | (i, x) :: ps, l, l', vs, h, hp, hb => by
    simp only [List.map_cons, buildCells] at hb
    cases hpl : place i with
    | none => rw [hpl] at hb; cases hb
    | some q =>
      obtain ⟨off, size⟩ := q
      rw [hpl] at hb
      simp only at hb
      cases hc : (Nat.beq (ρ x).cells.length size && Nat.ble (off + size) l.length && (ρ x).storable) with
      | false => rw [hc] at hb; cases hb
      | true =>
        rw [hc] at hb
        simp only [cond_true] at hb
        rw [Bool.and_eq_true, Bool.and_eq_true] at hc
        obtain ⟨⟨h1, h2⟩, h3⟩ := hc
        have h1 := Nat.eq_of_beq_eq_true h1
        have h2 := Nat.le_of_ble_eq_true h2
        have hx := (hp (i, x) (by simp)).cr h3
        have hsz : (r x).cells.size = size := by rw [hx.size, h1]
        obtain ⟨vs', g1, g2, g3⟩ := fill_ok ps _ l' _ (h.splice hx (off := off) (by rw [hsz, h.size]; exact h2)) (fun p hm => hp p (by simp [hm])) hb
        refine ⟨vs', ?_, g2, by rw [g3, splice_length]⟩
        simp only [List.map_cons, Instr.fill, hpl]
        rw [if_neg (by rw [hsz, h.size]; simp; exact h2)]
        exact g1

theorem zero_cr (hT : TOK P T) {t : TypeId} {ti : TI} (ht : T t = some ti) (hl : (zeroCells ti).length = ti.size) : CR P w c (zeroCells ti) ti.zero.cells := by
  obtain ⟨_, h2, h3, _⟩ := hT t ti ht
  have hz : VR P w c (constAV ti.zero) ti.zero := .tree (constAV_ok _)
  unfold zeroCells at hl ⊢
  have hcase : (constAV ti.zero).storable = true ∨ ti.zero.cells.size = 1 ∧ (constAV ti.zero).cells = [.top] := by
    unfold constAV
    split
    · exact .inl rfl
    · rename_i cs heq
      rw [heq] at h3
      have : cs.toList.all Value.oneCell' = true := List.all_eq_true.2 h3
      simp [this]
      exact .inl rfl
    · rename_i vs heq
      rw [heq] at h3
      have := h3 (.tuple vs) (by simp [Value.cells])
      simp [Value.oneCell'] at this
    · rename_i v h5 h6 h7
      have hvc : ti.zero.cells = #[ti.zero] := by cases hzz : ti.zero <;> simp_all [Value.cells]
      have := h3 ti.zero (by rw [hvc]; simp)
      exact .inl this
  rcases hcase with h | ⟨_, h⟩
  · exact hz.cr h
  · refine ⟨by rw [h2, ← hl], h3, fun i x hx => ?_⟩
    rw [h] at hx
    have : x = .top := by
      cases i with
      | zero => simpa using hx.symm
      | succ i => simp at hx
    subst this
    exact .tree (.top _)
end
end Go.Tr

/- Operations that make memory of the call's own. Conditions: none. -/
namespace Go.Tr
open Go Go.RowKit

section
variable {P : Program} {T : Nat → Option TI} {w w' : World} {c c' : Cx} {base : Nat} {hp hp' : Hp}

theorem zero_len (hT : TOK P T) {t : TypeId} {ti : TI} (ht : T t = some ti) : (zeroCells ti).length = ti.size := by
  obtain ⟨_, h2, h3, _⟩ := hT t ti ht
  rw [← h2]
  unfold zeroCells constAV
  split
  · rename_i h; rw [h]; rfl
  · rename_i cs heq
    rw [heq] at h3 ⊢
    have : cs.toList.all Value.oneCell' = true := List.all_eq_true.2 h3
    rw [this]
    simp [AV.cells, Value.cells]
  · rename_i vs heq
    rw [heq] at h3
    have := h3 (.tuple vs) (by simp [Value.cells])
    simp [Value.oneCell'] at this
  · rename_i v h5 h6 h7
    have hvc : ti.zero.cells = #[ti.zero] := by cases hzz : ti.zero <;> simp_all [Value.cells]
    rw [hvc]; rfl

theorem VR.toVT : ∀ (n : Nat) {x : AV} {v : Value}, AV.tree n x = true → VR P w c x v → VT P w c.p x v
  | 0, x, v, h, _ => by simp [AV.tree] at h
  | n + 1, x, v, h, hv => by
    cases hv with
    | tree h => exact h
    | agg l vs hs ho hr =>
      simp only [AV.tree] at h
      exact .agg l vs hs ho fun i y hy => VR.toVT n (List.all_eq_true.1 h y (List.mem_of_getElem? hy)) (hr i y hy)
    | tuple l vs hs hr =>
      simp only [AV.tree] at h
      exact .tuple l vs hs fun i y hy => VR.toVT n (List.all_eq_true.1 h y (List.mem_of_getElem? hy)) (hr i y hy)
    | func fn nf l f0 vs h0 hs hr =>
      simp only [AV.tree] at h
      exact .func fn nf l f0 vs h0 hs fun i y hy => VR.toVT n (List.all_eq_true.1 h y (List.mem_of_getElem? hy)) (hr i y hy)
    | optr => simp [AV.tree] at h
    | oslice => simp [AV.tree] at h
    | omap => simp [AV.tree] at h
    | yld => simp [AV.tree] at h

/-- A block that an operation makes: its cells are known. -/
theorem new_block (h : HR P base w c hp) (hbase : base ≤ w.heap.size) (hfree : c.O hp.blocks.length = none) (cs : Array Value) (t : TypeId) (w0 : World) (hw0 : Below w.heap.size w w0) (hsz0 : w0.heap.size = w.heap.size)
    (k : AB) (cap : Nat) (hlen : k.len ≤ cap) (hcs : cap * k.es ≤ cs.size) (hver : k.ver = 0) (hone : ∀ v ∈ cs.toList, v.oneCell' = true) (hel : ∀ i, i < k.len → (k.f i).length = k.es)
    (hrel : ∀ (i j : Nat) (x : AV), i < k.len → (k.f i)[j]? = some x → VR P w c x (cs.getD (i * k.es + j) undef)) (hflat : k.flat = true → ∀ (i j : Nat) (x : AV), i < k.len → (k.f i)[j]? = some x → AV.tree 4 x = true) :
    QOut P base w c hp (w0.alloc (.cells cs t)) (c.addO hp.blocks.length ⟨w.heap.size, 0, cap, k.es, k.len, 0⟩) (hp.addB k) := by
  have hb : Below w.heap.size w (w0.alloc (.cells cs t)) := hw0.alloc (by omega) _
  refine qout_block h hbase hb hfree (fun _ => ⟨Nat.le_refl _, by simp; omega⟩) fun e => ?_
  have hnew : (w0.alloc (.cells cs t)).heap[w.heap.size]? = some (.cells cs t (0, 0)) := by rw [← hsz0]; exact heap_alloc_new w0 _
  refine ⟨rfl, rfl, hver.symm, hlen, fun _ => ⟨cs, t, hnew, by simpa using hcs, hone⟩, hel, fun i j x v hi hx hv => ?_⟩
  have hv' : v = cs.getD (i * k.es + j) undef := by
    simp only [World.cell?, hnew, Nat.zero_add] at hv
    simp at hv
    simp [hv]
  rw [hv']
  have hr := (hrel i j x hi hx).mono e
  refine ⟨hr, fun hf => VR.toVT 4 (hflat hf i j x hi hx) hr⟩

theorem addO_self (c : Cx) (n : Nat) (oi : OI) : (c.addO n oi).O n = some oi := by simp [Cx.addO]

theorem zero_tree (ti : TI) (x : AV) (hx : x ∈ zeroCells ti) : AV.tree 4 x = true := by
  simp only [zeroCells] at hx
  unfold constAV at hx
  split at hx
  · simp [AV.cells] at hx; subst hx; rfl
  · cases hall : (_ : Array Value).toList.all Value.oneCell' with
    | false => rw [hall] at hx; simp [AV.cells] at hx; subst hx; rfl
    | true =>
      rw [hall] at hx
      simp only [cond_true, AV.cells, List.mem_map] at hx
      obtain ⟨u, _, rfl⟩ := hx
      split <;> rfl
  · simp [AV.cells] at hx; subst hx; rfl
  · simp [AV.cells] at hx; subst hx; rfl

theorem make_alloc (hT : TOK P T) (h : HR P base w c hp) (hbase : base ≤ w.heap.size) {t : TypeId} {o : Oper} {ρ : Operand → AV} {r : Operand → Value} (hop : o.op = .alloc t)
    {v : AV} (hev : (opEv T o ρ hp).gives v hp') (hfree : c.O hp.blocks.length = none) :
    ∃ u w' c', (execOp r o).run P w = .ok (.value u) w' ∧ QOut P base w c hp w' c' hp' ∧ VR P w' c' v u := by
  unfold opEv at hev
  rw [hop] at hev
  simp only at hev
  split at hev
  · rename_i ti ht
    simp only [forceNr_eq, forceC_eq] at hev
    obtain ⟨rfl, rfl⟩ := hev
    obtain ⟨_, _, _, inf, hinf, _, _, hz⟩ := hT _ _ ht
    have hcr := zero_cr (P := P) (w := w) (c := c) hT ht (zero_len hT ht)
    refine ⟨_, _, _, ?_, new_block h hbase hfree ti.zero.cells t w (Below.refl _ _) rfl _ 1 (Nat.le_refl _) (by simp [hcr.size, zero_len hT ht]) rfl hcr.one (fun _ _ => zero_len hT ht) (fun i j x hi hx => ?_) (fun _ i j x hi hx => ?_),
      .optr _ _ _ _ _ _ (addO_self _ _ _) (Nat.le_refl _) rfl fun _ => ⟨Nat.zero_lt_one, rfl⟩⟩
    · simp [execOp, hop, Instr.alloc, zeroValue, typeInfo, hinf, hz, newVar, newRow]
    · have : i = 0 := by simp at hi; exact hi
      subst this
      simpa using hcr.rel j x hx
    · exact zero_tree ti x (List.mem_of_getElem? hx)
  · exact hev.elim

theorem make_box (h : HR P base w c hp) (hbase : base ≤ w.heap.size) {t : TypeId} {o : Oper} {x : Operand} {ρ : Operand → AV} {r : Operand → Value} (hop : o.op = .box t x) (hx : VR P w c (ρ x) (r x))
    {v : AV} (hev : (opEv T o ρ hp).gives v hp') (hfree : c.O hp.blocks.length = none) :
    ∃ u w' c', (execOp r o).run P w = .ok (.value u) w' ∧ QOut P base w c hp w' c' hp' ∧ VR P w' c' v u := by
  unfold opEv at hev
  rw [hop] at hev
  simp only at hev
  split at hev
  · rename_i ti ht
    cases hb : (Nat.beq (ρ x).cells.length ti.size && (ρ x).storable) with
    | false => rw [hb] at hev; exact hev.elim
    | true =>
      rw [hb] at hev
      simp only [cond_true, forceNr_eq, forceC_eq, forceT_eq] at hev
      obtain ⟨rfl, rfl⟩ := hev
      rw [Bool.and_eq_true] at hb
      have hl := Nat.eq_of_beq_eq_true hb.1
      have hcr := hx.cr hb.2
      refine ⟨_, _, _, ?_, new_block h hbase hfree (r x).cells t w (Below.refl _ _) rfl _ 1 (Nat.le_refl _) (by simp [hcr.size, hl]) rfl hcr.one (fun _ _ => hl) (fun i j y hi hy => ?_) (fun hf i j y hi hy => ?_),
        .optr _ _ _ _ _ _ (addO_self _ _ _) (Nat.le_refl _) rfl fun _ => ⟨Nat.zero_lt_one, rfl⟩⟩
      · simp [execOp, hop, Instr.box, newVar, newRow]
      · have : i = 0 := by simp at hi; exact hi
        subst this
        simpa using hcr.rel j y hy
      · exact List.all_eq_true.1 hf y (List.mem_of_getElem? hy)
  · exact hev.elim

theorem pure_build (hT : TOK P T) {t : TypeId} {o : Oper} {ps : Array (Nat × Operand)} {ρ : Operand → AV} {r : Operand → Value} (hop : o.op = .build t ps) (hx : ∀ p ∈ ps.toList, VR P w c (ρ p.2) (r p.2))
    {v : AV} (hev : (opEv T o ρ hp).gives v hp') : hp' = hp ∧ ∃ u, (execOp r o).run P w = .ok (.value u) w ∧ VR P w c v u := by
  have hex : ∀ cells, P.built t (ps.toList.map fun p => (p.1, r p.2)) = some cells → (execOp r o).run P w = .ok (.value (.agg cells)) w := fun cells hb => by
    have hpm : (ps.map fun (p : Nat × Operand) => (p.1, r p.2)).toList = ps.toList.map fun p => (p.1, r p.2) := by simp
    have := run_build (P := P) w t (ps.map fun p => (p.1, r p.2)) cells (by rw [hpm]; exact hb)
    unfold execOp
    rw [hop]
    simp only [Sem.run_bind]
    rw [show (Array.map (fun x => match x with | (i, x) => (i, r x)) ps) = ps.map fun (p : Nat × Operand) => (p.1, r p.2) from rfl, this]
    rfl
  have hplaces : ∀ (fs : List Field) (pl : List (Nat × Nat)), placesOf T fs = some pl → fs.mapM (fun f => (P.info? f.type).map fun i => (f.offset, i.size)) = some pl := by
    intro fs
    induction fs with
    | nil => intro pl hp; simp [placesOf] at hp; subst hp; rfl
    | cons f fs ih =>
      intro pl hp
      simp only [placesOf] at hp
      split at hp
      · rename_i fi l hf hl
        cases hp
        obtain ⟨_, _, _, inf, hinf, hs, _⟩ := hT _ _ hf
        simp [List.mapM_cons, hinf, hs, ih l hl]
      · cases hp
  unfold opEv at hev
  rw [hop] at hev
  simp only at hev
  split at hev
  · rename_i ti ht
    obtain ⟨hd, _, _, inf, hinf, hsz, _, hz⟩ := hT _ _ ht
    have hcr := zero_cr (P := P) (w := w) (c := c) hT ht (zero_len hT ht)
    split at hev
    · rename_i fields hdesc
      split at hev
      · rename_i pl hpl
        split at hev
        · rename_i l hl
          obtain ⟨rfl, rfl⟩ := hev
          obtain ⟨vs, g1, g2, _⟩ := fill_ok ps.toList _ _ _ hcr hx hl
          refine ⟨rfl, _, hex vs ?_, g2.agg⟩
          have hfun : (fun i => pl.toArray[i]?) = nth? pl := by funext i; rw [nth?_eq]; simp
          simp only [Program.built, hinf, hd, hdesc, hz, hplaces _ _ hpl, hfun, g1]
        · exact hev.elim
      · exact hev.elim
    · rename_i n e hdesc
      split at hev
      · rename_i ei he
        split at hev
        · rename_i l hl
          obtain ⟨rfl, rfl⟩ := hev
          obtain ⟨_, _, _, inf', hinf', hsz', _⟩ := hT _ _ he
          obtain ⟨vs, g1, g2, _⟩ := fill_ok ps.toList _ _ _ hcr hx hl
          refine ⟨rfl, _, hex vs ?_, g2.agg⟩
          simp only [Program.built, hinf, hd, hdesc, hz, hinf', hsz', g1]
        · exact hev.elim
      · exact hev.elim
    · exact hev.elim
  · exact hev.elim
end
end Go.Tr

/- Slices and maps made. Conditions: none. -/
namespace Go.Tr
open Go Go.RowKit

theorem rep_length (l : List AV) : ∀ n, ((List.range n).flatMap fun _ => l).length = n * l.length
  | 0 => by simp
  | n + 1 => by rw [List.range_succ, List.flatMap_append, List.length_append, rep_length l n, Nat.add_mul]; simp

theorem rep_get (l : List AV) : ∀ (n i : Nat), ((List.range n).flatMap fun _ => l)[i]? = if i < n * l.length then l[i % l.length]? else none
  | 0, i => by simp
  | n + 1, i => by
    rw [List.range_succ, List.flatMap_append]
    simp only [List.flatMap_cons, List.flatMap_nil, List.append_nil]
    rw [List.getElem?_append, rep_length, rep_get l n i]
    by_cases h : i < n * l.length
    · rw [if_pos h, if_pos h, if_pos (by rw [Nat.add_mul]; omega)]
    · rw [if_neg h]
      by_cases h2 : i < (n + 1) * l.length
      · rw [if_pos h2]
        rw [Nat.add_mul, Nat.one_mul] at h2
        have hm : i % l.length = i - n * l.length := by
          rw [show i = (i - n * l.length) + n * l.length from by omega, Nat.add_mul_mod_self_right, Nat.mod_eq_of_lt (by omega)]
          omega
        rw [hm]
      · rw [if_neg h2]
        rw [Nat.add_mul, Nat.one_mul] at h2
        exact List.getElem?_eq_none (by omega)

section
variable {P : Program} {T : Nat → Option TI} {w w' : World} {c c' : Cx} {base : Nat} {hp hp' : Hp}

theorem rep_cr {l : List AV} {vs : Array Value} (h : CR P w c l vs) (hpos : 0 < l.length) (n : Nat) :
    CR P w c ((List.range n).flatMap fun _ => l) ((Array.range (n * l.length)).map (vs[· % vs.size]!)) := by
  refine ⟨by rw [rep_length]; simp, fun v hv => ?_, fun i x hx => ?_⟩
  · simp at hv
    obtain ⟨i, _, rfl⟩ := hv
    have hlt : i % vs.size < vs.size := Nat.mod_lt _ (by rw [h.size]; exact hpos)
    rw [getElem!_pos vs (i % vs.size) hlt]
    exact h.one _ (by simp)
  · rw [rep_get] at hx
    split at hx
    · rename_i hi
      have := h.rel _ x hx
      simp only [Array.getD_eq_getD_getElem?]
      have hlt : i % vs.size < vs.size := Nat.mod_lt _ (by rw [h.size]; exact hpos)
      simp [hi, getElem!_pos vs (i % vs.size) hlt]
      rw [h.size] at hlt
      simpa [h.size, hlt] using this
    · cases hx

/-- Cells in rows of one size. -/
theorem row_rel {l : List AV} {vs : Array Value} (h : CR P w c l vs) (es i j : Nat) (x : AV) (hx : ((l.drop (i * es)).take es)[j]? = some x) : VR P w c x (vs.getD (i * es + j) undef) := by
  have hj : j < es := by have := (List.getElem?_eq_some_iff.1 hx).1; simp at this; omega
  rw [List.getElem?_take, if_pos hj, List.getElem?_drop] at hx
  exact h.rel _ x hx

theorem row_len {l : List AV} {n es : Nat} (h : l.length = n * es) {i : Nat} (hi : i < n) : ((l.drop (i * es)).take es).length = es := by
  have : (i + 1) * es ≤ n * es := Nat.mul_le_mul_right _ hi
  rw [Nat.add_mul, Nat.one_mul] at this
  simp
  omega

theorem make_buildSlice (hT : TOK P T) (h : HR P base w c hp) (hbase : base ≤ w.heap.size) {t : TypeId} {n : Nat} {o : Oper} {ps : Array (Nat × Operand)} {ρ : Operand → AV} {r : Operand → Value} (hop : o.op = .buildSlice t n ps)
    (hx : ∀ p ∈ ps.toList, VR P w c (ρ p.2) (r p.2)) {v : AV} (hev : (opEv T o ρ hp).gives v hp') (hfree : c.O hp.blocks.length = none) :
    ∃ u w' c', (execOp r o).run P w = .ok (.value u) w' ∧ QOut P base w c hp w' c' hp' ∧ VR P w' c' v u := by
  unfold opEv at hev
  rw [hop] at hev
  simp only at hev
  split at hev
  · rename_i e _ _ _ _ ht
    have hd := (hT _ _ ht).1
    split at hev
    · rename_i ei he
      obtain ⟨_, _, _, inf, hinf, hsz, _, hz⟩ := hT _ _ he
      split at hev
      · rename_i l hl
        cases hb : (Nat.ble (n * ei.size) 100000 && Nat.blt 0 ei.size) with
        | false => rw [hb] at hev; exact hev.elim
        | true =>
          rw [hb] at hev
          simp only [cond_true, forceNr_eq, forceC_eq, forceT_eq] at hev
          obtain ⟨rfl, rfl⟩ := hev
          rw [Bool.and_eq_true] at hb
          have h1 := Nat.le_of_ble_eq_true hb.1
          have hpos : 0 < ei.size := Nat.le_of_ble_eq_true hb.2
          have hzl := zero_len hT he
          have hcr := rep_cr (zero_cr (P := P) (w := w) (c := c) hT he hzl) (by omega) n
          obtain ⟨vs, g1, g2, g3⟩ := fill_ok ps.toList _ _ _ hcr hx hl
          have hll : l.length = n * ei.size := by rw [g3, rep_length, hzl]
          refine ⟨_, _, _, ?_, new_block h hbase hfree vs e w (Below.refl _ _) rfl _ n (Nat.le_refl _) (by simp [g2.size, hll]) rfl g2.one (fun i hi => row_len hll hi) (fun i j x hi hx => row_rel g2 _ i j x hx) (fun hf i j x hi hx => ?_),
            .oslice _ _ _ _ _ _ _ (addO_self _ _ _) (Nat.le_refl _) rfl fun _ => ⟨by simp, some ⟨w.heap.size, 0, none⟩, n, rfl, Nat.le_refl _, by simp, fun _ => by simp, fun cp hcp => by simpa using hcp⟩⟩
          · have hpm : (ps.map fun (p : Nat × Operand) => (p.1, r p.2)).toList = ps.toList.map fun p => (p.1, r p.2) := by simp
            have hrange : (if n * inf.size = 0 then (#[] : Array Value) else ei.zero.cells) = ei.zero.cells ∨ n * inf.size = 0 := by
              by_cases h0 : n * inf.size = 0
              · exact .inr h0
              · exact .inl (if_neg h0)
            have hbig : ¬ (16777216 < n * inf.size) := by rw [hsz]; omega
            unfold execOp
            rw [hop]
            simp only [Sem.run_bind]
            rw [show (Array.map (fun x => match x with | (i, x) => (i, r x)) ps) = ps.map fun (p : Nat × Operand) => (p.1, r p.2) from rfl]
            rw [hsz] at hbig
            by_cases h0 : n * ei.size = 0
            · have hn : n = 0 := by rcases Nat.mul_eq_zero.1 h0 with h | h <;> omega
              subst hn
              have hr0 : ∀ f : Nat → Value, (Array.range 0).map f = #[] := fun f => by rw [Array.range_zero', Array.map_empty]
              have g1' : Instr.fill (fun i => some (i * ei.size, ei.size)) #[] (ps.toList.map fun p => (p.1, r p.2)) = some vs := by
                rw [Nat.zero_mul, hr0] at g1; exact g1
              simp [Instr.buildSlice, run_underlying hd, sizeOf, typeInfo, hinf, hsz, newRow]
              rw [hr0, g1']
              simp
            · rw [hzl] at g1
              simp [Instr.buildSlice, run_underlying hd, sizeOf, typeInfo, zeroValue, hinf, hsz, hz, newRow, hbig, h0]
              rw [g1]
              simp
          · have := List.mem_of_getElem? hx
            exact List.all_eq_true.1 hf x (List.mem_of_mem_drop (List.mem_of_mem_take this))
      · exact hev.elim
    · exact hev.elim
  · exact hev.elim

theorem mul_add_mod' {i n j : Nat} (h : j < n) : (i * n + j) % n = j := by
  rw [Nat.add_comm, Nat.add_mul_mod_self_right, Nat.mod_eq_of_lt h]

theorem make_makeSlice (hT : TOK P T) (h : HR P base w c hp) (hbase : base ≤ w.heap.size) {t : TypeId} {o : Oper} {l m : Operand} {ρ : Operand → AV} {r : Operand → Value} (hop : o.op = .makeSlice t l m)
    (hl : VR P w c (ρ l) (r l)) (hm : VR P w c (ρ m) (r m)) {v : AV} (hev : (opEv T o ρ hp).gives v hp') (hfree : c.O hp.blocks.length = none) :
    ∃ u w' c', (execOp r o).run P w = .ok (.value u) w' ∧ QOut P base w c hp w' c' hp' ∧ VR P w' c' v u := by
  unfold opEv at hev
  rw [hop] at hev
  simp only at hev
  split at hev
  · rename_i e _ _ _ _ n q ht hln hmn
    have hd := (hT _ _ ht).1
    rw [hln] at hl
    rw [hmn] at hm
    split at hev
    · rename_i ei he
      obtain ⟨_, _, _, inf, hinf, hsz, hby, hz⟩ := hT _ _ he
      cases hb : Nat.blt 0 ei.size with
      | false => rw [hb] at hev; exact hev.elim
      | true =>
        rw [hb] at hev
        obtain ⟨⟨h0, h1, h2, h3⟩, rfl, rfl⟩ := hev
        have hpos : 0 < ei.size := Nat.le_of_ble_eq_true hb
        have hzl := zero_len hT he
        have hz0 := zero_cr (P := P) (w := w) (c := c) hT he hzl
        have hcr := rep_cr hz0 (by omega) q.toNat
        have el := hl.val_inv
        have em := hm.val_inv
        have hr := run_make (P := P) w t e inf ei.zero hd hinf hz .i64 .i64 n q h0 h1 (by rw [hby, Int.mul_comm]; omega) (by omega)
        have hmade : madeCells ei.zero.cells (q.toNat * inf.size) = (Array.range (q.toNat * (zeroCells ei).length)).map (ei.zero.cells[· % ei.zero.cells.size]!) := by rw [hzl, hsz]; rfl
        rw [hmade] at hr
        refine ⟨_, _, _, ?_, new_block h hbase hfree _ e w (Below.refl _ _) rfl _ q.toNat (by simp; omega) (by rw [hcr.size, rep_length, hzl]; exact Nat.le_refl _) rfl hcr.one (fun i hi => hzl) (fun i j x hi hx => ?_) (fun _ i j x hi hx => ?_),
          .oslice _ _ _ _ _ _ _ (addO_self _ _ _) (Nat.le_refl _) rfl fun _ => ⟨by simp, some ⟨w.heap.size, 0, none⟩, q.toNat, rfl, by omega, by simp, fun _ => by simp, fun cp hcp => by simpa using hcp⟩⟩
        · simp [execOp, hop, el, em, hr]
        · have hi' : i < n.toNat := hi
          have hj0 : j < (zeroCells ei).length := (List.getElem?_eq_some_iff.1 hx).1
          have hj : j < ei.size := by omega
          refine hcr.rel (i * ei.size + j) x ?_
          have hij : i * ei.size + j < q.toNat * ei.size := by
            have : (i + 1) * ei.size ≤ q.toNat * ei.size := Nat.mul_le_mul_right _ (by omega)
            rw [Nat.add_mul, Nat.one_mul] at this
            omega
          rw [rep_get, hzl, if_pos hij, mul_add_mod' hj]
          exact hx
        · exact zero_tree ei x (List.mem_of_getElem? hx)
    · exact hev.elim
  · exact hev.elim
end
end Go.Tr

/- The built-in append, and stores: what is known of a slice's cells; the two ways of append. Conditions: none. -/
namespace Go.Tr
open Go Go.RowKit

section
variable {P : Program} {T : Nat → Option TI} {w w' : World} {c c' : Cx} {base : Nat} {hp hp' : Hp}

/-- The elements of a slice, as they lie in memory. -/
structure Elems (P : Program) (w : World) (c : Cx) (es m : Nat) (fx : Nat → List AV) (fl : Bool) (u : Value) (news : Array Value) : Prop where
  sl : ∃ a k, u = .slice a m k ∧ m ≤ k
  run : ∀ w', w'.heap = w.heap → (Builtin.firstCells es m u).run P w' = .ok news w'
  size : news.size = m * es
  one : ∀ v ∈ news.toList, v.oneCell' = true
  len : ∀ i, i < m → (fx i).length = es
  rel : ∀ (i j : Nat) (y : AV), i < m → (fx i)[j]? = some y → VR P w c y (news.getD (i * es + j) undef) ∧ (fl = true → VT P w c.p y (news.getD (i * es + j) undef))

theorem div_mod_lt {k m es : Nat} (h : k < m * es) : k / es < m ∧ k % es < es := by
  have hes : 0 < es := by rcases Nat.eq_zero_or_pos es with h0 | h0 <;> simp_all
  exact ⟨Nat.div_lt_of_lt_mul (by rwa [Nat.mul_comm]), Nat.mod_lt _ hes⟩

theorem cell_heap {w w' : World} (h : w'.heap = w.heap) (a : Addr) : w'.cell? a = w.cell? a := by simp [World.cell?, h]

theorem elems_ok (h : HR P base w c hp) {es m : Nat} {fx : Nat → List AV} {x : AV} {u : Value} (hx : VR P w c x u) (he : elemsOf hp es x = some (m, fx)) : ∃ news, Elems P w c es m fx (flatOf hp x) u news := by
  have none0 : ∀ (fx : Nat → List AV) (fl : Bool) (a : Option Addr) (k : Nat), Elems P w c es 0 fx fl (.slice a 0 k) #[] := fun fx fl a k =>
    ⟨⟨a, k, rfl, Nat.zero_le _⟩, fun w' _ => by cases a <;> simp [Builtin.firstCells, loadCells, loadCellsFrom], by simp, by simp, by intro i hi; omega, by intro i j y hi; omega⟩
  cases x with
  | eslice =>
    simp [elemsOf] at he
    obtain ⟨rfl, rfl⟩ := he
    cases hx with
    | tree hx => cases hx; exact ⟨_, none0 _ _ _ _⟩
  | rslice es' len f =>
    simp only [elemsOf] at he
    cases hb : Nat.beq es' es with
    | false => rw [hb] at he; cases he
    | true =>
      rw [hb] at he
      simp at he
      obtain ⟨rfl, rfl⟩ := he
      have := Nat.eq_of_beq_eq_true hb
      subst this
      cases hx with
      | tree hx =>
        cases hx with
        | rslice0 => exact ⟨_, none0 _ _ _ _⟩
        | rslice _ _ _ b off k g hk hpb hl hcell hrel =>
          have hget : ∀ j, j < len * es' → w.cell? ⟨b, off + j, none⟩ = some (g (j / es') (j % es')) ∧ (g (j / es') (j % es')).oneCell' = true := fun j hj => by
            obtain ⟨h1, h2⟩ := div_mod_lt hj
            have := hcell (j / es') (j % es') h1 h2
            rwa [show j / es' * es' + j % es' = j from by rw [Nat.mul_comm]; exact Nat.div_add_mod j es'] at this
          refine ⟨((List.range (len * es')).map fun j => g (j / es') (j % es')).toArray, ⟨_, _, rfl, hk⟩, fun w' hw' => ?_, by simp, fun v hv => ?_, hl, fun i j y hi hy => ?_⟩
          · exact run_loadCells w' ⟨b, off, none⟩ (len * es') _ fun j hj => by rw [addr_add, cell_heap hw']; exact (hget j hj).1
          · simp at hv
            obtain ⟨j, hj, rfl⟩ := hv
            exact (hget j hj).2
          · have hj : j < es' := by rw [← hl i hi]; exact (List.getElem?_eq_some_iff.1 hy).1
            have hij : i * es' + j < len * es' := by
              have : (i + 1) * es' ≤ len * es' := Nat.mul_le_mul_right _ hi
              rw [Nat.add_mul, Nat.one_mul] at this
              omega
            have hd : (i * es' + j) / es' = i := by
              rw [Nat.add_comm, Nat.add_mul_div_right _ _ (by omega), Nat.div_eq_of_lt hj, Nat.zero_add]
            have hm := mul_add_mod' (i := i) hj
            have hv : (((List.range (len * es')).map fun j => g (j / es') (j % es')).toArray).getD (i * es' + j) undef = g i j := by
              simp [hij, hd, hm]
            rw [hv]
            exact ⟨.tree (hrel i j y hi hy), fun _ => hrel i j y hi hy⟩
  | oslice b ver off len cap =>
    simp only [elemsOf, shiftF_eq] at he
    split at he
    · rename_i k hk
      cases hb : Nat.beq k.es es with
      | false => rw [hb] at he; cases he
      | true =>
        rw [hb] at he
        simp at he
        obtain ⟨rfl, rfl⟩ := he
        have hes := Nat.eq_of_beq_eq_true hb
        obtain ⟨hkb, hkv⟩ := block_some hk
        obtain ⟨oi, hO, hle, _, hv'⟩ := hx.oslice_inv
        have hB := h.blk b k oi hkb hO
        obtain ⟨hn1, a, k1, hu, hk1, hk2, hk3, _⟩ := hv' (by rw [hB.ver, hkv])
        have hfl : flatOf hp (.oslice b ver off len cap) = k.flat := by simp [flatOf, hk]
        rw [hfl, hu]
        by_cases h0 : len = 0
        · subst h0; exact ⟨_, none0 _ _ _ _⟩
        · have hk0 : k1 ≠ 0 := by omega
          rw [hk3 hk0]
          have hcap : oi.cap ≠ 0 := by omega
          obtain ⟨cs, t, hrow, hsz, hone⟩ := hB.row hcap
          have hoes : oi.es = es := by rw [hB.es, hes]
          have hget : ∀ j, j < len * es → oi.lo + off * es + j < cs.size := fun j hj => by
            have : (off + len) * es ≤ oi.cap * es := Nat.mul_le_mul_right _ (by have := hB.le; omega)
            rw [Nat.add_mul] at this
            rw [hoes] at hsz
            omega
          refine ⟨((List.range (len * es)).map fun j => cs.getD (oi.lo + off * es + j) undef).toArray, ⟨_, _, rfl, hk1⟩, fun w' hw' => ?_, by simp, fun v hv => ?_, fun i hi => ?_, fun i j y hi hy => ?_⟩
          · refine run_loadCells w' _ (len * es) _ fun j hj => ?_
            rw [addr_add, cell_heap hw', hoes]
            simp [World.cell?, hrow, hget j hj]
          · simp at hv
            obtain ⟨j, hj, rfl⟩ := hv
            rw [Array.getElem?_eq_getElem (hget j hj)]
            exact hone _ (by simp)
          · rw [← hes]; exact hB.el _ (by have := hB.n; omega)
          · have hlen : off + i < k.len := by have := hB.n; omega
            obtain ⟨v, g1, g2, g3, g4⟩ := hB.cell hlen hy
            have hj : j < es := by rw [← hes, ← hB.el _ hlen]; exact (List.getElem?_eq_some_iff.1 hy).1
            have hij : i * es + j < len * es := by
              have : (i + 1) * es ≤ len * es := Nat.mul_le_mul_right _ hi
              rw [Nat.add_mul, Nat.one_mul] at this
              omega
            have hv : (((List.range (len * es)).map fun j => cs.getD (oi.lo + off * es + j) undef).toArray).getD (i * es + j) undef = v := by
              have e1 : oi.lo + ((off + i) * oi.es + j) = oi.lo + off * es + (i * es + j) := by rw [hoes, Nat.add_mul]; omega
              rw [e1] at g1
              simp only [World.cell?, hrow] at g1
              simp at g1
              simp [hij, g1]
            rw [hv]
            exact ⟨g3, g4⟩
    · cases he
  | top => simp [elemsOf] at he
  | val => simp [elemsOf] at he
  | agg => simp [elemsOf] at he
  | tuple => simp [elemsOf] at he
  | func => simp [elemsOf] at he
  | rptr => simp [elemsOf] at he
  | optr => simp [elemsOf] at he
  | omap => simp [elemsOf] at he
  | yld => simp [elemsOf] at he
  | cslice es' len cc f =>
    simp only [elemsOf] at he
    cases hb : Nat.beq es' es with
    | false => rw [hb] at he; cases he
    | true =>
      rw [hb] at he
      simp at he
      obtain ⟨rfl, rfl⟩ := he
      have := Nat.eq_of_beq_eq_true hb
      subst this
      cases hx with
      | tree hx =>
        cases hx with
        | cslice0 => exact ⟨_, none0 _ _ _ _⟩
        | cslice _ _ _ _ b off g hk hpb hl hcell hrel =>
          have hget : ∀ j, j < len * es' → w.cell? ⟨b, off + j, none⟩ = some (g (j / es') (j % es')) ∧ (g (j / es') (j % es')).oneCell' = true := fun j hj => by
            obtain ⟨h1, h2⟩ := div_mod_lt hj
            have := hcell (j / es') (j % es') h1 h2
            rwa [show j / es' * es' + j % es' = j from by rw [Nat.mul_comm]; exact Nat.div_add_mod j es'] at this
          refine ⟨((List.range (len * es')).map fun j => g (j / es') (j % es')).toArray, ⟨_, _, rfl, hk⟩, fun w' hw' => ?_, by simp, fun v hv => ?_, hl, fun i j y hi hy => ?_⟩
          · exact run_loadCells w' ⟨b, off, none⟩ (len * es') _ fun j hj => by rw [addr_add, cell_heap hw']; exact (hget j hj).1
          · simp at hv
            obtain ⟨j, hj, rfl⟩ := hv
            exact (hget j hj).2
          · have hj : j < es' := by rw [← hl i hi]; exact (List.getElem?_eq_some_iff.1 hy).1
            have hij : i * es' + j < len * es' := by
              have : (i + 1) * es' ≤ len * es' := Nat.mul_le_mul_right _ hi
              rw [Nat.add_mul, Nat.one_mul] at this
              omega
            have hd : (i * es' + j) / es' = i := by
              rw [Nat.add_comm, Nat.add_mul_div_right _ _ (by omega), Nat.div_eq_of_lt hj, Nat.zero_add]
            have hm := mul_add_mod' (i := i) hj
            have hv : (((List.range (len * es')).map fun j => g (j / es') (j % es')).toArray).getD (i * es' + j) undef = g i j := by
              simp [hij, hd, hm]
            rw [hv]
            exact ⟨.tree (hrel i j y hi hy), fun _ => hrel i j y hi hy⟩
  | rmap => simp [elemsOf] at he
end
end Go.Tr

/- Operations that write: stores and appends. Conditions: none. -/
namespace Go.Tr
open Go Go.RowKit

section
variable {P : Program} {T : Nat → Option TI} {w w' : World} {c c' : Cx} {base : Nat} {hp hp' : Hp}

/-- What an operation that writes leaves. -/
structure EOut (P : Program) (base : Nat) (w : World) (c : Cx) (hp : Hp) (w' : World) (c' : Cx) (hp' : Hp) : Prop where
  hr : HR P base w' c' hp'
  ext : Ext base w c w' c'
  ro : RO c' hp'
  blen : hp'.blocks.length = hp.blocks.length
  mlen : hp'.maps.length = hp.maps.length
  oNew : ∀ b oi, c'.O b = some oi → ∃ oi', c.O b = some oi'
  nNew : ∀ b r, c'.N b = some r → ∃ r', c.N b = some r'
  pE : ∀ b, c'.p b → c.p b
  yE : c'.y = c.y

theorem set_get {l : List AB} {b i : Nat} {k' x : AB} (h : (setNth l b k')[i]? = some x) : (i = b ∧ x = k') ∨ (i ≠ b ∧ l[i]? = some x) := by
  rw [setNth_eq, List.getElem?_set] at h
  split at h
  · rename_i hb
    split at h
    · exact .inl ⟨hb.symm, (Option.some.inj h).symm⟩
    · cases h
  · rename_i hb; exact .inr ⟨fun e => hb e.symm, h⟩

theorem set_block (h : HR P base w c hp) (ro : RO c hp) {b : Nat} {k k' : AB} {oi oi' : OI} (hk : hp.blocks[b]? = some k) (hO : c.O b = some oi) (hro : k.ro = false) (hbase : base ≤ w.heap.size)
    (hos : w'.os = w.os) (htape : w'.tape = w.tape) (hout : w'.output = w.output) (hsz : w.heap.size ≤ w'.heap.size)
    (hw : ∀ q, q < w.heap.size → q ≠ oi.blk ∨ oi.cap = 0 → w'.heap[q]? = w.heap[q]?)
    (hblk : oi'.cap ≠ 0 → (oi'.blk = oi.blk ∧ oi.cap ≠ 0) ∨ (w.heap.size ≤ oi'.blk ∧ oi'.blk < w'.heap.size))
    (hver : oi.ver ≤ oi'.ver ∧ (oi'.ver = oi.ver → oi' = oi)) (hro' : k'.ro = false)
    (hBR : Ext base w c w' (c.addO b oi') → BR P w' (c.addO b oi') k' oi') : EOut P base w c hp w' (c.addO b oi') (hp.setB b k') := by
  have hnp : oi.cap ≠ 0 → ¬ c.p oi.blk := fun hc hp' => by
    obtain ⟨k2, hk2, hr2⟩ := ro.b b oi hO hc hp'
    rw [hk] at hk2; cases hk2; rw [hro] at hr2; cases hr2
  have hB0 := h.blk b k oi hk hO
  have hkeep : ∀ q, c.p q → w'.heap[q]? = w.heap[q]? := fun q hq => hw q (h.st q hq) (by
    by_cases hc : oi.cap = 0
    · exact .inr hc
    · exact .inl fun e => hnp hc (e ▸ hq))
  have hcase : ∀ b2 o2, (c.addO b oi').O b2 = some o2 → (b2 = b ∧ o2 = oi') ∨ (b2 ≠ b ∧ c.O b2 = some o2) := fun b2 o2 hb => by
    simp only [Cx.addO] at hb
    by_cases hbn : b2 = b
    · rw [if_pos hbn] at hb; exact .inl ⟨hbn, (Option.some.inj hb).symm⟩
    · rw [if_neg hbn] at hb; exact .inr ⟨hbn, hb⟩
  have hbel : Below base w w' := ⟨hos, htape, hout, hsz, fun q hq => hw q (by omega) (by
    by_cases hc : oi.cap = 0
    · exact .inr hc
    · exact .inl (by have := h.own b oi hO hc; omega))⟩
  have e : Ext base w c w' (c.addO b oi') := ⟨hbel, fun _ h => h, hkeep, fun b2 o2 hb => by
    by_cases hbn : b2 = b
    · subst hbn
      rw [hO] at hb; cases hb
      exact ⟨oi', addO_self _ _ _, hver.1, hver.2⟩
    · exact ⟨o2, by simp only [Cx.addO]; rw [if_neg hbn]; exact hb, Nat.le_refl _, fun _ => rfl⟩, fun _ _ h => h, fun _ _ h => h⟩
  have hother : ∀ b2 o2, b2 ≠ b → c.O b2 = some o2 → o2.cap ≠ 0 → w'.heap[o2.blk]? = w.heap[o2.blk]? := fun b2 o2 hne hO2 hc2 => hw _ (h.own b2 o2 hO2 hc2).2 (by
    rcases h.sep b2 b o2 oi hO2 hO hne with h1 | h1 | h1
    · exact .inl h1
    · exact absurd h1 hc2
    · exact .inr h1)
  have hmap : ∀ b2 r m, hp.maps[b2]? = some m → c.N b2 = some r → w'.heap[r]? = w.heap[r]? := fun b2 r m hm hN => hw r (h.mown b2 r hN).2 (by
    by_cases hc : oi.cap = 0
    · exact .inr hc
    · refine .inl fun er => ?_
      obtain ⟨cs, t, hrow, _⟩ := hB0.row hc
      obtain ⟨es, clock, hmm, _⟩ := (h.maps b2 m r hm hN).ex
      rw [er, hrow] at hmm; cases hmm)
  refine ⟨⟨fun b2 k2 o2 hk2 hO2 => ?_, fun b2 b3 o2 o3 h2 h3 hne => ?_, fun b2 o2 hO2 hc => ?_, fun q hq => by have := h.st q hq; omega, fun b2 m r hm hN => (h.maps b2 m r hm hN).mono e (hmap b2 r m hm hN), fun b2 r hN => by have := h.mown b2 r hN; omega, h.msep, fun b2 i o2 r hO2 hc hN => ?_⟩, e,
    ⟨fun b2 o2 hO2 hc hpp => ?_, fun b2 r hN hpp => ro.m b2 r hN hpp⟩, by simp [Hp.setB, setNth_eq], rfl, fun b2 o2 hO2 => ?_, fun b2 r hN => ⟨r, hN⟩, fun _ h => h, rfl⟩
  · rcases hcase b2 o2 hO2 with ⟨rfl, rfl⟩ | ⟨hne, hO2'⟩
    · rcases set_get hk2 with ⟨_, rfl⟩ | ⟨hne, _⟩
      · exact hBR e
      · exact absurd rfl hne
    · rcases set_get hk2 with ⟨he, _⟩ | ⟨_, hk2'⟩
      · exact absurd he hne
      · exact (h.blk b2 k2 o2 hk2' hO2').mono e (hother b2 o2 hne hO2')
  · have key : ∀ b4 o4, b4 ≠ b → c.O b4 = some o4 → oi'.blk ≠ o4.blk ∨ oi'.cap = 0 ∨ o4.cap = 0 := fun b4 o4 hne4 hO4 => by
      by_cases hc : oi'.cap = 0
      · exact .inr (.inl hc)
      · by_cases hc4 : o4.cap = 0
        · exact .inr (.inr hc4)
        · rcases hblk hc with ⟨he, hc0⟩ | ⟨hge, _⟩
          · rcases h.sep b b4 oi o4 hO hO4 (fun e => hne4 e.symm) with h1 | h1 | h1
            · exact .inl (by rw [he]; exact h1)
            · exact absurd h1 hc0
            · exact absurd h1 hc4
          · have := h.own b4 o4 hO4 hc4; exact .inl (by omega)
    rcases hcase b2 o2 h2 with ⟨rfl, rfl⟩ | ⟨hne1, hO1⟩ <;> rcases hcase b3 o3 h3 with ⟨rfl, rfl⟩ | ⟨hne2, hO2⟩
    · exact absurd rfl hne
    · exact key b3 o3 hne2 hO2
    · rcases key b2 o2 hne1 hO1 with h | h | h
      · exact .inl (fun e => h e.symm)
      · exact .inr (.inr h)
      · exact .inr (.inl h)
    · exact h.sep b2 b3 o2 o3 hO1 hO2 hne
  · rcases hcase b2 o2 hO2 with ⟨rfl, rfl⟩ | ⟨_, hO2'⟩
    · rcases hblk hc with ⟨he, hc0⟩ | ⟨hge, hlt⟩
      · have := h.own b2 oi hO hc0; rw [he]; omega
      · omega
    · have := h.own b2 o2 hO2' hc; omega
  · rcases hcase b2 o2 hO2 with ⟨rfl, rfl⟩ | ⟨_, hO2'⟩
    · rcases hblk hc with ⟨he, hc0⟩ | ⟨hge, _⟩
      · rw [he]; exact h.bm b2 i oi r hO hc0 hN
      · have := h.mown i r hN; omega
    · exact h.bm b2 i o2 r hO2' hc hN
  · rcases hcase b2 o2 hO2 with ⟨rfl, rfl⟩ | ⟨hne, hO2'⟩
    · rcases hblk hc with ⟨he, hc0⟩ | ⟨hge, _⟩
      · rw [he] at hpp; exact absurd hpp (hnp hc0)
      · have := h.st _ hpp; omega
    · obtain ⟨k2, hk2, hr2⟩ := ro.b b2 o2 hO2' hc hpp
      refine ⟨k2, ?_, hr2⟩
      show (setNth hp.blocks b k')[b2]? = some k2
      rw [setNth_eq, List.getElem?_set_ne (fun e => hne e.symm)]; exact hk2
  · rcases hcase b2 o2 hO2 with ⟨rfl, rfl⟩ | ⟨_, hO2'⟩
    · exact ⟨oi, hO⟩
    · exact ⟨o2, hO2'⟩
end
end Go.Tr

/- A store; an append in place; an append into new memory. Conditions: none. -/
namespace Go.Tr
open Go Go.RowKit

section
variable {P : Program} {T : Nat → Option TI} {w w' : World} {c c' : Cx} {base : Nat} {hp hp' : Hp}

theorem seg_get (l vs : List Value) (o k : Nat) (h : o + vs.length ≤ l.length) :
    (l.take o ++ vs ++ l.drop (o + vs.length))[k]? = if o ≤ k ∧ k - o < vs.length then vs[k - o]? else l[k]? := by
  have hto : (l.take o).length = o := by simp; omega
  by_cases h1 : k < o
  · rw [if_neg (by omega), List.append_assoc, List.getElem?_append_left (by omega), List.getElem?_take, if_pos h1]
  · by_cases h2 : k - o < vs.length
    · rw [if_pos ⟨by omega, h2⟩, List.append_assoc, List.getElem?_append_right (by omega), hto, List.getElem?_append_left h2]
    · rw [if_neg (by omega), List.getElem?_append_right (by simp; omega), List.getElem?_drop]
      congr 1
      simp
      omega

theorem seg_one {l vs : List Value} {o : Nat} (h1 : ∀ v ∈ l, v.oneCell' = true) (h2 : ∀ v ∈ vs, v.oneCell' = true) : ∀ v ∈ l.take o ++ vs ++ l.drop (o + vs.length), v.oneCell' = true := by
  intro v hv
  simp only [List.mem_append] at hv
  rcases hv with (hv | hv) | hv
  · exact h1 v (List.mem_of_mem_take hv)
  · exact h2 v hv
  · exact h1 v (List.mem_of_mem_drop hv)

/-- A row of cells is written over from a place on. -/
theorem write_row (h : HR P base w c hp) (ro : RO c hp) (hbase : base ≤ w.heap.size) {b : Nat} {k k' : AB} {oi : OI} (hk : hp.blocks[b]? = some k) (hO : c.O b = some oi) (hro : k.ro = false) (hcap : oi.cap ≠ 0)
    {cs : Array Value} {t : TypeId} (hrow : w.heap[oi.blk]? = some (.cells cs t (0, 0))) {idx sub : Nat} {x : AV} {u : Value} (hx : CR P w c x.cells u.cells) (hidx : idx < k.len) (hsub : sub + x.cells.length ≤ k.es)
    (hes : k'.es = k.es) (hlen : k'.len = k.len) (hver : k'.ver = k.ver) (hro' : k'.ro = false) (hf : ∀ i, i < k.len → k'.f i = if i = idx then splice (k.f i) sub x.cells else k.f i)
    (hflat : k'.flat = true → k.flat = true ∧ x.cells.all (AV.tree 4) = true) :
    EOut P base w c hp (w.setRow oi.blk (cs.toList.take (oi.lo + (idx * oi.es + sub)) ++ u.cells.toList ++ cs.toList.drop (oi.lo + (idx * oi.es + sub) + u.cells.toList.length)).toArray) (c.addO b oi) (hp.setB b k') := by
  have hB := h.blk b k oi hk hO
  obtain ⟨cs', t', hrow', hsz, hone⟩ := hB.row hcap
  rw [hrow] at hrow'
  cases hrow'
  have hul : u.cells.toList.length = x.cells.length := by simpa using hx.size
  have hidx' : idx < oi.cap := by have := hB.n; have := hB.le; omega
  have hfit : oi.lo + (idx * oi.es + sub) + u.cells.toList.length ≤ cs.toList.length := by
    have : (idx + 1) * oi.es ≤ oi.cap * oi.es := Nat.mul_le_mul_right _ hidx'
    rw [Nat.add_mul, Nat.one_mul] at this
    have := hB.es
    rw [hul]
    simp
    omega
  refine set_block h ro hk hO hro hbase rfl rfl rfl (by simp) (fun q _ hq => setRow_other w _ _ _ (by rcases hq with hq | hq; exact hq; exact absurd hq hcap)) (fun _ => .inl ⟨rfl, hcap⟩) ⟨Nat.le_refl _, fun _ => rfl⟩ hro' fun e => ?_
  have hrow2 := setRow_heap w oi.blk cs (cs.toList.take (oi.lo + (idx * oi.es + sub)) ++ u.cells.toList ++ cs.toList.drop (oi.lo + (idx * oi.es + sub) + u.cells.toList.length)).toArray t (0, 0) hrow
  refine ⟨by rw [hB.n, hlen], by rw [hB.es, hes], by rw [hB.ver, hver], hB.le, fun _ => ⟨_, t, hrow2, ?_, ?_⟩, fun i hi => ?_, fun i j y v hi hy hv => ?_⟩
  · simp at hfit ⊢
    omega
  · intro v hv
    exact seg_one hone hx.one v (by simpa using hv)
  · rw [hlen] at hi
    rw [hf i hi, hes]
    split
    · rw [splice_length]; exact hB.el i hi
    · exact hB.el i hi
  · rw [hlen] at hi
    rw [hf i hi] at hy
    have hj : j < oi.es := by
      rw [hB.es, ← hB.el i hi]
      have := (List.getElem?_eq_some_iff.1 hy).1
      split at this
      · rwa [splice_length] at this
      · exact this
    have hv' : (cs.toList.take (oi.lo + (idx * oi.es + sub)) ++ u.cells.toList ++ cs.toList.drop (oi.lo + (idx * oi.es + sub) + u.cells.toList.length))[oi.lo + (i * oi.es + j)]? = some v := by
      have hv2 := hv
      simp only [World.cell?] at hv2
      rw [hrow2] at hv2
      simpa using hv2
    rw [seg_get _ _ _ _ hfit] at hv'
    have hold : ∀ z, (k.f i)[j]? = some z → cs.toList[oi.lo + (i * oi.es + j)]? = some v → VR P w c z v ∧ (k.flat = true → VT P w c.p z v) := fun z hz hcv =>
      hB.rel i j z v hi hz (by simpa [World.cell?, hrow] using hcv)
    split at hv'
    · rename_i hin
      -- the place lies in what is written: then it is the element idx
      have hii : i = idx := by
        rcases Nat.lt_trichotomy i idx with hlt | heq | hgt
        · have : (i + 1) * oi.es ≤ idx * oi.es := Nat.mul_le_mul_right _ hlt
          rw [Nat.add_mul, Nat.one_mul] at this
          omega
        · exact heq
        · have : (idx + 1) * oi.es ≤ i * oi.es := Nat.mul_le_mul_right _ hgt
          rw [Nat.add_mul, Nat.one_mul] at this
          have := hB.es
          omega
      subst hii
      rw [if_pos rfl, splice_get _ _ _ _ (by rw [hB.el i hi, ← hB.es]; exact hj)] at hy
      have hjs : sub ≤ j ∧ j - sub < x.cells.length := by omega
      rw [if_pos hjs] at hy
      have hr := hx.rel _ y hy
      have hvv : u.cells.getD (j - sub) undef = v := by
        have e1 : oi.lo + (i * oi.es + j) - (oi.lo + (i * oi.es + sub)) = j - sub := by omega
        rw [e1] at hv'
        simp at hv'
        simp [hv']
      rw [hvv] at hr
      have hr' := hr.mono e
      exact ⟨hr', fun hfl => VR.toVT 4 (List.all_eq_true.1 (hflat hfl).2 y (List.mem_of_getElem? hy)) hr'⟩
    · rename_i hin
      have hz : (k.f i)[j]? = some y := by
        split at hy
        · rename_i hii
          subst hii
          rw [splice_get _ _ _ _ (by rw [hB.el i hi, ← hB.es]; exact hj), if_neg (by omega)] at hy
          exact hy
        · exact hy
      obtain ⟨h1, h2⟩ := hold y hz hv'
      exact ⟨h1.mono e, fun hfl => (h2 (hflat hfl).1).mono e.p e.pb⟩

theorem eff_store (hT : TOK P T) (h : HR P base w c hp) (ro : RO c hp) (hbase : base ≤ w.heap.size) {t : TypeId} {o : Oper} {a x : Operand} {ρ : Operand → AV} {r : Operand → Value} (hop : o.op = .store t a x)
    (ha : VR P w c (ρ a) (r a)) (hx : VR P w c (ρ x) (r x)) {v : AV} (hev : (opEv T o ρ hp).gives v hp') :
    ∃ w' c', (execOp r o).run P w = .ok .skip w' ∧ EOut P base w c hp w' c' hp' ∧ v = .top := by
  unfold opEv at hev
  rw [hop] at hev
  simp only at hev
  split at hev
  · rename_i ti b ver idx sub ht hra
    split at hev
    · rename_i k hk
      rw [hra] at ha
      cases hb : (Nat.beq (ρ x).cells.length ti.size && !k.ro && (ρ x).storable && Nat.ble (sub + ti.size) k.es) with
      | false => rw [hb] at hev; exact hev.elim
      | true =>
        rw [hb] at hev
        simp only [Bool.and_eq_true, Bool.not_eq_true'] at hb
        obtain ⟨⟨⟨b1, b2⟩, b3⟩, b4⟩ := hb
        have b1 := Nat.eq_of_beq_eq_true b1
        have b4 := Nat.le_of_ble_eq_true b4
        obtain ⟨_, _, _, inf, hinf, hsz, _⟩ := hT _ _ ht
        have hxc := hx.cr b3
        obtain ⟨hkb, hkv⟩ := block_some hk
        obtain ⟨oi, hO, hle, _, hv'⟩ := ha.optr_inv
        have hB := h.blk b k oi hkb hO
        obtain ⟨hidx, hu⟩ := hv' (by rw [hB.ver, hkv])
        have hidx' : idx < k.len := by rw [← hB.n]; exact hidx
        have hcap : oi.cap ≠ 0 := by have := hB.le; omega
        obtain ⟨cs, t', hrow, hszc, hone⟩ := hB.row hcap
        have hrun : (execOp r o).run P w = .ok .skip (w.setRow oi.blk (cs.toList.take (oi.lo + (idx * oi.es + sub)) ++ (r x).cells.toList ++ cs.toList.drop (oi.lo + (idx * oi.es + sub) + (r x).cells.toList.length)).toArray) := by
          have hul : (r x).cells.toList.length = ti.size := by rw [← b1]; simpa using hxc.size
          have hidx2 : idx < oi.cap := by have := hB.le; omega
          have hst := run_storeCells_at P oi.blk (oi.lo + (idx * oi.es + sub)) t' (r x).cells.toList 0 cs w hrow (by
            have : (idx + 1) * oi.es ≤ oi.cap * oi.es := Nat.mul_le_mul_right _ hidx2
            rw [Nat.add_mul, Nat.one_mul] at this
            have := hB.es
            rw [hul]
            omega) hxc.one
          have hne : (r x).cells.size = inf.size := by rw [hxc.size, b1, hsz]
          simp only [Nat.add_zero] at hst
          have e1 : (Instr.storeAt t (r a) (r x)).run P w = (storeCells ⟨oi.blk, oi.lo + (idx * oi.es + sub), none⟩ (r x).cells.toList).run P w := by
            rw [hu]
            simp [Instr.storeAt, Instr.sureAddr, storeVar, sizeOf, typeInfo, hinf, hne]
          unfold execOp
          simp only [hop, Sem.run_bind, e1, hst, Result.andThen_ok, Sem.run_pure]
        simp only [cond_true, forceC_eq, forceT_eq, AB.wr_eq] at hev
        split at hev
        · split at hev
          case h_2 => exact hev.elim
          rename_i hlen
          obtain ⟨rfl, rfl⟩ := hev
          refine ⟨_, _, hrun, write_row h ro hbase hkb hO b2 hcap hrow hxc hidx' (by rw [b1]; exact b4) rfl rfl rfl b2 (fun i hi => ?_) (fun hf => by simpa using hf), rfl⟩
          have : i = idx := by omega
          have h0 : i = 0 := by omega
          subst h0
          rw [if_pos this]
        · obtain ⟨F, hF, rfl, rfl⟩ := hev
          simp only [AB.wr_eq]
          refine ⟨_, _, hrun, write_row h ro hbase hkb hO b2 hcap hrow hxc hidx' (by rw [b1]; exact b4) rfl rfl rfl b2 (fun i hi => ?_) (fun hf => by simpa using hf), trivial⟩
          show F i = _
          rw [hF i hi]
          by_cases hi2 : i = idx
          · subst hi2; simp
          · rw [if_neg hi2]
            have : Nat.beq i idx = false := by
              cases hbb : Nat.beq i idx with
              | false => rfl
              | true => exact absurd (Nat.eq_of_beq_eq_true hbb) hi2
            simp [this]
    · exact hev.elim
  · exact hev.elim
end
end Go.Tr

/- The built-in append. Conditions: none. -/
namespace Go.Tr
open Go Go.RowKit

section
variable {P : Program} {T : Nat → Option TI} {w w' : World} {c c' : Cx} {base : Nat} {hp hp' : Hp}

theorem run_grow (t ty e : TypeId) (i : TypeInfo) (z : Value) (ht : P.underlying t = some (.slice e)) (hi : P.info? e = some i) (hz : i.zero = some z)
    {a : Option Addr} {sLen sCap m : Nat} {x : Value} {ax : Option Addr} {kx : Nat} (hx : x = .slice ax m kx) {olds news : Array Value}
    (ho : ∀ w', w'.heap = w.heap → (Builtin.firstCells i.size sLen (.slice a sLen sCap)).run P w' = .ok olds w') (hn : ∀ w', w'.heap = w.heap → (Builtin.firstCells i.size m x).run P w' = .ok news w')
    (hg : sCap < sLen + m) (h63 : sLen + m ≤ 9223372036854775807) (hb : (sLen + m) * i.bytes ≤ 140737488355328) :
    (Builtin.append_ #[t, t] ty #[.slice a sLen sCap, x]).run P w =
      .ok (.slice (some ⟨w.heap.size, 0, none⟩) (sLen + m) (grownCap w (sLen + m) sCap e)) (w.drew.alloc (.cells (olds ++ news ++ Builtin.zeroCells z.cells (grownCap w (sLen + m) sCap e - (sLen + m))) e)) := by
  subst hx
  have hn' : ¬ (sLen + m ≤ sCap) := by omega
  have h63' : ¬ (9223372036854775807 < ((sLen : Int) + (m : Int))) := by omega
  have h48' : ¬ (281474976710656 < Builtin.nextslicecap (sLen + m) sCap * i.bytes) := by have := growslice_fits hg hb; omega
  have h1 := ho w.drew rfl
  have h2 := hn w.drew rfl
  simp [Builtin.append_, Builtin.lenOf, run_underlying ht, sizeOf, typeInfo, hi, hn', h63', h48', Question.forced, h1, h2, zeroValue, hz, newRow, grownCap]

theorem zeroCells_one {z : Array Value} (h : ∀ v ∈ z.toList, v.oneCell' = true) (n : Nat) : ∀ v ∈ (Builtin.zeroCells z n).toList, v.oneCell' = true := by
  intro v hv
  unfold Builtin.zeroCells at hv
  simp at hv
  obtain ⟨i, hi, rfl⟩ := hv
  have hz : 0 < z.size := by rcases Nat.eq_zero_or_pos z.size with h0 | h0 <;> simp_all
  have hlt : i % z.size < z.size := Nat.mod_lt _ hz
  rw [getElem!_pos z (i % z.size) hlt]
  exact h _ (by simp)

/-- The cells of two rows, one behind the other. -/
theorem two_rows {es sLen m : Nat} {fs fx : Nat → List AV} {fl1 fl : Bool} {s x : Value} {olds news rest : Array Value} (hs : Elems P w c es sLen fs fl1 s olds) (hx : Elems P w c es m fx fl x news)
    {i j : Nat} {y : AV} (hi : i < sLen + m) (hy : (if i < sLen then fs i else fx (i - sLen))[j]? = some y) :
    VR P w c y ((olds ++ news ++ rest).getD (i * es + j) undef) ∧ ((fl && fl1) = true → VT P w c.p y ((olds ++ news ++ rest).getD (i * es + j) undef)) := by
  simp only [Array.getD_eq_getD_getElem?]
  by_cases h : i < sLen
  · rw [if_pos h] at hy
    have hj : j < es := by rw [← hs.len i h]; exact (List.getElem?_eq_some_iff.1 hy).1
    have hij : i * es + j < sLen * es := by
      have : (i + 1) * es ≤ sLen * es := Nat.mul_le_mul_right _ h
      rw [Nat.add_mul, Nat.one_mul] at this
      omega
    have hg : (olds ++ news ++ rest)[i * es + j]? = olds[i * es + j]? := by
      rw [Array.append_assoc, Array.getElem?_append_left (by rw [hs.size]; exact hij)]
    rw [hg]
    have := hs.rel i j y h hy
    simp only [Array.getD_eq_getD_getElem?] at this
    exact ⟨this.1, fun hf => this.2 (by simp at hf; exact hf.2)⟩
  · rw [if_neg h] at hy
    have hi' : i - sLen < m := by omega
    have hj : j < es := by rw [← hx.len _ hi']; exact (List.getElem?_eq_some_iff.1 hy).1
    have hij : (i - sLen) * es + j < m * es := by
      have : (i - sLen + 1) * es ≤ m * es := Nat.mul_le_mul_right _ hi'
      rw [Nat.add_mul, Nat.one_mul] at this
      omega
    have hsub : i * es + j - olds.size = (i - sLen) * es + j := by
      rw [hs.size, Nat.sub_mul]
      have : sLen * es ≤ i * es := Nat.mul_le_mul_right _ (by omega)
      omega
    have hge : olds.size ≤ i * es + j := by
      rw [hs.size]
      have : sLen * es ≤ i * es := Nat.mul_le_mul_right _ (by omega)
      omega
    have hg : (olds ++ news ++ rest)[i * es + j]? = news[(i - sLen) * es + j]? := by
      rw [Array.append_assoc, Array.getElem?_append_right hge, hsub, Array.getElem?_append_left (by rw [hx.size]; exact hij)]
    rw [hg]
    have := hx.rel _ j y hi' hy
    simp only [Array.getD_eq_getD_getElem?] at this
    exact ⟨this.1, fun hf => this.2 (by simp at hf; exact hf.1)⟩

/-- What append into new memory leaves: the row, its room. -/
theorem grown_facts (hT : TOK P T) {e : TypeId} {ei : TI} (he : T e = some ei) {sLen m : Nat} {fs fx : Nat → List AV} {fl1 fl : Bool} {s x : Value} {olds news : Array Value}
    (hs : Elems P w c ei.size sLen fs fl1 s olds) (hx : Elems P w c ei.size m fx fl x news) (cap : Nat) (hcap : sLen + m ≤ cap) :
    cap * ei.size ≤ (olds ++ news ++ Builtin.zeroCells ei.zero.cells (cap - (sLen + m))).size ∧ ∀ v ∈ (olds ++ news ++ Builtin.zeroCells ei.zero.cells (cap - (sLen + m))).toList, v.oneCell' = true := by
  obtain ⟨_, hz1, hz2, _⟩ := hT _ _ he
  refine ⟨?_, ?_⟩
  · rw [Array.size_append, Array.size_append, hs.size, hx.size, size_zeroCells, hz1, ← Nat.add_mul, ← Nat.add_mul]
    exact Nat.mul_le_mul_right _ (by omega)
  · intro v hv
    simp only [Array.toList_append, List.mem_append] at hv
    rcases hv with (hv | hv) | hv
    · exact hs.one v hv
    · exact hx.one v hv
    · exact zeroCells_one hz2 _ v hv

theorem elem_len {es sLen m : Nat} {fs fx : Nat → List AV} {fl1 fl : Bool} {s x : Value} {olds news : Array Value}
    (hs : Elems P w c es sLen fs fl1 s olds) (hx : Elems P w c es m fx fl x news) {i : Nat} (hi : i < sLen + m) : (if i < sLen then fs i else fx (i - sLen)).length = es := by
  split
  · rename_i h; exact hs.len i h
  · exact hx.len _ (by omega)

theorem append_new (hT : TOK P T) (h : HR P base w c hp) (hbase : base ≤ w.heap.size) (hfree : c.O hp.blocks.length = none) {t e ty : TypeId} {tt ei : TI} (ht : T t = some tt) (htt : tt.desc = .slice e) (he : T e = some ei)
    {sLen m : Nat} {fs fx : Nat → List AV} {fl1 fl : Bool} {a : Option Addr} {sCap : Nat} {x : Value} {olds news : Array Value}
    (hs : Elems P w c ei.size sLen fs fl1 (.slice a sLen sCap) olds) (hx : Elems P w c ei.size m fx fl x news) (hg : sCap < sLen + m) (hb : (sLen + m) * ei.bytes ≤ 1000000000000) (hl : sLen + m ≤ 9223372036854775807)
    {k : AB} (hkes : k.es = ei.size) (hklen : k.len = sLen + m) (hkver : k.ver = 0) (hkf : ∀ i, i < sLen + m → k.f i = if i < sLen then fs i else fx (i - sLen)) (hkfl : k.flat = true → (fl && fl1) = true) :
    ∃ u w' c', (Builtin.append_ #[t, t] ty #[.slice a sLen sCap, x]).run P w = .ok u w' ∧ QOut P base w c hp w' c' (hp.addB k) ∧ VR P w' c' (.oslice hp.blocks.length 0 0 (sLen + m) none) u := by
  obtain ⟨_, _, _, inf, hinf, hsz, hby, hz⟩ := hT _ _ he
  have hd := (hT _ _ ht).1
  rw [htt] at hd
  obtain ⟨ax, kx, hxs, _⟩ := hx.sl
  have hrun := run_grow (P := P) (w := w) t ty e inf ei.zero hd hinf hz hxs (by rw [hsz]; exact hs.run) (by rw [hsz]; exact hx.run) hg hl (by rw [hby]; omega)
  have hge := grownCap_ge w (sLen + m) sCap e
  obtain ⟨g1, g2⟩ := grown_facts hT he hs hx (grownCap w (sLen + m) sCap e) hge
  have hB : Below w.heap.size w (w.drew.alloc (.cells (olds ++ news ++ Builtin.zeroCells ei.zero.cells (grownCap w (sLen + m) sCap e - (sLen + m))) e)) := ((Below.refl _ _).drew).alloc (by simp) _
  have hnew : (w.drew.alloc (.cells (olds ++ news ++ Builtin.zeroCells ei.zero.cells (grownCap w (sLen + m) sCap e - (sLen + m))) e)).heap[w.heap.size]? = some (.cells (olds ++ news ++ Builtin.zeroCells ei.zero.cells (grownCap w (sLen + m) sCap e - (sLen + m))) e (0, 0)) := heap_alloc_new w.drew _
  refine ⟨_, _, c.addO hp.blocks.length ⟨w.heap.size, 0, grownCap w (sLen + m) sCap e, ei.size, sLen + m, 0⟩, hrun, qout_block h hbase hB hfree (fun _ => ⟨Nat.le_refl _, by simp⟩) fun ex => ?_,
    .oslice _ _ _ _ _ _ _ (addO_self _ _ _) (Nat.le_refl _) rfl fun _ => ⟨by simp, some ⟨w.heap.size, 0, none⟩, grownCap w (sLen + m) sCap e, rfl, hge, by simp, fun _ => by simp, fun cp hcp => by cases hcp⟩⟩
  refine ⟨hklen.symm, hkes.symm, hkver.symm, hge, fun _ => ⟨_, e, hnew, by simpa using g1, g2⟩, fun i hi => ?_, fun i j y v hi hy hv => ?_⟩
  · rw [hklen] at hi; rw [hkf i hi, hkes]; exact elem_len hs hx hi
  · rw [hklen] at hi
    rw [hkf i hi] at hy
    have hr := two_rows (rest := Builtin.zeroCells ei.zero.cells (grownCap w (sLen + m) sCap e - (sLen + m))) hs hx hi hy
    have hv' : v = (olds ++ news ++ Builtin.zeroCells ei.zero.cells (grownCap w (sLen + m) sCap e - (sLen + m))).getD (i * ei.size + j) undef := by
      have hv2 := hv
      simp only [World.cell?] at hv2
      rw [hnew] at hv2
      simp only [Nat.zero_add] at hv2
      rw [if_neg (by simp)] at hv2
      simp only [Array.getD_eq_getD_getElem?]
      rw [hv2]; rfl
    rw [hv']
    exact ⟨hr.1.mono ex, fun hf => (hr.2 (hkfl hf)).mono ex.p ex.pb⟩

/-- Nothing is appended to an empty slice without room: it stays. -/
theorem append_none (hT : TOK P T) (h : HR P base w c hp) (hbase : base ≤ w.heap.size) (hfree : c.O hp.blocks.length = none) {t e ty : TypeId} {tt ei : TI} (ht : T t = some tt) (htt : tt.desc = .slice e) (he : T e = some ei)
    {fx : Nat → List AV} {fl : Bool} {a : Option Addr} {x : Value} {news : Array Value} (hx : Elems P w c ei.size 0 fx fl x news) {k : AB} (hkes : k.es = ei.size) (hklen : k.len = 0) (hkver : k.ver = 0) :
    ∃ u w' c', (Builtin.append_ #[t, t] ty #[.slice a 0 0, x]).run P w = .ok u w' ∧ QOut P base w c hp w' c' (hp.addB k) ∧ VR P w' c' (.oslice hp.blocks.length 0 0 0 none) u := by
  obtain ⟨_, _, _, inf, hinf, hsz, hby, hz⟩ := hT _ _ he
  have hd := (hT _ _ ht).1
  rw [htt] at hd
  obtain ⟨ax, kx, hxs, _⟩ := hx.sl
  have hn := hx.run w rfl
  have hnews : news = #[] := Array.eq_empty_of_size_eq_zero (by rw [hx.size]; simp)
  subst hnews
  rw [← hsz] at hn
  refine ⟨.slice a 0 0, w, c.addO hp.blocks.length ⟨0, 0, 0, ei.size, 0, 0⟩, ?_, qout_block h hbase (Below.refl _ _) hfree (fun hc => absurd rfl hc) fun ex => ?_,
    .oslice _ _ _ _ _ _ _ (addO_self _ _ _) (Nat.le_refl _) rfl fun _ => ⟨by simp, a, 0, rfl, Nat.le_refl _, by simp, fun hc => absurd rfl hc, fun cp hcp => by cases hcp⟩⟩
  · subst hxs
    cases a <;> simp [Builtin.append_, run_underlying hd, sizeOf, typeInfo, hinf, Builtin.lenOf, hn, storeCells]
  · exact ⟨hklen.symm, hkes.symm, hkver.symm, Nat.le_refl _, fun hc => absurd rfl hc, fun i hi => by omega, fun i j y v hi => by omega⟩

/-- Append onto a slice of the call's own, whatever its room. -/
theorem append_own (hT : TOK P T) (h : HR P base w c hp) (ro : RO c hp) (hbase : base ≤ w.heap.size) {t e ty : TypeId} {tt ei : TI} (ht : T t = some tt) (htt : tt.desc = .slice e) (he : T e = some ei)
    {b off len m : Nat} {k k' : AB} {oi : OI} (hk : hp.blocks[b]? = some k) (hO : c.O b = some oi) (hro : k.ro = false) (hkes0 : k.es = ei.size) {a : Option Addr} {k1 : Nat} (hn1 : off + len ≤ oi.n) (hk1 : len ≤ k1) (hk2 : off + k1 ≤ oi.cap)
    (hk3 : k1 ≠ 0 → a = some ⟨oi.blk, oi.lo + off * oi.es, none⟩)
    {fx : Nat → List AV} {fl : Bool} {x : Value} {olds news : Array Value}
    (hs : Elems P w c ei.size len (fun i => k.f (off + i)) k.flat (.slice a len k1) olds) (hx : Elems P w c ei.size m fx fl x news) (hb : (len + m) * ei.bytes ≤ 1000000000000) (hl : len + m ≤ 9223372036854775807)
    (hkes : k'.es = k.es) (hklen : k'.len = len + m) (hkver : k'.ver = k.ver + 1) (hkro : k'.ro = false) (hkf : ∀ i, i < len + m → k'.f i = if i < len then k.f (off + i) else fx (i - len)) (hkfl : k'.flat = true → (fl && k.flat) = true) :
    ∃ u w' c', (Builtin.append_ #[t, t] ty #[.slice a len k1, x]).run P w = .ok u w' ∧ EOut P base w c hp w' c' (hp.setB b k') ∧ VR P w' c' (.oslice b (k.ver + 1) 0 (len + m) none) u := by
  obtain ⟨_, _, _, inf, hinf, hsz, hby, hz⟩ := hT _ _ he
  have hd := (hT _ _ ht).1
  rw [htt] at hd
  have hB0 := h.blk b k oi hk hO
  obtain ⟨ax, kx, hxs, _⟩ := hx.sl
  by_cases hroom : len + m ≤ k1
  · -- in place
    have hn := hx.run w rfl
    rw [← hsz] at hn
    by_cases hk0 : k1 = 0
    · -- no room, nothing appended
      have hm0 : m = 0 := by omega
      have hl0 : len = 0 := by omega
      subst hm0; subst hl0; subst hk0
      have hnews : news = #[] := Array.eq_empty_of_size_eq_zero (by rw [hx.size]; simp)
      subst hnews
      refine ⟨.slice a 0 0, w, c.addO b ⟨0, 0, 0, ei.size, 0, oi.ver + 1⟩, ?_, set_block h ro hk hO hro hbase rfl rfl rfl (Nat.le_refl _) (fun _ _ _ => rfl) (fun hc => absurd rfl hc) ⟨by simp, fun hh => by simp at hh⟩ hkro fun ex => ?_,
        .oslice _ _ _ _ _ _ _ (addO_self _ _ _) (by simp [hB0.ver]) rfl fun _ => ⟨by simp, a, 0, rfl, Nat.le_refl _, by simp, fun hc => absurd rfl hc, fun cp hcp => by cases hcp⟩⟩
      · subst hxs
        cases a <;> simp [Builtin.append_, run_underlying hd, sizeOf, typeInfo, hinf, Builtin.lenOf, hn, storeCells]
      · exact ⟨hklen.symm, by rw [hkes, hkes0], by rw [hkver, hB0.ver], Nat.le_refl _, fun hc => absurd rfl hc, fun i hi => by omega, fun i j y v hi => by omega⟩
    · have ha := hk3 hk0
      have hcap : oi.cap ≠ 0 := by omega
      obtain ⟨cs, t', hrow, hszc, hone⟩ := hB0.row hcap
      have hoes : oi.es = ei.size := by rw [hB0.es, hkes0]
      have hnl : news.toList.length = m * ei.size := by simpa using hx.size
      have hfit : oi.lo + (off + len) * ei.size + news.toList.length ≤ cs.toList.length := by
        have : (off + len + m) * ei.size ≤ oi.cap * ei.size := Nat.mul_le_mul_right _ (by omega)
        rw [Nat.add_mul] at this
        rw [hnl]
        rw [hoes] at hszc
        simp
        omega
      have hst := run_storeCells_at P oi.blk (oi.lo + (off + len) * ei.size) t' news.toList 0 cs w hrow (by simpa using hfit) hx.one
      simp only [Nat.add_zero] at hst
      have hrun : (Builtin.append_ #[t, t] ty #[.slice a len k1, x]).run P w = .ok (.slice a (len + m) k1) (w.setRow oi.blk (cs.toList.take (oi.lo + (off + len) * ei.size) ++ news.toList ++ cs.toList.drop (oi.lo + (off + len) * ei.size + news.toList.length)).toArray) := by
        have hadd : (⟨oi.blk, oi.lo + off * oi.es, none⟩ : Addr).add (len * inf.size) = ⟨oi.blk, oi.lo + (off + len) * ei.size, none⟩ := by
          rw [addr_add, hsz, hoes, Nat.add_mul]; congr 1; omega
        subst hxs
        rw [ha]
        have e1 : (Builtin.append_ #[t, t] ty #[.slice (some ⟨oi.blk, oi.lo + off * oi.es, none⟩) len k1, .slice ax m kx]).run P w = ((storeCells ⟨oi.blk, oi.lo + (off + len) * ei.size, none⟩ news.toList).run P w).andThen fun _ w' => .ok (.slice (some ⟨oi.blk, oi.lo + off * oi.es, none⟩) (len + m) k1) w' := by
          simp [Builtin.append_, run_underlying hd, sizeOf, typeInfo, hinf, Builtin.lenOf, hn, hroom, hadd]
        rw [e1, hst]; rfl
      have hrow2 := setRow_heap w oi.blk cs (cs.toList.take (oi.lo + (off + len) * ei.size) ++ news.toList ++ cs.toList.drop (oi.lo + (off + len) * ei.size + news.toList.length)).toArray t' (0, 0) hrow
      refine ⟨_, _, c.addO b ⟨oi.blk, oi.lo + off * ei.size, k1, ei.size, len + m, oi.ver + 1⟩, hrun,
        set_block h ro hk hO hro hbase rfl rfl rfl (by simp) (fun q _ hq => setRow_other w _ _ _ (by rcases hq with hq | hq; exact hq; exact absurd hq hcap)) (fun _ => .inl ⟨rfl, hcap⟩) ⟨by simp, fun hh => by simp at hh⟩ hkro fun ex => ?_,
        .oslice _ _ _ _ _ _ _ (addO_self _ _ _) (by simp [hB0.ver]) rfl fun _ => ⟨by simp, a, k1, rfl, hroom, by simp, fun _ => by rw [ha, hoes]; simp, fun cp hcp => by cases hcp⟩⟩
      refine ⟨hklen.symm, by rw [hkes, hkes0], by rw [hkver, hB0.ver], hroom, fun _ => ⟨_, t', hrow2, ?_, ?_⟩, fun i hi => ?_, fun i j y v hi hy hv => ?_⟩
      · have : (off + k1) * ei.size ≤ oi.cap * ei.size := Nat.mul_le_mul_right _ hk2
        rw [Nat.add_mul] at this
        rw [hoes] at hszc
        simp at hfit ⊢
        omega
      · intro v hv
        exact seg_one hone hx.one v (by simpa using hv)
      · rw [hklen] at hi; rw [hkf i hi, hkes, hkes0]; exact elem_len hs hx hi
      · rw [hklen] at hi
        rw [hkf i hi] at hy
        have hj : j < ei.size := by rw [← elem_len hs hx hi]; exact (List.getElem?_eq_some_iff.1 hy).1
        have hv2 := hv
        simp only [World.cell?] at hv2
        rw [hrow2] at hv2
        have hv' : (cs.toList.take (oi.lo + (off + len) * ei.size) ++ news.toList ++ cs.toList.drop (oi.lo + (off + len) * ei.size + news.toList.length))[oi.lo + off * ei.size + (i * ei.size + j)]? = some v := by simpa using hv2
        rw [seg_get _ _ _ _ hfit] at hv'
        by_cases hil : i < len
        · rw [if_pos hil] at hy
          have hlt : (i + 1) * ei.size ≤ len * ei.size := Nat.mul_le_mul_right _ hil
          rw [Nat.add_mul, Nat.one_mul] at hlt
          rw [if_neg (by rw [Nat.add_mul]; omega)] at hv'
          have hlen : off + i < k.len := by have := hB0.n; omega
          have hcv : w.cell? ⟨oi.blk, oi.lo + ((off + i) * oi.es + j), none⟩ = some v := by
            rw [hoes, Nat.add_mul, show oi.lo + (off * ei.size + i * ei.size + j) = oi.lo + off * ei.size + (i * ei.size + j) from by omega]
            simpa [World.cell?, hrow] using hv'
          obtain ⟨g1, g2⟩ := hB0.rel (off + i) j y v hlen hy hcv
          exact ⟨g1.mono ex, fun hf => (g2 (by have := hkfl hf; simp at this; exact this.2)).mono ex.p ex.pb⟩
        · rw [if_neg hil] at hy
          have hi' : i - len < m := by omega
          have hlt : (i - len + 1) * ei.size ≤ m * ei.size := Nat.mul_le_mul_right _ hi'
          rw [Nat.add_mul, Nat.one_mul, Nat.sub_mul] at hlt
          have hge : len * ei.size ≤ i * ei.size := Nat.mul_le_mul_right _ (by omega)
          have hidx : oi.lo + off * ei.size + (i * ei.size + j) - (oi.lo + (off + len) * ei.size) = (i - len) * ei.size + j := by rw [Nat.add_mul, Nat.sub_mul]; omega
          rw [if_pos ⟨by rw [Nat.add_mul]; omega, by rw [hidx, hnl, Nat.sub_mul]; omega⟩, hidx] at hv'
          have hr := hx.rel (i - len) j y hi' hy
          have hvv : news.getD ((i - len) * ei.size + j) undef = v := by
            simp at hv'
            simp [hv']
          rw [hvv] at hr
          exact ⟨hr.1.mono ex, fun hf => (hr.2 (by have := hkfl hf; simp at this; exact this.1)).mono ex.p ex.pb⟩
  · -- into new memory
    have hg : k1 < len + m := by omega
    have hrun := run_grow (P := P) (w := w) t ty e inf ei.zero hd hinf hz hxs (by rw [hsz]; exact hs.run) (by rw [hsz]; exact hx.run) hg hl (by rw [hby]; omega)
    have hge := grownCap_ge w (len + m) k1 e
    obtain ⟨g1, g2⟩ := grown_facts hT he hs hx (grownCap w (len + m) k1 e) hge
    have hnew : (w.drew.alloc (.cells (olds ++ news ++ Builtin.zeroCells ei.zero.cells (grownCap w (len + m) k1 e - (len + m))) e)).heap[w.heap.size]? = some (.cells (olds ++ news ++ Builtin.zeroCells ei.zero.cells (grownCap w (len + m) k1 e - (len + m))) e (0, 0)) := heap_alloc_new w.drew _
    refine ⟨_, _, c.addO b ⟨w.heap.size, 0, grownCap w (len + m) k1 e, ei.size, len + m, oi.ver + 1⟩, hrun,
      set_block h ro hk hO hro hbase rfl rfl rfl (by simp) (fun q hq _ => Below.heap_alloc w.drew _ q hq) (fun _ => .inr ⟨Nat.le_refl _, by simp⟩) ⟨by simp, fun hh => by simp at hh⟩ hkro fun ex => ?_,
      .oslice _ _ _ _ _ _ _ (addO_self _ _ _) (by simp [hB0.ver]) rfl fun _ => ⟨by simp, some ⟨w.heap.size, 0, none⟩, grownCap w (len + m) k1 e, rfl, hge, by simp, fun _ => by simp, fun cp hcp => by cases hcp⟩⟩
    refine ⟨hklen.symm, by rw [hkes, hkes0], by rw [hkver, hB0.ver], hge, fun _ => ⟨_, e, hnew, by simpa using g1, g2⟩, fun i hi => ?_, fun i j y v hi hy hv => ?_⟩
    · rw [hklen] at hi; rw [hkf i hi, hkes, hkes0]; exact elem_len hs hx hi
    · rw [hklen] at hi
      rw [hkf i hi] at hy
      have hr := two_rows (rest := Builtin.zeroCells ei.zero.cells (grownCap w (len + m) k1 e - (len + m))) hs hx hi hy
      have hv' : v = (olds ++ news ++ Builtin.zeroCells ei.zero.cells (grownCap w (len + m) k1 e - (len + m))).getD (i * ei.size + j) undef := by
        have hv2 := hv
        simp only [World.cell?] at hv2
        rw [hnew] at hv2
        simp only [Nat.zero_add] at hv2
        rw [if_neg (by simp)] at hv2
        simp only [Array.getD_eq_getD_getElem?]
        rw [hv2]; rfl
      rw [hv']
      exact ⟨hr.1.mono ex, fun hf => (hr.2 (hkfl hf)).mono ex.p ex.pb⟩
end
end Go.Tr

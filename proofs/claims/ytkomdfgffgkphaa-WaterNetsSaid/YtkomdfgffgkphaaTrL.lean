/- A store; an append in place; an append into new memory. Conditions: none. -/
import Derived.Test.YtkomdfgffgkphaaTrK
namespace Go.Tr
open Go Go.RowKit

section
variable {P : Program} {T : Nat → Option TI} {w w' : World} {c c' : Cx} {base : Nat} {hp hp' : Hp}

theorem seg_get (l vs : List Value) (o k : Nat) (h : o + vs.length ≤ l.length) :
    (l.take o ++ vs ++ l.drop (o + vs.length))[k]? = if o ≤ k ∧ k - o < vs.length then vs[k - o]? else l[k]? := by
  have hto : (l.take o).length = o := by simp; omega
  by_cases h1 : k < o
  · rw [if_neg (by omega), List.append_assoc, List.getElem?_append_left (by omega), List.getElem?_take, if_pos h1]
  · by_cases h2 : k - o < vs.length
    · rw [if_pos ⟨by omega, h2⟩, List.append_assoc, List.getElem?_append_right (by omega), hto, List.getElem?_append_left h2]
    · rw [if_neg (by omega), List.getElem?_append_right (by simp; omega), List.getElem?_drop]
      congr 1
      simp
      omega

theorem seg_one {l vs : List Value} {o : Nat} (h1 : ∀ v ∈ l, v.oneCell' = true) (h2 : ∀ v ∈ vs, v.oneCell' = true) : ∀ v ∈ l.take o ++ vs ++ l.drop (o + vs.length), v.oneCell' = true := by
  intro v hv
  simp only [List.mem_append] at hv
  rcases hv with (hv | hv) | hv
  · exact h1 v (List.mem_of_mem_take hv)
  · exact h2 v hv
  · exact h1 v (List.mem_of_mem_drop hv)

/-- A row of cells is written over from a place on. -/
theorem write_row (h : HR P base w c hp) (ro : RO c hp) (hbase : base ≤ w.heap.size) {b : Nat} {k k' : AB} {oi : OI} (hk : hp.blocks[b]? = some k) (hO : c.O b = some oi) (hro : k.ro = false) (hcap : oi.cap ≠ 0)
    {cs : Array Value} {t : TypeId} (hrow : w.heap[oi.blk]? = some (.cells cs t (0, 0))) {idx sub : Nat} {x : AV} {u : Value} (hx : CR P w c x.cells u.cells) (hidx : idx < k.len) (hsub : sub + x.cells.length ≤ k.es)
    (hes : k'.es = k.es) (hlen : k'.len = k.len) (hver : k'.ver = k.ver) (hro' : k'.ro = false) (hf : ∀ i, i < k.len → k'.f i = if i = idx then splice (k.f i) sub x.cells else k.f i)
    (hflat : k'.flat = true → k.flat = true ∧ x.cells.all (AV.tree 4) = true) :
    EOut P base w c hp (w.setRow oi.blk (cs.toList.take (oi.lo + (idx * oi.es + sub)) ++ u.cells.toList ++ cs.toList.drop (oi.lo + (idx * oi.es + sub) + u.cells.toList.length)).toArray) (c.addO b oi) (hp.setB b k') := by
  have hB := h.blk b k oi hk hO
  obtain ⟨cs', t', hrow', hsz, hone⟩ := hB.row hcap
  rw [hrow] at hrow'
  cases hrow'
  have hul : u.cells.toList.length = x.cells.length := by simpa using hx.size
  have hidx' : idx < oi.cap := by have := hB.n; have := hB.le; omega
  have hfit : oi.lo + (idx * oi.es + sub) + u.cells.toList.length ≤ cs.toList.length := by
    have : (idx + 1) * oi.es ≤ oi.cap * oi.es := Nat.mul_le_mul_right _ hidx'
    rw [Nat.add_mul, Nat.one_mul] at this
    have := hB.es
    rw [hul]
    simp
    omega
  refine set_block h ro hk hO hro hbase rfl rfl rfl (by simp) (fun q _ hq => setRow_other w _ _ _ (by rcases hq with hq | hq; exact hq; exact absurd hq hcap)) (fun _ => .inl ⟨rfl, hcap⟩) ⟨Nat.le_refl _, fun _ => rfl⟩ hro' fun e => ?_
  have hrow2 := setRow_heap w oi.blk cs (cs.toList.take (oi.lo + (idx * oi.es + sub)) ++ u.cells.toList ++ cs.toList.drop (oi.lo + (idx * oi.es + sub) + u.cells.toList.length)).toArray t (0, 0) hrow
  refine ⟨by rw [hB.n, hlen], by rw [hB.es, hes], by rw [hB.ver, hver], hB.le, fun _ => ⟨_, t, hrow2, ?_, ?_⟩, fun i hi => ?_, fun i j y v hi hy hv => ?_⟩
  · simp at hfit ⊢
    omega
  · intro v hv
    exact seg_one hone hx.one v (by simpa using hv)
  · rw [hlen] at hi
    rw [hf i hi, hes]
    split
    · rw [splice_length]; exact hB.el i hi
    · exact hB.el i hi
  · rw [hlen] at hi
    rw [hf i hi] at hy
    have hj : j < oi.es := by
      rw [hB.es, ← hB.el i hi]
      have := (List.getElem?_eq_some_iff.1 hy).1
      split at this
      · rwa [splice_length] at this
      · exact this
    have hv' : (cs.toList.take (oi.lo + (idx * oi.es + sub)) ++ u.cells.toList ++ cs.toList.drop (oi.lo + (idx * oi.es + sub) + u.cells.toList.length))[oi.lo + (i * oi.es + j)]? = some v := by
      have hv2 := hv
      simp only [World.cell?] at hv2
      rw [hrow2] at hv2
      simpa using hv2
    rw [seg_get _ _ _ _ hfit] at hv'
    have hold : ∀ z, (k.f i)[j]? = some z → cs.toList[oi.lo + (i * oi.es + j)]? = some v → VR P w c z v ∧ (k.flat = true → VT P w c.p z v) := fun z hz hcv =>
      hB.rel i j z v hi hz (by simpa [World.cell?, hrow] using hcv)
    split at hv'
    · rename_i hin
      -- the place lies in what is written: then it is the element idx
      have hii : i = idx := by
        rcases Nat.lt_trichotomy i idx with hlt | heq | hgt
        · have : (i + 1) * oi.es ≤ idx * oi.es := Nat.mul_le_mul_right _ hlt
          rw [Nat.add_mul, Nat.one_mul] at this
          omega
        · exact heq
        · have : (idx + 1) * oi.es ≤ i * oi.es := Nat.mul_le_mul_right _ hgt
          rw [Nat.add_mul, Nat.one_mul] at this
          have := hB.es
          omega
      subst hii
      rw [if_pos rfl, splice_get _ _ _ _ (by rw [hB.el i hi, ← hB.es]; exact hj)] at hy
      have hjs : sub ≤ j ∧ j - sub < x.cells.length := by omega
      rw [if_pos hjs] at hy
      have hr := hx.rel _ y hy
      have hvv : u.cells.getD (j - sub) undef = v := by
        have e1 : oi.lo + (i * oi.es + j) - (oi.lo + (i * oi.es + sub)) = j - sub := by omega
        rw [e1] at hv'
        simp at hv'
        simp [hv']
      rw [hvv] at hr
      have hr' := hr.mono e
      exact ⟨hr', fun hfl => VR.toVT 4 (List.all_eq_true.1 (hflat hfl).2 y (List.mem_of_getElem? hy)) hr'⟩
    · rename_i hin
      have hz : (k.f i)[j]? = some y := by
        split at hy
        · rename_i hii
          subst hii
          rw [splice_get _ _ _ _ (by rw [hB.el i hi, ← hB.es]; exact hj), if_neg (by omega)] at hy
          exact hy
        · exact hy
      obtain ⟨h1, h2⟩ := hold y hz hv'
      exact ⟨h1.mono e, fun hfl => (h2 (hflat hfl).1).mono e.p e.pb⟩

theorem eff_store (hT : TOK P T) (h : HR P base w c hp) (ro : RO c hp) (hbase : base ≤ w.heap.size) {t : TypeId} {o : Oper} {a x : Operand} {ρ : Operand → AV} {r : Operand → Value} (hop : o.op = .store t a x)
    (ha : VR P w c (ρ a) (r a)) (hx : VR P w c (ρ x) (r x)) {v : AV} (hev : (opEv T o ρ hp).gives v hp') :
    ∃ w' c', (execOp r o).run P w = .ok .skip w' ∧ EOut P base w c hp w' c' hp' ∧ v = .top := by
  unfold opEv at hev
  rw [hop] at hev
  simp only at hev
  split at hev
  · rename_i ti b ver idx sub ht hra
    split at hev
    · rename_i k hk
      rw [hra] at ha
      cases hb : (Nat.beq (ρ x).cells.length ti.size && !k.ro && (ρ x).storable && Nat.ble (sub + ti.size) k.es) with
      | false => rw [hb] at hev; exact hev.elim
      | true =>
        rw [hb] at hev
        simp only [Bool.and_eq_true, Bool.not_eq_true'] at hb
        obtain ⟨⟨⟨b1, b2⟩, b3⟩, b4⟩ := hb
        have b1 := Nat.eq_of_beq_eq_true b1
        have b4 := Nat.le_of_ble_eq_true b4
        obtain ⟨_, _, _, inf, hinf, hsz, _⟩ := hT _ _ ht
        have hxc := hx.cr b3
        obtain ⟨hkb, hkv⟩ := block_some hk
        obtain ⟨oi, hO, hle, _, hv'⟩ := ha.optr_inv
        have hB := h.blk b k oi hkb hO
        obtain ⟨hidx, hu⟩ := hv' (by rw [hB.ver, hkv])
        have hidx' : idx < k.len := by rw [← hB.n]; exact hidx
        have hcap : oi.cap ≠ 0 := by have := hB.le; omega
        obtain ⟨cs, t', hrow, hszc, hone⟩ := hB.row hcap
        have hrun : (execOp r o).run P w = .ok .skip (w.setRow oi.blk (cs.toList.take (oi.lo + (idx * oi.es + sub)) ++ (r x).cells.toList ++ cs.toList.drop (oi.lo + (idx * oi.es + sub) + (r x).cells.toList.length)).toArray) := by
          have hul : (r x).cells.toList.length = ti.size := by rw [← b1]; simpa using hxc.size
          have hidx2 : idx < oi.cap := by have := hB.le; omega
          have hst := run_storeCells_at P oi.blk (oi.lo + (idx * oi.es + sub)) t' (r x).cells.toList 0 cs w hrow (by
            have : (idx + 1) * oi.es ≤ oi.cap * oi.es := Nat.mul_le_mul_right _ hidx2
            rw [Nat.add_mul, Nat.one_mul] at this
            have := hB.es
            rw [hul]
            omega) hxc.one
          have hne : (r x).cells.size = inf.size := by rw [hxc.size, b1, hsz]
          simp only [Nat.add_zero] at hst
          have e1 : (Instr.storeAt t (r a) (r x)).run P w = (storeCells ⟨oi.blk, oi.lo + (idx * oi.es + sub), none⟩ (r x).cells.toList).run P w := by
            rw [hu]
            simp [Instr.storeAt, Instr.sureAddr, storeVar, sizeOf, typeInfo, hinf, hne]
          unfold execOp
          simp only [hop, Sem.run_bind, e1, hst, Result.andThen_ok, Sem.run_pure]
        simp only [cond_true] at hev
        split at hev
        · rename_i hlen
          obtain ⟨rfl, rfl⟩ := hev
          refine ⟨_, _, hrun, write_row h ro hbase hkb hO b2 hcap hrow hxc hidx' (by rw [b1]; exact b4) rfl rfl rfl b2 (fun i hi => ?_) (fun hf => by simpa using hf), rfl⟩
          have : i = idx := by omega
          have h0 : i = 0 := by omega
          subst h0
          rw [if_pos this]
        · obtain ⟨rfl, rfl⟩ := hev
          refine ⟨_, _, hrun, write_row h ro hbase hkb hO b2 hcap hrow hxc hidx' (by rw [b1]; exact b4) rfl rfl rfl b2 (fun i hi => ?_) (fun hf => by simpa using hf), rfl⟩
          by_cases hi2 : i = idx
          · subst hi2; simp
          · rw [if_neg hi2]
            have : Nat.beq i idx = false := by
              cases hbb : Nat.beq i idx with
              | false => rfl
              | true => exact absurd (Nat.eq_of_beq_eq_true hbb) hi2
            simp [this]
    · exact hev.elim
  · exact hev.elim
end
end Go.Tr

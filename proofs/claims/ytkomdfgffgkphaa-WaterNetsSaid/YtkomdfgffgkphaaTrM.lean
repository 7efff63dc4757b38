/- The built-in append. Conditions: none. -/
import Derived.Test.YtkomdfgffgkphaaTrL
namespace Go.Tr
open Go Go.RowKit

section
variable {P : Program} {T : Nat → Option TI} {w w' : World} {c c' : Cx} {base : Nat} {hp hp' : Hp}

theorem run_grow (t ty e : TypeId) (i : TypeInfo) (z : Value) (ht : P.underlying t = some (.slice e)) (hi : P.info? e = some i) (hz : i.zero = some z)
    {a : Option Addr} {sLen sCap m : Nat} {x : Value} {ax : Option Addr} {kx : Nat} (hx : x = .slice ax m kx) {olds news : Array Value}
    (ho : ∀ w', w'.heap = w.heap → (Builtin.firstCells i.size sLen (.slice a sLen sCap)).run P w' = .ok olds w') (hn : ∀ w', w'.heap = w.heap → (Builtin.firstCells i.size m x).run P w' = .ok news w')
    (hg : sCap < sLen + m) (h63 : sLen + m ≤ 9223372036854775807) (hb : (sLen + m) * i.bytes ≤ 140737488355328) :
    (Builtin.append_ #[t, t] ty #[.slice a sLen sCap, x]).run P w =
      .ok (.slice (some ⟨w.heap.size, 0, none⟩) (sLen + m) (grownCap w (sLen + m) sCap e)) (w.drew.alloc (.cells (olds ++ news ++ Builtin.zeroCells z.cells (grownCap w (sLen + m) sCap e - (sLen + m))) e)) := by
  subst hx
  have hn' : ¬ (sLen + m ≤ sCap) := by omega
  have h63' : ¬ (9223372036854775807 < ((sLen : Int) + (m : Int))) := by omega
  have h48' : ¬ (281474976710656 < Builtin.nextslicecap (sLen + m) sCap * i.bytes) := by have := growslice_fits hg hb; omega
  have h1 := ho w.drew rfl
  have h2 := hn w.drew rfl
  simp [Builtin.append_, Builtin.lenOf, run_underlying ht, sizeOf, typeInfo, hi, hn', h63', h48', Question.forced, h1, h2, zeroValue, hz, newRow, grownCap]

theorem zeroCells_one {z : Array Value} (h : ∀ v ∈ z.toList, v.oneCell' = true) (n : Nat) : ∀ v ∈ (Builtin.zeroCells z n).toList, v.oneCell' = true := by
  intro v hv
  unfold Builtin.zeroCells at hv
  simp at hv
  obtain ⟨i, hi, rfl⟩ := hv
  have hz : 0 < z.size := by rcases Nat.eq_zero_or_pos z.size with h0 | h0 <;> simp_all
  have hlt : i % z.size < z.size := Nat.mod_lt _ hz
  rw [getElem!_pos z (i % z.size) hlt]
  exact h _ (by simp)

/-- The cells of two rows, one behind the other. -/
theorem two_rows {es sLen m : Nat} {fs fx : Nat → List AV} {fl1 fl : Bool} {s x : Value} {olds news rest : Array Value} (hs : Elems P w c es sLen fs fl1 s olds) (hx : Elems P w c es m fx fl x news)
    {i j : Nat} {y : AV} (hi : i < sLen + m) (hy : (if i < sLen then fs i else fx (i - sLen))[j]? = some y) :
    VR P w c y ((olds ++ news ++ rest).getD (i * es + j) undef) ∧ ((fl && fl1) = true → VT P w c.p y ((olds ++ news ++ rest).getD (i * es + j) undef)) := by
  simp only [Array.getD_eq_getD_getElem?]
  by_cases h : i < sLen
  · rw [if_pos h] at hy
    have hj : j < es := by rw [← hs.len i h]; exact (List.getElem?_eq_some_iff.1 hy).1
    have hij : i * es + j < sLen * es := by
      have : (i + 1) * es ≤ sLen * es := Nat.mul_le_mul_right _ h
      rw [Nat.add_mul, Nat.one_mul] at this
      omega
    have hg : (olds ++ news ++ rest)[i * es + j]? = olds[i * es + j]? := by
      rw [Array.append_assoc, Array.getElem?_append_left (by rw [hs.size]; exact hij)]
    rw [hg]
    have := hs.rel i j y h hy
    simp only [Array.getD_eq_getD_getElem?] at this
    exact ⟨this.1, fun hf => this.2 (by simp at hf; exact hf.2)⟩
  · rw [if_neg h] at hy
    have hi' : i - sLen < m := by omega
    have hj : j < es := by rw [← hx.len _ hi']; exact (List.getElem?_eq_some_iff.1 hy).1
    have hij : (i - sLen) * es + j < m * es := by
      have : (i - sLen + 1) * es ≤ m * es := Nat.mul_le_mul_right _ hi'
      rw [Nat.add_mul, Nat.one_mul] at this
      omega
    have hsub : i * es + j - olds.size = (i - sLen) * es + j := by
      rw [hs.size, Nat.sub_mul]
      have : sLen * es ≤ i * es := Nat.mul_le_mul_right _ (by omega)
      omega
    have hge : olds.size ≤ i * es + j := by
      rw [hs.size]
      have : sLen * es ≤ i * es := Nat.mul_le_mul_right _ (by omega)
      omega
    have hg : (olds ++ news ++ rest)[i * es + j]? = news[(i - sLen) * es + j]? := by
      rw [Array.append_assoc, Array.getElem?_append_right hge, hsub, Array.getElem?_append_left (by rw [hx.size]; exact hij)]
    rw [hg]
    have := hx.rel _ j y hi' hy
    simp only [Array.getD_eq_getD_getElem?] at this
    exact ⟨this.1, fun hf => this.2 (by simp at hf; exact hf.1)⟩

/-- What append into new memory leaves: the row, its room. -/
theorem grown_facts (hT : TOK P T) {e : TypeId} {ei : TI} (he : T e = some ei) {sLen m : Nat} {fs fx : Nat → List AV} {fl1 fl : Bool} {s x : Value} {olds news : Array Value}
    (hs : Elems P w c ei.size sLen fs fl1 s olds) (hx : Elems P w c ei.size m fx fl x news) (cap : Nat) (hcap : sLen + m ≤ cap) :
    cap * ei.size ≤ (olds ++ news ++ Builtin.zeroCells ei.zero.cells (cap - (sLen + m))).size ∧ ∀ v ∈ (olds ++ news ++ Builtin.zeroCells ei.zero.cells (cap - (sLen + m))).toList, v.oneCell' = true := by
  obtain ⟨_, hz1, hz2, _⟩ := hT _ _ he
  refine ⟨?_, ?_⟩
  · rw [Array.size_append, Array.size_append, hs.size, hx.size, size_zeroCells, hz1, ← Nat.add_mul, ← Nat.add_mul]
    exact Nat.mul_le_mul_right _ (by omega)
  · intro v hv
    simp only [Array.toList_append, List.mem_append] at hv
    rcases hv with (hv | hv) | hv
    · exact hs.one v hv
    · exact hx.one v hv
    · exact zeroCells_one hz2 _ v hv

theorem elem_len {es sLen m : Nat} {fs fx : Nat → List AV} {fl1 fl : Bool} {s x : Value} {olds news : Array Value}
    (hs : Elems P w c es sLen fs fl1 s olds) (hx : Elems P w c es m fx fl x news) {i : Nat} (hi : i < sLen + m) : (if i < sLen then fs i else fx (i - sLen)).length = es := by
  split
  · rename_i h; exact hs.len i h
  · exact hx.len _ (by omega)

theorem append_new (hT : TOK P T) (h : HR P base w c hp) (hbase : base ≤ w.heap.size) (hfree : c.O hp.blocks.length = none) {t e ty : TypeId} {tt ei : TI} (ht : T t = some tt) (htt : tt.desc = .slice e) (he : T e = some ei)
    {sLen m : Nat} {fs fx : Nat → List AV} {fl1 fl : Bool} {a : Option Addr} {sCap : Nat} {x : Value} {olds news : Array Value}
    (hs : Elems P w c ei.size sLen fs fl1 (.slice a sLen sCap) olds) (hx : Elems P w c ei.size m fx fl x news) (hg : sCap < sLen + m) (hb : (sLen + m) * ei.bytes ≤ 1000000000000) (hl : sLen + m ≤ 9223372036854775807)
    {k : AB} (hkes : k.es = ei.size) (hklen : k.len = sLen + m) (hkver : k.ver = 0) (hkf : ∀ i, i < sLen + m → k.f i = if i < sLen then fs i else fx (i - sLen)) (hkfl : k.flat = true → (fl && fl1) = true) :
    ∃ u w' c', (Builtin.append_ #[t, t] ty #[.slice a sLen sCap, x]).run P w = .ok u w' ∧ QOut P base w c hp w' c' (hp.addB k) ∧ VR P w' c' (.oslice hp.blocks.length 0 0 (sLen + m) none) u := by
  obtain ⟨_, _, _, inf, hinf, hsz, hby, hz⟩ := hT _ _ he
  have hd := (hT _ _ ht).1
  rw [htt] at hd
  obtain ⟨ax, kx, hxs, _⟩ := hx.sl
  have hrun := run_grow (P := P) (w := w) t ty e inf ei.zero hd hinf hz hxs (by rw [hsz]; exact hs.run) (by rw [hsz]; exact hx.run) hg hl (by rw [hby]; omega)
  have hge := grownCap_ge w (sLen + m) sCap e
  obtain ⟨g1, g2⟩ := grown_facts hT he hs hx (grownCap w (sLen + m) sCap e) hge
  have hB : Below w.heap.size w (w.drew.alloc (.cells (olds ++ news ++ Builtin.zeroCells ei.zero.cells (grownCap w (sLen + m) sCap e - (sLen + m))) e)) := ((Below.refl _ _).drew).alloc (by simp) _
  have hnew : (w.drew.alloc (.cells (olds ++ news ++ Builtin.zeroCells ei.zero.cells (grownCap w (sLen + m) sCap e - (sLen + m))) e)).heap[w.heap.size]? = some (.cells (olds ++ news ++ Builtin.zeroCells ei.zero.cells (grownCap w (sLen + m) sCap e - (sLen + m))) e (0, 0)) := heap_alloc_new w.drew _
  refine ⟨_, _, c.addO hp.blocks.length ⟨w.heap.size, 0, grownCap w (sLen + m) sCap e, ei.size, sLen + m, 0⟩, hrun, qout_block h hbase hB hfree (fun _ => ⟨Nat.le_refl _, by simp⟩) fun ex => ?_,
    .oslice _ _ _ _ _ _ _ (addO_self _ _ _) (Nat.le_refl _) rfl fun _ => ⟨by simp, some ⟨w.heap.size, 0, none⟩, grownCap w (sLen + m) sCap e, rfl, hge, by simp, fun _ => by simp, fun cp hcp => by cases hcp⟩⟩
  refine ⟨hklen.symm, hkes.symm, hkver.symm, hge, fun _ => ⟨_, e, hnew, by simpa using g1, g2⟩, fun i hi => ?_, fun i j y v hi hy hv => ?_⟩
  · rw [hklen] at hi; rw [hkf i hi, hkes]; exact elem_len hs hx hi
  · rw [hklen] at hi
    rw [hkf i hi] at hy
    have hr := two_rows (rest := Builtin.zeroCells ei.zero.cells (grownCap w (sLen + m) sCap e - (sLen + m))) hs hx hi hy
    have hv' : v = (olds ++ news ++ Builtin.zeroCells ei.zero.cells (grownCap w (sLen + m) sCap e - (sLen + m))).getD (i * ei.size + j) undef := by
      have hv2 := hv
      simp only [World.cell?] at hv2
      rw [hnew] at hv2
      simp only [Nat.zero_add] at hv2
      rw [if_neg (by simp)] at hv2
      simp only [Array.getD_eq_getD_getElem?]
      rw [hv2]; rfl
    rw [hv']
    exact ⟨hr.1.mono ex, fun hf => (hr.2 (hkfl hf)).mono ex.p ex.pb⟩

/-- Nothing is appended to an empty slice without room: it stays. -/
theorem append_none (hT : TOK P T) (h : HR P base w c hp) (hbase : base ≤ w.heap.size) (hfree : c.O hp.blocks.length = none) {t e ty : TypeId} {tt ei : TI} (ht : T t = some tt) (htt : tt.desc = .slice e) (he : T e = some ei)
    {fx : Nat → List AV} {fl : Bool} {a : Option Addr} {x : Value} {news : Array Value} (hx : Elems P w c ei.size 0 fx fl x news) {k : AB} (hkes : k.es = ei.size) (hklen : k.len = 0) (hkver : k.ver = 0) :
    ∃ u w' c', (Builtin.append_ #[t, t] ty #[.slice a 0 0, x]).run P w = .ok u w' ∧ QOut P base w c hp w' c' (hp.addB k) ∧ VR P w' c' (.oslice hp.blocks.length 0 0 0 none) u := by
  obtain ⟨_, _, _, inf, hinf, hsz, hby, hz⟩ := hT _ _ he
  have hd := (hT _ _ ht).1
  rw [htt] at hd
  obtain ⟨ax, kx, hxs, _⟩ := hx.sl
  have hn := hx.run w rfl
  have hnews : news = #[] := Array.eq_empty_of_size_eq_zero (by rw [hx.size]; simp)
  subst hnews
  rw [← hsz] at hn
  refine ⟨.slice a 0 0, w, c.addO hp.blocks.length ⟨0, 0, 0, ei.size, 0, 0⟩, ?_, qout_block h hbase (Below.refl _ _) hfree (fun hc => absurd rfl hc) fun ex => ?_,
    .oslice _ _ _ _ _ _ _ (addO_self _ _ _) (Nat.le_refl _) rfl fun _ => ⟨by simp, a, 0, rfl, Nat.le_refl _, by simp, fun hc => absurd rfl hc, fun cp hcp => by cases hcp⟩⟩
  · subst hxs
    cases a <;> simp [Builtin.append_, run_underlying hd, sizeOf, typeInfo, hinf, Builtin.lenOf, hn, storeCells]
  · exact ⟨hklen.symm, hkes.symm, hkver.symm, Nat.le_refl _, fun hc => absurd rfl hc, fun i hi => by omega, fun i j y v hi => by omega⟩

/-- Append onto a slice of the call's own, whatever its room. -/
theorem append_own (hT : TOK P T) (h : HR P base w c hp) (ro : RO c hp) (hbase : base ≤ w.heap.size) {t e ty : TypeId} {tt ei : TI} (ht : T t = some tt) (htt : tt.desc = .slice e) (he : T e = some ei)
    {b off len m : Nat} {k k' : AB} {oi : OI} (hk : hp.blocks[b]? = some k) (hO : c.O b = some oi) (hro : k.ro = false) (hkes0 : k.es = ei.size) {a : Option Addr} {k1 : Nat} (hn1 : off + len ≤ oi.n) (hk1 : len ≤ k1) (hk2 : off + k1 ≤ oi.cap)
    (hk3 : k1 ≠ 0 → a = some ⟨oi.blk, oi.lo + off * oi.es, none⟩)
    {fx : Nat → List AV} {fl : Bool} {x : Value} {olds news : Array Value}
    (hs : Elems P w c ei.size len (fun i => k.f (off + i)) k.flat (.slice a len k1) olds) (hx : Elems P w c ei.size m fx fl x news) (hb : (len + m) * ei.bytes ≤ 1000000000000) (hl : len + m ≤ 9223372036854775807)
    (hkes : k'.es = k.es) (hklen : k'.len = len + m) (hkver : k'.ver = k.ver + 1) (hkro : k'.ro = false) (hkf : ∀ i, i < len + m → k'.f i = if i < len then k.f (off + i) else fx (i - len)) (hkfl : k'.flat = true → (fl && k.flat) = true) :
    ∃ u w' c', (Builtin.append_ #[t, t] ty #[.slice a len k1, x]).run P w = .ok u w' ∧ EOut P base w c hp w' c' (hp.setB b k') ∧ VR P w' c' (.oslice b (k.ver + 1) 0 (len + m) none) u := by
  obtain ⟨_, _, _, inf, hinf, hsz, hby, hz⟩ := hT _ _ he
  have hd := (hT _ _ ht).1
  rw [htt] at hd
  have hB0 := h.blk b k oi hk hO
  obtain ⟨ax, kx, hxs, _⟩ := hx.sl
  by_cases hroom : len + m ≤ k1
  · -- in place
    have hn := hx.run w rfl
    rw [← hsz] at hn
    by_cases hk0 : k1 = 0
    · -- no room, nothing appended
      have hm0 : m = 0 := by omega
      have hl0 : len = 0 := by omega
      subst hm0; subst hl0; subst hk0
      have hnews : news = #[] := Array.eq_empty_of_size_eq_zero (by rw [hx.size]; simp)
      subst hnews
      refine ⟨.slice a 0 0, w, c.addO b ⟨0, 0, 0, ei.size, 0, oi.ver + 1⟩, ?_, set_block h ro hk hO hro hbase rfl rfl rfl (Nat.le_refl _) (fun _ _ _ => rfl) (fun hc => absurd rfl hc) ⟨by simp, fun hh => by simp at hh⟩ hkro fun ex => ?_,
        .oslice _ _ _ _ _ _ _ (addO_self _ _ _) (by simp [hB0.ver]) rfl fun _ => ⟨by simp, a, 0, rfl, Nat.le_refl _, by simp, fun hc => absurd rfl hc, fun cp hcp => by cases hcp⟩⟩
      · subst hxs
        cases a <;> simp [Builtin.append_, run_underlying hd, sizeOf, typeInfo, hinf, Builtin.lenOf, hn, storeCells]
      · exact ⟨hklen.symm, by rw [hkes, hkes0], by rw [hkver, hB0.ver], Nat.le_refl _, fun hc => absurd rfl hc, fun i hi => by omega, fun i j y v hi => by omega⟩
    · have ha := hk3 hk0
      have hcap : oi.cap ≠ 0 := by omega
      obtain ⟨cs, t', hrow, hszc, hone⟩ := hB0.row hcap
      have hoes : oi.es = ei.size := by rw [hB0.es, hkes0]
      have hnl : news.toList.length = m * ei.size := by simpa using hx.size
      have hfit : oi.lo + (off + len) * ei.size + news.toList.length ≤ cs.toList.length := by
        have : (off + len + m) * ei.size ≤ oi.cap * ei.size := Nat.mul_le_mul_right _ (by omega)
        rw [Nat.add_mul] at this
        rw [hnl]
        rw [hoes] at hszc
        simp
        omega
      have hst := run_storeCells_at P oi.blk (oi.lo + (off + len) * ei.size) t' news.toList 0 cs w hrow (by simpa using hfit) hx.one
      simp only [Nat.add_zero] at hst
      have hrun : (Builtin.append_ #[t, t] ty #[.slice a len k1, x]).run P w = .ok (.slice a (len + m) k1) (w.setRow oi.blk (cs.toList.take (oi.lo + (off + len) * ei.size) ++ news.toList ++ cs.toList.drop (oi.lo + (off + len) * ei.size + news.toList.length)).toArray) := by
        have hadd : (⟨oi.blk, oi.lo + off * oi.es, none⟩ : Addr).add (len * inf.size) = ⟨oi.blk, oi.lo + (off + len) * ei.size, none⟩ := by
          rw [addr_add, hsz, hoes, Nat.add_mul]; congr 1; omega
        subst hxs
        rw [ha]
        have e1 : (Builtin.append_ #[t, t] ty #[.slice (some ⟨oi.blk, oi.lo + off * oi.es, none⟩) len k1, .slice ax m kx]).run P w = ((storeCells ⟨oi.blk, oi.lo + (off + len) * ei.size, none⟩ news.toList).run P w).andThen fun _ w' => .ok (.slice (some ⟨oi.blk, oi.lo + off * oi.es, none⟩) (len + m) k1) w' := by
          simp [Builtin.append_, run_underlying hd, sizeOf, typeInfo, hinf, Builtin.lenOf, hn, hroom, hadd]
        rw [e1, hst]; rfl
      have hrow2 := setRow_heap w oi.blk cs (cs.toList.take (oi.lo + (off + len) * ei.size) ++ news.toList ++ cs.toList.drop (oi.lo + (off + len) * ei.size + news.toList.length)).toArray t' (0, 0) hrow
      refine ⟨_, _, c.addO b ⟨oi.blk, oi.lo + off * ei.size, k1, ei.size, len + m, oi.ver + 1⟩, hrun,
        set_block h ro hk hO hro hbase rfl rfl rfl (by simp) (fun q _ hq => setRow_other w _ _ _ (by rcases hq with hq | hq; exact hq; exact absurd hq hcap)) (fun _ => .inl ⟨rfl, hcap⟩) ⟨by simp, fun hh => by simp at hh⟩ hkro fun ex => ?_,
        .oslice _ _ _ _ _ _ _ (addO_self _ _ _) (by simp [hB0.ver]) rfl fun _ => ⟨by simp, a, k1, rfl, hroom, by simp, fun _ => by rw [ha, hoes]; simp, fun cp hcp => by cases hcp⟩⟩
      refine ⟨hklen.symm, by rw [hkes, hkes0], by rw [hkver, hB0.ver], hroom, fun _ => ⟨_, t', hrow2, ?_, ?_⟩, fun i hi => ?_, fun i j y v hi hy hv => ?_⟩
      · have : (off + k1) * ei.size ≤ oi.cap * ei.size := Nat.mul_le_mul_right _ hk2
        rw [Nat.add_mul] at this
        rw [hoes] at hszc
        simp at hfit ⊢
        omega
      · intro v hv
        exact seg_one hone hx.one v (by simpa using hv)
      · rw [hklen] at hi; rw [hkf i hi, hkes, hkes0]; exact elem_len hs hx hi
      · rw [hklen] at hi
        rw [hkf i hi] at hy
        have hj : j < ei.size := by rw [← elem_len hs hx hi]; exact (List.getElem?_eq_some_iff.1 hy).1
        have hv2 := hv
        simp only [World.cell?] at hv2
        rw [hrow2] at hv2
        have hv' : (cs.toList.take (oi.lo + (off + len) * ei.size) ++ news.toList ++ cs.toList.drop (oi.lo + (off + len) * ei.size + news.toList.length))[oi.lo + off * ei.size + (i * ei.size + j)]? = some v := by simpa using hv2
        rw [seg_get _ _ _ _ hfit] at hv'
        by_cases hil : i < len
        · rw [if_pos hil] at hy
          have hlt : (i + 1) * ei.size ≤ len * ei.size := Nat.mul_le_mul_right _ hil
          rw [Nat.add_mul, Nat.one_mul] at hlt
          rw [if_neg (by rw [Nat.add_mul]; omega)] at hv'
          have hlen : off + i < k.len := by have := hB0.n; omega
          have hcv : w.cell? ⟨oi.blk, oi.lo + ((off + i) * oi.es + j), none⟩ = some v := by
            rw [hoes, Nat.add_mul, show oi.lo + (off * ei.size + i * ei.size + j) = oi.lo + off * ei.size + (i * ei.size + j) from by omega]
            simpa [World.cell?, hrow] using hv'
          obtain ⟨g1, g2⟩ := hB0.rel (off + i) j y v hlen hy hcv
          exact ⟨g1.mono ex, fun hf => (g2 (by have := hkfl hf; simp at this; exact this.2)).mono ex.p ex.pb⟩
        · rw [if_neg hil] at hy
          have hi' : i - len < m := by omega
          have hlt : (i - len + 1) * ei.size ≤ m * ei.size := Nat.mul_le_mul_right _ hi'
          rw [Nat.add_mul, Nat.one_mul, Nat.sub_mul] at hlt
          have hge : len * ei.size ≤ i * ei.size := Nat.mul_le_mul_right _ (by omega)
          have hidx : oi.lo + off * ei.size + (i * ei.size + j) - (oi.lo + (off + len) * ei.size) = (i - len) * ei.size + j := by rw [Nat.add_mul, Nat.sub_mul]; omega
          rw [if_pos ⟨by rw [Nat.add_mul]; omega, by rw [hidx, hnl, Nat.sub_mul]; omega⟩, hidx] at hv'
          have hr := hx.rel (i - len) j y hi' hy
          have hvv : news.getD ((i - len) * ei.size + j) undef = v := by
            simp at hv'
            simp [hv']
          rw [hvv] at hr
          exact ⟨hr.1.mono ex, fun hf => (hr.2 (by have := hkfl hf; simp at this; exact this.1)).mono ex.p ex.pb⟩
  · -- into new memory
    have hg : k1 < len + m := by omega
    have hrun := run_grow (P := P) (w := w) t ty e inf ei.zero hd hinf hz hxs (by rw [hsz]; exact hs.run) (by rw [hsz]; exact hx.run) hg hl (by rw [hby]; omega)
    have hge := grownCap_ge w (len + m) k1 e
    obtain ⟨g1, g2⟩ := grown_facts hT he hs hx (grownCap w (len + m) k1 e) hge
    have hnew : (w.drew.alloc (.cells (olds ++ news ++ Builtin.zeroCells ei.zero.cells (grownCap w (len + m) k1 e - (len + m))) e)).heap[w.heap.size]? = some (.cells (olds ++ news ++ Builtin.zeroCells ei.zero.cells (grownCap w (len + m) k1 e - (len + m))) e (0, 0)) := heap_alloc_new w.drew _
    refine ⟨_, _, c.addO b ⟨w.heap.size, 0, grownCap w (len + m) k1 e, ei.size, len + m, oi.ver + 1⟩, hrun,
      set_block h ro hk hO hro hbase rfl rfl rfl (by simp) (fun q hq _ => Below.heap_alloc w.drew _ q hq) (fun _ => .inr ⟨Nat.le_refl _, by simp⟩) ⟨by simp, fun hh => by simp at hh⟩ hkro fun ex => ?_,
      .oslice _ _ _ _ _ _ _ (addO_self _ _ _) (by simp [hB0.ver]) rfl fun _ => ⟨by simp, some ⟨w.heap.size, 0, none⟩, grownCap w (len + m) k1 e, rfl, hge, by simp, fun _ => by simp, fun cp hcp => by cases hcp⟩⟩
    refine ⟨hklen.symm, by rw [hkes, hkes0], by rw [hkver, hB0.ver], hge, fun _ => ⟨_, e, hnew, by simpa using g1, g2⟩, fun i hi => ?_, fun i j y v hi hy hv => ?_⟩
    · rw [hklen] at hi; rw [hkf i hi, hkes, hkes0]; exact elem_len hs hx hi
    · rw [hklen] at hi
      rw [hkf i hi] at hy
      have hr := two_rows (rest := Builtin.zeroCells ei.zero.cells (grownCap w (len + m) k1 e - (len + m))) hs hx hi hy
      have hv' : v = (olds ++ news ++ Builtin.zeroCells ei.zero.cells (grownCap w (len + m) k1 e - (len + m))).getD (i * ei.size + j) undef := by
        have hv2 := hv
        simp only [World.cell?] at hv2
        rw [hnew] at hv2
        simp only [Nat.zero_add] at hv2
        rw [if_neg (by simp)] at hv2
        simp only [Array.getD_eq_getD_getElem?]
        rw [hv2]; rfl
      rw [hv']
      exact ⟨hr.1.mono ex, fun hf => (hr.2 (hkfl hf)).mono ex.p ex.pb⟩
end
end Go.Tr

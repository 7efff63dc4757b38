/- New memory: blocks and maps of the call's own; what is kept beside them. Conditions: none. -/
import Derived.Test.YtkomdfgffgkphaaTrE
namespace Go.Tr
open Go Go.RowKit

/-- The same block, perhaps no longer to be written. -/
def ABro (k k' : AB) : Prop := k' = k ∨ k' = { k with ro := true }
def AMro (k k' : AM) : Prop := k' = k ∨ k' = { k with ro := true }
theorem ABro.refl (k : AB) : ABro k k := .inl rfl
theorem AMro.refl (k : AM) : AMro k k := .inl rfl
theorem ABro.trans {a b c : AB} (h : ABro a b) (k : ABro b c) : ABro a c := by
  rcases h with rfl | rfl <;> rcases k with rfl | rfl <;> first | exact .inl rfl | exact .inr rfl
theorem AMro.trans {a b c : AM} (h : AMro a b) (k : AMro b c) : AMro a c := by
  rcases h with rfl | rfl <;> rcases k with rfl | rfl <;> first | exact .inl rfl | exact .inr rfl

/-- The heap h' holds what h holds, and perhaps more. -/
structure HpLe (h h' : Hp) : Prop where
  b : ∀ (i : Nat) (k : AB), h.blocks[i]? = some k → ∃ k', h'.blocks[i]? = some k' ∧ ABro k k'
  m : ∀ (i : Nat) (k : AM), h.maps[i]? = some k → ∃ k', h'.maps[i]? = some k' ∧ AMro k k'
theorem HpLe.refl (h : Hp) : HpLe h h := ⟨fun _ k hk => ⟨k, hk, .refl k⟩, fun _ k hk => ⟨k, hk, .refl k⟩⟩
theorem HpLe.trans {a b c : Hp} (h : HpLe a b) (k : HpLe b c) : HpLe a c :=
  ⟨fun i x hx => by obtain ⟨y, hy, e⟩ := h.b i x hx; obtain ⟨z, hz, e'⟩ := k.b i y hy; exact ⟨z, hz, e.trans e'⟩,
   fun i x hx => by obtain ⟨y, hy, e⟩ := h.m i x hx; obtain ⟨z, hz, e'⟩ := k.m i y hy; exact ⟨z, hz, e.trans e'⟩⟩
theorem HpLe.blen {h h' : Hp} (e : HpLe h h') : h.blocks.length ≤ h'.blocks.length := by
  rcases Nat.eq_zero_or_pos h.blocks.length with h0 | h0
  · omega
  · obtain ⟨k', hk', _⟩ := e.b (h.blocks.length - 1) _ (List.getElem?_eq_getElem (by omega))
    have := (List.getElem?_eq_some_iff.1 hk').1
    omega
theorem HpLe.mlen {h h' : Hp} (e : HpLe h h') : h.maps.length ≤ h'.maps.length := by
  rcases Nat.eq_zero_or_pos h.maps.length with h0 | h0
  · omega
  · obtain ⟨k', hk', _⟩ := e.m (h.maps.length - 1) _ (List.getElem?_eq_getElem (by omega))
    have := (List.getElem?_eq_some_iff.1 hk').1
    omega

/-- What an operation that turns no old memory leaves. -/
structure QOut (P : Program) (base : Nat) (w : World) (c : Cx) (hp : Hp) (w' : World) (c' : Cx) (hp' : Hp) : Prop where
  hr : HR P base w' c' hp'
  ext : Ext w.heap.size w c w' c'
  le : HpLe hp hp'
  oOld : ∀ b oi, c.O b = some oi → c'.O b = some oi
  oNew : ∀ b oi, c'.O b = some oi → c.O b = some oi ∨ (hp.blocks.length ≤ b ∧ b < hp'.blocks.length)
  nNew : ∀ b r, c'.N b = some r → c.N b = some r ∨ (hp.maps.length ≤ b ∧ b < hp'.maps.length)
  ro : ∀ b oi, c'.O b = some oi → oi.cap ≠ 0 → c'.p oi.blk → (c.O b = some oi ∧ c.p oi.blk) ∨ ∃ k, hp'.blocks[b]? = some k ∧ k.ro = true
  rom : ∀ b r, c'.N b = some r → c'.p r → (c.N b = some r ∧ c.p r) ∨ ∃ m, hp'.maps[b]? = some m ∧ m.ro = true
  pN : ∀ b, c'.p b → c.p b ∨ w.heap.size ≤ b ∨ (∃ i oi, c.O i = some oi ∧ oi.cap ≠ 0 ∧ oi.blk = b) ∨ (∃ i, c.N i = some b)
  yE : c'.y = c.y

theorem QOut.roOf {P : Program} {base : Nat} {w : World} {c : Cx} {hp : Hp} {w' : World} {c' : Cx} {hp' : Hp} (q : QOut P base w c hp w' c' hp') (h : RO c hp) : RO c' hp' where
  b := fun b oi h1 h2 h3 => by
    rcases q.ro b oi h1 h2 h3 with ⟨g1, g2⟩ | g
    · obtain ⟨k, hk, hr⟩ := h.b b oi g1 h2 g2
      obtain ⟨k', hk', e⟩ := q.le.b b k hk
      exact ⟨k', hk', by rcases e with rfl | rfl <;> first | exact hr | rfl⟩
    · exact g
  m := fun b r h1 h3 => by
    rcases q.rom b r h1 h3 with ⟨g1, g2⟩ | g
    · obtain ⟨k, hk, hr⟩ := h.m b r g1 g2
      obtain ⟨k', hk', e⟩ := q.le.m b k hk
      exact ⟨k', hk', by rcases e with rfl | rfl <;> first | exact hr | rfl⟩
    · exact g

section
variable {P : Program} {T : Nat → Option TI} {w w' : World} {c c' : Cx} {base : Nat} {hp hp' : Hp}

theorem Ext.low {base' : Nat} (h : Ext base w c w' c') (hb : base' ≤ base) : Ext base' w c w' c' := ⟨h.below.mono hb, h.p, h.pb, h.O, h.N, h.y⟩

theorem BR.mono {k : AB} {oi : OI} {base : Nat} (e : Ext base w c w' c') (h : BR P w c k oi) (hb : oi.cap ≠ 0 → w'.heap[oi.blk]? = w.heap[oi.blk]?) : BR P w' c' k oi where
  n := h.n
  es := h.es
  ver := h.ver
  le := h.le
  row := fun hc => by rw [hb hc]; exact h.row hc
  el := h.el
  rel := fun i j x v hi hx hv => by
    have hcap : oi.cap ≠ 0 := by have := h.n; have := h.le; omega
    rw [World.cell?_of_block (w := w) (a := ⟨oi.blk, _, none⟩) (hb hcap)] at hv
    obtain ⟨h1, h2⟩ := h.rel i j x v hi hx hv
    exact ⟨h1.mono e, fun hf => (h2 hf).mono e.p e.pb⟩

theorem BR.ro {k k' : AB} {oi : OI} (e : ABro k k') (h : BR P w c k oi) : BR P w c k' oi := by
  rcases e with rfl | rfl
  · exact h
  · exact ⟨h.n, h.es, h.ver, h.le, h.row, h.el, h.rel⟩
theorem BR.ro' {k k' : AB} {oi : OI} (e : ABro k k') (h : BR P w c k' oi) : BR P w c k oi := by
  rcases e with rfl | rfl
  · exact h
  · exact ⟨h.n, h.es, h.ver, h.le, h.row, h.el, h.rel⟩

theorem MR.mono {m : AM} {r : Nat} {base : Nat} (e : Ext base w c w' c') (h : MR P w c m r) (hb : w'.heap[r]? = w.heap[r]?) : MR P w' c' m r := by
  obtain ⟨es, clock, h1, h2, h3, h4, h5⟩ := h.ex
  exact ⟨es, clock, hb.trans h1, h2, fun key zv a b d => (h3 key zv a b d).mono e.p e.pb, h4, fun key i v a b => (h5 key i v a b).mono e.p e.pb⟩
theorem MR.ro {k k' : AM} {r : Nat} (e : AMro k k') (h : MR P w c k r) : MR P w c k' r := by
  rcases e with rfl | rfl
  · exact h
  · exact ⟨h.ex⟩
theorem MR.ro' {k k' : AM} {r : Nat} (e : AMro k k') (h : MR P w c k' r) : MR P w c k r := by
  rcases e with rfl | rfl
  · exact h
  · exact ⟨h.ex⟩

/-- Old blocks and maps are kept where no old memory turned. -/
theorem HR.blk_old (h : HR P base w c hp) (e : Ext w.heap.size w c w' c') {b : Nat} {k : AB} {oi : OI} (hk : hp.blocks[b]? = some k) (hO : c.O b = some oi) : BR P w' c' k oi :=
  (h.blk b k oi hk hO).mono e fun hc => e.below.block _ (h.own b oi hO hc).2
theorem HR.map_old (h : HR P base w c hp) (e : Ext w.heap.size w c w' c') {b : Nat} {m : AM} {r : Nat} (hk : hp.maps[b]? = some m) (hO : c.N b = some r) : MR P w' c' m r :=
  (h.maps b m r hk hO).mono e (e.below.block _ (h.mown b r hO).2)

/-- Nothing but the world's draws has turned. -/
theorem qout_same (h : HR P base w c hp) (hw : Below w.heap.size w w') (hs : w'.heap.size = w.heap.size) : QOut P base w c hp w' c hp := by
  have e : Ext w.heap.size w c w' c := ⟨hw, fun _ h => h, fun b hb => hw.block b (h.st b hb), fun _ oi h => ⟨oi, h, Nat.le_refl _, fun _ => rfl⟩, fun _ _ h => h, fun _ _ h => h⟩
  exact ⟨⟨fun b k oi hk hO => h.blk_old e hk hO, h.sep, fun b oi hO hc => by rw [hs]; exact h.own b oi hO hc, fun b hb => by rw [hs]; exact h.st b hb, fun b m r hk hO => h.map_old e hk hO,
    fun b r hO => by rw [hs]; exact h.mown b r hO, h.msep, h.bm⟩, e, .refl _, fun _ _ h => h, fun _ _ h => .inl h, fun _ _ h => .inl h, fun _ _ h1 _ h3 => .inl ⟨h1, h3⟩, fun _ _ h1 h3 => .inl ⟨h1, h3⟩, fun _ h => .inl h, rfl⟩

/-- The stable memory grows by new blocks. -/
theorem qout_stable (h : HR P base w c hp) (hw : Below w.heap.size w w') (q : Nat → Prop) (hq : ∀ b, q b → w.heap.size ≤ b ∧ b < w'.heap.size) : QOut P base w c hp w' { c with p := fun b => c.p b ∨ q b } hp := by
  have e : Ext w.heap.size w c w' { c with p := fun b => c.p b ∨ q b } := ⟨hw, fun _ h => .inl h, fun b hb => hw.block b (h.st b hb), fun _ oi h => ⟨oi, h, Nat.le_refl _, fun _ => rfl⟩, fun _ _ h => h, fun _ _ h => h⟩
  have hs := hw.size
  refine ⟨⟨fun b k oi hk hO => h.blk_old e hk hO, h.sep, fun b oi hO hc => ?_, fun b hb => ?_, fun b m r hk hO => h.map_old e hk hO,
    fun b r hO => ?_, h.msep, h.bm⟩, e, .refl _, fun _ _ h => h, fun _ _ h => .inl h, fun _ _ h => .inl h, fun b oi h1 h2 h3 => .inl ⟨h1, ?_⟩, fun b r h1 h3 => .inl ⟨h1, ?_⟩, fun b hb => hb.imp id fun hb => .inl (hq b hb).1, rfl⟩
  · have := h.own b oi hO hc; omega
  · rcases hb with hb | hb
    · have := h.st b hb; omega
    · exact (hq b hb).2
  · have := h.mown b r hO; omega
  · rcases h3 with h3 | h3
    · exact h3
    · have := h.own b oi h1 h2; have := hq _ h3; omega
  · rcases h3 with h3 | h3
    · exact h3
    · have := h.mown b r h1; have := hq _ h3; omega

theorem getElem?_snoc {α : Type} {l : List α} {x : α} {i : Nat} {y : α} (h : (l ++ [x])[i]? = some y) : (i < l.length ∧ l[i]? = some y) ∨ (i = l.length ∧ y = x) := by
  rcases Nat.lt_trichotomy i l.length with hi | hi | hi
  · rw [List.getElem?_append_left hi] at h; exact .inl ⟨hi, h⟩
  · subst hi; simp at h; exact .inr ⟨rfl, h.symm⟩
  · rw [List.getElem?_eq_none (by simp; omega)] at h; cases h

/-- A new block of the call's own. -/
def Cx.addO (c : Cx) (n : Nat) (oi : OI) : Cx := { c with O := fun b => if b = n then some oi else c.O b }

theorem qout_block (h : HR P base w c hp) (hbase : base ≤ w.heap.size) (hw : Below w.heap.size w w') (hfree : c.O hp.blocks.length = none) {k : AB} {oi : OI}
    (hlt : oi.cap ≠ 0 → w.heap.size ≤ oi.blk ∧ oi.blk < w'.heap.size)
    (hk : Ext w.heap.size w c w' (c.addO hp.blocks.length oi) → BR P w' (c.addO hp.blocks.length oi) k oi) : QOut P base w c hp w' (c.addO hp.blocks.length oi) (hp.addB k) := by
  have e : Ext w.heap.size w c w' (c.addO hp.blocks.length oi) := ⟨hw, fun _ h => h, fun b hb => hw.block b (h.st b hb), fun b oi' hb => ⟨oi', by
    simp only [Cx.addO]; rw [if_neg (fun e => by rw [e, hfree] at hb; cases hb)]; exact hb, Nat.le_refl _, fun _ => rfl⟩, fun _ _ h => h, fun _ _ h => h⟩
  have hs := hw.size
  have hcase : ∀ b oi', (c.addO hp.blocks.length oi).O b = some oi' → (b = hp.blocks.length ∧ oi' = oi) ∨ (b ≠ hp.blocks.length ∧ c.O b = some oi') := fun b oi' hb => by
    simp only [Cx.addO] at hb
    by_cases hbn : b = hp.blocks.length
    · rw [if_pos hbn] at hb; exact .inl ⟨hbn, (Option.some.inj hb).symm⟩
    · rw [if_neg hbn] at hb; exact .inr ⟨hbn, hb⟩
  have hlen : (hp.addB k).blocks.length = hp.blocks.length + 1 := by simp [Hp.addB]
  refine ⟨⟨fun b k' oi' hk' hO => ?_, fun b b' o1 o2 h1 h2 hne => ?_, fun b oi' hO hc => ?_, fun b hb => by have := h.st b hb; omega, fun b m r hk hO => h.map_old e hk hO, fun b r hO => ?_, h.msep, fun b i oi' r hO hc hN => ?_⟩, e,
    ⟨fun i x hx => ⟨x, ?_, .refl _⟩, fun i x hx => ⟨x, hx, .refl _⟩⟩, fun b oi' hb => ?_, fun b oi' hb => ?_, fun _ _ h => .inl h, fun b oi' h1 h2 h3 => ?_, fun b r h1 h3 => .inl ⟨h1, h3⟩, fun _ h => .inl h, rfl⟩
  · rcases hcase b oi' hO with ⟨rfl, rfl⟩ | ⟨hne, hO'⟩
    · rcases getElem?_snoc hk' with ⟨hlt', _⟩ | ⟨_, rfl⟩
      · omega
      · exact hk e
    · rcases getElem?_snoc hk' with ⟨_, hk''⟩ | ⟨he, _⟩
      · exact h.blk_old e hk'' hO'
      · exact absurd he hne
  · rcases hcase b o1 h1 with ⟨rfl, rfl⟩ | ⟨hne1, hO1⟩ <;> rcases hcase b' o2 h2 with ⟨rfl, rfl⟩ | ⟨hne2, hO2⟩
    · exact absurd rfl hne
    · by_cases hc : o1.cap = 0
      · exact .inr (.inl hc)
      · by_cases hc2 : o2.cap = 0
        · exact .inr (.inr hc2)
        · have := hlt hc; have := h.own b' o2 hO2 hc2; exact .inl (by omega)
    · by_cases hc : o2.cap = 0
      · exact .inr (.inr hc)
      · by_cases hc2 : o1.cap = 0
        · exact .inr (.inl hc2)
        · have := hlt hc; have := h.own b o1 hO1 hc2; exact .inl (by omega)
    · exact h.sep b b' o1 o2 hO1 hO2 hne
  · rcases hcase b oi' hO with ⟨rfl, rfl⟩ | ⟨_, hO'⟩
    · have := hlt hc; omega
    · have := h.own b oi' hO' hc; omega
  · have := h.mown b r hO; omega
  · rcases hcase b oi' hO with ⟨rfl, rfl⟩ | ⟨_, hO'⟩
    · have := hlt hc; have := h.mown i r hN; omega
    · exact h.bm b i oi' r hO' hc hN
  · show (hp.blocks ++ [k])[i]? = some x
    rw [List.getElem?_append_left (List.getElem?_eq_some_iff.1 hx).1]; exact hx
  · obtain ⟨o1, g1, _, g2⟩ := e.O b oi' hb
    simp only [Cx.addO]; rw [if_neg (fun e => by rw [e, hfree] at hb; cases hb)]; exact hb
  · rcases hcase b oi' hb with ⟨rfl, rfl⟩ | ⟨_, hO'⟩
    · exact .inr ⟨Nat.le_refl _, by omega⟩
    · exact .inl hO'
  · rcases hcase b oi' h1 with ⟨rfl, rfl⟩ | ⟨_, hO'⟩
    · have := hlt h2; have := h.st _ h3; omega
    · exact .inl ⟨hO', h3⟩

theorem below_alloc (w : World) (o : Obj) : Below w.heap.size w (w.alloc o) := (Below.refl _ _).alloc (Nat.le_refl _) o
end
end Go.Tr

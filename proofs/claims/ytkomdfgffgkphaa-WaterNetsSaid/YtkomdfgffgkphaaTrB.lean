/- What the abstract values say of a world, and that it is kept where memory is. Conditions: none. -/
import Derived.Test.YtkomdfgffgkphaaTrA
namespace Go.Tr
open Go Go.RowKit

theorem nth?_eq {α : Type} : ∀ (l : List α) (i : Nat), nth? l i = l[i]?
  | [], i => by simp [nth?]
  | x :: r, 0 => by simp [nth?]
  | x :: r, n + 1 => by simp [nth?, nth?_eq r n]

theorem setNth_eq {α : Type} : ∀ (l : List α) (i : Nat) (x : α), setNth l i x = l.set i x
  | [], i, x => by simp [setNth]
  | y :: r, 0, x => by simp [setNth]
  | y :: r, n + 1, x => by simp [setNth, setNth_eq r n]

structure OI where
  blk : Nat
  lo : Nat
  cap : Nat
  es : Nat
  n : Nat
  ver : Nat

structure Cx where
  p : Nat → Prop
  O : Nat → Option OI
  N : Nat → Option Nat
  y : Nat → Option Nat

/-- Are the keys of this kind: 'none' strings, else ints? -/
def keyOk : Option IntKind → Value → Prop
  | none, .string _ => True
  | some k, .int k' _ => k = k'
  | _, _ => False

def kindOf : Option IntKind → TypeDesc
  | none => .string
  | some k => .int k

/-- The zero value of a type. -/
def zeroOf (P : Program) (t : TypeId) : Option Value := (P.info? t).bind (·.zero)

inductive VT (P : Program) (w : World) (p : Nat → Prop) : AV → Value → Prop
  | top (v : Value) : VT P w p .top v
  | val (v : Value) : VT P w p (.val v) v
  | agg (l : List AV) (vs : Array Value) : vs.size = l.length → (∀ v ∈ vs.toList, v.oneCell' = true) → (∀ i x, l[i]? = some x → VT P w p x (vs.getD i undef)) → VT P w p (.agg l) (.agg vs)
  | tuple (l : List AV) (vs : Array Value) : vs.size = l.length → (∀ i x, l[i]? = some x → VT P w p x (vs.getD i undef)) → VT P w p (.tuple l) (.tuple vs)
  | func (fn : Fn) (nf : Nat) (l : List AV) (f0 vs : Array Value) : f0.size = nf → (f0 ++ vs).size = l.length → (∀ i x, l[i]? = some x → VT P w p x ((f0 ++ vs).getD i undef)) → VT P w p (.func fn nf l) (.func fn f0 vs)
  | eslice (a : Option Addr) : VT P w p .eslice (.slice a 0 0)
  | rslice0 (es : Nat) (f : Nat → List AV) (a : Option Addr) (k : Nat) : VT P w p (.rslice es 0 f) (.slice a 0 k)
  | rslice (es len : Nat) (f : Nat → List AV) (b off k : Nat) (g : Nat → Nat → Value) : len ≤ k → p b → (∀ i, i < len → (f i).length = es) →
      (∀ i j, i < len → j < es → w.cell? ⟨b, off + (i * es + j), none⟩ = some (g i j) ∧ (g i j).oneCell' = true) →
      (∀ i j x, i < len → (f i)[j]? = some x → VT P w p x (g i j)) → VT P w p (.rslice es len f) (.slice (some ⟨b, off, none⟩) len k)
  | cslice0 (es c : Nat) (f : Nat → List AV) (a : Option Addr) : VT P w p (.cslice es 0 c f) (.slice a 0 c)
  | cslice (es len c : Nat) (f : Nat → List AV) (b off : Nat) (g : Nat → Nat → Value) : len ≤ c → p b → (∀ i, i < len → (f i).length = es) →
      (∀ i j, i < len → j < es → w.cell? ⟨b, off + (i * es + j), none⟩ = some (g i j) ∧ (g i j).oneCell' = true) →
      (∀ i j x, i < len → (f i)[j]? = some x → VT P w p x (g i j)) → VT P w p (.cslice es len c f) (.slice (some ⟨b, off, none⟩) len c)
  | rptr (l : List AV) (b off : Nat) (g : Nat → Value) : p b → (∀ j, j < l.length → w.cell? ⟨b, off + j, none⟩ = some (g j) ∧ (g j).oneCell' = true) →
      (∀ j x, l[j]? = some x → VT P w p x (g j)) → VT P w p (.rptr l) (.pointer (some ⟨b, off, none⟩))
  | rmap (ki : Option IntKind) (et : TypeId) (has : Value → Bool) (get : Value → AV) (r : Nat) (es : Array MapEntry) (clock : Nat) : p r → w.heap[r]? = some (.map es clock) →
      (∀ key, keyOk ki key → ∃ o, Instr.findNow (kindOf ki) key es.toList 0 = some o ∧ (has key = o.isSome)) →
      (∀ key zv, keyOk ki key → has key = false → zeroOf P et = some zv → VT P w p (get key) zv) →
      (∀ key i v, keyOk ki key → Instr.findNow (kindOf ki) key es.toList 0 = some (some (i, v)) → VT P w p (get key) v) → VT P w p (.rmap ki et has get) (.map (some r))

inductive VR (P : Program) (w : World) (c : Cx) : AV → Value → Prop
  | tree {x : AV} {v : Value} : VT P w c.p x v → VR P w c x v
  | agg (l : List AV) (vs : Array Value) : vs.size = l.length → (∀ v ∈ vs.toList, v.oneCell' = true) → (∀ i x, l[i]? = some x → VR P w c x (vs.getD i undef)) → VR P w c (.agg l) (.agg vs)
  | tuple (l : List AV) (vs : Array Value) : vs.size = l.length → (∀ i x, l[i]? = some x → VR P w c x (vs.getD i undef)) → VR P w c (.tuple l) (.tuple vs)
  | func (fn : Fn) (nf : Nat) (l : List AV) (f0 vs : Array Value) : f0.size = nf → (f0 ++ vs).size = l.length → (∀ i x, l[i]? = some x → VR P w c x ((f0 ++ vs).getD i undef)) → VR P w c (.func fn nf l) (.func fn f0 vs)
  | optr (b ver idx sub : Nat) (v : Value) (oi : OI) : c.O b = some oi → ver ≤ oi.ver → v.oneCell' = true →
      (oi.ver = ver → idx < oi.n ∧ v = .pointer (some ⟨oi.blk, oi.lo + (idx * oi.es + sub), none⟩)) → VR P w c (.optr b ver idx sub) v
  | oslice (b ver off len : Nat) (cap : Option Nat) (v : Value) (oi : OI) : c.O b = some oi → ver ≤ oi.ver → v.oneCell' = true →
      (oi.ver = ver → off + len ≤ oi.n ∧ ∃ a k, v = .slice a len k ∧ len ≤ k ∧ off + k ≤ oi.cap ∧ (k ≠ 0 → a = some ⟨oi.blk, oi.lo + off * oi.es, none⟩) ∧ (∀ cp, cap = some cp → k = cp)) →
      VR P w c (.oslice b ver off len cap) v
  | omap (b r : Nat) : c.N b = some r → VR P w c (.omap b) (.map (some r))
  | yld (i l : Nat) : c.y i = some l → VR P w c (.yld i) (.func (.yield l) #[] #[])

theorem VT.mono {P : Program} {w w' : World} {p p' : Nat → Prop} (hp : ∀ b, p b → p' b) (hb : ∀ b, p b → w'.heap[b]? = w.heap[b]?) {x : AV} {v : Value} (h : VT P w p x v) : VT P w' p' x v := by
  have hc : ∀ b o, p b → w'.cell? ⟨b, o, none⟩ = w.cell? ⟨b, o, none⟩ := fun b o h => World.cell?_of_block (a := ⟨b, o, none⟩) (hb b h)
  induction h with
  | top v => exact .top v
  | val v => exact .val v
  | agg l vs hs ho _ ih => exact .agg l vs hs ho ih
  | tuple l vs hs _ ih => exact .tuple l vs hs ih
  | func fn nf l f0 vs h0 hs _ ih => exact .func fn nf l f0 vs h0 hs ih
  | eslice a => exact .eslice a
  | rslice0 es f a k => exact .rslice0 es f a k
  | rslice es len f b off k g hk hpb hl hcell _ ih =>
    exact .rslice es len f b off k g hk (hp b hpb) hl (fun i j hi hj => by rw [hc b _ hpb]; exact hcell i j hi hj) ih
  | cslice0 es c f a => exact .cslice0 es c f a
  | cslice es len c f b off g hk hpb hl hcell _ ih =>
    exact .cslice es len c f b off g hk (hp b hpb) hl (fun i j hi hj => by rw [hc b _ hpb]; exact hcell i j hi hj) ih
  | rptr l b off g hpb hcell _ ih => exact .rptr l b off g (hp b hpb) (fun j hj => by rw [hc b _ hpb]; exact hcell j hj) ih
  | rmap ki et has get r es clock hpr hr hk _ _ ih0 ih => exact .rmap ki et has get r es clock (hp r hpr) ((hb r hpr).trans hr) hk ih0 ih

structure Ext (base : Nat) (w : World) (c : Cx) (w' : World) (c' : Cx) : Prop where
  below : Below base w w'
  p : ∀ b, c.p b → c'.p b
  pb : ∀ b, c.p b → w'.heap[b]? = w.heap[b]?
  O : ∀ b oi, c.O b = some oi → ∃ oi', c'.O b = some oi' ∧ oi.ver ≤ oi'.ver ∧ (oi'.ver = oi.ver → oi' = oi)
  N : ∀ b r, c.N b = some r → c'.N b = some r
  y : ∀ i l, c.y i = some l → c'.y i = some l

theorem Ext.refl (base : Nat) (w : World) (c : Cx) : Ext base w c w c :=
  ⟨Below.refl _ _, fun _ h => h, fun _ _ => rfl, fun _ oi h => ⟨oi, h, Nat.le_refl _, fun _ => rfl⟩, fun _ _ h => h, fun _ _ h => h⟩

theorem Ext.trans {base : Nat} {w w' w'' : World} {c c' c'' : Cx} (h : Ext base w c w' c') (k : Ext base w' c' w'' c'') : Ext base w c w'' c'' where
  below := h.below.trans k.below
  p := fun b hb => k.p b (h.p b hb)
  pb := fun b hb => (k.pb b (h.p b hb)).trans (h.pb b hb)
  O := fun b oi hb => by
    obtain ⟨o1, h1, l1, e1⟩ := h.O b oi hb
    obtain ⟨o2, h2, l2, e2⟩ := k.O b o1 h1
    exact ⟨o2, h2, Nat.le_trans l1 l2, fun e => by
      have : o1.ver = oi.ver := by omega
      rw [e2 (by omega), e1 this]⟩
  N := fun b r hb => k.N b r (h.N b r hb)
  y := fun b r hb => k.y b r (h.y b r hb)

theorem VR.mono {P : Program} {base : Nat} {w w' : World} {c c' : Cx} (e : Ext base w c w' c') {x : AV} {v : Value} (h : VR P w c x v) : VR P w' c' x v := by
  induction h with
  | tree h => exact .tree (h.mono e.p e.pb)
  | agg l vs hs ho _ ih => exact .agg l vs hs ho ih
  | tuple l vs hs _ ih => exact .tuple l vs hs ih
  | func fn nf l f0 vs h0 hs _ ih => exact .func fn nf l f0 vs h0 hs ih
  | optr b ver idx sub v oi hO hle h1c hv =>
    obtain ⟨o1, h1, l1, e1⟩ := e.O b oi hO
    exact .optr b ver idx sub v o1 h1 (by omega) h1c (fun hh => by
      have : o1 = oi := e1 (by omega)
      subst this; exact hv hh)
  | oslice b ver off len cap v oi hO hle h1c hv =>
    obtain ⟨o1, h1, l1, e1⟩ := e.O b oi hO
    exact .oslice b ver off len cap v o1 h1 (by omega) h1c (fun hh => by
      have : o1 = oi := e1 (by omega)
      subst this; exact hv hh)
  | omap b r hN => exact .omap b r (e.N b r hN)
  | yld i l hy => exact .yld i l (e.y i l hy)

/-- What is known of a block of the call's own. -/
structure BR (P : Program) (w : World) (c : Cx) (k : AB) (oi : OI) : Prop where
  n : oi.n = k.len
  es : oi.es = k.es
  ver : oi.ver = k.ver
  le : oi.n ≤ oi.cap
  row : oi.cap ≠ 0 → ∃ cs t, w.heap[oi.blk]? = some (.cells cs t (0, 0)) ∧ oi.lo + oi.cap * oi.es ≤ cs.size ∧ ∀ v ∈ cs.toList, v.oneCell' = true
  el : ∀ i, i < k.len → (k.f i).length = k.es
  rel : ∀ i j x v, i < k.len → (k.f i)[j]? = some x → w.cell? ⟨oi.blk, oi.lo + (i * oi.es + j), none⟩ = some v → VR P w c x v ∧ (k.flat = true → VT P w c.p x v)

structure MR (P : Program) (w : World) (c : Cx) (m : AM) (r : Nat) : Prop where
  ex : ∃ es clock, w.heap[r]? = some (.map es clock) ∧
    (∀ key, keyOk m.ki key → ∃ o, Instr.findNow (kindOf m.ki) key es.toList 0 = some o ∧ (m.has key = o.isSome)) ∧
    (∀ key zv, keyOk m.ki key → m.has key = false → zeroOf P m.et = some zv → VT P w c.p (m.get key) zv) ∧
    (∀ e ∈ es.toList, keyOk m.ki e.key) ∧
    (∀ key i v, keyOk m.ki key → Instr.findNow (kindOf m.ki) key es.toList 0 = some (some (i, v)) → VT P w c.p (m.get key) v)

structure HR (P : Program) (base : Nat) (w : World) (c : Cx) (h : Hp) : Prop where
  blk : ∀ b k oi, h.blocks[b]? = some k → c.O b = some oi → BR P w c k oi
  sep : ∀ b b' oi oi', c.O b = some oi → c.O b' = some oi' → b ≠ b' → oi.blk ≠ oi'.blk ∨ oi.cap = 0 ∨ oi'.cap = 0
  own : ∀ b oi, c.O b = some oi → oi.cap ≠ 0 → base ≤ oi.blk ∧ oi.blk < w.heap.size
  st : ∀ b, c.p b → b < w.heap.size
  maps : ∀ b m r, h.maps[b]? = some m → c.N b = some r → MR P w c m r
  mown : ∀ b r, c.N b = some r → base ≤ r ∧ r < w.heap.size
  msep : ∀ b b' r, c.N b = some r → c.N b' = some r → b = b'
  bm : ∀ b i oi r, c.O b = some oi → oi.cap ≠ 0 → c.N i = some r → oi.blk ≠ r

/-- What is written is not among what is never written. -/
structure RO (c : Cx) (h : Hp) : Prop where
  b : ∀ b oi, c.O b = some oi → oi.cap ≠ 0 → c.p oi.blk → ∃ k, h.blocks[b]? = some k ∧ k.ro = true
  m : ∀ b r, c.N b = some r → c.p r → ∃ m, h.maps[b]? = some m ∧ m.ro = true
end Go.Tr

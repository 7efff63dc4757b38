/- States that say less; loops. Conditions: none. -/
import Derived.Test.YtkomdfgffgkphaaTrR
namespace Go.Tr
open Go Go.RowKit

section
variable {P : Program} {T : Nat → Option TI} {F : Fr} {w0 w : World} {q : Nat → Prop} {s s' : St} {a : Act} {c : Cx}

theorem BLe_len : ∀ {l l' : List AB}, BLe l l' → l'.length = l.length
  | [], [], _ => rfl
  | [], _ :: _, h => h.elim
  | _ :: _, [], h => h.elim
  | _ :: _, _ :: _, h => by simp [BLe_len h.2]
theorem BLe_get : ∀ {l l' : List AB} {i : Nat} {k' : AB}, BLe l l' → l'[i]? = some k' → ∃ k, l[i]? = some k ∧ k'.es = k.es ∧ k'.len = k.len ∧ k'.ver = k.ver ∧ k'.ro = k.ro ∧ (k'.flat = true → k.flat = true) ∧ ∀ i, i < k.len → k'.f i = k.f i
  | [], [], _, _, _, h2 => by simp at h2
  | [], _ :: _, _, _, h, _ => h.elim
  | _ :: _, [], _, _, h, _ => h.elim
  | k :: l, k2 :: l', 0, k', h, h2 => by simp at h2; subst h2; exact ⟨k, rfl, h.1⟩
  | k :: l, k2 :: l', i + 1, k', h, h2 => by
    obtain ⟨x, hx, hr⟩ := BLe_get (l := l) (l' := l') (i := i) (k' := k') h.2 (by simpa using h2)
    exact ⟨x, by simpa using hx, hr⟩
theorem BLe_get' : ∀ {l l' : List AB} {i : Nat} {k : AB}, BLe l l' → l[i]? = some k → ∃ k', l'[i]? = some k' ∧ k'.ro = k.ro
  | [], [], _, _, _, h2 => by simp at h2
  | [], _ :: _, _, _, h, _ => h.elim
  | _ :: _, [], _, _, h, _ => h.elim
  | k :: l, k2 :: l', 0, k', h, h2 => by simp at h2; subst h2; exact ⟨k2, rfl, h.1.2.2.2.1⟩
  | k :: l, k2 :: l', i + 1, k', h, h2 => by
    obtain ⟨x, hx, hr⟩ := BLe_get' (l := l) (l' := l') (i := i) (k := k') h.2 (by simpa using h2)
    exact ⟨x, by simpa using hx, hr⟩
theorem MLe_len : ∀ {l l' : List AM}, MLe l l' → l'.length = l.length
  | [], [], _ => rfl
  | [], _ :: _, h => h.elim
  | _ :: _, [], h => h.elim
  | _ :: _, _ :: _, h => by simp [MLe_len h.2]
theorem MLe_get : ∀ {l l' : List AM} {i : Nat} {k' : AM}, MLe l l' → l'[i]? = some k' → ∃ k, l[i]? = some k ∧ k'.ro = k.ro ∧ k'.ki = k.ki ∧ k'.et = k.et ∧ ∀ x, k'.has x = k.has x ∧ k'.get x = k.get x
  | [], [], _, _, _, h2 => by simp at h2
  | [], _ :: _, _, _, h, _ => h.elim
  | _ :: _, [], _, _, h, _ => h.elim
  | k :: l, k2 :: l', 0, k', h, h2 => by simp at h2; subst h2; exact ⟨k, rfl, h.1⟩
  | k :: l, k2 :: l', i + 1, k', h, h2 => by
    obtain ⟨x, hx, hr⟩ := MLe_get (l := l) (l' := l') (i := i) (k' := k') h.2 (by simpa using h2)
    exact ⟨x, by simpa using hx, hr⟩
theorem MLe_get' : ∀ {l l' : List AM} {i : Nat} {k : AM}, MLe l l' → l[i]? = some k → ∃ k', l'[i]? = some k' ∧ k'.ro = k.ro
  | [], [], _, _, _, h2 => by simp at h2
  | [], _ :: _, _, _, h, _ => h.elim
  | _ :: _, [], _, _, h, _ => h.elim
  | k :: l, k2 :: l', 0, k', h, h2 => by simp at h2; subst h2; exact ⟨k2, rfl, h.1.1⟩
  | k :: l, k2 :: l', i + 1, k', h, h2 => by
    obtain ⟨x, hx, hr⟩ := MLe_get' (l := l) (l' := l') (i := i) (k := k') h.2 (by simpa using h2)
    exact ⟨x, by simpa using hx, hr⟩

theorem SR.weak (h : SR P F w0 q s a w c) (hw : Weak s s') : SR P F w0 q s' a w c where
  hr := by
    refine ⟨fun b k' oi hk hO => ?_, h.hr.sep, h.hr.own, h.hr.st, fun b m' r hm hN => ?_, h.hr.mown, h.hr.msep, h.hr.bm⟩
    · obtain ⟨k, hk0, e1, e2, e3, e4, e5, e6⟩ := BLe_get hw.blocks hk
      have hB := h.hr.blk b k oi hk0 hO
      exact ⟨by rw [hB.n, e2], by rw [hB.es, e1], by rw [hB.ver, e3], hB.le, hB.row, fun i hi => by rw [e2] at hi; rw [e6 i hi, e1]; exact hB.el i hi, fun i j x v hi hx hv => by
        rw [e2] at hi; rw [e6 i hi] at hx
        obtain ⟨g1, g2⟩ := hB.rel i j x v hi hx hv
        exact ⟨g1, fun hf => g2 (e5 hf)⟩⟩
    · obtain ⟨m, hm0, e1, e2, e3, e4⟩ := MLe_get hw.maps hm
      obtain ⟨es, clock, g1, g2, g3, g4, g5⟩ := (h.hr.maps b m r hm0 hN).ex
      rw [← e2] at g2 g3 g4 g5
      exact ⟨es, clock, g1, fun key hk => by obtain ⟨o, p1, p2⟩ := g2 key hk; exact ⟨o, p1, by rw [(e4 key).1]; exact p2⟩, fun key zv hk hh hz => by rw [(e4 key).2]; rw [(e4 key).1] at hh; rw [e3] at hz; exact g3 key zv hk hh hz, g4,
        fun key i v hk hf => by rw [(e4 key).2]; exact g5 key i v hk hf⟩
  ro := ⟨fun b oi hO hc hp => by obtain ⟨k, hk, hr⟩ := h.ro.b b oi hO hc hp; obtain ⟨k', g1, g2⟩ := BLe_get' hw.blocks hk; exact ⟨k', g1, by rw [g2, hr]⟩,
    fun b r hN hp => by obtain ⟨k, hk, hr⟩ := h.ro.m b r hN hp; obtain ⟨k', g1, g2⟩ := MLe_get' hw.maps hk; exact ⟨k', g1, by rw [g2, hr]⟩⟩
  tm := fun t => by rw [hw.tm.1]; exact h.tm t
  sv := fun t => by rw [hw.tm.2.1]; exact h.sv t
  hy := fun i l hl => by rw [hw.tm.2.2.2]; exact h.hy i l hl
  keep := h.keep
  rcd := fun i l rc hrc => by rw [hw.tm.2.2.1]; exact h.rcd i l rc hrc
  hi := fun b oi hb => by rw [BLe_len hw.blocks]; exact h.hi b oi hb
  hiM := fun b r hb => by rw [MLe_len hw.maps]; exact h.hiM b r hb
  size := h.size
  defers := h.defers
  below := h.below
  pq := h.pq

/-- What is known under forgotten versions. -/
def canonCx (c : Cx) (nb nm ny : Nat) : Cx :=
  { p := c.p, O := fun b => if b < nb then (match c.O b with | some oi => some { oi with ver := 0 } | none => none) else none, N := fun b => if b < nm then c.N b else none, y := fun i => if i < ny then c.y i else none }

theorem canonAV_ok {base : Nat} {hp : Hp} (h : HR P base w c hp) (nb nm ny : Nat) : ∀ (k : Nat) {x : AV} {v : Value}, VR P w c x v → VR P w (canonCx c nb nm ny) (canonAV hp nb nm ny k x) v
  | 0, x, v, _ => by simp only [canonAV]; exact .tree (.top v)
  | k + 1, x, v, hx => by
    have list : ∀ (l : List AV) (vs : Array Value), (∀ i x, l[i]? = some x → VR P w c x (vs.getD i undef)) → ∀ i x, (l.map (canonAV hp nb nm ny k))[i]? = some x → VR P w (canonCx c nb nm ny) x (vs.getD i undef) := by
      intro l vs hr i x hi
      rw [List.getElem?_map] at hi
      cases hl : l[i]? with
      | none => rw [hl] at hi; cases hi
      | some y =>
        rw [hl] at hi
        simp only [Option.map_some, Option.some.injEq] at hi
        subst hi
        exact canonAV_ok h nb nm ny k (hr i y hl)
    cases x with
    | top => simp only [canonAV]; exact .tree (.top v)
    | val u => simp only [canonAV]; cases hx with | tree hx => exact .tree hx
    | eslice => simp only [canonAV]; cases hx with | tree hx => exact .tree hx
    | rslice es len f => simp only [canonAV]; cases hx with | tree hx => exact .tree hx
    | cslice es len cc f => simp only [canonAV]; cases hx with | tree hx => exact .tree hx
    | rptr l => simp only [canonAV]; cases hx with | tree hx => exact .tree hx
    | rmap ki et has get => simp only [canonAV]; cases hx with | tree hx => exact .tree hx
    | agg l =>
      obtain ⟨vs, rfl, hs, ho, hr⟩ := hx.agg_inv
      simp only [canonAV]
      exact .agg _ vs (by simp [hs]) ho (list l vs hr)
    | tuple l =>
      obtain ⟨vs, rfl, hs, hr⟩ := hx.tuple_inv
      simp only [canonAV]
      exact .tuple _ vs (by simp [hs]) (list l vs hr)
    | func fn nf l =>
      obtain ⟨f0, vs, rfl, h0, hs, hr⟩ := hx.func_inv
      simp only [canonAV]
      exact .func fn nf _ f0 vs h0 (by rw [hs]; simp) (list l (f0 ++ vs) hr)
    | yld i =>
      simp only [canonAV]
      cases hb : Nat.blt i ny with
      | false => exact .tree (.top _)
      | true =>
        cases hx with
        | tree hx => cases hx
        | yld _ l hl => exact .yld i l (by simp only [canonCx]; rw [if_pos (show i < ny from Nat.le_of_ble_eq_true hb)]; exact hl)
    | omap b =>
      obtain ⟨r, rfl, hN⟩ := hx.omap_inv
      simp only [canonAV]
      cases hb : Nat.blt b nm with
      | false => exact .tree (.top _)
      | true => exact .omap b r (by simp only [canonCx]; rw [if_pos (show b < nm from Nat.le_of_ble_eq_true hb)]; exact hN)
    | optr b ver idx sub =>
      simp only [canonAV]
      cases hb : Nat.blt b nb with
      | false => exact .tree (.top _)
      | true =>
        simp only [cond_true]
        split
        · rename_i kk hk
          obtain ⟨hkb, hkv⟩ := block_some hk
          obtain ⟨oi, hO, hle, h1, hv'⟩ := hx.optr_inv
          have hB := h.blk b kk oi hkb hO
          exact .optr _ _ _ _ _ { oi with ver := 0 } (by simp only [canonCx]; rw [if_pos (show b < nb from Nat.le_of_ble_eq_true hb), hO]) (Nat.le_refl _) h1 fun _ => hv' (by rw [hB.ver, hkv])
        · exact .tree (.top _)
    | oslice b ver off len cap =>
      simp only [canonAV]
      cases hb : Nat.blt b nb with
      | false => exact .tree (.top _)
      | true =>
        simp only [cond_true]
        split
        · rename_i kk hk
          obtain ⟨hkb, hkv⟩ := block_some hk
          obtain ⟨oi, hO, hle, h1, hv'⟩ := hx.oslice_inv
          have hB := h.blk b kk oi hkb hO
          exact .oslice _ _ _ _ _ _ { oi with ver := 0 } (by simp only [canonCx]; rw [if_pos (show b < nb from Nat.le_of_ble_eq_true hb), hO]) (Nat.le_refl _) h1 fun _ => hv' (by rw [hB.ver, hkv])
        · exact .tree (.top _)

theorem look_keep (f : Nat → AV) : ∀ (keep : List Nat) (t : Nat), look (keep.map fun t => (t, f t)) t = f t ∨ look (keep.map fun t => (t, f t)) t = .top
  | [], t => .inr rfl
  | k :: r, t => by
    simp only [List.map_cons, look]
    cases hb : Nat.beq k t with
    | true => have := Nat.eq_of_beq_eq_true hb; subst this; exact .inl rfl
    | false => exact look_keep f r t

theorem look_map (f : AV → AV) : ∀ (l : List (Nat × AV)) (t : Nat), look (l.map fun p => (p.1, f p.2)) t = f (look l t) ∨ look (l.map fun p => (p.1, f p.2)) t = .top
  | [], t => .inr rfl
  | (k, x) :: r, t => by
    simp only [List.map_cons, look]
    cases hb : Nat.beq k t with
    | true => exact .inl rfl
    | false => exact look_map f r t

theorem SR.canon (h : SR P F w0 q s a w c) (keep : List Nat) (nb nm ny : Nat) (h1 : ∀ i l rc, F.rc = some (i, l, rc) → i < ny) (h2 : ∀ x ∈ F.G, ∀ i, x.2.2 = some i → i < ny) : SR P F w0 q (canon keep nb nm ny s) a w (canonCx c nb nm ny) := by
  have hcO : ∀ b oi', (canonCx c nb nm ny).O b = some oi' → b < nb ∧ ∃ oi, c.O b = some oi ∧ oi' = { oi with ver := 0 } := fun b oi' hb => by
    simp only [canonCx] at hb
    split at hb
    · rename_i hlt
      split at hb
      · rename_i oi hO; exact ⟨hlt, oi, hO, (Option.some.inj hb).symm⟩
      · cases hb
    · cases hb
  have hcN : ∀ b r, (canonCx c nb nm ny).N b = some r → b < nm ∧ c.N b = some r := fun b r hb => by
    simp only [canonCx] at hb
    split at hb
    · rename_i hlt; exact ⟨hlt, hb⟩
    · cases hb
  have hcy : ∀ i l, (canonCx c nb nm ny).y i = some l → i < ny ∧ c.y i = some l := fun b r hb => by
    simp only [canonCx] at hb
    split at hb
    · rename_i hlt; exact ⟨hlt, hb⟩
    · cases hb
  have hyc : ∀ i l, i < ny → c.y i = some l → (canonCx c nb nm ny).y i = some l := fun i l hi hl => by simp only [canonCx]; rw [if_pos hi]; exact hl
  refine ⟨⟨⟨fun b k' oi' hk hO => ?_, fun b b' o1 o2 h1 h2 hne => ?_, fun b oi' hO hc => ?_, h.hr.st, fun b m r hm hN => ?_, fun b r hN => ?_, fun b b' r h1 h2 => ?_, fun b i oi' r hO hc hN => ?_⟩, ⟨fun b oi' hO hc hp => ?_, fun b r hN hp => ?_⟩, fun b oi' hb => ?_, fun b r hb => ?_,
    fun i l hl => (hcy i l hl).1, h.below, h.pq, fun t => ?_, fun x hx => ?_, fun i l rc hrc => ?_⟩, fun t => ?_, h.size, h.defers⟩
  · obtain ⟨hlt, oi, hO', rfl⟩ := hcO b oi' hO
    simp only [Tr.canon, List.getElem?_map, List.getElem?_take, if_pos hlt] at hk
    cases hk0 : s.hp.blocks[b]? with
    | none => rw [hk0] at hk; cases hk
    | some k =>
      rw [hk0] at hk
      simp only [Option.map_some, Option.some.injEq] at hk
      subst hk
      have hB := h.hr.blk b k oi hk0 hO'
      unfold canonB
      cases hf : k.flat with
      | true =>
        simp only [cond_true]
        refine ⟨hB.n, hB.es, rfl, hB.le, hB.row, hB.el, fun i j x v hi hx hv => ?_⟩
        have := (hB.rel i j x v hi hx hv).2 hf
        exact ⟨.tree this, fun _ => this⟩
      | false =>
        simp only [cond_false]
        refine ⟨hB.n, hB.es, rfl, hB.le, hB.row, fun i hi => by simpa using hB.el i hi, fun i j x v hi hx hv => ?_⟩
        rw [List.getElem?_map] at hx
        cases hy : (k.f i)[j]? with
        | none => rw [hy] at hx; cases hx
        | some y =>
          rw [hy] at hx
          simp only [Option.map_some, Option.some.injEq] at hx
          subst hx
          exact ⟨canonAV_ok h.hr nb nm ny 5 (hB.rel i j y v hi hy hv).1, fun hff => by cases hff⟩
  · obtain ⟨_, o1', g1, rfl⟩ := hcO b o1 h1
    obtain ⟨_, o2', g2, rfl⟩ := hcO b' o2 h2
    exact h.hr.sep b b' o1' o2' g1 g2 hne
  · obtain ⟨_, oi, g, rfl⟩ := hcO b oi' hO
    exact h.hr.own b oi g hc
  · obtain ⟨hlt, hN'⟩ := hcN b r hN
    simp only [Tr.canon, List.getElem?_take, if_pos hlt] at hm
    exact ⟨(h.hr.maps b m r hm hN').ex⟩
  · exact h.hr.mown b r (hcN b r hN).2
  · exact h.hr.msep b b' r (hcN b r h1).2 (hcN b' r h2).2
  · obtain ⟨_, oi, g, rfl⟩ := hcO b oi' hO
    exact h.hr.bm b i oi r g hc (hcN i r hN).2
  · obtain ⟨hlt, oi, g, rfl⟩ := hcO b oi' hO
    obtain ⟨k, hk, hr⟩ := h.ro.b b oi g hc hp
    refine ⟨_, by simp only [Tr.canon, List.getElem?_map, List.getElem?_take, if_pos hlt, hk]; rfl, ?_⟩
    unfold canonB
    cases k.flat <;> exact hr
  · obtain ⟨hlt, g⟩ := hcN b r hN
    obtain ⟨k, hk, hr⟩ := h.ro.m b r g hp
    exact ⟨k, by simp only [Tr.canon, List.getElem?_take, if_pos hlt, hk], hr⟩
  · obtain ⟨hlt, oi, g, rfl⟩ := hcO b oi' hb
    have := h.hi b oi g
    simp [Tr.canon]; omega
  · obtain ⟨hlt, g⟩ := hcN b r hb
    have := h.hiM b r g
    simp [Tr.canon]; omega
  · show VR P w (canonCx c nb nm ny) (look (s.sv.map fun p => (p.1, canonAV s.hp nb nm ny 5 p.2)) t) _
    rcases look_map (canonAV s.hp nb nm ny 5) s.sv t with g | g
    · rw [g]; exact canonAV_ok h.hr nb nm ny 5 (h.sv t)
    · rw [g]; exact .tree (.top _)
  · obtain ⟨g1, g2, g3, g4⟩ := h.keep x hx
    exact ⟨g1, g2, g3, fun i hi => hyc i _ (h2 x hx i hi) (g4 i hi)⟩
  · obtain ⟨g1, g2, g3, g4⟩ := h.rcd i l rc hrc
    exact ⟨hyc i l (h1 i l rc hrc) g1, g2, g3, g4⟩
  · rcases look_keep (fun t => canonAV s.hp nb nm ny 5 (look s.tm t)) keep t with g | g
    · show VR P w (canonCx c nb nm ny) (look (keep.map fun t => (t, canonAV s.hp nb nm ny 5 (look s.tm t))) t) _
      rw [g]; exact canonAV_ok h.hr nb nm ny 5 (h.tm t)
    · show VR P w (canonCx c nb nm ny) (look (keep.map fun t => (t, canonAV s.hp nb nm ny 5 (look s.tm t))) t) _
      rw [g]; exact .tree (.top _)

/-- A block described anew. -/
theorem SR.redescribe (h : SR P F w0 q s a w c) {b : Nat} {k k' : AB} (hk : s.hp.blocks[b]? = some k) (hro : k'.ro = k.ro) (hB : ∀ oi, c.O b = some oi → BR P w c k' oi) : SR P F w0 q { s with hp := s.hp.setB b k' } a w c := by
  refine ⟨⟨⟨fun b2 k2 oi hk2 hO => ?_, h.hr.sep, h.hr.own, h.hr.st, h.hr.maps, h.hr.mown, h.hr.msep, h.hr.bm⟩, ⟨fun b2 oi hO hc hp => ?_, h.ro.m⟩, fun b2 oi hb => by have := h.hi b2 oi hb; simp [Hp.setB, setNth_eq]; exact this, h.hiM, h.hy, h.below, h.pq, h.sv, h.keep, h.rcd⟩, h.tm, h.size, h.defers⟩
  · rcases set_get hk2 with ⟨rfl, rfl⟩ | ⟨_, hk2'⟩
    · exact hB oi hO
    · exact h.hr.blk b2 k2 oi hk2' hO
  · obtain ⟨k2, hk2, hr2⟩ := h.ro.b b2 oi hO hc hp
    by_cases hb : b2 = b
    · subst hb
      rw [hk] at hk2; cases hk2
      have hl := (List.getElem?_eq_some_iff.1 hk).1
      exact ⟨k', by simp only [Hp.setB, setNth_eq]; rw [List.getElem?_set_self hl], by rw [hro, hr2]⟩
    · exact ⟨k2, by simp only [Hp.setB, setNth_eq]; rw [List.getElem?_set_ne (fun e => hb e.symm)]; exact hk2, hr2⟩

/-- An empty block more, and the empty slice that it is. -/
theorem SR.empty (h : SR P F w0 q s a w c) (es : Nat) : ∃ c', SR P F w0 q { s with hp := s.hp.addB { es, len := 0, f := fun _ => [] } } a w c' ∧ (∀ x v, VR P w c x v → VR P w c' x v) ∧
    ∀ b, VR P w c' (.oslice s.hp.blocks.length 0 0 0 none) (.slice b 0 0) := by
  have hfree : c.O s.hp.blocks.length = none := by
    cases hO : c.O s.hp.blocks.length with
    | none => rfl
    | some oi => have := h.hi _ oi hO; omega
  have hq := qout_block (w' := w) h.hr h.base (Below.refl _ _) hfree (k := { es, len := 0, f := fun _ => [] }) (oi := ⟨0, 0, 0, es, 0, 0⟩) (fun hc => absurd rfl hc)
    (fun ex => ⟨rfl, rfl, rfl, Nat.le_refl _, fun hc => absurd rfl hc, fun i hi => by simp at hi, fun i j y v hi => by simp at hi⟩)
  refine ⟨_, h.quiet hq ⟨rfl, rfl⟩ (d := none) rfl (u := undef) (.tree (.top _)), fun x v hx => hx.mono hq.ext, fun b => .oslice _ _ _ _ _ _ _ (addO_self _ _ _) (Nat.le_refl _) rfl fun _ => ⟨by simp, b, 0, rfl, Nat.le_refl _, by simp, fun hc => absurd rfl hc, fun cp hcp => by cases hcp⟩⟩

theorem eslice_inv {v : Value} (h : VR P w c .eslice v) : ∃ b, v = .slice b 0 0 := by
  cases h with
  | tree h => cases h with
    | eslice b => exact ⟨b, rfl⟩

theorem SR.prep1 (h : SR P F w0 q s a w c) (p : Prep) : ∃ c', SR P F w0 q (prep1 s p) a w c' := by
  unfold Tr.prep1
  cases p with
  | slot t es =>
    simp only
    split
    · rename_i ht
      obtain ⟨c', g1, g2, g3⟩ := h.empty es
      have hv := h.tm t
      rw [ht] at hv
      obtain ⟨b, hb⟩ := eslice_inv hv
      exact ⟨c', g1.known (t := t) (x := .oslice s.hp.blocks.length 0 0 0 none) (by rw [hb]; exact g3 b)⟩
    · exact ⟨c, h⟩
  | cell b sub es =>
    simp only
    split
    · rename_i k hk
      split
      · rename_i hlen hcell
        rw [nth?_eq] at hk hcell
        obtain ⟨c', g1, g2, g3⟩ := h.empty es
        have hlt := (List.getElem?_eq_some_iff.1 hk).1
        have hk' : ({ s with hp := s.hp.addB { es, len := 0, f := fun _ => [] } } : St).hp.blocks[b]? = some k := by
          show (s.hp.blocks ++ [_])[b]? = some k
          rw [List.getElem?_append_left hlt]; exact hk
        have := g1.redescribe hk' (k' := { k with f := fun _ => splice (k.f 0) sub [.oslice s.hp.blocks.length 0 0 0 none], flat := false }) rfl fun oi hO => ?_
        · refine ⟨c', ?_⟩
          have e : ({ s with hp := (s.hp.addB { es, len := 0, f := fun _ => [] }).setB b { k with f := fun _ => splice (k.f 0) sub [.oslice s.hp.blocks.length 0 0 0 none], flat := false } } : St) =
              { s with hp := (s.hp.setB b { k with f := fun _ => splice (k.f 0) sub [.oslice s.hp.blocks.length 0 0 0 none], flat := false }).addB { es, len := 0, f := fun _ => [] } } := by
            simp only [Hp.addB, Hp.setB, setNth_eq, List.set_append_left _ _ hlt]
          rw [← e]; exact this
        · have hB := g1.hr.blk b k oi hk' hO
          refine ⟨hB.n, hB.es, hB.ver, hB.le, hB.row, fun i hi => ?_, fun i j x v hi hx hv => ⟨?_, fun hf => by cases hf⟩⟩
          · have hi0 : i < k.len := hi
            have : i = 0 := by omega
            subst this
            rw [splice_length]; exact hB.el 0 hi
          · have hi0 : i < k.len := hi
            have : i = 0 := by omega
            subst this
            have hj : j < (k.f 0).length := by have := (List.getElem?_eq_some_iff.1 hx).1; rwa [splice_length] at this
            rw [splice_get _ _ _ _ hj] at hx
            split at hx
            · rename_i hc
              simp at hc
              have hjs : j = sub := by omega
              subst hjs
              simp at hx
              subst hx
              obtain ⟨g, _⟩ := hB.rel 0 j .eslice v hi hcell hv
              obtain ⟨bb, hbb⟩ := eslice_inv g
              rw [hbb]; exact g3 bb
            · exact (hB.rel 0 j x v hi hx hv).1
      · exact ⟨c, h⟩
    · exact ⟨c, h⟩

theorem SR.prep : ∀ (l : List Prep) {s : St} {c : Cx}, SR P F w0 q s a w c → ∃ c', SR P F w0 q (prep s l) a w c'
  | [], s, c, h => ⟨c, h⟩
  | p :: r, s, c, h => by
    obtain ⟨c', h'⟩ := h.prep1 p
    exact SR.prep r h'
end

/-- Preparing leaves the counter and the jump alone. -/
theorem prep1_keep (s : St) (p : Prep) : (prep1 s p).hp.ny = s.hp.ny ∧ (prep1 s p).hp.jump = s.hp.jump := by
  unfold prep1
  repeat' split
  all_goals exact ⟨rfl, rfl⟩
theorem prep_keep : ∀ (l : List Prep) (s : St), (prep s l).hp.ny = s.hp.ny ∧ (prep s l).hp.jump = s.hp.jump
  | [], s => ⟨rfl, rfl⟩
  | p :: r, s => by
    have h1 := prep1_keep s p
    have h2 := prep_keep r (prep1 s p)
    exact ⟨h2.1.trans h1.1, h2.2.trans h1.2⟩

/-- A loop, by a relation that goes down. -/
theorem wp_loop_rel {P : Program} {F : Fence} {n : Nat} {Q : Exit → Act → World → Prop} {c : Code} (I : Nat → Act → World → Prop) {m : Nat} {a : Act} {w : World} (h₀ : I m a w)
    (round : ∀ m a w, I m a w → c.wpIn F n P (Exit.then (fun a' w' => ∃ m', m' < m ∧ I m' a' w') Q) a w) : (Code.loop c).wpIn F n P Q a w := by
  intro b k cs hro hb hr
  have key : ∀ m a w, I m a w → ∃ e a' w', Q e a' w' ∧ ArrivesIn (Machine.fenced P F) P (lone (b.atR a (.code c :: .inLoop c :: k)) cs w) b k cs e a' w' := by
    intro m
    induction m using Nat.strongRecOn with
    | _ m ih =>
      intro a w hI
      obtain ⟨e, a₁, w₁, hq, harr⟩ := round m a w hI b (.inLoop c :: k) cs hro hb hr
      cases e with
      | normal =>
        obtain ⟨m', hlt, hI₁⟩ := hq
        obtain ⟨e₂, a₂, w₂, hq₂, harr₂⟩ := ih m' hlt a₁ w₁ hI₁
        exact ⟨e₂, a₂, w₂, hq₂, .of_steps (StepsIn.trans harr (.one (fenced_calm hb hr rfl) stepR_inLoop)) harr₂⟩
      | exit id => exact ⟨_, a₁, w₁, hq, .pass (x := .inLoop c) rfl (fun _ _ => .inl (by simp)) harr⟩
      | goto l => exact ⟨_, a₁, w₁, hq, .pass (x := .inLoop c) rfl (fun _ _ => .inl (by simp)) harr⟩
      | ret => exact ⟨_, a₁, w₁, hq, .pass (x := .inLoop c) rfl (fun _ _ => .inl (by simp)) harr⟩
      | panic ch => exact ⟨_, a₁, w₁, hq, .pass (x := .inLoop c) rfl (fun _ _ => .inl (by simp)) harr⟩
      | outgrown => exact ⟨_, a₁, w₁, hq, .pass (x := .inLoop c) rfl (fun _ _ => .inl (by simp)) harr⟩
  obtain ⟨e, a', w', hq, harr⟩ := key m a w h₀
  exact ⟨e, a', w', hq, .of_steps (.one (fenced_calm hb hr rfl) stepR_loop) harr⟩
end Go.Tr

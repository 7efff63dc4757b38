/- Maps made and written; bytes of a string. Conditions: none. -/
import Derived.Test.YtkomdfgffgkphaaTrM
import Derived.MapKept
import Derived.Laws.IdiomStrings
namespace Go.Tr
open Go Go.RowKit Go.MapKept

section
variable {P : Program} {T : Nat → Option TI} {w w' : World} {c c' : Cx} {base : Nat} {hp hp' : Hp}

def Cx.addN (c : Cx) (n r : Nat) : Cx := { c with N := fun b => if b = n then some r else c.N b }

theorem getElem?_snocM {l : List AM} {x : AM} {i : Nat} {y : AM} (h : (l ++ [x])[i]? = some y) : (i < l.length ∧ l[i]? = some y) ∨ (i = l.length ∧ y = x) := getElem?_snoc h

theorem qout_map (h : HR P base w c hp) (hbase : base ≤ w.heap.size) (hfree : c.N hp.maps.length = none) {o : Obj} {m : AM}
    (hm : Ext w.heap.size w c (w.alloc o) (c.addN hp.maps.length w.heap.size) → MR P (w.alloc o) (c.addN hp.maps.length w.heap.size) m w.heap.size) :
    QOut P base w c hp (w.alloc o) (c.addN hp.maps.length w.heap.size) { hp with maps := hp.maps ++ [m] } := by
  have hw := below_alloc w o
  have e : Ext w.heap.size w c (w.alloc o) (c.addN hp.maps.length w.heap.size) := ⟨hw, fun _ h => h, fun b hb => hw.block b (h.st b hb), fun _ oi h => ⟨oi, h, Nat.le_refl _, fun _ => rfl⟩, fun b r hb => by
    simp only [Cx.addN]; rw [if_neg (fun e => by rw [e, hfree] at hb; cases hb)]; exact hb, fun _ _ h => h⟩
  have hs : (w.alloc o).heap.size = w.heap.size + 1 := by simp
  have hcase : ∀ b r, (c.addN hp.maps.length w.heap.size).N b = some r → (b = hp.maps.length ∧ r = w.heap.size) ∨ (b ≠ hp.maps.length ∧ c.N b = some r) := fun b r hb => by
    simp only [Cx.addN] at hb
    by_cases hbn : b = hp.maps.length
    · rw [if_pos hbn] at hb; exact .inl ⟨hbn, (Option.some.inj hb).symm⟩
    · rw [if_neg hbn] at hb; exact .inr ⟨hbn, hb⟩
  refine ⟨⟨fun b k oi hk hO => h.blk_old e hk hO, h.sep, fun b oi hO hc => by have := h.own b oi hO hc; omega, fun b hb => by have := h.st b hb; omega, fun b m' r hk hO => ?_, fun b r hO => ?_, fun b b' r h1 h2 => ?_, fun b i oi r hO hc hN => ?_⟩, e,
    ⟨fun i x hx => ⟨x, hx, .refl _⟩, fun i x hx => ⟨x, ?_, .refl _⟩⟩, fun _ _ h => h, fun _ _ h => .inl h, fun b r hb => ?_, fun b oi h1 h2 h3 => .inl ⟨h1, h3⟩, fun b r h1 h3 => ?_, fun _ h => .inl h, rfl⟩
  · rcases hcase b r hO with ⟨rfl, rfl⟩ | ⟨hne, hO'⟩
    · rcases getElem?_snocM hk with ⟨hlt', _⟩ | ⟨_, rfl⟩
      · omega
      · exact hm e
    · rcases getElem?_snocM hk with ⟨_, hk''⟩ | ⟨he, _⟩
      · exact h.map_old e hk'' hO'
      · exact absurd he hne
  · rcases hcase b r hO with ⟨rfl, rfl⟩ | ⟨_, hO'⟩
    · omega
    · have := h.mown b r hO'; omega
  · rcases hcase b r h1 with ⟨rfl, rfl⟩ | ⟨hne1, hO1⟩ <;> rcases hcase b' _ h2 with ⟨rfl, hr⟩ | ⟨hne2, hO2⟩
    · rfl
    · have := h.mown b' _ hO2; omega
    · have := h.mown b r hO1; omega
    · exact h.msep b b' r hO1 hO2
  · rcases hcase i r hN with ⟨rfl, rfl⟩ | ⟨_, hN'⟩
    · have := h.own b oi hO hc; omega
    · exact h.bm b i oi r hO hc hN'
  · show (hp.maps ++ [m])[i]? = some x
    rw [List.getElem?_append_left (List.getElem?_eq_some_iff.1 hx).1]; exact hx
  · rcases hcase b r hb with ⟨rfl, rfl⟩ | ⟨_, hO'⟩
    · exact .inr ⟨Nat.le_refl _, by simp⟩
    · exact .inl hO'
  · rcases hcase b r h1 with ⟨rfl, rfl⟩ | ⟨_, hO'⟩
    · have := h.st _ h3; omega
    · exact .inl ⟨hO', h3⟩

theorem make_map (hT : TOK P T) (h : HR P base w c hp) (hbase : base ≤ w.heap.size) {t : TypeId} {o : Oper} {ρ : Operand → AV} {r : Operand → Value} (hop : o.op = .makeMap t none)
    {v : AV} (hev : (opEv T o ρ hp).gives v hp') (hfree : c.N hp.maps.length = none) :
    ∃ u w' c', (execOp r o).run P w = .ok (.value u) w' ∧ QOut P base w c hp w' c' hp' ∧ VR P w' c' v u := by
  unfold opEv at hev
  rw [hop] at hev
  simp only at hev
  split at hev
  · rename_i kt e _ _ _ _ ht
    split at hev
    · rename_i ei ki he hki
      obtain ⟨rfl, rfl⟩ := hev
      obtain ⟨_, _, _, inf, hinf, _, _, hz⟩ := hT _ _ he
      refine ⟨.map (some w.heap.size), w.alloc (.map #[] 0), _, by simp [execOp, hop, Instr.makeMap], qout_map h hbase hfree fun ex => ?_, .omap _ _ (by simp [Cx.addN])⟩
      refine ⟨#[], 0, heap_alloc_new w _, fun key _ => ⟨none, rfl, rfl⟩, fun key zv _ _ hzz => ?_, by simp, fun key i v _ hh => by simp [Instr.findNow] at hh⟩
      have : zv = ei.zero := by simp [zeroOf, hinf, hz] at hzz; exact hzz.symm
      subst this
      exact constAV_ok (P := P) (w := w.alloc (.map #[] 0)) (c := c.addN hp.maps.length w.heap.size) ei.zero
    · exact hev.elim
  · exact hev.elim

theorem isKey_of {ki : Option IntKind} {key : Value} (h : keyOk ki key) : IsKey (kindOf ki) key := by
  cases ki <;> cases key <;> simp_all [keyOk, IsKey, kindOf]
theorem keyOk_of {ki : Option IntKind} {key : Value} (h : IsKey (kindOf ki) key) : keyOk ki key := by
  cases ki <;> cases key <;> simp_all [keyOk, IsKey, kindOf]

theorem keyEq_iff {ki : Option IntKind} {a b : Value} (ha : keyOk ki a) (hb : keyOk ki b) : opEv.keyEq a b = true ↔ a = b := by
  cases ki <;> cases a <;> cases b <;> simp_all [keyOk, opEv.keyEq, bytes_beq]

/-- Which entry a key finds, behind a write. -/
theorem findNow_push {d : TypeDesc} {k key : Value} {v : Value} {n : Nat} (hk : IsKey d k) (hkey : IsKey d key) : ∀ (l : List MapEntry) (i : Nat), (∀ x ∈ l, IsKey d x.key) → (∀ x ∈ l, x.key ≠ key) →
    (k = key → Instr.findNow d k (l ++ [{ key, val := v, born := n }]) i = some (some (i + l.length, v))) ∧ (k ≠ key → Instr.findNow d k (l ++ [{ key, val := v, born := n }]) i = Instr.findNow d k l i)
  | [], i, _, _ => by
    obtain ⟨r, hr, hiff⟩ := sameNow_of_keys hk hkey
    simp only [List.nil_append, Instr.findNow, hr]
    cases r with
    | true => exact ⟨fun _ => by simp, fun h => absurd (hiff.1 rfl) h⟩
    | false => exact ⟨fun h => (by have := hiff.2 h; cases this), fun _ => rfl⟩
  | e :: l, i, h1, h2 => by
    obtain ⟨r, hr, hiff⟩ := sameNow_of_keys hk (h1 e (.head _))
    have ih := findNow_push (v := v) (n := n) hk hkey l (i + 1) (fun x hx => h1 x (.tail _ hx)) (fun x hx => h2 x (.tail _ hx))
    simp only [List.cons_append, Instr.findNow, hr]
    cases r with
    | true =>
      have : ¬ k = key := fun e' => h2 e (.head _) ((hiff.1 rfl).symm.trans e')
      exact ⟨fun h => absurd h this, fun _ => rfl⟩
    | false => exact ⟨fun h => (by rw [ih.1 h]; simp; omega), fun h => ih.2 h⟩

theorem findNow_modify {d : TypeDesc} {k key : Value} {v : Value} (hk : IsKey d k) (hkey : IsKey d key) : ∀ (l : List MapEntry) (i j : Nat) (e : MapEntry), (∀ x ∈ l, IsKey d x.key) → l[j]? = some e → e.key = key → (∀ q, q < j → ∀ x, l[q]? = some x → x.key ≠ key) →
    (k = key → Instr.findNow d k (l.modify j fun e => { e with key, val := v }) i = some (some (i + j, v))) ∧ (k ≠ key → Instr.findNow d k (l.modify j fun e => { e with key, val := v }) i = Instr.findNow d k l i)
  | [], i, j, e, _, h, _, _ => by simp at h
  | x :: l, i, 0, e, h1, h2, h3, _ => by
    simp at h2
    subst h2
    obtain ⟨r, hr, hiff⟩ := sameNow_of_keys hk hkey
    have hm : (x :: l).modify 0 (fun e => { e with key, val := v }) = { x with key, val := v } :: l := rfl
    rw [hm]
    simp only [Instr.findNow, hr]
    rw [h3, hr]
    cases r with
    | true => exact ⟨fun _ => by simp, fun h => absurd (hiff.1 rfl) h⟩
    | false => exact ⟨fun h => (by have := hiff.2 h; cases this), fun _ => rfl⟩
  | x :: l, i, j + 1, e, h1, h2, h3, h4 => by
    obtain ⟨r, hr, hiff⟩ := sameNow_of_keys hk (h1 x (.head _))
    have ih := findNow_modify (v := v) hk hkey l (i + 1) j e (fun y hy => h1 y (.tail _ hy)) (by simpa using h2) h3 (fun q hq y hy => h4 (q + 1) (by omega) y (by simpa using hy))
    have hx : x.key ≠ key := h4 0 (by omega) x rfl
    have hm : (x :: l).modify (j + 1) (fun e => { e with key, val := v }) = x :: l.modify j (fun e => { e with key, val := v }) := rfl
    rw [hm]
    simp only [Instr.findNow, hr]
    cases r with
    | true =>
      have : ¬ k = key := fun e' => hx ((hiff.1 rfl).symm.trans e')
      exact ⟨fun h => absurd h this, fun _ => rfl⟩
    | false => exact ⟨fun h => (by rw [ih.1 h]; simp; omega), fun h => ih.2 h⟩

theorem findNow_first {d : TypeDesc} {k : Value} (hk : IsKey d k) : ∀ (l : List MapEntry) (i j : Nat) (v : Value), (∀ x ∈ l, IsKey d x.key) → Instr.findNow d k l i = some (some (i + j, v)) →
    ∃ e, l[j]? = some e ∧ e.key = k ∧ ∀ q, q < j → ∀ x, l[q]? = some x → x.key ≠ k
  | [], i, j, v, _, h => by simp [Instr.findNow] at h
  | x :: l, i, j, v, h1, h => by
    obtain ⟨r, hr, hiff⟩ := sameNow_of_keys hk (h1 x (.head _))
    simp only [Instr.findNow, hr] at h
    cases r with
    | true =>
      simp at h
      have hj : j = 0 := by omega
      subst hj
      exact ⟨x, rfl, (hiff.1 rfl).symm, fun q hq => by omega⟩
    | false =>
      simp only at h
      have hge : ∀ (l : List MapEntry) (i a : Nat) (v : Value), Instr.findNow d k l i = some (some (a, v)) → i ≤ a := by
        intro l
        induction l with
        | nil => intro i a v h; simp [Instr.findNow] at h
        | cons y l ih =>
          intro i a v h
          simp only [Instr.findNow] at h
          split at h
          · simp at h; omega
          · have := ih _ _ _ h; omega
          · cases h
      have := hge _ _ _ _ h
      obtain ⟨j', rfl⟩ : ∃ j', j = j' + 1 := ⟨j - 1, by omega⟩
      obtain ⟨e, g1, g2, g3⟩ := findNow_first hk l (i + 1) j' v (fun y hy => h1 y (.tail _ hy)) (by rw [h]; congr 3; omega)
      refine ⟨e, by simpa using g1, g2, fun q hq y hy => ?_⟩
      cases q with
      | zero => simp at hy; subst hy; exact fun e' => by have := hiff.2 e'.symm; cases this
      | succ q => exact g3 q (by omega) y (by simpa using hy)

theorem Below.set {w : World} {r : Nat} {o : Obj} {B : Nat} (h : B ≤ r) : Below B w { w with heap := w.heap.setIfInBounds r o } :=
  ⟨rfl, rfl, rfl, by simp, fun k hk => by simp only [Array.getElem?_setIfInBounds]; rw [if_neg (by omega)]⟩

theorem setM_get {l : List AM} {b i : Nat} {k' x : AM} (h : (setNth l b k')[i]? = some x) : (i = b ∧ x = k') ∨ (i ≠ b ∧ l[i]? = some x) := by
  rw [setNth_eq, List.getElem?_set] at h
  split at h
  · rename_i hb
    split at h
    · exact .inl ⟨hb.symm, (Option.some.inj h).symm⟩
    · cases h
  · rename_i hb; exact .inr ⟨fun e => hb e.symm, h⟩

theorem set_map (h : HR P base w c hp) (ro : RO c hp) {b r : Nat} {m m' : AM} (hm : hp.maps[b]? = some m) (hN : c.N b = some r) (hro : m.ro = false) (hro' : m'.ro = false) {o : Obj}
    (hMR : Ext base w c { w with heap := w.heap.setIfInBounds r o } c → MR P { w with heap := w.heap.setIfInBounds r o } c m' r) :
    EOut P base w c hp { w with heap := w.heap.setIfInBounds r o } c { hp with maps := setNth hp.maps b m' } := by
  have hnp : ¬ c.p r := fun hp' => by
    obtain ⟨k2, hk2, hr2⟩ := ro.m b r hN hp'
    rw [hm] at hk2; cases hk2; rw [hro] at hr2; cases hr2
  obtain ⟨es, clock, hmap, _⟩ := (h.maps b m r hm hN).ex
  have hother : ∀ q, q ≠ r → ({ w with heap := w.heap.setIfInBounds r o } : World).heap[q]? = w.heap[q]? := fun q hq => by
    simp only [Array.getElem?_setIfInBounds]; rw [if_neg (fun e => hq e.symm)]
  have e : Ext base w c { w with heap := w.heap.setIfInBounds r o } c := ⟨Below.set (h.mown b r hN).1, fun _ h => h, fun q hq => hother q (fun e => hnp (e ▸ hq)), fun _ oi h => ⟨oi, h, Nat.le_refl _, fun _ => rfl⟩, fun _ _ h => h, fun _ _ h => h⟩
  have hs : ({ w with heap := w.heap.setIfInBounds r o } : World).heap.size = w.heap.size := by simp
  refine ⟨⟨fun b2 k2 o2 hk2 hO2 => (h.blk b2 k2 o2 hk2 hO2).mono e fun hc => hother _ fun er => ?_, h.sep, fun b2 o2 hO2 hc => by rw [hs]; exact h.own b2 o2 hO2 hc, fun q hq => by rw [hs]; exact h.st q hq, fun b2 m2 r2 hm2 hN2 => ?_, fun b2 r2 hN2 => by rw [hs]; exact h.mown b2 r2 hN2, h.msep, h.bm⟩, e,
    ⟨fun b2 o2 hO2 hc hpp => ro.b b2 o2 hO2 hc hpp, fun b2 r2 hN2 hpp => ?_⟩, rfl, by simp [setNth_eq], fun b2 o2 hO2 => ⟨o2, hO2⟩, fun b2 r2 hN2 => ⟨r2, hN2⟩, fun _ h => h, rfl⟩
  · obtain ⟨cs, t, hrow, _⟩ := (h.blk b2 k2 o2 hk2 hO2).row hc
    rw [er, hmap] at hrow; cases hrow
  · rcases setM_get hm2 with ⟨rfl, rfl⟩ | ⟨hne, hm2'⟩
    · rw [hN] at hN2; cases hN2; exact hMR e
    · exact (h.maps b2 m2 r2 hm2' hN2).mono e (hother r2 fun er => hne (h.msep b2 b r2 hN2 (er ▸ hN)))
  · have hne : b2 ≠ b := fun e => by subst e; rw [hN] at hN2; cases hN2; exact hnp hpp
    obtain ⟨k2, hk2, hr2⟩ := ro.m b2 r2 hN2 hpp
    refine ⟨k2, ?_, hr2⟩
    show (setNth hp.maps b m')[b2]? = some k2
    rw [setNth_eq, List.getElem?_set_ne (fun e => hne e.symm)]; exact hk2

theorem eff_mapUpdate (hT : TOK P T) (h : HR P base w c hp) (ro : RO c hp) {t : TypeId} {o : Oper} {a i x : Operand} {ρ : Operand → AV} {r : Operand → Value} (hop : o.op = .mapUpdate t a i x)
    (ha : VR P w c (ρ a) (r a)) (hi : VR P w c (ρ i) (r i)) (hx : VR P w c (ρ x) (r x)) {v : AV} (hev : (opEv T o ρ hp).gives v hp') :
    ∃ w' c', (execOp r o).run P w = .ok .skip w' ∧ EOut P base w c hp w' c' hp' ∧ v = .top := by
  unfold opEv at hev
  rw [hop] at hev
  simp only at hev
  split at hev
  · rename_i kt et _ _ _ _ b key ht hra hri
    have hd := (hT _ _ ht).1
    split at hev
    · rename_i ki hki
      have hu := find_known hT hki
      split at hev
      · rename_i m hm
        rw [nth?_eq] at hm
        cases hb : (kindIs ki m.ki && keyIs ki key && AV.tree 4 (ρ x) && !m.ro) with
        | false => rw [hb] at hev; exact hev.elim
        | true =>
          rw [hb] at hev
          obtain ⟨rfl, rfl⟩ := hev
          simp only [Bool.and_eq_true, Bool.not_eq_true'] at hb
          obtain ⟨⟨⟨b1, b2⟩, b3⟩, b4⟩ := hb
          have := kindIs_eq b1
          subst this
          have hko := keyIs_ok b2
          have hik := isKey_of hko
          rw [hra] at ha
          rw [hri] at hi
          obtain ⟨q, hq, hN⟩ := ha.omap_inv
          obtain ⟨es, clock, hmap, g1, g2, g3, g4⟩ := (h.maps b m q hm hN).ex
          have hks : ∀ e ∈ es.toList, IsKey (kindOf m.ki) e.key := fun e he => isKey_of (g3 e he)
          have hxt : VT P w c.p (ρ x) (r x) := VR.toVT 4 b3 hx
          have hgo := MapKept.run_getObj_map (P := P) hmap
          have hck := MapKept.run_checkKey (P := P) (w := w) hu hik false 9999
          rcases findNow_spec hik es.toList 0 hks with ⟨f1, f2⟩ | ⟨j, e, f1, f2, f3⟩
          · refine ⟨_, c, ?_, set_map (m' := { m with has := fun k => m.has k || opEv.keyEq k key, get := fun k => bif opEv.keyEq k key then ρ x else m.get k }) h ro hm hN b4 b4 (o := .map (es.push { key, val := r x, born := clock }) (clock + 1)) fun ex => ?_, rfl⟩
            · simp [execOp, hop, hq, hi.val_inv, Instr.mapUpdate, run_underlying hd, hgo, hck, MapKept.run_findKey (P := P) hu f1, MapKept.run_setObj_map (P := P) _ hmap]
            · refine ⟨_, _, (heap_set hmap).1, fun k hk => ?_, fun k zv hk hh hz => ?_, fun e he => ?_, fun k i' v' hk hf => ?_⟩
              · obtain ⟨p1, p2⟩ := findNow_push (v := r x) (n := clock) (isKey_of hk) hik es.toList 0 hks f2
                by_cases hkk : k = key
                · exact ⟨_, by simpa using p1 hkk, by simp [(keyEq_iff hk hko).2 hkk]⟩
                · obtain ⟨o1, h1, h2⟩ := g1 k hk
                  refine ⟨o1, by rw [Array.toList_push, p2 hkk]; exact h1, ?_⟩
                  have : opEv.keyEq k key = false := by
                    cases hq : opEv.keyEq k key with
                    | false => rfl
                    | true => exact absurd ((keyEq_iff hk hko).1 hq) hkk
                  simp [this, h2]
              · simp only [Bool.or_eq_false_iff] at hh
                simp only [hh.2, cond_false]
                exact (g2 k zv hk hh.1 hz).mono ex.p ex.pb
              · simp only [Array.toList_push, List.mem_append, List.mem_singleton] at he
                rcases he with he | rfl
                · exact g3 e he
                · exact hko
              · obtain ⟨p1, p2⟩ := findNow_push (v := r x) (n := clock) (isKey_of hk) hik es.toList 0 hks f2
                rw [Array.toList_push] at hf
                by_cases hkk : k = key
                · rw [p1 hkk] at hf
                  simp only [Option.some.injEq, Prod.mk.injEq] at hf
                  have : opEv.keyEq k key = true := (keyEq_iff hk hko).2 hkk
                  simp only [this, cond_true]
                  rw [← hf.2]
                  exact hxt.mono ex.p ex.pb
                · rw [p2 hkk] at hf
                  have : opEv.keyEq k key = false := by
                    cases hq : opEv.keyEq k key with
                    | false => rfl
                    | true => exact absurd ((keyEq_iff hk hko).1 hq) hkk
                  simp only [this, cond_false]
                  exact (g4 k i' v' hk hf).mono ex.p ex.pb
          · have hj : es[j]? = some e := by simpa using f2
            simp only [Nat.zero_add] at f1
            obtain ⟨e2, q1, q2, q3⟩ := findNow_first hik es.toList 0 j e.val hks (by simpa using f1)
            have hmod : (es.modify j fun e => { e with key, val := r x }).toList = es.toList.modify j fun e => { e with key, val := r x } := by simp
            refine ⟨_, c, ?_, set_map (m' := { m with has := fun k => m.has k || opEv.keyEq k key, get := fun k => bif opEv.keyEq k key then ρ x else m.get k }) h ro hm hN b4 b4 (o := .map (es.modify j fun e => { e with key, val := r x }) clock) fun ex => ?_, rfl⟩
            · simp [execOp, hop, hq, hi.val_inv, Instr.mapUpdate, run_underlying hd, hgo, hck, MapKept.run_findKey (P := P) hu f1, hj, f3, MapKept.run_keyThatStays (P := P) hik, MapKept.run_setObj_map (P := P) _ hmap]
            · refine ⟨_, _, (heap_set hmap).1, fun k hk => ?_, fun k zv hk hh hz => ?_, fun e he => ?_, fun k i' v' hk hf => ?_⟩
              · obtain ⟨p1, p2⟩ := findNow_modify (v := r x) (isKey_of hk) hik es.toList 0 j e2 hks q1 q2 q3
                by_cases hkk : k = key
                · exact ⟨_, by rw [hmod]; exact p1 hkk, by simp [(keyEq_iff hk hko).2 hkk]⟩
                · obtain ⟨o1, h1, h2⟩ := g1 k hk
                  refine ⟨o1, by rw [hmod, p2 hkk]; exact h1, ?_⟩
                  have : opEv.keyEq k key = false := by
                    cases hq : opEv.keyEq k key with
                    | false => rfl
                    | true => exact absurd ((keyEq_iff hk hko).1 hq) hkk
                  simp [this, h2]
              · simp only [Bool.or_eq_false_iff] at hh
                simp only [hh.2, cond_false]
                exact (g2 k zv hk hh.1 hz).mono ex.p ex.pb
              · rw [hmod] at he
                obtain ⟨n, hn, rfl⟩ := List.getElem_of_mem he
                rw [List.getElem_modify]
                split
                · exact hko
                · exact g3 _ (by simp)
              · obtain ⟨p1, p2⟩ := findNow_modify (v := r x) (isKey_of hk) hik es.toList 0 j e2 hks q1 q2 q3
                rw [hmod] at hf
                by_cases hkk : k = key
                · rw [p1 hkk] at hf
                  simp only [Option.some.injEq, Prod.mk.injEq] at hf
                  have : opEv.keyEq k key = true := (keyEq_iff hk hko).2 hkk
                  simp only [this, cond_true]
                  rw [← hf.2]
                  exact hxt.mono ex.p ex.pb
                · rw [p2 hkk] at hf
                  have : opEv.keyEq k key = false := by
                    cases hq : opEv.keyEq k key with
                    | false => rfl
                    | true => exact absurd ((keyEq_iff hk hko).1 hq) hkk
                  simp only [this, cond_false]
                  exact (g4 k i' v' hk hf).mono ex.p ex.pb
      · exact hev.elim
    · exact hev.elim
  · exact hev.elim

theorem make_bytes (hT : TOK P T) (h : HR P base w c hp) {src dst e : TypeId} {s : ByteArray} {ts td te : TI} (hs : T src = some ts) (hs' : ts.desc = .string) (hd : T dst = some td) (hd' : td.desc = .slice e) (he : T e = some te) (he' : te.desc = .int .u8) :
    ∃ u w' c', (convert src dst (.string s)).run P w = .ok u w' ∧ QOut P base w c hp w' c' hp ∧ VR P w' c' (.rslice 1 s.size fun i => [.val (.int .u8 (s.data.toList.getD i 0).toNat)]) u := by
  have h1 := (hT _ _ hs).1
  have h2 := (hT _ _ hd).1
  have h3 := (hT _ _ he).1
  rw [hs'] at h1
  rw [hd'] at h2
  rw [he'] at h3
  have hrun := run_bytes_of_string (P := P) w src dst e s h1 h2 h3
  have hge := grownCap_ge w s.size 0 e
  generalize hC : bytesRow s (grownCap w s.size 0 e) = C at hrun
  have hnew : (w.drew.alloc (.cells C e (C.size, C.size + 1))).heap[w.heap.size]? = some (.cells C e (C.size, C.size + 1)) := heap_alloc_new w.drew _
  have hB : Below w.heap.size w (w.drew.alloc (.cells C e (C.size, C.size + 1))) := ((Below.refl _ _).drew).alloc (by simp) _
  refine ⟨_, _, _, hrun, qout_stable h hB (fun b => b = w.heap.size) (fun b hb => by subst hb; simp), .tree (.rslice 1 s.size _ w.heap.size 0 _ (fun i j => C.getD i undef) hge (.inr rfl) (fun i hi => rfl) (fun i j hi hj => ?_) (fun i j x hi hx => ?_))⟩
  · have hj0 : j = 0 := by omega
    subst hj0
    have hci : C[i]? = some (.int .u8 ((s.data.toList.getD i 0).toNat : Int)) := by
      rw [← hC]
      unfold bytesRow
      have hi' : i < s.data.size := hi
      rw [Array.getElem?_append_left (by simpa using hi')]
      simp only [Array.getElem?_map, Array.getElem?_eq_getElem hi', Option.map_some, List.getD_eq_getElem?_getD, Array.getElem?_toList, Option.getD_some]
    have hcell : (w.drew.alloc (.cells C e (C.size, C.size + 1))).cell? ⟨w.heap.size, 0 + (i * 1 + 0), none⟩ = C[i]? := by
      simp only [World.cell?]
      rw [hnew]
      simp
    rw [hcell, hci]
    simp [hci, Value.oneCell']
  · have hci : C[i]? = some (.int .u8 ((s.data.toList.getD i 0).toNat : Int)) := by
      rw [← hC]
      unfold bytesRow
      have hi' : i < s.data.size := hi
      rw [Array.getElem?_append_left (by simpa using hi')]
      simp only [Array.getElem?_map, Array.getElem?_eq_getElem hi', Option.map_some, List.getD_eq_getElem?_getD, Array.getElem?_toList, Option.getD_some]
    cases j with
    | zero =>
      simp at hx
      subst hx
      simp [hci]
      exact .val _
    | succ j => simp at hx
end
end Go.Tr

/- Maps made and written; bytes of a string. Conditions: none. -/
import Derived.Test.YtfcagapficjffaaTr01
import Derived.MapKept
import Derived.Laws.IdiomStrings
import Derived.RangeFuncRecord
import Derived.OrdersIn

namespace Go.Tr
open Go Go.RowKit Go.MapKept

section
variable {P : Program} {T : Nat → Option TI} {w w' : World} {c c' : Cx} {base : Nat} {hp hp' : Hp}

def Cx.addN (c : Cx) (n r : Nat) : Cx := { c with N := fun b => if b = n then some r else c.N b }

theorem getElem?_snocM {l : List AM} {x : AM} {i : Nat} {y : AM} (h : (l ++ [x])[i]? = some y) : (i < l.length ∧ l[i]? = some y) ∨ (i = l.length ∧ y = x) := getElem?_snoc h

theorem qout_map (h : HR P base w c hp) (hbase : base ≤ w.heap.size) (hfree : c.N hp.maps.length = none) {o : Obj} {m : AM}
    (hm : Ext w.heap.size w c (w.alloc o) (c.addN hp.maps.length w.heap.size) → MR P (w.alloc o) (c.addN hp.maps.length w.heap.size) m w.heap.size) :
    QOut P base w c hp (w.alloc o) (c.addN hp.maps.length w.heap.size) { hp with maps := hp.maps ++ [m] } := by
  have hw := below_alloc w o
  have e : Ext w.heap.size w c (w.alloc o) (c.addN hp.maps.length w.heap.size) := ⟨hw, fun _ h => h, fun b hb => hw.block b (h.st b hb), fun _ oi h => ⟨oi, h, Nat.le_refl _, fun _ => rfl⟩, fun b r hb => by
    simp only [Cx.addN]; rw [if_neg (fun e => by rw [e, hfree] at hb; cases hb)]; exact hb, fun _ _ h => h⟩
  have hs : (w.alloc o).heap.size = w.heap.size + 1 := by simp
  have hcase : ∀ b r, (c.addN hp.maps.length w.heap.size).N b = some r → (b = hp.maps.length ∧ r = w.heap.size) ∨ (b ≠ hp.maps.length ∧ c.N b = some r) := fun b r hb => by
    simp only [Cx.addN] at hb
    by_cases hbn : b = hp.maps.length
    · rw [if_pos hbn] at hb; exact .inl ⟨hbn, (Option.some.inj hb).symm⟩
    · rw [if_neg hbn] at hb; exact .inr ⟨hbn, hb⟩
  refine ⟨⟨fun b k oi hk hO => h.blk_old e hk hO, h.sep, fun b oi hO hc => by have := h.own b oi hO hc; omega, fun b hb => by have := h.st b hb; omega, fun b m' r hk hO => ?_, fun b r hO => ?_, fun b b' r h1 h2 => ?_, fun b i oi r hO hc hN => ?_⟩, e,
    ⟨fun i x hx => ⟨x, hx, .refl _⟩, fun i x hx => ⟨x, ?_, .refl _⟩⟩, fun _ _ h => h, fun _ _ h => .inl h, fun b r hb => ?_, fun b oi h1 h2 h3 => .inl ⟨h1, h3⟩, fun b r h1 h3 => ?_, fun _ h => .inl h, rfl⟩
  · rcases hcase b r hO with ⟨rfl, rfl⟩ | ⟨hne, hO'⟩
    · rcases getElem?_snocM hk with ⟨hlt', _⟩ | ⟨_, rfl⟩
      · omega
      · exact hm e
    · rcases getElem?_snocM hk with ⟨_, hk''⟩ | ⟨he, _⟩
      · exact h.map_old e hk'' hO'
      · exact absurd he hne
  · rcases hcase b r hO with ⟨rfl, rfl⟩ | ⟨_, hO'⟩
    · omega
    · have := h.mown b r hO'; omega
  · rcases hcase b r h1 with ⟨rfl, rfl⟩ | ⟨hne1, hO1⟩ <;> rcases hcase b' _ h2 with ⟨rfl, hr⟩ | ⟨hne2, hO2⟩
    · rfl
    · have := h.mown b' _ hO2; omega
    · have := h.mown b r hO1; omega
    · exact h.msep b b' r hO1 hO2
  · rcases hcase i r hN with ⟨rfl, rfl⟩ | ⟨_, hN'⟩
    · have := h.own b oi hO hc; omega
    · exact h.bm b i oi r hO hc hN'
  · show (hp.maps ++ [m])[i]? = some x
    rw [List.getElem?_append_left (List.getElem?_eq_some_iff.1 hx).1]; exact hx
  · rcases hcase b r hb with ⟨rfl, rfl⟩ | ⟨_, hO'⟩
    · exact .inr ⟨Nat.le_refl _, by simp⟩
    · exact .inl hO'
  · rcases hcase b r h1 with ⟨rfl, rfl⟩ | ⟨_, hO'⟩
    · have := h.st _ h3; omega
    · exact .inl ⟨hO', h3⟩

theorem make_map (hT : TOK P T) (h : HR P base w c hp) (hbase : base ≤ w.heap.size) {t : TypeId} {o : Oper} {ρ : Operand → AV} {r : Operand → Value} (hop : o.op = .makeMap t none)
    {v : AV} (hev : (opEv T o ρ hp).gives v hp') (hfree : c.N hp.maps.length = none) :
    ∃ u w' c', (execOp r o).run P w = .ok (.value u) w' ∧ QOut P base w c hp w' c' hp' ∧ VR P w' c' v u := by
  unfold opEv at hev
  rw [hop] at hev
  simp only at hev
  split at hev
  · rename_i kt e _ _ _ _ ht
    split at hev
    · rename_i ei ki he hki
      simp only [force0_eq, Hp.addM_eq] at hev
      obtain ⟨rfl, rfl⟩ := hev
      obtain ⟨_, _, _, inf, hinf, _, _, hz⟩ := hT _ _ he
      refine ⟨.map (some w.heap.size), w.alloc (.map #[] 0), _, by simp [execOp, hop, Instr.makeMap], qout_map h hbase hfree fun ex => ?_, .omap _ _ (by simp [Cx.addN])⟩
      refine ⟨#[], 0, heap_alloc_new w _, fun key _ => ⟨none, rfl, rfl⟩, fun key zv _ _ hzz => ?_, by simp, fun key i v _ hh => by simp [Instr.findNow] at hh⟩
      have : zv = ei.zero := by simp [zeroOf, hinf, hz] at hzz; exact hzz.symm
      subst this
      exact constAV_ok (P := P) (w := w.alloc (.map #[] 0)) (c := c.addN hp.maps.length w.heap.size) ei.zero
    · exact hev.elim
  · exact hev.elim

theorem isKey_of {ki : Option IntKind} {key : Value} (h : keyOk ki key) : IsKey (kindOf ki) key := by
  cases ki <;> cases key <;> simp_all [keyOk, IsKey, kindOf]
theorem keyOk_of {ki : Option IntKind} {key : Value} (h : IsKey (kindOf ki) key) : keyOk ki key := by
  cases ki <;> cases key <;> simp_all [keyOk, IsKey, kindOf]

theorem keyEq_iff {ki : Option IntKind} {a b : Value} (ha : keyOk ki a) (hb : keyOk ki b) : opEv.keyEq a b = true ↔ a = b := by
  cases ki <;> cases a <;> cases b <;> simp_all [keyOk, opEv.keyEq, bytes_beq]

/-- Which entry a key finds, behind a write. -/
theorem findNow_push {d : TypeDesc} {k key : Value} {v : Value} {n : Nat} (hk : IsKey d k) (hkey : IsKey d key) : ∀ (l : List MapEntry) (i : Nat), (∀ x ∈ l, IsKey d x.key) → (∀ x ∈ l, x.key ≠ key) →
    (k = key → Instr.findNow d k (l ++ [{ key, val := v, born := n }]) i = some (some (i + l.length, v))) ∧ (k ≠ key → Instr.findNow d k (l ++ [{ key, val := v, born := n }]) i = Instr.findNow d k l i)
  | [], i, _, _ => by
    obtain ⟨r, hr, hiff⟩ := sameNow_of_keys hk hkey
    simp only [List.nil_append, Instr.findNow, hr]
    cases r with
    | true => exact ⟨fun _ => by simp, fun h => absurd (hiff.1 rfl) h⟩
    | false => exact ⟨fun h => (by have := hiff.2 h; cases this), fun _ => rfl⟩
  | e :: l, i, h1, h2 => by
    obtain ⟨r, hr, hiff⟩ := sameNow_of_keys hk (h1 e (.head _))
    have ih := findNow_push (v := v) (n := n) hk hkey l (i + 1) (fun x hx => h1 x (.tail _ hx)) (fun x hx => h2 x (.tail _ hx))
    simp only [List.cons_append, Instr.findNow, hr]
    cases r with
    | true =>
      have : ¬ k = key := fun e' => h2 e (.head _) ((hiff.1 rfl).symm.trans e')
      exact ⟨fun h => absurd h this, fun _ => rfl⟩
    | false => exact ⟨fun h => (by rw [ih.1 h]; simp; omega), fun h => ih.2 h⟩

theorem findNow_modify {d : TypeDesc} {k key : Value} {v : Value} (hk : IsKey d k) (hkey : IsKey d key) : ∀ (l : List MapEntry) (i j : Nat) (e : MapEntry), (∀ x ∈ l, IsKey d x.key) → l[j]? = some e → e.key = key → (∀ q, q < j → ∀ x, l[q]? = some x → x.key ≠ key) →
    (k = key → Instr.findNow d k (l.modify j fun e => { e with key, val := v }) i = some (some (i + j, v))) ∧ (k ≠ key → Instr.findNow d k (l.modify j fun e => { e with key, val := v }) i = Instr.findNow d k l i)
  | [], i, j, e, _, h, _, _ => by simp at h
  | x :: l, i, 0, e, h1, h2, h3, _ => by
    simp at h2
    subst h2
    obtain ⟨r, hr, hiff⟩ := sameNow_of_keys hk hkey
    have hm : (x :: l).modify 0 (fun e => { e with key, val := v }) = { x with key, val := v } :: l := rfl
    rw [hm]
    simp only [Instr.findNow, hr]
    rw [h3, hr]
    cases r with
    | true => exact ⟨fun _ => by simp, fun h => absurd (hiff.1 rfl) h⟩
    | false => exact ⟨fun h => (by have := hiff.2 h; cases this), fun _ => rfl⟩
  | x :: l, i, j + 1, e, h1, h2, h3, h4 => by
    obtain ⟨r, hr, hiff⟩ := sameNow_of_keys hk (h1 x (.head _))
    have ih := findNow_modify (v := v) hk hkey l (i + 1) j e (fun y hy => h1 y (.tail _ hy)) (by simpa using h2) h3 (fun q hq y hy => h4 (q + 1) (by omega) y (by simpa using hy))
    have hx : x.key ≠ key := h4 0 (by omega) x rfl
    have hm : (x :: l).modify (j + 1) (fun e => { e with key, val := v }) = x :: l.modify j (fun e => { e with key, val := v }) := rfl
    rw [hm]
    simp only [Instr.findNow, hr]
    cases r with
    | true =>
      have : ¬ k = key := fun e' => hx ((hiff.1 rfl).symm.trans e')
      exact ⟨fun h => absurd h this, fun _ => rfl⟩
    | false => exact ⟨fun h => (by rw [ih.1 h]; simp; omega), fun h => ih.2 h⟩

theorem findNow_first {d : TypeDesc} {k : Value} (hk : IsKey d k) : ∀ (l : List MapEntry) (i j : Nat) (v : Value), (∀ x ∈ l, IsKey d x.key) → Instr.findNow d k l i = some (some (i + j, v)) →
    ∃ e, l[j]? = some e ∧ e.key = k ∧ ∀ q, q < j → ∀ x, l[q]? = some x → x.key ≠ k
  | [], i, j, v, _, h => by simp [Instr.findNow] at h
  | x :: l, i, j, v, h1, h => by
    obtain ⟨r, hr, hiff⟩ := sameNow_of_keys hk (h1 x (.head _))
    simp only [Instr.findNow, hr] at h
    cases r with
    | true =>
      simp at h
      have hj : j = 0 := by omega
      subst hj
      exact ⟨x, rfl, (hiff.1 rfl).symm, fun q hq => by omega⟩
    | false =>
      simp only at h
      have hge : ∀ (l : List MapEntry) (i a : Nat) (v : Value), Instr.findNow d k l i = some (some (a, v)) → i ≤ a := by
        intro l
        induction l with
        | nil => intro i a v h; simp [Instr.findNow] at h
        | cons y l ih =>
          intro i a v h
          simp only [Instr.findNow] at h
          split at h
          · simp at h; omega
          · have := ih _ _ _ h; omega
          · cases h
      have := hge _ _ _ _ h
      obtain ⟨j', rfl⟩ : ∃ j', j = j' + 1 := ⟨j - 1, by omega⟩
      obtain ⟨e, g1, g2, g3⟩ := findNow_first hk l (i + 1) j' v (fun y hy => h1 y (.tail _ hy)) (by rw [h]; congr 3; omega)
      refine ⟨e, by simpa using g1, g2, fun q hq y hy => ?_⟩
      cases q with
      | zero => simp at hy; subst hy; exact fun e' => by have := hiff.2 e'.symm; cases this
      | succ q => exact g3 q (by omega) y (by simpa using hy)

theorem Below.set {w : World} {r : Nat} {o : Obj} {B : Nat} (h : B ≤ r) : Below B w { w with heap := w.heap.setIfInBounds r o } :=
  ⟨rfl, rfl, rfl, by simp, fun k hk => by simp only [Array.getElem?_setIfInBounds]; rw [if_neg (by omega)]⟩

theorem setM_get {l : List AM} {b i : Nat} {k' x : AM} (h : (setNth l b k')[i]? = some x) : (i = b ∧ x = k') ∨ (i ≠ b ∧ l[i]? = some x) := by
  rw [setNth_eq, List.getElem?_set] at h
  split at h
  · rename_i hb
    split at h
    · exact .inl ⟨hb.symm, (Option.some.inj h).symm⟩
    · cases h
  · rename_i hb; exact .inr ⟨fun e => hb e.symm, h⟩

theorem set_map (h : HR P base w c hp) (ro : RO c hp) {b r : Nat} {m m' : AM} (hm : hp.maps[b]? = some m) (hN : c.N b = some r) (hro : m.ro = false) (hro' : m'.ro = false) {o : Obj}
    (hMR : Ext base w c { w with heap := w.heap.setIfInBounds r o } c → MR P { w with heap := w.heap.setIfInBounds r o } c m' r) :
    EOut P base w c hp { w with heap := w.heap.setIfInBounds r o } c { hp with maps := setNth hp.maps b m' } := by
  have hnp : ¬ c.p r := fun hp' => by
    obtain ⟨k2, hk2, hr2⟩ := ro.m b r hN hp'
    rw [hm] at hk2; cases hk2; rw [hro] at hr2; cases hr2
  obtain ⟨es, clock, hmap, _⟩ := (h.maps b m r hm hN).ex
  have hother : ∀ q, q ≠ r → ({ w with heap := w.heap.setIfInBounds r o } : World).heap[q]? = w.heap[q]? := fun q hq => by
    simp only [Array.getElem?_setIfInBounds]; rw [if_neg (fun e => hq e.symm)]
  have e : Ext base w c { w with heap := w.heap.setIfInBounds r o } c := ⟨Below.set (h.mown b r hN).1, fun _ h => h, fun q hq => hother q (fun e => hnp (e ▸ hq)), fun _ oi h => ⟨oi, h, Nat.le_refl _, fun _ => rfl⟩, fun _ _ h => h, fun _ _ h => h⟩
  have hs : ({ w with heap := w.heap.setIfInBounds r o } : World).heap.size = w.heap.size := by simp
  refine ⟨⟨fun b2 k2 o2 hk2 hO2 => (h.blk b2 k2 o2 hk2 hO2).mono e fun hc => hother _ fun er => ?_, h.sep, fun b2 o2 hO2 hc => by rw [hs]; exact h.own b2 o2 hO2 hc, fun q hq => by rw [hs]; exact h.st q hq, fun b2 m2 r2 hm2 hN2 => ?_, fun b2 r2 hN2 => by rw [hs]; exact h.mown b2 r2 hN2, h.msep, h.bm⟩, e,
    ⟨fun b2 o2 hO2 hc hpp => ro.b b2 o2 hO2 hc hpp, fun b2 r2 hN2 hpp => ?_⟩, rfl, by simp [setNth_eq], fun b2 o2 hO2 => ⟨o2, hO2⟩, fun b2 r2 hN2 => ⟨r2, hN2⟩, fun _ h => h, rfl⟩
  · obtain ⟨cs, t, hrow, _⟩ := (h.blk b2 k2 o2 hk2 hO2).row hc
    rw [er, hmap] at hrow; cases hrow
  · rcases setM_get hm2 with ⟨rfl, rfl⟩ | ⟨hne, hm2'⟩
    · rw [hN] at hN2; cases hN2; exact hMR e
    · exact (h.maps b2 m2 r2 hm2' hN2).mono e (hother r2 fun er => hne (h.msep b2 b r2 hN2 (er ▸ hN)))
  · have hne : b2 ≠ b := fun e => by subst e; rw [hN] at hN2; cases hN2; exact hnp hpp
    obtain ⟨k2, hk2, hr2⟩ := ro.m b2 r2 hN2 hpp
    refine ⟨k2, ?_, hr2⟩
    show (setNth hp.maps b m')[b2]? = some k2
    rw [setNth_eq, List.getElem?_set_ne (fun e => hne e.symm)]; exact hk2

theorem eff_mapUpdate (hT : TOK P T) (h : HR P base w c hp) (ro : RO c hp) {t : TypeId} {o : Oper} {a i x : Operand} {ρ : Operand → AV} {r : Operand → Value} (hop : o.op = .mapUpdate t a i x)
    (ha : VR P w c (ρ a) (r a)) (hi : VR P w c (ρ i) (r i)) (hx : VR P w c (ρ x) (r x)) {v : AV} (hev : (opEv T o ρ hp).gives v hp') :
    ∃ w' c', (execOp r o).run P w = .ok .skip w' ∧ EOut P base w c hp w' c' hp' ∧ v = .top := by
  unfold opEv at hev
  rw [hop] at hev
  simp only at hev
  split at hev
  · rename_i kt et _ _ _ _ b key ht hra hri
    have hd := (hT _ _ ht).1
    split at hev
    · rename_i ki hki
      have hu := find_known hT hki
      split at hev
      · rename_i m hm
        rw [nth?_eq] at hm
        cases hb : (kindIs ki m.ki && keyIs ki key && AV.tree 4 (ρ x) && !m.ro) with
        | false => rw [hb] at hev; exact hev.elim
        | true =>
          rw [hb] at hev
          simp only [cond_true, force1_eq, Hp.setM_eq, AM.wr_eq] at hev
          obtain ⟨rfl, rfl⟩ := hev
          simp only [Bool.and_eq_true, Bool.not_eq_true'] at hb
          obtain ⟨⟨⟨b1, b2⟩, b3⟩, b4⟩ := hb
          have := kindIs_eq b1
          subst this
          have hko := keyIs_ok b2
          have hik := isKey_of hko
          rw [hra] at ha
          rw [hri] at hi
          obtain ⟨q, hq, hN⟩ := ha.omap_inv
          obtain ⟨es, clock, hmap, g1, g2, g3, g4⟩ := (h.maps b m q hm hN).ex
          have hks : ∀ e ∈ es.toList, IsKey (kindOf m.ki) e.key := fun e he => isKey_of (g3 e he)
          have hxt : VT P w c.p (ρ x) (r x) := VR.toVT 4 b3 hx
          have hgo := MapKept.run_getObj_map (P := P) hmap
          have hck := MapKept.run_checkKey (P := P) (w := w) hu hik false 9999
          rcases findNow_spec hik es.toList 0 hks with ⟨f1, f2⟩ | ⟨j, e, f1, f2, f3⟩
          · refine ⟨_, c, ?_, set_map (m' := { m with has := fun k => m.has k || opEv.keyEq k key, get := fun k => bif opEv.keyEq k key then ρ x else m.get k }) h ro hm hN b4 b4 (o := .map (es.push { key, val := r x, born := clock }) (clock + 1)) fun ex => ?_, rfl⟩
            · simp [execOp, hop, hq, hi.val_inv, Instr.mapUpdate, run_underlying hd, hgo, hck, MapKept.run_findKey (P := P) hu f1, MapKept.run_setObj_map (P := P) _ hmap]
            · refine ⟨_, _, (heap_set hmap).1, fun k hk => ?_, fun k zv hk hh hz => ?_, fun e he => ?_, fun k i' v' hk hf => ?_⟩
              · obtain ⟨p1, p2⟩ := findNow_push (v := r x) (n := clock) (isKey_of hk) hik es.toList 0 hks f2
                by_cases hkk : k = key
                · exact ⟨_, by simpa using p1 hkk, by simp [(keyEq_iff hk hko).2 hkk]⟩
                · obtain ⟨o1, h1, h2⟩ := g1 k hk
                  refine ⟨o1, by rw [Array.toList_push, p2 hkk]; exact h1, ?_⟩
                  have : opEv.keyEq k key = false := by
                    cases hq : opEv.keyEq k key with
                    | false => rfl
                    | true => exact absurd ((keyEq_iff hk hko).1 hq) hkk
                  simp [this, h2]
              · simp only [Bool.or_eq_false_iff] at hh
                simp only [hh.2, cond_false]
                exact (g2 k zv hk hh.1 hz).mono ex.p ex.pb
              · simp only [Array.toList_push, List.mem_append, List.mem_singleton] at he
                rcases he with he | rfl
                · exact g3 e he
                · exact hko
              · obtain ⟨p1, p2⟩ := findNow_push (v := r x) (n := clock) (isKey_of hk) hik es.toList 0 hks f2
                rw [Array.toList_push] at hf
                by_cases hkk : k = key
                · rw [p1 hkk] at hf
                  simp only [Option.some.injEq, Prod.mk.injEq] at hf
                  have : opEv.keyEq k key = true := (keyEq_iff hk hko).2 hkk
                  simp only [this, cond_true]
                  rw [← hf.2]
                  exact hxt.mono ex.p ex.pb
                · rw [p2 hkk] at hf
                  have : opEv.keyEq k key = false := by
                    cases hq : opEv.keyEq k key with
                    | false => rfl
                    | true => exact absurd ((keyEq_iff hk hko).1 hq) hkk
                  simp only [this, cond_false]
                  exact (g4 k i' v' hk hf).mono ex.p ex.pb
          · have hj : es[j]? = some e := by simpa using f2
            simp only [Nat.zero_add] at f1
            obtain ⟨e2, q1, q2, q3⟩ := findNow_first hik es.toList 0 j e.val hks (by simpa using f1)
            have hmod : (es.modify j fun e => { e with key, val := r x }).toList = es.toList.modify j fun e => { e with key, val := r x } := by simp
            refine ⟨_, c, ?_, set_map (m' := { m with has := fun k => m.has k || opEv.keyEq k key, get := fun k => bif opEv.keyEq k key then ρ x else m.get k }) h ro hm hN b4 b4 (o := .map (es.modify j fun e => { e with key, val := r x }) clock) fun ex => ?_, rfl⟩
            · simp [execOp, hop, hq, hi.val_inv, Instr.mapUpdate, run_underlying hd, hgo, hck, MapKept.run_findKey (P := P) hu f1, hj, f3, MapKept.run_keyThatStays (P := P) hik, MapKept.run_setObj_map (P := P) _ hmap]
            · refine ⟨_, _, (heap_set hmap).1, fun k hk => ?_, fun k zv hk hh hz => ?_, fun e he => ?_, fun k i' v' hk hf => ?_⟩
              · obtain ⟨p1, p2⟩ := findNow_modify (v := r x) (isKey_of hk) hik es.toList 0 j e2 hks q1 q2 q3
                by_cases hkk : k = key
                · exact ⟨_, by rw [hmod]; exact p1 hkk, by simp [(keyEq_iff hk hko).2 hkk]⟩
                · obtain ⟨o1, h1, h2⟩ := g1 k hk
                  refine ⟨o1, by rw [hmod, p2 hkk]; exact h1, ?_⟩
                  have : opEv.keyEq k key = false := by
                    cases hq : opEv.keyEq k key with
                    | false => rfl
                    | true => exact absurd ((keyEq_iff hk hko).1 hq) hkk
                  simp [this, h2]
              · simp only [Bool.or_eq_false_iff] at hh
                simp only [hh.2, cond_false]
                exact (g2 k zv hk hh.1 hz).mono ex.p ex.pb
              · rw [hmod] at he
                obtain ⟨n, hn, rfl⟩ := List.getElem_of_mem he
                rw [List.getElem_modify]
                split
                · exact hko
                · exact g3 _ (by simp)
              · obtain ⟨p1, p2⟩ := findNow_modify (v := r x) (isKey_of hk) hik es.toList 0 j e2 hks q1 q2 q3
                rw [hmod] at hf
                by_cases hkk : k = key
                · rw [p1 hkk] at hf
                  simp only [Option.some.injEq, Prod.mk.injEq] at hf
                  have : opEv.keyEq k key = true := (keyEq_iff hk hko).2 hkk
                  simp only [this, cond_true]
                  rw [← hf.2]
                  exact hxt.mono ex.p ex.pb
                · rw [p2 hkk] at hf
                  have : opEv.keyEq k key = false := by
                    cases hq : opEv.keyEq k key with
                    | false => rfl
                    | true => exact absurd ((keyEq_iff hk hko).1 hq) hkk
                  simp only [this, cond_false]
                  exact (g4 k i' v' hk hf).mono ex.p ex.pb
      · exact hev.elim
    · exact hev.elim
  · exact hev.elim

theorem make_bytes (hT : TOK P T) (h : HR P base w c hp) {src dst e : TypeId} {s : ByteArray} {ts td te : TI} (hs : T src = some ts) (hs' : ts.desc = .string) (hd : T dst = some td) (hd' : td.desc = .slice e) (he : T e = some te) (he' : te.desc = .int .u8) :
    ∃ u w' c', (convert src dst (.string s)).run P w = .ok u w' ∧ QOut P base w c hp w' c' hp ∧ VR P w' c' (.rslice 1 s.size fun i => [.val (.int .u8 (s.data.toList.getD i 0).toNat)]) u := by
  have h1 := (hT _ _ hs).1
  have h2 := (hT _ _ hd).1
  have h3 := (hT _ _ he).1
  rw [hs'] at h1
  rw [hd'] at h2
  rw [he'] at h3
  have hrun := run_bytes_of_string (P := P) w src dst e s h1 h2 h3
  have hge := grownCap_ge w s.size 0 e
  generalize hC : bytesRow s (grownCap w s.size 0 e) = C at hrun
  have hnew : (w.drew.alloc (.cells C e (C.size, C.size + 1))).heap[w.heap.size]? = some (.cells C e (C.size, C.size + 1)) := heap_alloc_new w.drew _
  have hB : Below w.heap.size w (w.drew.alloc (.cells C e (C.size, C.size + 1))) := ((Below.refl _ _).drew).alloc (by simp) _
  refine ⟨_, _, _, hrun, qout_stable h hB (fun b => b = w.heap.size) (fun b hb => by subst hb; simp), .tree (.rslice 1 s.size _ w.heap.size 0 _ (fun i j => C.getD i undef) hge (.inr rfl) (fun i hi => rfl) (fun i j hi hj => ?_) (fun i j x hi hx => ?_))⟩
  · have hj0 : j = 0 := by omega
    subst hj0
    have hci : C[i]? = some (.int .u8 ((s.data.toList.getD i 0).toNat : Int)) := by
      rw [← hC]
      unfold bytesRow
      have hi' : i < s.data.size := hi
      rw [Array.getElem?_append_left (by simpa using hi')]
      simp only [Array.getElem?_map, Array.getElem?_eq_getElem hi', Option.map_some, List.getD_eq_getElem?_getD, Array.getElem?_toList, Option.getD_some]
    have hcell : (w.drew.alloc (.cells C e (C.size, C.size + 1))).cell? ⟨w.heap.size, 0 + (i * 1 + 0), none⟩ = C[i]? := by
      simp only [World.cell?]
      rw [hnew]
      simp
    rw [hcell, hci]
    simp [hci, Value.oneCell']
  · have hci : C[i]? = some (.int .u8 ((s.data.toList.getD i 0).toNat : Int)) := by
      rw [← hC]
      unfold bytesRow
      have hi' : i < s.data.size := hi
      rw [Array.getElem?_append_left (by simpa using hi')]
      simp only [Array.getElem?_map, Array.getElem?_eq_getElem hi', Option.map_some, List.getD_eq_getElem?_getD, Array.getElem?_toList, Option.getD_some]
    cases j with
    | zero =>
      simp at hx
      subst hx
      simp [hci]
      exact .val _
    | succ j => simp at hx
end
end Go.Tr

/- Values handed to a call as trees; what a call hands back. Conditions: none. -/
namespace Go.Tr
open Go Go.RowKit

section
variable {P : Program} {T : Nat → Option TI} {w w' : World} {c c' : Cx} {base : Nat} {hp hp' : Hp}

/-- The memory behind numbers of blocks and maps, beside what is stable. -/
def qOf (c : Cx) (l : List Nat × List Nat) (b : Nat) : Prop :=
  c.p b ∨ (∃ i ∈ l.1, ∃ oi, c.O i = some oi ∧ oi.cap ≠ 0 ∧ oi.blk = b) ∨ (∃ i ∈ l.2, c.N i = some b)

theorem qOf_mono {l m : List Nat × List Nat} (h1 : ∀ i ∈ l.1, i ∈ m.1) (h2 : ∀ i ∈ l.2, i ∈ m.2) {b : Nat} (h : qOf c l b) : qOf c m b := by
  rcases h with h | ⟨i, hi, h⟩ | ⟨i, hi, h⟩
  · exact .inl h
  · exact .inr (.inl ⟨i, h1 i hi, h⟩)
  · exact .inr (.inr ⟨i, h2 i hi, h⟩)

theorem VT.weaken {p p' : Nat → Prop} (hp : ∀ b, p b → p' b) {x : AV} {v : Value} (h : VT P w p x v) : VT P w p' x v := h.mono hp fun _ _ => rfl

theorem refs_lt : ∀ (n : Nat) (x : AV), (∀ i ∈ (refs hp n x).1, i < hp.blocks.length) ∧ (∀ i ∈ (refs hp n x).2, i < hp.maps.length)
  | 0, x => by simp [refs]
  | n + 1, x => by
    have list : ∀ l : List AV, (∀ i ∈ (l.map (refs hp n)).flatMap (·.1), i < hp.blocks.length) ∧ (∀ i ∈ (l.map (refs hp n)).flatMap (·.2), i < hp.maps.length) := fun l => by
      refine ⟨fun i hi => ?_, fun i hi => ?_⟩
      · obtain ⟨q, hq, hi⟩ := List.mem_flatMap.1 hi
        obtain ⟨y, _, rfl⟩ := List.mem_map.1 hq
        exact (refs_lt n y).1 i hi
      · obtain ⟨q, hq, hi⟩ := List.mem_flatMap.1 hi
        obtain ⟨y, _, rfl⟩ := List.mem_map.1 hq
        exact (refs_lt n y).2 i hi
    cases x with
    | agg l => exact list l
    | tuple l => exact list l
    | func fn nf l => exact list l
    | optr b ver idx sub =>
      simp only [refs]
      split
      · rename_i k hk
        have hlt := (List.getElem?_eq_some_iff.1 (block_some hk).1).1
        cases k.flat with
        | true => simpa using hlt
        | false =>
          simp only [cond_false]
          refine ⟨fun i hi => ?_, (list _).2⟩
          rcases List.mem_cons.1 hi with rfl | hi
          · exact hlt
          · exact (list _).1 i hi
      · simp
    | oslice b ver off len cap =>
      simp only [refs]
      split
      · rename_i k hk
        have hlt := (List.getElem?_eq_some_iff.1 (block_some hk).1).1
        cases k.flat with
        | true => simpa using hlt
        | false => simp
      · simp
    | omap b =>
      simp only [refs]
      split
      · rename_i m hm
        rw [nth?_eq] at hm
        simpa using (List.getElem?_eq_some_iff.1 hm).1
      · simp
    | top => simp [refs]
    | val => simp [refs]
    | eslice => simp [refs]
    | rslice => simp [refs]
    | rptr => simp [refs]
    | rmap => simp [refs]
    | cslice => simp [refs]
    | yld => simp [refs]

theorem freeze_ok (h : HR P base w c hp) : ∀ (n : Nat) {x : AV} {u : Value}, VR P w c x u → VT P w (qOf c (refs hp n x)) (freeze hp n x) u
  | 0, x, u, _ => by simp only [freeze]; exact .top u
  | n + 1, x, u, hx => by
    have tree : ∀ {y : AV} {v : Value}, VT P w c.p y v → ∀ l, VT P w (qOf c l) y v := fun hy l => hy.weaken fun b hb => .inl hb
    have list : ∀ (l : List AV) (vs : Array Value), (∀ i x, l[i]? = some x → VR P w c x (vs.getD i undef)) → ∀ i x, (l.map (freeze hp n))[i]? = some x →
        VT P w (qOf c ((l.map (refs hp n)).flatMap (·.1), (l.map (refs hp n)).flatMap (·.2))) x (vs.getD i undef) := by
      intro l vs hr i x hi
      rw [List.getElem?_map] at hi
      cases hl : l[i]? with
      | none => rw [hl] at hi; cases hi
      | some y =>
        rw [hl] at hi
        simp only [Option.map_some, Option.some.injEq] at hi
        subst hi
        have hm := List.mem_of_getElem? hl
        exact (freeze_ok h n (hr i y hl)).weaken fun b hb => qOf_mono (m := ((l.map (refs hp n)).flatMap (·.1), (l.map (refs hp n)).flatMap (·.2)))
          (fun q hq => List.mem_flatMap.2 ⟨_, List.mem_map.2 ⟨y, hm, rfl⟩, hq⟩) (fun q hq => List.mem_flatMap.2 ⟨_, List.mem_map.2 ⟨y, hm, rfl⟩, hq⟩) hb
    cases x with
    | top => simp only [freeze]; exact .top u
    | yld => simp only [freeze]; exact .top u
    | val v => simp only [freeze]; rw [hx.val_inv]; exact .val v
    | eslice => simp only [freeze]; cases hx with | tree hx => exact tree hx _
    | rslice es len f => simp only [freeze]; cases hx with | tree hx => exact tree hx _
    | cslice es len cc f => simp only [freeze]; cases hx with | tree hx => exact tree hx _
    | rptr l => simp only [freeze]; cases hx with | tree hx => exact tree hx _
    | rmap ki et has get => simp only [freeze]; cases hx with | tree hx => exact tree hx _
    | agg l =>
      obtain ⟨vs, rfl, hs, ho, hr⟩ := hx.agg_inv
      simp only [freeze, refs]
      exact .agg _ vs (by simp [hs]) ho (list l vs hr)
    | tuple l =>
      obtain ⟨vs, rfl, hs, hr⟩ := hx.tuple_inv
      simp only [freeze, refs]
      exact .tuple _ vs (by simp [hs]) (list l vs hr)
    | func fn nf l =>
      obtain ⟨f0, vs, rfl, h0, hs, hr⟩ := hx.func_inv
      simp only [freeze, refs]
      exact .func fn nf _ f0 vs h0 (by rw [hs]; simp) (list l (f0 ++ vs) hr)
    | omap b =>
      obtain ⟨r, rfl, hN⟩ := hx.omap_inv
      simp only [freeze, refs]
      split
      · rename_i m hm
        rw [nth?_eq] at hm
        obtain ⟨es, clock, h1, h2, h3, _, h4⟩ := (h.maps b m r hm hN).ex
        exact .rmap m.ki m.et m.has m.get r es clock (.inr (.inr ⟨b, by simp, hN⟩)) h1 h2 (fun key zv a d g => tree (h3 key zv a d g) _) (fun key i v a d => tree (h4 key i v a d) _)
      · exact .top _
    | optr b ver idx sub =>
      simp only [freeze, refs]
      split
      · rename_i k hk
        obtain ⟨hkb, hkv⟩ := block_some hk
        obtain ⟨oi, hO, hle, _, hv'⟩ := hx.optr_inv
        have hB := h.blk b k oi hkb hO
        obtain ⟨hidx, hu⟩ := hv' (by rw [hB.ver, hkv])
        have hidx' : idx < k.len := by rw [← hB.n]; exact hidx
        have hcap : oi.cap ≠ 0 := by have := hB.le; omega
        have hcell : ∀ (j : Nat) (y : AV), ((k.f idx).drop sub)[j]? = some y → ∃ v, w.cell? ⟨oi.blk, oi.lo + (idx * oi.es + sub) + j, none⟩ = some v ∧ v.oneCell' = true ∧ VR P w c y v ∧ (k.flat = true → VT P w c.p y v) := fun j y hy => by
          rw [getElem?_drop'] at hy
          obtain ⟨v, g1, g2, g3, g4⟩ := hB.cell hidx' hy
          exact ⟨v, by rw [← g1]; congr 2; omega, g2, g3, g4⟩
        have hall : ∀ (j : Nat), j < ((k.f idx).drop sub).length → ∃ v, w.cell? ⟨oi.blk, oi.lo + (idx * oi.es + sub) + j, none⟩ = some v ∧ v.oneCell' = true := fun j hj => by
          obtain ⟨v, g1, g2, _⟩ := hcell j _ (List.getElem?_eq_getElem hj)
          exact ⟨v, g1, g2⟩
        let g : Nat → Value := fun j => (w.cell? ⟨oi.blk, oi.lo + (idx * oi.es + sub) + j, none⟩).getD undef
        have hg : ∀ (j : Nat) (v : Value), w.cell? ⟨oi.blk, oi.lo + (idx * oi.es + sub) + j, none⟩ = some v → g j = v := fun j v hv => by simp only [g, hv, Option.getD_some]
        rw [hu]
        cases hf : k.flat with
        | true =>
          simp only [cond_true]
          refine .rptr _ oi.blk _ g (.inr (.inl ⟨b, by simp, oi, hO, hcap, rfl⟩)) (fun j hj => ?_) (fun j y hy => ?_)
          · obtain ⟨v, g1, g2⟩ := hall j hj
            rw [hg j v g1]; exact ⟨g1, g2⟩
          · obtain ⟨v, g1, _, _, g4⟩ := hcell j y hy
            rw [hg j v g1]; exact tree (g4 hf) _
        | false =>
          simp only [cond_false]
          refine .rptr _ oi.blk _ g (.inr (.inl ⟨b, by simp, oi, hO, hcap, rfl⟩)) (fun j hj => ?_) (fun j y hy => ?_)
          · obtain ⟨v, g1, g2⟩ := hall j (by simpa using hj)
            rw [hg j v g1]; exact ⟨g1, g2⟩
          · rw [List.getElem?_map] at hy
            cases hz : ((k.f idx).drop sub)[j]? with
            | none => rw [hz] at hy; cases hy
            | some z =>
              rw [hz] at hy
              simp only [Option.map_some, Option.some.injEq] at hy
              subst hy
              obtain ⟨v, g1, _, g3, _⟩ := hcell j z hz
              rw [hg j v g1]
              have hm : z ∈ k.f idx := List.mem_of_mem_drop (List.mem_of_getElem? hz)
              exact (freeze_ok h n g3).weaken fun b' hb => qOf_mono (m := (b :: ((k.f idx).map (refs hp n)).flatMap (·.1), ((k.f idx).map (refs hp n)).flatMap (·.2)))
                (fun q hq => List.mem_cons_of_mem _ (List.mem_flatMap.2 ⟨_, List.mem_map.2 ⟨z, hm, rfl⟩, hq⟩)) (fun q hq => List.mem_flatMap.2 ⟨_, List.mem_map.2 ⟨z, hm, rfl⟩, hq⟩) hb
      · exact .top _
    | oslice b ver off len cap =>
      simp only [freeze, refs, shiftF_eq]
      split
      · rename_i k hk
        obtain ⟨hkb, hkv⟩ := block_some hk
        obtain ⟨oi, hO, hle, _, hv'⟩ := hx.oslice_inv
        have hB := h.blk b k oi hkb hO
        obtain ⟨hn1, a, k1, hu, hk1, hk2, hk3, _⟩ := hv' (by rw [hB.ver, hkv])
        rw [hu]
        have hn := hB.n
        have hcell : ∀ (i j : Nat) (y : AV), i < len → (k.f (off + i))[j]? = some y → ∃ v, w.cell? ⟨oi.blk, oi.lo + off * oi.es + (i * k.es + j), none⟩ = some v ∧ v.oneCell' = true ∧ VR P w c y v ∧ (k.flat = true → VT P w c.p y v) := fun i j y hi hy => by
          obtain ⟨v, g1, g2, g3, g4⟩ := hB.cell (by omega : off + i < k.len) hy
          exact ⟨v, by rw [← g1, Nat.add_mul, hB.es]; congr 2; omega, g2, g3, g4⟩
        let g : Nat → Nat → Value := fun i j => (w.cell? ⟨oi.blk, oi.lo + off * oi.es + (i * k.es + j), none⟩).getD undef
        have hg : ∀ (i j : Nat) (v : Value), w.cell? ⟨oi.blk, oi.lo + off * oi.es + (i * k.es + j), none⟩ = some v → g i j = v := fun i j v hv => by simp only [g, hv, Option.getD_some]
        by_cases h0 : len = 0
        · subst h0
          cases k.flat <;> exact .rslice0 _ _ _ _
        · have hk0 : k1 ≠ 0 := by omega
          have hcap : oi.cap ≠ 0 := by omega
          rw [hk3 hk0]
          have hel : ∀ i, i < len → (k.f (off + i)).length = k.es := fun i hi => hB.el _ (by omega)
          have hall : ∀ i j, i < len → j < k.es → ∃ v, w.cell? ⟨oi.blk, oi.lo + off * oi.es + (i * k.es + j), none⟩ = some v ∧ v.oneCell' = true := fun i j hi hj => by
            obtain ⟨v, g1, g2, _⟩ := hcell i j _ hi (List.getElem?_eq_getElem (by rw [hel i hi]; exact hj))
            exact ⟨v, g1, g2⟩
          cases hf : k.flat with
          | true =>
            simp only [cond_true]
            refine .rslice _ _ _ oi.blk _ k1 g hk1 (.inr (.inl ⟨b, by simp, oi, hO, hcap, rfl⟩)) hel (fun i j hi hj => ?_) (fun i j y hi hy => ?_)
            · obtain ⟨v, g1, g2⟩ := hall i j hi hj
              rw [hg i j v g1]; exact ⟨g1, g2⟩
            · obtain ⟨v, g1, _, _, g4⟩ := hcell i j y hi hy
              rw [hg i j v g1]; exact tree (g4 hf) _
          | false =>
            simp only [cond_false]
            refine .rslice _ _ _ oi.blk _ k1 g hk1 (.inr (.inl ⟨b, by simp; exact (List.getElem?_eq_some_iff.1 hkb).1, oi, hO, hcap, rfl⟩)) (fun i hi => by simpa using hel i hi) (fun i j hi hj => ?_) (fun i j y hi hy => ?_)
            · obtain ⟨v, g1, g2⟩ := hall i j hi hj
              rw [hg i j v g1]; exact ⟨g1, g2⟩
            · rw [List.getElem?_map] at hy
              cases hz : (k.f (off + i))[j]? with
              | none => rw [hz] at hy; cases hy
              | some z =>
                rw [hz] at hy
                simp only [Option.map_some, Option.some.injEq] at hy
                subst hy
                obtain ⟨v, g1, _, g3, _⟩ := hcell i j z hi hz
                rw [hg i j v g1]
                exact (freeze_ok h n g3).weaken fun b' hb => qOf_mono (m := (List.range hp.blocks.length, List.range hp.maps.length))
                  (fun q hq => List.mem_range.2 ((refs_lt n z).1 q hq)) (fun q hq => List.mem_range.2 ((refs_lt n z).2 q hq)) hb
      · exact .top _
end
end Go.Tr

/- What a function's contract says; a call by its contract. Conditions: none. -/
namespace Go.Tr
open Go Go.RowKit

/-- What is handed back is memory of its own: from number n on its slices are blocks. -/
def FreshAt (P : Program) (B : Nat) (w' : World) (n : Nat) (r : AV) (u : Value) : Prop :=
  ∀ yv : Nat → Option Nat, ∃ (O' : Nat → Option OI) (q' : Nat → Prop),
    (∀ b oi, O' b = some oi → n ≤ b ∧ b < n + (adopt r n).2.length ∧ (oi.cap ≠ 0 → B ≤ oi.blk ∧ oi.blk < w'.heap.size ∧ ¬ q' oi.blk)) ∧
    (∀ b, q' b → B ≤ b ∧ b < w'.heap.size) ∧
    VR P w' ⟨q', O', fun _ => none, yv⟩ (adopt r n).1 u ∧
    (∀ (i : Nat) (k : AB) (oi : OI), (adopt r n).2[i]? = some k → O' (n + i) = some oi → BR P w' ⟨q', O', fun _ => none, yv⟩ k oi) ∧
    (∀ b b' oi oi', O' b = some oi → O' b' = some oi' → b ≠ b' → oi.blk ≠ oi'.blk ∨ oi.cap = 0 ∨ oi'.cap = 0)

/-- The contract: called with arguments that read so, the function returns what reads so, and turns nothing that was there. fr: the result's slices are memory of its own. -/
def Sound1 (P : Program) (f : FuncId) (args : List AV) (r : AV) (fr : Bool) : Prop :=
  (∀ as w, (callFunc f as).run P w = .ok (.enter f as) w) ∧
  ∀ (w : World) (q : Nat → Prop) (vs : Array Value), (∀ b, q b → b < w.heap.size) → vs.size = args.length → (∀ (i : Nat) x, args[i]? = some x → VT P w q x (vs.getD i undef)) →
    Calls P f vs w fun e w' => ∃ u, e = .returned u ∧ Below w.heap.size w w' ∧
      match fr with
      | false => VT P w' (fun b => q b ∨ (w.heap.size ≤ b ∧ b < w'.heap.size)) r u
      | true => ∀ n, FreshAt P w.heap.size w' n r u

section
variable {P : Program} {T : Nat → Option TI} {w w' : World} {c c' : Cx} {base : Nat} {hp hp' : Hp}

theorem hasNat_iff {l : List Nat} {n : Nat} : hasNat l n = true ↔ n ∈ l := by
  unfold hasNat
  rw [List.any_eq_true]
  constructor
  · rintro ⟨x, hx, h⟩
    have := Nat.eq_of_beq_eq_true h
    exact this ▸ hx
  · intro h
    exact ⟨n, h, Nat.beq_refl n⟩

theorem roB_get (ids : List Nat) : ∀ (l : List AB) (n i : Nat), (roB ids n l)[i]? = (l[i]?).map fun k => bif hasNat ids (n + i) then { k with ro := true } else k
  | [], n, i => by simp [roB]
  | k :: r, n, 0 => by simp [roB]
  | k :: r, n, i + 1 => by
    simp only [roB, List.getElem?_cons_succ]
    rw [roB_get ids r (n + 1) i, show n + 1 + i = n + (i + 1) from by omega]
theorem roM_get (ids : List Nat) : ∀ (l : List AM) (n i : Nat), (roM ids n l)[i]? = (l[i]?).map fun k => bif hasNat ids (n + i) then { k with ro := true } else k
  | [], n, i => by simp [roM]
  | k :: r, n, 0 => by simp [roM]
  | k :: r, n, i + 1 => by
    simp only [roM, List.getElem?_cons_succ]
    rw [roM_get ids r (n + 1) i, show n + 1 + i = n + (i + 1) from by omega]
theorem roB_length (ids : List Nat) : ∀ (l : List AB) (n : Nat), (roB ids n l).length = l.length
  | [], n => by simp [roB]
  | k :: r, n => by simp [roB, roB_length ids r (n + 1)]
theorem roM_length (ids : List Nat) : ∀ (l : List AM) (n : Nat), (roM ids n l).length = l.length
  | [], n => by simp [roM]
  | k :: r, n => by simp [roM, roM_length ids r (n + 1)]

def roHp (hp : Hp) (bs ms : List Nat) : Hp := { hp with blocks := roB bs 0 hp.blocks, maps := roM ms 0 hp.maps }

/-- Behind a call whose result may share memory with its arguments. -/
theorem qout_shared (h : HR P base w c hp) (hw : Below w.heap.size w w') {bs ms : List Nat} (hbs : ∀ i ∈ bs, i < hp.blocks.length) (hms : ∀ i ∈ ms, i < hp.maps.length) :
    QOut P base w c hp w' { c with p := fun b => qOf c (bs, ms) b ∨ (w.heap.size ≤ b ∧ b < w'.heap.size) } (roHp hp bs ms) := by
  have hqlt : ∀ b, qOf c (bs, ms) b → b < w.heap.size := fun b hb => by
    rcases hb with hb | ⟨i, _, oi, hO, hc, rfl⟩ | ⟨i, _, hN⟩
    · exact h.st b hb
    · exact (h.own i oi hO hc).2
    · exact (h.mown i b hN).2
  have e : Ext w.heap.size w c w' { c with p := fun b => qOf c (bs, ms) b ∨ (w.heap.size ≤ b ∧ b < w'.heap.size) } :=
    ⟨hw, fun _ h => .inl (.inl h), fun b hb => hw.block b (h.st b hb), fun _ oi h => ⟨oi, h, Nat.le_refl _, fun _ => rfl⟩, fun _ _ h => h, fun _ _ h => h⟩
  have hs := hw.size
  have hgb : ∀ (i : Nat) (k : AB), (roB bs 0 hp.blocks)[i]? = some k → ∃ k0, hp.blocks[i]? = some k0 ∧ ABro k0 k := fun i k hk => by
    rw [roB_get] at hk
    cases hk0 : hp.blocks[i]? with
    | none => rw [hk0] at hk; cases hk
    | some k0 =>
      rw [hk0] at hk
      simp only [Option.map_some, Option.some.injEq] at hk
      refine ⟨k0, rfl, ?_⟩
      cases hh : hasNat bs (0 + i) with
      | true => rw [hh] at hk; exact .inr hk.symm
      | false => rw [hh] at hk; exact .inl hk.symm
  have hgm : ∀ (i : Nat) (k : AM), (roM ms 0 hp.maps)[i]? = some k → ∃ k0, hp.maps[i]? = some k0 ∧ AMro k0 k := fun i k hk => by
    rw [roM_get] at hk
    cases hk0 : hp.maps[i]? with
    | none => rw [hk0] at hk; cases hk
    | some k0 =>
      rw [hk0] at hk
      simp only [Option.map_some, Option.some.injEq] at hk
      refine ⟨k0, rfl, ?_⟩
      cases hh : hasNat ms (0 + i) with
      | true => rw [hh] at hk; exact .inr hk.symm
      | false => rw [hh] at hk; exact .inl hk.symm
  refine ⟨⟨fun b k oi hk hO => ?_, h.sep, fun b oi hO hc => ?_, fun b hb => ?_, fun b m r hk hO => ?_, fun b r hO => ?_, h.msep, h.bm⟩, e, ⟨fun i k hk => ?_, fun i k hk => ?_⟩, fun _ _ h => h, fun _ _ h => .inl h, fun _ _ h => .inl h, fun b oi h1 h2 h3 => ?_, fun b r h1 h3 => ?_, fun b hb => ?_, rfl⟩
  · obtain ⟨k0, hk0, er⟩ := hgb b k hk
    exact (h.blk_old e hk0 hO).ro er
  · have := h.own b oi hO hc; omega
  · rcases hb with hb | hb
    · have := hqlt b hb; omega
    · exact hb.2
  · obtain ⟨k0, hk0, er⟩ := hgm b m hk
    exact (h.map_old e hk0 hO).ro er
  · have := h.mown b r hO; omega
  · refine ⟨_, by simp only [roHp]; rw [roB_get, hk]; rfl, ?_⟩
    cases hh : hasNat bs (0 + i) with
    | true => exact .inr rfl
    | false => exact .inl rfl
  · refine ⟨_, by simp only [roHp]; rw [roM_get, hk]; rfl, ?_⟩
    cases hh : hasNat ms (0 + i) with
    | true => exact .inr rfl
    | false => exact .inl rfl
  · have hlt := (h.own b oi h1 h2).2
    rcases h3 with (h3 | ⟨i, hi, oi2, hO2, hc2, he⟩ | ⟨i, hi, hN⟩) | h3
    · exact .inl ⟨h1, h3⟩
    · have hib : i = b := by
        by_cases hib : i = b
        · exact hib
        · rcases h.sep i b oi2 oi hO2 h1 hib with h | h | h
          · exact absurd he h
          · exact absurd h hc2
          · exact absurd h h2
      subst hib
      have hl := hbs i hi
      refine .inr ⟨{ hp.blocks[i] with ro := true }, ?_, rfl⟩
      simp only [roHp]
      rw [roB_get, List.getElem?_eq_getElem hl, Nat.zero_add]
      simp [hasNat_iff.2 hi]
    · exact absurd rfl (h.bm b i oi _ h1 h2 hN)
    · omega
  · have hlt := (h.mown b r h1).2
    rcases h3 with (h3 | ⟨i, hi, oi2, hO2, hc2, he⟩ | ⟨i, hi, hN⟩) | h3
    · exact .inl ⟨h1, h3⟩
    · exact absurd he (h.bm i b oi2 r hO2 hc2 h1)
    · have hib := h.msep i b r hN h1
      subst hib
      have hl := hms i hi
      refine .inr ⟨{ hp.maps[i] with ro := true }, ?_, rfl⟩
      simp only [roHp]
      rw [roM_get, List.getElem?_eq_getElem hl, Nat.zero_add]
      simp [hasNat_iff.2 hi]
    · omega
  · rcases hb with (hb | ⟨i, _, oi, hO, hc, he⟩ | ⟨i, _, hN⟩) | hb
    · exact .inl hb
    · exact .inr (.inr (.inl ⟨i, oi, hO, hc, he⟩))
    · exact .inr (.inr (.inr ⟨i, hN⟩))
    · exact .inr (.inl hb.1)

/-- Behind a call whose result is memory of its own. -/
theorem qout_fresh (h : HR P base w c hp) (hbase : base ≤ w.heap.size) (hw : Below w.heap.size w w') {r : AV} {u : Value} (hf : FreshAt P w.heap.size w' hp.blocks.length r u)
    (hfree : ∀ b, hp.blocks.length ≤ b → b < hp.blocks.length + (adopt r hp.blocks.length).2.length → c.O b = none) :
    ∃ c', QOut P base w c hp w' c' { hp with blocks := hp.blocks ++ (adopt r hp.blocks.length).2 } ∧ VR P w' c' (adopt r hp.blocks.length).1 u := by
  obtain ⟨O', q', f1, f2, f3, f4, f5⟩ := hf c.y
  generalize hA : adopt r hp.blocks.length = A at *
  let c' : Cx := { p := fun b => c.p b ∨ q' b, O := fun b => match O' b with | some oi => some oi | none => c.O b, N := c.N, y := c.y }
  have hs := hw.size
  have hcase : ∀ b oi, c'.O b = some oi → O' b = some oi ∨ (O' b = none ∧ c.O b = some oi) := fun b oi hb => by
    simp only [c'] at hb
    cases hO' : O' b with
    | some o2 => rw [hO'] at hb; simp only at hb; exact .inl hb
    | none => rw [hO'] at hb; simp only at hb; exact .inr ⟨rfl, hb⟩
  have hnew : ∀ b oi, O' b = some oi → c'.O b = some oi := fun b oi hb => by simp only [c', hb]
  have hold : ∀ b oi, c.O b = some oi → c'.O b = some oi := fun b oi hb => by
    simp only [c']
    cases hO' : O' b with
    | some o2 => have := (f1 b o2 hO'); rw [hfree b this.1 this.2.1] at hb; cases hb
    | none => exact hb
  have e : Ext w.heap.size w c w' c' := ⟨hw, fun _ h => .inl h, fun b hb => hw.block b (h.st b hb), fun b oi hb => ⟨oi, hold b oi hb, Nat.le_refl _, fun _ => rfl⟩, fun _ _ h => h, fun _ _ h => h⟩
  have e2 : Ext 0 w' ⟨q', O', fun _ => none, c.y⟩ w' c' := ⟨Below.refl _ _, fun _ h => .inr h, fun _ _ => rfl, fun b oi hb => ⟨oi, hnew b oi hb, Nat.le_refl _, fun _ => rfl⟩, (fun b r hb => by cases hb), fun _ _ h => h⟩
  refine ⟨c', ⟨⟨fun b k oi hk hO => ?_, fun b b' o1 o2 h1 h2 hne => ?_, fun b oi hO hc => ?_, fun b hb => ?_, fun b m r hk hO => h.map_old e hk hO, fun b r hO => ?_, h.msep, fun b i oi r hO hc hN => ?_⟩, e,
    ⟨fun i x hx => ⟨x, ?_, .refl _⟩, fun i x hx => ⟨x, hx, .refl _⟩⟩, hold, fun b oi hb => ?_, fun _ _ h => .inl h, fun b oi h1 h2 h3 => ?_, fun b r h1 h3 => .inl ⟨h1, ?_⟩, fun b hb => hb.imp id fun hb => .inl (f2 b hb).1, rfl⟩, f3.mono e2⟩
  · rcases hcase b oi hO with hO' | ⟨_, hO'⟩
    · have hb := f1 b oi hO'
      obtain ⟨i, rfl⟩ : ∃ i, b = hp.blocks.length + i := ⟨b - hp.blocks.length, by omega⟩
      have hk' : A.2[i]? = some k := by
        rw [List.getElem?_append_right (by omega)] at hk
        simpa using hk
      exact (f4 i k oi hk' hO').mono e2 fun _ => rfl
    · have hlt : b < hp.blocks.length := by
        rcases Nat.lt_or_ge b hp.blocks.length with hlt | hge
        · exact hlt
        · have := (List.getElem?_eq_some_iff.1 hk).1
          simp at this
          rw [hfree b hge this] at hO'; cases hO'
      rw [List.getElem?_append_left hlt] at hk
      exact h.blk_old e hk hO'
  · rcases hcase b o1 h1 with g1 | ⟨_, g1⟩ <;> rcases hcase b' o2 h2 with g2 | ⟨_, g2⟩
    · exact f5 b b' o1 o2 g1 g2 hne
    · by_cases hc : o1.cap = 0
      · exact .inr (.inl hc)
      · by_cases hc2 : o2.cap = 0
        · exact .inr (.inr hc2)
        · have := (f1 b o1 g1).2.2 hc; have := h.own b' o2 g2 hc2; exact .inl (by omega)
    · by_cases hc : o2.cap = 0
      · exact .inr (.inr hc)
      · by_cases hc2 : o1.cap = 0
        · exact .inr (.inl hc2)
        · have := (f1 b' o2 g2).2.2 hc; have := h.own b o1 g1 hc2; exact .inl (by omega)
    · exact h.sep b b' o1 o2 g1 g2 hne
  · rcases hcase b oi hO with g | ⟨_, g⟩
    · have := (f1 b oi g).2.2 hc; omega
    · have := h.own b oi g hc; omega
  · rcases hb with hb | hb
    · have := h.st b hb; omega
    · exact (f2 b hb).2
  · have := h.mown b r hO; omega
  · rcases hcase b oi hO with g | ⟨_, g⟩
    · have := (f1 b oi g).2.2 hc; have := h.mown i r hN; omega
    · exact h.bm b i oi r g hc hN
  · rw [List.getElem?_append_left (List.getElem?_eq_some_iff.1 hx).1]; exact hx
  · rcases hcase b oi hb with g | ⟨_, g⟩
    · have := f1 b oi g; exact .inr ⟨this.1, by simp; exact this.2.1⟩
    · exact .inl g
  · rcases hcase b oi h1 with g | ⟨_, g⟩
    · have := (f1 b oi g).2.2 h2
      rcases h3 with h3 | h3
      · have := h.st _ h3; omega
      · exact absurd h3 this.2.2
    · rcases h3 with h3 | h3
      · exact .inl ⟨g, h3⟩
      · have := h.own b oi g h2; have := f2 _ h3; omega
  · rcases h3 with h3 | h3
    · exact h3
    · have := h.mown b r h1; have := f2 _ h3; omega

theorem refsL (l : List AV) : (∀ i ∈ (l.map (refs hp 5)).flatMap (·.1), i < hp.blocks.length) ∧ (∀ i ∈ (l.map (refs hp 5)).flatMap (·.2), i < hp.maps.length) := by
  refine ⟨fun i hi => ?_, fun i hi => ?_⟩
  · obtain ⟨q, hq, hi⟩ := List.mem_flatMap.1 hi
    obtain ⟨y, _, rfl⟩ := List.mem_map.1 hq
    exact (refs_lt 5 y).1 i hi
  · obtain ⟨q, hq, hi⟩ := List.mem_flatMap.1 hi
    obtain ⟨y, _, rfl⟩ := List.mem_map.1 hq
    exact (refs_lt 5 y).2 i hi

/-- A call by its contract. -/
theorem op_call (h : HR P base w c hp) (hbase : base ≤ w.heap.size) {o : Oper} {f : Operand} {args : Array Operand} {ts : Array TypeId} {ρ : Operand → AV} {r : Operand → Value} (hop : o.op = .call { callee := .value f, args, argTypes := ts })
    (hf : VR P w c (ρ f) (r f)) (hx : ∀ x ∈ args, VR P w c (ρ x) (r x)) {g : FuncId} {as : List AV} {bs ms : List Nat} (hev : opEv T o ρ hp = .call g as bs ms) {res : AV} {fr : Bool} (hS : Sound1 P g as res fr)
    (hfree : fr = true → ∀ b, hp.blocks.length ≤ b → b < hp.blocks.length + (adopt res hp.blocks.length).2.length → c.O b = none) :
    ∃ vs, (execOp r o).run P w = .ok (.enter g vs) w ∧ Calls P g vs w fun e w' => ∃ u, e = .returned u ∧ ∃ c',
      match fr with
      | true => QOut P base w c hp w' c' { hp with blocks := hp.blocks ++ (adopt res hp.blocks.length).2 } ∧ VR P w' c' (adopt res hp.blocks.length).1 u
      | false => QOut P base w c hp w' c' (roHp hp bs ms) ∧ VR P w' c' res u := by
  obtain ⟨hin, hcalls⟩ := hS
  unfold opEv at hev
  rw [hop] at hev
  simp only at hev
  split at hev
  · rename_i g' nf cap hrf
    simp only [Res.call.injEq] at hev
    obtain ⟨rfl, rfl, rfl, rfl⟩ := hev
    rw [hrf] at hf
    obtain ⟨f0, cv, hcv, hf0, hcs, hcr⟩ := hf.func_inv
    have hcs' : f0.size + cv.size = cap.length := by simpa using hcs
    refine ⟨f0 ++ args.map r ++ cv, ?_, ?_⟩
    · unfold execOp
      simp only [hop, resolve, hcv, Deferred.ofValue, Sem.run_bind, Sem.run_pure, Result.andThen_ok, invoke]
      simpa using hin (f0 ++ args.map r ++ cv) w
    · -- the arguments as trees
      let L : List AV := cap.take nf ++ args.toList.map ρ ++ cap.drop nf
      have hLe : (cap.take nf).map (refs hp 5) ++ (args.toList.map fun x => refs hp 5 (ρ x)) ++ (cap.drop nf).map (refs hp 5) = L.map (refs hp 5) := by simp [L, -List.map_take, -List.map_drop]
      have hLf : (cap.take nf).map (fz hp) ++ (args.toList.map fun x => fz hp (ρ x)) ++ (cap.drop nf).map (fz hp) = L.map (fz hp) := by simp [L, -List.map_take, -List.map_drop]
      have hLr : ∀ (i : Nat) x, L[i]? = some x → VR P w c x ((f0 ++ args.map r ++ cv).getD i undef) := fun i x hi => by
        simp only [L] at hi
        have htl : (cap.take nf).length = f0.size := by simp; omega
        simp only [Array.getD_eq_getD_getElem?] at hcr ⊢
        by_cases h1 : i < f0.size
        · rw [List.append_assoc, List.getElem?_append_left (by omega), List.getElem?_take, if_pos (by omega)] at hi
          have := hcr i x hi
          rw [Array.getElem?_append_left h1] at this
          rw [Array.append_assoc, Array.getElem?_append_left h1]
          exact this
        · by_cases hlt : i < f0.size + args.size
          · rw [List.append_assoc, List.getElem?_append_right (by omega), List.getElem?_append_left (by simp; omega), List.getElem?_map] at hi
            rw [Array.append_assoc, Array.getElem?_append_right (by omega), Array.getElem?_append_left (by simp; omega)]
            rw [htl] at hi
            have hlt' : i - f0.size < args.size := by omega
            have ha : args.toList[i - f0.size]? = some args[i - f0.size] := by simp [hlt']
            rw [ha] at hi
            simp only [Option.map_some, Option.some.injEq] at hi
            subst hi
            simpa [hlt'] using hx args[i - f0.size] (by simp)
          · have hll : (cap.take nf ++ args.toList.map ρ).length = f0.size + args.size := by rw [List.length_append, htl]; simp
            rw [List.getElem?_append_right (by omega), hll, List.getElem?_drop] at hi
            rw [Array.getElem?_append_right (by simp; omega)]
            have := hcr _ x hi
            rw [Array.getElem?_append_right (by omega)] at this
            have e : i - (f0 ++ args.map r).size = nf + (i - (f0.size + args.size)) - f0.size := by simp; omega
            rw [e]
            exact this
      rw [hLe] at *
      rw [hLf] at hcalls
      obtain ⟨l1, l2⟩ := refsL (hp := hp) L
      have hq : ∀ b, qOf c ((L.map (refs hp 5)).flatMap (·.1), (L.map (refs hp 5)).flatMap (·.2)) b → b < w.heap.size := fun b hb => by
        rcases hb with hb | ⟨i, _, oi, hO, hc, rfl⟩ | ⟨i, _, hN⟩
        · exact h.st b hb
        · exact (h.own i oi hO hc).2
        · exact (h.mown i b hN).2
      have hsz : (f0 ++ args.map r ++ cv).size = (L.map (fz hp)).length := by simp [L]; omega
      refine (hcalls w (qOf c ((L.map (refs hp 5)).flatMap (·.1), (L.map (refs hp 5)).flatMap (·.2))) (f0 ++ args.map r ++ cv) hq hsz fun i x hi => ?_).mono ?_
      · rw [List.getElem?_map] at hi
        cases hl : L[i]? with
        | none => rw [hl] at hi; cases hi
        | some y =>
          rw [hl] at hi
          simp only [Option.map_some, Option.some.injEq] at hi
          subst hi
          have hm := List.mem_of_getElem? hl
          exact (freeze_ok h 5 (hLr i y hl)).weaken fun b hb => qOf_mono (m := ((L.map (refs hp 5)).flatMap (·.1), (L.map (refs hp 5)).flatMap (·.2)))
            (fun q hq => List.mem_flatMap.2 ⟨_, List.mem_map.2 ⟨y, hm, rfl⟩, hq⟩) (fun q hq => List.mem_flatMap.2 ⟨_, List.mem_map.2 ⟨y, hm, rfl⟩, hq⟩) hb
      · rintro e w' ⟨u, rfl, hw, hres⟩
        refine ⟨u, rfl, ?_⟩
        cases fr with
        | true =>
          obtain ⟨c', h1, h2⟩ := qout_fresh h hbase hw (hres hp.blocks.length) (hfree rfl)
          exact ⟨c', h1, h2⟩
        | false => exact ⟨_, qout_shared h hw l1 l2, .tree hres⟩
  · cases hev
  · cases hev

/-- The arguments of a call as they are. -/
theorem raw_args {o : Oper} {f : Operand} {args : Array Operand} {ts : Array TypeId} {ρ : Operand → AV} {r : Operand → Value} (hop : o.op = .call { callee := .value f, args, argTypes := ts })
    (hf : VR P w c (ρ f) (r f)) (hx : ∀ x ∈ args, VR P w c (ρ x) (r x)) {g : FuncId} {as : List AV} {bs ms : List Nat} (hev : opEv T o ρ hp = .call g as bs ms) :
    ∃ vs : Array Value, vs.size = (rawArgs o ρ).length ∧ ∀ (i : Nat) x, (rawArgs o ρ)[i]? = some x → VR P w c x (vs.getD i undef) := by
  unfold opEv at hev
  rw [hop] at hev
  simp only at hev
  split at hev
  · rename_i g' nf cap hrf
    simp only [Res.call.injEq] at hev
    obtain ⟨rfl, rfl, rfl, rfl⟩ := hev
    rw [hrf] at hf
    obtain ⟨f0, cv, hcv, hf0, hcs, hcr⟩ := hf.func_inv
    have hcs' : f0.size + cv.size = cap.length := by simpa using hcs
    have hraw : rawArgs o ρ = cap.take nf ++ args.toList.map ρ ++ cap.drop nf := by
      unfold rawArgs
      rw [hop]
      simp only
      rw [hrf]
    refine ⟨f0 ++ args.map r ++ cv, ?_, ?_⟩
    · rw [hraw]; simp; omega
    · rw [hraw]
      intro i x hi
      have htl : (cap.take nf).length = f0.size := by simp; omega
      simp only [Array.getD_eq_getD_getElem?] at hcr ⊢
      by_cases h1 : i < f0.size
      · rw [List.append_assoc, List.getElem?_append_left (by omega), List.getElem?_take, if_pos (by omega)] at hi
        have := hcr i x hi
        rw [Array.getElem?_append_left h1] at this
        rw [Array.append_assoc, Array.getElem?_append_left h1]
        exact this
      · by_cases hlt : i < f0.size + args.size
        · rw [List.append_assoc, List.getElem?_append_right (by omega), List.getElem?_append_left (by simp; omega), List.getElem?_map] at hi
          rw [Array.append_assoc, Array.getElem?_append_right (by omega), Array.getElem?_append_left (by simp; omega)]
          rw [htl] at hi
          have hlt' : i - f0.size < args.size := by omega
          have ha : args.toList[i - f0.size]? = some args[i - f0.size] := by simp [hlt']
          rw [ha] at hi
          simp only [Option.map_some, Option.some.injEq] at hi
          subst hi
          simpa [hlt'] using hx args[i - f0.size] (by simp)
        · have hll : (cap.take nf ++ args.toList.map ρ).length = f0.size + args.size := by rw [List.length_append, htl]; simp
          rw [List.getElem?_append_right (by omega), hll, List.getElem?_drop] at hi
          rw [Array.getElem?_append_right (by simp; omega)]
          have := hcr _ x hi
          rw [Array.getElem?_append_right (by omega)] at this
          have e : i - (f0 ++ args.map r).size = nf + (i - (f0.size + args.size)) - f0.size := by simp; omega
          rw [e]
          exact this
  · cases hev
  · cases hev

/-- The arguments of a call as they are. -/
theorem op_raw {o : Oper} {f : Operand} {args : Array Operand} {ts : Array TypeId} {ρ : Operand → AV} {r : Operand → Value} (hop : o.op = .call { callee := .value f, args, argTypes := ts })
    (hf : VR P w c (ρ f) (r f)) (hx : ∀ x ∈ args, VR P w c (ρ x) (r x)) {g : FuncId} {as : List AV} {bs ms : List Nat} (hev : opEv T o ρ hp = .call g as bs ms) (hin : ∀ as w, (callFunc g as).run P w = .ok (.enter g as) w) :
    ∃ vs : Array Value, (execOp r o).run P w = .ok (.enter g vs) w ∧ vs.size = (rawArgs o ρ).length ∧ ∀ (i : Nat) x, (rawArgs o ρ)[i]? = some x → VR P w c x (vs.getD i undef) := by
  unfold opEv at hev
  rw [hop] at hev
  simp only at hev
  split at hev
  · rename_i g' nf cap hrf
    simp only [Res.call.injEq] at hev
    obtain ⟨rfl, rfl, rfl, rfl⟩ := hev
    rw [hrf] at hf
    obtain ⟨f0, cv, hcv, hf0, hcs, hcr⟩ := hf.func_inv
    have hcs' : f0.size + cv.size = cap.length := by simpa using hcs
    have hraw : rawArgs o ρ = cap.take nf ++ args.toList.map ρ ++ cap.drop nf := by
      unfold rawArgs
      rw [hop]
      simp only
      rw [hrf]
    refine ⟨f0 ++ args.map r ++ cv, ?_, ?_, ?_⟩
    · unfold execOp
      simp only [hop, resolve, hcv, Deferred.ofValue, Sem.run_bind, Sem.run_pure, Result.andThen_ok, invoke]
      simpa using hin (f0 ++ args.map r ++ cv) w
    · rw [hraw]; simp; omega
    · rw [hraw]
      intro i x hi
      have htl : (cap.take nf).length = f0.size := by simp; omega
      simp only [Array.getD_eq_getD_getElem?] at hcr ⊢
      by_cases h1 : i < f0.size
      · rw [List.append_assoc, List.getElem?_append_left (by omega), List.getElem?_take, if_pos (by omega)] at hi
        have := hcr i x hi
        rw [Array.getElem?_append_left h1] at this
        rw [Array.append_assoc, Array.getElem?_append_left h1]
        exact this
      · by_cases hlt : i < f0.size + args.size
        · rw [List.append_assoc, List.getElem?_append_right (by omega), List.getElem?_append_left (by simp; omega), List.getElem?_map] at hi
          rw [Array.append_assoc, Array.getElem?_append_right (by omega), Array.getElem?_append_left (by simp; omega)]
          rw [htl] at hi
          have hlt' : i - f0.size < args.size := by omega
          have ha : args.toList[i - f0.size]? = some args[i - f0.size] := by simp [hlt']
          rw [ha] at hi
          simp only [Option.map_some, Option.some.injEq] at hi
          subst hi
          simpa [hlt'] using hx args[i - f0.size] (by simp)
        · have hll : (cap.take nf ++ args.toList.map ρ).length = f0.size + args.size := by rw [List.length_append, htl]; simp
          rw [List.getElem?_append_right (by omega), hll, List.getElem?_drop] at hi
          rw [Array.getElem?_append_right (by simp; omega)]
          have := hcr _ x hi
          rw [Array.getElem?_append_right (by omega)] at this
          have e : i - (f0 ++ args.map r).size = nf + (i - (f0.size + args.size)) - f0.size := by simp; omega
          rw [e]
          exact this
  · cases hev
  · cases hev
end
end Go.Tr

/- All operations together. Conditions: none. -/
namespace Go.Tr
open Go Go.RowKit

section
variable {P : Program} {T : Nat → Option TI} {w w' : World} {c c' : Cx} {base : Nat} {hp hp' : Hp}

def QuietOut (P : Program) (base : Nat) (w : World) (c : Cx) (hp hp' : Hp) (x : Sem Next) (v : AV) : Prop :=
  ∃ u w' c', x.run P w = .ok (.value u) w' ∧ QOut P base w c hp w' c' hp' ∧ VR P w' c' v u

theorem PureOut.quiet (h : HR P base w c hp) {x : Sem Value} {v : AV} {o : Oper} {r : Operand → Value} (hx : hp' = hp ∧ PureOut P w c x v) (he : execOp r o = (do pure (.value (← x)))) : QuietOut P base w c hp hp' (execOp r o) v := by
  obtain ⟨rfl, u, h1, h2⟩ := hx
  refine ⟨u, w, c, ?_, qout_same h (Below.refl _ _) rfl, h2⟩
  rw [he]
  simp [h1]

theorem same_quiet (h : HR P base w c hp) {v : AV} {x : Sem Next} (hx : hp' = hp ∧ ∃ u, x.run P w = .ok (.value u) w ∧ VR P w c v u) : QuietOut P base w c hp hp' x v := by
  obtain ⟨rfl, u, h1, h2⟩ := hx
  exact ⟨u, w, c, h1, qout_same h (Below.refl _ _) rfl, h2⟩

theorem append_quiet (hT : TOK P T) (h : HR P base w c hp) (hbase : base ≤ w.heap.size) {o : Oper} {args : Array Operand} {ts : Array TypeId} {ρ : Operand → AV} {r : Operand → Value} (hop : o.op = .call { callee := .builtin .append, args, argTypes := ts })
    (hx : ∀ x ∈ args, VR P w c (ρ x) (r x)) (hq : isEff o ρ = false) {v : AV} (hev : (opEv T o ρ hp).gives v hp') (hfree : ∀ b, hp.blocks.length ≤ b → b < hp'.blocks.length → c.O b = none) :
    QuietOut P base w c hp hp' (execOp r o) v := by
  unfold isEff at hq
  rw [hop] at hq
  simp only at hq
  unfold opEv at hev
  rw [hop] at hev
  simp only at hev
  split at hev
  · rename_i t t' s x hts hargs
    have hts' : ts = #[t, t'] := by rw [← hts]
    obtain ⟨la⟩ := args
    match la, hargs with
    | [], hr => simp at hr
    | [_], hr => simp at hr
    | _ :: _ :: _ :: _, hr => simp at hr
    | [os, ox], hr =>
      simp only [List.map_cons, List.map_nil, List.cons.injEq, and_true] at hr
      obtain ⟨hrs, hrx⟩ := hr
      have hvs := hx os (by simp)
      have hvx := hx ox (by simp)
      rw [hrs] at hvs
      rw [hrx] at hvx
      simp only [List.map_cons, List.map_nil, hrs] at hq
      split at hev
      · rename_i e _ _ _ _ ht
        split at hev
        · rename_i ei m fx he hel
          rw [he] at hel
          simp only at hel
          cases htt : Nat.beq t t' with
          | false => rw [htt] at hel; cases hel
          | true =>
            rw [htt] at hel
            simp only [cond_true] at hel
            have := Nat.eq_of_beq_eq_true htt
            subst this
            obtain ⟨news, hE⟩ := elems_ok h hvx hel
            have hex : ∀ u w', (Builtin.append_ #[t, t] o.type #[r os, r ox]).run P w = .ok u w' → (execOp r o).run P w = .ok (.value u) w' := fun u w' hh => by
              unfold execOp
              simp only [hop, resolve, invoke, builtin, Sem.run_bind, Sem.run_pure, Result.andThen_ok]
              simp [hts', hh]
            cases hb : Nat.blt 0 ei.size with
            | false => simp only [hb, cond_false] at hev; exact hev.elim
            | true =>
              simp only [hb, cond_true] at hev
              split at hev
              · -- an empty slice
                obtain ⟨hby, rfl, rfl⟩ := hev
                have hlen : (hp.addB { es := ei.size, len := m, f := fx, flat := flatOf hp x }).blocks.length = hp.blocks.length + 1 := by simp [Hp.addB]
                have hf := hfree hp.blocks.length (Nat.le_refl _) (by omega)
                cases hvs with
                | tree hvs =>
                  generalize hrs2 : r os = us at hvs
                  cases hvs with
                  | eslice a =>
                    by_cases hm : m = 0
                    · subst hm
                      obtain ⟨u, w', c', g1, g2, g3⟩ := append_none (ty := o.type) hT h hbase hf ht rfl he (a := a) hE (k := { es := ei.size, len := 0, f := fx, flat := flatOf hp x }) rfl rfl rfl
                      exact ⟨u, w', c', hex u w' (by rw [hrs2]; exact g1), g2, g3⟩
                    · have hE0 : Elems P w c ei.size 0 (fun _ => []) true (.slice a 0 0) #[] := ⟨⟨a, 0, rfl, Nat.zero_le _⟩, fun w' _ => by cases a <;> simp [Builtin.firstCells, loadCells, loadCellsFrom], by simp, by simp, by intro i hi; omega, by intro i j y hi; omega⟩
                      obtain ⟨u, w', c', g1, g2, g3⟩ := append_new (ty := o.type) hT h hbase hf ht rfl he hE0 hE (by omega) (by rw [Nat.zero_add]; rw [Nat.mul_add] at hby; omega) (by rw [Nat.mul_add] at hby; omega) (k := { es := ei.size, len := m, f := fx, flat := flatOf hp x }) rfl (by simp) rfl (fun i hi => by simp) (fun hfl => by simpa using hfl)
                      rw [Nat.zero_add] at g3
                      exact ⟨u, w', c', hex u w' (by rw [hrs2]; exact g1), g2, g3⟩
              · rename_i b ver off len cp
                split at hev
                · rename_i k hk
                  cases hb2 : Nat.beq k.es ei.size with
                  | false => rw [hb2] at hev; exact hev.elim
                  | true =>
                    rw [hb2] at hev
                    obtain ⟨⟨hcp, hby⟩, rfl, rfl⟩ := hev
                    have hf := hfree hp.blocks.length (Nat.le_refl _) (by simp [Hp.addB])
                    have hes := Nat.eq_of_beq_eq_true hb2
                    obtain ⟨hkb, hkv⟩ := block_some hk
                    obtain ⟨oi, hO, hle, _, hv'⟩ := hvs.oslice_inv
                    have hB := h.blk b k oi hkb hO
                    obtain ⟨hn1, a, k1, hu, hk1, hk2, hk3, hk4⟩ := hv' (by rw [hB.ver, hkv])
                    have hkc := hk4 cp rfl
                    subst hkc
                    rcases hcp with hcp | ⟨hm, hc0⟩
                    · have hel0 : elemsOf hp ei.size (.oslice b ver off len (some k1)) = some (len, fun i => k.f (off + i)) := by simp [elemsOf, shiftF_eq, hk, hb2]
                      obtain ⟨olds, hE0⟩ := elems_ok h hvs hel0
                      have hfl0 : flatOf hp (.oslice b ver off len (some k1)) = k.flat := by simp [flatOf, hk]
                      rw [hfl0, hu] at hE0
                      obtain ⟨u, w', c', g1, g2, g3⟩ := append_new (ty := o.type) hT h hbase hf ht rfl he hE0 hE hcp (by rw [Nat.mul_add] at hby; omega) (by rw [Nat.mul_add] at hby; omega)
                        (k := { es := ei.size, len := len + m, f := fun i => if i < len then k.f (off + i) else fx (i - len), flat := flatOf hp x && k.flat }) rfl rfl rfl (fun i hi => rfl) (fun hfl => hfl)
                      exact ⟨u, w', c', hex u w' (by rw [hu]; exact g1), g2, g3⟩
                    · subst hm
                      have hl0 : len = 0 := by omega
                      subst hl0
                      rw [hc0] at hu
                      obtain ⟨u, w', c', g1, g2, g3⟩ := append_none (ty := o.type) hT h hbase hf ht rfl he (a := a) hE (k := { es := ei.size, len := 0 + 0, f := fun i => if i < 0 then k.f (off + i) else fx (i - 0), flat := flatOf hp x && k.flat }) rfl rfl rfl
                      exact ⟨u, w', c', hex u w' (by rw [hu]; exact g1), g2, g3⟩
                · exact hev.elim
              · rename_i es len cp f
                cases hb2 : Nat.beq es ei.size with
                | false => rw [hb2] at hev; exact hev.elim
                | true =>
                  rw [hb2] at hev
                  obtain ⟨⟨hcp, hby⟩, rfl, rfl⟩ := hev
                  have hf := hfree hp.blocks.length (Nat.le_refl _) (by simp [Hp.addB])
                  have hel0 : elemsOf hp ei.size (.cslice es len cp f) = some (len, f) := by simp [elemsOf, hb2]
                  obtain ⟨olds, hE0⟩ := elems_ok h hvs hel0
                  have hfl0 : flatOf hp (.cslice es len cp f) = true := rfl
                  rw [hfl0] at hE0
                  obtain ⟨a, hu⟩ : ∃ a, r os = .slice a len cp := by
                    cases hvs with
                    | tree hvs =>
                      generalize r os = us at hvs
                      cases hvs with
                      | cslice0 _ _ _ a => exact ⟨a, rfl⟩
                      | cslice _ _ _ _ b off g => exact ⟨_, rfl⟩
                  rw [hu] at hE0
                  obtain ⟨u, w', c', g1, g2, g3⟩ := append_new (ty := o.type) hT h hbase hf ht rfl he hE0 hE hcp (by rw [Nat.mul_add] at hby; omega) (by rw [Nat.mul_add] at hby; omega)
                    (k := { es := ei.size, len := len + m, f := fun i => if i < len then f i else fx (i - len), flat := flatOf hp x }) rfl rfl rfl (fun i hi => rfl) (fun hfl => by simpa using hfl)
                  exact ⟨u, w', c', hex u w' (by rw [hu]; exact g1), g2, g3⟩
              · simp at hq
              · exact hev.elim
        · exact hev.elim
      · exact hev.elim
  · exact hev.elim

theorem append_eff (hT : TOK P T) (h : HR P base w c hp) (ro : RO c hp) (hbase : base ≤ w.heap.size) {o : Oper} {args : Array Operand} {ts : Array TypeId} {ρ : Operand → AV} {r : Operand → Value} (hop : o.op = .call { callee := .builtin .append, args, argTypes := ts })
    (hx : ∀ x ∈ args, VR P w c (ρ x) (r x)) (hq : isEff o ρ = true) {v : AV} (hev : (opEv T o ρ hp).gives v hp') :
    ∃ u w' c', (execOp r o).run P w = .ok (.value u) w' ∧ EOut P base w c hp w' c' hp' ∧ VR P w' c' v u := by
  unfold isEff at hq
  rw [hop] at hq
  simp only at hq
  unfold opEv at hev
  rw [hop] at hev
  simp only at hev
  split at hev
  · rename_i t t' s x hts hargs
    have hts' : ts = #[t, t'] := by rw [← hts]
    obtain ⟨la⟩ := args
    match la, hargs with
    | [], hr => simp at hr
    | [_], hr => simp at hr
    | _ :: _ :: _ :: _, hr => simp at hr
    | [os, ox], hr =>
      simp only [List.map_cons, List.map_nil, List.cons.injEq, and_true] at hr
      obtain ⟨hrs, hrx⟩ := hr
      have hvs := hx os (by simp)
      have hvx := hx ox (by simp)
      rw [hrs] at hvs
      rw [hrx] at hvx
      simp only [List.map_cons, List.map_nil, hrs] at hq
      split at hev
      · rename_i e _ _ _ _ ht
        split at hev
        · rename_i ei m fx he hel
          rw [he] at hel
          simp only at hel
          cases htt : Nat.beq t t' with
          | false => rw [htt] at hel; cases hel
          | true =>
            rw [htt] at hel
            simp only [cond_true] at hel
            have := Nat.eq_of_beq_eq_true htt
            subst this
            obtain ⟨news, hE⟩ := elems_ok h hvx hel
            have hex : ∀ u w', (Builtin.append_ #[t, t] o.type #[r os, r ox]).run P w = .ok u w' → (execOp r o).run P w = .ok (.value u) w' := fun u w' hh => by
              unfold execOp
              simp only [hop, resolve, invoke, builtin, Sem.run_bind, Sem.run_pure, Result.andThen_ok]
              simp [hts', hh]
            cases hb : Nat.blt 0 ei.size with
            | false => simp only [hb, cond_false] at hev; exact hev.elim
            | true =>
              simp only [hb, cond_true] at hev
              split at hev
              · simp at hq
              · simp at hq
              · simp at hq
              · rename_i b ver off len
                split at hev
                · rename_i k hk
                  cases hb2 : (Nat.beq k.es ei.size && !k.ro) with
                  | false => rw [hb2] at hev; exact hev.elim
                  | true =>
                    rw [hb2] at hev
                    obtain ⟨hby, rfl, rfl⟩ := hev
                    simp only [Bool.and_eq_true, Bool.not_eq_true'] at hb2
                    have hes := Nat.eq_of_beq_eq_true hb2.1
                    obtain ⟨hkb, hkv⟩ := block_some hk
                    obtain ⟨oi, hO, hle, _, hv'⟩ := hvs.oslice_inv
                    have hB := h.blk b k oi hkb hO
                    obtain ⟨hn1, a, k1, hu, hk1, hk2, hk3, hk4⟩ := hv' (by rw [hB.ver, hkv])
                    have hel0 : elemsOf hp ei.size (.oslice b ver off len none) = some (len, fun i => k.f (off + i)) := by simp [elemsOf, shiftF_eq, hk, hb2.1]
                    obtain ⟨olds, hE0⟩ := elems_ok h hvs hel0
                    have hfl0 : flatOf hp (.oslice b ver off len none) = k.flat := by simp [flatOf, hk]
                    rw [hfl0, hu] at hE0
                    rw [← hkv]
                    obtain ⟨u, w', c', g1, g2, g3⟩ := append_own (ty := o.type) hT h ro hbase ht rfl he hkb hO hb2.2 hes hn1 hk1 hk2 hk3 hE0 hE (by rw [Nat.mul_add] at hby; omega) (by rw [Nat.mul_add] at hby; omega)
                      (k' := { k with len := len + m, ver := k.ver + 1, f := fun i => if i < len then k.f (off + i) else fx (i - len), flat := flatOf hp x && k.flat }) rfl rfl rfl hb2.2 (fun i hi => rfl) (fun hfl => hfl)
                    exact ⟨u, w', c', hex u w' (by rw [hu]; exact g1), g2, g3⟩
                · exact hev.elim
              · exact hev.elim
        · exact hev.elim
      · exact hev.elim
  · exact hev.elim

theorem mem_operands {o : Oper} {op : Op} (h : o.op = op) {x : Operand} (hx : x ∈ op.operands) : x ∈ o.op.operands := by rw [h]; exact hx

theorem binEv_any {op : BinOp} {d : Option TI} {x y : AV} {h h' : Hp} {p : Prop} {dp : Decidable p} {b : Bool} (hev : binEv op d x y h = @Res.anyB p dp b h') : False := by
  unfold binEv at hev
  repeat' split at hev
  all_goals first
    | cases hev
    | (unfold aggEv at hev
       (repeat' split at hev)
       all_goals first
         | cases hev
         | (simp only [Bool.cond_eq_ite] at hev
            (repeat' split at hev)
            all_goals cases hev))

/-- A truth value that is not known. -/
theorem any_real (hT : TOK P T) {o : Oper} {ρ : Operand → AV} {r : Operand → Value} (hcst : ∀ v, r (.const v) = v) (hρ : ∀ x ∈ o.op.operands, VR P w c (ρ x) (r x)) {p : Prop} {dp : Decidable p} {b : Bool} {h' : Hp}
    (hev : opEv T o ρ hp = @Res.anyB p dp b h') : h' = hp ∧ ∃ b' : Bool, (p → b' = b) ∧ (execOp r o).run P w = .ok (.value (.bool b')) w := by
  have key : ∀ op t x y ty, o.op = .binOp op t x y ty → h' = hp ∧ ∃ b' : Bool, (p → b' = b) ∧ (execOp r o).run P w = .ok (.value (.bool b')) w := by
    intro op t x y ty hop
    unfold opEv at hev; rw [hop] at hev
    simp only at hev
    split at hev
    · rename_i hn
      obtain ⟨e1, b', e2, e3⟩ := real_nil (t := t) (x := x) (y := y) (fun d hd => (hT _ _ hd).1) (hρ x (mem_operands hop (by simp [Op.operands]))) hcst hn hev
      refine ⟨e1, b', e2, ?_⟩
      have he : execOp r o = (do pure (.value (← (do eqGuard op t x y (r x) (r y); binOp op t (r x) (r y))))) := by simp [execOp, hop]
      rw [he, Sem.run_bind, e3]
      rfl
    · exact (binEv_any hev).elim
  by_cases hb : ∃ op t x y ty, o.op = .binOp op t x y ty
  · obtain ⟨op, t, x, y, ty, hop⟩ := hb
    exact key op t x y ty hop
  · exfalso
    unfold opEv at hev
    split at hev
    all_goals try simp only [Bool.cond_eq_ite, forceNr_eq, forceC_eq, forceT_eq, force0_eq, force1_eq] at hev
    all_goals (repeat' split at hev)
    all_goals first
      | (cases hev; done)
      | exact hb ⟨_, _, _, _, _, by assumption⟩

/-- An operation that turns no old memory, other than a call. -/
theorem quiet_op (hT : TOK P T) (h : HR P base w c hp) (hbase : base ≤ w.heap.size) {o : Oper} {ρ : Operand → AV} {r : Operand → Value} (hcst : ∀ v, r (.const v) = v) (hρ : ∀ x ∈ o.op.operands, VR P w c (ρ x) (r x)) (hq : isEff o ρ = false)
    {v : AV} (hev : (opEv T o ρ hp).gives v hp') (hfree : ∀ b, hp.blocks.length ≤ b → b < hp'.blocks.length → c.O b = none) (hfreeM : ∀ b, hp.maps.length ≤ b → b < hp'.maps.length → c.N b = none) :
    QuietOut P base w c hp hp' (execOp r o) v := by
  have fre : ∀ k, hp' = hp.addB k → c.O hp.blocks.length = none := fun k hk => hfree _ (Nat.le_refl _) (by subst hk; simp [Hp.addB])
  cases hop : o.op with
  | move x =>
    have hx := hρ x (mem_operands hop (by simp [Op.operands]))
    unfold opEv at hev; rw [hop] at hev
    obtain ⟨rfl, rfl⟩ := hev
    exact ⟨r x, w, c, by simp [execOp, hop], qout_same h (Below.refl _ _) rfl, hx⟩
  | assign x =>
    have hx := hρ x (mem_operands hop (by simp [Op.operands]))
    unfold opEv at hev; rw [hop] at hev
    obtain ⟨rfl, rfl⟩ := hev
    exact ⟨r x, w, c, by simp [execOp, hop], qout_same h (Below.refl _ _) rfl, hx⟩
  | pick x a b =>
    have hx := hρ x (mem_operands hop (by simp [Op.operands]))
    have ha := hρ a (mem_operands hop (by simp [Op.operands]))
    have hb := hρ b (mem_operands hop (by simp [Op.operands]))
    unfold opEv at hev; rw [hop] at hev
    simp only at hev
    split at hev
    · rename_i hr; rw [hr] at hx
      obtain ⟨rfl, rfl⟩ := hev
      exact ⟨r a, w, c, by simp [execOp, hop, hx.val_inv, asBool], qout_same h (Below.refl _ _) rfl, ha⟩
    · rename_i hr; rw [hr] at hx
      obtain ⟨rfl, rfl⟩ := hev
      exact ⟨r b, w, c, by simp [execOp, hop, hx.val_inv, asBool], qout_same h (Below.refl _ _) rfl, hb⟩
    · exact hev.elim
  | alloc t =>
    have hf : c.O hp.blocks.length = none := by
      have hev2 := hev
      unfold opEv at hev2; rw [hop] at hev2; simp only at hev2
      split at hev2
      · simp only [forceNr_eq, forceC_eq] at hev2; obtain ⟨_, e⟩ := hev2; exact fre _ e.symm
      · exact hev2.elim
    exact make_alloc hT h hbase hop hev hf
  | box t x =>
    have hf : c.O hp.blocks.length = none := by
      have hev2 := hev
      unfold opEv at hev2; rw [hop] at hev2; simp only at hev2
      split at hev2
      · rename_i ti _
        cases hb : (Nat.beq (ρ x).cells.length ti.size && (ρ x).storable) with
        | false => rw [hb] at hev2; exact hev2.elim
        | true => rw [hb] at hev2; simp only [cond_true, forceNr_eq, forceC_eq, forceT_eq] at hev2; obtain ⟨_, e⟩ := hev2; exact fre _ e.symm
      · exact hev2.elim
    exact make_box h hbase hop (hρ x (mem_operands hop (by simp [Op.operands]))) hev hf
  | build t ps => exact same_quiet h (pure_build hT hop (fun p hp' => hρ p.2 (mem_operands hop (by simp [Op.operands]; exact ⟨p.1, by simpa using hp'⟩))) hev)
  | buildSlice t n ps =>
    have hf : c.O hp.blocks.length = none := by
      have hev2 := hev
      unfold opEv at hev2; rw [hop] at hev2; simp only at hev2
      split at hev2
      · split at hev2
        · rename_i ei _
          split at hev2
          · cases hb : (Nat.ble (n * ei.size) 100000 && Nat.blt 0 ei.size) with
            | false => rw [hb] at hev2; exact hev2.elim
            | true => rw [hb] at hev2; simp only [cond_true, forceNr_eq, forceC_eq, forceT_eq] at hev2; obtain ⟨_, e⟩ := hev2; exact fre _ e.symm
          · exact hev2.elim
        · exact hev2.elim
      · exact hev2.elim
    exact make_buildSlice hT h hbase hop (fun p hp' => hρ p.2 (mem_operands hop (by simp [Op.operands]; exact ⟨p.1, by simpa using hp'⟩))) hev hf
  | load t x => exact PureOut.quiet h (pure_load hT h hop (hρ x (mem_operands hop (by simp [Op.operands]))) hev) (by simp [execOp, hop])
  | binOp op t x y ty =>
    have hx := hρ x (mem_operands hop (by simp [Op.operands]))
    have hy := hρ y (mem_operands hop (by simp [Op.operands]))
    unfold opEv at hev; rw [hop] at hev
    have hd : ∀ d, T t = some d → P.underlying t = some d.desc := fun d hd => (hT _ _ hd).1
    simp only at hev
    split at hev
    · rename_i hn
      exact PureOut.quiet h (pure_nil (t := t) (x := x) (y := y) hd hx hcst hn hev) (by simp [execOp, hop])
    · exact PureOut.quiet h (pure_bin (t := t) (x := x) (y := y) hd (fun ti ks h1 h2 => hT.kinds _ _ _ h1 h2) hx hy hev) (by simp [execOp, hop])
  | unOp op t x => exact PureOut.quiet h (pure_un hop (hρ x (mem_operands hop (by simp [Op.operands]))) hev) (by simp [execOp, hop])
  | convert src dst x =>
    have hx := hρ x (mem_operands hop (by simp [Op.operands]))
    unfold opEv at hev; rw [hop] at hev
    simp only at hev
    split at hev
    · rename_i _ hs hd hr
      exact PureOut.quiet h (pure_convert hT hx hs hd hr hev) (by simp [execOp, hop])
    · rename_i _ _ _ _ _ _ _ _ s hs hd hr
      split at hev
      · rename_i he
        obtain ⟨rfl, rfl⟩ := hev
        rw [hr] at hx
        obtain ⟨u, w', c', g1, g2, g3⟩ := make_bytes hT h (s := s) hs rfl hd rfl he rfl
        exact ⟨u, w', c', by simp [execOp, hop, hx.val_inv, g1], g2, g3⟩
      · exact hev.elim
    · exact hev.elim
  | makeFunc fn first captured =>
    unfold opEv at hev; rw [hop] at hev
    simp only at hev
    obtain ⟨rfl, rfl⟩ := hev
    refine ⟨.func fn (first.map r) (captured.map r), w, c, by simp [execOp, hop, Instr.makeFunc], qout_same h (Below.refl _ _) rfl, .func fn _ _ _ _ (by simp) (by simp) fun i x hi => ?_⟩
    have e : first.map r ++ captured.map r = (first ++ captured).map r := by simp
    have e2 : first.toList.map ρ ++ captured.toList.map ρ = (first ++ captured).toList.map ρ := by simp
    rw [e]
    rw [e2, List.getElem?_map] at hi
    cases hc : (first ++ captured).toList[i]? with
    | none => rw [hc] at hi; cases hi
    | some y =>
      rw [hc] at hi
      simp only [Option.map_some, Option.some.injEq] at hi
      subst hi
      have hm : y ∈ first ++ captured := by
        have := List.mem_of_getElem? hc
        simpa using this
      have := hρ y (mem_operands hop (by simp [Op.operands]; simpa using hm))
      have hy : (first ++ captured)[i]? = some y := by rw [← Array.getElem?_toList]; exact hc
      simp only [Array.getD_eq_getD_getElem?, Array.getElem?_map, hy, Option.map_some, Option.getD_some]
      exact this
  | makeMap t rs =>
    cases rs with
    | none =>
      have hf : c.N hp.maps.length = none := by
        have hev2 := hev
        unfold opEv at hev2; rw [hop] at hev2; simp only at hev2
        split at hev2
        · split at hev2
          · simp only [force0_eq, Hp.addM_eq] at hev2; obtain ⟨_, rfl⟩ := hev2; exact hfreeM _ (Nat.le_refl _) (by simp)
          · exact hev2.elim
        · exact hev2.elim
      exact make_map hT h hbase hop hev hf
    | some q => unfold opEv at hev; rw [hop] at hev; exact hev.elim
  | makeSlice t l m =>
    have hf : c.O hp.blocks.length = none := by
      have hev2 := hev
      unfold opEv at hev2; rw [hop] at hev2; simp only at hev2
      split at hev2
      · split at hev2
        · rename_i ei _
          cases hb : Nat.blt 0 ei.size with
          | false => rw [hb] at hev2; exact hev2.elim
          | true => rw [hb] at hev2; obtain ⟨_, _, e⟩ := hev2; exact fre _ e.symm
        · exact hev2.elim
      · exact hev2.elim
    exact make_makeSlice hT h hbase hop (hρ l (mem_operands hop (by simp [Op.operands]))) (hρ m (mem_operands hop (by simp [Op.operands]))) hev hf
  | slice t x lo hi mx =>
    cases mx with
    | none =>
      refine PureOut.quiet h (pure_slice hT h hop (hρ x (mem_operands hop (by simp [Op.operands]))) (fun y hy => hρ y (mem_operands hop (by simp [Op.operands, hy]))) (fun y hy => hρ y (mem_operands hop (by simp [Op.operands, hy]))) hev) (by simp [execOp, hop])
    | some q =>
      refine PureOut.quiet h (pure_slice3 hT hop (hρ x (mem_operands hop (by simp [Op.operands]))) (fun y hy => hρ y (mem_operands hop (by simp [Op.operands, hy]))) (fun y hy => hρ y (mem_operands hop (by simp [Op.operands, hy]))) (hρ q (mem_operands hop (by simp [Op.operands]))) hev) (by simp [execOp, hop])
  | fieldAddr s x i => exact PureOut.quiet h (pure_fieldAddr hT h hop (hρ x (mem_operands hop (by simp [Op.operands]))) hev) (by simp [execOp, hop])
  | field s x i => exact PureOut.quiet h (pure_field hT hop (hρ x (mem_operands hop (by simp [Op.operands]))) hev) (by simp [execOp, hop])
  | indexAddr t x i => exact PureOut.quiet h (pure_indexAddr hT h hop (hρ x (mem_operands hop (by simp [Op.operands]))) (hρ i (mem_operands hop (by simp [Op.operands]))) hev) (by simp [execOp, hop])
  | index t x i => exact PureOut.quiet h (pure_index hT hop (hρ x (mem_operands hop (by simp [Op.operands]))) (hρ i (mem_operands hop (by simp [Op.operands]))) hev) (by simp [execOp, hop])
  | lookup t x i ok => exact PureOut.quiet h (pure_lookup hT h hop (hρ x (mem_operands hop (by simp [Op.operands]))) (hρ i (mem_operands hop (by simp [Op.operands]))) hev) (by simp [execOp, hop])
  | extract x i => exact PureOut.quiet h (pure_extract hop (hρ x (mem_operands hop (by simp [Op.operands]))) hev) (by simp [execOp, hop])
  | nilCheck x =>
    have hx := hρ x (mem_operands hop (by simp [Op.operands]))
    unfold opEv at hev; rw [hop] at hev
    simp only at hev
    split at hev
    · rename_i hr
      split at hev
      · rename_i k hk
        obtain ⟨rfl, rfl⟩ := hev
        rw [hr] at hx
        obtain ⟨a, hu, _, _⟩ := optr_move h hx hk
        exact ⟨r x, w, c, by simp [execOp, hop, hu], qout_same h (Below.refl _ _) rfl, hx⟩
      · exact hev.elim
    · rename_i hr
      obtain ⟨rfl, rfl⟩ := hev
      rw [hr] at hx
      obtain ⟨a, hu, _, _⟩ := rptr_move hx
      exact ⟨r x, w, c, by simp [execOp, hop, hu], qout_same h (Below.refl _ _) rfl, hx⟩
    · exact hev.elim
  | call cl =>
    obtain ⟨callee, args, ts⟩ := cl
    have hargs : ∀ x ∈ args, VR P w c (ρ x) (r x) := fun x hx => hρ x (mem_operands hop (by simp [Op.operands, Call.operands, hx]))
    cases callee with
    | builtin b =>
      cases b with
      | len => exact same_quiet h (pure_len hT h hop hargs hev)
      | max => exact same_quiet h (pure_max hop hargs hev)
      | min => exact same_quiet h (pure_min hop hargs hev)
      | append => exact append_quiet hT h hbase hop hargs hq hev hfree
      | _ => unfold opEv at hev; rw [hop] at hev; exact hev.elim
    | value f =>
      unfold opEv at hev; rw [hop] at hev
      simp only at hev
      split at hev <;> exact hev.elim
    | invoke a b => unfold opEv at hev; rw [hop] at hev; exact hev.elim
  | store t a x => simp [isEff, hop] at hq
  | mapUpdate t a b x => simp [isEff, hop] at hq
  | _ => unfold opEv at hev; rw [hop] at hev; exact hev.elim
end
end Go.Tr

/- A region in the order of its text; the rules of Code; a function's body. Conditions: none. -/
namespace Go.Tr
open Go Go.RowKit

section
variable {P : Program} {T : Nat → Option TI}

/-- By what code a loop was left. -/
def codeOf : Ex → Option Code
  | .normal => none
  | .exit i => some (.exit i)
  | .ret => some .ret

abbrev RcT := LoopState → Option Code → Loop
def recAt (rc : RcT) : Option Ex → Loop
  | none => rc .ready none
  | some e => rc .done (codeOf e)

/-- A frame: its size; what the slots of the frames below hold; the loop whose round it is; what stays as it is; the loop whose function it is. -/
structure Fr where
  n : Nat
  X : Nat → Value
  r : Option Nat
  G : List (Nat × Obj × Option Nat)
  rc : Option (Nat × Nat × RcT)

def FR (r : Option Nat) : Fence := { Fence.wide with round := r }
def markOf (D : Nat) : Deferred := { target := .collected D, args := #[] }

/-- What is known of the heap and of the frames below. w0: the world when the call began; q: what was stable then. -/
structure HS (P : Program) (X : Nat → Value) (G : List (Nat × Obj × Option Nat)) (rc : Option (Nat × Nat × RcT)) (w0 : World) (q : Nat → Prop) (hp : Hp) (sv : List (Nat × AV)) (w : World) (c : Cx) : Prop where
  hr : HR P w0.heap.size w c hp
  ro : RO c hp
  hi : ∀ b oi, c.O b = some oi → b < hp.blocks.length
  hiM : ∀ b r, c.N b = some r → b < hp.maps.length
  hy : ∀ i l, c.y i = some l → i < hp.ny
  below : Below w0.heap.size w0 w
  pq : ∀ b, c.p b → q b ∨ w0.heap.size ≤ b
  sv : ∀ i, VR P w c (look sv i) (X i)
  keep : ∀ x ∈ G, c.p x.1 ∧ w0.heap.size ≤ x.1 ∧ w.heap[x.1]? = some x.2.1 ∧ ∀ i, x.2.2 = some i → c.y i = some x.1
  rcd : ∀ i l rc', rc = some (i, l, rc') → c.y i = some l ∧ c.p l ∧ w0.heap.size ≤ l ∧ w.heap[l]? = some (.loop (recAt rc' hp.jump))

/-- The state as it is known, the frame and the world as they are. -/
structure SR (P : Program) (F : Fr) (w0 : World) (q : Nat → Prop) (s : St) (a : Act) (w : World) (c : Cx) : Prop extends HS P F.X F.G F.rc w0 q s.hp s.sv w c where
  tm : ∀ t, VR P w c (look s.tm t) (a.tmps.getD t undef)
  size : a.tmps.size = F.n
  defers : ∃ ds : List Nat, a.defers = ds.map markOf ∧ ds.Nodup ∧ ∀ D ∈ ds, c.p D ∧ w0.heap.size ≤ D ∧ w.heap[D]? = some (.deferred (some [])) ∧ ∀ x ∈ F.G, x.1 ≠ D

theorem HS.moved {X : Nat → Value} {G : List (Nat × Obj × Option Nat)} {rc : Option (Nat × Nat × RcT)} {w0 w w' : World} {q : Nat → Prop} {hp hp' : Hp} {sv : List (Nat × AV)} {c c' : Cx} (h : HS P X G rc w0 q hp sv w c) (hr : HR P w0.heap.size w' c' hp') (ro : RO c' hp') (e : Ext w0.heap.size w c w' c')
    (hi : ∀ b oi, c'.O b = some oi → b < hp'.blocks.length) (hiM : ∀ b r, c'.N b = some r → b < hp'.maps.length) (hy : ∀ i l, c'.y i = some l → i < hp'.ny) (pq : ∀ b, c'.p b → q b ∨ w0.heap.size ≤ b) (hj : hp'.jump = hp.jump) : HS P X G rc w0 q hp' sv w' c' :=
  ⟨hr, ro, hi, hiM, hy, h.below.trans e.below, pq, fun i => (h.sv i).mono e, fun x hx => by obtain ⟨g1, g2, g3, g4⟩ := h.keep x hx; exact ⟨e.p _ g1, g2, (e.pb _ g1).trans g3, fun i hi => e.y _ _ (g4 i hi)⟩,
    fun i l rc' hrc => by obtain ⟨g1, g2, g3, g4⟩ := h.rcd i l rc' hrc; exact ⟨e.y _ _ g1, e.p _ g2, g3, by rw [hj]; exact (e.pb _ g2).trans g4⟩⟩

theorem SR.moved {F : Fr} {w0 w w' : World} {q : Nat → Prop} {s : St} {a : Act} {c c' : Cx} (h : SR P F w0 q s a w c) (e : Ext w0.heap.size w c w' c') : ∃ ds : List Nat, a.defers = ds.map markOf ∧ ds.Nodup ∧ ∀ D ∈ ds, c'.p D ∧ w0.heap.size ≤ D ∧ w'.heap[D]? = some (.deferred (some [])) ∧ ∀ x ∈ F.G, x.1 ≠ D := by
  obtain ⟨ds, g1, g2, g3⟩ := h.defers
  exact ⟨ds, g1, g2, fun D hD => by obtain ⟨p1, p2, p3, p4⟩ := g3 D hD; exact ⟨e.p _ p1, p2, (e.pb _ p1).trans p3, p4⟩⟩

theorem SR.base {F : Fr} {w0 w : World} {q : Nat → Prop} {s : St} {a : Act} {c : Cx} (h : SR P F w0 q s a w c) : w0.heap.size ≤ w.heap.size := h.below.size

theorem look_put (s : St) (d : Tmp) (x : AV) (t : Nat) : look (s.put (some d) x).tm t = if d = t then x else look s.tm t := by
  simp only [St.put, look]
  by_cases h : d = t
  · subst h; simp
  · rw [if_neg h]
    cases hb : Nat.beq d t with
    | true => exact absurd (Nat.eq_of_beq_eq_true hb) h
    | false => rfl

theorem eval_rel {w : World} {c : Cx} {s : St} {a : Act} (h : ∀ t, VR P w c (look s.tm t) (a.tmps.getD t undef)) (x : Operand) : VR P w c (s.eval x) (a.eval x) := by
  cases x with
  | tmp t => exact h t
  | const v => exact .tree (constAV_ok v)
  | global g => exact .tree (.top _)
  | func f => exact .tree (.func _ _ _ #[] #[] rfl rfl (by simp))

/-- A slot whose value is known better. -/
theorem SR.known {F : Fr} {w0 w : World} {q : Nat → Prop} {s : St} {a : Act} {c : Cx} (h : SR P F w0 q s a w c) {t : Nat} {x : AV} (hx : VR P w c x (a.tmps.getD t undef)) : SR P F w0 q (s.put (some t) x) a w c :=
  ⟨h.toHS, fun t' => by
      rw [look_put]
      split
      · rename_i e; subst e; exact hx
      · exact h.tm t', h.size, h.defers⟩

theorem SR.putV {F : Fr} {w0 w w' : World} {q : Nat → Prop} {s : St} {a : Act} {c c' : Cx} {h' : Hp} (h : SR P F w0 q s a w c) (hr : HR P w0.heap.size w' c' h') (ro : RO c' h') (e : Ext w0.heap.size w c w' c')
    (hi : ∀ b oi, c'.O b = some oi → b < h'.blocks.length) (hiM : ∀ b r, c'.N b = some r → b < h'.maps.length) (hy : ∀ i l, c'.y i = some l → i < h'.ny) (pq : ∀ b, c'.p b → q b ∨ w0.heap.size ≤ b) (hj : h'.jump = s.hp.jump) {d : Option Tmp} (hd : slotOk F.n d = true) {v : AV} {u : Value} (hv : VR P w' c' v u) :
    SR P F w0 q ({ s with hp := h' }.put d v) (a.put d u) w' c' where
  toHS := by cases d <;> exact h.toHS.moved hr ro e hi hiM hy pq hj
  size := by cases d <;> simp [Act.put, h.size]
  defers := by cases d <;> exact h.moved e
  tm := fun t => by
    cases d with
    | none => exact (h.tm t).mono e
    | some d =>
      rw [look_put]
      have hlt : d < a.tmps.size := by rw [h.size]; exact Nat.le_of_ble_eq_true hd
      split
      · rename_i he
        subst he
        simpa [Act.put, hlt] using hv
      · rename_i hne
        have := (h.tm t).mono e
        simpa [Act.put, Array.getElem?_setIfInBounds_ne hne] using this

theorem SR.skip {F : Fr} {w0 w : World} {q : Nat → Prop} {s : St} {a : Act} {c : Cx} (h : SR P F w0 q s a w c) (d : Option Tmp) : SR P F w0 q (s.put d (.val undef)) (a.put d undef) w c where
  toHS := by cases d <;> exact h.toHS
  size := by cases d <;> simp [Act.put, h.size]
  defers := by cases d <;> exact h.defers
  tm := fun t => by
    cases d with
    | none => exact h.tm t
    | some d =>
      rw [look_put]
      split
      · rename_i he
        subst he
        have e : (a.put (some d) undef).tmps.getD d undef = undef := by
          by_cases hlt : d < a.tmps.size
          · simp [Act.put, hlt]
          · simp [Act.put]
        rw [e]
        exact .tree (.val _)
      · rename_i hne
        have := h.tm t
        simpa [Act.put, Array.getElem?_setIfInBounds_ne hne] using this

theorem SR.drew {F : Fr} {w0 w : World} {q : Nat → Prop} {s : St} {a : Act} {c : Cx} (h : SR P F w0 q s a w c) : SR P F w0 q s a { w with drawn := w.drawn + 1 } c := by
  have q0 := qout_same (w' := { w with drawn := w.drawn + 1 }) h.hr ⟨rfl, rfl, rfl, Nat.le_refl _, fun _ _ => rfl⟩ rfl
  have e := q0.ext.low h.base
  exact ⟨h.toHS.moved q0.hr h.ro e h.hi h.hiM h.hy h.pq rfl, fun t => (h.tm t).mono e, h.size, h.moved e⟩

theorem pq_of {F : Fr} {w0 w w' : World} {q : Nat → Prop} {s : St} {a : Act} {c c' : Cx} {h' : Hp} (h : SR P F w0 q s a w c) {hp : Hp} (hq : QOut P w0.heap.size w c hp w' c' h') : ∀ b, c'.p b → q b ∨ w0.heap.size ≤ b := fun b hb => by
  rcases hq.pN b hb with g | g | ⟨i, oi, g1, g2, g3⟩ | ⟨i, g⟩
  · exact h.pq b g
  · have := h.base; exact .inr (by omega)
  · have := h.hr.own i oi g1 g2; exact .inr (by omega)
  · have := h.hr.mown i b g; exact .inr (by omega)

/-- The counter of ranges and the jump are left alone by operations. -/
theorem gives_keep {o : Oper} {ρ : Operand → AV} {h h' : Hp} {v : AV} (hev : (opEv T o ρ h).gives v h') : h'.jump = h.jump ∧ h'.ny = h.ny := by
  have bin : ∀ op d x y, (binEv op d x y h).gives v h' → h' = h := fun op d x y hev => by
    unfold binEv at hev
    repeat' split at hev
    all_goals first
      | exact (aggEv_h hev).1
      | (simp only [Res.gives] at hev <;> first | exact hev.elim | exact hev.2.symm | exact hev.2.2.symm)
  have nil : ∀ op d x, (nilEv op d x h).gives v h' → h' = h := fun op d x hev => by
    unfold nilEv at hev
    repeat' split at hev
    all_goals simp only [Res.gives] at hev
    all_goals first | exact hev.elim | exact hev.2.2.symm
  unfold opEv at hev
  split at hev
  all_goals try simp only [Bool.cond_eq_ite, forceNr_eq, forceC_eq, forceT_eq, force0_eq, force1_eq] at hev
  all_goals (repeat' split at hev)
  all_goals first | (have := bin _ _ _ _ hev; subst this; exact ⟨rfl, rfl⟩) | (have := nil _ _ _ hev; subst this; exact ⟨rfl, rfl⟩) | simp only [Res.gives] at hev
  all_goals first
    | exact hev.elim
    | (have e := hev.2; subst e; exact ⟨rfl, rfl⟩)
    | (have e := hev.2.2; subst e; exact ⟨rfl, rfl⟩)
    | (obtain ⟨_, _, _, e⟩ := hev; subst e; exact ⟨rfl, rfl⟩)

theorem ext_y {c c' : Cx} {hp hp' : Hp} (hy : ∀ i l, c.y i = some l → i < hp.ny) (hc : ∀ i l, c'.y i = some l → c.y i = some l) (hn : hp'.ny = hp.ny) : ∀ i l, c'.y i = some l → i < hp'.ny := fun i l h => by rw [hn]; exact hy i l (hc i l h)

theorem SR.quiet {F : Fr} {w0 w w' : World} {q : Nat → Prop} {s : St} {a : Act} {c c' : Cx} {h' : Hp} (h : SR P F w0 q s a w c) (hq : QOut P w0.heap.size w c s.hp w' c' h') (hk : h'.jump = s.hp.jump ∧ h'.ny = s.hp.ny) {d : Option Tmp} (hd : slotOk F.n d = true) {v : AV} {u : Value} (hv : VR P w' c' v u) :
    SR P F w0 q ({ s with hp := h' }.put d v) (a.put d u) w' c' :=
  h.putV hq.hr (hq.roOf h.ro) (hq.ext.low h.base) (fun b oi hb => by rcases hq.oNew b oi hb with g | g; exact Nat.lt_of_lt_of_le (h.hi b oi g) hq.le.blen; exact g.2)
    (fun b r hb => by rcases hq.nNew b r hb with g | g; exact Nat.lt_of_lt_of_le (h.hiM b r g) hq.le.mlen; exact g.2) (fun i l hi => by rw [hk.2]; rw [hq.yE] at hi; exact h.hy i l hi) (pq_of h hq) hk.1 hd hv

theorem SR.eff {F : Fr} {w0 w w' : World} {q : Nat → Prop} {s : St} {a : Act} {c c' : Cx} {h' : Hp} (h : SR P F w0 q s a w c) (hq : EOut P w0.heap.size w c s.hp w' c' h') (hk : h'.jump = s.hp.jump ∧ h'.ny = s.hp.ny) {d : Option Tmp} (hd : slotOk F.n d = true) {v : AV} {u : Value} (hv : VR P w' c' v u) :
    SR P F w0 q ({ s with hp := h' }.put d v) (a.put d u) w' c' :=
  h.putV hq.hr hq.ro hq.ext (fun b oi hb => by obtain ⟨oi', g⟩ := hq.oNew b oi hb; rw [hq.blen]; exact h.hi b oi' g)
    (fun b r hb => by obtain ⟨r', g⟩ := hq.nNew b r hb; rw [hq.mlen]; exact h.hiM b r' g) (fun i l hi => by rw [hk.2]; rw [hq.yE] at hi; exact h.hy i l hi) (fun b hb => h.pq b (hq.pE b hb)) hk.1 hd hv

/-! ### Frames laid aside and fetched again -/

def stackX (n : Nat) (a : Act) (X : Nat → Value) (j : Nat) : Value := if j < n then a.tmps.getD j undef else X (j - n)

theorem look_append : ∀ (l m : List (Nat × AV)) (t : Nat), (∀ p ∈ m, p.1 ≠ t) → look (l ++ m) t = look l t
  | [], [], t, _ => rfl
  | [], (k, x) :: m, t, h => by
    have hk : Nat.beq k t = false := by
      cases hb : Nat.beq k t with
      | false => rfl
      | true => exact absurd (Nat.eq_of_beq_eq_true hb) (h (k, x) (.head _))
    have := look_append [] m t (fun p hp => h p (.tail _ hp))
    simp only [List.nil_append, look, hk, cond_false] at this ⊢
    exact this
  | (k, x) :: l, m, t, h => by
    have := look_append l m t h
    simp only [List.cons_append, look, this]

theorem look_append2 : ∀ (l m : List (Nat × AV)) (t : Nat), (∀ p ∈ l, p.1 ≠ t) → look (l ++ m) t = look m t
  | [], m, t, _ => rfl
  | (k, x) :: l, m, t, h => by
    have hk : Nat.beq k t = false := by
      cases hb : Nat.beq k t with
      | false => rfl
      | true => exact absurd (Nat.eq_of_beq_eq_true hb) (h (k, x) (.head _))
    have := look_append2 l m t (fun p hp => h p (.tail _ hp))
    simp only [List.cons_append, look, hk, cond_false, this]

theorem look_filter (f : Nat → Bool) : ∀ (l : List (Nat × AV)) (t : Nat), look (l.filter fun p => f p.1) t = if f t then look l t else .top
  | [], t => by simp [look]
  | (k, x) :: l, t => by
    have ih := look_filter f l t
    by_cases hk : k = t
    · subst hk
      cases hf : f k with
      | true => simp [hf, look]
      | false => simp only [List.filter_cons, hf]; rw [hf] at ih; simpa using ih
    · have hb : Nat.beq k t = false := by
        cases hb : Nat.beq k t with
        | false => rfl
        | true => exact absurd (Nat.eq_of_beq_eq_true hb) hk
      cases hf : f k with
      | true => simp only [List.filter_cons, hf, if_true, look, hb, cond_false]; exact ih
      | false => simp only [List.filter_cons, hf]; simp only [look, hb, cond_false]; simpa using ih

theorem look_up (n : Nat) : ∀ (l : List (Nat × AV)) (t : Nat), look (l.map fun p => (p.1 + n, p.2)) (t + n) = look l t
  | [], t => rfl
  | (k, x) :: l, t => by
    have ih := look_up n l t
    have : Nat.beq (k + n) (t + n) = Nat.beq k t := by
      rw [Bool.eq_iff_iff, Nat.beq_eq, Nat.beq_eq]; omega
    simp only [List.map_cons, look, this, ih]

theorem look_push (n : Nat) (tm sv : List (Nat × AV)) (i : Nat) : look (pushSv n tm sv) i = if i < n then look tm i else look sv (i - n) := by
  unfold pushSv
  by_cases hi : i < n
  · rw [if_pos hi, look_append _ _ _ (fun p hp => by
      obtain ⟨y, _, rfl⟩ := List.mem_map.1 hp
      simp only; omega), look_filter (fun k => Nat.blt k n), if_pos (by rw [Nat.blt_eq]; exact hi)]
  · rw [if_neg hi, look_append2 _ _ _ (fun p hp => by
      have := (List.mem_filter.1 hp).2
      rw [Nat.blt_eq] at this; omega)]
    obtain ⟨k, rfl⟩ : ∃ k, i = k + n := ⟨i - n, by omega⟩
    rw [look_up, Nat.add_sub_cancel]

theorem look_popTm (n : Nat) (sv : List (Nat × AV)) (t : Nat) : look (popTm n sv) t = if t < n then look sv t else .top := by
  unfold popTm
  rw [look_filter (fun k => Nat.blt k n)]
  by_cases ht : t < n
  · rw [if_pos ht, if_pos (by rw [Nat.blt_eq]; exact ht)]
  · rw [if_neg ht, if_neg (by rw [Nat.blt_eq]; exact ht)]

theorem look_popSv (n : Nat) : ∀ (sv : List (Nat × AV)) (t : Nat), look (popSv n sv) t = look sv (t + n)
  | [], t => rfl
  | (k, x) :: l, t => by
    have ih := look_popSv n l t
    unfold popSv at ih ⊢
    by_cases hk : n ≤ k
    · have h1 : Nat.ble n k = true := by rw [Nat.ble_eq]; exact hk
      have h2 : Nat.beq (k - n) t = Nat.beq k (t + n) := by rw [Bool.eq_iff_iff, Nat.beq_eq, Nat.beq_eq]; omega
      simp only [List.filter_cons, h1, if_true, List.map_cons, look, h2, ih]
    · have h1 : Nat.ble n k = false := by
        cases hb : Nat.ble n k with
        | false => rfl
        | true => rw [Nat.ble_eq] at hb; exact absurd hb hk
      have h2 : Nat.beq k (t + n) = false := by
        cases hb : Nat.beq k (t + n) with
        | false => rfl
        | true => have := Nat.eq_of_beq_eq_true hb; omega
      simp only [List.filter_cons, h1, look, h2, cond_false]
      simpa using ih

/-- What stays as it is while a function runs in place. -/
def gOf (F : Fr) (ds : List Nat) (j : Option Ex) : List (Nat × Obj × Option Nat) := F.G ++ ds.map (fun D => (D, Obj.deferred (some []), none)) ++ (match F.rc with | some (i, l, rc) => [(l, Obj.loop (recAt rc j), some i)] | none => [])

theorem HR.jumpd {base : Nat} {w : World} {c : Cx} {hp : Hp} (h : HR P base w c hp) (j : Option Ex) (m : Nat) : HR P base w c { hp with jump := j, ny := m } := ⟨h.blk, h.sep, h.own, h.st, h.maps, h.mown, h.msep, h.bm⟩
theorem RO.jumpd {c : Cx} {hp : Hp} (h : RO c hp) (j : Option Ex) (m : Nat) : RO c { hp with jump := j, ny := m } := ⟨h.b, h.m⟩

theorem SR.push {F : Fr} {w0 w : World} {q : Nat → Prop} {s : St} {a : Act} {c : Cx} (h : SR P F w0 q s a w c) {ds : List Nat} (hds : ∀ D ∈ ds, c.p D ∧ w0.heap.size ≤ D ∧ w.heap[D]? = some (.deferred (some []))) {rc' : Option (Nat × Nat × RcT)} {j : Option Ex}
    (hrc : ∀ i l rc, rc' = some (i, l, rc) → c.y i = some l ∧ c.p l ∧ w0.heap.size ≤ l ∧ w.heap[l]? = some (.loop (recAt rc j))) :
    HS P (stackX F.n a F.X) (gOf F ds s.hp.jump) rc' w0 q { s.hp with jump := j } (pushSv F.n s.tm s.sv) w c := by
  refine ⟨h.hr.jumpd _ _, h.ro.jumpd _ _, h.hi, h.hiM, h.hy, h.below, h.pq, fun i => ?_, fun x hx => ?_, hrc⟩
  · rw [look_push]
    unfold stackX
    by_cases hi : i < F.n
    · rw [if_pos hi, if_pos hi]; exact h.tm i
    · rw [if_neg hi, if_neg hi]; exact h.sv _
  · unfold gOf at hx
    rcases List.mem_append.1 hx with hx | hx
    · rcases List.mem_append.1 hx with hx | hx
      · exact h.keep x hx
      · obtain ⟨D, hD, rfl⟩ := List.mem_map.1 hx
        obtain ⟨g1, g2, g3⟩ := hds D hD
        exact ⟨g1, g2, g3, fun i hi => by cases hi⟩
    · split at hx
      · rename_i i l rc hrcF
        rw [List.mem_singleton] at hx
        subst hx
        obtain ⟨g0, g1, g2, g3⟩ := h.rcd i l rc hrcF
        exact ⟨g1, g2, g3, fun i' hi => by cases hi; exact g0⟩
      · cases hx

theorem SR.pop {F : Fr} {w0 w : World} {q : Nat → Prop} {hp : Hp} {sv : List (Nat × AV)} {a : Act} {c : Cx} {G' : List (Nat × Obj × Option Nat)} {rc' : Option (Nat × Nat × RcT)} (h : HS P (stackX F.n a F.X) G' rc' w0 q hp sv w c) (hsz : a.tmps.size = F.n) {ds : List Nat} (hd1 : a.defers = ds.map markOf) (hd2 : ds.Nodup)
    (hd3 : ∀ D ∈ ds, ∀ x ∈ F.G, x.1 ≠ D) (hG : ∀ x ∈ F.G, x ∈ G') (hD : ∀ D ∈ ds, (D, Obj.deferred (some []), none) ∈ G') {j : Option Ex} (hrc : ∀ i l rc, F.rc = some (i, l, rc) → c.y i = some l ∧ c.p l ∧ w0.heap.size ≤ l ∧ w.heap[l]? = some (.loop (recAt rc j))) :
    SR P F w0 q { tm := popTm F.n sv, hp := { hp with jump := j }, sv := popSv F.n sv } a w c := by
  refine ⟨⟨h.hr.jumpd _ _, h.ro.jumpd _ _, h.hi, h.hiM, h.hy, h.below, h.pq, fun i => ?_, fun x hx => h.keep x (hG x hx), hrc⟩, fun t => ?_, hsz, ds, hd1, hd2, fun D hD' => ?_⟩
  · show VR P w c (look (popSv F.n sv) i) _
    rw [look_popSv]
    have := h.sv (i + F.n)
    unfold stackX at this
    rw [if_neg (by omega), Nat.add_sub_cancel] at this
    exact this
  · show VR P w c (look (popTm F.n sv) t) _
    rw [look_popTm]
    by_cases ht : t < F.n
    · rw [if_pos ht]
      have := h.sv t
      unfold stackX at this
      rw [if_pos ht] at this
      exact this
    · rw [if_neg ht]; exact .tree (.top _)
  · obtain ⟨g1, g2, g3, _⟩ := h.keep _ (hD D hD')
    exact ⟨g1, g2, g3, hd3 D hD'⟩

/-- The frame is as it was, where the function that ran in place has come back. -/
theorem SR.back {F : Fr} {w0 w w' : World} {q : Nat → Prop} {s : St} {a : Act} {c c' : Cx} (h : SR P F w0 q s a w c) {ds : List Nat} (hd1 : a.defers = ds.map markOf) (hd2 : ds.Nodup) (hd3 : ∀ D ∈ ds, ∀ x ∈ F.G, x.1 ≠ D) {hp : Hp} {sv : List (Nat × AV)}
    (h' : HS P (stackX F.n a F.X) (gOf F ds s.hp.jump) none w0 q hp sv w' c') : SR P F w0 q { tm := popTm F.n sv, hp := { hp with jump := s.hp.jump }, sv := popSv F.n sv } a w' c' := by
  refine SR.pop h' h.size hd1 hd2 hd3 (fun x hx => List.mem_append_left _ (List.mem_append_left _ hx)) (fun D hD => List.mem_append_left _ (List.mem_append_right _ (List.mem_map.2 ⟨D, hD, rfl⟩))) fun i l rc hrc => ?_
  obtain ⟨g1, g2, g3, g4⟩ := h'.keep (l, .loop (recAt rc s.hp.jump), some i) (List.mem_append_right _ (by rw [hrc]; exact .head _))
  exact ⟨g4 i rfl, g1, g2, g3⟩

/-! ### What a walk may lean on -/

def ArgsR (P : Program) (w : World) (c : Cx) (args : List AV) (vs : Array Value) : Prop := vs.size = args.length ∧ ∀ (i : Nat) x, args[i]? = some x → VR P w c x (vs.getD i undef)

/-- A yield may be called in the frame of the function that is ranged over. -/
def YOk (P : Program) (X : Nat → Value) (G : List (Nat × Obj × Option Nat)) (rc : Option (Nat × Nat × RcT)) (w0 : World) (q : Nat → Prop) (Y : YT) : Prop :=
  ∀ i m args s K, Y i m args s K → ∀ a w c vs l, SR P ⟨m, X, none, G, rc⟩ w0 q s a w c → ArgsR P w c args vs → c.y i = some l →
    ∃ fn tmps assign body, (Instr.yield l vs).run P w = .ok (.round l fn tmps assign body) w ∧ RoundIn (FR none) 0 P l fn tmps assign body w fun e w' => ∃ b s' c', e = .returned (.bool b) ∧ SR P ⟨m, X, none, G, rc⟩ w0 q s' a w' c' ∧ K b s'

/-- A function may be run in place. -/
def IOk (P : Program) (I : YT → FuncId → List AV → Nat → St → (AV → St → Prop) → Prop) : Prop :=
  ∀ Y f args n s K, I Y f args n s K → ∀ X G rc w0 q w c vs, HS P X G rc w0 q s.hp (pushSv n s.tm s.sv) w c → ArgsR P w c args vs → YOk P X G rc w0 q Y →
    (∀ as w, (callFunc f as).run P w = .ok (.enter f as) w) ∧ CallsIn (FR none) 0 P f vs w fun e w' => ∃ u, e = .returned u ∧ ∃ r hp' sv' c', HS P X G rc w0 q hp' sv' w' c' ∧ VR P w' c' r u ∧
      K r { tm := popTm n sv', hp := hp', sv := popSv n sv' }

structure EnvOk (P : Program) (F : Fr) (w0 : World) (q : Nat → Prop) (E : Env) : Prop where
  S : ∀ f args r fr, E.S f args r fr → Sound1 P f args r fr
  I : IOk P E.I
  Y : E.Y = noY ∨ (F.r = none ∧ YOk P F.X F.G F.rc w0 q E.Y)
  rok : E.rok = true → F.r = none

theorem EnvOk.plain {F : Fr} {w0 : World} {q : Nat → Prop} {E : Env} (h : EnvOk P F w0 q E) : EnvOk P F w0 q E.plain :=
  ⟨h.S, fun _ _ _ _ _ _ hf => hf.elim, .inl rfl, h.rok⟩

theorem noY_ok (X : Nat → Value) (G : List (Nat × Obj × Option Nat)) (rc : Option (Nat × Nat × RcT)) (w0 : World) (q : Nat → Prop) : YOk P X G rc w0 q noY := fun _ _ _ _ _ hf => hf.elim

/-- What holds of an operation in a plain frame, holds in a round's. -/
theorem wp_in {o : Oper} {a : Act} {w : World} {next : Act → World → Prop} {Q : Exit → Act → World → Prop} {r : Option Nat} (hnd : ∀ c, o.op ≠ .defer c) (h : o.wp P a w next Q) : o.wpIn (FR r) 0 P a w next Q := by
  refine ⟨fun _ _ => trivial, ?_⟩
  rw [show (FR r).round = r from rfl, Oper.semAt_eq r _ _ hnd]
  unfold Oper.wp at h
  generalize (execOp a.eval o).run P w = res at h ⊢
  cases res with
  | ok x w' =>
    cases x with
    | value v => exact h
    | skip => exact h
    | defer d => exact h
    | enter f args => exact ⟨(fun hd => by cases hd), callsIn_wide.2 h⟩
    | row row args =>
      refine ⟨(fun hd => by cases hd), fun cc cs _ => ?_⟩
      obtain ⟨v, w'', hR, hs⟩ := h cc cs
      exact ⟨v, w'', hR, stepsIn_wide.2 hs⟩
    | _ => exact h.elim
  | halt x w' => cases x <;> exact h

theorem not_defer {o : Oper} {ρ : Operand → AV} {h : Hp} (hb : ∀ c, o.op = .defer c → opEv T o ρ h ≠ .bad) : ∀ c, o.op ≠ .defer c := fun c hc => hb c hc (by unfold opEv; rw [hc])

theorem SR.put {F : Fr} {w0 w : World} {q : Nat → Prop} {s : St} {a : Act} {c : Cx} (h : SR P F w0 q s a w c) {d : Option Tmp} (hd : slotOk F.n d = true) {v : AV} {u : Value} (hv : VR P w c v u) : SR P F w0 q (s.put d v) (a.put d u) w c :=
  h.putV h.hr h.ro (Ext.refl _ _ _) h.hi h.hiM h.hy h.pq rfl hd hv

/-- A call of the function that a range over a function has handed out. -/
theorem op_yield {o : Oper} {f : Operand} {args : Array Operand} {ts : Array TypeId} {r : Operand → Value} {l : Nat} {w : World} (hop : o.op = .call { callee := .value f, args, argTypes := ts }) (hf : r f = .func (.yield l) #[] #[]) :
    (execOp r o).run P w = (Instr.yield l (args.map r)).run P w := by
  unfold execOp
  simp only [hop, resolve, hf, Deferred.ofValue, Sem.run_bind, Sem.run_pure, Result.andThen_ok, invoke]
  simp

/-- One operation, carried out. -/
theorem one_ok (hT : TOK P T) {F : Fr} {w0 w : World} {q : Nat → Prop} {E : Env} (hE : EnvOk P F w0 q E) {s : St} {a : Act} {c : Cx} (h : SR P F w0 q s a w c) {o : Oper} {st : (Operand → AV) → Option Bool} {K : St → Prop} (hw : oneW E T F.n st o s K) {next : Act → World → Prop} {Q : Exit → Act → World → Prop}
    (hK : ∀ s' a' w' c', SR P F w0 q s' a' w' c' → K s' → next a' w') : o.wpIn (FR F.r) 0 P a w next Q := by
  unfold oneW at hw
  simp only [putF_eq] at hw
  split at hw
  · exact hw.elim
  split at hw
  case h_2 => exact hw.elim
  rename_i hs
  rw [Bool.and_eq_true] at hs
  have hd := hs.1
  have hρ : ∀ x ∈ o.op.operands, VR P w c (s.eval x) (a.eval x) := fun x _ => eval_rel h.tm x
  have hnd : ∀ cc, o.op ≠ .defer cc := fun cc hcc => by
    unfold opW at hw
    rw [show opEv T o s.eval s.hp = .bad from by unfold opEv; rw [hcc]] at hw
    exact hw
  have done : ∀ (v : AV) (h' : Hp), (opEv T o s.eval s.hp).gives v h' → K ({ s with hp := h' }.put o.dst v) → o.wpIn (FR F.r) 0 P a w next Q := by
    intro v h' hev hk
    have hkeep := gives_keep hev
    refine wp_in hnd ?_
    cases he : isEff o s.eval with
    | false =>
      obtain ⟨u, w', c', g1, g2, g3⟩ := quiet_op hT h.hr h.base (fun _ => rfl) hρ he hev (fun b hb _ => by
        cases hO : c.O b with
        | none => rfl
        | some oi => have := h.hi b oi hO; omega) (fun b hb _ => by
        cases hO : c.N b with
        | none => rfl
        | some r => have := h.hiM b r hO; omega)
      unfold Oper.wp
      rw [g1]
      exact hK _ _ _ _ (h.quiet g2 hkeep hd g3) hk
    | true =>
      unfold isEff at he
      split at he
      · rename_i t x y hop
        obtain ⟨w', c', g1, g2, rfl⟩ := eff_store hT h.hr h.ro h.base hop (hρ x (by rw [hop]; simp [Op.operands])) (hρ y (by rw [hop]; simp [Op.operands])) hev
        unfold Oper.wp
        rw [g1]
        exact hK _ _ _ _ (h.eff g2 hkeep hd (.tree (.top _))) hk
      · rename_i t x y z hop
        obtain ⟨w', c', g1, g2, rfl⟩ := eff_mapUpdate hT h.hr h.ro hop (hρ x (by rw [hop]; simp [Op.operands])) (hρ y (by rw [hop]; simp [Op.operands])) (hρ z (by rw [hop]; simp [Op.operands])) hev
        unfold Oper.wp
        rw [g1]
        exact hK _ _ _ _ (h.eff g2 hkeep hd (.tree (.top _))) hk
      · rename_i args ts hop
        obtain ⟨u, w', c', g1, g2, g3⟩ := append_eff hT h.hr h.ro h.base hop (fun x hx => hρ x (by rw [hop]; simp [Op.operands, Call.operands, hx])) (by unfold isEff; rw [hop]; exact he) hev
        unfold Oper.wp
        rw [g1]
        exact hK _ _ _ _ (h.eff g2 hkeep hd g3) hk
      · cases he
  unfold opW at hw
  split at hw
  · exact hw.elim
  · rename_i v h' hev
    exact done v h' (by rw [hev]; exact ⟨rfl, rfl⟩) hw
  · rename_i p v h' hev
    exact done v h' (by rw [hev]; exact ⟨hw.1, rfl, rfl⟩) hw.2
  · rename_i h0 b k g fl hev
    obtain ⟨G', hG, hw⟩ := hw
    exact done _ _ (by rw [hev]; exact ⟨G', hG, rfl, rfl⟩) hw
  · rename_i p _ b h' hev
    split at hw
    · obtain ⟨rfl, b', e2, e3⟩ := any_real hT (fun _ => rfl) hρ hev
      refine wp_in hnd ?_
      unfold Oper.wp
      rw [e3]
      exact hK _ _ _ _ (h.put hd (.tree (.val _))) (hw b' e2)
    · exact done _ h' (by rw [hev]; exact ⟨hw.1, rfl, rfl⟩) hw.2
  · rename_i g as bs ms hev
    split at hw
    case h_2 => exact hw.elim
    rename_i f args ts hop
    rcases hw with ⟨res, fr, hS, hk⟩ | hw
    · obtain ⟨vs, g1, g2⟩ := op_call h.hr h.base hop (hρ f (by rw [hop]; simp [Op.operands, Call.operands])) (fun x hx => hρ x (by rw [hop]; simp [Op.operands, Call.operands, hx])) hev (hE.S _ _ _ _ hS) (fun _ b hb _ => by
          cases hO : c.O b with
          | none => rfl
          | some oi => have := h.hi b oi hO; omega)
      refine wp_in hnd ?_
      unfold Oper.wp
      rw [g1]
      refine Calls.mono g2 ?_
      rintro e w' ⟨u, rfl, c', hres⟩
      cases fr with
      | true => exact hK _ _ _ _ (h.quiet hres.1 ⟨rfl, rfl⟩ hd hres.2) hk
      | false => exact hK _ _ _ _ (h.quiet hres.1 ⟨rfl, rfl⟩ hd hres.2) hk
    · obtain ⟨ds, hd1, hd2, hd3⟩ := h.defers
      have hpush := h.push (ds := ds) (fun D hD => by obtain ⟨p1, p2, p3, _⟩ := hd3 D hD; exact ⟨p1, p2, p3⟩) (rc' := none) (j := s.hp.jump) (fun i l rc hf => by cases hf)
      have hfr := hρ f (by rw [hop]; simp [Op.operands, Call.operands])
      have hin := fun X G rc w0' q' w' c' vs h1 h2 => (hE.I _ _ _ _ _ _ hw X G rc w0' q' w' c' vs h1 h2 (noY_ok _ _ _ _ _)).1
      obtain ⟨vs0, _, a1, a2⟩ : ∃ vs0 : Array Value, True ∧ vs0.size = (rawArgs o s.eval).length ∧ ∀ (i : Nat) x, (rawArgs o s.eval)[i]? = some x → VR P w c x (vs0.getD i undef) := by
        obtain ⟨vs0, a1, a2⟩ := raw_args hop hfr (fun x hx => hρ x (by rw [hop]; simp [Op.operands, Call.operands, hx])) hev
        exact ⟨vs0, trivial, a1, a2⟩
      obtain ⟨vs, g1, g2, g3⟩ := op_raw (w := w) hop hfr (fun x hx => hρ x (by rw [hop]; simp [Op.operands, Call.operands, hx])) hev (hin _ _ _ _ _ _ _ _ hpush ⟨a1, a2⟩)
      obtain ⟨_, hcall⟩ := hE.I _ _ _ _ _ _ hw _ _ _ _ _ _ _ vs hpush ⟨g2, g3⟩ (noY_ok _ _ _ _ _)
      refine ⟨fun _ _ => trivial, ?_⟩
      rw [Oper.semAt_eq _ _ _ hnd, g1]
      refine ⟨(fun hdd => by cases hdd), CallsIn.mono hcall ?_⟩
      rintro e w' ⟨u, rfl, r, hp', sv', c', hs', hr, hk⟩
      have hback := h.back hd1 hd2 (fun D hD x hx => (hd3 D hD).2.2.2 x hx) hs'
      exact hK _ _ _ _ (hback.put hd hr) hk
  · rename_i i as hev
    split at hw
    case h_2 => exact hw.elim
    rename_i f args ts hop
    rcases hE.Y with hY | ⟨hr0, hY⟩
    · rw [hY] at hw; exact hw.elim
    · have hfr := hρ f (by rw [hop]; simp [Op.operands, Call.operands])
      unfold opEv at hev
      rw [hop] at hev
      simp only at hev
      split at hev
      · cases hev
      · rename_i i' hf
        cases hev
        rw [hf] at hfr
        obtain ⟨l, hl, hv⟩ : ∃ l, c.y i = some l ∧ a.eval f = .func (.yield l) #[] #[] := by
          generalize a.eval f = u at hfr
          cases hfr with
          | tree ht => cases ht
          | yld _ l hy => exact ⟨l, hy, rfl⟩
        have hF : F = ⟨F.n, F.X, none, F.G, F.rc⟩ := by rw [← hr0]
        obtain ⟨fn, tmps, assign, body, y1, y2⟩ := hY _ _ _ _ _ hw a w c (args.map a.eval) l (hF ▸ h) ⟨by simp, fun k x hx => by
          rw [List.getElem?_map] at hx
          by_cases hk : k < args.size
          · have : args.toList[k]? = some args[k] := by simp [hk]
            rw [this] at hx
            simp only [Option.map_some, Option.some.injEq] at hx
            subst hx
            simpa [hk] using hρ args[k] (by rw [hop]; simp [Op.operands, Call.operands])
          · rw [List.getElem?_eq_none (by simp; omega)] at hx; cases hx⟩ hl
        refine ⟨fun _ _ => trivial, ?_⟩
        rw [Oper.semAt_eq _ _ _ hnd, op_yield hop hv, y1]
        refine ⟨(fun hdd => by cases hdd), RoundIn.mono y2 ?_⟩
        rintro e w' ⟨b, s', c', rfl, hs', hk⟩
        exact hK _ _ _ _ (SR.put (hF ▸ hs' : SR P F w0 q s' a w' c') hd (.tree (.val _))) hk
      · cases hev

theorem guard_known {F : Fr} {w0 w : World} {q : Nat → Prop} {s : St} {a : Act} {c : Cx} (h : SR P F w0 q s a w c) {ops : Array Oper} {o : Oper} {j : Nat} {want : Bool} (hg : o.guard = some (j, want)) {t : Tmp} (ht : (nth? ops.toList j).bind (·.dst) = some t) {b : Bool}
    (hl : look s.tm t = .val (.bool b)) : Region.wanted o (yielded ops a.tmps) = (b == want) := by
  rw [nth?_eq] at ht
  have ht' : (ops[j]?).bind (·.dst) = some t := by simpa using ht
  have hv := h.tm t
  rw [hl] at hv
  have hv := hv.val_inv
  have hs : a.tmps[t]? = some (.bool b) := by
    cases hq : a.tmps[t]? with
    | none => simp [hq, undef] at hv
    | some u => simp [hq] at hv; rw [hv]
  unfold Region.wanted
  rw [hg]
  simp [yielded, ht', hs]

theorem guard_undef {F : Fr} {w0 w : World} {q : Nat → Prop} {s : St} {a : Act} {c : Cx} (h : SR P F w0 q s a w c) {ops : Array Oper} {o : Oper} {j : Nat} {want : Bool} (hg : o.guard = some (j, want)) {t : Tmp} (ht : (nth? ops.toList j).bind (·.dst) = some t) {vs : Array Value}
    (hl : look s.tm t = .val (.tuple vs)) : Region.wanted o (yielded ops a.tmps) = false := by
  rw [nth?_eq] at ht
  have ht' : (ops[j]?).bind (·.dst) = some t := by simpa using ht
  have hv := h.tm t
  rw [hl] at hv
  have hv := hv.val_inv
  unfold Region.wanted
  rw [hg]
  simp only [yielded, ht', Option.bind_some]
  cases hq : a.tmps[t]? with
  | none => rfl
  | some u =>
    have : u = .tuple vs := by simpa [hq] using hv
    subst this
    rfl

theorem ops_ok (hT : TOK P T) {F : Fr} {w0 : World} {q : Nat → Prop} {ops : Array Oper} {E : Env} (hE : EnvOk P F w0 q E) {st : Nat → (Operand → AV) → Option Bool} {K : St → Prop} {Q : Exit → Act → World → Prop} (hK : ∀ s' a' w' c', SR P F w0 q s' a' w' c' → K s' → Q .normal a' w') :
    ∀ (l : List Oper) (i : Nat) (s : St) (a : Act) (w : World) (c : Cx), ops.toList.drop i = l → SR P F w0 q s a w c → opsW E T F.n st ops K i l s → wpOpsIn (FR F.r) 0 P ops Q (List.range' i l.length) a w
  | [], i, s, a, w, c, _, h, hw => by simp only [List.length_nil, List.range'_zero, wpOpsIn]; exact hK s a w c h hw
  | o :: r, i, s, a, w, c, hd, h, hw => by
    have ho : ops[i]? = some o := by
      have := List.getElem?_drop (xs := ops.toList) (i := i) (j := 0)
      rw [hd] at this
      simpa using this.symm
    have hd' : ops.toList.drop (i + 1) = r := by
      have : ops.toList.drop (i + 1) = (ops.toList.drop i).drop 1 := by rw [List.drop_drop]
      rw [this, hd]; rfl
    simp only [List.length_cons, List.range'_succ, wpOpsIn, ho]
    have go : ∀ s, SR P F w0 q s a w c → oneW E T F.n (st i) o s (opsW E T F.n st ops K (i + 1) r) → o.wpIn (FR F.r) 0 P a w (wpOpsIn (FR F.r) 0 P ops Q (List.range' (i + 1) r.length)) Q := fun s hs ho' =>
      one_ok hT hE hs ho' fun s' a' w' c' hs' hk => ops_ok hT hE hK r (i + 1) s' a' w' c' hd' hs' hk
    have sk : ∀ s, SR P F w0 q s a w c → opsW E T F.n st ops K (i + 1) r (s.put o.dst (.val undef)) → wpOpsIn (FR F.r) 0 P ops Q (List.range' (i + 1) r.length) (a.put o.dst undef) w := fun s hs ho' =>
      ops_ok hT hE hK r (i + 1) _ _ w c hd' (hs.skip o.dst) ho'
    unfold opsW at hw
    simp only [putF_eq] at hw
    split at hw
    · rename_i hg
      have : Region.wanted o (yielded ops a.tmps) = true := by unfold Region.wanted; rw [hg]
      rw [if_pos this]
      exact go s h hw
    · rename_i j want hg
      split at hw
      · exact hw.elim
      · rename_i t ht
        split at hw
        · rename_i b hl
          have hwd := guard_known h hg ht hl
          have hkn : SR P F w0 q (s.put (some t) (.val (.bool b))) a w c := h.known (by rw [← hl]; exact h.tm t)
          rw [hwd]
          cases b <;> cases want <;> simp only [ifB] at hw <;> simp
          · exact go _ hkn hw
          · exact ⟨fun _ _ => trivial, sk _ hkn hw⟩
          · exact ⟨fun _ _ => trivial, sk _ hkn hw⟩
          · exact go _ hkn hw
        · rename_i vs hl
          rw [guard_undef h hg ht hl]
          simp
          exact ⟨fun _ _ => trivial, sk s h hw⟩
        · exact hw.elim
end
end Go.Tr

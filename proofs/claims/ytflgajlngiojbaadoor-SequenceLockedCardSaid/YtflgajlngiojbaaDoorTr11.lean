/- The opening of a law: what an argument reads as, as abstract values, with its shape. Conditions: types of numbers, truth values, strings, slices, structs and arrays. -/
import Derived.Test.YtflgajlngiojbaaDoorTr06
import Derived.ProofKit
import Derived.Test.YtflgajlngiojbaaDoorRows
import Derived.Test.YtflgajlngiojbaaDoorTr09
import Derived.LaidMore
import Derived.MakeChecks
import Derived.Stop.Joined
set_option linter.unusedSectionVars false
set_option linter.unnecessarySimpa false
set_option linter.unusedVariables false
set_option linter.unusedSimpArgs false

namespace Go.Tr
open Go Go.RowKit

def V2 (P : Program) (w : World) (q : Nat → Prop) : List AV → List Value → Prop
  | [], [] => True
  | x :: xs, v :: vs => (VT P w q x v ∧ v.oneCell' = true) ∧ V2 P w q xs vs
  | _, _ => False

def All2 {α β : Type} (p : α → β → Prop) : List α → List β → Prop
  | [], [] => True
  | x :: xs, y :: ys => p x y ∧ All2 p xs ys
  | _, _ => False

/-- The shape of what a type's cells read as. -/
def TyC (P : Program) : Nat → TypeId → List AV → Prop
  | 0, _, _ => True
  | m + 1, t, xs => match P.underlying t with
    | some .bool => ∃ b, xs = [.val (.bool b)]
    | some (.int k) => ∃ n, xs = [.val (.int k n)] ∧ inK k n
    | some .string => ∃ s : ByteArray, xs = [.val (.string s)] ∧ s.size ≤ 9223372036854775807
    | some (.slice e) => ∃ len f, xs = [.rslice (P.cellsOf e) len f] ∧ len ≤ 9223372036854775807 ∧ ∀ i, i < len → TyC P m e (f i)
    | some (.struct fs) => ∃ ps : List (List AV), xs = ps.flatten ∧ All2 (fun f p => TyC P m f.type p) fs.toList ps
    | some (.array n e) => ∃ ps : List (List AV), xs = ps.flatten ∧ ps.length = n ∧ ∀ p ∈ ps, TyC P m e p
    | _ => False

def layF (P : Program) (g : TypeId → Bool) : List Field → Nat → Nat → Bool
  | [], off, tot => Nat.beq off tot
  | f :: r, off, tot => Nat.beq f.offset off && g f.type && layF P g r (off + P.cellsOf f.type) tot

/-- Types that are covered, laid out part behind part. -/
def lay (P : Program) : Nat → TypeId → Bool
  | 0, _ => false
  | m + 1, t => match P.underlying t with
    | some .bool | some (.int _) | some .string => true
    | some (.slice e) => Nat.blt 0 (P.cellsOf e) && lay P m e
    | some (.struct fs) => layF P (lay P m) fs.toList 0 (P.cellsOf t)
    | some (.array n e) => Nat.beq (P.cellsOf t) (n * P.cellsOf e) && lay P m e
    | _ => false

section
variable {H : Type} {enc : TypeId × Value → H} {P : Program} {w : World} {spare : Nat → Bool} {held : Bool} {q : Nat → Prop}

theorem V2_len : ∀ {xs : List AV} {vs : List Value}, V2 P w q xs vs → xs.length = vs.length
  | [], [], _ => rfl
  | x :: xs, v :: vs, h => by simp [V2_len h.2]
  | [], _ :: _, h => h.elim
  | _ :: _, [], h => h.elim

theorem V2_append : ∀ {xs : List AV} {vs : List Value} {ys : List AV} {us : List Value}, V2 P w q xs vs → V2 P w q ys us → V2 P w q (xs ++ ys) (vs ++ us)
  | [], [], _, _, _, h => h
  | _ :: _, _ :: _, _, _, h, h' => ⟨h.1, V2_append h.2 h'⟩
  | [], _ :: _, _, _, h, _ => h.elim
  | _ :: _, [], _, _, h, _ => h.elim

theorem V2_get : ∀ {xs : List AV} {vs : List Value}, V2 P w q xs vs → ∀ (i : Nat) x, xs[i]? = some x → VT P w q x (vs.getD i undef) ∧ (vs.getD i undef).oneCell' = true
  | [], [], _, i, x, hx => by simp at hx
  | y :: ys, v :: vs, h, 0, x, hx => by
    simp at hx
    subst hx
    simpa using h.1
  | y :: ys, v :: vs, h, i + 1, x, hx => by
    have := V2_get h.2 i x (by simpa using hx)
    simpa using this
  | [], _ :: _, h, _, _, _ => h.elim
  | _ :: _, [], h, _, _, _ => h.elim

theorem mapM_cons_some {α β : Type} {f : α → Option β} {a : α} {l : List α} {r : List β} (h : (a :: l).mapM f = some r) : ∃ b bs, f a = some b ∧ l.mapM f = some bs ∧ r = b :: bs := by
  rw [List.mapM_cons] at h
  cases ha : f a with
  | none => simp [ha] at h
  | some b =>
    cases hl : l.mapM f with
    | none => simp [ha, hl] at h
    | some bs => simp [ha, hl] at h; exact ⟨b, bs, rfl, rfl, h.symm⟩

theorem mapM_get {α β : Type} {f : α → Option β} : ∀ {l : List α} {r : List β}, l.mapM f = some r → r.length = l.length ∧ ∀ (i : Nat) x, l[i]? = some x → ∃ y, f x = some y ∧ r[i]? = some y
  | [], r, h => by simp at h; subst h; exact ⟨rfl, fun i x hx => by simp at hx⟩
  | a :: l, r, h => by
    obtain ⟨b, bs, h1, h2, rfl⟩ := mapM_cons_some h
    obtain ⟨g1, g2⟩ := mapM_get h2
    refine ⟨by simp [g1], fun i x hx => ?_⟩
    cases i with
    | zero => simp at hx; subst hx; exact ⟨b, h1, rfl⟩
    | succ i => simpa using g2 i x (by simpa using hx)

theorem cells_some {a : Addr} {n : Nat} {cs : List Value} (h : w.cells? 0 a n = some cs) : cs.length = n ∧ ∀ j, j < n → w.cell? (a.add j) = some (cs.getD j undef) := by
  unfold World.cells? at h
  rw [if_pos (Nat.zero_le _)] at h
  obtain ⟨h1, h2⟩ := mapM_get h
  refine ⟨by simpa using h1, fun j hj => ?_⟩
  obtain ⟨y, h3, h4⟩ := h2 j j (by simp [hj])
  rw [h3, List.getD_eq_getElem?_getD, h4]
  rfl

theorem cell_spot {a : Addr} {v : Value} (h : w.cell? a = some v) : a.spot = none ∧ a.block < w.heap.size := by
  unfold World.cell? at h
  split at h
  · rename_i c t fr hb
    refine ⟨?_, ?_⟩
    · cases hs : a.spot with
      | none => rfl
      | some s => simp [hs] at h
    · exact (Array.getElem?_eq_some_iff.1 hb).1
  · cases h

theorem addr_add2 (blk off u j : Nat) : ((⟨blk, off, none⟩ : Addr).add u).add j = ⟨blk, off + (u + j), none⟩ := by
  unfold Addr.add
  by_cases h1 : u = 0
  · subst h1
    by_cases h2 : j = 0
    · subst h2; rfl
    · simp [h2]
  · by_cases h2 : j = 0
    · subst h2; simp [h1]
    · simp [h1, h2, Nat.add_assoc]

theorem fields_av {g : TypeId → List Value → Option (DataW H × List MemPlace)} {T : TypeId → List AV → Prop} {ly : TypeId → Bool}
    (ih : ∀ t, ly t = true → ∀ cs x, g t cs = some x → ∃ xs, V2 P w q xs cs ∧ T t xs) (cs : List Value) : ∀ (fs : List Field) (off : Nat) (r : List (DataW H × List MemPlace)), layF P ly fs off cs.length = true →
    (fs.mapM fun f => g f.type ((cs.drop f.offset).take (P.cellsOf f.type))) = some r → ∃ ps : List (List AV), V2 P w q ps.flatten (cs.drop off) ∧ All2 (fun f p => T f.type p) fs ps
  | [], off, r, hl, h => by
    have := Nat.eq_of_beq_eq_true hl
    subst this
    exact ⟨[], by simp [V2], trivial⟩
  | f :: fs, off, r, hl, h => by
    simp only [layF, Bool.and_eq_true] at hl
    obtain ⟨⟨h1, h2⟩, h3⟩ := hl
    have e := Nat.eq_of_beq_eq_true h1
    obtain ⟨b, bs, g1, g2, rfl⟩ := mapM_cons_some h
    obtain ⟨p, p1, p2⟩ := ih _ h2 _ _ g1
    obtain ⟨ps, r1, r2⟩ := fields_av ih cs fs _ _ h3 g2
    refine ⟨p :: ps, ?_, p2, r2⟩
    rw [List.flatten_cons]
    have : cs.drop off = (cs.drop f.offset).take (P.cellsOf f.type) ++ cs.drop (off + P.cellsOf f.type) := by
      rw [e, ← List.drop_drop]
      exact (List.take_append_drop _ _).symm
    rw [this]
    exact V2_append p1 r1

theorem items_av {g : List Value → Option (DataW H × List MemPlace)} {T : List AV → Prop} (ih : ∀ cs x, g cs = some x → ∃ xs, V2 P w q xs cs ∧ T xs) (cs : List Value) (s n : Nat) (hn : cs.length = n * s)
    (h : ∀ i, i < n → ∃ x, g ((cs.drop (i * s)).take s) = some x) : ∀ (k i : Nat), i + k = n → ∃ ps : List (List AV), V2 P w q ps.flatten (cs.drop (i * s)) ∧ ps.length = k ∧ ∀ p ∈ ps, T p
  | 0, i, hi => by
    have : i = n := by omega
    subst this
    refine ⟨[], ?_, rfl, nofun⟩
    rw [List.drop_eq_nil_of_le (by omega)]
    exact trivial
  | k + 1, i, hi => by
    obtain ⟨x, hx⟩ := h i (by omega)
    obtain ⟨p, p1, p2⟩ := ih _ _ hx
    obtain ⟨ps, r1, r2, r3⟩ := items_av ih cs s n hn h k (i + 1) (by omega)
    refine ⟨p :: ps, ?_, by simp [r2], fun y hy => ?_⟩
    · rw [List.flatten_cons]
      have : cs.drop (i * s) = (cs.drop (i * s)).take s ++ cs.drop ((i + 1) * s) := by
        rw [Nat.succ_mul, ← List.drop_drop]
        exact (List.take_append_drop _ _).symm
      rw [this]
      exact V2_append p1 r1
    · rcases List.mem_cons.1 hy with rfl | hy
      · exact p2
      · exact r3 y hy

theorem trod_av (hq : ∀ b, b < w.heap.size → q b) : ∀ (m : Nat) (t : TypeId), lay P m t = true → ∀ (fuel : Nat) (cs : List Value) (x : DataW H × List MemPlace), DataW.trod enc P w 0 spare held fuel t cs = some x → ∃ xs, V2 P w q xs cs ∧ TyC P m t xs
  | 0, t, hl, _, _, _, _ => by simp [lay] at hl
  | m + 1, t, hl, 0, cs, x, h => by simp [DataW.trod] at h
  | m + 1, t, hl, fuel + 1, cs, x, h => by
    unfold lay at hl
    unfold TyC
    unfold DataW.trod at h
    cases hu : P.underlying t with
    | none => simp [hu] at hl
    | some d =>
      simp only [hu] at hl h ⊢
      cases d with
      | bool =>
        split at h <;> first | (cases h; done) | (rename_i e; cases e; done) | skip
        cases h
        exact ⟨[.val (.bool _)], ⟨⟨.val _, rfl⟩, trivial⟩, _, rfl⟩
      | int k =>
        split at h <;> first | (cases h; done) | (rename_i e; cases e; done) | skip
        rename_i e
        cases e
        split at h
        · rename_i hk
          obtain ⟨rfl, hw⟩ := hk
          simp only [Lit.wf, Bool.and_eq_true, decide_eq_true_eq] at hw
          exact ⟨[.val (.int _ _)], ⟨⟨.val _, rfl⟩, trivial⟩, _, rfl, hw⟩
        · cases h
      | string =>
        split at h <;> first | (cases h; done) | (rename_i e; cases e; done) | skip
        split at h
        · rename_i hs
          exact ⟨[.val (.string _)], ⟨⟨.val _, rfl⟩, trivial⟩, _, rfl, hs⟩
        · cases h
      | slice e =>
        simp only [Bool.and_eq_true] at hl
        split at h <;> first | (cases h; done) | (rename_i e; cases e; done) | skip
        · exact ⟨[.rslice (P.cellsOf e) 0 fun _ => []], ⟨⟨.rslice0 _ _ _ _, rfl⟩, trivial⟩, _, _, rfl, by omega, fun i hi => absurd hi (Nat.not_lt_zero i)⟩
        · rename_i e0 a len cap e1
          cases e1
          split at h
          case isFalse => cases h
          rename_i hb
          have hes : 0 < P.cellsOf e := Nat.le_of_ble_eq_true hl.1
          cases hM : (List.range len).mapM fun i => (w.cells? 0 (a.add (i * P.cellsOf e)) (P.cellsOf e)).bind (DataW.trod enc P w 0 spare held fuel e) with
          | none => rw [hM] at h; cases h
          | some elems =>
            obtain ⟨_, g2⟩ := mapM_get hM
            have hx : ∀ i, ∃ xs : List AV, i < len → ∃ cs, (cs.length = P.cellsOf e ∧ ∀ j, j < P.cellsOf e → w.cell? ((a.add (i * P.cellsOf e)).add j) = some (cs.getD j undef)) ∧ V2 P w q xs cs ∧ TyC P m e xs := fun i => by
              by_cases hi : i < len
              · obtain ⟨y, y1, _⟩ := g2 i i (by simp [hi])
                cases hc : w.cells? 0 (a.add (i * P.cellsOf e)) (P.cellsOf e) with
                | none => rw [hc] at y1; cases y1
                | some cs1 =>
                  rw [hc] at y1
                  obtain ⟨xs, x1, x2⟩ := trod_av hq m e hl.2 _ _ _ y1
                  exact ⟨xs, fun _ => ⟨cs1, cells_some hc, x1, x2⟩⟩
              · exact ⟨[], fun h => absurd h hi⟩
            have hf := fun i => (Classical.choose_spec (hx i))
            generalize hF : (fun i => Classical.choose (hx i)) = F
            have hf : ∀ i, i < len → ∃ cs, (cs.length = P.cellsOf e ∧ ∀ j, j < P.cellsOf e → w.cell? ((a.add (i * P.cellsOf e)).add j) = some (cs.getD j undef)) ∧ V2 P w q (F i) cs ∧ TyC P m e (F i) := fun i hi => by
              have := Classical.choose_spec (hx i) hi
              rw [← hF]
              exact this
            refine ⟨[.rslice (P.cellsOf e) len F], ⟨⟨?_, rfl⟩, trivial⟩, len, F, rfl, ?_, fun i hi => ?_⟩
            · rcases Nat.eq_zero_or_pos len with rfl | hp
              · exact .rslice0 _ _ _ _
              · obtain ⟨cs0, c1, _, _⟩ := hf 0 hp
                have hc0 := c1.2 0 hes
                have e0 : ((a.add (0 * P.cellsOf e)).add 0) = a := by simp [Addr.add]
                rw [e0] at hc0
                obtain ⟨s1, s2⟩ := cell_spot hc0
                obtain ⟨blk, off, spot⟩ := a
                simp only at s1 s2
                subst s1
                have hG : ∀ i, ∃ cs : List Value, i < len → (cs.length = P.cellsOf e ∧ ∀ j, j < P.cellsOf e → w.cell? (((⟨blk, off, none⟩ : Addr).add (i * P.cellsOf e)).add j) = some (cs.getD j undef)) ∧ V2 P w q (F i) cs := fun i => by
                  by_cases hi : i < len
                  · obtain ⟨cs, c1, c2, _⟩ := hf i hi
                    exact ⟨cs, fun _ => ⟨c1, c2⟩⟩
                  · exact ⟨[], fun h => absurd h hi⟩
                refine .rslice _ _ _ blk off cap (fun i j => (Classical.choose (hG i)).getD j undef) hb.2.1 (hq _ s2) (fun i hi => ?_) (fun i j hi hj => ?_) (fun i j x hi hx => ?_)
                · obtain ⟨c1, c2⟩ := Classical.choose_spec (hG i) hi
                  rw [V2_len c2, c1.1]
                · obtain ⟨c1, c2⟩ := Classical.choose_spec (hG i) hi
                  have hc := c1.2 j hj
                  have ea : ((⟨blk, off, none⟩ : Addr).add (i * P.cellsOf e)).add j = ⟨blk, off + (i * P.cellsOf e + j), none⟩ := by
                    exact addr_add2 blk off _ j
                  rw [ea] at hc
                  refine ⟨hc, ?_⟩
                  have hlt : j < (F i).length := by rw [V2_len c2, c1.1]; exact hj
                  exact (V2_get c2 j _ (List.getElem?_eq_getElem hlt)).2
                · obtain ⟨c1, c2⟩ := Classical.choose_spec (hG i) hi
                  exact (V2_get c2 j x hx).1
            · have := hb.2.2
              unfold maxLen at this
              omega
            · obtain ⟨_, _, _, h3⟩ := hf i hi
              exact h3
      | struct fs =>
        replace h : (if cs.length = P.cellsOf t then (fs.toList.mapM fun f => DataW.trod enc P w 0 spare held fuel f.type ((cs.drop f.offset).take (P.cellsOf f.type))).map fun xs => (.agg (xs.map (·.1)), xs.flatMap (·.2)) else none) = some x := h
        split at h
        case isFalse => cases h
        rename_i hc
        cases hM : fs.toList.mapM fun f => DataW.trod enc P w 0 spare held fuel f.type ((cs.drop f.offset).take (P.cellsOf f.type)) with
        | none => rw [hM] at h; cases h
        | some r =>
          obtain ⟨ps, p1, p2⟩ := fields_av (T := TyC P m) (ly := lay P m) (fun t ht cs x hx => trod_av hq m t ht fuel cs x hx) cs fs.toList 0 r (by rw [hc]; exact hl) hM
          exact ⟨ps.flatten, by simpa using p1, ps, rfl, p2⟩
      | array n e =>
        simp only [Bool.and_eq_true] at hl
        replace h : (if cs.length = P.cellsOf t then ((List.range n).mapM fun i => DataW.trod enc P w 0 spare held fuel e ((cs.drop (i * P.cellsOf e)).take (P.cellsOf e))).map fun xs => (.agg (xs.map (·.1)), xs.flatMap (·.2)) else none) = some x := h
        split at h
        case isFalse => cases h
        rename_i hc
        cases hM : (List.range n).mapM fun i => DataW.trod enc P w 0 spare held fuel e ((cs.drop (i * P.cellsOf e)).take (P.cellsOf e)) with
        | none => rw [hM] at h; cases h
        | some r =>
          obtain ⟨_, g2⟩ := mapM_get hM
          obtain ⟨ps, p1, p2, p3⟩ := items_av (T := TyC P m e) (fun cs x hx => trod_av hq m e hl.2 fuel cs x hx) cs (P.cellsOf e) n (by rw [hc]; exact Nat.eq_of_beq_eq_true hl.1)
            (fun i hi => by obtain ⟨y, y1, _⟩ := g2 i i (by simp [hi]); exact ⟨y, y1⟩) n 0 (by omega)
          exact ⟨ps.flatten, by simpa using p1, ps, rfl, p2, p3⟩
      | _ => simp at hl

/-- The shape of an argument. -/
def TyA (P : Program) (m : Nat) (t : TypeId) (x : AV) : Prop :=
  match P.underlying t with
  | some (.struct _) | some (.array _ _) => ∃ xs, x = .agg xs ∧ TyC P m t xs
  | _ => TyC P m t [x]

/-- An argument of a law, as an abstract value. -/
theorem open_av {r : Reach} {b0 : Nat} {t : TypeId} {v : Value} {d : DataW H} {ps : List MemPlace} {m : Nat} (hl : lay P m t = true) (hq : ∀ b, b < w.heap.size → q b)
    (hv : Value.okWide P w r b0 t v) (hd : DataW.Trod enc P w 0 spare held t v d ps) : ∃ x, VT P w q x v ∧ TyA P m t x := by
  obtain ⟨fuel, hf⟩ := hd
  obtain ⟨xs, h1, h2⟩ := trod_av hq m t hl fuel _ _ hf
  have agg : ∀ cs, v = .agg cs → VT P w q (.agg xs) v := by
    rintro cs rfl
    have hlen := V2_len h1
    refine .agg xs cs (by rw [hlen]; simp [Value.cells]) (fun u hu => ?_) (fun i x hx => ?_)
    · obtain ⟨i, hi, rfl⟩ := List.getElem_of_mem hu
      have hx : i < xs.length := by rw [hlen]; simpa [Value.cells] using hi
      have := (V2_get h1 i _ (List.getElem?_eq_getElem hx)).2
      have hi' : i < cs.size := by simpa using hi
      simpa [Value.cells, List.getD_eq_getElem?_getD, hi'] using this
    · have := (V2_get h1 i x hx).1
      simpa [Value.cells, List.getD_eq_getElem?_getD, Array.getD_eq_getD_getElem?] using this
  have one : ∀ u, v.cells.toList = [u] → v = u → ∃ x, VT P w q x v ∧ TyC P m t [x] := by
    rintro u e rfl
    rw [e] at h1
    match xs, h1, h2 with
    | [x], h1, h2 => exact ⟨x, h1.1.1, h2⟩
  unfold TyA
  unfold Value.okWide at hv
  split
  · rename_i fs hu
    simp only [hu] at hv
    obtain ⟨cs, e, _, _⟩ := hv
    exact ⟨_, agg cs e, xs, rfl, h2⟩
  · rename_i n e hu
    simp only [hu] at hv
    obtain ⟨cs, e, _, _⟩ := hv
    exact ⟨_, agg cs e, xs, rfl, h2⟩
  · rename_i n1 n2
    have hc : Cell.okWide P w r b0 t v := by
      split at hv
      · rename_i hu; exact absurd hu (n1 _)
      · rename_i hu; exact absurd hu (n2 _ _)
      · exact hv
    cases v with
    | agg cs =>
      simp only [Cell.okWide] at hc
      split at hc <;> first | (rename_i e _; cases e; done) | (rename_i e; cases e; done) | (simp [Cell.ok] at hc)
    | tuple cs =>
      simp only [Cell.okWide] at hc
      split at hc <;> first | (rename_i e _; cases e; done) | (rename_i e; cases e; done) | (simp [Cell.ok] at hc)
    | _ => exact one _ rfl rfl
end
end Go.Tr

/- The end of a law's proof in chapter 7: what every law shares; the opening of its arguments. Conditions: none. -/
namespace Go.Tr
open Go Go.Proofs Go.RowKit Go.WideShapes Go.ChangeShapes
section
variable {H : Type} {enc : TypeId × Value → H} {P : Program}
theorem post_of_below {f : Func} {s : ChangeSpec} {apart fresh handsOn again : Bool} {W W' : World} {args : Array Value} {v : Value} {ds gs : List (DataW H)} {before pa pv : List MemPlace}
    (hW : DataW.Whole enc P f.params.toList s.vars apart W args.toList ds gs before)
    (hres : ∀ (b : Nat) (sp : Nat → Bool) (hd : Bool), DataW.TrodAll enc P W' b sp hd f.resultTypes.toList (v.resultList f.resultTypes.size) (s.fn H (ds ++ gs)).results [])
    (hargs : ∀ sp : Nat → Bool, (∀ p ∈ before, sp p.block = true) → DataW.TrodAll enc P W' 0 sp true f.params.toList args.toList (s.fn H (ds ++ gs)).args pa)
    (hvars : ∀ sp : Nat → Bool, (∀ p ∈ before, sp p.block = true) → DataW.TrodVars enc P W' sp s.vars (s.fn H (ds ++ gs)).vars pv)
    (hps : before = pa ++ pv) (hb : Below W.heap.size W W')
    (hok : ∀ (j : Nat) (t : TypeId) (r : Value), f.resultTypes[j]? = some t → (v.resultList f.resultTypes.size)[j]? = some r → Value.okWide P W' .any 0 t r) :
    s.post enc P f apart fresh handsOn again W args v W' := by
  have hlt : ∀ p ∈ before, p.block < W.heap.size := fun p hp => hW.lt p hp
  have hold : ∀ p ∈ before, (fun b => decide (b < W.heap.size)) p.block = true := fun p hp => by simpa using hlt p hp
  refine ⟨ds, gs, before, [], pa, pv, hW, hres _ _ _, hargs _ hold, hvars _ hold, World.keptBut_mono (fun p hp => ⟨hp, ?_⟩) (hb.frame (· ∈ before)), fun _ => ?_⟩
  · rw [hps, List.mem_append] at hp
    exact Or.inr hp
  · obtain ⟨_, _, _, _, _, hz, hn⟩ := hW
    refine ⟨hok, _, _, ([] ++ pa) ++ pv, ⟨[] ++ pa, pv, trodAll_append (hargs _ (fun _ _ => rfl)) (hres _ _ _), hvars _ (fun _ _ => rfl), rfl, ?_, ?_⟩, ?_⟩
    · intro b off hp
      have hin : MemPlace.cell b off ∈ before := by rw [hps]; simpa using hp
      rw [hb.frozen (hlt _ hin)]
      exact hz b off hin
    · intro ha
      have := hn ha
      rw [hps] at this
      simpa using this
    · intro p hp _
      rw [hps]
      simpa using hp
end

set_option maxRecDepth 20000
/-! ### Openings -/

theorem list_openF {α : Type} {es len : Nat} {f : Nat → List AV} {g : α → List AV} {p : α → Prop} (d : α) {k : Nat} (h : ∀ i, i < len → ∃ a, AVL k (f i) (g a) ∧ p a) :
    ∃ l : List α, l.length = len ∧ (∀ a ∈ l, p a) ∧ AVF (k + 1) (.rslice es len f) (.rslice es l.length fun i => g (l.getD i d)) := by
  have hx : ∀ i, ∃ a, i < len → AVL k (f i) (g a) ∧ p a := fun i => by
    by_cases hi : i < len
    · obtain ⟨a, ha⟩ := h i hi
      exact ⟨a, fun _ => ha⟩
    · exact ⟨d, fun h => absurd h hi⟩
  refine ⟨(List.range len).map fun i => Classical.choose (hx i), by simp, fun a ha => ?_, ⟨rfl, by simp, fun i hi => ?_⟩⟩
  · obtain ⟨i, hi, rfl⟩ := List.mem_map.1 ha
    exact (Classical.choose_spec (hx i) (List.mem_range.1 hi)).2
  · have := (Classical.choose_spec (hx i) hi).1
    simpa [List.getD_eq_getElem?_getD, hi, AVL] using this
theorem int_open {m : Nat} {t : TypeId} {xs : List AV} {P : Program} (hu : P.underlying t = some (.int .i64)) (h : TyC P (m + 1) t xs) : ∃ n, xs = [i64 n] ∧ inK .i64 n := by
  unfold TyC at h
  simpa only [hu] using h
theorem bool_open {m : Nat} {t : TypeId} {xs : List AV} {P : Program} (hu : P.underlying t = some .bool) (h : TyC P (m + 1) t xs) : ∃ b, xs = [vb b] := by
  unfold TyC at h
  simpa only [hu] using h
theorem str_open {m : Nat} {t : TypeId} {xs : List AV} {P : Program} (hu : P.underlying t = some .string) (h : TyC P (m + 1) t xs) : ∃ s : ByteArray, xs = [sv s] ∧ s.size ≤ 9223372036854775807 := by
  unfold TyC at h
  simpa only [hu] using h
theorem all2_cons {α β : Type} {p : α → β → Prop} {a : α} {l : List α} {m : List β} (h : All2 p (a :: l) m) : ∃ x r, m = x :: r ∧ p a x ∧ All2 p l r := by
  match m, h with
  | x :: r, h => exact ⟨x, r, rfl, h.1, h.2⟩
theorem all2_nil {α β : Type} {p : α → β → Prop} {m : List β} (h : All2 p [] m) : m = [] := by
  match m, h with
  | [], _ => rfl
theorem AVL_refl {n : Nat} (l : List AV) : AVL n l l := ⟨rfl, fun _ _ _ hx hy => .inl (Option.some.inj (hx.symm.trans hy))⟩
theorem AVL_agg {n : Nat} {l l' : List AV} (h : AVL n l l') : AVF (n + 1) (.agg l) (.agg l') := h
theorem AVF_self (x : AV) : x = x ∨ AVF 6 x x := .inl rfl
theorem AVF_orL {k : Nat} {l : List AV} : AVF (k + 1) (.agg l) (.agg l) := ⟨rfl, fun _ _ _ hx hy => .inl (Option.some.inj (hx.symm.trans hy))⟩
theorem arr3_open {x : AV} (h : TyA Tryd.prog 6 47 x) : ∃ a b c : Int, AVF 6 x (.agg [i64 a, i64 b, i64 c]) ∧ inK .i64 a ∧ inK .i64 b ∧ inK .i64 c := by
  simp only [TyA, Tryd.underlying47] at h
  obtain ⟨xs, rfl, h⟩ := h
  unfold TyC at h
  simp only [Tryd.underlying47] at h
  obtain ⟨ps, rfl, hn, h⟩ := h
  match ps, hn with
  | [p, q, r], _ =>
    obtain ⟨a, rfl, ha⟩ := int_open Tryd.underlying3 (h p (by simp))
    obtain ⟨b, rfl, hb⟩ := int_open Tryd.underlying3 (h q (by simp))
    obtain ⟨c, rfl, hc⟩ := int_open Tryd.underlying3 (h r (by simp))
    exact ⟨a, b, c, AVF_orL, ha, hb, hc⟩
theorem state_open {x : AV} (h : TyA Tryd.prog 6 27 x) : ∃ s : Int × Int, AVF 6 x (stA s) ∧ inK .i64 s.1 ∧ inK .i64 s.2 := by
  simp only [TyA, Tryd.underlying27] at h
  obtain ⟨xs, rfl, h⟩ := h
  unfold TyC at h
  simp only [Tryd.underlying27] at h
  obtain ⟨ps, rfl, h⟩ := h
  obtain ⟨p, ps, rfl, h1, h⟩ := all2_cons h
  obtain ⟨q, ps, rfl, h2, h⟩ := all2_cons h
  cases all2_nil h
  obtain ⟨a, rfl, ha⟩ := int_open Tryd.underlying3 h1
  obtain ⟨b, rfl, hb⟩ := int_open Tryd.underlying3 h2
  exact ⟨(a, b), AVF_orL, ha, hb⟩
theorem entry_open {x : AV} (h : TyA Tryd.prog 6 65 x) : ∃ s : Int × Int, AVF 6 x (stA s) ∧ inK .i64 s.1 ∧ inK .i64 s.2 := by
  simp only [TyA, Tryd.underlying65] at h
  obtain ⟨xs, rfl, h⟩ := h
  unfold TyC at h
  simp only [Tryd.underlying65] at h
  obtain ⟨ps, rfl, h⟩ := h
  obtain ⟨p, ps, rfl, h1, h⟩ := all2_cons h
  obtain ⟨q, ps, rfl, h2, h⟩ := all2_cons h
  cases all2_nil h
  obtain ⟨a, rfl, ha⟩ := int_open Tryd.underlying3 h1
  obtain ⟨b, rfl, hb⟩ := int_open Tryd.underlying3 h2
  exact ⟨(a, b), AVF_orL, ha, hb⟩
theorem fault_open {x : AV} (h : TyA Tryd.prog 6 38 x) : ∃ f : Int × Bool, AVF 6 x (ftA f) ∧ inK .i64 f.1 := by
  simp only [TyA, Tryd.underlying38] at h
  obtain ⟨xs, rfl, h⟩ := h
  unfold TyC at h
  simp only [Tryd.underlying38] at h
  obtain ⟨ps, rfl, h⟩ := h
  obtain ⟨p, ps, rfl, h1, h⟩ := all2_cons h
  obtain ⟨q, ps, rfl, h2, h⟩ := all2_cons h
  cases all2_nil h
  obtain ⟨a, rfl, ha⟩ := int_open Tryd.underlying3 h1
  obtain ⟨b, rfl⟩ := bool_open Tryd.underlying4 h2
  exact ⟨(a, b), AVF_orL, ha⟩
theorem cellsI : Tryd.prog.cellsOf 3 = 1 := by kernel_rfl
theorem cellsSt : Tryd.prog.cellsOf 42 = 14 := by kernel_rfl
theorem cellsStr : Tryd.prog.cellsOf 9 = 1 := by kernel_rfl
theorem ints_deep {m : Nat} {xs : List AV} (h : TyC Tryd.prog (m + 2) 31 xs) : ∃ l : List Int, ∃ x, xs = [x] ∧ (∀ k, AVF (k + 2) x (ints l)) ∧ l.length ≤ 9223372036854775807 ∧ ∀ a ∈ l, inK .i64 a := by
  unfold TyC at h
  simp only [Tryd.underlying31] at h
  obtain ⟨len, f, rfl, hl, hf⟩ := h
  obtain ⟨l, n1, n2, n3⟩ := list_openF (es := Tryd.prog.cellsOf 3) (f := f) (k := 0) (g := fun n : Int => [i64 n]) (p := fun n => inK .i64 n) 0 (fun i hi => by
    obtain ⟨n, e, hn⟩ := int_open Tryd.underlying3 (hf i hi)
    exact ⟨n, by rw [e]; exact AVL_refl _, hn⟩)
  refine ⟨l, _, rfl, fun k => ?_, by rw [n1]; exact hl, n2⟩
  rw [cellsI]
  refine ⟨rfl, n1.symm, fun i hi => ?_⟩
  have := n3.2.2 i hi
  refine ⟨this.1, fun j x y hx hy => ?_⟩
  rcases this.2 j x y hx hy with e | e
  · exact .inl e
  · exact e.elim
theorem ints_open {x : AV} (h : TyA Tryd.prog 6 31 x) : ∃ l : List Int, AVF 6 x (ints l) ∧ l.length ≤ 9223372036854775807 ∧ ∀ a ∈ l, inK .i64 a := by
  simp only [TyA, Tryd.underlying31] at h
  obtain ⟨l, y, e, h1, h2⟩ := ints_deep (m := 4) h
  cases e
  exact ⟨l, h1 4, h2⟩

theorem cells65 : Tryd.prog.cellsOf 65 = 2 := by kernel_rfl
theorem cells86 : Tryd.prog.cellsOf 86 = 3 := by kernel_rfl
theorem entries_open {x : AV} (h : TyA Tryd.prog 6 83 x) : ∃ L : List (Int × Int), AVF 6 x (entsA L) ∧ L.length ≤ 9223372036854775807 := by
  simp only [TyA, Tryd.underlying83] at h
  unfold TyC at h
  simp only [Tryd.underlying83] at h
  obtain ⟨len, f, e, hl, hf⟩ := h
  cases e
  obtain ⟨l, n1, _, n3⟩ := list_openF (es := Tryd.prog.cellsOf 65) (f := f) (k := 5) (g := fun s : Int × Int => [i64 s.1, i64 s.2]) (p := fun _ => True) (0, 0) (fun i hi => by
    have h := hf i hi
    unfold TyC at h
    simp only [Tryd.underlying65] at h
    obtain ⟨ps, e, h⟩ := h
    obtain ⟨p, ps, rfl, h1, h⟩ := all2_cons h
    obtain ⟨q, ps, rfl, h2, h⟩ := all2_cons h
    cases all2_nil h
    obtain ⟨a, rfl, _⟩ := int_open Tryd.underlying3 h1
    obtain ⟨b, rfl, _⟩ := int_open Tryd.underlying3 h2
    exact ⟨(a, b), by rw [e]; exact AVL_refl _, trivial⟩)
  refine ⟨l, ?_, by rw [n1]; exact hl⟩
  rw [cells65]
  exact n3
theorem hall_open {x : AV} (h : TyA Tryd.prog 6 63 x) : ∃ h : Hal, AVF 6 x (hallA h) ∧ h.rules.length ≤ 9223372036854775807 := by
  simp only [TyA, Tryd.underlying63] at h
  obtain ⟨xs, rfl, h⟩ := h
  unfold TyC at h
  simp only [Tryd.underlying63] at h
  obtain ⟨ps, rfl, h⟩ := h
  obtain ⟨p1, ps, rfl, h1, h⟩ := all2_cons h
  obtain ⟨p2, ps, rfl, h2, h⟩ := all2_cons h
  cases all2_nil h
  obtain ⟨n, rfl, _⟩ := int_open Tryd.underlying3 h1
  unfold TyC at h2
  simp only [Tryd.underlying61] at h2
  obtain ⟨len, f, rfl, hl, hf⟩ := h2
  obtain ⟨l, n1, _, n3⟩ := list_openF (es := Tryd.prog.cellsOf 86) (f := f) (k := 4) (g := rulC) (p := fun _ => True) rul0 (fun i hi => by
    have h := hf i hi
    unfold TyC at h
    simp only [Tryd.underlying86] at h
    obtain ⟨ps, e, h⟩ := h
    obtain ⟨p, ps, rfl, h1, h⟩ := all2_cons h
    obtain ⟨q, ps, rfl, h2, h⟩ := all2_cons h
    obtain ⟨r, ps, rfl, h3, h⟩ := all2_cons h
    cases all2_nil h
    obtain ⟨a, rfl, _⟩ := int_open Tryd.underlying3 h1
    obtain ⟨b, rfl, _⟩ := int_open Tryd.underlying3 h2
    obtain ⟨c, rfl, _⟩ := int_open Tryd.underlying3 h3
    exact ⟨(a, b, c), by rw [e]; exact AVL_refl _, trivial⟩)
  refine ⟨⟨n, l⟩, ?_, by rw [n1]; exact hl⟩
  rw [cells86]
  exact AVL_cons (.inl rfl) (AVL_cons (.inr n3) (AVL_nil _))

/-- What holds of the plans that are given. -/
structure Pln.In (p : Pln) : Prop where
  sig : p.sig.length ≤ 9223372036854775807
  steps : p.steps.length ≤ 9223372036854775807
  name : ∀ s ∈ p.sig, s.size ≤ 9223372036854775807
  stn : ∀ s ∈ p.steps, s.name.size ≤ 9223372036854775807 ∧ s.exits.length ≤ 9223372036854775807
theorem step_open {xs : List AV} (h : TyC Tryd.prog 4 42 xs) : ∃ s : Stp, AVL 4 xs (stpC s) ∧ (s.name.size ≤ 9223372036854775807 ∧ s.exits.length ≤ 9223372036854775807) := by
  unfold TyC at h
  simp only [Tryd.underlying42] at h
  obtain ⟨ps, rfl, h⟩ := h
  obtain ⟨p1, ps, rfl, h1, h⟩ := all2_cons h
  obtain ⟨p2, ps, rfl, h2, h⟩ := all2_cons h
  obtain ⟨p3, ps, rfl, h3, h⟩ := all2_cons h
  obtain ⟨p4, ps, rfl, h4, h⟩ := all2_cons h
  obtain ⟨p5, ps, rfl, h5, h⟩ := all2_cons h
  obtain ⟨p6, ps, rfl, h6, h⟩ := all2_cons h
  obtain ⟨p7, ps, rfl, h7, h⟩ := all2_cons h
  obtain ⟨p8, ps, rfl, h8, h⟩ := all2_cons h
  obtain ⟨p9, ps, rfl, h9, h⟩ := all2_cons h
  obtain ⟨p10, ps, rfl, h10, h⟩ := all2_cons h
  obtain ⟨p11, ps, rfl, h11, h⟩ := all2_cons h
  obtain ⟨p12, ps, rfl, h12, h⟩ := all2_cons h
  obtain ⟨p13, ps, rfl, h13, h⟩ := all2_cons h
  obtain ⟨p14, ps, rfl, h14, h⟩ := all2_cons h
  cases all2_nil h
  obtain ⟨x1, rfl, q1⟩ := str_open Tryd.underlying9 h1
  obtain ⟨x2, rfl⟩ := bool_open Tryd.underlying4 h2
  obtain ⟨x3, rfl, _⟩ := int_open Tryd.underlying3 h3
  obtain ⟨x4, rfl, _⟩ := int_open Tryd.underlying3 h4
  obtain ⟨x5, rfl, _⟩ := int_open Tryd.underlying3 h5
  obtain ⟨x6, rfl, _⟩ := int_open Tryd.underlying3 h6
  obtain ⟨x7, y7, rfl, q7, q7l, _⟩ := ints_deep (m := 1) h7
  obtain ⟨x8, rfl, _⟩ := int_open Tryd.underlying3 h8
  obtain ⟨x9, rfl, _⟩ := int_open Tryd.underlying3 h9
  obtain ⟨x10, rfl, _⟩ := int_open Tryd.underlying3 h10
  obtain ⟨x11, rfl, _⟩ := int_open Tryd.underlying3 h11
  obtain ⟨x12, rfl, _⟩ := int_open Tryd.underlying3 h12
  obtain ⟨x13, rfl, _⟩ := int_open Tryd.underlying3 h13
  obtain ⟨x14, rfl, _⟩ := int_open Tryd.underlying3 h14
  exact ⟨⟨x1, x2, x3, x4, x5, x6, x7, x8, x9, x10, x11, x12, x13, x14⟩, AVL_step rfl (q7 2), q1, q7l⟩
theorem plan_open {x : AV} (h : TyA Tryd.prog 6 25 x) : ∃ p : Pln, AVF 6 x (planA p) ∧ p.In := by
  simp only [TyA, Tryd.underlying25] at h
  obtain ⟨xs, rfl, h⟩ := h
  unfold TyC at h
  simp only [Tryd.underlying25] at h
  obtain ⟨ps, rfl, h⟩ := h
  obtain ⟨p1, ps, rfl, h1, h⟩ := all2_cons h
  obtain ⟨p2, ps, rfl, h2, h⟩ := all2_cons h
  obtain ⟨p3, ps, rfl, h3, h⟩ := all2_cons h
  cases all2_nil h
  obtain ⟨n, rfl, _⟩ := int_open Tryd.underlying3 h2
  unfold TyC at h1
  simp only [Tryd.underlying22] at h1
  obtain ⟨l1, f1, rfl, hl1, hf1⟩ := h1
  unfold TyC at h3
  simp only [Tryd.underlying23] at h3
  obtain ⟨l2, f2, rfl, hl2, hf2⟩ := h3
  obtain ⟨sg, n1, n2, n3⟩ := list_openF (es := Tryd.prog.cellsOf 9) (f := f1) (k := 4) (g := fun s : ByteArray => [sv s]) (p := fun s => s.size ≤ 9223372036854775807) ByteArray.empty (fun i hi => by
    obtain ⟨s, e, hs⟩ := str_open Tryd.underlying9 (hf1 i hi)
    exact ⟨s, by rw [e]; exact AVL_refl _, hs⟩)
  obtain ⟨st, m1, m2, m3⟩ := list_openF (es := Tryd.prog.cellsOf 42) (f := f2) (k := 4) (g := stpC) (p := fun s => s.name.size ≤ 9223372036854775807 ∧ s.exits.length ≤ 9223372036854775807) stp0 (fun i hi => step_open (hf2 i hi))
  refine ⟨⟨sg, n, st⟩, ?_, by rw [n1]; exact hl1, by rw [m1]; exact hl2, n2, m2⟩
  rw [cellsStr, cellsSt]
  exact AVL_cons (.inr n3) (AVL_cons (.inl rfl) (AVL_cons (.inr m3) (AVL_nil _)))
end Go.Tr
namespace Go.Proofs.YtflgajlngiojbaaDoor
open Go.ChangeShapes Go.WideShapes Go.ChangeAt Go.RowKit Go.Tr
theorem Tryd.own : ownKnob Tryd.prog.godebug = none := by kernel_rfl
theorem Tryd.laidOut : laidOutB Tryd.prog = true := by kernel_rfl
theorem gNo : Tryd.prog.globalNamed "guidevane/sequence.noFault" = some 0 := by kernel_rfl
theorem tNo : (Tryd.prog.globals[0]?).map (·.type) = some 38 := by kernel_rfl
def laidL : List (String × DataW Unit) := [("guidevane/sequence.noFault", Rows.laid_guidevane_sequence_noFault)]
theorem door_met (os : Os) (args : Array Value) : laidMetH Tryd.prog laidL ((World.doorLaid Tryd.prog 400 os).forCall (fun _ _ => 0) ⟨#[], args, []⟩).memory :=
  laidMetH_of_parts3 (fuel := 8) (laidMet_of_run' 8 (by kernel_rfl) (by kernel_rfl)) (by kernel_rfl) (by kernel_rfl)
theorem cells3' : Tryd.prog.cellsOf 3 = 1 := by kernel_rfl
theorem cells4' : Tryd.prog.cellsOf 4 = 1 := by kernel_rfl
theorem two_of {α : Type} : ∀ {l : List α}, l.length = 2 → ∃ u v, l = [u, v]
  | [u, v], _ => ⟨u, v, rfl⟩
/-- What the condition gives: the variable's cells. -/
theorem of_laid {W : World} (h : laidMetH Tryd.prog laidL W) : W.cell? ⟨0, 0, none⟩ = some (.int .i64 (-1)) ∧ W.cell? ⟨0, 1, none⟩ = some (.bool false) := by
  rw [MakeChecks.laidMetH_plain _ _ _ (by kernel_rfl)] at h
  obtain ⟨ps, ⟨g0, t0, cs0, f0, p0, q0, hg0, ht0, hv0, hd0, _, _⟩, _, _⟩ := h
  obtain rfl := Option.some.inj (gNo.symm.trans hg0)
  obtain rfl := Option.some.inj (tNo.symm.trans ht0)
  have hcells := World.var?_cell gNo hv0
  obtain ⟨xs, n, rfl, hx, hl, hxl, hf⟩ := DataW.trod_struct Tryd.underlying38 hd0
  have h0 := hf 0 _ rfl
  have h1 := hf 1 _ rfl
  simp only [Prod.mk.injEq] at hx
  have hx1 : [DataW.lit (.int .i64 (-1)), .lit (.bool false)] = xs.map (·.1) := DataW.agg.inj hx.1
  match xs, hx1, h0, h1 with
  | [x0, x1], hx1, h0, h1 =>
    simp only [List.map_cons, List.map_nil, List.cons.injEq, and_true] at hx1
    obtain ⟨k, e1, e2, _⟩ := DataW.trod_int Tryd.underlying3 h0
    obtain ⟨b, e3, e4⟩ := DataW.trod_bool Tryd.underlying4 h1
    rw [e2] at hx1
    rw [e4] at hx1
    have hk : k = -1 := by have := hx1.1; simpa using this.symm
    have hb : b = false := by have := hx1.2; simpa using this.symm
    subst hk
    subst hb
    obtain ⟨l⟩ := cs0
    have c38 : Tryd.prog.cellsOf 38 = 2 := by kernel_rfl
    rw [c38] at hl
    have e1 : List.take (Tryd.prog.cellsOf 3) (List.drop 0 l) = [.int .i64 (-1)] := e1
    have e3 : List.take (Tryd.prog.cellsOf 4) (List.drop 1 l) = [.bool false] := e3
    rw [cells3'] at e1
    rw [cells4'] at e3
    have hl2 : l.length = 2 := hl
    clear hl hd0 hf h0 h1
    obtain ⟨u, v, rfl⟩ := two_of hl2
    · have e1 : u = .int .i64 (-1) := by simpa using e1
      have e3 : v = .bool false := by simpa using e3
      have g0 := hcells 0
      have g1 := hcells 1
      rw [e1] at g0
      rw [e3] at g1
      exact ⟨g0, g1⟩
theorem heap_pos {W : World} (h : laidMetH Tryd.prog laidL W) : 0 < W.heap.size := (cell_spot (of_laid h).1).2
theorem gok_of {W : World} (h : laidMetH Tryd.prog laidL W) (hz : 0 < W.heap.size) : GOk Tryd.prog W (fun b => b < W.heap.size) := by
  obtain ⟨h1, h2⟩ := of_laid h
  intro g l hl
  match g, hl with
  | 0, hl =>
    cases hl
    refine .rptr _ 0 0 (fun j => match j with | 0 => .int .i64 (-1) | _ => .bool false) hz (fun j hj => ?_) (fun j x hx => ?_)
    · match j, hj with
      | 0, _ => exact ⟨h1, rfl⟩
      | 1, _ => exact ⟨h2, rfl⟩
    · match j, hx with
      | 0, hx => cases hx; exact .val _
      | 1, hx => cases hx; exact .val _
end Go.Proofs.YtflgajlngiojbaaDoor

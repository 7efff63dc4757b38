/- The end of a law's proof in chapter 6: what every law shares; the opening of its arguments. Conditions: none. -/
import Derived.Test.YtnimndbpoblncaaRows
import Derived.Test.YtnimndbpoblncaaTr10
import Derived.Test.YtnimndbpoblncaaTr09
import Derived.ProofKit
set_option linter.unusedSectionVars false
set_option linter.unnecessarySimpa false
set_option linter.unusedVariables false
set_option linter.unusedSimpArgs false

namespace Go.Tr
open Go Go.Proofs Go.RowKit Go.WideShapes Go.ChangeShapes
section
variable {H : Type} {enc : TypeId × Value → H} {P : Program}
theorem post_of_below {f : Func} {s : ChangeSpec} {apart fresh handsOn again : Bool} {W W' : World} {args : Array Value} {v : Value} {ds gs : List (DataW H)} {before pa pv : List MemPlace}
    (hW : DataW.Whole enc P f.params.toList s.vars apart W args.toList ds gs before)
    (hres : ∀ (b : Nat) (sp : Nat → Bool) (hd : Bool), DataW.TrodAll enc P W' b sp hd f.resultTypes.toList (v.resultList f.resultTypes.size) (s.fn H (ds ++ gs)).results [])
    (hargs : ∀ sp : Nat → Bool, (∀ p ∈ before, sp p.block = true) → DataW.TrodAll enc P W' 0 sp true f.params.toList args.toList (s.fn H (ds ++ gs)).args pa)
    (hvars : ∀ sp : Nat → Bool, (∀ p ∈ before, sp p.block = true) → DataW.TrodVars enc P W' sp s.vars (s.fn H (ds ++ gs)).vars pv)
    (hps : before = pa ++ pv) (hb : Below W.heap.size W W')
    (hok : ∀ (j : Nat) (t : TypeId) (r : Value), f.resultTypes[j]? = some t → (v.resultList f.resultTypes.size)[j]? = some r → Value.okWide P W' .any 0 t r) :
    s.post enc P f apart fresh handsOn again W args v W' := by
  have hlt : ∀ p ∈ before, p.block < W.heap.size := fun p hp => hW.lt p hp
  have hold : ∀ p ∈ before, (fun b => decide (b < W.heap.size)) p.block = true := fun p hp => by simpa using hlt p hp
  refine ⟨ds, gs, before, [], pa, pv, hW, hres _ _ _, hargs _ hold, hvars _ hold, World.keptBut_mono (fun p hp => ⟨hp, ?_⟩) (hb.frame (· ∈ before)), fun _ => ?_⟩
  · rw [hps, List.mem_append] at hp
    exact Or.inr hp
  · obtain ⟨_, _, _, _, _, hz, hn⟩ := hW
    refine ⟨hok, _, _, ([] ++ pa) ++ pv, ⟨[] ++ pa, pv, trodAll_append (hargs _ (fun _ _ => rfl)) (hres _ _ _), hvars _ (fun _ _ => rfl), rfl, ?_, ?_⟩, ?_⟩
    · intro b off hp
      have hin : MemPlace.cell b off ∈ before := by rw [hps]; simpa using hp
      rw [hb.frozen (hlt _ hin)]
      exact hz b off hin
    · intro ha
      have := hn ha
      rw [hps] at this
      simpa using this
    · intro p hp _
      rw [hps]
      simpa using hp
end

set_option maxRecDepth 20000
set_option maxHeartbeats 8000000
/-! ### Openings -/

def AVL (n : Nat) (l l' : List AV) : Prop := l.length = l'.length ∧ ∀ i x y, nth? l i = some x → nth? l' i = some y → x = y ∨ AVF n x y

theorem list_openF {α : Type} {es len : Nat} {f : Nat → List AV} {g : α → List AV} {p : α → Prop} (d : α) {k : Nat} (h : ∀ i, i < len → ∃ a, AVL k (f i) (g a) ∧ p a) :
    ∃ l : List α, l.length = len ∧ (∀ a ∈ l, p a) ∧ AVF (k + 1) (.rslice es len f) (.rslice es l.length fun i => g (l.getD i d)) := by
  have hx : ∀ i, ∃ a, i < len → AVL k (f i) (g a) ∧ p a := fun i => by
    by_cases hi : i < len
    · obtain ⟨a, ha⟩ := h i hi
      exact ⟨a, fun _ => ha⟩
    · exact ⟨d, fun h => absurd h hi⟩
  refine ⟨(List.range len).map fun i => Classical.choose (hx i), by simp, fun a ha => ?_, ⟨rfl, by simp, fun i hi => ?_⟩⟩
  · obtain ⟨i, hi, rfl⟩ := List.mem_map.1 ha
    exact (Classical.choose_spec (hx i) (List.mem_range.1 hi)).2
  · have := (Classical.choose_spec (hx i) hi).1
    simpa [List.getD_eq_getElem?_getD, hi, AVL] using this
theorem int_open {m : Nat} {t : TypeId} {xs : List AV} {P : Program} (hu : P.underlying t = some (.int .i64)) (h : TyC P (m + 1) t xs) : ∃ n, xs = [i64 n] ∧ inK .i64 n := by
  unfold TyC at h
  simpa only [hu] using h
theorem all2_cons {α β : Type} {p : α → β → Prop} {a : α} {l : List α} {m : List β} (h : All2 p (a :: l) m) : ∃ x r, m = x :: r ∧ p a x ∧ All2 p l r := by
  match m, h with
  | x :: r, h => exact ⟨x, r, rfl, h.1, h.2⟩
theorem all2_nil {α β : Type} {p : α → β → Prop} {m : List β} (h : All2 p [] m) : m = [] := by
  match m, h with
  | [], _ => rfl
theorem AVL_refl {n : Nat} (l : List AV) : AVL n l l := ⟨rfl, fun _ _ _ hx hy => .inl (Option.some.inj (hx.symm.trans hy))⟩
theorem AVF_orL {k : Nat} {l : List AV} : AVF (k + 1) (.agg l) (.agg l) := ⟨rfl, fun _ _ _ hx hy => .inl (Option.some.inj (hx.symm.trans hy))⟩
theorem four_open {t : TypeId} {fs : Array Field} (hu : Try.prog.underlying t = some (.struct fs)) (hf : fs.toList.map (·.type) = [3, 3, 3, 3]) {x : AV} (h : TyA Try.prog 6 t x) : ∃ a b c d : Int, x = .agg [i64 a, i64 b, i64 c, i64 d] := by
  simp only [TyA, hu] at h
  obtain ⟨xs, rfl, h⟩ := h
  unfold TyC at h
  simp only [hu] at h
  obtain ⟨ps, rfl, h⟩ := h
  generalize fs.toList = L at hf h
  match L with
  | [] => simp at hf
  | [_] => simp at hf
  | [_, _] => simp at hf
  | [_, _, _] => simp at hf
  | _ :: _ :: _ :: _ :: _ :: _ => simp at hf
  | [f1, f2, f3, f4] =>
    simp only [List.map_cons, List.map_nil, List.cons.injEq, and_true] at hf
    obtain ⟨p1, ps, rfl, h1, h⟩ := all2_cons h
    obtain ⟨p2, ps, rfl, h2, h⟩ := all2_cons h
    obtain ⟨p3, ps, rfl, h3, h⟩ := all2_cons h
    obtain ⟨p4, ps, rfl, h4, h⟩ := all2_cons h
    cases all2_nil h
    rw [hf.1] at h1
    rw [hf.2.1] at h2
    rw [hf.2.2.1] at h3
    rw [hf.2.2.2] at h4
    obtain ⟨a, rfl, _⟩ := int_open Try.underlying3 h1
    obtain ⟨b, rfl, _⟩ := int_open Try.underlying3 h2
    obtain ⟨c, rfl, _⟩ := int_open Try.underlying3 h3
    obtain ⟨d, rfl, _⟩ := int_open Try.underlying3 h4
    exact ⟨a, b, c, d, rfl⟩
theorem gate_open {x : AV} (h : TyA Try.prog 6 23 x) : ∃ g : Gt, AVF 6 x (gtA g) ∧ True := by
  obtain ⟨a, b, c, d, rfl⟩ := four_open Try.underlying23 rfl h
  exact ⟨⟨a, b, c, d⟩, AVF_orL, trivial⟩
theorem rules_open {x : AV} (h : TyA Try.prog 6 25 x) : ∃ r : Ru, AVF 6 x (ruA r) ∧ True := by
  obtain ⟨a, b, c, d, rfl⟩ := four_open Try.underlying25 rfl h
  exact ⟨⟨a, b, c, d⟩, AVF_orL, trivial⟩
theorem cellsI : Try.prog.cellsOf 3 = 1 := by kernel_rfl
theorem ints_deep {m : Nat} {xs : List AV} (h : TyC Try.prog (m + 2) 26 xs) : ∃ l : List Int, ∃ x, xs = [x] ∧ (∀ k, AVF (k + 2) x (ints l)) ∧ l.length ≤ 9223372036854775807 ∧ ∀ a ∈ l, inK .i64 a := by
  unfold TyC at h
  simp only [Try.underlying26] at h
  obtain ⟨len, f, rfl, hl, hf⟩ := h
  obtain ⟨l, n1, n2, n3⟩ := list_openF (es := Try.prog.cellsOf 3) (f := f) (k := 0) (g := fun n : Int => [i64 n]) (p := fun n => inK .i64 n) 0 (fun i hi => by
    obtain ⟨n, e, hn⟩ := int_open Try.underlying3 (hf i hi)
    exact ⟨n, by rw [e]; exact AVL_refl _, hn⟩)
  refine ⟨l, _, rfl, fun k => ?_, by rw [n1]; exact hl, n2⟩
  rw [cellsI]
  refine ⟨rfl, n1.symm, fun i hi => ?_⟩
  have := n3.2.2 i hi
  refine ⟨this.1, fun j x y hx hy => ?_⟩
  rcases this.2 j x y hx hy with e | e
  · exact .inl e
  · exact e.elim
theorem gok_none {w : World} {q : Nat → Prop} : GOk Try.prog w q := fun g l h => by cases h
end Go.Tr

namespace Go.Proofs.Ytnimndbpoblncaa
open Go.ChangeShapes Go.WideShapes Go.ChangeAt Go.RowKit Go.Tr
theorem Try.own : ownKnob Try.prog.godebug = none := by kernel_rfl
theorem Try.laidOut : laidOutB Try.prog = true := by kernel_rfl
end Go.Proofs.Ytnimndbpoblncaa

/- The opening of readings at each tick. Conditions: none. -/
-- seat Ytnimndbpoblncaa
namespace Go.Tr
open Go Go.Proofs
set_option maxRecDepth 20000
set_option maxHeartbeats 8000000

theorem cellsP : Try.prog.cellsOf 34 = 2 := by kernel_rfl
theorem prs_deep {m : Nat} {xs : List AV} (h : TyC Try.prog (m + 3) 27 xs) : ∃ l : List (Int × Int), ∃ x, xs = [x] ∧ (∀ k, AVF (k + 2) x (prs l)) := by
  unfold TyC at h
  simp only [Try.underlying27] at h
  obtain ⟨len, f, rfl, hl, hf⟩ := h
  obtain ⟨l, n1, n2, n3⟩ := list_openF (es := Try.prog.cellsOf 34) (f := f) (k := 0) (g := fun n : Int × Int => [i64 n.1, i64 n.2]) (p := fun _ => True) (0, 0) (fun i hi => by
    have h1 := hf i hi
    unfold TyC at h1
    simp only [Try.underlying34] at h1
    obtain ⟨qs, e, hn, hall⟩ := h1
    match qs, hn, hall, e with
    | [q0, q1], _, hall, e =>
      obtain ⟨a, rfl, _⟩ := int_open Try.underlying3 (hall q0 (by simp))
      obtain ⟨b, rfl, _⟩ := int_open Try.underlying3 (hall q1 (by simp))
      exact ⟨(a, b), by rw [e]; exact AVL_refl _, trivial⟩)
  refine ⟨l, _, rfl, fun k => ?_⟩
  rw [cellsP]
  refine ⟨rfl, n1.symm, fun i hi => ?_⟩
  have := n3.2.2 i hi
  refine ⟨this.1, fun j x y hx hy => ?_⟩
  rcases this.2 j x y hx hy with e | e
  · exact .inl e
  · exact e.elim
theorem watch_open {x : AV} (h : TyA Try.prog 6 29 x) : ∃ w : Wt, AVF 6 x (wtA w) ∧ True := by
  simp only [TyA, Try.underlying29] at h
  obtain ⟨xs, rfl, h⟩ := h
  unfold TyC at h
  simp only [Try.underlying29] at h
  obtain ⟨ps, rfl, h⟩ := h
  obtain ⟨p1, ps, rfl, h1, h⟩ := all2_cons h
  obtain ⟨p2, ps, rfl, h2, h⟩ := all2_cons h
  obtain ⟨p3, ps, rfl, h3, h⟩ := all2_cons h
  obtain ⟨p4, ps, rfl, h4, h⟩ := all2_cons h
  obtain ⟨p5, ps, rfl, h5, h⟩ := all2_cons h
  cases all2_nil h
  obtain ⟨s, x1, rfl, a1, _⟩ := ints_deep h1
  obtain ⟨w, x2, rfl, a2, _⟩ := ints_deep h2
  obtain ⟨e, x3, rfl, a3⟩ := prs_deep h3
  obtain ⟨k, rfl, _⟩ := int_open Try.underlying3 h4
  obtain ⟨t, rfl, _⟩ := int_open Try.underlying3 h5
  refine ⟨⟨s, w, e, k, t⟩, ⟨rfl, fun i x y hx hy => ?_⟩, trivial⟩
  match i, hx, hy with
  | 0, hx, hy => cases hx; cases hy; exact .inr (a1 3)
  | 1, hx, hy => cases hx; cases hy; exact .inr (a2 3)
  | 2, hx, hy => cases hx; cases hy; exact .inr (a3 3)
  | 3, hx, hy => cases hx; cases hy; exact .inl rfl
  | 4, hx, hy => cases hx; cases hy; exact .inl rfl
end Go.Tr

/- The end of a law's proof in chapter 6: what every law shares; the opening of its arguments. Conditions: none. -/
import Derived.Test.YtgbdlkajmmjahaaGreatRows
import Derived.Test.YtgbdlkajmmjahaaGreatTr11
import Derived.Test.YtgbdlkajmmjahaaGreatTr09
import Derived.ProofKit
import Derived.Test.YtgbdlkajmmjahaaGreatTr10
set_option linter.unusedSectionVars false
set_option linter.unnecessarySimpa false
set_option linter.unusedVariables false
set_option linter.unusedSimpArgs false

namespace Go.Tr
open Go Go.Proofs Go.RowKit Go.WideShapes Go.ChangeShapes
section
variable {H : Type} {enc : TypeId × Value → H} {P : Program}
theorem post_of_below {f : Func} {s : ChangeSpec} {apart fresh handsOn again : Bool} {W W' : World} {args : Array Value} {v : Value} {ds gs : List (DataW H)} {before pa pv : List MemPlace}
    (hW : DataW.Whole enc P f.params.toList s.vars apart W args.toList ds gs before)
    (hres : ∀ (b : Nat) (sp : Nat → Bool) (hd : Bool), DataW.TrodAll enc P W' b sp hd f.resultTypes.toList (v.resultList f.resultTypes.size) (s.fn H (ds ++ gs)).results [])
    (hargs : ∀ sp : Nat → Bool, (∀ p ∈ before, sp p.block = true) → DataW.TrodAll enc P W' 0 sp true f.params.toList args.toList (s.fn H (ds ++ gs)).args pa)
    (hvars : ∀ sp : Nat → Bool, (∀ p ∈ before, sp p.block = true) → DataW.TrodVars enc P W' sp s.vars (s.fn H (ds ++ gs)).vars pv)
    (hps : before = pa ++ pv) (hb : Below W.heap.size W W')
    (hok : ∀ (j : Nat) (t : TypeId) (r : Value), f.resultTypes[j]? = some t → (v.resultList f.resultTypes.size)[j]? = some r → Value.okWide P W' .any 0 t r) :
    s.post enc P f apart fresh handsOn again W args v W' := by
  have hlt : ∀ p ∈ before, p.block < W.heap.size := fun p hp => hW.lt p hp
  have hold : ∀ p ∈ before, (fun b => decide (b < W.heap.size)) p.block = true := fun p hp => by simpa using hlt p hp
  refine ⟨ds, gs, before, [], pa, pv, hW, hres _ _ _, hargs _ hold, hvars _ hold, World.keptBut_mono (fun p hp => ⟨hp, ?_⟩) (hb.frame (· ∈ before)), fun _ => ?_⟩
  · rw [hps, List.mem_append] at hp
    exact Or.inr hp
  · obtain ⟨_, _, _, _, _, hz, hn⟩ := hW
    refine ⟨hok, _, _, ([] ++ pa) ++ pv, ⟨[] ++ pa, pv, trodAll_append (hargs _ (fun _ _ => rfl)) (hres _ _ _), hvars _ (fun _ _ => rfl), rfl, ?_, ?_⟩, ?_⟩
    · intro b off hp
      have hin : MemPlace.cell b off ∈ before := by rw [hps]; simpa using hp
      rw [hb.frozen (hlt _ hin)]
      exact hz b off hin
    · intro ha
      have := hn ha
      rw [hps] at this
      simpa using this
    · intro p hp _
      rw [hps]
      simpa using hp
end

set_option maxRecDepth 20000
set_option maxHeartbeats 8000000
/-! ### Openings -/

theorem int_open {m : Nat} {t : TypeId} {xs : List AV} {P : Program} (hu : P.underlying t = some (.int .i64)) (h : TyC P (m + 1) t xs) : ∃ n, xs = [i64 n] ∧ inK .i64 n := by
  unfold TyC at h
  simpa only [hu] using h
theorem all2_cons {α β : Type} {p : α → β → Prop} {a : α} {l : List α} {m : List β} (h : All2 p (a :: l) m) : ∃ x r, m = x :: r ∧ p a x ∧ All2 p l r := by
  match m, h with
  | x :: r, h => exact ⟨x, r, rfl, h.1, h.2⟩
theorem all2_nil {α β : Type} {p : α → β → Prop} {m : List β} (h : All2 p [] m) : m = [] := by
  match m, h with
  | [], _ => rfl
theorem AVF_orL {k : Nat} {l : List AV} : AVF (k + 1) (.agg l) (.agg l) := ⟨rfl, fun _ _ _ hx hy => .inl (Option.some.inj (hx.symm.trans hy))⟩
theorem gok_none {w : World} {q : Nat → Prop} : GOk Tryz.prog w q := fun g l h => by cases h
end Go.Tr

namespace Go.Proofs.YtgbdlkajmmjahaaGreat
open Go.ChangeShapes Go.WideShapes Go.ChangeAt Go.RowKit Go.Tr
theorem Tryz.own : ownKnob Tryz.prog.godebug = none := by kernel_rfl
theorem Tryz.laidOut : laidOutB Tryz.prog = true := by kernel_rfl
end Go.Proofs.YtgbdlkajmmjahaaGreat

/- The opening of spots in chapter 5. Conditions: none. -/
-- seat YtgbdlkajmmjahaaGreat
namespace Go.Tr
open Go Go.Proofs
set_option maxRecDepth 20000
set_option maxHeartbeats 8000000

theorem inK_i64 {n : Int} (h : inK .i64 n) : -9223372036854775808 ≤ n ∧ n ≤ 9223372036854775807 := by
  have hmx : IntKind.max .i64 = 9223372036854775807 := by decide
  have hmn : IntKind.min .i64 = -9223372036854775808 := by decide
  have h1 := h.1
  have h2 := h.2
  omega
theorem fr_open {m : Nat} {xs : List AV} (h : TyC Tryz.prog (m + 2) 26 xs) : ∃ f : Int × Int, xs = [i64 f.1, i64 f.2] ∧ FrI f := by
  unfold TyC at h
  simp only [Tryz.underlying26] at h
  obtain ⟨ps, rfl, h⟩ := h
  obtain ⟨p1, ps, rfl, h1, h⟩ := all2_cons h
  obtain ⟨p2, ps, rfl, h2, h⟩ := all2_cons h
  cases all2_nil h
  obtain ⟨a, rfl, ia⟩ := int_open Tryz.underlying3 h1
  obtain ⟨b, rfl, ib⟩ := int_open Tryz.underlying3 h2
  exact ⟨(a, b), rfl, inK_i64 ia, inK_i64 ib⟩
theorem spot_open {x : AV} (h : TyA Tryz.prog 6 69 x) : ∃ s : F3, AVF 6 x (spA s) ∧ F3I s := by
  simp only [TyA, Tryz.underlying69] at h
  obtain ⟨xs, rfl, h⟩ := h
  unfold TyC at h
  simp only [Tryz.underlying69] at h
  obtain ⟨ps, rfl, h⟩ := h
  obtain ⟨p1, ps, rfl, h1, h⟩ := all2_cons h
  obtain ⟨p2, ps, rfl, h2, h⟩ := all2_cons h
  obtain ⟨p3, ps, rfl, h3, h⟩ := all2_cons h
  cases all2_nil h
  obtain ⟨a, rfl, ia⟩ := fr_open h1
  obtain ⟨b, rfl, ib⟩ := fr_open h2
  obtain ⟨c, rfl, ic⟩ := fr_open h3
  exact ⟨(a, b, c), AVF_orL, ia, ib, ic⟩
theorem tail_open {x : AV} (h : TyA Tryz.prog 6 113 x) : ∃ f : Int × Int, AVF 6 x (gaF f) ∧ True := by
  simp only [TyA, Tryz.underlying113] at h
  obtain ⟨xs, rfl, h⟩ := h
  unfold TyC at h
  simp only [Tryz.underlying113] at h
  obtain ⟨ps, rfl, h⟩ := h
  obtain ⟨p1, ps, rfl, h1, h⟩ := all2_cons h
  obtain ⟨p2, ps, rfl, h2, h⟩ := all2_cons h
  cases all2_nil h
  obtain ⟨a, rfl, ia⟩ := int_open Tryz.underlying3 h1
  obtain ⟨b, rfl, ib⟩ := int_open Tryz.underlying3 h2
  exact ⟨(a, b), AVF_orL, trivial⟩
end Go.Tr

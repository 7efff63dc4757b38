/- A contract whose result holds no references: the memory of the arguments stays the caller's own. Conditions: none. -/
import Derived.Test.YtkomdfgffgkphaaTrDC
namespace Go.Tr
open Go Go.RowKit

def plain0 : AV → Bool
  | .val _ => true
  | _ => false
def plain1 : AV → Bool
  | .agg l => l.all plain0
  | x => plain0 x
def plainA : AV → Bool
  | .tuple l => l.all plain1
  | x => plain1 x

theorem adoptL_plain : ∀ (l : List AV) (n : Nat), l.all plain0 = true → adoptL l n = (l, [])
  | [], n, _ => rfl
  | x :: r, n, h => by
    simp only [List.all_cons, Bool.and_eq_true] at h
    cases x with
    | val v => simp [adoptL, adoptL_plain r n h.2]
    | _ => simp [plain0] at h
theorem adopt1_plain (x : AV) (n : Nat) (h : plain1 x = true) : adopt1 x n = (x, []) := by
  cases x with
  | agg l => simp only [adopt1]; rw [adoptL_plain l n h]
  | val v => rfl
  | _ => simp [plain1, plain0] at h
theorem adoptT_plain : ∀ (l : List AV) (n : Nat), l.all plain1 = true → adoptT l n = (l, [])
  | [], n, _ => rfl
  | x :: r, n, h => by
    simp only [List.all_cons, Bool.and_eq_true] at h
    simp only [adoptT, adopt1_plain x n h.1, List.length_nil, Nat.add_zero, adoptT_plain r n h.2, List.append_nil]
theorem adopt_plain (x : AV) (n : Nat) (h : plainA x = true) : adopt x n = (x, []) := by
  cases x with
  | tuple l => simp only [adopt]; rw [adoptT_plain l n h]
  | agg l => exact adopt1_plain (.agg l) n h
  | val v => rfl
  | _ => simp [plainA, plain1, plain0] at h

section
variable {P : Program} {w : World} {p q : Nat → Prop}
theorem VT_plain0 {x : AV} {u : Value} (hx : plain0 x = true) (h : VT P w p x u) : VT P w q x u := by
  cases h with
  | val => exact .val _
  | _ => simp [plain0] at hx
theorem VT_plain1 {x : AV} {u : Value} (hx : plain1 x = true) (h : VT P w p x u) : VT P w q x u := by
  cases h with
  | val => exact .val _
  | agg l vs h1 h2 h3 => exact .agg l vs h1 h2 fun i x hi => VT_plain0 (List.all_eq_true.1 hx x (List.mem_of_getElem? hi)) (h3 i x hi)
  | _ => simp [plain1, plain0] at hx
theorem VT_plain {x : AV} {u : Value} (hx : plainA x = true) (h : VT P w p x u) : VT P w q x u := by
  cases h with
  | val => exact .val _
  | agg l vs h1 h2 h3 => exact VT_plain1 hx (.agg l vs h1 h2 h3)
  | tuple l vs h1 h3 => exact .tuple l vs h1 fun i x hi => VT_plain1 (List.all_eq_true.1 hx x (List.mem_of_getElem? hi)) (h3 i x hi)
  | _ => simp [plainA, plain1, plain0] at hx

theorem Sound1.pl {f : FuncId} {args : List AV} {r : AV} (h : Sound1 P f args r false) (hr : plainA r = true) : Sound1 P f args r true := by
  refine ⟨h.1, fun w q vs hq hs hv => ?_⟩
  refine Calls.mono (h.2 w q vs hq hs hv) ?_
  rintro e w' ⟨u, h1, h2, h3⟩
  refine ⟨u, h1, h2, fun n yv => ⟨fun _ => none, fun _ => False, nofun, nofun, ?_, ?_, nofun⟩⟩
  · rw [adopt_plain r n hr]
    exact .tree (VT_plain hr h3)
  · intro i k oi hi
    rw [adopt_plain r n hr] at hi
    simp at hi
end
end Go.Tr

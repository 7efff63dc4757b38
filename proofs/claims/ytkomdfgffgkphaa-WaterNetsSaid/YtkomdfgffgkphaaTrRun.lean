/- Known runs as an oracle: closed runs proved one by one. Conditions: the program's rules take any order. -/
import Derived.Test.YtkomdfgffgkphaaTrEv
namespace Go.Tr
open Go Go.RowKit

def valq : Value → Value → Bool
  | .int k a, .int k' b => decide (k = k') && a == b
  | .bool a, .bool b => a == b
  | .string a, .string b => a.data.toList == b.data.toList
  | _, _ => false
def celq : AV → AV → Bool
  | .val a, .val b => valq a b
  | .eslice, .eslice => true
  | _, _ => false
def rowq : List AV → List AV → Bool
  | [], [] => true
  | x :: r, y :: s => celq x y && rowq r s
  | _, _ => false
def allq (p : AV → AV → Bool) : List AV → List AV → Bool
  | [], [] => true
  | x :: r, y :: s => p x y && allq p r s
  | _, _ => false
def avq : Nat → AV → AV → Bool
  | _ + 1, .rslice es len f, .rslice es' len' g => Nat.beq es es' && Nat.beq len len' && (List.range len).all fun i => rowq (f i) (g i)
  | k + 1, .agg l, .agg m => allq (avq k) l m
  | k + 1, .tuple l, .tuple m => allq (avq k) l m
  | _ + 1, x, y => celq x y
  | 0, _, _ => false

theorem valq_ok {a b : Value} (h : valq a b = true) : a = b := by
  unfold valq at h
  split at h
  · simp at h; rw [h.1, h.2]
  · simp at h; rw [h]
  · rename_i a b
    have e : a.data.toList = b.data.toList := by simpa using h
    have e2 : a = b := ByteArray.ext (Array.ext' e)
    rw [e2]
  · cases h
theorem celq_ok {x y : AV} (h : celq x y = true) : x = y := by
  unfold celq at h
  split at h
  · rw [valq_ok h]
  · rfl
  · cases h
theorem rowq_ok : ∀ {l m : List AV}, rowq l m = true → l = m
  | [], [], _ => rfl
  | x :: r, y :: s, h => by
    simp only [rowq, Bool.and_eq_true] at h
    rw [celq_ok h.1, rowq_ok h.2]
  | [], _ :: _, h => by simp [rowq] at h
  | _ :: _, [], h => by simp [rowq] at h

theorem allq_ok {p : AV → AV → Bool} {q : AV → AV → Prop} (h : ∀ x y, p x y = true → q x y) : ∀ (l m : List AV), allq p l m = true → l.length = m.length ∧ ∀ i x y, nth? l i = some x → nth? m i = some y → q x y
  | [], [], _ => ⟨rfl, fun i x y hx => by cases hx⟩
  | x :: r, y :: s, e => by
    simp only [allq, Bool.and_eq_true] at e
    obtain ⟨h1, h2⟩ := allq_ok h r s e.2
    refine ⟨by simp [h1], fun i a b ha hb => ?_⟩
    cases i with
    | zero => cases ha; cases hb; exact h _ _ e.1
    | succ i => exact h2 i a b ha hb
  | [], _ :: _, e => by simp [allq] at e
  | _ :: _, [], e => by simp [allq] at e

theorem avq_ok : ∀ (k : Nat) (x y : AV), avq k x y = true → AVE k x y
  | 0, _, _, h => by simp [avq] at h
  | k + 1, x, y, h => by
    unfold avq at h
    split at h <;> (try injections) <;> (try subst_vars)
    · simp only [Bool.and_eq_true] at h
      refine ⟨Nat.eq_of_beq_eq_true h.1.1, Nat.eq_of_beq_eq_true h.1.2, fun i hi => rowq_ok (List.all_eq_true.1 h.2 i (List.mem_range.2 hi))⟩
    · exact allq_ok (avq_ok _) _ _ h
    · exact allq_ok (avq_ok _) _ _ h
    · have e := celq_ok h
      subst e
      unfold celq at h
      split at h <;> first | rfl | cases h

/-- Run: the function, its arguments, what it gives. -/
structure Run where
  f : FuncId
  args : List AV
  r : AV

def Run.ok (P : Program) (x : Run) : Prop := Sound1 P x.f x.args x.r false

def oracle : List Run → FuncId → List AV → Option (AV × Bool)
  | [], _, _ => none
  | x :: l, f, args => bif Nat.beq x.f f && allq (avq 5) args x.args then some (x.r, false) else oracle l f args

variable {P : Program}

theorem Sound1.res {f : FuncId} {xs : List AV} {r r' : AV} (h : Sound1 P f xs r false) (hr : AVE 5 r r') : Sound1 P f xs r' false := by
  refine ⟨h.1, fun w q vs hq hs hv => ?_⟩
  have := h.2 w q vs hq hs hv
  refine Calls.mono this ?_
  rintro e w' ⟨u, h1, h2, h3⟩
  exact ⟨u, h1, h2, AVE_ok 5 hr h3⟩

theorem Sound1.args {f : FuncId} {xs ys : List AV} {r : AV} {fr : Bool} (h : Sound1 P f xs r fr) (hl : ys.length = xs.length) (hx : ∀ i y x, nth? ys i = some y → nth? xs i = some x → AVE 5 y x) : Sound1 P f ys r fr := by
  refine ⟨h.1, fun w q vs hq hs hv => ?_⟩
  have := h.2 w q vs hq (by rw [hs, hl]) fun i x hi => by
    have hlt : i < ys.length := by rw [hl]; exact (List.getElem?_eq_some_iff.1 hi).1
    exact AVE_ok 5 (hx i ys[i] x (by rw [nth?_eq]; exact List.getElem?_eq_getElem hlt) (by rw [nth?_eq]; exact hi)) (hv i _ (List.getElem?_eq_getElem hlt))
  exact this

theorem oracle_ok : ∀ {l : List Run}, (∀ x ∈ l, x.ok P) → ∀ f args r fr, oracle l f args = some (r, fr) → Sound1 P f args r fr
  | [], _, f, args, r, fr, h => by cases h
  | x :: l, hl, f, args, r, fr, h => by
    unfold oracle at h
    cases hb : (Nat.beq x.f f && allq (avq 5) args x.args) with
    | true =>
      rw [hb, cond_true] at h
      cases h
      rw [Bool.and_eq_true] at hb
      obtain ⟨h1, h2⟩ := allq_ok (avq_ok 5) _ _ hb.2
      have e := Nat.eq_of_beq_eq_true hb.1
      have := hl x (List.mem_cons_self ..)
      unfold Run.ok at this
      rw [e] at this
      exact this.args h1 h2
    | false => rw [hb, cond_false] at h; exact oracle_ok (fun y hy => hl y (List.mem_cons_of_mem _ hy)) f args r fr h

def runq (x : Option (AV × Bool)) (y : AV) : Bool := match x with | some (r, _) => avq 5 r y | none => false

theorem oracle_false : ∀ {l : List Run} {f : FuncId} {args : List AV} {r : AV} {fr : Bool}, oracle l f args = some (r, fr) → fr = false
  | [], f, args, r, fr, h => by cases h
  | x :: l, f, args, r, fr, h => by
    unfold oracle at h
    cases hb : (Nat.beq x.f f && allq (avq 5) args x.args) with
    | true => rw [hb, cond_true] at h; cases h; rfl
    | false => rw [hb, cond_false] at h; exact oracle_false h

theorem Fin.weak {T : Nat → Option TI} {fn : Func} {r : AV} {fr : Bool} {s : St} (h : Fin T fn r fr s) : Fin T fn r false s := by
  unfold Fin at h ⊢
  split at h
  · exact h
  · exact ⟨h.1, nofun⟩

theorem evF_false (hm : P.follows .mixedOrders = true) {G : FuncId → List AV → Option (AV × Bool)} (hG : ∀ f args r fr, G f args = some (r, fr) → Sound1 P f args r fr ∧ fr = false) (L d : Nat) (f : FuncId) (args : List AV) (r : AV) (fr : Bool) (h : evF P G L d f args = some (r, fr)) : Sound1 P f args r false := by
  have hG' := fun f args r fr h => (hG f args r fr h).1
  unfold evF at h
  split at h
  · rename_i x hx; cases h; have e := (hG _ _ _ _ hx).2; subst e; exact hG' _ _ _ _ hx
  · split at h
    · rename_i s1 fn1 h1
      obtain ⟨g0, cd1, e1, g1, g2, g3, g4, g5⟩ := evD_ok hm hG' L d _ _ _ _ _ _ _ h1
      refine ⟨run_enter g0 g2 g1, fun w q vs hq hs hv => callsIn_wide.1 (callsIn_of_wp_marks (F := FR none) (n := 0) g0 g1 trivial (g5 noY _ _ _ w q (noYF_rel _) (noY_ok _ _ _ _ _) _ _ _ _ (sr_start g3 hq hs hv) fun a' w' c' h' => gives_of_post (r := r) (fr := false) h' ?_))⟩
      rcases g4 with rfl | rfl
      · exact (evR_ok h).weak
      · exact (evR_ok h).weak
    · cases h

theorem run_okG (hm : P.follows .mixedOrders = true) {G : FuncId → List AV → Option (AV × Bool)} (hG : ∀ f args r fr, G f args = some (r, fr) → Sound1 P f args r fr ∧ fr = false) (L d : Nat) {f : FuncId} {args : List AV} {y : AV} (h : runq (evF P G L d f args) y = true) : Run.ok P ⟨f, args, y⟩ := by
  unfold runq at h
  split at h
  · rename_i r fr he
    have := evF_false hm hG L d f args r fr he
    exact this.res (avq_ok 5 _ _ h)
  · cases h

theorem run_ok (hm : P.follows .mixedOrders = true) {l : List Run} (hl : ∀ x ∈ l, x.ok P) (L d : Nat) {f : FuncId} {args : List AV} {y : AV} (h : runq (evF P (oracle l) L d f args) y = true) : Run.ok P ⟨f, args, y⟩ :=
  run_okG hm (fun f args r fr h => ⟨oracle_ok hl f args r fr h, oracle_false h⟩) L d h
end Go.Tr

/- Contracts of chapter 7: ways, the best ways with one command more. Conditions: none. -/
import Derived.Test.YtklnmbeceaafgaaDoorTr08
set_option linter.unusedSectionVars false
set_option linter.unnecessarySimpa false
set_option linter.unusedVariables false
set_option linter.unusedSimpArgs false

namespace Go.Tr
open Go Go.Proofs
set_option maxRecDepth 20000
set_option maxHeartbeats 8000000

abbrev wayA (w : Way) : AV := .agg [ints w.1, i64 w.2]
/-- The ways of a map, by the states to which they lead. -/
def wayM (B : S2 → Option Way) (v : Value) : AV := match decS v with | some s => wayA ((B s).getD ([], 0)) | none => wayA ([], 0)
abbrev kkS : KK := .agg [.int .i64, .int .i64]
abbrev hasW (B : S2 → Option Way) : Value → Bool := hasM fun s => (B s).isSome
abbrev mapA (B : S2 → Option Way) : AV := .rmap kkS 66 (hasW B) (wayM B)

theorem S26 (a b : Way) (ha : a.1.length ≤ 1000) (hb : b.1.length ≤ 1000) : SP 26 [wayA a, wayA b] (vb (wlt a b)) false := by
  have h115 := S44 a.2 b.2
  have h116 := S45 a.1 b.1 (by omega) (by omega)
  refine sound (d := 2) tok2 mixed2 Tryd.func26 (by kernel_rfl) (by kernel_rfl) ?_
  conv => whnf
  refine ⟨[], by kernel_rfl, ?_⟩
  conv => whnf
  refine .inl ⟨_, _, byX rfl (Sound1.pl (h115) rfl), ?_⟩
  conv => whnf
  refine .inl ⟨_, _, byX rfl (Sound1.pl (h116) rfl), ?_⟩
  conv => whnf
  refine .inl ⟨_, _, byX rfl (Sound1.pl (S43_2 _ _ ⟨rfl, rfl⟩) rfl), ?_⟩
  conv => whnf
  refine ⟨?_, nofun⟩
  rw [wlt_first]
  rfl
theorem S26n (a b : Way) (ha : a.1.length ≤ 1000) (hb : b.1.length ≤ 1000) {n : Nat} {f : Nat → List AV} (hn : n = a.1.length) (hf : ∀ i, i < n → f i = [i64 (a.1.getD i 0)]) : SP 26 [.agg [.rslice 1 n f, i64 a.2], wayA b] (vb (wlt a b)) false := by
  refine (S26 a b ha hb).argsD rfl fun i y x hy hx => ?_
  match i, hy, hx with
  | 0, hy, hx =>
    cases hy; cases hx
    refine .inr ⟨3, rfl, fun j x y hx hy => ?_⟩
    match j, hx, hy with
    | 0, hx, hy => cases hx; cases hy; exact .inr (AVF_rows hn hf 1)
    | 1, hx, hy => cases hx; cases hy; exact .inl rfl
  | 1, hy, hx => cases hy; cases hx; exact .inl rfl
theorem S46 (l : List Int) (hl : l.length ≤ 1000000) : SP 46 [ints l] (ints l) true := by
  refine sound (d := 2) tok2 mixed2 Tryd.func46 (by kernel_rfl) (by kernel_rfl) ?_
  rintro (_ | _) w1
  · conv => whnf
    refine ⟨⟨(by omega), (by show _ * (8 + 1) ≤ _; omega)⟩, ?_⟩
    conv => whnf
    refine ⟨?_, fun _ => ⟨rfl, ?_⟩⟩
    · exact ⟨rfl, Nat.zero_add _, fun i hi => rfl⟩
    · exact ⟨fun i _ x hx => ⟨_, List.mem_singleton.1 hx⟩, trivial⟩
  · conv => whnf
    refine ⟨?_, fun _ => ⟨rfl, ?_⟩⟩
    · cases l with
      | nil => rfl
      | cons x r => exact absurd (w1 (Nat.zero_lt_succ _)) nofun
    · exact ⟨fun i _ x hx => ⟨_, List.mem_singleton.1 hx⟩, trivial⟩

/-! ### What a command comes to -/

section
variable {stop : S2 → Bool} {step : S2 → Option (S2 × Int)} {Ok : S2 → Prop}
theorem goA_spec (hOk : ∀ s x, Ok s → step s = some x → Ok x.1 ∧ 1 ≤ x.2 ∧ x.2 ≤ 10000) (s0 : S2) : ∀ (n : Nat) (s : S2) (l : List S2) (t : Int) (r : List S2 × Int), l.getLastD s0 = s → Ok s → (∀ x ∈ l, Ok x) → goA stop step n s l t = some r →
    stop (r.1.getLastD s0) = true ∧ Ok (r.1.getLastD s0) ∧ (∀ x ∈ r.1, Ok x) ∧ t ≤ r.2 ∧ r.2 ≤ t + 10000 * n ∧ l.length ≤ r.1.length ∧ r.1.length ≤ l.length + n
  | 0, s, l, t, r, _, _, _, h => by cases h
  | n + 1, s, l, t, r, hl, hs, ho, h => by
    cases hst : stop s with
    | true =>
      rw [goA_stop hst] at h
      cases h
      exact ⟨by rw [hl]; exact hst, by rw [hl]; exact hs, ho, Int.le_refl _, by show t ≤ t + _; omega, Nat.le_refl _, Nat.le_add_right ..⟩
    | false =>
      cases hx : step s with
      | none => rw [goA_stuck hst hx] at h; cases h
      | some x =>
        rw [goA_step hst hx] at h
        obtain ⟨g1, g2, g3⟩ := hOk s x hs hx
        have := goA_spec hOk s0 n x.1 (l ++ [x.1]) (t + x.2) r (by simp) g1 (fun y hy => (List.mem_append.1 hy).elim (ho y) fun h => by rw [List.mem_singleton.1 h]; exact g1) h
        refine ⟨this.1, this.2.1, this.2.2.1, by omega, by omega, ?_, ?_⟩
        · have := this.2.2.2.2.2.1; simp at this; omega
        · have := this.2.2.2.2.2.2; simp at this; omega
end
theorem stepS_all {p : Pln} (hg : Good p) (f : Int × Bool) : ∀ s x, OkS p s → stepS p f s = some x → OkS p x.1 ∧ 1 ≤ x.2 ∧ x.2 ≤ 10000 := fun s x hs hx => by
  cases hx
  exact turn_ok hg hs (.inl rfl)
theorem stepH_all {p : Pln} (hg : Good p) (f : Int × Bool) : ∀ s x, OkS p s → homeTurnF p f s = some x → OkS p x.1 ∧ 1 ≤ x.2 ∧ x.2 ≤ 10000 := fun _ _ hs hx => home_ok hg hs hx
abbrev lastOf (l : List S2) : S2 := l.getLastD (0, 0)
theorem lastOf_get {l : List S2} (h : l ≠ []) : l.getD (l.length - 1) (0, 0) = lastOf l := by
  cases l with
  | nil => exact absurd rfl h
  | cons a r => simp [List.getD_eq_getElem?_getD, lastOf, List.getLastD_eq_getLast?, List.getLast?_eq_getElem?]
structure CmdOk (p : Pln) (r : List S2 × Int) : Prop where
  ne : r.1 ≠ []
  steady : (stp p (lastOf r.1)).wait = 0
  ok : OkS p (lastOf r.1)
  all : ∀ x ∈ r.1, OkS p x
  t1 : 1 ≤ r.2
  t2 : r.2 ≤ 4000000
  len : r.1.length ≤ 1000
theorem command_ok {p : Pln} (hg : Good p) {f : Int × Bool} {s : S2} {c : Int} (hs : OkS p s) (hc : OkC p c) {r : List S2 × Int} (h : commandF p f s c = some r) : CmdOk p r := by
  have h1 := turn_ok hg hs (f := f) hc
  have hA := allN_le hg
  unfold commandF settledF at h
  have := goA_spec (stepS_all hg f) (0, 0) _ _ _ _ r (by simp) h1.1 (fun x hx => by rw [List.mem_singleton.1 hx]; exact h1.1) h
  obtain ⟨g1, g2, g3, g4, g5, g6, g7⟩ := this
  refine ⟨fun e => by rw [e] at g6; simp at g6, of_decide_eq_true g1, g2, g3, by omega, by omega, by simp at g7; omega⟩

/-! ### Ways with one command more -/

abbrev noF : Int × Bool := (-1, false)
def stepWay (p : Pln) (e : Ent) (c : Int) : Option Ent := match commandF p noF e.1 c with | none => none | some r => some (lastOf r.1, (e.2.1 ++ [c], e.2.2 + r.2))
def extE (p : Pln) (e : Ent) : List Ent := (stp p e.1).exits.filterMap (stepWay p e)
def ext (p : Pln) (L : List Ent) : List Ent := L.flatMap (extE p)
theorem ext_snoc (p : Pln) (D : List Ent) (e : Ent) : ext p (D ++ [e]) = ext p D ++ extE p e := by simp [ext]
theorem ext_congr {p : Pln} {L M : List Ent} (h : ∀ e, e ∈ L ↔ e ∈ M) (e : Ent) : e ∈ ext p L ↔ e ∈ ext p M := by
  simp only [ext, List.mem_flatMap, h]
/-- What holds of the ways of one round. -/
def LOk (p : Pln) (k : Nat) (L : List Ent) : Prop := ∀ e ∈ L, OkS p e.1 ∧ (stp p e.1).wait = 0 ∧ e.2.1.length = k ∧ 0 ≤ e.2.2 ∧ e.2.2 ≤ 4000000 * (k : Int)
theorem stepWay_ok {p : Pln} (hg : Good p) {k : Nat} {e : Ent} (he : OkS p e.1 ∧ (stp p e.1).wait = 0 ∧ e.2.1.length = k ∧ 0 ≤ e.2.2 ∧ e.2.2 ≤ 4000000 * (k : Int)) {c : Int} (hc : c ∈ (stp p e.1).exits) {x : Ent} (h : stepWay p e c = some x) :
    OkS p x.1 ∧ (stp p x.1).wait = 0 ∧ x.2.1.length = k + 1 ∧ 0 ≤ x.2.2 ∧ x.2.2 ≤ 4000000 * ((k + 1 : Nat) : Int) ∧ e.2.2 < x.2.2 := by
  unfold stepWay at h
  cases hr : commandF p noF e.1 c with
  | none => rw [hr] at h; cases h
  | some r =>
    rw [hr] at h
    cases h
    have := command_ok hg he.1 (.inr (exit_ok hg he.1 he.2.1 (hasI_mem.2 hc))) hr
    have h1 := this.t1
    have h2 := this.t2
    obtain ⟨_, _, h3, h4, h5⟩ := he
    exact ⟨this.ok, this.steady, by simp [h3], by show 0 ≤ e.2.2 + r.2; omega, by show e.2.2 + r.2 ≤ _; omega, by show e.2.2 < e.2.2 + r.2; omega⟩
theorem ext_ok {p : Pln} (hg : Good p) {k : Nat} {L : List Ent} (h : LOk p k L) : LOk p (k + 1) (ext p L) := fun x hx => by
  obtain ⟨e, he, hx⟩ := List.mem_flatMap.1 hx
  obtain ⟨c, hc, hx⟩ := List.mem_filterMap.1 hx
  have := stepWay_ok hg (h e he) hc hx
  exact ⟨this.1, this.2.1, this.2.2.1, this.2.2.2.1, this.2.2.2.2.1⟩
theorem least_mem {L : List Ent} {s : S2} {w : Way} (h : least L s = some w) : (s, w) ∈ L := mem_waysTo.1 (minL_some.1 h).1
theorem norm_mem {L : List Ent} {e : Ent} (h : e ∈ norm L) : e ∈ L := least_mem (mem_norm.1 h)
theorem norm_ok {p : Pln} {k : Nat} {L : List Ent} (h : LOk p k L) : LOk p k (norm L) := fun e he => h e (norm_mem he)

/-! ### Maps of ways -/

theorem hasW_put (M : List Ent) (s : S2) (w : Way) (v : Value) : Bool.or (hasW (least M) v) (opEv.keyEq v (keyV s)) = hasW (least (M ++ [(s, w)])) v := by
  rw [keyD, hasW, hasM_or]
  congr 1
  funext x
  rw [least_snoc]
  by_cases h : s = x
  · subst h
    cases least M s <;> simp [better]
    split <;> rfl
  · have : ¬ x = s := fun e => h e.symm
    simp [h, this]
theorem wayM_put (M : List Ent) (s : S2) (w : Way) (hb : better (least M s) w = some w) {X : AV} (hX : AVE 5 X (wayA w)) (v : Value) : AVE 5 (bif opEv.keyEq v (keyV s) then X else wayM (least M) v) (wayM (least (M ++ [(s, w)])) v) := by
  rw [keyD]
  unfold hasM wayM
  cases decS v with
  | none => exact ave_agg2 (k := 4) ⟨rfl, rfl, fun _ _ => rfl⟩ rfl
  | some x =>
    show AVE 5 (bif decide (x = s) then X else wayA ((least M x).getD ([], 0))) (wayA ((least (M ++ [(s, w)]) x).getD ([], 0)))
    rw [least_snoc]
    by_cases h : x = s
    · subst h
      rw [decide_eq_true rfl, if_pos rfl, hb]
      exact hX
    · have : ¬ s = x := fun e => h e.symm
      rw [decide_eq_false h, if_neg this]
      exact ave_agg2 (k := 4) ⟨rfl, rfl, fun _ _ => rfl⟩ rfl
theorem hasW_same (M : List Ent) (s : S2) (w v0 : Way) (h : least M s = some v0) (hb : wlt w v0 = false) : least (M ++ [(s, w)]) = least M := by
  funext x
  rw [least_snoc]
  split
  · rename_i e
    cases e
    rw [h]
    simp [better, hb]
  · rfl
/-- The least way to a state to which one leads. -/
abbrev wAt (L : List Ent) (s : S2) : Way := (least L s).getD ([], 0)
theorem app_row (l : List Int) (c : Int) (i : Nat) (hi : i < l.length + 1) : (if i < l.length then [i64 (l.getD (0 + i) 0)] else List.take 1 (List.drop ((i - l.length) * 1) [i64 c])) = [i64 ((l ++ [c]).getD i 0)] := by
  rw [Nat.zero_add]
  by_cases h : i < l.length
  · rw [if_pos h]; simp [List.getD_eq_getElem?_getD, h, List.getElem?_append_left h]
  · have : i = l.length := by omega
    subst this
    rw [if_neg h]; simp [List.getD_eq_getElem?_getD]
theorem way_ave {l : List Int} {n : Nat} {f : Nat → List AV} {t : Int} (hn : n = l.length) (hf : ∀ i, i < n → f i = [i64 (l.getD i 0)]) : AVE 5 (.agg [.rslice 1 n f, i64 t]) (wayA (l, t)) := ave_agg2 (k := 4) ⟨rfl, hn, hf⟩ rfl
theorem hasW_nil (v : Value) : hasW (least []) v = false := by
  unfold hasW hasM
  cases decS v <;> rfl
theorem wayM_nil (v : Value) : AVE 5 (.agg [.eslice, i64 0]) (wayM (least []) v) := by
  unfold wayM
  cases decS v <;> exact ave_agg2 (k := 4) rfl rfl
theorem wayM_at {B : S2 → Option Way} {s : S2} {w : Way} (h : B s = some w) : wayM B (keyV s) = wayA w := by
  show wayA ((B s).getD ([], 0)) = _
  rw [h]; rfl
theorem seen_put {sn : Value → Bool} {D : List Ent} {e : Ent} (hs : ∀ s, sn (keyV s) = true ↔ s ∈ D.map (·.1)) (s : S2) : Bool.or (sn (keyV s)) (opEv.keyEq (keyV s) (keyV e.1)) = true ↔ s ∈ (D ++ [e]).map (·.1) := by
  rw [keyD, List.map_append, List.mem_append, Bool.or_eq_true, hs]
  show _ ∨ decide (s = e.1) = true ↔ _
  simp
theorem norm_of {L D : List Ent} {sn : Value → Bool} (hD : ∀ e ∈ D, least L e.1 = some e.2) (hs : ∀ s, sn (keyV s) = true ↔ s ∈ D.map (·.1)) (w : ∀ v, keyIs kkS v = true → hasW (least L) v = true → sn v = true) (e : Ent) : e ∈ D ↔ e ∈ norm L := by
  rw [mem_norm]
  refine ⟨hD e, fun h => ?_⟩
  have h1 : sn (keyV e.1) = true := w _ rfl (by show (least L e.1).isSome = true; rw [h]; rfl)
  obtain ⟨x, hx, hxe⟩ := List.mem_map.1 ((hs e.1).1 h1)
  have h2 := hD x hx
  rw [hxe, h] at h2
  have h3 : e.2 = x.2 := Option.some.inj h2
  rwa [show e = x from Prod.ext hxe.symm h3]
theorem S27 (p : Pln) (hg : Good p) (k : Nat) (hk20 : k ≤ 20) (L : List Ent) (hL : LOk p k L) : SP 27 [planA p, mapA (least L)] (mapA (least (ext p (norm L)))) false := by
  refine sound (d := 2) tok2 mixed2 Tryd.func27 (by kernel_rfl) (by kernel_rfl) ?_
  intro w1
  conv => whnf
  refine ⟨[], [2, 5, 19], fun st mq => ∃ (nl : Nat) (sn : Value → Bool) (D : List Ent), (∀ e ∈ D, least L e.1 = some e.2) ∧ (∀ s, sn (keyV s) = true ↔ s ∈ D.map (·.1)) ∧ st = ⟨[(2, .optr 0 0 0 0), (5, .omap 0), (19, .oiter 1)], ⟨[⟨3, 1, fun _ => planC p, 0, false, true, true⟩], [⟨kkS, 66, hasW (least (ext p D)), wayM (least (ext p D)), false, none, 0, .top⟩, ⟨kkS, 66, hasW (least L), wayM (least L), false, some sn, nl, .top⟩], none, 0⟩, []⟩ ∧ mq = nl,
    ⟨_, _, ⟨w1, fun _ => false, [], (fun e he => by cases he), (fun s => by simp), rfl, rfl⟩, ⟨⟨.inl rfl, rfl, rfl, rfl⟩, ⟨⟨rfl, rfl, rfl, rfl, fun _ => rfl, fun _ _ => .inl rfl⟩, trivial⟩, ⟨⟨rfl, rfl, rfl, trivial, .inl rfl, fun v => And.imp id Or.inr (⟨hasW_nil v, wayM_nil v⟩)⟩, ⟨⟨rfl, rfl, rfl, ⟨rfl, fun _ => rfl⟩, .inr rfl, fun _ => ⟨rfl, .inl rfl⟩⟩, trivial⟩⟩⟩⟩, ?_⟩
  rintro s0 m0 ⟨nl, sn, D, hD, hs, rfl, hmeas⟩
  refine ⟨fun w2 => ?_, ?_⟩
  · conv => whnf
    conv => whnf
    refine ⟨?_, nofun⟩
    have hn := least_congr (ext_congr (p := p) (norm_of hD hs w2))
    rw [show least (ext p D) = least (ext p (norm L)) from funext hn]
    rfl
  · intro a b h1 h2 n hn
    have h1 : (least L (a, b)).isSome = true := h1
    obtain ⟨w, hw⟩ := Option.isSome_iff_exists.1 h1
    have hwa : wAt L (a, b) = w := by unfold wAt; rw [hw]; rfl
    have he := hL _ (least_mem hw)
    have hat := he.1.at
    rw [← hwa] at hw he
    clear hwa
    conv => whnf
    conv => whnf
    conv => whnf
    refine ⟨by assumption, ?_⟩
    conv => whnf
    conv => whnf
    conv => whnf
    refine ⟨[], [2, 5, 6, 7, 19, 32, 33, 34], fun st mq => ∃ (j : Nat) (w : Way) (M : List Ent), (j ≤ (stp p (a, b)).exits.length) ∧ (least L (a, b) = some w) ∧ (M = ext p D ++ ((stp p (a, b)).exits.take j).filterMap (stepWay p ((a, b), w))) ∧ st = ⟨[(2, .optr 0 0 0 0), (5, .omap 0), (6, .optr 1 0 0 0), (7, .optr 2 0 0 0), (19, .oiter 1), (32, ints (stp p (a, b)).exits), (33, i64 (stp p (a, b)).exits.length), (34, i64 j)], ⟨[⟨3, 1, fun _ => planC p, 0, false, true, true⟩, ⟨2, 1, fun _ => [i64 a, i64 b], 0, false, true, true⟩, ⟨2, 1, fun _ => [ints w.1, i64 w.2], 0, false, true, true⟩], [⟨kkS, 66, hasW (least M), wayM (least M), false, none, 0, .top⟩, ⟨kkS, 66, hasW (least L), wayM (least L), false, some (fun v => Bool.or (sn v) (opEv.keyEq v (keyV (a, b)))), n, .top⟩], none, 0⟩, []⟩ ∧ mq = (stp p (a, b)).exits.length - j,
      ⟨_, _, ⟨0, wAt L (a, b), ext p D, by omega, hw, by simp, rfl, rfl⟩, ⟨⟨.inl rfl, rfl, rfl, rfl⟩, ⟨⟨rfl, rfl, rfl, rfl, fun _ => rfl, fun _ _ => .inl rfl⟩, ⟨⟨rfl, rfl, rfl, rfl, fun _ => rfl, fun _ _ => .inl rfl⟩, ⟨⟨rfl, rfl, rfl, rfl, fun _ => rfl, fun _ _ => .inl rfl⟩, trivial⟩⟩⟩, ⟨⟨rfl, rfl, rfl, trivial, .inl rfl, fun _ => ⟨rfl, .inl rfl⟩⟩, ⟨⟨rfl, rfl, rfl, ⟨rfl, fun _ => rfl⟩, .inr rfl, fun _ => ⟨rfl, .inl rfl⟩⟩, trivial⟩⟩⟩⟩, ?_⟩
    rintro s0 m0 ⟨j, w, M, hj, hw1, hM, rfl, hmeas⟩
    have he := hL _ (least_mem hw1)
    have he1 : OkS p (a, b) := he.1
    have he2 : (stp p (a, b)).wait = 0 := he.2.1
    have he3 : w.1.length = k := he.2.2.1
    have he4 : 0 ≤ w.2 := he.2.2.2.1
    have hxl : (stp p (a, b)).exits.length ≤ 12 := hg.few.exits _ he1.k
    have he5 : w.2 ≤ 4000000 * (k : Int) := he.2.2.2.2
    by_cases hlt : j < (stp p (a, b)).exits.length
    · have hcm : (stp p (a, b)).exits.getD j 0 ∈ (stp p (a, b)).exits := by simp [List.getD_eq_getElem?_getD, hlt]
      have hc := exit_ok hg he1 he2 (hasI_mem.2 hcm)
      have htk : (stp p (a, b)).exits.take (j + 1) = (stp p (a, b)).exits.take j ++ [(stp p (a, b)).exits.getD j 0] := by
        rw [List.take_add_one]; simp [List.getD_eq_getElem?_getD, hlt]
      have h95 := S31 p hg noF (a, b) ((stp p (a, b)).exits.getD j 0) he1 (.inr hc)
      cases hC : commandF p noF (a, b) ((stp p (a, b)).exits.getD j 0) with
      | none =>
        rw [hC] at h95
        have hsw : stepWay p ((a, b), w) ((stp p (a, b)).exits.getD j 0) = none := by unfold stepWay; rw [hC]
        conv => whnf
        conv => whnf
        conv => whnf
        conv => whnf
        refine ifB_dec (fun w2 => ?_) (fun w2 => ?_)
        · conv => whnf
          conv => whnf
          conv => whnf
          conv => whnf
          refine ⟨⟨(by omega), (by omega)⟩, ?_⟩
          conv => whnf
          conv => whnf
          conv => whnf
          conv => whnf
          refine .inl ⟨_, _, byX rfl (h95), ?_⟩
          conv => whnf
          conv => whnf
          conv => whnf
          conv => whnf
          refine ⟨inK64 (by omega) (by omega), ?_⟩
          conv => whnf
          conv => whnf
          conv => whnf
          conv => whnf
          refine ⟨_, _, ⟨⟨j + 1, w, M, by omega, hw1, (by rw [htk, List.filterMap_append, hM]; simp only [List.filterMap_cons, List.filterMap_nil, hsw, List.append_nil]), rfl, rfl⟩, by omega⟩, ⟨⟨.inl rfl, rfl, rfl, rfl⟩, ⟨⟨rfl, rfl, rfl, rfl, fun _ => rfl, fun _ _ => .inl rfl⟩, ⟨⟨rfl, rfl, rfl, rfl, fun _ => rfl, fun _ _ => .inl rfl⟩, ⟨⟨rfl, rfl, rfl, rfl, fun _ => rfl, fun _ _ => .inl rfl⟩, trivial⟩⟩⟩, ⟨⟨rfl, rfl, rfl, trivial, .inl rfl, fun _ => ⟨rfl, .inl rfl⟩⟩, ⟨⟨rfl, rfl, rfl, ⟨rfl, fun _ => rfl⟩, .inr rfl, fun _ => ⟨rfl, .inl rfl⟩⟩, trivial⟩⟩⟩⟩
        · (exfalso; omega)
      | some r =>
        rw [hC] at h95
        have hok := command_ok hg he1 (.inr hc) hC
        have hl0 : 0 < r.1.length := List.length_pos_iff.2 hok.ne
        have ht1 := hok.t1
        have ht2 := hok.t2
        have hlen := hok.len
        have hX : r.1.getD ((r.1.length : Int) - 1).toNat (0, 0) = lastOf r.1 := by
          rw [show ((r.1.length : Int) - 1).toNat = r.1.length - 1 by omega]; exact lastOf_get hok.ne
        have hsw : stepWay p ((a, b), w) ((stp p (a, b)).exits.getD j 0) = some (r.1.getD ((r.1.length : Int) - 1).toNat (0, 0), (w.1 ++ [(stp p (a, b)).exits.getD j 0], w.2 + r.2)) := by unfold stepWay; rw [hC, hX]
        have hM' : M ++ [(r.1.getD ((r.1.length : Int) - 1).toNat (0, 0), (w.1 ++ [(stp p (a, b)).exits.getD j 0], w.2 + r.2))] = ext p D ++ ((stp p (a, b)).exits.take (j + 1)).filterMap (stepWay p ((a, b), w)) := by
          rw [htk, List.filterMap_append, hM, List.append_assoc]; simp only [List.filterMap_cons, List.filterMap_nil, hsw]
        have hget : ∀ s, ((least M s).getD ([], 0)).1.length ≤ 1000 := fun s => by
          cases hv : least M s with
          | none => simp
          | some v =>
            have hm := least_mem hv
            rw [hM] at hm
            have h1 : v.1.length = k + 1 := by
              rcases List.mem_append.1 hm with hm | hm
              · exact (ext_ok hg (L := D) (fun x hx => hL x (least_mem (hD x hx))) _ hm).2.2.1
              · obtain ⟨c', hc', hm⟩ := List.mem_filterMap.1 hm
                exact (stepWay_ok hg he (List.mem_of_mem_take hc') hm).2.2.1
            show v.1.length ≤ 1000
            omega
        have h71 := fun s => @S26n (w.1 ++ [(stp p (a, b)).exits.getD j 0], w.2 + r.2) ((least M s).getD ([], 0)) (by simp; omega) (hget s)
        conv => whnf
        conv => whnf
        conv => whnf
        conv => whnf
        refine ifB_dec (fun w2 => ?_) (fun w2 => ?_)
        · conv => whnf
          conv => whnf
          conv => whnf
          conv => whnf
          refine ⟨⟨(by omega), (by omega)⟩, ?_⟩
          conv => whnf
          conv => whnf
          conv => whnf
          conv => whnf
          refine .inl ⟨_, _, byX rfl (h95), ?_⟩
          conv => whnf
          conv => whnf
          conv => whnf
          conv => whnf
          refine ⟨inK64 (by omega) (by omega), ?_⟩
          conv => whnf
          conv => whnf
          conv => whnf
          conv => whnf
          refine ⟨⟨(by omega), (by omega)⟩, ?_⟩
          conv => whnf
          conv => whnf
          conv => whnf
          conv => whnf
          refine ⟨[(11, 1000000), (0, 1000000), (1, 1000000), (2, 1000000), (3, 1000000), (4, 1000000), (6, 1000000), (7, 1000000), (8, 1000000), (9, 1000000), (5, 1000000), (10, 1000000), (12, 1000000), (0, 10), (6, 10), (7, 10)], by kernel_rfl, ?_⟩
          conv => whnf
          conv => whnf
          conv => whnf
          conv => whnf
          refine .inl ⟨_, _, byX rfl (S46 _ (by omega)), ?_⟩
          conv => whnf
          conv => whnf
          conv => whnf
          conv => whnf
          refine ⟨inK64 (by omega) (by omega), ?_⟩
          conv => whnf
          conv => whnf
          conv => whnf
          conv => whnf
          refine .inl ?_
          conv => whnf
          conv => whnf
          conv => whnf
          conv => whnf
          refine ⟨(by show _ * (8 + 1) ≤ _; omega), ?_⟩
          conv => whnf
          conv => whnf
          conv => whnf
          conv => whnf
          refine ifB_not ?_
          conv => whnf
          conv => whnf
          conv => whnf
          conv => whnf
          refine ifB_intro (fun w3 => ?_) (fun w3 => ?_)
          · conv => whnf
            conv => whnf
            conv => whnf
            conv => whnf
            refine .inl ⟨_, _, byX rfl (Sound1.pl (h71 _ ?_ ?_) rfl), ?_⟩
            · simp
            · exact fun i hi => app_row _ _ i hi
            · conv => whnf
              conv => whnf
              conv => whnf
              conv => whnf
              refine ifB_dec (fun w4 => ?_) (fun w4 => ?_)
              · conv => whnf
                conv => whnf
                conv => whnf
                conv => whnf
                refine ⟨inK64 (by omega) (by omega), ?_⟩
                have hb : better (least M (r.1.getD ((r.1.length : Int) - 1).toNat (0, 0))) (w.1 ++ [(stp p (a, b)).exits.getD j 0], w.2 + r.2) = some (w.1 ++ [(stp p (a, b)).exits.getD j 0], w.2 + r.2) := by
                  obtain ⟨v, hv⟩ := Option.isSome_iff_exists.1 (show (least M (r.1.getD ((r.1.length : Int) - 1).toNat (0, 0))).isSome = true from w3)
                  have w4 : wlt (w.1 ++ [(stp p (a, b)).exits.getD j 0], w.2 + r.2) ((least M (r.1.getD ((r.1.length : Int) - 1).toNat (0, 0))).getD ([], 0)) = true := decide_eq_true w4
                  rw [hv] at w4 ⊢
                  exact if_pos w4
                conv => whnf
                conv => whnf
                conv => whnf
                conv => whnf
                refine ⟨_, _, ⟨⟨j + 1, w, M ++ [(r.1.getD ((r.1.length : Int) - 1).toNat (0, 0), (w.1 ++ [(stp p (a, b)).exits.getD j 0], w.2 + r.2))], by omega, hw1, hM', rfl, rfl⟩, by omega⟩, ⟨⟨.inl rfl, rfl, rfl, rfl⟩, ⟨⟨rfl, rfl, rfl, rfl, fun _ => rfl, fun _ _ => .inl rfl⟩, ⟨⟨rfl, rfl, rfl, rfl, fun _ => rfl, fun _ _ => .inl rfl⟩, ⟨⟨rfl, rfl, rfl, rfl, fun _ => rfl, fun _ _ => .inl rfl⟩, trivial⟩⟩⟩, ⟨⟨rfl, rfl, rfl, trivial, .inl rfl, fun v => And.imp id Or.inr (⟨(hasW_put M _ _ v).symm, wayM_put M _ _ hb (way_ave (by simp) fun i hi => app_row _ _ i hi) v⟩)⟩, ⟨⟨rfl, rfl, rfl, ⟨rfl, fun _ => rfl⟩, .inr rfl, fun _ => ⟨rfl, .inl rfl⟩⟩, trivial⟩⟩⟩⟩
              · conv => whnf
                conv => whnf
                conv => whnf
                conv => whnf
                refine ⟨inK64 (by omega) (by omega), ?_⟩
                have hsm := hasW_same M (r.1.getD ((r.1.length : Int) - 1).toNat (0, 0)) (w.1 ++ [(stp p (a, b)).exits.getD j 0], w.2 + r.2) ((least M (r.1.getD ((r.1.length : Int) - 1).toNat (0, 0))).getD ([], 0)) (by
                  obtain ⟨v, hv⟩ := Option.isSome_iff_exists.1 (show (least M (r.1.getD ((r.1.length : Int) - 1).toNat (0, 0))).isSome = true from w3)
                  rw [hv]; rfl) (decide_eq_false w4)
                conv => whnf
                conv => whnf
                conv => whnf
                conv => whnf
                refine ⟨_, _, ⟨⟨j + 1, w, M ++ [(r.1.getD ((r.1.length : Int) - 1).toNat (0, 0), (w.1 ++ [(stp p (a, b)).exits.getD j 0], w.2 + r.2))], by omega, hw1, hM', rfl, rfl⟩, by omega⟩, ⟨⟨.inl rfl, rfl, rfl, rfl⟩, ⟨⟨rfl, rfl, rfl, rfl, fun _ => rfl, fun _ _ => .inl rfl⟩, ⟨⟨rfl, rfl, rfl, rfl, fun _ => rfl, fun _ _ => .inl rfl⟩, ⟨⟨rfl, rfl, rfl, rfl, fun _ => rfl, fun _ _ => .inl rfl⟩, trivial⟩⟩⟩, ⟨⟨rfl, rfl, rfl, trivial, .inl rfl, fun v => And.imp id Or.inl (⟨congrArg (fun B => hasW B v) hsm, congrArg (fun B => wayM B v) hsm⟩)⟩, ⟨⟨rfl, rfl, rfl, ⟨rfl, fun _ => rfl⟩, .inr rfl, fun _ => ⟨rfl, .inl rfl⟩⟩, trivial⟩⟩⟩⟩
          · conv => whnf
            conv => whnf
            conv => whnf
            conv => whnf
            refine ⟨inK64 (by omega) (by omega), ?_⟩
            have hb : better (least M (r.1.getD ((r.1.length : Int) - 1).toNat (0, 0))) (w.1 ++ [(stp p (a, b)).exits.getD j 0], w.2 + r.2) = some (w.1 ++ [(stp p (a, b)).exits.getD j 0], w.2 + r.2) := by
              rw [show least M (r.1.getD ((r.1.length : Int) - 1).toNat (0, 0)) = none from Option.isSome_eq_false_iff.1 w3 |> Option.isNone_iff_eq_none.1]; rfl
            conv => whnf
            conv => whnf
            conv => whnf
            conv => whnf
            refine ⟨_, _, ⟨⟨j + 1, w, M ++ [(r.1.getD ((r.1.length : Int) - 1).toNat (0, 0), (w.1 ++ [(stp p (a, b)).exits.getD j 0], w.2 + r.2))], by omega, hw1, hM', rfl, rfl⟩, by omega⟩, ⟨⟨.inl rfl, rfl, rfl, rfl⟩, ⟨⟨rfl, rfl, rfl, rfl, fun _ => rfl, fun _ _ => .inl rfl⟩, ⟨⟨rfl, rfl, rfl, rfl, fun _ => rfl, fun _ _ => .inl rfl⟩, ⟨⟨rfl, rfl, rfl, rfl, fun _ => rfl, fun _ _ => .inl rfl⟩, trivial⟩⟩⟩, ⟨⟨rfl, rfl, rfl, trivial, .inl rfl, fun v => And.imp id Or.inr (⟨(hasW_put M _ _ v).symm, wayM_put M _ _ hb (way_ave (by simp) fun i hi => app_row _ _ i hi) v⟩)⟩, ⟨⟨rfl, rfl, rfl, ⟨rfl, fun _ => rfl⟩, .inr rfl, fun _ => ⟨rfl, .inl rfl⟩⟩, trivial⟩⟩⟩⟩
        · (exfalso; omega)
    · have hn : nl = n + 1 := hn
      have hMe : M = ext p (D ++ [((a, b), w)]) := by
        rw [hM, ext_snoc, List.take_of_length_le (by omega)]; rfl
      subst hMe
      conv => whnf
      conv => whnf
      conv => whnf
      conv => whnf
      refine ifB_dec (fun w2 => ?_) (fun w2 => ?_)
      · (exfalso; omega)
      · conv => whnf
        conv => whnf
        conv => whnf
        conv => whnf
        refine ⟨_, _, ⟨⟨n, fun v => Bool.or (sn v) (opEv.keyEq v (keyV (a, b))), D ++ [((a, b), w)], (fun e he => (List.mem_append.1 he).elim (hD e) fun h => by rw [List.mem_singleton.1 h]; exact hw1), seen_put (e := ((a, b), w)) hs, rfl, rfl⟩, by omega⟩, ⟨⟨.inl rfl, rfl, rfl, rfl⟩, ⟨⟨rfl, rfl, rfl, rfl, fun _ => rfl, fun _ _ => .inl rfl⟩, trivial⟩, ⟨⟨rfl, rfl, rfl, trivial, .inl rfl, fun _ => ⟨rfl, .inl rfl⟩⟩, ⟨⟨rfl, rfl, rfl, ⟨rfl, fun _ => rfl⟩, .inr rfl, fun _ => ⟨rfl, .inl rfl⟩⟩, trivial⟩⟩⟩⟩
end Go.Tr

/- Contracts of chapter 7: the fastest way. Conditions: none. -/
namespace Go.Tr
open Go Go.Proofs
set_option maxRecDepth 20000
set_option maxHeartbeats 8000000

/-- The ways of so many commands. -/
def layer (p : Pln) (s : S2) : Nat → List Ent
  | 0 => [(s, ([], 0))]
  | k + 1 => ext p (norm (layer p s k))
/-- Those that lead to a step. -/
def toW (to : Int) (D : List Ent) : List Way := (D.filter fun e => e.1.1 = to).map (·.2)
def hereW (p : Pln) (s : S2) (to : Int) (k : Nat) : Option Way := minL (toW to (norm (layer p s k)))
def upB (b h : Option Way) : Option Way := match h with | none => b | some h => match b with | none => some h | some b => if h.2 < b.2 then some h else some b
def bestW (p : Pln) (s : S2) (to : Int) : Nat → Option Way
  | 0 => none
  | k + 1 => upB (bestW p s to k) (hereW p s to k)
theorem toW_snoc (to : Int) (D : List Ent) (e : Ent) : toW to (D ++ [e]) = toW to D ++ if e.1.1 = to then [e.2] else [] := by
  unfold toW
  rw [List.filter_append, List.map_append]
  by_cases h : e.1.1 = to <;> simp [h]
theorem layer_ok {p : Pln} (hg : Good p) {s : S2} (hs : OkS p s) (hw : (stp p s).wait = 0) : ∀ k, LOk p k (layer p s k)
  | 0 => fun e he => by
    rw [show e = (s, ([], 0)) from List.mem_singleton.1 he]
    exact ⟨hs, hw, rfl, Int.le_refl 0, Int.le_refl 0⟩
  | k + 1 => ext_ok hg (norm_ok (layer_ok hg hs hw k))
def optA (o : Option Way) : Way := o.getD ([], 0)
theorem hasW_one (s : S2) (v : Value) : hasW (least [(s, ([], 0))]) v = Bool.or false (opEv.keyEq v (keyV s)) := by
  rw [show ([(s, ([], 0))] : List Ent) = [] ++ [(s, ([], 0))] from rfl, ← hasW_put, hasW_nil]
theorem wayM_one (s : S2) (v : Value) : AVE 5 (bif opEv.keyEq v (keyV s) then .agg [.eslice, i64 0] else .agg [.eslice, i64 0]) (wayM (least [(s, ([], 0))]) v) := by
  rw [show (bif opEv.keyEq v (keyV s) then (.agg [.eslice, i64 0] : AV) else .agg [.eslice, i64 0]) = .agg [.eslice, i64 0] by cases opEv.keyEq v (keyV s) <;> rfl]
  unfold wayM
  cases decS v with
  | none => exact ave_agg2 (k := 4) rfl rfl
  | some x =>
    show AVE 5 _ (wayA ((least [(s, ([], 0))] x).getD ([], 0)))
    rw [show ([(s, ([], 0))] : List Ent) = [] ++ [(s, ([], 0))] from rfl, least_snoc]
    split <;> exact ave_agg2 (k := 4) rfl rfl
def fastE (p : Pln) (s : S2) (to : Int) : Int :=
  if openE p s noF ≠ 0 then openE p s noF else if idxE p.steps.length to ≠ 0 then idxE p.steps.length to
  else if (stp p s).wait = 0 ∧ (p.steps.getD to.toNat stp0).wait = 0 then 0 else 20
def fastR (p : Pln) (s : S2) (to : Int) : AV :=
  if fastE p s to ≠ 0 then .tuple [ints [], i64 0, i64 (fastE p s to)]
  else match bestW p s to 11 with | none => .tuple [ints [], i64 0, i64 12] | some w => .tuple [ints w.1, i64 w.2, i64 0]
theorem open_ok {p : Pln} (hp : FewP p) {s : S2} {f : Int × Bool} (h : openE p s f = 0) : Good p ∧ OkS p s ∧ OkF p f := by
  unfold openE at h
  split at h
  · rename_i h0
    rw [first2_iff] at h
    exact ⟨Good.of hp h0, state_ok.1 h.1, fault_ok h.2⟩
  · rename_i h0; exact absurd h h0
theorem fast_bad {e : Int} {p : Pln} {s : S2} {to : Int} (h : fastE p s to = e) (h0 : e ≠ 0) : AVE 5 (.tuple [.eslice, i64 0, i64 e]) (fastR p s to) := by
  unfold fastR
  rw [h, if_pos h0]
  exact ave_tup3 rfl rfl rfl
theorem row_zero : RowLe true [.eslice, i64 0] [ints [], i64 0] := by
  refine ⟨rfl, rfl, fun j x y hx hy => ?_⟩
  match j, hx, hy with
  | 0, hx, hy => cases hx; cases hy; exact .inr rfl
  | 1, hx, hy => cases hx; cases hy; exact .inl rfl
theorem toW_congr {to : Int} {D E : List Ent} (h : ∀ e, e ∈ D ↔ e ∈ E) : minL (toW to D) = minL (toW to E) := minL_congr fun w => by
  unfold toW
  simp only [List.mem_map, List.mem_filter, h]
theorem S10 (p : Pln) (hp : FewP p) (s : S2) (to : Int) : SP 10 [planA p, stA s, i64 to] (fastR p s to) false := by
  have h67 := S22 p hp s noF
  have h68 := fun h => @S23_1 p h to
  rw [idxs1] at h68
  by_cases h1 : openE p s noF = 0
  · obtain ⟨hg, hs, hf⟩ := open_ok hp h1
    by_cases h2 : idxE p.steps.length to = 0
    · have hto := inX_iff.1 (idxE0 h2)
      have hat := hs.at
      rw [h1] at h67
      rw [h2] at h68
      have h70s := S25 (stp p s)
      have h70t := S25 (p.steps.getD to.toNat stp0)
      have hm := hg.m
      have h68 := fun {f : Nat → List AV} => @h68 (by omega) f
      refine sound (d := 2) tok2 mixed2 Tryd.func10 (by kernel_rfl) (by kernel_rfl) ?_
      conv => whnf
      refine .inl ⟨_, _, byX rfl (h67), ?_⟩
      conv => whnf
      refine .inl ⟨_, _, byX rfl (Sound1.pl (h68 rfl) rfl), ?_⟩
      conv => whnf
      refine ⟨⟨(by omega), (by omega)⟩, ?_⟩
      conv => whnf
      refine .inl ⟨_, _, byX rfl (Sound1.pl (h70s) rfl), ?_⟩
      conv => whnf
      refine ifB_dec (fun w1 => ?_) (fun w1 => ?_)
      · conv => whnf
        refine ⟨⟨(by omega), (by omega)⟩, ?_⟩
        conv => whnf
        refine .inl ⟨_, _, byX rfl (Sound1.pl (h70t) rfl), ?_⟩
        conv => whnf
        refine .inl ⟨_, _, byX rfl (Sound1.pl (S24 _ _) rfl), ?_⟩
        conv => whnf
        refine ifB_bne (fun w2 => ?_) (fun w2 => ?_)
        · conv => whnf
          refine ⟨?_, nofun⟩
          have hE : fastE p s to = 20 := by
            unfold fastE
            rw [if_neg (not_not_intro h1), if_neg (not_not_intro h2), if_neg]
            intro h
            rw [decide_eq_true h.2] at w2
            exact w2 rfl
          rw [show (if decide ((p.steps.getD to.toNat stp0).wait = 0) = true then (0 : Int) else 20) = 20 by split <;> simp_all]
          exact fast_bad hE (by decide)
        · have hwt : (p.steps.getD to.toNat stp0).wait = 0 := by
            by_cases h : (p.steps.getD to.toNat stp0).wait = 0
            · exact h
            · rw [decide_eq_false h] at w2; cases w2
          have hE : fastE p s to = 0 := by
            unfold fastE
            rw [if_neg (not_not_intro h1), if_neg (not_not_intro h2), if_pos ⟨w1, hwt⟩]
          conv => whnf
          refine ⟨[.freeze 13], [2, 9, 11, 12, 13, 58], fun st mq => ∃ (k : Nat) (B : Option Way) (L : List Ent) (H0 : Value → Bool) (G0 : Value → AV) (F0 : Nat → List AV) (F1 : Nat → List AV) (F3 : Nat → List AV), (k ≤ 11) ∧ (L = layer p s k) ∧ (B = bestW p s to k) ∧ st = ⟨[(2, i64 to), (9, .optr 2 0 0 0), (11, .optr 4 0 0 0), (12, vb B.isSome), (13, mapA (least L)), (58, i64 k)], ⟨[⟨3, 1, F0, 0, false, true, false⟩, ⟨2, 1, F1, 0, false, true, false⟩, ⟨3, 1, fun _ => planC p, 0, false, true, true⟩, ⟨1, 1, F3, 0, false, true, false⟩, ⟨2, 1, fun _ => [ints (optA B).1, i64 (optA B).2], 0, false, true, true⟩], [⟨kkS, 66, H0, G0, true, none, 0, .top⟩], none, 0⟩, []⟩ ∧ mq = 11 - k,
            ⟨_, _, ⟨0, none, [(s, ([], 0))], _, _, _, _, _, by omega, rfl, rfl, rfl, rfl⟩, ⟨⟨.inr ⟨rfl, .inl rfl, ⟨rfl, .inl rfl, ⟨rfl, .inl rfl, ⟨rfl, .inl rfl, ⟨rfl, .inr (⟨rfl, rfl, fun k => ⟨hasW_one s k, .inr (wayM_one s k)⟩⟩), ⟨rfl, .inl rfl, trivial⟩⟩⟩⟩⟩⟩, rfl, rfl, rfl⟩, ⟨⟨rfl, rfl, rfl, rfl, fun _ => rfl, fun _ _ => .inl rfl⟩, ⟨⟨rfl, rfl, rfl, rfl, fun _ => rfl, fun _ _ => .inl rfl⟩, ⟨⟨rfl, rfl, rfl, rfl, fun _ => rfl, fun _ _ => .inl rfl⟩, ⟨⟨rfl, rfl, rfl, rfl, fun _ => rfl, fun _ _ => .inl rfl⟩, ⟨⟨rfl, rfl, rfl, rfl, fun _ => rfl, fun _ _ => .inr (row_zero)⟩, trivial⟩⟩⟩⟩⟩, ⟨⟨rfl, rfl, rfl, trivial, .inl rfl, fun _ => ⟨rfl, .inl rfl⟩⟩, trivial⟩⟩⟩, ?_⟩
          rintro s0 m0 ⟨k, B, L, H0, G0, F0, F1, F3, hk, hL, hB, rfl, hmeas⟩
          have hLo : LOk p k L := by rw [hL]; exact layer_ok hg hs w1 k
          have h72 := S27 p hg k (by omega) L hLo
          conv => whnf
          conv => whnf
          refine ifB_dec (fun w3 => ?_) (fun w3 => ?_)
          · intro w4
            conv => whnf
            conv => whnf
            refine ⟨[], [2, 9, 11, 12, 13, 14, 15, 58, 61], fun st mq => ∃ (nl : Nat) (sn : Value → Bool) (D : List Ent) (hv : Option Way) (F0 : Nat → List AV) (F1 : Nat → List AV) (F3 : Nat → List AV), (∀ e ∈ D, least L e.1 = some e.2) ∧ (∀ s, sn (keyV s) = true ↔ s ∈ D.map (·.1)) ∧ (hv = minL (toW to D)) ∧ st = ⟨[(2, i64 to), (9, .optr 2 0 0 0), (11, .optr 4 0 0 0), (12, vb B.isSome), (13, mapA (least L)), (14, .optr 5 0 0 0), (15, vb hv.isSome), (58, i64 k), (61, .oiter 1)], ⟨[⟨3, 1, F0, 0, false, true, false⟩, ⟨2, 1, F1, 0, false, true, false⟩, ⟨3, 1, fun _ => planC p, 0, false, true, true⟩, ⟨1, 1, F3, 0, false, true, false⟩, ⟨2, 1, fun _ => [ints (optA B).1, i64 (optA B).2], 0, false, true, true⟩, ⟨2, 1, fun _ => [ints (optA hv).1, i64 (optA hv).2], 0, false, true, true⟩], [⟨kkS, 66, H0, G0, true, none, 0, .top⟩, ⟨kkS, 66, hasW (least L), wayM (least L), false, some sn, nl, .top⟩], none, 0⟩, []⟩ ∧ mq = nl,
              ⟨_, _, ⟨w4, fun _ => false, [], none, _, _, _, (fun e he => by cases he), (fun s => by simp), rfl, rfl, rfl⟩, ⟨⟨.inl rfl, rfl, rfl, rfl⟩, ⟨⟨rfl, rfl, rfl, rfl, fun _ => rfl, fun _ _ => .inl rfl⟩, ⟨⟨rfl, rfl, rfl, rfl, fun _ => rfl, fun _ _ => .inl rfl⟩, ⟨⟨rfl, rfl, rfl, rfl, fun _ => rfl, fun _ _ => .inl rfl⟩, ⟨⟨rfl, rfl, rfl, rfl, fun _ => rfl, fun _ _ => .inl rfl⟩, ⟨⟨rfl, rfl, rfl, rfl, fun _ => rfl, fun _ _ => .inl rfl⟩, ⟨⟨rfl, rfl, rfl, rfl, fun _ => rfl, fun _ _ => .inr (row_zero)⟩, trivial⟩⟩⟩⟩⟩⟩, ⟨⟨rfl, rfl, rfl, trivial, .inl rfl, fun _ => ⟨rfl, .inl rfl⟩⟩, ⟨⟨rfl, rfl, rfl, ⟨rfl, fun _ => rfl⟩, .inr rfl, fun _ => ⟨rfl, .inl rfl⟩⟩, trivial⟩⟩⟩⟩, ?_⟩
            rintro s0 m0 ⟨nl, sn, D, hv, F0, F1, F3, hD, hs2, hh, rfl, hmeas⟩
            have hlh : (optA hv).1.length ≤ 1000 := by
              cases hv with
              | none => exact Nat.zero_le _
              | some v =>
                have hm := (minL_some.1 hh.symm).1
                obtain ⟨e, he, h⟩ := List.mem_map.1 hm
                have := (hLo _ (least_mem (hD e (List.mem_filter.1 he).1))).2.2.1
                rw [h] at this
                show v.1.length ≤ 1000
                omega
            have hend : (∀ v, keyIs kkS v = true → hasW (least L) v = true → sn v = true) → hv = hereW p s to k := fun h => by
              rw [hh, hereW, ← hL]
              exact toW_congr (norm_of hD hs2 h)
            have hnx : ext p (norm L) = layer p s (k + 1) := by rw [hL]; rfl
            refine ⟨fun w5 => ?_, ?_⟩
            · conv => whnf
              conv => whnf
              conv => whnf
              refine ifB_intro (fun w6 => ?_) (fun w6 => ?_)
              · conv => whnf
                conv => whnf
                conv => whnf
                refine ifB_not ?_
                conv => whnf
                conv => whnf
                conv => whnf
                refine ifB_intro (fun w7 => ?_) (fun w7 => ?_)
                · conv => whnf
                  conv => whnf
                  conv => whnf
                  refine ifB_dec (fun w8 => ?_) (fun w8 => ?_)
                  · conv => whnf
                    conv => whnf
                    conv => whnf
                    refine .inl ⟨_, _, byX rfl (h72), ?_⟩
                    conv => whnf
                    conv => whnf
                    conv => whnf
                    refine ⟨inK64 (by omega) (by omega), ?_⟩
                    have hH := hend w5
                    cases hv with
                    | none => exact absurd w6 nofun
                    | some v =>
                      cases B with
                      | none => exact absurd w7 nofun
                      | some b0 =>
                        conv => whnf
                        conv => whnf
                        conv => whnf
                        refine ⟨_, _, ⟨⟨k + 1, some v, ext p (norm L), H0, G0, _, _, _, by omega, hnx, (by unfold bestW; rw [← hB, ← hH]; exact (if_pos w8).symm), rfl, rfl⟩, by omega⟩, ⟨⟨.inl rfl, rfl, rfl, rfl⟩, ⟨⟨rfl, rfl, rfl, rfl, fun _ => rfl, fun _ _ => .inl rfl⟩, ⟨⟨rfl, rfl, rfl, rfl, fun _ => rfl, fun _ _ => .inl rfl⟩, ⟨⟨rfl, rfl, rfl, rfl, fun _ => rfl, fun _ _ => .inl rfl⟩, ⟨⟨rfl, rfl, rfl, rfl, fun _ => rfl, fun _ _ => .inl rfl⟩, ⟨⟨rfl, rfl, rfl, rfl, fun _ => rfl, fun _ _ => .inl rfl⟩, trivial⟩⟩⟩⟩⟩, ⟨⟨rfl, rfl, rfl, trivial, .inl rfl, fun _ => ⟨rfl, .inl rfl⟩⟩, trivial⟩⟩⟩
                  · conv => whnf
                    conv => whnf
                    conv => whnf
                    refine .inl ⟨_, _, byX rfl (h72), ?_⟩
                    conv => whnf
                    conv => whnf
                    conv => whnf
                    refine ⟨inK64 (by omega) (by omega), ?_⟩
                    have hH := hend w5
                    cases hv with
                    | none => exact absurd w6 nofun
                    | some v =>
                      cases B with
                      | none => exact absurd w7 nofun
                      | some b0 =>
                        conv => whnf
                        conv => whnf
                        conv => whnf
                        refine ⟨_, _, ⟨⟨k + 1, some b0, ext p (norm L), H0, G0, _, _, _, by omega, hnx, (by unfold bestW; rw [← hB, ← hH]; exact (if_neg w8).symm), rfl, rfl⟩, by omega⟩, ⟨⟨.inl rfl, rfl, rfl, rfl⟩, ⟨⟨rfl, rfl, rfl, rfl, fun _ => rfl, fun _ _ => .inl rfl⟩, ⟨⟨rfl, rfl, rfl, rfl, fun _ => rfl, fun _ _ => .inl rfl⟩, ⟨⟨rfl, rfl, rfl, rfl, fun _ => rfl, fun _ _ => .inl rfl⟩, ⟨⟨rfl, rfl, rfl, rfl, fun _ => rfl, fun _ _ => .inl rfl⟩, ⟨⟨rfl, rfl, rfl, rfl, fun _ => rfl, fun _ _ => .inl rfl⟩, trivial⟩⟩⟩⟩⟩, ⟨⟨rfl, rfl, rfl, trivial, .inl rfl, fun _ => ⟨rfl, .inl rfl⟩⟩, trivial⟩⟩⟩
                · conv => whnf
                  conv => whnf
                  conv => whnf
                  refine .inl ⟨_, _, byX rfl (h72), ?_⟩
                  conv => whnf
                  conv => whnf
                  conv => whnf
                  refine ⟨inK64 (by omega) (by omega), ?_⟩
                  have hH := hend w5
                  cases hv with
                  | none => exact absurd w6 nofun
                  | some v =>
                    cases B with
                    | some b0 => exact absurd w7 nofun
                    | none =>
                      conv => whnf
                      conv => whnf
                      conv => whnf
                      refine ⟨_, _, ⟨⟨k + 1, some v, ext p (norm L), H0, G0, _, _, _, by omega, hnx, (by unfold bestW; rw [← hB, ← hH]; rfl), rfl, rfl⟩, by omega⟩, ⟨⟨.inl rfl, rfl, rfl, rfl⟩, ⟨⟨rfl, rfl, rfl, rfl, fun _ => rfl, fun _ _ => .inl rfl⟩, ⟨⟨rfl, rfl, rfl, rfl, fun _ => rfl, fun _ _ => .inl rfl⟩, ⟨⟨rfl, rfl, rfl, rfl, fun _ => rfl, fun _ _ => .inl rfl⟩, ⟨⟨rfl, rfl, rfl, rfl, fun _ => rfl, fun _ _ => .inl rfl⟩, ⟨⟨rfl, rfl, rfl, rfl, fun _ => rfl, fun _ _ => .inl rfl⟩, trivial⟩⟩⟩⟩⟩, ⟨⟨rfl, rfl, rfl, trivial, .inl rfl, fun _ => ⟨rfl, .inl rfl⟩⟩, trivial⟩⟩⟩
              · conv => whnf
                conv => whnf
                conv => whnf
                refine .inl ⟨_, _, byX rfl (h72), ?_⟩
                conv => whnf
                conv => whnf
                conv => whnf
                refine ⟨inK64 (by omega) (by omega), ?_⟩
                have hH := hend w5
                cases hv with
                | some v => exact absurd w6 nofun
                | none =>
                  conv => whnf
                  conv => whnf
                  conv => whnf
                  refine ⟨_, _, ⟨⟨k + 1, B, ext p (norm L), H0, G0, _, _, _, by omega, hnx, (by unfold bestW; rw [← hB, ← hH]; rfl), rfl, rfl⟩, by omega⟩, ⟨⟨.inl rfl, rfl, rfl, rfl⟩, ⟨⟨rfl, rfl, rfl, rfl, fun _ => rfl, fun _ _ => .inl rfl⟩, ⟨⟨rfl, rfl, rfl, rfl, fun _ => rfl, fun _ _ => .inl rfl⟩, ⟨⟨rfl, rfl, rfl, rfl, fun _ => rfl, fun _ _ => .inl rfl⟩, ⟨⟨rfl, rfl, rfl, rfl, fun _ => rfl, fun _ _ => .inl rfl⟩, ⟨⟨rfl, rfl, rfl, rfl, fun _ => rfl, fun _ _ => .inl rfl⟩, trivial⟩⟩⟩⟩⟩, ⟨⟨rfl, rfl, rfl, trivial, .inl rfl, fun _ => ⟨rfl, .inl rfl⟩⟩, trivial⟩⟩⟩
            · intro a b g1 g2 n gn
              have g1 : (least L (a, b)).isSome = true := g1
              obtain ⟨w, hw⟩ := Option.isSome_iff_exists.1 g1
              have hwa : wAt L (a, b) = w := by unfold wAt; rw [hw]; rfl
              have he := (hLo _ (least_mem hw)).2.2.1
              rw [← hwa] at hw he
              clear hwa
              have h71 := S26 (wAt L (a, b)) (optA hv) (by show (wAt L (a, b)).1.length ≤ 1000; have : (wAt L (a, b)).1.length = k := he; omega) hlh
              have hD' : ∀ e ∈ D ++ [((a, b), wAt L (a, b))], least L e.1 = some e.2 := fun e he => (List.mem_append.1 he).elim (hD e) fun h => by rw [List.mem_singleton.1 h]; exact hw
              have gn : nl = n + 1 := gn
              conv => whnf
              conv => whnf
              conv => whnf
              conv => whnf
              refine ifB_beq (fun w5 => ?_) (fun w5 => ?_)
              · conv => whnf
                conv => whnf
                conv => whnf
                conv => whnf
                refine ifB_not ?_
                conv => whnf
                conv => whnf
                conv => whnf
                conv => whnf
                refine ifB_intro (fun w6 => ?_) (fun w6 => ?_)
                · conv => whnf
                  conv => whnf
                  conv => whnf
                  conv => whnf
                  refine .inl ⟨_, _, byX rfl (Sound1.pl (h71) rfl), ?_⟩
                  conv => whnf
                  conv => whnf
                  conv => whnf
                  conv => whnf
                  refine ifB_dec (fun w7 => ?_) (fun w7 => ?_)
                  · have hq : some (wAt L (a, b)) = minL (toW to (D ++ [((a, b), wAt L (a, b))])) := by
                      rw [toW_snoc, if_pos w5, minL_snoc, ← hh]
                      cases hv with
                      | none => exact absurd w6 nofun
                      | some v => exact (if_pos (decide_eq_true w7)).symm
                    conv => whnf
                    conv => whnf
                    conv => whnf
                    conv => whnf
                    refine ⟨_, _, ⟨⟨n, fun v => Bool.or (sn v) (opEv.keyEq v (keyV (a, b))), D ++ [((a, b), wAt L (a, b))], some (wAt L (a, b)), _, _, _, hD', seen_put (e := ((a, b), wAt L (a, b))) hs2, hq, rfl, rfl⟩, by omega⟩, ⟨⟨.inl rfl, rfl, rfl, rfl⟩, ⟨⟨rfl, rfl, rfl, rfl, fun _ => rfl, fun _ _ => .inl rfl⟩, ⟨⟨rfl, rfl, rfl, rfl, fun _ => rfl, fun _ _ => .inl rfl⟩, ⟨⟨rfl, rfl, rfl, rfl, fun _ => rfl, fun _ _ => .inl rfl⟩, ⟨⟨rfl, rfl, rfl, rfl, fun _ => rfl, fun _ _ => .inl rfl⟩, ⟨⟨rfl, rfl, rfl, rfl, fun _ => rfl, fun _ _ => .inl rfl⟩, ⟨⟨rfl, rfl, rfl, rfl, fun _ => rfl, fun _ _ => .inl rfl⟩, trivial⟩⟩⟩⟩⟩⟩, ⟨⟨rfl, rfl, rfl, trivial, .inl rfl, fun _ => ⟨rfl, .inl rfl⟩⟩, ⟨⟨rfl, rfl, rfl, ⟨rfl, fun _ => rfl⟩, .inr rfl, fun _ => ⟨rfl, .inl rfl⟩⟩, trivial⟩⟩⟩⟩
                  · have hq : hv = minL (toW to (D ++ [((a, b), wAt L (a, b))])) := by
                      rw [toW_snoc, if_pos w5, minL_snoc, ← hh]
                      cases hv with
                      | none => exact absurd w6 nofun
                      | some v => exact (if_neg (by rw [show wlt (wAt L (a, b)) v = false from decide_eq_false w7]; nofun)).symm
                    conv => whnf
                    conv => whnf
                    conv => whnf
                    conv => whnf
                    refine ⟨_, _, ⟨⟨n, fun v => Bool.or (sn v) (opEv.keyEq v (keyV (a, b))), D ++ [((a, b), wAt L (a, b))], hv, _, _, _, hD', seen_put (e := ((a, b), wAt L (a, b))) hs2, hq, rfl, rfl⟩, by omega⟩, ⟨⟨.inl rfl, rfl, rfl, rfl⟩, ⟨⟨rfl, rfl, rfl, rfl, fun _ => rfl, fun _ _ => .inl rfl⟩, ⟨⟨rfl, rfl, rfl, rfl, fun _ => rfl, fun _ _ => .inl rfl⟩, ⟨⟨rfl, rfl, rfl, rfl, fun _ => rfl, fun _ _ => .inl rfl⟩, ⟨⟨rfl, rfl, rfl, rfl, fun _ => rfl, fun _ _ => .inl rfl⟩, ⟨⟨rfl, rfl, rfl, rfl, fun _ => rfl, fun _ _ => .inl rfl⟩, ⟨⟨rfl, rfl, rfl, rfl, fun _ => rfl, fun _ _ => .inl rfl⟩, trivial⟩⟩⟩⟩⟩⟩, ⟨⟨rfl, rfl, rfl, trivial, .inl rfl, fun _ => ⟨rfl, .inl rfl⟩⟩, ⟨⟨rfl, rfl, rfl, ⟨rfl, fun _ => rfl⟩, .inr rfl, fun _ => ⟨rfl, .inl rfl⟩⟩, trivial⟩⟩⟩⟩
                · have hq : some (wAt L (a, b)) = minL (toW to (D ++ [((a, b), wAt L (a, b))])) := by
                    rw [toW_snoc, if_pos w5, minL_snoc, ← hh]
                    cases hv with
                    | none => rfl
                    | some v => exact absurd w6 nofun
                  conv => whnf
                  conv => whnf
                  conv => whnf
                  conv => whnf
                  refine ⟨_, _, ⟨⟨n, fun v => Bool.or (sn v) (opEv.keyEq v (keyV (a, b))), D ++ [((a, b), wAt L (a, b))], some (wAt L (a, b)), _, _, _, hD', seen_put (e := ((a, b), wAt L (a, b))) hs2, hq, rfl, rfl⟩, by omega⟩, ⟨⟨.inl rfl, rfl, rfl, rfl⟩, ⟨⟨rfl, rfl, rfl, rfl, fun _ => rfl, fun _ _ => .inl rfl⟩, ⟨⟨rfl, rfl, rfl, rfl, fun _ => rfl, fun _ _ => .inl rfl⟩, ⟨⟨rfl, rfl, rfl, rfl, fun _ => rfl, fun _ _ => .inl rfl⟩, ⟨⟨rfl, rfl, rfl, rfl, fun _ => rfl, fun _ _ => .inl rfl⟩, ⟨⟨rfl, rfl, rfl, rfl, fun _ => rfl, fun _ _ => .inl rfl⟩, ⟨⟨rfl, rfl, rfl, rfl, fun _ => rfl, fun _ _ => .inl rfl⟩, trivial⟩⟩⟩⟩⟩⟩, ⟨⟨rfl, rfl, rfl, trivial, .inl rfl, fun _ => ⟨rfl, .inl rfl⟩⟩, ⟨⟨rfl, rfl, rfl, ⟨rfl, fun _ => rfl⟩, .inr rfl, fun _ => ⟨rfl, .inl rfl⟩⟩, trivial⟩⟩⟩⟩
              · have hq : hv = minL (toW to (D ++ [((a, b), wAt L (a, b))])) := by
                  rw [toW_snoc, if_neg w5, List.append_nil]; exact hh
                conv => whnf
                conv => whnf
                conv => whnf
                conv => whnf
                refine ⟨_, _, ⟨⟨n, fun v => Bool.or (sn v) (opEv.keyEq v (keyV (a, b))), D ++ [((a, b), wAt L (a, b))], hv, _, _, _, hD', seen_put (e := ((a, b), wAt L (a, b))) hs2, hq, rfl, rfl⟩, by omega⟩, ⟨⟨.inl rfl, rfl, rfl, rfl⟩, ⟨⟨rfl, rfl, rfl, rfl, fun _ => rfl, fun _ _ => .inl rfl⟩, ⟨⟨rfl, rfl, rfl, rfl, fun _ => rfl, fun _ _ => .inl rfl⟩, ⟨⟨rfl, rfl, rfl, rfl, fun _ => rfl, fun _ _ => .inl rfl⟩, ⟨⟨rfl, rfl, rfl, rfl, fun _ => rfl, fun _ _ => .inl rfl⟩, ⟨⟨rfl, rfl, rfl, rfl, fun _ => rfl, fun _ _ => .inl rfl⟩, ⟨⟨rfl, rfl, rfl, rfl, fun _ => rfl, fun _ _ => .inl rfl⟩, trivial⟩⟩⟩⟩⟩⟩, ⟨⟨rfl, rfl, rfl, trivial, .inl rfl, fun _ => ⟨rfl, .inl rfl⟩⟩, ⟨⟨rfl, rfl, rfl, ⟨rfl, fun _ => rfl⟩, .inr rfl, fun _ => ⟨rfl, .inl rfl⟩⟩, trivial⟩⟩⟩⟩
          · conv => whnf
            conv => whnf
            refine ⟨[], by kernel_rfl, ?_⟩
            conv => whnf
            conv => whnf
            refine .inl ⟨_, _, byX rfl (Sound1.pl (S24 _ _) rfl), ?_⟩
            conv => whnf
            conv => whnf
            refine ⟨?_, nofun⟩
            have hk11 : k = 11 := by omega
            subst hk11
            unfold fastR
            rw [if_neg (not_not_intro hE), ← hB]
            cases B with
            | none => exact ave_tup3 ⟨rfl, rfl, fun _ _ => rfl⟩ rfl rfl
            | some v => exact ave_tup3 ⟨rfl, rfl, fun _ _ => rfl⟩ rfl rfl
      · conv => whnf
        refine .inl ⟨_, _, byX rfl (Sound1.pl (S24 _ _) rfl), ?_⟩
        conv => whnf
        refine ⟨?_, nofun⟩
        have hE : fastE p s to = 20 := by
          unfold fastE
          rw [if_neg (not_not_intro h1), if_neg (not_not_intro h2), if_neg (fun h => w1 h.1)]
        exact fast_bad hE (by decide)
    · have hE : fastE p s to = idxE p.steps.length to := by unfold fastE; rw [if_neg (not_not_intro h1), if_pos h2]
      rw [h1] at h67
      have hm := hg.m
      have h68 := fun {f : Nat → List AV} => @h68 (by omega) f
      refine sound (d := 2) tok2 mixed2 Tryd.func10 (by kernel_rfl) (by kernel_rfl) ?_
      conv => whnf
      refine .inl ⟨_, _, byX rfl (h67), ?_⟩
      conv => whnf
      refine .inl ⟨_, _, byX rfl (Sound1.pl (h68 rfl) rfl), ?_⟩
      conv => whnf
      refine ifB_beq (fun w1 => ?_) (fun w1 => ?_)
      · (exfalso; omega)
      · conv => whnf
        refine ifB_bne (fun w2 => ?_) (fun w2 => ?_)
        · conv => whnf
          refine ⟨?_, nofun⟩
          exact fast_bad hE h2
        · (exfalso; omega)
  · have hE : fastE p s to = openE p s noF := by unfold fastE; rw [if_pos h1]
    refine sound (d := 2) tok2 mixed2 Tryd.func10 (by kernel_rfl) (by kernel_rfl) ?_
    conv => whnf
    refine .inl ⟨_, _, byX rfl (h67), ?_⟩
    conv => whnf
    refine ifB_beq (fun w1 => ?_) (fun w1 => ?_)
    · (exfalso; omega)
    · conv => whnf
      refine ifB_beq (fun w2 => ?_) (fun w2 => ?_)
      · (exfalso; omega)
      · conv => whnf
        refine ifB_bne (fun w3 => ?_) (fun w3 => ?_)
        · conv => whnf
          refine ⟨?_, nofun⟩
          exact fast_bad hE h1
        · (exfalso; omega)
end Go.Tr

/- Contracts of chapter 7: halls and their rules. Conditions: none. -/
namespace Go.Tr
open Go Go.Proofs
set_option maxRecDepth 20000
set_option maxHeartbeats 8000000

abbrev Rul := Int × Int × Int
structure Hal where
  mach : Int
  rules : List Rul
def rulC (r : Rul) : List AV := [i64 r.1, i64 r.2.1, i64 r.2.2]
def rul0 : Rul := (0, 0, 0)
def rulesA (l : List Rul) : AV := .rslice 3 l.length fun i => rulC (l.getD i rul0)
def hallC (h : Hal) : List AV := [i64 h.mach, rulesA h.rules]
def hallA (h : Hal) : AV := .agg (hallC h)

def isStepB (n : Int) : Bool := decide (0 ≤ n) && decide (n ≤ 9)
theorem isStep_dec (n : Int) : decide (0 ≤ n ∧ n ≤ 9) = isStepB n := by simp [isStepB]
def ruleE (r : Rul) : Int := firstOf [if isStepB r.1 && isStepB r.2.1 then 0 else 6, if decide (0 ≤ r.2.2 ∧ r.2.2 ≤ 1) then 0 else 15]
def ruleAt (h : Hal) (i : Nat) : Int := ruleE (h.rules.getD i rul0)
def headH (h : Hal) : Int := firstOf [if decide (1 ≤ h.mach ∧ h.mach ≤ 6) then 0 else 2, if decide ((h.rules.length : Int) ≤ 12) then 0 else 8]
def checkH (h : Hal) : Int × Int := if headH h ≠ 0 then (0, headH h) else scan (ruleAt h) h.rules.length 0
theorem checkH_1 {h : Hal} (h0 : ¬ headH h = 0) : checkH h = (0, headH h) := if_pos h0
theorem checkH_2 {h : Hal} (h0 : headH h = 0) {k : Nat} {e : Int} (hk : k < h.rules.length) (hf : ∀ j, j < k → ruleAt h j = 0) (he : ruleAt h k = e) (hne : ¬ e = 0) : checkH h = (↑k, e) := by
  unfold checkH
  rw [if_neg (not_not_intro h0), scan_at hk hf (by rw [he]; exact hne), he]
theorem checkH_3 {h : Hal} (h0 : headH h = 0) (hf : ∀ j, j < h.rules.length → ruleAt h j = 0) : checkH h = (0, 0) := by
  unfold checkH
  rw [if_neg (not_not_intro h0), scan_all hf]
theorem mach_form (h : Hal) : headH h = if 1 ≤ h.mach ∧ h.mach ≤ 6 then (if h.rules.length > 12 then 8 else 0) else 2 := by
  unfold headH
  rw [first2]
  by_cases h1 : 1 ≤ h.mach ∧ h.mach ≤ 6
  · rw [if_pos h1, decide_eq_true h1]
    by_cases h2 : h.rules.length > 12
    · rw [if_pos h2, decide_eq_false (by omega)]; rfl
    · rw [if_neg h2, decide_eq_true (by omega)]; rfl
  · rw [if_neg h1, decide_eq_false h1]; rfl
theorem rule_form (r : Rul) : ruleE r = if isStepB r.1 && isStepB r.2.1 then (if 0 ≤ r.2.2 ∧ r.2.2 ≤ 1 then 0 else 15) else 6 := by
  unfold ruleE
  rw [first2]
  cases isStepB r.1 && isStepB r.2.1 with
  | true =>
    by_cases h : 0 ≤ r.2.2 ∧ r.2.2 ≤ 1
    · rw [decide_eq_true h, if_pos h]; rfl
    · rw [decide_eq_false h, if_neg h]; rfl
  | false => rfl
def stepsH (h : Hal) (l : List Int) : Int := if ¬ (l.length : Int) = h.mach then 10 else if l.all isStepB then 0 else 6
def openH (h : Hal) (l : List Int) : Int := if (checkH h).2 = 0 then stepsH h l else (checkH h).2
theorem first3 (a b c : Int) : firstOf [a, b, c] = if a ≠ 0 then a else if b ≠ 0 then b else c := by
  unfold firstOf
  rw [first2]
  by_cases h : a = 0
  · rw [if_pos h, if_neg (not_not_intro h)]
  · rw [if_neg h, if_pos h]
theorem openH_form (h : Hal) (l : List Int) : firstOf [(checkH h).2, if decide ((l.length : Int) = h.mach) then 0 else 10, if l.all isStepB then 0 else 6] = openH h l := by
  rw [first3]
  unfold openH stepsH
  by_cases h0 : (checkH h).2 = 0
  · rw [if_neg (not_not_intro h0), if_pos h0]
    by_cases h1 : (l.length : Int) = h.mach
    · rw [decide_eq_true h1, if_neg (not_not_intro h1)]; rfl
    · rw [decide_eq_false h1, if_pos h1]; rfl
  · rw [if_pos h0, if_neg h0]
end Go.Tr

/- Contracts of chapter 7: which rules are broken. Conditions: none. -/
namespace Go.Tr
open Go Go.Proofs
set_option maxRecDepth 20000
set_option maxHeartbeats 8000000

/-- The first of some numbers of which something holds. -/
def firstN (P : Nat → Bool) : Nat → Nat → Option Nat
  | 0, _ => none
  | n + 1, i => if P i then some i else firstN P n (i + 1)
theorem firstN_at {P : Nat → Bool} {n k : Nat} (hk : k < n) (h : ∀ j, j < k → P j = false) (hp : P k = true) : firstN P n 0 = some k := by
  have key : ∀ (n i : Nat), i ≤ k → k < i + n → firstN P n i = some k := by
    intro n
    induction n with
    | zero => intro i h1 h2; omega
    | succ n ih =>
      intro i h1 h2
      unfold firstN
      by_cases hi : i = k
      · subst hi; rw [if_pos hp]
      · rw [if_neg (by rw [h i (by omega)]; nofun), ih (i + 1) (by omega) (by omega)]
  exact key n 0 (by omega) (by omega)
theorem firstN_none {P : Nat → Bool} {n : Nat} (h : ∀ j, j < n → P j = false) : firstN P n 0 = none := by
  have key : ∀ (m i : Nat), i + m = n → firstN P m i = none := by
    intro m
    induction m with
    | zero => intro i _; rfl
    | succ m ih => intro i hi; unfold firstN; rw [if_neg (by rw [h i (by omega)]; nofun), ih (i + 1) (by omega)]
  exact key n 0 (by omega)
theorem inv_nextB {f : Nat → Bool} {k : Nat} (h : ∀ j, j < k → f j = false) (hk : f k = false) : ∀ j, j < k + 1 → f j = false := fun j hj => by
  rcases Nat.lt_succ_iff_lt_or_eq.1 hj with h1 | rfl
  · exact h j h1
  · exact hk
theorem inv_noneB {f : Nat → Bool} : ∀ j, j < 0 → f j = false := fun j hj => absurd hj (Nat.not_lt_zero j)

/-- Is another machine in a step? -/
def otherB (l : List Int) (m : Nat) (x : Int) : Bool := hasI (l.eraseIdx m) x
/-- Does a rule not hold for a machine? -/
def condB (h : Hal) (l : List Int) (m k : Nat) : Bool :=
  decide ((h.rules.getD k rul0).1 = l.getD m 0) && (otherB l m (h.rules.getD k rul0).2.1 != decide ((h.rules.getD k rul0).2.2 = 1))
def rowB (h : Hal) (l : List Int) (m : Nat) : Option Nat := firstN (condB h l m) h.rules.length 0
def brokenF (h : Hal) (l : List Int) : Option (Nat × Nat) := match firstN (fun m => (rowB h l m).isSome) l.length 0 with | none => none | some m => (rowB h l m).map fun k => (m, k)
def brA : Option (Nat × Nat) → AV
  | none => .tuple [stA (0, 0), vb false]
  | some x => .tuple [stA (x.1, x.2), vb true]
theorem broken_at {h : Hal} {l : List Int} {m k : Nat} (hm : m < l.length) (hk : k < h.rules.length) (h1 : ∀ j, j < m → (rowB h l j).isSome = false) (h2 : ∀ j, j < k → condB h l m j = false) (h3 : condB h l m k = true) : brokenF h l = some (m, k) := by
  have hr : rowB h l m = some k := firstN_at hk h2 h3
  unfold brokenF
  rw [firstN_at hm h1 (by rw [hr]; rfl)]
  show (rowB h l m).map _ = _
  rw [hr]; rfl
theorem broken_none {h : Hal} {l : List Int} (h1 : ∀ j, j < l.length → (rowB h l j).isSome = false) : brokenF h l = none := by
  unfold brokenF
  rw [firstN_none h1]
theorem S30n (l : List Int) (hl : l.length ≤ 1000000) (x : Int) {n : Nat} {f : Nat → List AV} (hn : n = l.length) (hf : ∀ i, i < n → f i = [i64 (l.getD i 0)]) : SP 30 [.rslice 1 n f, i64 x] (vb (hasI l x)) false := by
  refine (S30 l (by omega) x).argsD rfl fun i y z hy hz => ?_
  match i, hy, hz with
  | 0, hy, hz => cases hy; cases hz; exact .inr ⟨1, AVF_rows hn hf 0⟩
  | 1, hy, hz => cases hy; cases hz; exact .inl rfl
theorem ave_br (o : Option (Nat × Nat)) {m k : Nat} (h : o = some (m, k)) : AVE 5 (.tuple [.agg [i64 m, i64 k], vb true]) (brA o) := by
  rw [h]
  exact ave_tup2 (ave_agg2 (k := 3) rfl rfl) rfl
theorem ave_br0 (o : Option (Nat × Nat)) (h : o = none) : AVE 5 (.tuple [.agg [i64 0, i64 0], vb false]) (brA o) := by
  rw [h]
  exact ave_tup2 (ave_agg2 (k := 3) rfl rfl) rfl
theorem getD_erase (l : List Int) (m i : Nat) : (l.eraseIdx m).getD i 0 = if i < m then l.getD i 0 else l.getD (i + 1) 0 := by
  rw [List.getD_eq_getElem?_getD, List.getElem?_eraseIdx]
  split <;> rw [List.getD_eq_getElem?_getD]
theorem del_row (l : List Int) (m : Nat) (_ : m < l.length) (i : Nat) (hi : i < ((m : Int) - 0).toNat + ((l.length : Int) - ((m : Int) + 1)).toNat) {Z W : List AV} :
    (if 0 + Int.toNat 0 + (((((m : Int) - 0).toNat + ((l.length : Int) - ((m : Int) + 1)).toNat : Nat) : Int)).toNat ≤ i ∧ i < 0 + Int.toNat 0 + (((((m : Int) - 0).toNat + ((l.length : Int) - ((m : Int) + 1)).toNat : Nat) : Int)).toNat + ((l.length : Int) - ((((m : Int) - 0).toNat + ((l.length : Int) - ((m : Int) + 1)).toNat : Nat) : Int)).toNat then Z
      else if i < 0 + Int.toNat 0 + ((m : Int) - 0).toNat then [i64 (l.getD i 0)] else if i < 0 + Int.toNat 0 + ((m : Int) - 0).toNat + ((l.length : Int) - ((m : Int) + 1)).toNat then shiftF (0 + ((m : Int) + 1).toNat) (fun i => [i64 (l.getD i 0)]) (i - (0 + Int.toNat 0 + ((m : Int) - 0).toNat)) else W) = [i64 ((l.eraseIdx m).getD i 0)] := by
  have e0 : Int.toNat 0 = 0 := rfl
  rw [if_neg (by omega), getD_erase, shiftF_eq]
  by_cases h : i < m
  · rw [if_pos (by omega), if_pos h]
  · rw [if_neg (by omega), if_pos (by omega), if_neg h]
    show [i64 (l.getD (0 + ((m : Int) + 1).toNat + (i - (0 + Int.toNat 0 + ((m : Int) - 0).toNat))) 0)] = _
    rw [show 0 + ((m : Int) + 1).toNat + (i - (0 + Int.toNat 0 + ((m : Int) - 0).toNat)) = i + 1 by omega]
theorem cond_ne {h : Hal} {l : List Int} {m k : Nat} (w : ¬ (h.rules.getD k rul0).1 = l.getD m 0) : condB h l m k = false := by
  unfold condB
  rw [decide_eq_false w]; rfl
theorem cond_no {h : Hal} {l : List Int} {m k : Nat} (w : (h.rules.getD k rul0).1 = l.getD m 0) (w2 : otherB l m (h.rules.getD k rul0).2.1 = ((h.rules.getD k rul0).2.2 == 1)) : condB h l m k = false := by
  unfold condB
  rw [decide_eq_true w, w2]
  show (true && (((h.rules.getD k rul0).2.2 == 1) != ((h.rules.getD k rul0).2.2 == 1))) = false
  simp
theorem cond_yes {h : Hal} {l : List Int} {m k : Nat} (w : (h.rules.getD k rul0).1 = l.getD m 0) (w2 : ¬ otherB l m (h.rules.getD k rul0).2.1 = ((h.rules.getD k rul0).2.2 == 1)) : condB h l m k = true := by
  unfold condB
  rw [decide_eq_true w, Bool.true_and]
  exact bne_iff_ne.2 w2
theorem other_true {l : List Int} {m i : Nat} {x : Int} (hi : i < l.length) (hne : i ≠ m) (he : l.getD i 0 = x) : otherB l m x = true := by
  unfold otherB
  rw [hasI_mem, List.mem_eraseIdx_iff_getElem]
  exact ⟨i, hi, hne, by simpa [List.getD_eq_getElem?_getD, hi] using he⟩
theorem other_false {l : List Int} {m : Nat} {x : Int} (h : ∀ i, i < l.length → i ≠ m → ¬ l.getD i 0 = x) : otherB l m x = false := by
  unfold otherB
  cases ho : hasI (l.eraseIdx m) x with
  | false => rfl
  | true =>
    rw [hasI_mem, List.mem_eraseIdx_iff_getElem] at ho
    obtain ⟨i, hi, hne, he⟩ := ho
    exact absurd (by simpa [List.getD_eq_getElem?_getD, hi] using he) (h i hi hne)
theorem S14 (l : List Int) (hl : l.length ≤ 1000000) : SP 14 [ints l] (ints l) true := by
  refine sound (d := 2) tok2 mixed2 Tryd.func14 (by kernel_rfl) (by kernel_rfl) ?_
  conv => whnf
  refine ⟨⟨(by omega), (by show _ * (8 + 1) ≤ _; omega)⟩, ?_⟩
  conv => whnf
  refine ⟨?_, fun _ => ⟨rfl, ?_⟩⟩
  · exact ⟨rfl, Nat.zero_add _, fun i hi => rfl⟩
  · exact ⟨fun i _ x hx => ⟨_, List.mem_singleton.1 hx⟩, trivial⟩
def brokenR (h : Hal) (l : List Int) : AV :=
  if openH h l ≠ 0 then .tuple [stA (0, 0), i64 (openH h l)] else match brokenF h l with | none => .tuple [stA (0, 0), i64 12] | some x => .tuple [stA (x.1, x.2), i64 0]
/-- The steps after a machine entered another one. -/
def enteredL (l : List Int) (x : Int × Int) : List Int := l.set x.1.toNat x.2
def enterE (h : Hal) (l : List Int) (x : Int × Int) : Int := if openH h l = 0 then (if decide (0 ≤ x.1 ∧ x.1 ≤ (l.length : Int) - 1) && isStepB x.2 then 0 else 6) else openH h l
def mayR (h : Hal) (l : List Int) (x : Int × Int) : AV :=
  if enterE h l x ≠ 0 then t2 0 (enterE h l x) else match brokenF h (enteredL l x) with | none => t2 0 0 | some y => t2 y.2 24
theorem entered_len (l : List Int) (x : Int × Int) : (enteredL l x).length = l.length := by unfold enteredL; simp
theorem enter_form (h : Hal) (l : List Int) (x : Int × Int) : firstOf [openH h l, if decide (0 ≤ x.1 ∧ x.1 ≤ (l.length : Int) - 1) && isStepB x.2 then 0 else 6] = enterE h l x := by
  rw [first2]
  unfold enterE
  by_cases h0 : openH h l = 0
  · rw [if_neg (not_not_intro h0), if_pos h0]
  · rw [if_pos h0, if_neg h0]
theorem enter_ok {h : Hal} {l : List Int} {x : Int × Int} (h0 : enterE h l x = 0) : openH h l = 0 ∧ (0 ≤ x.1 ∧ x.1 ≤ (l.length : Int) - 1) ∧ isStepB x.2 = true := by
  unfold enterE at h0
  split at h0
  · rename_i h1
    split at h0
    · rename_i h2
      rw [Bool.and_eq_true, decide_eq_true_iff] at h2
      exact ⟨h1, h2⟩
    · cases h0
  · rename_i h1; exact absurd h0 h1
end Go.Tr

/- Contracts of chapter 7: what the package's functions answer. Conditions: none. -/
namespace Go.Tr
open Go Go.Proofs
set_option maxRecDepth 20000
set_option maxHeartbeats 8000000

abbrev tnA (f : Int × Bool) (c : Int) : AV := .agg [i64 f.1, vb f.2, i64 c]
def mayB (p : Pln) (s : S2) (c : Int) : Bool := decide (c = -1) || (decide ((stp p s).wait = 0) && hasI (stp p s).exits c)
def turnE (p : Pln) (s : S2) (f : Int × Bool) (c : Int) : Int := if openE p s f = 0 then (if mayB p s c then 0 else 24) else openE p s f
def turnR (p : Pln) (s : S2) (f : Int × Bool) (c : Int) : AV :=
  if turnE p s f c ≠ 0 then .tuple [stA (0, 0), i64 0, i64 (turnE p s f c)] else .tuple [stA (turnF p f s c).1, i64 (turnF p f s c).2, i64 0]
def homeR (p : Pln) (s : S2) (f : Int × Bool) : AV :=
  if openE p s f ≠ 0 then .tuple [sts [], i64 0, i64 (openE p s f)] else match homeF p f s with | none => .tuple [sts [], i64 0, i64 12] | some x => .tuple [sts x.1, i64 x.2, i64 0]
def htR (p : Pln) (s : S2) (f : Int × Bool) : AV :=
  if openE p s f ≠ 0 then .tuple [stA (0, 0), i64 0, i64 (openE p s f)] else match homeTurnF p f s with | none => .tuple [stA (0, 0), i64 0, i64 21] | some x => .tuple [stA x.1, i64 x.2, i64 0]
def seenR (p : Pln) (s : S2) (f : Int × Bool) : AV := if openE p s f ≠ 0 then t2 0 (openE p s f) else t2 (seenB s.2 f) 0
theorem S16 (p : Pln) (hp : FewP p) (s : S2) (f : Int × Bool) : SP 16 [planA p, stA s, ftA f] (homeR p s f) false := by
  have h67 := S22 p hp s f
  unfold homeR
  by_cases h0 : openE p s f = 0
  · rw [if_neg (not_not_intro h0)]
    rw [h0] at h67
    obtain ⟨hg, hs, hf⟩ := open_ok hp h0
    have h79 := S32 p hg f s hs
    cases hx : homeF p f s with
    | none =>
      rw [hx] at h79
      refine sound (d := 2) tok2 mixed2 Tryd.func16 (by kernel_rfl) (by kernel_rfl) ?_
      conv => whnf
      refine .inl ⟨_, _, byX rfl (h67), ?_⟩
      conv => whnf
      refine .inl ⟨_, _, byX rfl (h79), ?_⟩
      conv => whnf
      refine .inl ⟨_, _, byX rfl (Sound1.pl (S24 _ _) rfl), ?_⟩
      conv => whnf
      refine ⟨?_, nofun⟩
      exact ave_tup3 ⟨rfl, rfl, fun _ _ => rfl⟩ rfl rfl
    | some x =>
      rw [hx] at h79
      refine sound (d := 2) tok2 mixed2 Tryd.func16 (by kernel_rfl) (by kernel_rfl) ?_
      conv => whnf
      refine .inl ⟨_, _, byX rfl (h67), ?_⟩
      conv => whnf
      refine .inl ⟨_, _, byX rfl (h79), ?_⟩
      conv => whnf
      refine .inl ⟨_, _, byX rfl (Sound1.pl (S24 _ _) rfl), ?_⟩
      conv => whnf
      refine ⟨?_, nofun⟩
      exact ave_tup3 ⟨rfl, rfl, fun _ _ => rfl⟩ rfl rfl
  · rw [if_pos h0]
    refine sound (d := 2) tok2 mixed2 Tryd.func16 (by kernel_rfl) (by kernel_rfl) ?_
    conv => whnf
    refine .inl ⟨_, _, byX rfl (h67), ?_⟩
    conv => whnf
    refine ifB_bne (fun w1 => ?_) (fun w1 => ?_)
    · conv => whnf
      refine ⟨?_, nofun⟩
      exact ave_tup3 rfl rfl rfl
    · (exfalso; omega)
theorem S18 (a b : List Int) (ha : a.length ≤ 1000000000) (hb : b.length ≤ 1000000000) : SP 18 [ints a, ints b] (vb (decide (a = b))) false := by
  refine sound (d := 2) tok2 mixed2 Tryd.func18 (by kernel_rfl) (by kernel_rfl) ?_
  conv => whnf
  refine ifB_bne (fun w1 => ?_) (fun w1 => ?_)
  · conv => whnf
    refine ⟨?_, nofun⟩
    show vb false = vb _
    rw [decide_eq_false]
    intro e; subst e; exact w1 rfl
  · have hab : a.length = b.length := by omega
    conv => whnf
    refine ⟨[], [0, 1, 5], fun st mq => ∃ (k : Nat), (k ≤ a.length) ∧ (∀ i, i < k → a.getD i 0 = b.getD i 0) ∧ st = ⟨[(0, ints a), (1, ints b), (5, i64 k)], ⟨[], [], none, 0⟩, []⟩ ∧ mq = a.length - k,
      ⟨_, _, ⟨0, by omega, fun i h => absurd h (Nat.not_lt_zero i), rfl, rfl⟩, ⟨⟨.inl rfl, rfl, rfl, rfl⟩, trivial, trivial⟩⟩, ?_⟩
    rintro s0 m0 ⟨k, hk, h1, rfl, hmeas⟩
    conv => whnf
    conv => whnf
    refine ifB_dec (fun w2 => ?_) (fun w2 => ?_)
    · conv => whnf
      conv => whnf
      refine ⟨[], by kernel_rfl, ?_⟩
      conv => whnf
      conv => whnf
      refine ⟨⟨(by omega), (by omega)⟩, ?_⟩
      conv => whnf
      conv => whnf
      refine ⟨⟨(by omega), (by omega)⟩, ?_⟩
      conv => whnf
      conv => whnf
      refine ifB_bne (fun w3 => ?_) (fun w3 => ?_)
      · conv => whnf
        conv => whnf
        refine ⟨?_, nofun⟩
        have e : ¬ a.getD k 0 = b.getD k 0 := w3
        show vb false = vb _
        rw [decide_eq_false]
        intro h; subst h; exact e rfl
      · conv => whnf
        conv => whnf
        refine ⟨inK64 (by omega) (by omega), ?_⟩
        have e : a.getD k 0 = b.getD k 0 := w3
        conv => whnf
        conv => whnf
        refine ⟨_, _, ⟨⟨k + 1, by omega, fun i hi => (by rcases Nat.lt_or_ge i k with h | h; exact h1 i h; rw [show i = k by omega]; exact e), rfl, rfl⟩, by omega⟩, ⟨⟨.inl rfl, rfl, rfl, rfl⟩, trivial, trivial⟩⟩
    · conv => whnf
      conv => whnf
      refine ⟨?_, nofun⟩
      have e : k = a.length := by omega
      subst e
      show vb true = vb _
      rw [decide_eq_true]
      apply List.ext_getElem hab
      intro i h2 h3
      have := h1 i h2
      simpa [List.getD_eq_getElem?_getD, h2, h3] using this
end Go.Tr

/- Contracts of chapter 7: the examples of the chapter. Conditions: none. -/
namespace Go.Tr
open Go Go.Proofs
set_option maxRecDepth 20000
set_option maxHeartbeats 8000000

def bS (l : List UInt8) : ByteArray := ⟨l.toArray⟩
def nOpen : ByteArray := bS [111, 112, 101, 110]
def nSpeed : ByteArray := bS [115, 112, 101, 101, 100]
def nRest : ByteArray := bS [114, 101, 115, 116]
def nStart : ByteArray := bS [115, 116, 97, 114, 116]
def nTurb : ByteArray := bS [116, 117, 114, 98, 105, 110, 101]
def nStop : ByteArray := bS [115, 116, 111, 112]
def nBrake : ByteArray := bS [98, 114, 97, 107, 101]
def plE : Pln := ⟨[nOpen, nSpeed], 0,
  [⟨nRest, true, 0, 0, 0, 1, [1], 0, 0, 0, 0, 0, 0, 0⟩,
   ⟨nStart, false, 0, 3, 60, 0, [], 3, 0, 3, 0, 30, 2, 3⟩,
   ⟨nTurb, false, 2, 3, 0, 3, [3], 0, 0, 0, 0, 0, 0, 0⟩,
   ⟨nStop, false, 0, 3, 40, 0, [], 0, 2, 0, 3, 20, 0, 4⟩,
   ⟨nBrake, false, 0, 4, 90, 0, [], 0, 1, 0, 3, 50, 0, 0⟩]⟩
def haE : Hal := ⟨2, [(2, 1, 0), (3, 0, 1)]⟩
/-- Lists equal in depth. -/
def AVL (n : Nat) (l l' : List AV) : Prop := l.length = l'.length ∧ ∀ j x y, nth? l j = some x → nth? l' j = some y → x = y ∨ AVF n x y
theorem AVL_nil (n : Nat) : AVL n [] [] := ⟨rfl, fun _ _ _ h => by cases h⟩
theorem AVL_cons {n : Nat} {x y : AV} {l l' : List AV} (h : x = y ∨ AVF n x y) (hl : AVL n l l') : AVL n (x :: l) (y :: l') := by
  refine ⟨congrArg (· + 1) hl.1, fun j a b ha hb => ?_⟩
  match j, ha, hb with
  | 0, ha, hb => cases ha; cases hb; exact h
  | j + 1, ha, hb => exact hl.2 j a b ha hb
theorem AVL_step {n : Nat} {a b c d e f x h i j k l m o : AV} {s : Stp} (hs : stpC s = [a, b, c, d, e, f, ints s.exits, h, i, j, k, l, m, o]) (hx : AVF n x (ints s.exits)) : AVL n [a, b, c, d, e, f, x, h, i, j, k, l, m, o] (stpC s) := by
  rw [hs]
  exact AVL_cons (.inl rfl) (AVL_cons (.inl rfl) (AVL_cons (.inl rfl) (AVL_cons (.inl rfl) (AVL_cons (.inl rfl) (AVL_cons (.inl rfl) (AVL_cons (.inr hx) (AVL_cons (.inl rfl) (AVL_cons (.inl rfl) (AVL_cons (.inl rfl) (AVL_cons (.inl rfl) (AVL_cons (.inl rfl) (AVL_cons (.inl rfl) (AVL_cons (.inl rfl) (AVL_nil n))))))))))))))
theorem ave_pl {a b c d : Nat} {f g : Nat → List AV} {v : Value} : AVE 5 (.agg [.rslice a b f, .val v, .rslice c d g]) (.agg [.rslice a b f, .val v, .rslice c d g]) := ave_agg3 ⟨rfl, rfl, fun _ _ => rfl⟩ rfl ⟨rfl, rfl, fun _ _ => rfl⟩
theorem S17 : SP 17 [] (planA plE) false := by
  have h : ∃ R, SP 17 [] R false ∧ AVF 5 R (planA plE) := by
    refine ⟨?R, ?h1, ?h2⟩
    case h1 =>
      refine sound (d := 2) tok2 mixed2 Tryd.func17 (by kernel_rfl) (by kernel_rfl) ?_
      conv => whnf
      refine ⟨?_, nofun⟩
      exact ave_pl
    case h2 =>
      refine AVL_cons (.inr ⟨rfl, rfl, fun i hi => ?_⟩) (AVL_cons (.inl rfl) (AVL_cons (.inr ⟨rfl, rfl, fun i hi => ?_⟩) (AVL_nil _)))
      · match i, hi with
        | 0, _ => exact AVL_cons (.inl rfl) (AVL_nil _)
        | 1, _ => exact AVL_cons (.inl rfl) (AVL_nil _)
      · match i, hi with
        | 0, _ => exact AVL_step rfl ⟨rfl, rfl, fun i hi => (by match i, hi with | 0, _ => exact AVL_cons (.inl rfl) (AVL_nil _))⟩
        | 1, _ => exact AVL_step rfl rfl
        | 2, _ => exact AVL_step rfl ⟨rfl, rfl, fun i hi => (by match i, hi with | 0, _ => exact AVL_cons (.inl rfl) (AVL_nil _))⟩
        | 3, _ => exact AVL_step rfl rfl
        | 4, _ => exact AVL_step rfl rfl
  obtain ⟨R, h1, h2⟩ := h
  exact h1.resD h2
theorem fewE : FewP plE := by
  refine ⟨by decide, by decide, fun i hi => ?_, fun i hi => ?_, fun i hi => ?_⟩
  · match i, hi with
    | 0, _ => decide
    | 1, _ => decide
  · match i, hi with
    | 0, _ => decide
    | 1, _ => decide
    | 2, _ => decide
    | 3, _ => decide
    | 4, _ => decide
  · match i, hi with
    | 0, _ => decide
    | 1, _ => decide
    | 2, _ => decide
    | 3, _ => decide
    | 4, _ => decide
theorem ex_turn : turnE plE (1, 0) noF (-1) = 0 ∧ turnF plE noF (1, 0) (-1) = ((2, 3), 30) := by decide +kernel
theorem ex_home : openE plE (2, 3) (1, true) = 0 ∧ (homeF plE (1, true) (2, 3)).map (fun x => (x.1.length, x.2)) = some (3, 91) := by decide +kernel
theorem ex_fast : fastE plE (0, 0) 2 = 0 ∧ bestW plE (0, 0) 2 11 = some ([1], 31) := by decide +kernel
theorem ex_hall : openH haE [2, 1] = 0 ∧ brokenF haE [2, 1] = some (0, 0) ∧ openH haE [0, 0] = 0 ∧ brokenF haE [0, 0] = none := by decide +kernel
theorem S18_1 (l : List Int) (hl : l.length ≤ 1000000) (a : Int) {f : Nat → List AV} (hf : f 0 = [i64 a]) : SP 18 [ints l, .rslice 1 1 f] (vb (decide (l = [a]))) false := by
  have key : ∀ i, i < 1 → f i = [i64 (([a] : List Int).getD i 0)] := fun i hi => by
    match i, hi with
    | 0, _ => exact hf
  refine (S18 l [a] (by omega) (by simp)).argsD rfl fun i y x hy hx => ?_
  match i, hy, hx with
  | 0, hy, hx => cases hy; cases hx; exact .inl rfl
  | 1, hy, hx => cases hy; cases hx; exact .inr ⟨1, AVF_rows rfl key 0⟩
end Go.Tr

/- Data of chapter 7 that the ends share. Conditions: none. -/
namespace Go.Tr
open Go Go.Proofs
abbrev entsA (L : List (Int × Int)) : AV := .rslice 2 L.length fun i => [i64 (L.getD i (0, 0)).1, i64 (L.getD i (0, 0)).2]
end Go.Tr

/- Contracts of chapter 7: few plans, copies. Conditions: none. -/
namespace Go.Tr
open Go Go.Proofs
set_option maxRecDepth 20000
set_option maxHeartbeats 8000000

def fewSt (s : Stp) : Bool := decide (s.name.size ≤ 30) && decide (s.exits.length ≤ 12)
def fewB (p : Pln) : Bool := decide (p.sig.length ≤ 7) && decide (p.steps.length ≤ 12) && (p.sig.all fun s => decide (s.size ≤ 30)) && p.steps.all fewSt
theorem FewP.of {p : Pln} (h : fewB p = true) : FewP p := by
  unfold fewB at h
  rw [Bool.and_eq_true, Bool.and_eq_true, Bool.and_eq_true, decide_eq_true_iff, decide_eq_true_iff, List.all_eq_true, List.all_eq_true] at h
  obtain ⟨⟨⟨h1, h2⟩, h3⟩, h4⟩ := h
  refine ⟨h1, h2, fun i hi => ?_, fun i hi => ?_, fun i hi => ?_⟩
  · have := h3 (p.sig.getD i ByteArray.empty) (by simp [List.getD_eq_getElem?_getD, hi])
    exact of_decide_eq_true this
  · have := h4 (p.steps.getD i stp0) (by simp [List.getD_eq_getElem?_getD, hi])
    unfold fewSt at this
    rw [Bool.and_eq_true, decide_eq_true_iff, decide_eq_true_iff] at this
    exact this.1
  · have := h4 (p.steps.getD i stp0) (by simp [List.getD_eq_getElem?_getD, hi])
    unfold fewSt at this
    rw [Bool.and_eq_true, decide_eq_true_iff, decide_eq_true_iff] at this
    exact this.2
theorem few_n1 {p : Pln} (h : ¬ p.sig.length ≤ 7) : fewB p = false := by
  unfold fewB
  rw [decide_eq_false h]; rfl
theorem few_n2 {p : Pln} (h : ¬ p.steps.length ≤ 12) : fewB p = false := by
  unfold fewB
  rw [decide_eq_false h, Bool.and_false]; rfl
theorem few_n3 {p : Pln} {k : Nat} (hk : k < p.sig.length) (h : ¬ (p.sig.getD k ByteArray.empty).size ≤ 30) : fewB p = false := by
  cases hf : fewB p with
  | false => rfl
  | true => exact absurd ((FewP.of hf).size k hk) h
theorem few_n4 {p : Pln} {k : Nat} (hk : k < p.steps.length) (h : ¬ ((p.steps.getD k stp0).name.size ≤ 30 ∧ (p.steps.getD k stp0).exits.length ≤ 12)) : fewB p = false := by
  cases hf : fewB p with
  | false => rfl
  | true => exact absurd ⟨(FewP.of hf).name k hk, (FewP.of hf).exits k hk⟩ h
theorem few_y {p : Pln} (h1 : p.sig.length ≤ 7) (h2 : p.steps.length ≤ 12) (h3 : ∀ i, i < p.sig.length → (p.sig.getD i ByteArray.empty).size ≤ 30) (h4 : ∀ i, i < p.steps.length → (p.steps.getD i stp0).name.size ≤ 30 ∧ (p.steps.getD i stp0).exits.length ≤ 12) : fewB p = true := by
  unfold fewB
  rw [decide_eq_true h1, decide_eq_true h2, Bool.true_and, Bool.true_and, Bool.and_eq_true, List.all_eq_true, List.all_eq_true]
  refine ⟨fun s hs => ?_, fun s hs => ?_⟩
  · obtain ⟨i, hi, rfl⟩ := List.getElem_of_mem hs
    have := h3 i hi
    exact decide_eq_true (by simpa [List.getD_eq_getElem?_getD, hi] using this)
  · obtain ⟨i, hi, rfl⟩ := List.getElem_of_mem hs
    have := h4 i hi
    unfold fewSt
    rw [Bool.and_eq_true, decide_eq_true_iff, decide_eq_true_iff]
    simpa [List.getD_eq_getElem?_getD, hi] using this
theorem S5 (p : Pln) (hl : p.sig.length ≤ 9223372036854775807 ∧ p.steps.length ≤ 9223372036854775807) : SP 5 [planA p] (vb (fewB p)) false := by
  refine sound (d := 2) tok2 mixed2 Tryd.func5 (by kernel_rfl) (by kernel_rfl) ?_
  conv => whnf
  refine ifB_dec (fun w1 => ?_) (fun w1 => ?_)
  · conv => whnf
    refine ⟨?_, nofun⟩
    exact endb (few_n1 (by omega)).symm
  · conv => whnf
    refine ifB_dec (fun w2 => ?_) (fun w2 => ?_)
    · conv => whnf
      refine ⟨?_, nofun⟩
      exact endb (few_n2 (by omega)).symm
    · conv => whnf
      refine ⟨[], [1, 3], fun st mq => ∃ (k : Nat), (k ≤ p.sig.length) ∧ (∀ i, i < k → (p.sig.getD i ByteArray.empty).size ≤ 30) ∧ st = ⟨[(1, .optr 0 0 0 0), (3, i64 k)], ⟨[⟨3, 1, fun _ => planC p, 0, false, true, true⟩], [], none, 0⟩, []⟩ ∧ mq = p.sig.length - k,
        ⟨_, _, ⟨0, by omega, fun i h => absurd h (Nat.not_lt_zero i), rfl, rfl⟩, ⟨⟨.inl rfl, rfl, rfl, rfl⟩, ⟨⟨rfl, rfl, rfl, rfl, fun _ => rfl, fun _ _ => .inl rfl⟩, trivial⟩, trivial⟩⟩, ?_⟩
      rintro s0 m0 ⟨k, hk, g3, rfl, hmeas⟩
      by_cases hlt : k < p.sig.length
      · conv => whnf
        conv => whnf
        refine ifB_dec (fun w3 => ?_) (fun w3 => ?_)
        · conv => whnf
          conv => whnf
          refine ⟨⟨(by omega), (by omega)⟩, ?_⟩
          conv => whnf
          conv => whnf
          refine ifB_dec (fun w4 => ?_) (fun w4 => ?_)
          · conv => whnf
            conv => whnf
            refine ⟨?_, nofun⟩
            exact endb (few_n3 hlt (by have w4 : ((p.sig.getD k ByteArray.empty).size : Int) > 30 := w4; omega)).symm
          · conv => whnf
            conv => whnf
            refine ⟨inK64 (by omega) (by omega), ?_⟩
            have w4 : ¬ ((p.sig.getD k ByteArray.empty).size : Int) > 30 := w4
            conv => whnf
            conv => whnf
            refine ⟨_, _, ⟨⟨k + 1, by omega, fun i hi => (by rcases Nat.lt_succ_iff_lt_or_eq.1 hi with h | h; exact g3 i h; rw [h]; omega), rfl, rfl⟩, by omega⟩, ⟨⟨.inl rfl, rfl, rfl, rfl⟩, ⟨⟨rfl, rfl, rfl, rfl, fun _ => rfl, fun _ _ => .inl rfl⟩, trivial⟩, trivial⟩⟩
        · (exfalso; omega)
      · have hks : k = p.sig.length := by omega
        subst hks
        conv => whnf
        conv => whnf
        refine ifB_dec (fun w3 => ?_) (fun w3 => ?_)
        · (exfalso; omega)
        · conv => whnf
          conv => whnf
          refine ⟨[], [1, 4], fun st mq => ∃ (k : Nat), (k ≤ p.steps.length) ∧ (∀ i, i < k → (p.steps.getD i stp0).name.size ≤ 30 ∧ (p.steps.getD i stp0).exits.length ≤ 12) ∧ st = ⟨[(1, .optr 0 0 0 0), (4, i64 k)], ⟨[⟨3, 1, fun _ => planC p, 0, false, true, true⟩], [], none, 0⟩, []⟩ ∧ mq = p.steps.length - k,
            ⟨_, _, ⟨0, by omega, fun i h => absurd h (Nat.not_lt_zero i), rfl, rfl⟩, ⟨⟨.inl rfl, rfl, rfl, rfl⟩, ⟨⟨rfl, rfl, rfl, rfl, fun _ => rfl, fun _ _ => .inl rfl⟩, trivial⟩, trivial⟩⟩, ?_⟩
          rintro s0 m0 ⟨k, hk2, g4, rfl, hmeas⟩
          by_cases hlt2 : k < p.steps.length
          · conv => whnf
            conv => whnf
            conv => whnf
            refine ifB_dec (fun w4 => ?_) (fun w4 => ?_)
            · conv => whnf
              conv => whnf
              conv => whnf
              refine ⟨⟨(by omega), (by omega)⟩, ?_⟩
              conv => whnf
              conv => whnf
              conv => whnf
              refine ifB_dec (fun w5 => ?_) (fun w5 => ?_)
              · conv => whnf
                conv => whnf
                conv => whnf
                refine ⟨?_, nofun⟩
                exact endb (few_n4 hlt2 (fun h => by have w5 : ((p.steps.getD k stp0).name.size : Int) > 30 := w5; omega)).symm
              · conv => whnf
                conv => whnf
                conv => whnf
                refine ⟨⟨(by omega), (by omega)⟩, ?_⟩
                conv => whnf
                conv => whnf
                conv => whnf
                refine ifB_dec (fun w6 => ?_) (fun w6 => ?_)
                · conv => whnf
                  conv => whnf
                  conv => whnf
                  refine ⟨?_, nofun⟩
                  exact endb (few_n4 hlt2 (fun h => by have w6 : ((p.steps.getD k stp0).exits.length : Int) > 12 := w6; omega)).symm
                · conv => whnf
                  conv => whnf
                  conv => whnf
                  refine ⟨inK64 (by omega) (by omega), ?_⟩
                  have w5 : ¬ ((p.steps.getD k stp0).name.size : Int) > 30 := w5
                  have w6 : ¬ ((p.steps.getD k stp0).exits.length : Int) > 12 := w6
                  conv => whnf
                  conv => whnf
                  conv => whnf
                  refine ⟨_, _, ⟨⟨k + 1, by omega, fun i hi => (by rcases Nat.lt_succ_iff_lt_or_eq.1 hi with h | h; exact g4 i h; rw [h]; omega), rfl, rfl⟩, by omega⟩, ⟨⟨.inl rfl, rfl, rfl, rfl⟩, ⟨⟨rfl, rfl, rfl, rfl, fun _ => rfl, fun _ _ => .inl rfl⟩, trivial⟩, trivial⟩⟩
            · (exfalso; omega)
          · have e2 : k = p.steps.length := by omega
            subst e2
            conv => whnf
            conv => whnf
            conv => whnf
            refine ifB_dec (fun w4 => ?_) (fun w4 => ?_)
            · (exfalso; omega)
            · conv => whnf
              conv => whnf
              conv => whnf
              refine ⟨?_, nofun⟩
              exact endb (few_y (by omega) (by omega) g3 g4).symm
theorem S14f (l : List Int) (hl : l.length ≤ 1000000) : SP 14 [ints l] (ints l) false := by
  refine sound (d := 2) tok2 mixed2 Tryd.func14 (by kernel_rfl) (by kernel_rfl) ?_
  conv => whnf
  refine ⟨⟨(by omega), (by show _ * (8 + 1) ≤ _; omega)⟩, ?_⟩
  conv => whnf
  refine ⟨?_, nofun⟩
  exact ⟨rfl, Nat.zero_add _, fun i hi => rfl⟩
theorem S28f (l : List ByteArray) (hl : l.length ≤ 1000000) : SP 28 [strs l] (strs l) false := by
  refine sound (d := 2) tok2 mixed2 Tryd.func28 (by kernel_rfl) (by kernel_rfl) ?_
  conv => whnf
  refine ⟨⟨(by omega), (by show _ * (16 + 1) ≤ _; omega)⟩, ?_⟩
  conv => whnf
  refine ⟨?_, nofun⟩
  exact ⟨rfl, Nat.zero_add _, fun i hi => rfl⟩
theorem steps_row {p : Pln} {k : Nat} (hk : k < p.steps.length) (i : Nat) (h : i < k + 1) : stpC (p.steps.getD i stp0) = if i < k then stpC (p.steps.getD (0 + i) stp0) else List.take 14 (List.drop ((i - k) * 14) (stpC (p.steps.getD k stp0))) := by
  rw [Nat.zero_add]
  by_cases hi : i < k
  · rw [if_pos hi]
  · have : i = k := by omega
    subst this
    rw [if_neg hi, Nat.sub_self]; rfl
theorem S11 (p : Pln) (hp : FewP p) : SP 11 [planA p] (planA p) false := by
  have h73 := S28f p.sig (by have := hp.sig; omega)
  have hst := hp.steps
  refine sound (d := 2) tok2 mixed2 Tryd.func11 (by kernel_rfl) (by kernel_rfl) ?_
  conv => whnf
  refine ⟨[], by kernel_rfl, ?_⟩
  conv => whnf
  refine .inl ⟨_, _, byX rfl (h73), ?_⟩
  conv => whnf
  refine ⟨[.cell 2 2 14], [1, 2, 3, 4], fun st mq => ∃ (k : Nat), (k ≤ p.steps.length) ∧ st = ⟨[(1, .optr 0 0 0 0), (2, .optr 1 0 0 0), (3, .optr 2 0 0 0), (4, i64 k)], ⟨[⟨3, 1, fun _ => planC p, 0, false, true, true⟩, ⟨3, 1, fun _ => [.eslice, i64 0, .eslice], 0, false, true, true⟩, ⟨3, 1, fun _ => [strs p.sig, i64 p.start, .oslice 3 0 0 k none], 0, false, false, true⟩, ⟨14, k, fun i => stpC (p.steps.getD i stp0), 0, false, true, false⟩], [], none, 0⟩, []⟩ ∧ mq = p.steps.length - k,
    ⟨_, _, ⟨0, by omega, rfl, rfl⟩, ⟨⟨.inl rfl, rfl, rfl, rfl⟩, ⟨⟨rfl, rfl, rfl, rfl, fun _ => rfl, fun _ _ => .inl rfl⟩, ⟨⟨rfl, rfl, rfl, rfl, fun _ => rfl, fun _ _ => .inl rfl⟩, ⟨⟨rfl, rfl, rfl, rfl, nofun, fun _ _ => .inl rfl⟩, ⟨⟨rfl, rfl, rfl, rfl, fun _ => rfl, fun i h => .inl (absurd h (Nat.not_lt_zero i))⟩, trivial⟩⟩⟩⟩, trivial⟩⟩, ?_⟩
  rintro s0 m0 ⟨k, hk, rfl, hmeas⟩
  by_cases hlt : k < p.steps.length
  · have h36 := S14f (p.steps.getD (k : Int).toNat stp0).exits (by have := hp.exits k hlt; show (p.steps.getD k stp0).exits.length ≤ _; omega)
    conv => whnf
    conv => whnf
    refine ifB_dec (fun w1 => ?_) (fun w1 => ?_)
    · conv => whnf
      conv => whnf
      refine ⟨⟨(by omega), (by omega)⟩, ?_⟩
      conv => whnf
      conv => whnf
      refine .inl ⟨_, _, byX rfl (h36), ?_⟩
      conv => whnf
      conv => whnf
      refine .inl ?_
      conv => whnf
      conv => whnf
      refine ⟨(by show _ * (136 + 1) ≤ _; omega), ?_⟩
      conv => whnf
      conv => whnf
      refine ⟨inK64 (by omega) (by omega), ?_⟩
      conv => whnf
      conv => whnf
      refine ⟨_, _, ⟨⟨k + 1, by omega, rfl, rfl⟩, by omega⟩, ⟨⟨.inl rfl, rfl, rfl, rfl⟩, ⟨⟨rfl, rfl, rfl, rfl, fun _ => rfl, fun _ _ => .inl rfl⟩, ⟨⟨rfl, rfl, rfl, rfl, fun _ => rfl, fun _ _ => .inl rfl⟩, ⟨⟨rfl, rfl, rfl, rfl, nofun, fun _ _ => .inl rfl⟩, ⟨⟨rfl, rfl, rfl, rfl, fun _ => rfl, fun i h => .inl (steps_row hlt i h)⟩, trivial⟩⟩⟩⟩, trivial⟩⟩
    · (exfalso; omega)
  · have e2 : k = p.steps.length := by omega
    subst e2
    conv => whnf
    conv => whnf
    refine ifB_dec (fun w1 => ?_) (fun w1 => ?_)
    · (exfalso; omega)
    · conv => whnf
      conv => whnf
      refine ⟨?_, nofun⟩
      exact ave_agg3 (k := 4) ⟨rfl, rfl, fun _ _ => rfl⟩ rfl ⟨rfl, rfl, fun _ _ => rfl⟩
end Go.Tr

/- The law SequenceHomes returns true. Conditions: none. -/
namespace Go.Tr
open Go Go.Proofs
set_option maxRecDepth 20000
set_option maxHeartbeats 8000000

theorem vEq_st (a b : Int) : vEqL [.int .i64 a, .int .i64 b] [.int .i64 a, .int .i64 b] = true := by
  simp [vEqL]
theorem open_same {p : Pln} {s s' : S2} {f : Int × Bool} (h : openE p s f = 0) (hs : OkS p s') : openE p s' f = 0 := by
  unfold openE at h ⊢
  split at h
  · rename_i h1
    rw [if_pos h1]
    rw [first2_iff] at h ⊢
    exact ⟨state_ok.2 hs, h.2⟩
  · rename_i h1; exact absurd h h1
section
variable {stop : S2 → Bool} {step : S2 → Option (S2 × Int)}
theorem goA_pre : ∀ (n : Nat) (s : S2) (l : List S2) (t : Int) (r : List S2 × Int), goA stop step n s l t = some r → (∃ m, r.1 = l ++ m) ∧ r.1.length ≤ l.length + n
  | 0, _, _, _, _, h => by cases h
  | n + 1, s, l, t, r, h => by
    unfold goA at h
    split at h
    · cases h; exact ⟨⟨[], by simp⟩, by show l.length ≤ _; omega⟩
    · cases hx : step s with
      | none => rw [hx] at h; cases h
      | some x =>
        rw [hx] at h
        obtain ⟨⟨m, h1⟩, h2⟩ := goA_pre n _ _ _ r h
        rw [List.length_append] at h2
        exact ⟨⟨x.1 :: m, by rw [h1]; simp⟩, by simp only [List.length_cons, List.length_nil] at h2; omega⟩
theorem goA_at {n : Nat} {s : S2} {L : List S2} {k : Nat} {t : Int} {T : Int} (hk : k ≤ L.length) (h : goA stop step n s (L.take k) t = some (L, T)) :
    (k = L.length → stop s = true ∧ t = T) ∧ (k < L.length → ∃ y m, n = m + 1 ∧ stop s = false ∧ step s = some y ∧ y.1 = L.getD k (0, 0) ∧ goA stop step m y.1 (L.take (k + 1)) (t + y.2) = some (L, T)) := by
  cases n with
  | zero => cases h
  | succ n =>
    unfold goA at h
    cases hs : stop s with
    | true =>
      rw [hs] at h
      injection h with h
      injection h with h1 h2
      have : k = L.length := by
        have := congrArg List.length h1
        rw [List.length_take] at this; omega
      exact ⟨fun _ => ⟨rfl, h2⟩, fun h => by omega⟩
    | false =>
      rw [hs] at h
      cases hx : step s with
      | none => rw [hx] at h; cases h
      | some y =>
        rw [hx] at h
        have h : goA stop step n y.1 (L.take k ++ [y.1]) (t + y.2) = some (L, T) := h
        obtain ⟨⟨m, h1⟩, _⟩ := goA_pre n _ _ _ _ h
        have h1 : L = L.take k ++ [y.1] ++ m := h1
        have hlt : k < L.length := by
          have := congrArg List.length h1
          simp only [List.length_append, List.length_take, List.length_cons, List.length_nil] at this
          omega
        have e : L.getD k (0, 0) = y.1 := by
          rw [h1, List.append_assoc, List.getD_eq_getElem?_getD, List.getElem?_append_right (by rw [List.length_take]; omega), List.length_take, Nat.min_eq_left hk, Nat.sub_self]; rfl
        refine ⟨fun h => by omega, fun _ => ⟨y, n, rfl, rfl, rfl, e.symm, ?_⟩⟩
        have e2 : L.take (k + 1) = L.take k ++ [y.1] := by
          rw [← e, List.getD_eq_getElem?_getD, List.getElem?_eq_getElem hlt]
          exact List.take_succ_eq_append_getElem hlt
        rw [e2]
        exact h
end
end Go.Tr

/- The law SequenceRuns returns true. Conditions: none. -/
namespace Go.Tr
open Go Go.Proofs
set_option maxRecDepth 20000
set_option maxHeartbeats 8000000

abbrev rnA (f : Int × Bool) (c : List Int) : AV := .agg [i64 f.1, vb f.2, ints c]
/-- Command after command. -/
def runG (p : Pln) (f : Int × Bool) : S2 → List Int → List S2 → Int → Int × List S2 × Int
  | _, [], L, T => (0, L, T)
  | s, c :: cs, L, T => if hasI (stp p s).exits c then (match commandF p f s c with | none => (12, [], 0) | some r => runG p f (lastOf r.1) cs (L ++ r.1) (T + r.2)) else (24, [], 0)
def runP (p : Pln) (s : S2) (f : Int × Bool) (cs : List Int) : Int × List S2 × Int :=
  if openE p s f ≠ 0 then (openE p s f, [], 0) else if (stp p s).wait ≠ 0 then (20, [], 0) else if cs.length > 10 then (8, [], 0) else runG p f s cs [] 0
def runT (x : Int × List S2 × Int) : AV := .tuple [sts x.2.1, i64 x.2.2, i64 x.1]
theorem run_head {p : Pln} {s : S2} {f : Int × Bool} {cs : List Int} (h0 : openE p s f = 0) :
    runP p s f cs = if firstOf [if decide ((stp p s).wait = 0) = true then 0 else 20, if decide ((cs.length : Int) ≤ 10) = true then 0 else 8] = 0 then runG p f s cs [] 0 else (firstOf [if decide ((stp p s).wait = 0) = true then 0 else 20, if decide ((cs.length : Int) ≤ 10) = true then 0 else 8], [], 0) := by
  unfold runP
  rw [if_neg (not_not_intro h0)]
  by_cases h1 : (stp p s).wait = 0
  · rw [if_neg (not_not_intro h1), decide_eq_true h1]
    by_cases h2 : cs.length > 10
    · rw [if_pos h2, decide_eq_false (by omega)]; rfl
    · rw [if_neg h2, decide_eq_true (by omega)]; rfl
  · rw [if_pos h1, decide_eq_false h1]; rfl
theorem run_go {s : Stp} {cs : List Int} (h : firstOf [if decide (s.wait = 0) = true then 0 else 20, if decide ((cs.length : Int) ≤ 10) = true then 0 else 8] = 0) : s.wait = 0 ∧ cs.length ≤ 10 := by
  by_cases h1 : s.wait = 0
  · rw [decide_eq_true h1] at h
    by_cases h2 : cs.length ≤ 10
    · exact ⟨h1, h2⟩
    · rw [decide_eq_false (by omega)] at h; cases h
  · rw [decide_eq_false h1] at h; cases h
theorem rows_app {l m : List S2} {n : Nat} (hn : l.length = n) (i : Nat) (h : i < n + m.length) : stC ((l ++ m).getD i (0, 0)) = if i < n then stC (l.getD (0 + i) (0, 0)) else stC (m.getD (i - n) (0, 0)) := by
  subst hn
  rw [Nat.zero_add]
  by_cases hi : i < l.length
  · rw [if_pos hi]; simp [List.getD_eq_getElem?_getD, hi, List.getElem?_append_left hi]
  · rw [if_neg hi]; simp [List.getD_eq_getElem?_getD, List.getElem?_append_right (Nat.le_of_not_lt hi)]
theorem last_row {l : List S2} (h : l ≠ []) : stC (lastOf l) = [i64 (l.getD ((l.length : Int) - 1).toNat (0, 0)).1, i64 (l.getD ((l.length : Int) - 1).toNat (0, 0)).2] := by
  have : 0 < l.length := List.length_pos_iff.2 h
  rw [show ((l.length : Int) - 1).toNat = l.length - 1 by omega, lastOf_get h]; rfl
theorem S12 (p : Pln) (hp : FewP p) (s0 : S2) (f : Int × Bool) (cs : List Int) (hcs : cs.length ≤ 1000000) : SP 12 [planA p, stA s0, rnA f cs] (runT (runP p s0 f cs)) false := by
  have h67 := S22 p hp s0 f
  by_cases h0 : openE p s0 f = 0
  · rw [h0] at h67
    obtain ⟨hg, hs0, hf⟩ := open_ok hp h0
    have hat0 := hs0.at
    have h70 := S25 (stp p s0)
    have hb27 : Tryd.prog.types[27].bytes = 16 := by kernel_rfl
    refine sound (d := 2) tok2 mixed2 Tryd.func12 (by kernel_rfl) (by kernel_rfl) ?_
    conv => whnf
    refine .inl ⟨_, _, byX rfl (h67), ?_⟩
    conv => whnf
    refine ⟨[], by kernel_rfl, ?_⟩
    conv => whnf
    refine ⟨⟨(by omega), (by omega)⟩, ?_⟩
    conv => whnf
    refine .inl ⟨_, _, byX rfl (Sound1.pl (h70) rfl), ?_⟩
    conv => whnf
    refine .inl ⟨_, _, byX rfl (Sound1.pl (S24 _ _) rfl), ?_⟩
    conv => whnf
    refine .inl ⟨_, _, byX rfl (Sound1.pl (S24 _ _) rfl), ?_⟩
    conv => whnf
    refine .inl ⟨_, _, byX rfl (Sound1.pl (S29_2 _ _ ⟨rfl, rfl⟩) rfl), ?_⟩
    conv => whnf
    refine ifB_bne (fun w1 => ?_) (fun w1 => ?_)
    · conv => whnf
      refine ⟨?_, nofun⟩
      rw [(run_head h0).trans (if_neg w1)]
      exact ave_tup3 rfl rfl rfl
    · have hR := (run_head h0).trans (if_pos w1)
      obtain ⟨hw0, hlen⟩ := run_go w1
      conv => whnf
      refine ⟨[.slot 11 2], [4, 5, 9, 11, 12, 48, 49, 50], fun st mq => ∃ (k : Nat) (s : S2) (L : List S2) (T : Int) (n : Nat) (F4 : Nat → List AV), (L.length = n) ∧ (k ≤ cs.length) ∧ (OkS p s) ∧ ((stp p s).wait = 0) ∧ (n ≤ 1000 * k) ∧ (0 ≤ T ∧ T ≤ 4000000 * (k : Int)) ∧ (runG p f s0 cs [] 0 = runG p f s (cs.drop k) L T) ∧ st = ⟨[(4, .optr 1 0 0 0), (5, .optr 2 0 0 0), (9, .optr 3 0 0 0), (11, .oslice 5 0 0 n none), (12, i64 T), (48, ints cs), (49, i64 cs.length), (50, i64 k)], ⟨[⟨3, 1, fun _ => planC p, 0, false, true, true⟩, ⟨2, 1, fun _ => stC s, 0, false, true, true⟩, ⟨3, 1, fun _ => [i64 f.1, vb f.2, ints cs], 0, false, true, true⟩, ⟨3, 1, fun _ => planC p, 0, false, true, true⟩, ⟨1, 2, F4, 0, false, true, false⟩, ⟨2, n, fun i => stC (L.getD i (0, 0)), 0, false, true, false⟩], [], none, 0⟩, []⟩ ∧ mq = cs.length - k,
        ⟨_, _, ⟨0, s0, [], 0, 0, _, rfl, by omega, hs0, hw0, by omega, by omega, rfl, rfl, rfl⟩, ⟨⟨.inl rfl, rfl, rfl, rfl⟩, ⟨⟨rfl, rfl, rfl, rfl, fun _ => rfl, fun _ _ => .inl rfl⟩, ⟨⟨rfl, rfl, rfl, rfl, fun _ => rfl, fun _ _ => .inl rfl⟩, ⟨⟨rfl, rfl, rfl, rfl, fun _ => rfl, fun _ _ => .inl rfl⟩, ⟨⟨rfl, rfl, rfl, rfl, fun _ => rfl, fun _ _ => .inl rfl⟩, ⟨⟨rfl, rfl, rfl, rfl, fun _ => rfl, fun _ _ => .inl rfl⟩, ⟨⟨rfl, rfl, rfl, rfl, fun _ => rfl, fun i h => .inl (absurd h (Nat.not_lt_zero i))⟩, trivial⟩⟩⟩⟩⟩⟩, trivial⟩⟩, ?_⟩
      rintro s0 m0 ⟨k, s, L, T, n, F4, hn, hk, hs, hw, hL, hT, hR1, rfl, hmeas⟩
      have hat := hs.at
      by_cases hlt : k < cs.length
      · have hR2 : runG p f s (cs.drop k) L T = if hasI (stp p s).exits (cs.getD k 0) then (match commandF p f s (cs.getD k 0) with | none => (12, [], 0) | some r => runG p f (lastOf r.1) (cs.drop (k + 1)) (L ++ r.1) (T + r.2)) else (24, [], 0) := by
          rw [List.drop_eq_getElem_cons hlt]
          rw [show cs.getD k 0 = cs[k] by simp [List.getD_eq_getElem?_getD, hlt]]
          rfl
        have h94 := S30 (stp p s).exits (by have := hp.exits _ hs.k; show (p.steps.getD s.1.toNat stp0).exits.length ≤ _; omega) (cs.getD k 0)
        cases hh : hasI (stp p s).exits (cs.getD k 0) with
        | false =>
          rw [hh] at h94 hR2
          conv => whnf
          conv => whnf
          refine ifB_dec (fun w2 => ?_) (fun w2 => ?_)
          · conv => whnf
            conv => whnf
            refine ⟨⟨(by omega), (by omega)⟩, ?_⟩
            conv => whnf
            conv => whnf
            refine ⟨⟨(by omega), (by omega)⟩, ?_⟩
            conv => whnf
            conv => whnf
            refine .inl ⟨_, _, byX rfl (Sound1.pl (h94) rfl), ?_⟩
            conv => whnf
            conv => whnf
            refine ⟨?_, nofun⟩
            rw [hR, hR1, hR2]
            exact ave_tup3 rfl rfl rfl
          · (exfalso; omega)
        | true =>
          rw [hh] at h94 hR2
          have hOC : OkC p (cs.getD k 0) := .inr (exit_ok hg hs hw hh)
          have h95 := S31 p hg f s (cs.getD k 0) hs hOC
          cases hx : commandF p f s (cs.getD k 0) with
          | none =>
            rw [hx] at h95 hR2
            conv => whnf
            conv => whnf
            refine ifB_dec (fun w2 => ?_) (fun w2 => ?_)
            · conv => whnf
              conv => whnf
              refine ⟨⟨(by omega), (by omega)⟩, ?_⟩
              conv => whnf
              conv => whnf
              refine ⟨⟨(by omega), (by omega)⟩, ?_⟩
              conv => whnf
              conv => whnf
              refine .inl ⟨_, _, byX rfl (Sound1.pl (h94) rfl), ?_⟩
              conv => whnf
              conv => whnf
              refine .inl ⟨_, _, byX rfl (h95), ?_⟩
              conv => whnf
              conv => whnf
              refine ⟨?_, nofun⟩
              rw [hR, hR1, hR2]
              exact ave_tup3 rfl rfl rfl
            · (exfalso; omega)
          | some r =>
            rw [hx] at h95 hR2
            have hok := command_ok hg hs hOC hx
            have q1 := hok.t1
            have q2 := hok.t2
            have q3 := hok.len
            have q4 : 0 < r.1.length := List.length_pos_iff.2 hok.ne
            conv => whnf
            conv => whnf
            refine ifB_dec (fun w2 => ?_) (fun w2 => ?_)
            · conv => whnf
              conv => whnf
              refine ⟨⟨(by omega), (by omega)⟩, ?_⟩
              conv => whnf
              conv => whnf
              refine ⟨⟨(by omega), (by omega)⟩, ?_⟩
              conv => whnf
              conv => whnf
              refine .inl ⟨_, _, byX rfl (Sound1.pl (h94) rfl), ?_⟩
              conv => whnf
              conv => whnf
              refine .inl ⟨_, _, byX rfl (h95), ?_⟩
              conv => whnf
              conv => whnf
              refine .inl ?_
              conv => whnf
              conv => whnf
              refine ⟨(by show _ * (16 + 1) ≤ _; omega), ?_⟩
              conv => whnf
              conv => whnf
              refine ⟨inK64 (by omega) (by omega), ?_⟩
              conv => whnf
              conv => whnf
              refine ⟨inK64 (by omega) (by omega), ?_⟩
              conv => whnf
              conv => whnf
              refine ⟨⟨(by omega), (by omega)⟩, ?_⟩
              conv => whnf
              conv => whnf
              refine ⟨inK64 (by omega) (by omega), ?_⟩
              conv => whnf
              conv => whnf
              refine ⟨_, _, ⟨⟨k + 1, lastOf r.1, L ++ r.1, T + r.2, n + r.1.length, _, (by rw [List.length_append, hn]), by omega, hok.ok, hok.steady, by omega, by omega, hR1.trans hR2, rfl, rfl⟩, by omega⟩, ⟨⟨.inl rfl, rfl, rfl, rfl⟩, ⟨⟨rfl, rfl, rfl, rfl, fun _ => rfl, fun _ _ => .inl rfl⟩, ⟨⟨rfl, rfl, rfl, rfl, fun _ => rfl, fun i h => .inl (last_row hok.ne)⟩, ⟨⟨rfl, rfl, rfl, rfl, fun _ => rfl, fun _ _ => .inl rfl⟩, ⟨⟨rfl, rfl, rfl, rfl, fun _ => rfl, fun _ _ => .inl rfl⟩, ⟨⟨rfl, rfl, rfl, rfl, fun _ => rfl, fun _ _ => .inl rfl⟩, ⟨⟨rfl, rfl, rfl, rfl, fun _ => rfl, fun i h => .inl (rows_app hn i h)⟩, trivial⟩⟩⟩⟩⟩⟩, trivial⟩⟩
            · (exfalso; omega)
      · conv => whnf
        conv => whnf
        refine ifB_dec (fun w2 => ?_) (fun w2 => ?_)
        · (exfalso; omega)
        · conv => whnf
          conv => whnf
          refine ⟨?_, nofun⟩
          rw [hR, hR1, List.drop_eq_nil_of_le (by omega)]
          exact ave_tup3 ⟨rfl, hn.symm, fun _ _ => rfl⟩ rfl rfl
  · refine sound (d := 2) tok2 mixed2 Tryd.func12 (by kernel_rfl) (by kernel_rfl) ?_
    conv => whnf
    refine .inl ⟨_, _, byX rfl (h67), ?_⟩
    conv => whnf
    refine ifB_beq (fun w1 => ?_) (fun w1 => ?_)
    · (exfalso; omega)
    · conv => whnf
      refine ifB_bne (fun w2 => ?_) (fun w2 => ?_)
      · conv => whnf
        refine ⟨?_, nofun⟩
        unfold runP
        rw [if_pos h0]
        exact ave_tup3 rfl rfl rfl
      · (exfalso; omega)
theorem runG_len {p : Pln} (hg : Good p) (f : Int × Bool) : ∀ (cs : List Int) (s : S2) (L : List S2) (T : Int), OkS p s → (stp p s).wait = 0 → (runG p f s cs L T).2.1.length ≤ L.length + 1000 * cs.length
  | [], s, L, T, _, _ => by show L.length ≤ _; omega
  | c :: cs, s, L, T, hs, hw => by
    unfold runG
    split
    · rename_i hh
      have hOC : OkC p c := .inr (exit_ok hg hs hw hh)
      cases hx : commandF p f s c with
      | none => show 0 ≤ _; omega
      | some r =>
        have hok := command_ok hg hs hOC hx
        have := runG_len hg f cs (lastOf r.1) (L ++ r.1) (T + r.2) hok.ok hok.steady
        rw [List.length_append] at this
        have h3 := hok.len
        show (runG p f (lastOf r.1) cs (L ++ r.1) (T + r.2)).2.1.length ≤ _
        rw [List.length_cons]
        omega
    · show 0 ≤ _; omega
theorem runP_len {p : Pln} (hg : Good p) {s : S2} {f : Int × Bool} {cs : List Int} (hs : OkS p s) : (runP p s f cs).2.1.length ≤ 10000 := by
  unfold runP
  split
  · show 0 ≤ _; omega
  split
  · show 0 ≤ _; omega
  split
  · show 0 ≤ _; omega
  · rename_i h1 h2 h3
    have := runG_len hg f cs s [] 0 hs (Decidable.of_not_not h2)
    simp only [List.length_nil] at this
    omega
end Go.Tr

/- The law SequenceNoFaster returns true. Conditions: none. -/
namespace Go.Tr
open Go Go.Proofs
set_option maxRecDepth 20000
set_option maxHeartbeats 8000000

/-- Commands, where they lead to, and how long they take. -/
inductive Leads (p : Pln) (s0 : S2) : List Int → S2 → Int → Prop where
  | nil : Leads p s0 [] s0 0
  | snoc {cs : List Int} {s : S2} {t c : Int} {r : List S2 × Int} (h : Leads p s0 cs s t) (hc : hasI (stp p s).exits c = true) (hr : commandF p noF s c = some r) : Leads p s0 (cs ++ [c]) (lastOf r.1) (t + r.2)
theorem Leads.ok {p : Pln} (hg : Good p) {s0 : S2} (hs : OkS p s0) (hw : (stp p s0).wait = 0) {cs : List Int} {s : S2} {t : Int} (h : Leads p s0 cs s t) : OkS p s ∧ (stp p s).wait = 0 := by
  induction h with
  | nil => exact ⟨hs, hw⟩
  | snoc _ hc hr ih =>
    have := command_ok hg ih.1 (.inr (exit_ok hg ih.1 ih.2 hc)) hr
    exact ⟨this.ok, this.steady⟩
abbrev lastOr (s0 : S2) (L : List S2) : S2 := L.getLastD s0
theorem lastOr_app {s0 : S2} {L m : List S2} (h : m ≠ []) : lastOr s0 (L ++ m) = lastOf m := by
  cases m with
  | nil => exact absurd rfl h
  | cons a r => simp [lastOr, lastOf, List.getLastD_eq_getLast?, List.getLast?_append, List.getLast?_cons]
theorem leads_of_run {p : Pln} (hg : Good p) {s0 : S2} (hs : OkS p s0) (hw : (stp p s0).wait = 0) : ∀ (cs pre : List Int) (s : S2) (L : List S2) (t : Int) (L' : List S2) (t' : Int), Leads p s0 pre s t → lastOr s0 L = s → runG p noF s cs L t = (0, L', t') → Leads p s0 (pre ++ cs) (lastOr s0 L') t'
  | [], pre, s, L, t, L', t', h1, h2, h3 => by
    unfold runG at h3
    injection h3 with _ h3
    injection h3 with h3 h4
    rw [← h3, ← h4, h2, List.append_nil]; exact h1
  | c :: cs, pre, s, L, t, L', t', h1, h2, h3 => by
    unfold runG at h3
    split at h3
    · rename_i hc
      have hok := h1.ok hg hs hw
      cases hr : commandF p noF s c with
      | none => rw [hr] at h3; injection h3 with h3; cases h3
      | some r =>
        rw [hr] at h3
        have hcm := command_ok hg hok.1 (.inr (exit_ok hg hok.1 hok.2 hc)) hr
        have := leads_of_run hg hs hw cs (pre ++ [c]) (lastOf r.1) (L ++ r.1) (t + r.2) L' t' (.snoc h1 hc hr) (lastOr_app hcm.ne) h3
        rwa [List.append_assoc] at this
    · injection h3 with h3; cases h3
theorem run_of_leads {p : Pln} (hg : Good p) {s0 : S2} (hs : OkS p s0) (hw : (stp p s0).wait = 0) {cs : List Int} {s : S2} {t : Int} (h : Leads p s0 cs s t) : ∃ L, (∀ rest, runG p noF s0 (cs ++ rest) [] 0 = runG p noF s rest L t) ∧ lastOr s0 L = s ∧ (L = [] ↔ cs = []) := by
  induction h with
  | nil => exact ⟨[], fun _ => rfl, rfl, ⟨fun _ => rfl, fun _ => rfl⟩⟩
  | @snoc cs s t c r h hc hr ih =>
    obtain ⟨L, h1, h2, h3⟩ := ih
    have hok := h.ok hg hs hw
    have hcm := command_ok hg hok.1 (.inr (exit_ok hg hok.1 hok.2 hc)) hr
    refine ⟨L ++ r.1, fun rest => ?_, lastOr_app hcm.ne, ⟨fun e => absurd (List.append_eq_nil_iff.1 e).2 hcm.ne, fun e => by simp at e⟩⟩
    rw [List.append_assoc, h1]
    show runG p noF s (c :: rest) L t = _
    conv => lhs; unfold runG
    rw [if_pos hc, hr]
theorem leads_of_layer {p : Pln} {s0 : S2} : ∀ (k : Nat) (e : Ent), e ∈ layer p s0 k → Leads p s0 e.2.1 e.1 e.2.2
  | 0, e, he => by
    rw [show e = (s0, ([], 0)) from List.mem_singleton.1 he]
    exact .nil
  | k + 1, e, he => by
    obtain ⟨x, hx, he⟩ := List.mem_flatMap.1 he
    obtain ⟨c, hc, he⟩ := List.mem_filterMap.1 he
    have ih := leads_of_layer k x (norm_mem hx)
    unfold stepWay at he
    cases hr : commandF p noF x.1 c with
    | none => rw [hr] at he; cases he
    | some r =>
      rw [hr] at he
      cases he
      exact .snoc ih (hasI_mem.2 hc) hr
theorem min_time {l : List Way} {w v : Way} (h : minL l = some w) (hv : v ∈ l) : w.2 ≤ v.2 := by
  have := (minL_some.1 h).2 v hv
  rcases wlt_total w v with h1 | h1 | h1
  · exact wlt_time h1
  · rw [h1]; exact Int.le_refl _
  · rw [this] at h1; cases h1
theorem min_some {l : List Way} {v : Way} (hv : v ∈ l) : ∃ w, minL l = some w ∧ w.2 ≤ v.2 := by
  cases h : minL l with
  | none => rw [minL_none] at h; rw [h] at hv; cases hv
  | some w => exact ⟨w, rfl, min_time h hv⟩
theorem layer_of_leads {p : Pln} {s0 : S2} {cs : List Int} {s : S2} {t : Int} (h : Leads p s0 cs s t) : ∃ w, least (layer p s0 cs.length) s = some w ∧ w.2 ≤ t := by
  induction h with
  | nil => exact min_some (mem_waysTo.2 (List.mem_singleton.2 rfl))
  | @snoc cs s t c r h hc hr ih =>
    obtain ⟨w, h1, h2⟩ := ih
    rw [List.length_append]
    have hm : (lastOf r.1, (w.1 ++ [c], w.2 + r.2)) ∈ layer p s0 (cs.length + 1) := by
      refine List.mem_flatMap.2 ⟨(s, w), mem_norm.2 h1, List.mem_filterMap.2 ⟨c, hasI_mem.1 hc, ?_⟩⟩
      unfold stepWay
      rw [hr]
    obtain ⟨v, h3, h4⟩ := min_some (mem_waysTo.2 hm)
    exact ⟨v, h3, Int.le_trans h4 (by show w.2 + r.2 ≤ _; omega)⟩
theorem here_of_leads {p : Pln} {s0 : S2} {to : Int} {cs : List Int} {s : S2} {t : Int} (h : Leads p s0 cs s t) (hs : s.1 = to) : ∃ w, hereW p s0 to cs.length = some w ∧ w.2 ≤ t := by
  obtain ⟨w, h1, h2⟩ := layer_of_leads h
  obtain ⟨v, h3, h4⟩ := min_some (l := toW to (norm (layer p s0 cs.length))) (v := w) (List.mem_map.2 ⟨(s, w), List.mem_filter.2 ⟨mem_norm.2 h1, by simp [hs]⟩, rfl⟩)
  exact ⟨v, h3, Int.le_trans h4 h2⟩
theorem best_le {p : Pln} {s0 : S2} {to : Int} {k : Nat} {h : Way} (hh : hereW p s0 to k = some h) : ∀ n, k < n → ∃ b, bestW p s0 to n = some b ∧ b.2 ≤ h.2
  | 0, hk => by omega
  | n + 1, hk => by
    show ∃ b, upB (bestW p s0 to n) (hereW p s0 to n) = some b ∧ _
    rcases Nat.lt_succ_iff_lt_or_eq.1 hk with hk | hk
    · obtain ⟨b, h1, h2⟩ := best_le hh n hk
      rw [h1]
      cases h3 : hereW p s0 to n with
      | none => exact ⟨b, rfl, h2⟩
      | some x =>
        show ∃ b_1, (if x.2 < b.2 then some x else some b) = some b_1 ∧ _
        split
        · rename_i h4; exact ⟨x, rfl, by omega⟩
        · exact ⟨b, rfl, h2⟩
    · rw [← hk, hh]
      cases h1 : bestW p s0 to k with
      | none => exact ⟨h, rfl, Int.le_refl _⟩
      | some b =>
        show ∃ b_1, (if h.2 < b.2 then some h else some b) = some b_1 ∧ _
        split
        · exact ⟨h, rfl, Int.le_refl _⟩
        · rename_i h4; exact ⟨b, rfl, by omega⟩
theorem best_here {p : Pln} {s0 : S2} {to : Int} : ∀ n b, bestW p s0 to n = some b → ∃ k, k < n ∧ hereW p s0 to k = some b
  | 0, b, h => by cases h
  | n + 1, b, h => by
    have h : upB (bestW p s0 to n) (hereW p s0 to n) = some b := h
    have key : bestW p s0 to n = some b ∨ hereW p s0 to n = some b := by
      cases h1 : hereW p s0 to n with
      | none => rw [h1] at h; exact .inl h
      | some x =>
        rw [h1] at h
        cases h2 : bestW p s0 to n with
        | none => rw [h2] at h; exact .inr h
        | some y =>
          rw [h2] at h
          have h : (if x.2 < y.2 then some x else some y) = some b := h
          split at h
          · exact .inr h
          · exact .inl h
    rcases key with h1 | h1
    · obtain ⟨k, h2, h3⟩ := best_here n b h1
      exact ⟨k, by omega, h3⟩
    · exact ⟨n, by omega, h1⟩
theorem best_leads {p : Pln} (hg : Good p) {s0 : S2} (hs : OkS p s0) (hw : (stp p s0).wait = 0) {to : Int} {n : Nat} {b : Way} (h : bestW p s0 to n = some b) : ∃ s, s.1 = to ∧ Leads p s0 b.1 s b.2 ∧ b.1.length < n := by
  obtain ⟨k, h1, h2⟩ := best_here n b h
  obtain ⟨e, h3, h4⟩ := List.mem_map.1 (minL_some.1 h2).1
  obtain ⟨h5, h6⟩ := List.mem_filter.1 h3
  have h7 := leads_of_layer k e (norm_mem h5)
  have h8 := (layer_ok hg hs hw k e (norm_mem h5)).2.2.1
  rw [h4] at h7 h8
  exact ⟨e.1, by simpa using h6, h7, by omega⟩
theorem S7 (p : Pln) (hl : p.sig.length ≤ 9223372036854775807 ∧ p.steps.length ≤ 9223372036854775807) : SP 7 [planA p] (vb (decide (p.sig.length ≤ 3) && decide (p.steps.length ≤ 6))) false := by
  refine sound (d := 2) tok2 mixed2 Tryd.func7 (by kernel_rfl) (by kernel_rfl) ?_
  conv => whnf
  refine ifB_dec (fun w1 => ?_) (fun w1 => ?_)
  · conv => whnf
    refine ⟨?_, nofun⟩
    refine endb ?_
    rw [decide_eq_true (show p.sig.length ≤ 3 by omega), Bool.true_and]
    exact decide_eq_decide.2 (by omega)
  · conv => whnf
    refine ⟨?_, nofun⟩
    refine endb ?_
    rw [decide_eq_false (show ¬ p.sig.length ≤ 3 by omega), Bool.false_and]
theorem last_pos (s0 : S2) {L : List S2} (h : (L.length : Int) > 0) : L.getD ((L.length : Int) - 1).toNat (0, 0) = lastOr s0 L := by
  cases L with
  | nil => exact absurd h (by decide)
  | cons a r =>
    rw [show (((a :: r).length : Int) - 1).toNat = r.length by simp]
    simp [lastOr, List.getD_eq_getElem?_getD, List.getLastD_eq_getLast?, List.getLast?_eq_getElem?]
theorem last_zero (s0 : S2) {L : List S2} (h : ¬ (L.length : Int) > 0) : s0 = lastOr s0 L := by
  cases L with
  | nil => rfl
  | cons a r => exact absurd (show ((a :: r).length : Int) > 0 by rw [List.length_cons]; omega) h
theorem run_leads {p : Pln} (hg : Good p) {s : S2} (hs : OkS p s) (hw : (stp p s).wait = 0) (h0 : openE p s noF = 0) {cs : List Int} (hc : cs.length ≤ 10) (h : (runP p s noF cs).1 = 0) : Leads p s cs (lastOr s (runP p s noF cs).2.1) (runP p s noF cs).2.2 := by
  have e : runP p s noF cs = runG p noF s cs [] 0 := by
    unfold runP
    rw [if_neg (not_not_intro h0), if_neg (not_not_intro hw), if_neg (by omega)]
  rw [e] at h ⊢
  exact leads_of_run hg hs hw cs [] s [] 0 _ _ .nil rfl (Prod.ext h rfl)
theorem leads_run {p : Pln} (hg : Good p) {s s' : S2} {t : Int} (hs : OkS p s) (hw : (stp p s).wait = 0) (h0 : openE p s noF = 0) {cs : List Int} (hc : cs.length ≤ 10) (h : Leads p s cs s' t) : ∃ L, runP p s noF cs = (0, L, t) ∧ lastOr s L = s' ∧ (L = [] ↔ cs = []) := by
  obtain ⟨L, h1, h2, h3⟩ := run_of_leads hg hs hw h
  refine ⟨L, ?_, h2, h3⟩
  have := h1 []
  rw [List.append_nil] at this
  unfold runP
  rw [if_neg (not_not_intro h0), if_neg (not_not_intro hw), if_neg (by omega), this]
  unfold runG; rfl
end Go.Tr

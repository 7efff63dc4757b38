/- Contracts of chapter 7: which ranks are a proof, the package; the law SequenceProofs. Conditions: none. -/
import Derived.Test.YtflgajlngiojbaaDoorTr10
import Derived.Test.YtflgajlngiojbaaDoorTr06
import Derived.ProofKit
set_option linter.unusedSectionVars false
set_option linter.unnecessarySimpa false
set_option linter.unusedVariables false
set_option linter.unusedSimpArgs false

namespace Go.Tr
open Go Go.Proofs
set_option maxRecDepth 20000
set_option maxHeartbeats 8000000

/-! ### Places as keys -/

abbrev kkP : KK := .agg [.int .i64, .int .i64, .int .i64, .bool]
def dInt : List Value → Option (Int × List Value)
  | .int _ a :: r => some (a, r)
  | _ => none
def dBool : List Value → Option (Bool × List Value)
  | .bool a :: r => some (a, r)
  | _ => none
theorem vI (L M : List Value) (a : Int) : vEqL L (.int .i64 a :: M) = match dInt L with | some x => x.1 == a && vEqL x.2 M | none => false := by
  cases L with
  | nil => rfl
  | cons x r => cases x <;> rfl
theorem vB (L M : List Value) (a : Bool) : vEqL L (.bool a :: M) = match dBool L with | some x => x.1 == a && vEqL x.2 M | none => false := by
  cases L with
  | nil => rfl
  | cons x r => cases x <;> rfl
theorem vN (L : List Value) : vEqL L [] = L.isEmpty := by
  cases L with
  | nil => rfl
  | cons x r => cases x <;> rfl
def decQ (L : List Value) : Option Plc :=
  match dInt L with
  | none => none
  | some a => match dInt a.2 with
    | none => none
    | some b => match dInt b.2 with
      | none => none
      | some c => match dBool c.2 with
        | none => none
        | some d => if d.2.isEmpty then some ((a.1, b.1), (c.1, d.1)) else none
def decP : Value → Option Plc
  | .agg l => decQ l.toList
  | _ => none
def hasP (B : Plc → Bool) (v : Value) : Bool := match decP v with | some x => B x | none => false
def getP (G : Plc → Int) (v : Value) : AV := i64 (match decP v with | some x => G x | none => 0)
def keyP (q : Plc) : Value := .agg #[.int .i64 q.1.1, .int .i64 q.1.2, .int .i64 q.2.1, .bool q.2.2]
theorem keyQ (L : List Value) (q : Plc) : vEqL L [.int .i64 q.1.1, .int .i64 q.1.2, .int .i64 q.2.1, .bool q.2.2] = match decQ L with | some x => decide (x = q) | none => false := by
  unfold decQ
  rw [vI]
  cases dInt L with
  | none => rfl
  | some a =>
    show (a.1 == q.1.1 && vEqL a.2 _) = _
    rw [vI]
    cases h2 : dInt a.2 with
    | none => simp [h2]
    | some b =>
      show (a.1 == q.1.1 && (b.1 == q.1.2 && vEqL b.2 _)) = _
      rw [vI]
      cases h3 : dInt b.2 with
      | none => simp [h2, h3]
      | some c =>
        show (a.1 == q.1.1 && (b.1 == q.1.2 && (c.1 == q.2.1 && vEqL c.2 _))) = _
        rw [vB]
        cases h4 : dBool c.2 with
        | none => simp [h2, h3, h4]
        | some d =>
          show (a.1 == q.1.1 && (b.1 == q.1.2 && (c.1 == q.2.1 && (d.1 == q.2.2 && vEqL d.2 [])))) = _
          rw [vN]
          simp only [h2, h3, h4]
          cases d.2.isEmpty with
          | true =>
            rw [Bool.eq_iff_iff]
            simp [Prod.ext_iff, and_assoc]
          | false => simp
theorem keyPD (v : Value) (q : Plc) : opEv.keyEq v (keyP q) = hasP (fun x => decide (x = q)) v := by
  cases v with
  | agg l => exact keyQ l.toList q
  | _ => rfl
def hasK (l : List Rnk) (k : Nat) (q : Plc) : Bool := (findN l q k).isSome
def lookK (l : List Rnk) (k : Nat) (q : Plc) : Int := match findN l q k with | some i => (l.getD i rk0).2 | none => 0
abbrev pmA (l : List Rnk) (k : Nat) : AV := .rmap kkP 3 (hasP (hasK l k)) (getP (lookK l k))
theorem firstN_succ {P : Nat → Bool} : ∀ (n i : Nat), firstN P (n + 1) i = match firstN P n i with | some j => some j | none => if P (i + n) then some (i + n) else none
  | 0, i => by unfold firstN; rfl
  | n + 1, i => by
    conv => lhs; unfold firstN
    conv => rhs; unfold firstN
    by_cases h : P i = true
    · rw [if_pos h, if_pos h]
    · rw [if_neg h, if_neg h, firstN_succ n (i + 1), show i + 1 + n = i + (n + 1) by omega]
theorem findN_succ (l : List Rnk) (q : Plc) (k : Nat) : findN l q (k + 1) = match findN l q k with | some j => some j | none => if atP l q k then some k else none := by
  unfold findN
  rw [firstN_succ, Nat.zero_add]
theorem hasP_put (l : List Rnk) (k : Nat) (v : Value) : Bool.or (hasP (hasK l k) v) (opEv.keyEq v (keyP (l.getD k rk0).1)) = hasP (hasK l (k + 1)) v := by
  rw [keyPD]
  unfold hasP
  cases decP v with
  | none => rfl
  | some x =>
    show (hasK l k x || decide (x = (l.getD k rk0).1)) = hasK l (k + 1) x
    unfold hasK
    rw [findN_succ]
    cases findN l x k with
    | some j => rfl
    | none =>
      show decide _ = _
      unfold atP
      by_cases h : (l.getD k rk0).1 = x
      · rw [if_pos (decide_eq_true h), decide_eq_true h.symm]; rfl
      · rw [if_neg (by rw [decide_eq_false h]; nofun), decide_eq_false (fun e => h e.symm)]; rfl
theorem getP_put (l : List Rnk) (k : Nat) (hn : hasK l k (l.getD k rk0).1 = false) (v : Value) : (bif opEv.keyEq v (keyP (l.getD k rk0).1) then i64 (l.getD k rk0).2 else getP (lookK l k) v) = getP (lookK l (k + 1)) v := by
  rw [keyPD]
  unfold hasP getP
  cases decP v with
  | none => rfl
  | some x =>
    show (bif decide (x = (l.getD k rk0).1) then i64 (l.getD k rk0).2 else i64 (lookK l k x)) = i64 (lookK l (k + 1) x)
    unfold lookK
    rw [findN_succ]
    by_cases h : (l.getD k rk0).1 = x
    · subst h
      rw [decide_eq_true rfl]
      cases hf : findN l (l.getD k rk0).1 k with
      | some j => unfold hasK at hn; rw [hf] at hn; cases hn
      | none =>
        show _ = i64 (match (if atP l (l.getD k rk0).1 k = true then some k else none) with | some i => (l.getD i rk0).2 | none => 0)
        rw [if_pos (show atP l (l.getD k rk0).1 k = true from decide_eq_true rfl)]; rfl
    · rw [decide_eq_false (fun e => h e.symm)]
      cases findN l x k with
      | some j => rfl
      | none =>
        show _ = i64 (match (if atP l x k = true then some k else none) with | some i => (l.getD i rk0).2 | none => 0)
        rw [if_neg (show ¬ atP l x k = true by unfold atP; rw [decide_eq_false h]; nofun)]; rfl
theorem hasP_nil (l : List Rnk) (v : Value) : hasP (hasK l 0) v = false := by
  unfold hasP
  cases decP v <;> rfl
theorem getP_nil (l : List Rnk) (v : Value) : getP (lookK l 0) v = i64 0 := by
  unfold getP
  cases decP v <;> rfl
theorem S131 (p : Pln) (s : S2) (f : Int × Bool) : SP 131 [planA p, stA s, ftA f] (.func (.func 134) 0 [.rptr (planC p), .rptr (stC s), .rptr (fltC f)]) false := by
  refine sound (d := 2) tok2 mixed2 Tryd.func131 (by kernel_rfl) (by kernel_rfl) ?_
  conv => whnf
  refine ⟨?_, nofun⟩
  rfl
def cAt (p : Pln) (s : S2) (i : Nat) : Int := ((-1 : Int) :: (stp p s).exits).getD i 0
theorem succs_at {p : Pln} {f : Int × Bool} {s : S2} {i : Nat} (h : i < (stp p s).exits.length + 1) : (succs p f s).getD i (0, 0) = (turnF p f s (cAt p s i)).1 := by
  unfold succs cAt
  cases i with
  | zero => rfl
  | succ i =>
    have : i < (stp p s).exits.length := by omega
    simp [List.getD_eq_getElem?_getD, this]
theorem succs_len {p : Pln} {f : Int × Bool} {s : S2} : (succs p f s).length = (stp p s).exits.length + 1 := by
  simp [succs]
theorem cAt_row0 {p : Pln} {s : S2} {i : Nat} (h : i < 1) : [i64 (cAt p s i)] = List.take 1 (List.drop (i * 1) [i64 (-1)]) := by
  obtain rfl : i = 0 := by omega
  rfl
theorem cAt_row {p : Pln} {s : S2} {i : Nat} (h : i < 1 + (stp p s).exits.length) : [i64 (cAt p s i)] = if i < 1 then List.take 1 (List.drop ((0 + i) * 1) [i64 (-1)]) else [i64 ((stp p s).exits.getD (i - 1) 0)] := by
  cases i with
  | zero => rfl
  | succ i =>
    rw [if_neg (by omega)]
    rfl
theorem has_key {l : List Rnk} {p : Pln} {f : Int × Bool} {s : S2} {j : Nat} {b : Bool} (h : hasP (hasK l l.length) (.agg #[.int .i64 (turnF p f s (cAt p s (0 + j))).1.1, .int .i64 (turnF p f s (cAt p s (0 + j))).1.2, .int .i64 f.1, .bool f.2]) = b) : hasQ l ((turnF p f s (cAt p s j)).1, f) = b := by
  rw [Nat.zero_add] at h
  exact h
theorem rank_if {A a b : Int} (h : A = if a < b then 0 else 19) : (if decide (a < b) = true then (0 : Int) else 19) = A := by
  rw [h]
  by_cases h1 : a < b
  · rw [if_pos h1, if_pos (decide_eq_true h1)]
  · rw [if_neg h1, if_neg (by rw [decide_eq_false h1]; nofun)]
theorem S110 (p : Pln) (hg : Good p) (l : List Rnk) (hl : l.length ≤ 1000000) (r : Rnk) (hs : OkS p r.1.1) : SP 110 [planA p, pmA l l.length, .agg (rkC r)] (i64 (rank2E p l r)) false := by
  have hat := hs.at
  have hn5 := hg.n
  have hxl12 : (stp p r.1.1).exits.length ≤ 12 := hg.few.exits _ hs.k
  have hb3 : Tryd.prog.types[3].bytes = 8 := by kernel_rfl
  have hneed : ¬ (stp p r.1.1).exits.length = 0 → (1 < 1 + (p.steps.getD r.1.1.1.toNat stp0).exits.length ∨ (p.steps.getD r.1.1.1.toNat stp0).exits.length = 0 ∧ 1 = 0) ∧ (1 + (p.steps.getD r.1.1.1.toNat stp0).exits.length) * (Tryd.prog.types[3].bytes + 1) ≤ 1000000000000 := fun h => by
    rw [hb3]
    have h : ¬ (p.steps.getD r.1.1.1.toNat stp0).exits.length = 0 := h
    have h2 : (p.steps.getD r.1.1.1.toNat stp0).exits.length ≤ 12 := hxl12
    omega
  have h102 := S102 p (by omega)
  have h131 := S131 p r.1.1 r.1.2
  have h118 : SP 118 [planA p, stA r.1.1, ftA r.1.2] (vb (homeB p r.1.2 r.1.1)) false := S118 p r.1.1 r.1.2 hat
  have h81 := S81 p r.1.1 r.1.2 hat
  by_cases hf : r.1.2 = noF
  · have hfe : vEqL [.int .i64 r.1.2.1, .bool r.1.2.2] [.int .i64 (-1), .bool false] = true := by rw [hf]; exact vEq_flt _ _
    refine sound (d := 2) tok2 mixed2 Tryd.func110 (by kernel_rfl) (by kernel_rfl) ?_
    conv => whnf
    refine ifB_intro (fun w1 => ?_) (fun w1 => ?_)
    · conv => whnf
      refine .inl ⟨_, _, byX rfl (h102), ?_⟩
      conv => whnf
      refine ⟨[], [3, 4, 5, 6, 23, 24, 25], fun st mq => ∃ (j : Nat), (j ≤ 2 * p.sig.length + 1) ∧ (∀ i, i < j → (!hasQ l (r.1.1, fltAt i)) = false) ∧ st = ⟨[(3, .optr 0 0 0 0), (4, .optr 1 0 0 0), (5, .optr 2 0 0 0), (6, .optr 3 0 0 0), (23, fts p.sig.length), (24, i64 (2 * p.sig.length + 1 : Nat)), (25, i64 j)], ⟨[⟨3, 1, fun _ => planC p, 0, false, true, true⟩, ⟨1, 1, fun _ => [pmA l l.length], 0, false, true, true⟩, ⟨5, 1, fun _ => rkC r, 0, false, true, true⟩, ⟨1, 1, fun _ => [i64 0], 0, false, true, true⟩], [], none, 0⟩, []⟩ ∧ mq = 2 * p.sig.length + 1 - j,
        ⟨_, _, ⟨0, by omega, fun i h => absurd h (Nat.not_lt_zero i), rfl, rfl⟩, ⟨⟨.inl rfl, rfl, rfl, rfl⟩, ⟨⟨rfl, rfl, rfl, rfl, fun _ => rfl, fun _ _ => .inl rfl⟩, ⟨⟨rfl, rfl, rfl, rfl, fun _ => rfl, fun _ _ => .inl rfl⟩, ⟨⟨rfl, rfl, rfl, rfl, fun _ => rfl, fun _ _ => .inl rfl⟩, ⟨⟨rfl, rfl, rfl, rfl, fun _ => rfl, fun _ _ => .inl rfl⟩, trivial⟩⟩⟩⟩, trivial⟩⟩, ?_⟩
      rintro s0 m0 ⟨j, hj, hn1, rfl, hmeas⟩
      by_cases hlt : j < 2 * p.sig.length + 1
      · conv => whnf
        conv => whnf
        refine ifB_dec (fun w2 => ?_) (fun w2 => ?_)
        · conv => whnf
          conv => whnf
          refine ⟨⟨(by omega), (by omega)⟩, ?_⟩
          conv => whnf
          conv => whnf
          refine ifB_not ?_
          conv => whnf
          conv => whnf
          refine ifB_intro (fun w3 => ?_) (fun w3 => ?_)
          · conv => whnf
            conv => whnf
            refine ⟨inK64 (by omega) (by omega), ?_⟩
            have e : hasQ l (r.1.1, fltAt j) = true := w3
            conv => whnf
            conv => whnf
            refine ⟨_, _, ⟨⟨j + 1, by omega, inv_nextB hn1 (by rw [e]; rfl), rfl, rfl⟩, by omega⟩, ⟨⟨.inl rfl, rfl, rfl, rfl⟩, ⟨⟨rfl, rfl, rfl, rfl, fun _ => rfl, fun _ _ => .inl rfl⟩, ⟨⟨rfl, rfl, rfl, rfl, fun _ => rfl, fun _ _ => .inl rfl⟩, ⟨⟨rfl, rfl, rfl, rfl, fun _ => rfl, fun _ _ => .inl rfl⟩, ⟨⟨rfl, rfl, rfl, rfl, fun _ => rfl, fun _ _ => .inl rfl⟩, trivial⟩⟩⟩⟩, trivial⟩⟩
          · conv => whnf
            conv => whnf
            refine ⟨?_, nofun⟩
            have e : hasQ l (r.1.1, fltAt j) = false := w3
            have hm : missF p l r.1.1 = true := by
              unfold missF
              rw [firstN_at hlt hn1 (by rw [e]; rfl)]; rfl
            refine endi ?_
            unfold rank2E
            rw [hm, decide_eq_true hf]; rfl
        · (exfalso; omega)
      · have hm : missF p l r.1.1 = false := by
          obtain rfl : j = 2 * p.sig.length + 1 := by omega
          unfold missF
          rw [firstN_none hn1]; rfl
        have hF : rank2E p l r = _ := if_neg (by rw [hm, Bool.and_false]; nofun)
        by_cases hxl : (stp p r.1.1).exits.length = 0
        · conv => whnf
          conv => whnf
          refine ifB_dec (fun w2 => ?_) (fun w2 => ?_)
          · (exfalso; omega)
          · conv => whnf
            conv => whnf
            refine .inl ⟨_, _, byX rfl (h131), ?_⟩
            conv => whnf
            conv => whnf
            refine ⟨(by first | rfl | assumption), ?_⟩
            refine ⟨_, keep_ok [3, 4, 5, 6, 46] _, ?_⟩
            conv => whnf
            conv => whnf
            refine ⟨⟨(by omega), (by omega)⟩, ?_⟩
            conv => whnf
            conv => whnf
            refine .inr ?_
            conv => whnf
            conv => whnf
            refine ⟨by assumption, ?_⟩
            conv => whnf
            conv => whnf
            refine ⟨[], [0, 1, 2, 3, 18, 19, 20], fun st mq => ∃ (j : Nat), (j ≤ (stp p r.1.1).exits.length + 1) ∧ (∀ i, i < j → (!hasQ l ((succs p r.1.2 r.1.1).getD i (0, 0), r.1.2)) = false) ∧ st = ⟨[(0, .yld 0), (1, .rptr (planC p)), (2, .rptr (stC r.1.1)), (3, .rptr (fltC r.1.2)), (18, .oslice 4 0 0 1 (some 1)), (19, i64 (1 : Nat)), (20, i64 j)], ⟨[⟨3, 1, fun _ => planC p, 0, false, true, true⟩, ⟨1, 1, fun _ => [pmA l l.length], 0, false, true, true⟩, ⟨5, 1, fun _ => rkC r, 0, false, true, true⟩, ⟨1, 1, fun _ => [i64 0], 0, false, true, true⟩, ⟨1, 1, fun i => [i64 (cAt p r.1.1 i)], 0, false, true, true⟩], [], none, 1⟩, [(3, .optr 0 0 0 0), (4, .optr 1 0 0 0), (5, .optr 2 0 0 0), (6, .optr 3 0 0 0), (46, .func (.func 134) 0 [.rptr (planC p), .rptr (stC r.1.1), .rptr (fltC r.1.2)])]⟩ ∧ mq = (stp p r.1.1).exits.length + 1 - j,
              ⟨_, _, ⟨0, by omega, fun i h => absurd h (Nat.not_lt_zero i), rfl, rfl⟩, ⟨⟨.inl rfl, rfl, rfl, rfl⟩, ⟨⟨rfl, rfl, rfl, rfl, fun _ => rfl, fun _ _ => .inl rfl⟩, ⟨⟨rfl, rfl, rfl, rfl, fun _ => rfl, fun _ _ => .inl rfl⟩, ⟨⟨rfl, rfl, rfl, rfl, fun _ => rfl, fun _ _ => .inl rfl⟩, ⟨⟨rfl, rfl, rfl, rfl, fun _ => rfl, fun _ _ => .inl rfl⟩, ⟨⟨rfl, rfl, rfl, rfl, fun _ => rfl, fun i h => .inl (cAt_row0 h)⟩, trivial⟩⟩⟩⟩⟩, trivial⟩⟩, ?_⟩
            rintro s0 m0 ⟨j, hj, hn2, rfl, hmeas⟩
            by_cases hlt : j < (stp p r.1.1).exits.length + 1
            · have h92 := fun c => S92 p r.1.1 r.1.2 c hat
              conv => whnf
              conv => whnf
              conv => whnf
              refine ifB_dec (fun w3 => ?_) (fun w3 => ?_)
              · conv => whnf
                conv => whnf
                conv => whnf
                refine ⟨⟨(by omega), (by omega)⟩, ?_⟩
                conv => whnf
                conv => whnf
                conv => whnf
                refine .inl ⟨_, _, byX rfl (Sound1.pl (h92 _) rfl), ?_⟩
                conv => whnf
                conv => whnf
                conv => whnf
                refine ⟨(by first | rfl | assumption), ?_⟩
                conv => whnf
                conv => whnf
                conv => whnf
                refine ifB_not ?_
                conv => whnf
                conv => whnf
                conv => whnf
                refine ifB_intro (fun w4 => ?_) (fun w4 => ?_)
                · conv => whnf
                  conv => whnf
                  conv => whnf
                  refine ⟨inK64 (by omega) (by omega), ?_⟩
                  have e : hasQ l ((turnF p r.1.2 r.1.1 (cAt p r.1.1 j)).1, r.1.2) = true := has_key w4
                  conv => whnf
                  conv => whnf
                  conv => whnf
                  refine ⟨_, _, ⟨⟨j + 1, by omega, inv_nextB hn2 (by rw [succs_at hlt, e]; rfl), rfl, rfl⟩, by omega⟩, ⟨⟨.inl rfl, rfl, rfl, rfl⟩, ⟨⟨rfl, rfl, rfl, rfl, fun _ => rfl, fun _ _ => .inl rfl⟩, ⟨⟨rfl, rfl, rfl, rfl, fun _ => rfl, fun _ _ => .inl rfl⟩, ⟨⟨rfl, rfl, rfl, rfl, fun _ => rfl, fun _ _ => .inl rfl⟩, ⟨⟨rfl, rfl, rfl, rfl, fun _ => rfl, fun _ _ => .inl rfl⟩, ⟨⟨rfl, rfl, rfl, rfl, fun _ => rfl, fun _ _ => .inl rfl⟩, trivial⟩⟩⟩⟩⟩, trivial⟩⟩
                · conv => whnf
                  conv => whnf
                  conv => whnf
                  refine ⟨?_, nofun⟩
                  have e : hasQ l ((turnF p r.1.2 r.1.1 (cAt p r.1.1 j)).1, r.1.2) = false := has_key w4
                  refine endi (hF.trans (if_pos ?_)).symm
                  unfold missS
                  rw [firstN_at (k := j) (by rw [succs_len]; exact hlt) hn2 (by rw [succs_at hlt, e]; rfl)]; rfl
              · (exfalso; omega)
            · obtain rfl : j = (stp p r.1.1).exits.length + 1 := by omega
              have hS : missS p l r.1 = false := by
                unfold missS
                rw [firstN_none (by rw [succs_len]; exact hn2)]; rfl
              rw [hS] at hF
              have hF := hF.trans (if_neg nofun)
              cases hx : homeTurnF p r.1.2 r.1.1 with
              | none =>
                rw [hx] at h81 hF
                conv => whnf
                conv => whnf
                conv => whnf
                refine .inl ⟨_, _, byX rfl (Sound1.pl (h118) rfl), ?_⟩
                conv => whnf
                conv => whnf
                conv => whnf
                refine ifB_not ?_
                conv => whnf
                conv => whnf
                conv => whnf
                refine ifB_beqB (fun w3 => ?_) (fun w3 => ?_)
                · conv => whnf
                  conv => whnf
                  conv => whnf
                  refine .inl ⟨_, _, byX rfl (Sound1.pl (h81) rfl), ?_⟩
                  conv => whnf
                  conv => whnf
                  conv => whnf
                  refine ⟨[], by kernel_rfl, ?_⟩
                  conv => whnf
                  conv => whnf
                  conv => whnf
                  refine ifB_intro (fun w4 => ?_) (fun w4 => ?_)
                  · conv => whnf
                    conv => whnf
                    conv => whnf
                    refine .inl ⟨_, _, byX rfl (Sound1.pl (S69 _ _) rfl), ?_⟩
                    conv => whnf
                    conv => whnf
                    conv => whnf
                    refine ⟨?_, nofun⟩
                    exact endi ((rank_a hF).2.1 w3 w4).symm
                  · conv => whnf
                    conv => whnf
                    conv => whnf
                    refine .inl ⟨_, _, byX rfl (Sound1.pl (S69 _ _) rfl), ?_⟩
                    conv => whnf
                    conv => whnf
                    conv => whnf
                    refine ⟨?_, nofun⟩
                    exact endi ((rank_a hF).2.2 w3 w4).symm
                · conv => whnf
                  conv => whnf
                  conv => whnf
                  refine ⟨?_, nofun⟩
                  exact endi ((rank_a hF).1 w3).symm
              | some x =>
                rw [hx] at h81 hF
                conv => whnf
                conv => whnf
                conv => whnf
                refine .inl ⟨_, _, byX rfl (Sound1.pl (h118) rfl), ?_⟩
                conv => whnf
                conv => whnf
                conv => whnf
                refine ifB_not ?_
                conv => whnf
                conv => whnf
                conv => whnf
                refine ifB_beqB (fun w3 => ?_) (fun w3 => ?_)
                · conv => whnf
                  conv => whnf
                  conv => whnf
                  refine .inl ⟨_, _, byX rfl (Sound1.pl (h81) rfl), ?_⟩
                  conv => whnf
                  conv => whnf
                  conv => whnf
                  refine ⟨[], by kernel_rfl, ?_⟩
                  conv => whnf
                  conv => whnf
                  conv => whnf
                  refine ifB_intro (fun w4 => ?_) (fun w4 => ?_)
                  · conv => whnf
                    conv => whnf
                    conv => whnf
                    refine .inl ⟨_, _, byX rfl (Sound1.pl (S69 _ _) rfl), ?_⟩
                    conv => whnf
                    conv => whnf
                    conv => whnf
                    refine ⟨?_, nofun⟩
                    exact endi ((rank_a hF).2.1 w3 w4).symm
                  · conv => whnf
                    conv => whnf
                    conv => whnf
                    refine .inl ⟨_, _, byX rfl (Sound1.pl (S69 _ _) rfl), ?_⟩
                    conv => whnf
                    conv => whnf
                    conv => whnf
                    refine ⟨?_, nofun⟩
                    exact endi (rank_if ((rank_a hF).2.2 w3 w4))
                · conv => whnf
                  conv => whnf
                  conv => whnf
                  refine ⟨?_, nofun⟩
                  exact endi ((rank_a hF).1 w3).symm
        · have hneed := hneed hxl
          conv => whnf
          conv => whnf
          refine ifB_dec (fun w2 => ?_) (fun w2 => ?_)
          · (exfalso; omega)
          · conv => whnf
            conv => whnf
            refine .inl ⟨_, _, byX rfl (h131), ?_⟩
            conv => whnf
            conv => whnf
            refine ⟨(by first | rfl | assumption), ?_⟩
            refine ⟨_, keep_ok [3, 4, 5, 6, 46] _, ?_⟩
            conv => whnf
            conv => whnf
            refine ⟨⟨(by omega), (by omega)⟩, ?_⟩
            conv => whnf
            conv => whnf
            refine .inl ?_
            conv => whnf
            conv => whnf
            refine ⟨by assumption, ?_⟩
            conv => whnf
            conv => whnf
            refine ⟨[], [0, 1, 2, 3, 18, 19, 20], fun st mq => ∃ (j : Nat) (F4 : Nat → List AV), (j ≤ (stp p r.1.1).exits.length + 1) ∧ (∀ i, i < j → (!hasQ l ((succs p r.1.2 r.1.1).getD i (0, 0), r.1.2)) = false) ∧ st = ⟨[(0, .yld 0), (1, .rptr (planC p)), (2, .rptr (stC r.1.1)), (3, .rptr (fltC r.1.2)), (18, .oslice 5 0 0 (1 + (stp p r.1.1).exits.length) none), (19, i64 ((1 + (stp p r.1.1).exits.length : Nat) : Int)), (20, i64 j)], ⟨[⟨3, 1, fun _ => planC p, 0, false, true, true⟩, ⟨1, 1, fun _ => [pmA l l.length], 0, false, true, true⟩, ⟨5, 1, fun _ => rkC r, 0, false, true, true⟩, ⟨1, 1, fun _ => [i64 0], 0, false, true, true⟩, ⟨1, 1, F4, 0, false, true, false⟩, ⟨1, 1 + (stp p r.1.1).exits.length, fun i => [i64 (cAt p r.1.1 i)], 0, false, true, false⟩], [], none, 1⟩, [(3, .optr 0 0 0 0), (4, .optr 1 0 0 0), (5, .optr 2 0 0 0), (6, .optr 3 0 0 0), (46, .func (.func 134) 0 [.rptr (planC p), .rptr (stC r.1.1), .rptr (fltC r.1.2)])]⟩ ∧ mq = (stp p r.1.1).exits.length + 1 - j,
              ⟨_, _, ⟨0, _, by omega, fun i h => absurd h (Nat.not_lt_zero i), rfl, rfl⟩, ⟨⟨.inl rfl, rfl, rfl, rfl⟩, ⟨⟨rfl, rfl, rfl, rfl, fun _ => rfl, fun _ _ => .inl rfl⟩, ⟨⟨rfl, rfl, rfl, rfl, fun _ => rfl, fun _ _ => .inl rfl⟩, ⟨⟨rfl, rfl, rfl, rfl, fun _ => rfl, fun _ _ => .inl rfl⟩, ⟨⟨rfl, rfl, rfl, rfl, fun _ => rfl, fun _ _ => .inl rfl⟩, ⟨⟨rfl, rfl, rfl, rfl, fun _ => rfl, fun _ _ => .inl rfl⟩, ⟨⟨rfl, rfl, rfl, rfl, fun _ => rfl, fun i h => .inl (cAt_row h)⟩, trivial⟩⟩⟩⟩⟩⟩, trivial⟩⟩, ?_⟩
            rintro s0 m0 ⟨j, F4, hj, hn2, rfl, hmeas⟩
            by_cases hlt : j < (stp p r.1.1).exits.length + 1
            · have h92 := fun c => S92 p r.1.1 r.1.2 c hat
              conv => whnf
              conv => whnf
              conv => whnf
              refine ifB_dec (fun w3 => ?_) (fun w3 => ?_)
              · conv => whnf
                conv => whnf
                conv => whnf
                refine ⟨⟨(by omega), (by omega)⟩, ?_⟩
                conv => whnf
                conv => whnf
                conv => whnf
                refine .inl ⟨_, _, byX rfl (Sound1.pl (h92 _) rfl), ?_⟩
                conv => whnf
                conv => whnf
                conv => whnf
                refine ⟨(by first | rfl | assumption), ?_⟩
                conv => whnf
                conv => whnf
                conv => whnf
                refine ifB_not ?_
                conv => whnf
                conv => whnf
                conv => whnf
                refine ifB_intro (fun w4 => ?_) (fun w4 => ?_)
                · conv => whnf
                  conv => whnf
                  conv => whnf
                  refine ⟨inK64 (by omega) (by omega), ?_⟩
                  have e : hasQ l ((turnF p r.1.2 r.1.1 (cAt p r.1.1 j)).1, r.1.2) = true := has_key w4
                  conv => whnf
                  conv => whnf
                  conv => whnf
                  refine ⟨_, _, ⟨⟨j + 1, _, by omega, inv_nextB hn2 (by rw [succs_at hlt, e]; rfl), rfl, rfl⟩, by omega⟩, ⟨⟨.inl rfl, rfl, rfl, rfl⟩, ⟨⟨rfl, rfl, rfl, rfl, fun _ => rfl, fun _ _ => .inl rfl⟩, ⟨⟨rfl, rfl, rfl, rfl, fun _ => rfl, fun _ _ => .inl rfl⟩, ⟨⟨rfl, rfl, rfl, rfl, fun _ => rfl, fun _ _ => .inl rfl⟩, ⟨⟨rfl, rfl, rfl, rfl, fun _ => rfl, fun _ _ => .inl rfl⟩, ⟨⟨rfl, rfl, rfl, rfl, fun _ => rfl, fun _ _ => .inl rfl⟩, ⟨⟨rfl, rfl, rfl, rfl, fun _ => rfl, fun _ _ => .inl rfl⟩, trivial⟩⟩⟩⟩⟩⟩, trivial⟩⟩
                · conv => whnf
                  conv => whnf
                  conv => whnf
                  refine ⟨?_, nofun⟩
                  have e : hasQ l ((turnF p r.1.2 r.1.1 (cAt p r.1.1 j)).1, r.1.2) = false := has_key w4
                  refine endi (hF.trans (if_pos ?_)).symm
                  unfold missS
                  rw [firstN_at (k := j) (by rw [succs_len]; exact hlt) hn2 (by rw [succs_at hlt, e]; rfl)]; rfl
              · (exfalso; omega)
            · obtain rfl : j = (stp p r.1.1).exits.length + 1 := by omega
              have hS : missS p l r.1 = false := by
                unfold missS
                rw [firstN_none (by rw [succs_len]; exact hn2)]; rfl
              rw [hS] at hF
              have hF := hF.trans (if_neg nofun)
              cases hx : homeTurnF p r.1.2 r.1.1 with
              | none =>
                rw [hx] at h81 hF
                conv => whnf
                conv => whnf
                conv => whnf
                refine ifB_dec (fun w3 => ?_) (fun w3 => ?_)
                · (exfalso; omega)
                · conv => whnf
                  conv => whnf
                  conv => whnf
                  refine .inl ⟨_, _, byX rfl (Sound1.pl (h118) rfl), ?_⟩
                  conv => whnf
                  conv => whnf
                  conv => whnf
                  refine ifB_not ?_
                  conv => whnf
                  conv => whnf
                  conv => whnf
                  refine ifB_beqB (fun w4 => ?_) (fun w4 => ?_)
                  · conv => whnf
                    conv => whnf
                    conv => whnf
                    refine .inl ⟨_, _, byX rfl (Sound1.pl (h81) rfl), ?_⟩
                    conv => whnf
                    conv => whnf
                    conv => whnf
                    refine ⟨[], by kernel_rfl, ?_⟩
                    conv => whnf
                    conv => whnf
                    conv => whnf
                    refine ifB_intro (fun w5 => ?_) (fun w5 => ?_)
                    · conv => whnf
                      conv => whnf
                      conv => whnf
                      refine .inl ⟨_, _, byX rfl (Sound1.pl (S69 _ _) rfl), ?_⟩
                      conv => whnf
                      conv => whnf
                      conv => whnf
                      refine ⟨?_, nofun⟩
                      exact endi ((rank_a hF).2.1 w4 w5).symm
                    · conv => whnf
                      conv => whnf
                      conv => whnf
                      refine .inl ⟨_, _, byX rfl (Sound1.pl (S69 _ _) rfl), ?_⟩
                      conv => whnf
                      conv => whnf
                      conv => whnf
                      refine ⟨?_, nofun⟩
                      exact endi ((rank_a hF).2.2 w4 w5).symm
                  · conv => whnf
                    conv => whnf
                    conv => whnf
                    refine ⟨?_, nofun⟩
                    exact endi ((rank_a hF).1 w4).symm
              | some x =>
                rw [hx] at h81 hF
                conv => whnf
                conv => whnf
                conv => whnf
                refine ifB_dec (fun w3 => ?_) (fun w3 => ?_)
                · (exfalso; omega)
                · conv => whnf
                  conv => whnf
                  conv => whnf
                  refine .inl ⟨_, _, byX rfl (Sound1.pl (h118) rfl), ?_⟩
                  conv => whnf
                  conv => whnf
                  conv => whnf
                  refine ifB_not ?_
                  conv => whnf
                  conv => whnf
                  conv => whnf
                  refine ifB_beqB (fun w4 => ?_) (fun w4 => ?_)
                  · conv => whnf
                    conv => whnf
                    conv => whnf
                    refine .inl ⟨_, _, byX rfl (Sound1.pl (h81) rfl), ?_⟩
                    conv => whnf
                    conv => whnf
                    conv => whnf
                    refine ⟨[], by kernel_rfl, ?_⟩
                    conv => whnf
                    conv => whnf
                    conv => whnf
                    refine ifB_intro (fun w5 => ?_) (fun w5 => ?_)
                    · conv => whnf
                      conv => whnf
                      conv => whnf
                      refine .inl ⟨_, _, byX rfl (Sound1.pl (S69 _ _) rfl), ?_⟩
                      conv => whnf
                      conv => whnf
                      conv => whnf
                      refine ⟨?_, nofun⟩
                      exact endi ((rank_a hF).2.1 w4 w5).symm
                    · conv => whnf
                      conv => whnf
                      conv => whnf
                      refine .inl ⟨_, _, byX rfl (Sound1.pl (S69 _ _) rfl), ?_⟩
                      conv => whnf
                      conv => whnf
                      conv => whnf
                      refine ⟨?_, nofun⟩
                      exact endi (rank_if ((rank_a hF).2.2 w4 w5))
                  · conv => whnf
                    conv => whnf
                    conv => whnf
                    refine ⟨?_, nofun⟩
                    exact endi ((rank_a hF).1 w4).symm
    · exact absurd (hfe.symm.trans w1) nofun
  · have hfe : vEqL [.int .i64 r.1.2.1, .bool r.1.2.2] [.int .i64 (-1), .bool false] = false := by
      cases h : vEqL [.int .i64 r.1.2.1, .bool r.1.2.2] [.int .i64 (-1), .bool false] with
      | false => rfl
      | true => exact absurd (Prod.ext (veq_if h).1 (veq_if h).2) hf
    have hF : rank2E p l r = _ := if_neg (by rw [decide_eq_false hf, Bool.false_and]; nofun)
    refine sound (d := 2) tok2 mixed2 Tryd.func110 (by kernel_rfl) (by kernel_rfl) ?_
    by_cases hxl : (stp p r.1.1).exits.length = 0
    · conv => whnf
      refine ifB_intro (fun w1 => ?_) (fun w1 => ?_)
      · exact absurd (hfe.symm.trans w1) nofun
      · conv => whnf
        refine .inl ⟨_, _, byX rfl (h131), ?_⟩
        conv => whnf
        refine ⟨(by first | rfl | assumption), ?_⟩
        refine ⟨_, keep_ok [3, 4, 5, 6, 46] _, ?_⟩
        conv => whnf
        refine ⟨⟨(by omega), (by omega)⟩, ?_⟩
        conv => whnf
        refine .inr ?_
        conv => whnf
        refine ⟨by assumption, ?_⟩
        conv => whnf
        refine ⟨[], [0, 1, 2, 3, 18, 19, 20], fun st mq => ∃ (j : Nat), (j ≤ (stp p r.1.1).exits.length + 1) ∧ (∀ i, i < j → (!hasQ l ((succs p r.1.2 r.1.1).getD i (0, 0), r.1.2)) = false) ∧ st = ⟨[(0, .yld 0), (1, .rptr (planC p)), (2, .rptr (stC r.1.1)), (3, .rptr (fltC r.1.2)), (18, .oslice 4 0 0 1 (some 1)), (19, i64 (1 : Nat)), (20, i64 j)], ⟨[⟨3, 1, fun _ => planC p, 0, false, true, true⟩, ⟨1, 1, fun _ => [pmA l l.length], 0, false, true, true⟩, ⟨5, 1, fun _ => rkC r, 0, false, true, true⟩, ⟨1, 1, fun _ => [i64 0], 0, false, true, true⟩, ⟨1, 1, fun i => [i64 (cAt p r.1.1 i)], 0, false, true, true⟩], [], none, 1⟩, [(3, .optr 0 0 0 0), (4, .optr 1 0 0 0), (5, .optr 2 0 0 0), (6, .optr 3 0 0 0), (46, .func (.func 134) 0 [.rptr (planC p), .rptr (stC r.1.1), .rptr (fltC r.1.2)])]⟩ ∧ mq = (stp p r.1.1).exits.length + 1 - j,
          ⟨_, _, ⟨0, by omega, fun i h => absurd h (Nat.not_lt_zero i), rfl, rfl⟩, ⟨⟨.inl rfl, rfl, rfl, rfl⟩, ⟨⟨rfl, rfl, rfl, rfl, fun _ => rfl, fun _ _ => .inl rfl⟩, ⟨⟨rfl, rfl, rfl, rfl, fun _ => rfl, fun _ _ => .inl rfl⟩, ⟨⟨rfl, rfl, rfl, rfl, fun _ => rfl, fun _ _ => .inl rfl⟩, ⟨⟨rfl, rfl, rfl, rfl, fun _ => rfl, fun _ _ => .inl rfl⟩, ⟨⟨rfl, rfl, rfl, rfl, fun _ => rfl, fun i h => .inl (cAt_row0 h)⟩, trivial⟩⟩⟩⟩⟩, trivial⟩⟩, ?_⟩
        rintro s0 m0 ⟨j, hj, hn2, rfl, hmeas⟩
        by_cases hlt : j < (stp p r.1.1).exits.length + 1
        · have h92 := fun c => S92 p r.1.1 r.1.2 c hat
          conv => whnf
          conv => whnf
          refine ifB_dec (fun w2 => ?_) (fun w2 => ?_)
          · conv => whnf
            conv => whnf
            refine ⟨⟨(by omega), (by omega)⟩, ?_⟩
            conv => whnf
            conv => whnf
            refine .inl ⟨_, _, byX rfl (Sound1.pl (h92 _) rfl), ?_⟩
            conv => whnf
            conv => whnf
            refine ⟨(by first | rfl | assumption), ?_⟩
            conv => whnf
            conv => whnf
            refine ifB_not ?_
            conv => whnf
            conv => whnf
            refine ifB_intro (fun w3 => ?_) (fun w3 => ?_)
            · conv => whnf
              conv => whnf
              refine ⟨inK64 (by omega) (by omega), ?_⟩
              have e : hasQ l ((turnF p r.1.2 r.1.1 (cAt p r.1.1 j)).1, r.1.2) = true := has_key w3
              conv => whnf
              conv => whnf
              refine ⟨_, _, ⟨⟨j + 1, by omega, inv_nextB hn2 (by rw [succs_at hlt, e]; rfl), rfl, rfl⟩, by omega⟩, ⟨⟨.inl rfl, rfl, rfl, rfl⟩, ⟨⟨rfl, rfl, rfl, rfl, fun _ => rfl, fun _ _ => .inl rfl⟩, ⟨⟨rfl, rfl, rfl, rfl, fun _ => rfl, fun _ _ => .inl rfl⟩, ⟨⟨rfl, rfl, rfl, rfl, fun _ => rfl, fun _ _ => .inl rfl⟩, ⟨⟨rfl, rfl, rfl, rfl, fun _ => rfl, fun _ _ => .inl rfl⟩, ⟨⟨rfl, rfl, rfl, rfl, fun _ => rfl, fun _ _ => .inl rfl⟩, trivial⟩⟩⟩⟩⟩, trivial⟩⟩
            · conv => whnf
              conv => whnf
              refine ⟨?_, nofun⟩
              have e : hasQ l ((turnF p r.1.2 r.1.1 (cAt p r.1.1 j)).1, r.1.2) = false := has_key w3
              refine endi (hF.trans (if_pos ?_)).symm
              unfold missS
              rw [firstN_at (k := j) (by rw [succs_len]; exact hlt) hn2 (by rw [succs_at hlt, e]; rfl)]; rfl
          · (exfalso; omega)
        · obtain rfl : j = (stp p r.1.1).exits.length + 1 := by omega
          have hS : missS p l r.1 = false := by
            unfold missS
            rw [firstN_none (by rw [succs_len]; exact hn2)]; rfl
          rw [hS] at hF
          have hF := hF.trans (if_neg nofun)
          cases hx : homeTurnF p r.1.2 r.1.1 with
          | none =>
            rw [hx] at h81 hF
            conv => whnf
            conv => whnf
            refine .inl ⟨_, _, byX rfl (Sound1.pl (h118) rfl), ?_⟩
            conv => whnf
            conv => whnf
            refine ifB_not ?_
            conv => whnf
            conv => whnf
            refine ifB_beqB (fun w2 => ?_) (fun w2 => ?_)
            · conv => whnf
              conv => whnf
              refine .inl ⟨_, _, byX rfl (Sound1.pl (h81) rfl), ?_⟩
              conv => whnf
              conv => whnf
              refine ⟨[], by kernel_rfl, ?_⟩
              conv => whnf
              conv => whnf
              refine ifB_intro (fun w3 => ?_) (fun w3 => ?_)
              · conv => whnf
                conv => whnf
                refine .inl ⟨_, _, byX rfl (Sound1.pl (S69 _ _) rfl), ?_⟩
                conv => whnf
                conv => whnf
                refine ⟨?_, nofun⟩
                exact endi ((rank_a hF).2.1 w2 w3).symm
              · conv => whnf
                conv => whnf
                refine .inl ⟨_, _, byX rfl (Sound1.pl (S69 _ _) rfl), ?_⟩
                conv => whnf
                conv => whnf
                refine ⟨?_, nofun⟩
                exact endi ((rank_a hF).2.2 w2 w3).symm
            · conv => whnf
              conv => whnf
              refine ⟨?_, nofun⟩
              exact endi ((rank_a hF).1 w2).symm
          | some x =>
            rw [hx] at h81 hF
            conv => whnf
            conv => whnf
            refine .inl ⟨_, _, byX rfl (Sound1.pl (h118) rfl), ?_⟩
            conv => whnf
            conv => whnf
            refine ifB_not ?_
            conv => whnf
            conv => whnf
            refine ifB_beqB (fun w2 => ?_) (fun w2 => ?_)
            · conv => whnf
              conv => whnf
              refine .inl ⟨_, _, byX rfl (Sound1.pl (h81) rfl), ?_⟩
              conv => whnf
              conv => whnf
              refine ⟨[], by kernel_rfl, ?_⟩
              conv => whnf
              conv => whnf
              refine ifB_intro (fun w3 => ?_) (fun w3 => ?_)
              · conv => whnf
                conv => whnf
                refine .inl ⟨_, _, byX rfl (Sound1.pl (S69 _ _) rfl), ?_⟩
                conv => whnf
                conv => whnf
                refine ⟨?_, nofun⟩
                exact endi ((rank_a hF).2.1 w2 w3).symm
              · conv => whnf
                conv => whnf
                refine .inl ⟨_, _, byX rfl (Sound1.pl (S69 _ _) rfl), ?_⟩
                conv => whnf
                conv => whnf
                refine ⟨?_, nofun⟩
                exact endi (rank_if ((rank_a hF).2.2 w2 w3))
            · conv => whnf
              conv => whnf
              refine ⟨?_, nofun⟩
              exact endi ((rank_a hF).1 w2).symm
    · have hneed := hneed hxl
      conv => whnf
      refine ifB_intro (fun w1 => ?_) (fun w1 => ?_)
      · exact absurd (hfe.symm.trans w1) nofun
      · conv => whnf
        refine .inl ⟨_, _, byX rfl (h131), ?_⟩
        conv => whnf
        refine ⟨(by first | rfl | assumption), ?_⟩
        refine ⟨_, keep_ok [3, 4, 5, 6, 46] _, ?_⟩
        conv => whnf
        refine ⟨⟨(by omega), (by omega)⟩, ?_⟩
        conv => whnf
        refine .inl ?_
        conv => whnf
        refine ⟨by assumption, ?_⟩
        conv => whnf
        refine ⟨[], [0, 1, 2, 3, 18, 19, 20], fun st mq => ∃ (j : Nat) (F4 : Nat → List AV), (j ≤ (stp p r.1.1).exits.length + 1) ∧ (∀ i, i < j → (!hasQ l ((succs p r.1.2 r.1.1).getD i (0, 0), r.1.2)) = false) ∧ st = ⟨[(0, .yld 0), (1, .rptr (planC p)), (2, .rptr (stC r.1.1)), (3, .rptr (fltC r.1.2)), (18, .oslice 5 0 0 (1 + (stp p r.1.1).exits.length) none), (19, i64 ((1 + (stp p r.1.1).exits.length : Nat) : Int)), (20, i64 j)], ⟨[⟨3, 1, fun _ => planC p, 0, false, true, true⟩, ⟨1, 1, fun _ => [pmA l l.length], 0, false, true, true⟩, ⟨5, 1, fun _ => rkC r, 0, false, true, true⟩, ⟨1, 1, fun _ => [i64 0], 0, false, true, true⟩, ⟨1, 1, F4, 0, false, true, false⟩, ⟨1, 1 + (stp p r.1.1).exits.length, fun i => [i64 (cAt p r.1.1 i)], 0, false, true, false⟩], [], none, 1⟩, [(3, .optr 0 0 0 0), (4, .optr 1 0 0 0), (5, .optr 2 0 0 0), (6, .optr 3 0 0 0), (46, .func (.func 134) 0 [.rptr (planC p), .rptr (stC r.1.1), .rptr (fltC r.1.2)])]⟩ ∧ mq = (stp p r.1.1).exits.length + 1 - j,
          ⟨_, _, ⟨0, _, by omega, fun i h => absurd h (Nat.not_lt_zero i), rfl, rfl⟩, ⟨⟨.inl rfl, rfl, rfl, rfl⟩, ⟨⟨rfl, rfl, rfl, rfl, fun _ => rfl, fun _ _ => .inl rfl⟩, ⟨⟨rfl, rfl, rfl, rfl, fun _ => rfl, fun _ _ => .inl rfl⟩, ⟨⟨rfl, rfl, rfl, rfl, fun _ => rfl, fun _ _ => .inl rfl⟩, ⟨⟨rfl, rfl, rfl, rfl, fun _ => rfl, fun _ _ => .inl rfl⟩, ⟨⟨rfl, rfl, rfl, rfl, fun _ => rfl, fun _ _ => .inl rfl⟩, ⟨⟨rfl, rfl, rfl, rfl, fun _ => rfl, fun i h => .inl (cAt_row h)⟩, trivial⟩⟩⟩⟩⟩⟩, trivial⟩⟩, ?_⟩
        rintro s0 m0 ⟨j, F4, hj, hn2, rfl, hmeas⟩
        by_cases hlt : j < (stp p r.1.1).exits.length + 1
        · have h92 := fun c => S92 p r.1.1 r.1.2 c hat
          conv => whnf
          conv => whnf
          refine ifB_dec (fun w2 => ?_) (fun w2 => ?_)
          · conv => whnf
            conv => whnf
            refine ⟨⟨(by omega), (by omega)⟩, ?_⟩
            conv => whnf
            conv => whnf
            refine .inl ⟨_, _, byX rfl (Sound1.pl (h92 _) rfl), ?_⟩
            conv => whnf
            conv => whnf
            refine ⟨(by first | rfl | assumption), ?_⟩
            conv => whnf
            conv => whnf
            refine ifB_not ?_
            conv => whnf
            conv => whnf
            refine ifB_intro (fun w3 => ?_) (fun w3 => ?_)
            · conv => whnf
              conv => whnf
              refine ⟨inK64 (by omega) (by omega), ?_⟩
              have e : hasQ l ((turnF p r.1.2 r.1.1 (cAt p r.1.1 j)).1, r.1.2) = true := has_key w3
              conv => whnf
              conv => whnf
              refine ⟨_, _, ⟨⟨j + 1, _, by omega, inv_nextB hn2 (by rw [succs_at hlt, e]; rfl), rfl, rfl⟩, by omega⟩, ⟨⟨.inl rfl, rfl, rfl, rfl⟩, ⟨⟨rfl, rfl, rfl, rfl, fun _ => rfl, fun _ _ => .inl rfl⟩, ⟨⟨rfl, rfl, rfl, rfl, fun _ => rfl, fun _ _ => .inl rfl⟩, ⟨⟨rfl, rfl, rfl, rfl, fun _ => rfl, fun _ _ => .inl rfl⟩, ⟨⟨rfl, rfl, rfl, rfl, fun _ => rfl, fun _ _ => .inl rfl⟩, ⟨⟨rfl, rfl, rfl, rfl, fun _ => rfl, fun _ _ => .inl rfl⟩, ⟨⟨rfl, rfl, rfl, rfl, fun _ => rfl, fun _ _ => .inl rfl⟩, trivial⟩⟩⟩⟩⟩⟩, trivial⟩⟩
            · conv => whnf
              conv => whnf
              refine ⟨?_, nofun⟩
              have e : hasQ l ((turnF p r.1.2 r.1.1 (cAt p r.1.1 j)).1, r.1.2) = false := has_key w3
              refine endi (hF.trans (if_pos ?_)).symm
              unfold missS
              rw [firstN_at (k := j) (by rw [succs_len]; exact hlt) hn2 (by rw [succs_at hlt, e]; rfl)]; rfl
          · (exfalso; omega)
        · obtain rfl : j = (stp p r.1.1).exits.length + 1 := by omega
          have hS : missS p l r.1 = false := by
            unfold missS
            rw [firstN_none (by rw [succs_len]; exact hn2)]; rfl
          rw [hS] at hF
          have hF := hF.trans (if_neg nofun)
          cases hx : homeTurnF p r.1.2 r.1.1 with
          | none =>
            rw [hx] at h81 hF
            conv => whnf
            conv => whnf
            refine ifB_dec (fun w2 => ?_) (fun w2 => ?_)
            · (exfalso; omega)
            · conv => whnf
              conv => whnf
              refine .inl ⟨_, _, byX rfl (Sound1.pl (h118) rfl), ?_⟩
              conv => whnf
              conv => whnf
              refine ifB_not ?_
              conv => whnf
              conv => whnf
              refine ifB_beqB (fun w3 => ?_) (fun w3 => ?_)
              · conv => whnf
                conv => whnf
                refine .inl ⟨_, _, byX rfl (Sound1.pl (h81) rfl), ?_⟩
                conv => whnf
                conv => whnf
                refine ⟨[], by kernel_rfl, ?_⟩
                conv => whnf
                conv => whnf
                refine ifB_intro (fun w4 => ?_) (fun w4 => ?_)
                · conv => whnf
                  conv => whnf
                  refine .inl ⟨_, _, byX rfl (Sound1.pl (S69 _ _) rfl), ?_⟩
                  conv => whnf
                  conv => whnf
                  refine ⟨?_, nofun⟩
                  exact endi ((rank_a hF).2.1 w3 w4).symm
                · conv => whnf
                  conv => whnf
                  refine .inl ⟨_, _, byX rfl (Sound1.pl (S69 _ _) rfl), ?_⟩
                  conv => whnf
                  conv => whnf
                  refine ⟨?_, nofun⟩
                  exact endi ((rank_a hF).2.2 w3 w4).symm
              · conv => whnf
                conv => whnf
                refine ⟨?_, nofun⟩
                exact endi ((rank_a hF).1 w3).symm
          | some x =>
            rw [hx] at h81 hF
            conv => whnf
            conv => whnf
            refine ifB_dec (fun w2 => ?_) (fun w2 => ?_)
            · (exfalso; omega)
            · conv => whnf
              conv => whnf
              refine .inl ⟨_, _, byX rfl (Sound1.pl (h118) rfl), ?_⟩
              conv => whnf
              conv => whnf
              refine ifB_not ?_
              conv => whnf
              conv => whnf
              refine ifB_beqB (fun w3 => ?_) (fun w3 => ?_)
              · conv => whnf
                conv => whnf
                refine .inl ⟨_, _, byX rfl (Sound1.pl (h81) rfl), ?_⟩
                conv => whnf
                conv => whnf
                refine ⟨[], by kernel_rfl, ?_⟩
                conv => whnf
                conv => whnf
                refine ifB_intro (fun w4 => ?_) (fun w4 => ?_)
                · conv => whnf
                  conv => whnf
                  refine .inl ⟨_, _, byX rfl (Sound1.pl (S69 _ _) rfl), ?_⟩
                  conv => whnf
                  conv => whnf
                  refine ⟨?_, nofun⟩
                  exact endi ((rank_a hF).2.1 w3 w4).symm
                · conv => whnf
                  conv => whnf
                  refine .inl ⟨_, _, byX rfl (Sound1.pl (S69 _ _) rfl), ?_⟩
                  conv => whnf
                  conv => whnf
                  refine ⟨?_, nofun⟩
                  exact endi (rank_if ((rank_a hF).2.2 w3 w4))
              · conv => whnf
                conv => whnf
                refine ⟨?_, nofun⟩
                exact endi ((rank_a hF).1 w3).symm
end Go.Tr

/- The law SequenceProofs returns true. Conditions: none. -/
namespace Go.Tr
open Go Go.Proofs
set_option maxRecDepth 20000
set_option maxHeartbeats 8000000

theorem S83_4 (a b c d : Int) {f : Nat → List AV} (h : f 0 = [i64 a] ∧ f 1 = [i64 b] ∧ f 2 = [i64 c] ∧ f 3 = [i64 d]) : SP 83 [.rslice 1 4 f] (i64 (firstOf [a, b, c, d])) false := by
  have key : ∀ i, i < 4 → f i = [i64 (([a, b, c, d] : List Int).getD i 0)] := fun i hi => by
    match i, hi with
    | 0, _ => exact h.1
    | 1, _ => exact h.2.1
    | 2, _ => exact h.2.2.1
    | 3, _ => exact h.2.2.2
  refine (S83 [a, b, c, d] (by simp)).argsD rfl fun i y x hy hx => ?_
  match i, hy, hx with
  | 0, hy, hx => cases hy; cases hx; exact .inr ⟨1, AVF_rows rfl key 0⟩
theorem rank1_pk (p : Pln) (l : List Rnk) (k : Nat) : firstOf [stateE p (l.getD k rk0).1.1, faultE p (l.getD k rk0).1.2, if decide (0 ≤ (l.getD k rk0).2 ∧ (l.getD k rk0).2 ≤ 4000) = true then 0 else 2, if (!hasK l k (l.getD k rk0).1) = true then 0 else 23] = rank1E p l k := by
  unfold rank1E hasK
  cases (findN l (l.getD k rk0).1 k).isSome <;> rfl
theorem rank1_no {p : Pln} {l : List Rnk} {k : Nat} (h : rank1E p l k = 0) : hasK l k (l.getD k rk0).1 = false := by
  unfold rank1E at h
  rw [first4_iff] at h
  unfold hasK
  cases hh : (findN l (l.getD k rk0).1 k).isSome with
  | false => rfl
  | true => rw [hh] at h; exact absurd h.2.2.2 (by decide)
theorem S62e (p : Pln) (hp : FewP p) (l : List Rnk) (h : ¬ firstOf [(checkP p).2, if decide ((l.length : Int) ≤ 4000) = true then 0 else 8] = 0) : SP 62 [planA p, ranksA l] (t2 0 (firstOf [(checkP p).2, if decide ((l.length : Int) ≤ 4000) = true then 0 else 8])) false := by
  have h101 := S101 p hp
  refine sound (d := 2) tok2 mixed2 Tryd.func62 (by kernel_rfl) (by kernel_rfl) ?_
  conv => whnf
  refine .inl ⟨_, _, byX rfl (h101), ?_⟩
  conv => whnf
  refine .inl ⟨_, _, byX rfl (Sound1.pl (S69 _ _) rfl), ?_⟩
  conv => whnf
  refine .inl ⟨_, _, byX rfl (Sound1.pl (S83_2 _ _ ⟨rfl, rfl⟩) rfl), ?_⟩
  conv => whnf
  refine ifB_bne (fun w1 => ?_) (fun w1 => ?_)
  · conv => whnf
    refine ⟨?_, nofun⟩
    exact ave_tup2 rfl rfl
  · (exfalso; omega)
theorem S62 (p : Pln) (hp : FewP p) (hg : Good p) (h0 : (checkP p).2 = 0) (l : List Rnk) (hl : l.length ≤ 4000) : SP 62 [planA p, ranksA l] (t2 (ranksF p l).1 (ranksF p l).2) false := by
  have hn5 := hg.n
  have hm10 := hg.m
  have h101 := S101 p hp
  rw [h0] at h101
  have hz : firstOf [0, if decide ((l.length : Int) ≤ 4000) = true then 0 else 8] = 0 := by
    rw [decide_eq_true (by omega)]; rfl
  refine sound (d := 2) tok2 mixed2 Tryd.func62 (by kernel_rfl) (by kernel_rfl) ?_
  conv => whnf
  refine .inl ⟨_, _, byX rfl (h101), ?_⟩
  conv => whnf
  refine .inl ⟨_, _, byX rfl (Sound1.pl (S69 _ _) rfl), ?_⟩
  conv => whnf
  refine .inl ⟨_, _, byX rfl (Sound1.pl (S83_2 _ _ ⟨rfl, rfl⟩) rfl), ?_⟩
  conv => whnf
  refine ifB_bne (fun w1 => ?_) (fun w1 => ?_)
  · (exfalso; omega)
  · · conv => whnf
      refine ⟨[], [1, 2, 6, 8, 36, 37, 38], fun st mq => ∃ (k : Nat) (F2 : Nat → List AV), (k ≤ l.length) ∧ (∀ i, i < k → (rank1E p l i != 0) = false) ∧ st = ⟨[(1, ranksA l), (2, .optr 0 0 0 0), (6, .optr 1 0 0 0), (8, .omap 0), (36, ranksA l), (37, i64 l.length), (38, i64 k)], ⟨[⟨3, 1, fun _ => planC p, 0, false, true, true⟩, ⟨3, 1, fun _ => planC p, 0, false, true, true⟩, ⟨1, 2, F2, 0, false, true, false⟩], [⟨kkP, 3, hasP (hasK l k), getP (lookK l k), false, none, 0, .top⟩], none, 0⟩, []⟩ ∧ mq = l.length - k,
        ⟨_, _, ⟨0, _, by omega, fun i h => absurd h (Nat.not_lt_zero i), rfl, rfl⟩, ⟨⟨.inl rfl, rfl, rfl, rfl⟩, ⟨⟨rfl, rfl, rfl, rfl, fun _ => rfl, fun _ _ => .inl rfl⟩, ⟨⟨rfl, rfl, rfl, rfl, fun _ => rfl, fun _ _ => .inl rfl⟩, ⟨⟨rfl, rfl, rfl, rfl, fun _ => rfl, fun _ _ => .inl rfl⟩, trivial⟩⟩⟩, ⟨⟨rfl, rfl, rfl, trivial, .inl rfl, fun v => And.imp id Or.inl (⟨hasP_nil l v, getP_nil l v⟩)⟩, trivial⟩⟩⟩, ?_⟩
      rintro s0 m0 ⟨k, F2, hk, h1, rfl, hmeas⟩
      by_cases hlt : k < l.length
      · have h109 := S109 p (by omega) (by omega) (l.getD (k : Int).toNat rk0).1.1
        have h103 := S103 p (by omega) (l.getD (k : Int).toNat rk0).1.2
        have h78 := S78 (l.getD (k : Int).toNat rk0).2 0 4000
        have hF := rank1_pk p l k
        conv => whnf
        conv => whnf
        refine ifB_dec (fun w2 => ?_) (fun w2 => ?_)
        · conv => whnf
          conv => whnf
          refine ⟨⟨(by omega), (by omega)⟩, ?_⟩
          conv => whnf
          conv => whnf
          refine ⟨[], by kernel_rfl, ?_⟩
          conv => whnf
          conv => whnf
          refine .inl ⟨_, _, byX rfl (Sound1.pl (h109) rfl), ?_⟩
          conv => whnf
          conv => whnf
          refine .inl ⟨_, _, byX rfl (Sound1.pl (h103) rfl), ?_⟩
          conv => whnf
          conv => whnf
          refine .inl ⟨_, _, byX rfl (Sound1.pl (h78) rfl), ?_⟩
          conv => whnf
          conv => whnf
          refine .inl ⟨_, _, byX rfl (Sound1.pl (S69 _ _) rfl), ?_⟩
          conv => whnf
          conv => whnf
          refine .inl ⟨_, _, byX rfl (Sound1.pl (S69 _ _) rfl), ?_⟩
          conv => whnf
          conv => whnf
          refine .inl ⟨_, _, byX rfl (Sound1.pl (S83_4 _ _ _ _ ⟨rfl, rfl, rfl, rfl⟩) rfl), ?_⟩
          conv => whnf
          conv => whnf
          refine ifB_bne (fun w3 => ?_) (fun w3 => ?_)
          · conv => whnf
            conv => whnf
            refine ⟨?_, nofun⟩
            rw [ranks_1 hlt h1 (fun e => w3 (hF.trans e))]
            exact ave_tup2 rfl (ave_i64 3 hF)
          · conv => whnf
            conv => whnf
            refine ⟨inK64 (by omega) (by omega), ?_⟩
            have e0 : rank1E p l k = 0 := hF.symm.trans w3
            have hno := rank1_no e0
            conv => whnf
            conv => whnf
            refine ⟨_, _, ⟨⟨k + 1, _, by omega, inv_nextB h1 (bne_eq_false_iff_eq.2 e0), rfl, rfl⟩, by omega⟩, ⟨⟨.inl rfl, rfl, rfl, rfl⟩, ⟨⟨rfl, rfl, rfl, rfl, fun _ => rfl, fun _ _ => .inl rfl⟩, ⟨⟨rfl, rfl, rfl, rfl, fun _ => rfl, fun _ _ => .inl rfl⟩, ⟨⟨rfl, rfl, rfl, rfl, fun _ => rfl, fun _ _ => .inl rfl⟩, trivial⟩⟩⟩, ⟨⟨rfl, rfl, rfl, trivial, .inl rfl, fun v => And.imp id Or.inl (⟨(hasP_put l k v).symm, (getP_put l k hno v).symm⟩)⟩, trivial⟩⟩⟩
        · (exfalso; omega)
      · obtain rfl : k = l.length := by omega
        have hst := hasQ_find (l := l) (q := rankS p)
        conv => whnf
        conv => whnf
        refine ifB_dec (fun w2 => ?_) (fun w2 => ?_)
        · (exfalso; omega)
        · conv => whnf
          conv => whnf
          refine ifB_not ?_
          conv => whnf
          conv => whnf
          refine ifB_intro (fun w3 => ?_) (fun w3 => ?_)
          · have hs0 : ¬ findI l (rankS p) l.length < 0 := of_decide_eq_true (hst.symm.trans w3)
            conv => whnf
            conv => whnf
            refine ⟨[], [6, 8, 92, 93, 94], fun st mq => ∃ (j : Nat) (F2 : Nat → List AV), (j ≤ l.length) ∧ (∀ i, i < j → (rank2E p l (l.getD i rk0) != 0) = false) ∧ st = ⟨[(6, .optr 1 0 0 0), (8, .omap 0), (92, ranksA l), (93, i64 l.length), (94, i64 j)], ⟨[⟨3, 1, fun _ => planC p, 0, false, true, true⟩, ⟨3, 1, fun _ => planC p, 0, false, true, true⟩, ⟨1, 2, F2, 0, false, true, false⟩], [⟨kkP, 3, hasP (hasK l l.length), getP (lookK l l.length), false, none, 0, .top⟩], none, 0⟩, []⟩ ∧ mq = l.length - j,
              ⟨_, _, ⟨0, _, by omega, fun i h => absurd h (Nat.not_lt_zero i), rfl, rfl⟩, ⟨⟨.inl rfl, rfl, rfl, rfl⟩, ⟨⟨rfl, rfl, rfl, rfl, fun _ => rfl, fun _ _ => .inl rfl⟩, ⟨⟨rfl, rfl, rfl, rfl, fun _ => rfl, fun _ _ => .inl rfl⟩, ⟨⟨rfl, rfl, rfl, rfl, fun _ => rfl, fun _ _ => .inl rfl⟩, trivial⟩⟩⟩, ⟨⟨rfl, rfl, rfl, trivial, .inl rfl, fun _ => ⟨rfl, .inl rfl⟩⟩, trivial⟩⟩⟩, ?_⟩
            rintro s0 m0 ⟨j, F2, hj, h2, rfl, hmeas⟩
            by_cases hlt2 : j < l.length
            · have hok := rank_ok (h1 j hlt2)
              have h110 := S110 p hg l (by omega) (l.getD (j : Int).toNat rk0) hok.1
              conv => whnf
              conv => whnf
              conv => whnf
              refine ifB_dec (fun w4 => ?_) (fun w4 => ?_)
              · conv => whnf
                conv => whnf
                conv => whnf
                refine ⟨⟨(by omega), (by omega)⟩, ?_⟩
                conv => whnf
                conv => whnf
                conv => whnf
                refine .inl ⟨_, _, byX rfl (Sound1.pl (h110) rfl), ?_⟩
                conv => whnf
                conv => whnf
                conv => whnf
                refine ifB_bne (fun w5 => ?_) (fun w5 => ?_)
                · conv => whnf
                  conv => whnf
                  conv => whnf
                  refine ⟨?_, nofun⟩
                  rw [ranks_2 h1 hs0 hlt2 h2 w5]
                  exact ave_tup2 rfl rfl
                · conv => whnf
                  conv => whnf
                  conv => whnf
                  refine ⟨inK64 (by omega) (by omega), ?_⟩
                  conv => whnf
                  conv => whnf
                  conv => whnf
                  refine ⟨_, _, ⟨⟨j + 1, _, by omega, inv_nextB h2 (bne_eq_false_iff_eq.2 w5), rfl, rfl⟩, by omega⟩, ⟨⟨.inl rfl, rfl, rfl, rfl⟩, ⟨⟨rfl, rfl, rfl, rfl, fun _ => rfl, fun _ _ => .inl rfl⟩, ⟨⟨rfl, rfl, rfl, rfl, fun _ => rfl, fun _ _ => .inl rfl⟩, ⟨⟨rfl, rfl, rfl, rfl, fun _ => rfl, fun _ _ => .inl rfl⟩, trivial⟩⟩⟩, ⟨⟨rfl, rfl, rfl, trivial, .inl rfl, fun _ => ⟨rfl, .inl rfl⟩⟩, trivial⟩⟩⟩
              · (exfalso; omega)
            · obtain rfl : j = l.length := by omega
              conv => whnf
              conv => whnf
              conv => whnf
              refine ifB_dec (fun w4 => ?_) (fun w4 => ?_)
              · (exfalso; omega)
              · conv => whnf
                conv => whnf
                conv => whnf
                refine ⟨?_, nofun⟩
                rw [ranks_0 h1 hs0 h2]
                exact ave_tup2 rfl rfl
          · conv => whnf
            conv => whnf
            refine ⟨?_, nofun⟩
            have hs0 : findI l (rankS p) l.length < 0 := Decidable.of_not_not (of_decide_eq_false (hst.symm.trans w3))
            rw [ranks_14 h1 hs0]
            exact ave_tup2 rfl rfl
theorem S12 (p : Pln) (hl : p.sig.length ≤ 9223372036854775807 ∧ p.steps.length ≤ 9223372036854775807) (l : List Rnk) (hll : l.length ≤ 9223372036854775807) : SP 12 [planA p, ranksA l] (vb true) false := by
  have h14 := S14 p hl
  cases hf : fewB p with
  | false =>
    rw [hf] at h14
    refine sound (d := 2) tok2 mixed2 Tryd.func12 (by kernel_rfl) (by kernel_rfl) ?_
    conv => whnf
    refine .inl ⟨_, _, byX rfl (Sound1.pl (S13) rfl), ?_⟩
    conv => whnf
    refine .inl ⟨_, _, byX rfl (Sound1.pl (h14) rfl), ?_⟩
    conv => whnf
    refine ⟨?_, nofun⟩
    (rfl)
  | true =>
    rw [hf] at h14
    have hp := FewP.of hf
    by_cases hc : (l.length > 300 ∧ l.length ≤ 4000) ∨ l.length > 4002
    · refine sound (d := 2) tok2 mixed2 Tryd.func12 (by kernel_rfl) (by kernel_rfl) ?_
      conv => whnf
      refine .inl ⟨_, _, byX rfl (Sound1.pl (S13) rfl), ?_⟩
      conv => whnf
      refine .inl ⟨_, _, byX rfl (Sound1.pl (h14) rfl), ?_⟩
      conv => whnf
      refine ifB_dec (fun w1 => ?_) (fun w1 => ?_)
      · conv => whnf
        refine ifB_dec (fun w2 => ?_) (fun w2 => ?_)
        · conv => whnf
          refine ⟨?_, nofun⟩
          (rfl)
        · conv => whnf
          refine ifB_dec (fun w3 => ?_) (fun w3 => ?_)
          · conv => whnf
            refine ⟨?_, nofun⟩
            (rfl)
          · (exfalso; omega)
      · (exfalso; omega)
    · have h18 := S18 p hp
      have h63 := S63 l (by omega)
      have h15 := S15 p hp
      by_cases h0 : (checkP p).2 = 0
      · have hg := Good.of hp h0
        rw [h0] at h15
        by_cases h4 : l.length ≤ 4000
        · have h62 := S62 p hp hg h0 l h4
          have h64 := S64 p hg l h4
          refine sound (d := 2) tok2 mixed2 Tryd.func12 (by kernel_rfl) (by kernel_rfl) ?_
          conv => whnf
          refine .inl ⟨_, _, byX rfl (Sound1.pl (S13) rfl), ?_⟩
          conv => whnf
          refine .inl ⟨_, _, byX rfl (Sound1.pl (h14) rfl), ?_⟩
          conv => whnf
          refine ifB_dec (fun w1 => ?_) (fun w1 => ?_)
          · (exfalso; omega)
          · conv => whnf
            refine ifB_dec (fun w2 => ?_) (fun w2 => ?_)
            · (exfalso; omega)
            · conv => whnf
              refine .inl ⟨_, _, byX rfl (h18), ?_⟩
              conv => whnf
              refine .inl ⟨_, _, byX rfl (h63), ?_⟩
              conv => whnf
              refine .inl ⟨_, _, byX rfl (Sound1.pl (h62) rfl), ?_⟩
              conv => whnf
              refine .inl ⟨_, _, byX rfl (Sound1.pl (h15) rfl), ?_⟩
              conv => whnf
              refine .inl ⟨_, _, byX rfl (Sound1.pl (h64) rfl), ?_⟩
              conv => whnf
              refine ifB_beq (fun w3 => ?_) (fun w3 => ?_)
              · conv => whnf
                refine ⟨?_, nofun⟩
                (exact endb (beq_self_eq_true _))
              · (exfalso; omega)
        · have e : firstOf [(checkP p).2, if decide ((l.length : Int) ≤ 4000) = true then 0 else 8] = 8 := by
            rw [h0, decide_eq_false (by omega)]; rfl
          have h62 := S62e p hp l (by rw [e]; decide)
          rw [e] at h62
          have h64 := S64b p l h4
          refine sound (d := 2) tok2 mixed2 Tryd.func12 (by kernel_rfl) (by kernel_rfl) ?_
          conv => whnf
          refine .inl ⟨_, _, byX rfl (Sound1.pl (S13) rfl), ?_⟩
          conv => whnf
          refine .inl ⟨_, _, byX rfl (Sound1.pl (h14) rfl), ?_⟩
          conv => whnf
          refine ifB_dec (fun w1 => ?_) (fun w1 => ?_)
          · conv => whnf
            refine ifB_dec (fun w2 => ?_) (fun w2 => ?_)
            · (exfalso; omega)
            · conv => whnf
              refine ifB_dec (fun w3 => ?_) (fun w3 => ?_)
              · (exfalso; omega)
              · conv => whnf
                refine .inl ⟨_, _, byX rfl (h18), ?_⟩
                conv => whnf
                refine .inl ⟨_, _, byX rfl (h63), ?_⟩
                conv => whnf
                refine .inl ⟨_, _, byX rfl (Sound1.pl (h62) rfl), ?_⟩
                conv => whnf
                refine .inl ⟨_, _, byX rfl (Sound1.pl (h15) rfl), ?_⟩
                conv => whnf
                refine .inl ⟨_, _, byX rfl (Sound1.pl (h64) rfl), ?_⟩
                conv => whnf
                refine ⟨?_, nofun⟩
                (rfl)
          · (exfalso; omega)
      · have e : firstOf [(checkP p).2, if decide ((l.length : Int) ≤ 4000) = true then 0 else 8] = (checkP p).2 := by
          rw [first2, if_pos h0]
        have h62 := S62e p hp l (by rw [e]; exact h0)
        rw [e] at h62
        refine sound (d := 2) tok2 mixed2 Tryd.func12 (by kernel_rfl) (by kernel_rfl) ?_
        conv => whnf
        refine .inl ⟨_, _, byX rfl (Sound1.pl (S13) rfl), ?_⟩
        conv => whnf
        refine .inl ⟨_, _, byX rfl (Sound1.pl (h14) rfl), ?_⟩
        conv => whnf
        refine ifB_dec (fun w1 => ?_) (fun w1 => ?_)
        · conv => whnf
          refine ifB_dec (fun w2 => ?_) (fun w2 => ?_)
          · (exfalso; omega)
          · conv => whnf
            refine ifB_dec (fun w3 => ?_) (fun w3 => ?_)
            · (exfalso; omega)
            · conv => whnf
              refine .inl ⟨_, _, byX rfl (h18), ?_⟩
              conv => whnf
              refine .inl ⟨_, _, byX rfl (h63), ?_⟩
              conv => whnf
              refine .inl ⟨_, _, byX rfl (Sound1.pl (h62) rfl), ?_⟩
              conv => whnf
              refine .inl ⟨_, _, byX rfl (Sound1.pl (h15) rfl), ?_⟩
              conv => whnf
              refine ifB_bne (fun w4 => ?_) (fun w4 => ?_)
              · conv => whnf
                refine ifB_beq (fun w5 => ?_) (fun w5 => ?_)
                · conv => whnf
                  refine ⟨?_, nofun⟩
                  (rfl)
                · (exfalso; omega)
              · (exfalso; omega)
        · conv => whnf
          refine ifB_dec (fun w2 => ?_) (fun w2 => ?_)
          · (exfalso; omega)
          · conv => whnf
            refine .inl ⟨_, _, byX rfl (h18), ?_⟩
            conv => whnf
            refine .inl ⟨_, _, byX rfl (h63), ?_⟩
            conv => whnf
            refine .inl ⟨_, _, byX rfl (Sound1.pl (h62) rfl), ?_⟩
            conv => whnf
            refine .inl ⟨_, _, byX rfl (Sound1.pl (h15) rfl), ?_⟩
            conv => whnf
            refine ifB_bne (fun w3 => ?_) (fun w3 => ?_)
            · conv => whnf
              refine ifB_beq (fun w4 => ?_) (fun w4 => ?_)
              · conv => whnf
                refine ⟨?_, nofun⟩
                (rfl)
              · (exfalso; omega)
            · (exfalso; omega)
end Go.Tr

/- The opening of a law: what an argument reads as, as abstract values, with its shape. Conditions: types of numbers, truth values, strings, slices, structs and arrays. -/
namespace Go.Tr
open Go Go.RowKit

def V2 (P : Program) (w : World) (q : Nat → Prop) : List AV → List Value → Prop
  | [], [] => True
  | x :: xs, v :: vs => (VT P w q x v ∧ v.oneCell' = true) ∧ V2 P w q xs vs
  | _, _ => False

def All2 {α β : Type} (p : α → β → Prop) : List α → List β → Prop
  | [], [] => True
  | x :: xs, y :: ys => p x y ∧ All2 p xs ys
  | _, _ => False

/-- The shape of what a type's cells read as. -/
def TyC (P : Program) : Nat → TypeId → List AV → Prop
  | 0, _, _ => True
  | m + 1, t, xs => match P.underlying t with
    | some .bool => ∃ b, xs = [.val (.bool b)]
    | some (.int k) => ∃ n, xs = [.val (.int k n)] ∧ inK k n
    | some .string => ∃ s : ByteArray, xs = [.val (.string s)] ∧ s.size ≤ 9223372036854775807
    | some (.slice e) => ∃ len f, xs = [.rslice (P.cellsOf e) len f] ∧ len ≤ 9223372036854775807 ∧ ∀ i, i < len → TyC P m e (f i)
    | some (.struct fs) => ∃ ps : List (List AV), xs = ps.flatten ∧ All2 (fun f p => TyC P m f.type p) fs.toList ps
    | some (.array n e) => ∃ ps : List (List AV), xs = ps.flatten ∧ ps.length = n ∧ ∀ p ∈ ps, TyC P m e p
    | _ => False

def layF (P : Program) (g : TypeId → Bool) : List Field → Nat → Nat → Bool
  | [], off, tot => Nat.beq off tot
  | f :: r, off, tot => Nat.beq f.offset off && g f.type && layF P g r (off + P.cellsOf f.type) tot

/-- Types that are covered, laid out part behind part. -/
def lay (P : Program) : Nat → TypeId → Bool
  | 0, _ => false
  | m + 1, t => match P.underlying t with
    | some .bool | some (.int _) | some .string => true
    | some (.slice e) => Nat.blt 0 (P.cellsOf e) && lay P m e
    | some (.struct fs) => layF P (lay P m) fs.toList 0 (P.cellsOf t)
    | some (.array n e) => Nat.beq (P.cellsOf t) (n * P.cellsOf e) && lay P m e
    | _ => false

section
variable {H : Type} {enc : TypeId × Value → H} {P : Program} {w : World} {spare : Nat → Bool} {held : Bool} {q : Nat → Prop}

theorem V2_len : ∀ {xs : List AV} {vs : List Value}, V2 P w q xs vs → xs.length = vs.length
  | [], [], _ => rfl
  | x :: xs, v :: vs, h => by simp [V2_len h.2]
  | [], _ :: _, h => h.elim
  | _ :: _, [], h => h.elim

theorem V2_append : ∀ {xs : List AV} {vs : List Value} {ys : List AV} {us : List Value}, V2 P w q xs vs → V2 P w q ys us → V2 P w q (xs ++ ys) (vs ++ us)
  | [], [], _, _, _, h => h
  | _ :: _, _ :: _, _, _, h, h' => ⟨h.1, V2_append h.2 h'⟩
  | [], _ :: _, _, _, h, _ => h.elim
  | _ :: _, [], _, _, h, _ => h.elim

theorem V2_get : ∀ {xs : List AV} {vs : List Value}, V2 P w q xs vs → ∀ (i : Nat) x, xs[i]? = some x → VT P w q x (vs.getD i undef) ∧ (vs.getD i undef).oneCell' = true
  | [], [], _, i, x, hx => by simp at hx
  | y :: ys, v :: vs, h, 0, x, hx => by
    simp at hx
    subst hx
    simpa using h.1
  | y :: ys, v :: vs, h, i + 1, x, hx => by
    have := V2_get h.2 i x (by simpa using hx)
    simpa using this
  | [], _ :: _, h, _, _, _ => h.elim
  | _ :: _, [], h, _, _, _ => h.elim

theorem mapM_cons_some {α β : Type} {f : α → Option β} {a : α} {l : List α} {r : List β} (h : (a :: l).mapM f = some r) : ∃ b bs, f a = some b ∧ l.mapM f = some bs ∧ r = b :: bs := by
  rw [List.mapM_cons] at h
  cases ha : f a with
  | none => simp [ha] at h
  | some b =>
    cases hl : l.mapM f with
    | none => simp [ha, hl] at h
    | some bs => simp [ha, hl] at h; exact ⟨b, bs, rfl, rfl, h.symm⟩

theorem mapM_get {α β : Type} {f : α → Option β} : ∀ {l : List α} {r : List β}, l.mapM f = some r → r.length = l.length ∧ ∀ (i : Nat) x, l[i]? = some x → ∃ y, f x = some y ∧ r[i]? = some y
  | [], r, h => by simp at h; subst h; exact ⟨rfl, fun i x hx => by simp at hx⟩
  | a :: l, r, h => by
    obtain ⟨b, bs, h1, h2, rfl⟩ := mapM_cons_some h
    obtain ⟨g1, g2⟩ := mapM_get h2
    refine ⟨by simp [g1], fun i x hx => ?_⟩
    cases i with
    | zero => simp at hx; subst hx; exact ⟨b, h1, rfl⟩
    | succ i => simpa using g2 i x (by simpa using hx)

theorem cells_some {a : Addr} {n : Nat} {cs : List Value} (h : w.cells? 0 a n = some cs) : cs.length = n ∧ ∀ j, j < n → w.cell? (a.add j) = some (cs.getD j undef) := by
  unfold World.cells? at h
  rw [if_pos (Nat.zero_le _)] at h
  obtain ⟨h1, h2⟩ := mapM_get h
  refine ⟨by simpa using h1, fun j hj => ?_⟩
  obtain ⟨y, h3, h4⟩ := h2 j j (by simp [hj])
  rw [h3, List.getD_eq_getElem?_getD, h4]
  rfl

theorem cell_spot {a : Addr} {v : Value} (h : w.cell? a = some v) : a.spot = none ∧ a.block < w.heap.size := by
  unfold World.cell? at h
  split at h
  · rename_i c t fr hb
    refine ⟨?_, ?_⟩
    · cases hs : a.spot with
      | none => rfl
      | some s => simp [hs] at h
    · exact (Array.getElem?_eq_some_iff.1 hb).1
  · cases h

theorem addr_add2 (blk off u j : Nat) : ((⟨blk, off, none⟩ : Addr).add u).add j = ⟨blk, off + (u + j), none⟩ := by
  unfold Addr.add
  by_cases h1 : u = 0
  · subst h1
    by_cases h2 : j = 0
    · subst h2; rfl
    · simp [h2]
  · by_cases h2 : j = 0
    · subst h2; simp [h1]
    · simp [h1, h2, Nat.add_assoc]

theorem fields_av {g : TypeId → List Value → Option (DataW H × List MemPlace)} {T : TypeId → List AV → Prop} {ly : TypeId → Bool}
    (ih : ∀ t, ly t = true → ∀ cs x, g t cs = some x → ∃ xs, V2 P w q xs cs ∧ T t xs) (cs : List Value) : ∀ (fs : List Field) (off : Nat) (r : List (DataW H × List MemPlace)), layF P ly fs off cs.length = true →
    (fs.mapM fun f => g f.type ((cs.drop f.offset).take (P.cellsOf f.type))) = some r → ∃ ps : List (List AV), V2 P w q ps.flatten (cs.drop off) ∧ All2 (fun f p => T f.type p) fs ps
  | [], off, r, hl, h => by
    have := Nat.eq_of_beq_eq_true hl
    subst this
    exact ⟨[], by simp [V2], trivial⟩
  | f :: fs, off, r, hl, h => by
    simp only [layF, Bool.and_eq_true] at hl
    obtain ⟨⟨h1, h2⟩, h3⟩ := hl
    have e := Nat.eq_of_beq_eq_true h1
    obtain ⟨b, bs, g1, g2, rfl⟩ := mapM_cons_some h
    obtain ⟨p, p1, p2⟩ := ih _ h2 _ _ g1
    obtain ⟨ps, r1, r2⟩ := fields_av ih cs fs _ _ h3 g2
    refine ⟨p :: ps, ?_, p2, r2⟩
    rw [List.flatten_cons]
    have : cs.drop off = (cs.drop f.offset).take (P.cellsOf f.type) ++ cs.drop (off + P.cellsOf f.type) := by
      rw [e, ← List.drop_drop]
      exact (List.take_append_drop _ _).symm
    rw [this]
    exact V2_append p1 r1

theorem items_av {g : List Value → Option (DataW H × List MemPlace)} {T : List AV → Prop} (ih : ∀ cs x, g cs = some x → ∃ xs, V2 P w q xs cs ∧ T xs) (cs : List Value) (s n : Nat) (hn : cs.length = n * s)
    (h : ∀ i, i < n → ∃ x, g ((cs.drop (i * s)).take s) = some x) : ∀ (k i : Nat), i + k = n → ∃ ps : List (List AV), V2 P w q ps.flatten (cs.drop (i * s)) ∧ ps.length = k ∧ ∀ p ∈ ps, T p
  | 0, i, hi => by
    have : i = n := by omega
    subst this
    refine ⟨[], ?_, rfl, nofun⟩
    rw [List.drop_eq_nil_of_le (by omega)]
    exact trivial
  | k + 1, i, hi => by
    obtain ⟨x, hx⟩ := h i (by omega)
    obtain ⟨p, p1, p2⟩ := ih _ _ hx
    obtain ⟨ps, r1, r2, r3⟩ := items_av ih cs s n hn h k (i + 1) (by omega)
    refine ⟨p :: ps, ?_, by simp [r2], fun y hy => ?_⟩
    · rw [List.flatten_cons]
      have : cs.drop (i * s) = (cs.drop (i * s)).take s ++ cs.drop ((i + 1) * s) := by
        rw [Nat.succ_mul, ← List.drop_drop]
        exact (List.take_append_drop _ _).symm
      rw [this]
      exact V2_append p1 r1
    · rcases List.mem_cons.1 hy with rfl | hy
      · exact p2
      · exact r3 y hy

theorem trod_av (hq : ∀ b, b < w.heap.size → q b) : ∀ (m : Nat) (t : TypeId), lay P m t = true → ∀ (fuel : Nat) (cs : List Value) (x : DataW H × List MemPlace), DataW.trod enc P w 0 spare held fuel t cs = some x → ∃ xs, V2 P w q xs cs ∧ TyC P m t xs
  | 0, t, hl, _, _, _, _ => by simp [lay] at hl
  | m + 1, t, hl, 0, cs, x, h => by simp [DataW.trod] at h
  | m + 1, t, hl, fuel + 1, cs, x, h => by
    unfold lay at hl
    unfold TyC
    unfold DataW.trod at h
    cases hu : P.underlying t with
    | none => simp [hu] at hl
    | some d =>
      simp only [hu] at hl h ⊢
      cases d with
      | bool =>
        split at h <;> first | (cases h; done) | (rename_i e; cases e; done) | skip
        cases h
        exact ⟨[.val (.bool _)], ⟨⟨.val _, rfl⟩, trivial⟩, _, rfl⟩
      | int k =>
        split at h <;> first | (cases h; done) | (rename_i e; cases e; done) | skip
        rename_i e
        cases e
        split at h
        · rename_i hk
          obtain ⟨rfl, hw⟩ := hk
          simp only [Lit.wf, Bool.and_eq_true, decide_eq_true_eq] at hw
          exact ⟨[.val (.int _ _)], ⟨⟨.val _, rfl⟩, trivial⟩, _, rfl, hw⟩
        · cases h
      | string =>
        split at h <;> first | (cases h; done) | (rename_i e; cases e; done) | skip
        split at h
        · rename_i hs
          exact ⟨[.val (.string _)], ⟨⟨.val _, rfl⟩, trivial⟩, _, rfl, hs⟩
        · cases h
      | slice e =>
        simp only [Bool.and_eq_true] at hl
        split at h <;> first | (cases h; done) | (rename_i e; cases e; done) | skip
        · exact ⟨[.rslice (P.cellsOf e) 0 fun _ => []], ⟨⟨.rslice0 _ _ _ _, rfl⟩, trivial⟩, _, _, rfl, by omega, fun i hi => absurd hi (Nat.not_lt_zero i)⟩
        · rename_i e0 a len cap e1
          cases e1
          split at h
          case isFalse => cases h
          rename_i hb
          have hes : 0 < P.cellsOf e := Nat.le_of_ble_eq_true hl.1
          cases hM : (List.range len).mapM fun i => (w.cells? 0 (a.add (i * P.cellsOf e)) (P.cellsOf e)).bind (DataW.trod enc P w 0 spare held fuel e) with
          | none => rw [hM] at h; cases h
          | some elems =>
            obtain ⟨_, g2⟩ := mapM_get hM
            have hx : ∀ i, ∃ xs : List AV, i < len → ∃ cs, (cs.length = P.cellsOf e ∧ ∀ j, j < P.cellsOf e → w.cell? ((a.add (i * P.cellsOf e)).add j) = some (cs.getD j undef)) ∧ V2 P w q xs cs ∧ TyC P m e xs := fun i => by
              by_cases hi : i < len
              · obtain ⟨y, y1, _⟩ := g2 i i (by simp [hi])
                cases hc : w.cells? 0 (a.add (i * P.cellsOf e)) (P.cellsOf e) with
                | none => rw [hc] at y1; cases y1
                | some cs1 =>
                  rw [hc] at y1
                  obtain ⟨xs, x1, x2⟩ := trod_av hq m e hl.2 _ _ _ y1
                  exact ⟨xs, fun _ => ⟨cs1, cells_some hc, x1, x2⟩⟩
              · exact ⟨[], fun h => absurd h hi⟩
            have hf := fun i => (Classical.choose_spec (hx i))
            generalize hF : (fun i => Classical.choose (hx i)) = F
            have hf : ∀ i, i < len → ∃ cs, (cs.length = P.cellsOf e ∧ ∀ j, j < P.cellsOf e → w.cell? ((a.add (i * P.cellsOf e)).add j) = some (cs.getD j undef)) ∧ V2 P w q (F i) cs ∧ TyC P m e (F i) := fun i hi => by
              have := Classical.choose_spec (hx i) hi
              rw [← hF]
              exact this
            refine ⟨[.rslice (P.cellsOf e) len F], ⟨⟨?_, rfl⟩, trivial⟩, len, F, rfl, ?_, fun i hi => ?_⟩
            · rcases Nat.eq_zero_or_pos len with rfl | hp
              · exact .rslice0 _ _ _ _
              · obtain ⟨cs0, c1, _, _⟩ := hf 0 hp
                have hc0 := c1.2 0 hes
                have e0 : ((a.add (0 * P.cellsOf e)).add 0) = a := by simp [Addr.add]
                rw [e0] at hc0
                obtain ⟨s1, s2⟩ := cell_spot hc0
                obtain ⟨blk, off, spot⟩ := a
                simp only at s1 s2
                subst s1
                have hG : ∀ i, ∃ cs : List Value, i < len → (cs.length = P.cellsOf e ∧ ∀ j, j < P.cellsOf e → w.cell? (((⟨blk, off, none⟩ : Addr).add (i * P.cellsOf e)).add j) = some (cs.getD j undef)) ∧ V2 P w q (F i) cs := fun i => by
                  by_cases hi : i < len
                  · obtain ⟨cs, c1, c2, _⟩ := hf i hi
                    exact ⟨cs, fun _ => ⟨c1, c2⟩⟩
                  · exact ⟨[], fun h => absurd h hi⟩
                refine .rslice _ _ _ blk off cap (fun i j => (Classical.choose (hG i)).getD j undef) hb.2.1 (hq _ s2) (fun i hi => ?_) (fun i j hi hj => ?_) (fun i j x hi hx => ?_)
                · obtain ⟨c1, c2⟩ := Classical.choose_spec (hG i) hi
                  rw [V2_len c2, c1.1]
                · obtain ⟨c1, c2⟩ := Classical.choose_spec (hG i) hi
                  have hc := c1.2 j hj
                  have ea : ((⟨blk, off, none⟩ : Addr).add (i * P.cellsOf e)).add j = ⟨blk, off + (i * P.cellsOf e + j), none⟩ := by
                    exact addr_add2 blk off _ j
                  rw [ea] at hc
                  refine ⟨hc, ?_⟩
                  have hlt : j < (F i).length := by rw [V2_len c2, c1.1]; exact hj
                  exact (V2_get c2 j _ (List.getElem?_eq_getElem hlt)).2
                · obtain ⟨c1, c2⟩ := Classical.choose_spec (hG i) hi
                  exact (V2_get c2 j x hx).1
            · have := hb.2.2
              unfold maxLen at this
              omega
            · obtain ⟨_, _, _, h3⟩ := hf i hi
              exact h3
      | struct fs =>
        replace h : (if cs.length = P.cellsOf t then (fs.toList.mapM fun f => DataW.trod enc P w 0 spare held fuel f.type ((cs.drop f.offset).take (P.cellsOf f.type))).map fun xs => (.agg (xs.map (·.1)), xs.flatMap (·.2)) else none) = some x := h
        split at h
        case isFalse => cases h
        rename_i hc
        cases hM : fs.toList.mapM fun f => DataW.trod enc P w 0 spare held fuel f.type ((cs.drop f.offset).take (P.cellsOf f.type)) with
        | none => rw [hM] at h; cases h
        | some r =>
          obtain ⟨ps, p1, p2⟩ := fields_av (T := TyC P m) (ly := lay P m) (fun t ht cs x hx => trod_av hq m t ht fuel cs x hx) cs fs.toList 0 r (by rw [hc]; exact hl) hM
          exact ⟨ps.flatten, by simpa using p1, ps, rfl, p2⟩
      | array n e =>
        simp only [Bool.and_eq_true] at hl
        replace h : (if cs.length = P.cellsOf t then ((List.range n).mapM fun i => DataW.trod enc P w 0 spare held fuel e ((cs.drop (i * P.cellsOf e)).take (P.cellsOf e))).map fun xs => (.agg (xs.map (·.1)), xs.flatMap (·.2)) else none) = some x := h
        split at h
        case isFalse => cases h
        rename_i hc
        cases hM : (List.range n).mapM fun i => DataW.trod enc P w 0 spare held fuel e ((cs.drop (i * P.cellsOf e)).take (P.cellsOf e)) with
        | none => rw [hM] at h; cases h
        | some r =>
          obtain ⟨_, g2⟩ := mapM_get hM
          obtain ⟨ps, p1, p2, p3⟩ := items_av (T := TyC P m e) (fun cs x hx => trod_av hq m e hl.2 fuel cs x hx) cs (P.cellsOf e) n (by rw [hc]; exact Nat.eq_of_beq_eq_true hl.1)
            (fun i hi => by obtain ⟨y, y1, _⟩ := g2 i i (by simp [hi]); exact ⟨y, y1⟩) n 0 (by omega)
          exact ⟨ps.flatten, by simpa using p1, ps, rfl, p2, p3⟩
      | _ => simp at hl

/-- The shape of an argument. -/
def TyA (P : Program) (m : Nat) (t : TypeId) (x : AV) : Prop :=
  match P.underlying t with
  | some (.struct _) | some (.array _ _) => ∃ xs, x = .agg xs ∧ TyC P m t xs
  | _ => TyC P m t [x]

/-- An argument of a law, as an abstract value. -/
theorem open_av {r : Reach} {b0 : Nat} {t : TypeId} {v : Value} {d : DataW H} {ps : List MemPlace} {m : Nat} (hl : lay P m t = true) (hq : ∀ b, b < w.heap.size → q b)
    (hv : Value.okWide P w r b0 t v) (hd : DataW.Trod enc P w 0 spare held t v d ps) : ∃ x, VT P w q x v ∧ TyA P m t x := by
  obtain ⟨fuel, hf⟩ := hd
  obtain ⟨xs, h1, h2⟩ := trod_av hq m t hl fuel _ _ hf
  have agg : ∀ cs, v = .agg cs → VT P w q (.agg xs) v := by
    rintro cs rfl
    have hlen := V2_len h1
    refine .agg xs cs (by rw [hlen]; simp [Value.cells]) (fun u hu => ?_) (fun i x hx => ?_)
    · obtain ⟨i, hi, rfl⟩ := List.getElem_of_mem hu
      have hx : i < xs.length := by rw [hlen]; simpa [Value.cells] using hi
      have := (V2_get h1 i _ (List.getElem?_eq_getElem hx)).2
      have hi' : i < cs.size := by simpa using hi
      simpa [Value.cells, List.getD_eq_getElem?_getD, hi'] using this
    · have := (V2_get h1 i x hx).1
      simpa [Value.cells, List.getD_eq_getElem?_getD, Array.getD_eq_getD_getElem?] using this
  have one : ∀ u, v.cells.toList = [u] → v = u → ∃ x, VT P w q x v ∧ TyC P m t [x] := by
    rintro u e rfl
    rw [e] at h1
    match xs, h1, h2 with
    | [x], h1, h2 => exact ⟨x, h1.1.1, h2⟩
  unfold TyA
  unfold Value.okWide at hv
  split
  · rename_i fs hu
    simp only [hu] at hv
    obtain ⟨cs, e, _, _⟩ := hv
    exact ⟨_, agg cs e, xs, rfl, h2⟩
  · rename_i n e hu
    simp only [hu] at hv
    obtain ⟨cs, e, _, _⟩ := hv
    exact ⟨_, agg cs e, xs, rfl, h2⟩
  · rename_i n1 n2
    have hc : Cell.okWide P w r b0 t v := by
      split at hv
      · rename_i hu; exact absurd hu (n1 _)
      · rename_i hu; exact absurd hu (n2 _ _)
      · exact hv
    cases v with
    | agg cs =>
      simp only [Cell.okWide] at hc
      split at hc <;> first | (rename_i e _; cases e; done) | (rename_i e; cases e; done) | (simp [Cell.ok] at hc)
    | tuple cs =>
      simp only [Cell.okWide] at hc
      split at hc <;> first | (rename_i e _; cases e; done) | (rename_i e; cases e; done) | (simp [Cell.ok] at hc)
    | _ => exact one _ rfl rfl
end
end Go.Tr

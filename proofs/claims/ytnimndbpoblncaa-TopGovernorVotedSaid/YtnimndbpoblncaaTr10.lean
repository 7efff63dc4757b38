/- The law TopGovernorVoted returns true. Conditions: none. -/
import Derived.Test.YtnimndbpoblncaaTr09
import Derived.Test.YtnimndbpoblncaaTr07
import Derived.ProofKit
set_option linter.unusedSectionVars false
set_option linter.unnecessarySimpa false
set_option linter.unusedVariables false
set_option linter.unusedSimpArgs false

-- seat Ytnimndbpoblncaa
namespace Go.Tr
open Go Go.Proofs
set_option maxRecDepth 20000
set_option maxHeartbeats 8000000

/-- Readings at each tick, the errors of two channels, which channel is wrong, and a tolerance. -/
structure Wt where
  s : List Int
  w : List Int
  e : List (Int × Int)
  k : Int
  t : Int
abbrev prs (e : List (Int × Int)) : AV := .rslice 2 e.length fun i => [i64 (e.getD i (0, 0)).1, i64 (e.getD i (0, 0)).2]
abbrev wtA (x : Wt) : AV := .agg [ints x.s, ints x.w, prs x.e, i64 x.k, i64 x.t]
theorem dev_zero : ∀ (l : List Int) (k : Nat), (∀ a ∈ l, -100000 ≤ a ∧ a ≤ 100000) → (eachI (fun _ x => speedE x) l k).2 = 0
  | [], _, _ => rfl
  | a :: l, k, h => by
    unfold eachI
    have e : speedE a = 0 := if_pos (h a (by simp))
    rw [if_pos e]
    exact dev_zero l (k + 1) fun b hb => h b (by simp [hb])
theorem getD_ex {l : List Int} {p : Int → Prop} (h : ∀ j, j < l.length → p (l.getD j 0)) : ∀ a ∈ l, p a := fun a ha => by
  obtain ⟨j, hj, e⟩ := List.getElem_of_mem ha
  have := h j hj
  rw [List.getD_eq_getElem?_getD, List.getElem?_eq_getElem hj] at this
  rw [← e]; exact this
theorem run_zero {g : Gt} {r : Ru} {l : List Int} (hg : gateE g = 0) (hr : rulesE r = 0) (hl : l.length ≤ 200) (h : ∀ j, j < l.length → -100000 ≤ l.getD j 0 ∧ l.getD j 0 ≤ 100000) : runE g r l = 0 := by
  rw [runE_eq, if_pos hg, if_pos hr]
  unfold devsE devE
  rw [if_pos hl]
  exact dev_zero l 0 (getD_ex h)
theorem ints_len {P : List Int} {n : Nat} (h : P.length = n) : ints P = .rslice 1 n fun i => [i64 (P.getD i 0)] := by subst h; rfl
/-- What the three lists hold so far. -/
def Hold (s V L H : List Int) (f : Int) (j : Nat) : Prop :=
  (s.getD j 0 - f ≤ V.getD j 0 ∧ V.getD j 0 ≤ s.getD j 0 + f) ∧ L.getD j 0 = s.getD j 0 - f ∧ H.getD j 0 = s.getD j 0 + f ∧ -10000 ≤ s.getD j 0 ∧ s.getD j 0 ≤ 10000
theorem getD_sn (l : List Int) (x : Int) (j : Nat) (h : l.length = j) : (l ++ [x]).getD j 0 = x := by
  subst h; simp [List.getD_eq_getElem?_getD]
theorem getD_sl (l : List Int) (x : Int) (j : Nat) (h : j < l.length) : (l ++ [x]).getD j 0 = l.getD j 0 := by
  simp [List.getD_eq_getElem?_getD, h, List.getElem?_append_left h]
theorem hold_next {s V L H : List Int} {f : Int} {i : Nat} {v : Int} (hV : V.length = i) (hL : L.length = i) (hH : H.length = i) (hB : ∀ j, j < i → Hold s V L H f j)
    (h : (s.getD i 0 - f ≤ v ∧ v ≤ s.getD i 0 + f) ∧ -10000 ≤ s.getD i 0 ∧ s.getD i 0 ≤ 10000) : ∀ j, j < i + 1 → Hold s (V ++ [v]) (L ++ [s.getD i 0 - f]) (H ++ [s.getD i 0 + f]) f j := fun j hj => by
  by_cases e : j = i
  · subst e
    unfold Hold
    rw [getD_sn _ _ _ hV, getD_sn _ _ _ hL, getD_sn _ _ _ hH]
    exact ⟨h.1, rfl, rfl, h.2⟩
  · have := hB j (by omega)
    unfold Hold at *
    rw [getD_sl _ _ _ (by omega), getD_sl _ _ _ (by omega), getD_sl _ _ _ (by omega)]
    exact this
theorem vote_k {s W a b f t k : Int} (hk : k = 0 ∨ k = 1 ∨ k = 2) (hs : -10000 ≤ s ∧ s ≤ 10000) (hw : -1000000 ≤ W ∧ W ≤ 1000000) (ha : -f ≤ a ∧ a ≤ f) (hb : -f ≤ b ∧ b ≤ f) (hf : 0 ≤ f ∧ 2 * f ≤ t) (ht : 0 ≤ t ∧ t ≤ 1000) :
    ∃ (m : Int) (o1 o2 o3 : Bool), voteG (if k = 0 then r3 W (s + a) (s + b) else if k = 1 then r3 (s + b) W (s + a) else r3 (s + a) (s + b) W) t = ((m, o1, o2, o3), 0) ∧ s - f ≤ m ∧ m ≤ s + f := by
  obtain ⟨⟨a1, a2, a3⟩, ⟨b1, b2, b3⟩, c1, c2, c3⟩ := vote_odd (u := s + a) (v := s + b) (w := W) (t := t) (by omega) (by omega) (by omega) (by omega) (by omega)
  rcases hk with rfl | rfl | rfl
  · rw [if_pos rfl]
    generalize voteG (r3 W (s + a) (s + b)) t = V at a1 a2 a3 ⊢
    obtain ⟨⟨m, o1, o2, o3⟩, e⟩ := V
    dsimp only at a1 a2 a3
    exact ⟨m, o1, o2, o3, by rw [a1], by omega, by omega⟩
  · rw [if_neg (by decide), if_pos rfl]
    generalize voteG (r3 (s + b) W (s + a)) t = V at b1 b2 b3 ⊢
    obtain ⟨⟨m, o1, o2, o3⟩, e⟩ := V
    dsimp only at b1 b2 b3
    exact ⟨m, o1, o2, o3, by rw [b1], by omega, by omega⟩
  · rw [if_neg (by decide), if_neg (by decide)]
    generalize voteG (r3 (s + a) (s + b) W) t = V at c1 c2 c3 ⊢
    obtain ⟨⟨m, o1, o2, o3⟩, e⟩ := V
    dsimp only at c1 c2 c3
    exact ⟨m, o1, o2, o3, by rw [c1], by omega, by omega⟩
set_option maxHeartbeats 8000000 in
theorem S3 (g : Gt) (r : Ru) (x : Wt) : SP 3 [gtA g, ruA r, wtA x] (vb true) false := by
  have h5 := S5 g
  have h6 := S6 r
  have h7k := S7 x.k 0 2
  have h7t := S7 x.t 0 1000
  by_cases hC : gateE g = 0 ∧ rulesE r = 0 ∧ x.s.length ≤ 20 ∧ x.w.length = x.s.length ∧ x.e.length = x.s.length ∧ (0 ≤ x.k ∧ x.k ≤ 2) ∧ 0 ≤ x.t ∧ x.t ≤ 1000
  · obtain ⟨hg, hr, hn, hw, he, hk, ht⟩ := hC
    rw [hg] at h5
    rw [hr] at h6
    rw [show win x.k 0 2 = true from decide_eq_true hk] at h7k
    rw [show win x.t 0 1000 = true from decide_eq_true ht] at h7t
    have hf : 0 ≤ x.t.tdiv 2 ∧ 2 * x.t.tdiv 2 ≤ x.t := by
      rw [Int.tdiv_eq_ediv_of_nonneg ht.1]; omega
    have hin : 2 ≠ (0 : Int) ∧ inK IntKind.i64 (x.t.tdiv 2) := ⟨by decide, by
      have : IntKind.min .i64 = -9223372036854775808 := by decide
      omega, by
      have : IntKind.max .i64 = 9223372036854775807 := by decide
      omega⟩
    have hk3 : x.k = 0 ∨ x.k = 1 ∨ x.k = 2 := by omega
    refine sound (d := 2) tok2 mixed2 Try.func3 (by kernel_rfl) (by kernel_rfl) ?_
    conv => whnf
    refine .inl ⟨_, _, byX rfl (Sound1.pl (S4) rfl), ?_⟩
    conv => whnf
    refine .inl ⟨_, _, byX rfl (Sound1.pl (h5) rfl), ?_⟩
    conv => whnf
    refine .inl ⟨_, _, byX rfl (Sound1.pl (h6) rfl), ?_⟩
    conv => whnf
    refine ifB_dec (fun w1 => ?_) (fun w1 => ?_)
    · (exfalso; omega)
    · conv => whnf
      refine ifB_bne (fun w2 => ?_) (fun w2 => ?_)
      · (exfalso; omega)
      · conv => whnf
        refine ifB_bne (fun w3 => ?_) (fun w3 => ?_)
        · (exfalso; omega)
        · conv => whnf
          refine .inl ⟨_, _, byX rfl (Sound1.pl (h7k) rfl), ?_⟩
          conv => whnf
          refine .inl ⟨_, _, byX rfl (Sound1.pl (h7t) rfl), ?_⟩
          conv => whnf
          refine ⟨⟨(by omega), inK64 (by omega) (by omega)⟩, ?_⟩
          conv => whnf
          refine ⟨[.slot 9 1, .slot 10 1, .slot 11 1], [3, 4, 5, 7, 8, 9, 10, 11, 12], fun st mq => ∃ (i : Nat) (V : List Int) (L : List Int) (H : List Int), (i ≤ x.s.length) ∧ (V.length = i) ∧ (L.length = i) ∧ (H.length = i) ∧ (∀ j, j < i → Hold x.s V L H (x.t.tdiv 2) j) ∧ st = ⟨[(3, .optr 0 0 0 0), (4, .optr 1 0 0 0), (5, .optr 2 0 0 0), (7, i64 x.s.length), (8, i64 (x.t.tdiv 2)), (9, .oslice 3 0 0 i none), (10, .oslice 4 0 0 i none), (11, .oslice 5 0 0 i none), (12, i64 i)], ⟨[⟨4, 1, fun _ => [i64 g.a, i64 g.l, i64 g.h, i64 g.r], 0, false, true, true⟩, ⟨4, 1, fun _ => [i64 r.b, i64 r.n, i64 r.d, i64 r.s], 0, false, true, true⟩, ⟨5, 1, fun _ => [ints x.s, ints x.w, prs x.e, i64 x.k, i64 x.t], 0, false, true, true⟩, ⟨1, i, fun j => [i64 (V.getD j 0)], 0, false, true, false⟩, ⟨1, i, fun j => [i64 (L.getD j 0)], 0, false, true, false⟩, ⟨1, i, fun j => [i64 (H.getD j 0)], 0, false, true, false⟩], [], none, 0⟩, []⟩ ∧ mq = x.s.length - i,
            ⟨_, _, ⟨0, [], [], [], by omega, rfl, rfl, rfl, fun j h => absurd h (Nat.not_lt_zero j), rfl, rfl⟩, ⟨⟨.inl rfl, rfl, rfl, rfl⟩, ⟨⟨rfl, rfl, rfl, rfl, fun _ => rfl, fun _ _ => .inl rfl⟩, ⟨⟨rfl, rfl, rfl, rfl, fun _ => rfl, fun _ _ => .inl rfl⟩, ⟨⟨rfl, rfl, rfl, rfl, fun _ => rfl, fun _ _ => .inl rfl⟩, ⟨⟨rfl, rfl, rfl, rfl, fun _ => rfl, fun i h => .inl (absurd h (Nat.not_lt_zero i))⟩, ⟨⟨rfl, rfl, rfl, rfl, fun _ => rfl, fun i h => .inl (absurd h (Nat.not_lt_zero i))⟩, ⟨⟨rfl, rfl, rfl, rfl, fun _ => rfl, fun i h => .inl (absurd h (Nat.not_lt_zero i))⟩, trivial⟩⟩⟩⟩⟩⟩, trivial⟩⟩, ?_⟩
          rintro s0 m0 ⟨i, V, L, H, hi, hV, hL, hH, hB, rfl, hmeas⟩
          by_cases hlt : i < x.s.length
          · have h7s := S7 (x.s.getD i 0) (-10000) 10000
            have h7w := S7 (x.w.getD i 0) (-1000000) 1000000
            have h7a := S7 (x.e.getD i (0, 0)).1 (-x.t.tdiv 2) (x.t.tdiv 2)
            have h7b := S7 (x.e.getD i (0, 0)).2 (-x.t.tdiv 2) (x.t.tdiv 2)
            by_cases hE : (-10000 ≤ x.s.getD i 0 ∧ x.s.getD i 0 ≤ 10000) ∧ (-1000000 ≤ x.w.getD i 0 ∧ x.w.getD i 0 ≤ 1000000) ∧ (-x.t.tdiv 2 ≤ (x.e.getD i (0, 0)).1 ∧ (x.e.getD i (0, 0)).1 ≤ x.t.tdiv 2) ∧ (-x.t.tdiv 2 ≤ (x.e.getD i (0, 0)).2 ∧ (x.e.getD i (0, 0)).2 ≤ x.t.tdiv 2)
            · obtain ⟨es, ew, ea, eb⟩ := hE
              rw [show win (x.s.getD i 0) (-10000) 10000 = true from decide_eq_true es] at h7s
              rw [show win (x.w.getD i 0) (-1000000) 1000000 = true from decide_eq_true ew] at h7w
              rw [show win (x.e.getD i (0, 0)).1 (-x.t.tdiv 2) (x.t.tdiv 2) = true from decide_eq_true ea] at h7a
              rw [show win (x.e.getD i (0, 0)).2 (-x.t.tdiv 2) (x.t.tdiv 2) = true from decide_eq_true eb] at h7b
              obtain ⟨m, o1, o2, o3, hm, hm2⟩ := vote_k hk3 es ew ea eb hf ht
              have h7m := S7 m (x.s.getD i 0 - x.t.tdiv 2) (x.s.getD i 0 + x.t.tdiv 2)
              rw [show win m (x.s.getD i 0 - x.t.tdiv 2) (x.s.getD i 0 + x.t.tdiv 2) = true from decide_eq_true hm2] at h7m
              have hnx := hold_next hV hL hH hB ⟨hm2, es⟩
              have hmx : IntKind.max .i64 = 9223372036854775807 := by decide
              have hmn : IntKind.min .i64 = -9223372036854775808 := by decide
              have q1 : inK .i64 (x.s.getD i 0 + (x.e.getD i (0, 0)).1) := ⟨by omega, by omega⟩
              have q2 : inK .i64 (x.s.getD i 0 + (x.e.getD i (0, 0)).2) := ⟨by omega, by omega⟩
              have q3 : inK .i64 (x.s.getD i 0 - x.t.tdiv 2) := ⟨by omega, by omega⟩
              have q4 : inK .i64 (x.s.getD i 0 + x.t.tdiv 2) := ⟨by omega, by omega⟩
              have d01 : 0 ≤ (0 + 1 : Int).tmod 3 ∧ (0 + 1 : Int).tmod 3 < ((3 : Nat) : Int) := by decide
              have d02 : 0 ≤ (0 + 2 : Int).tmod 3 ∧ (0 + 2 : Int).tmod 3 < ((3 : Nat) : Int) := by decide
              have d11 : 0 ≤ (1 + 1 : Int).tmod 3 ∧ (1 + 1 : Int).tmod 3 < ((3 : Nat) : Int) := by decide
              have d12 : 0 ≤ (1 + 2 : Int).tmod 3 ∧ (1 + 2 : Int).tmod 3 < ((3 : Nat) : Int) := by decide
              have d21 : 0 ≤ (2 + 1 : Int).tmod 3 ∧ (2 + 1 : Int).tmod 3 < ((3 : Nat) : Int) := by decide
              have d22 : 0 ≤ (2 + 2 : Int).tmod 3 ∧ (2 + 2 : Int).tmod 3 < ((3 : Nat) : Int) := by decide
              rcases hk3 with e | e | e
              · rw [if_pos e] at hm
                have h8 := S8 (r3 (x.w.getD i 0) (x.s.getD i 0 + (x.e.getD i (0, 0)).1) (x.s.getD i 0 + (x.e.getD i (0, 0)).2)) x.t
                rw [hm] at h8
                change SP 8 _ (.tuple [.agg [i64 m, vb o1, vb o2, vb o3], i64 0]) false at h8
                rw [e]
                conv => whnf
                conv => whnf
                refine ifB_dec (fun w4 => ?_) (fun w4 => ?_)
                · conv => whnf
                  conv => whnf
                  refine ⟨⟨(by omega), (by omega)⟩, ?_⟩
                  conv => whnf
                  conv => whnf
                  refine .inl ⟨_, _, byX rfl (Sound1.pl (h7s) rfl), ?_⟩
                  conv => whnf
                  conv => whnf
                  refine ⟨⟨(by omega), (by omega)⟩, ?_⟩
                  conv => whnf
                  conv => whnf
                  refine .inl ⟨_, _, byX rfl (Sound1.pl (h7w) rfl), ?_⟩
                  conv => whnf
                  conv => whnf
                  refine ⟨⟨(by omega), (by omega)⟩, ?_⟩
                  conv => whnf
                  conv => whnf
                  refine ⟨⟨(by omega), (by omega)⟩, ?_⟩
                  conv => whnf
                  conv => whnf
                  refine ⟨inK64 (by omega) (by omega), ?_⟩
                  conv => whnf
                  conv => whnf
                  refine .inl ⟨_, _, byX rfl (Sound1.pl (h7a) rfl), ?_⟩
                  conv => whnf
                  conv => whnf
                  refine ⟨⟨(by omega), (by omega)⟩, ?_⟩
                  conv => whnf
                  conv => whnf
                  refine ⟨⟨(by omega), (by omega)⟩, ?_⟩
                  conv => whnf
                  conv => whnf
                  refine ⟨inK64 (by omega) (by omega), ?_⟩
                  conv => whnf
                  conv => whnf
                  refine .inl ⟨_, _, byX rfl (Sound1.pl (h7b) rfl), ?_⟩
                  conv => whnf
                  conv => whnf
                  refine ⟨[], by kernel_rfl, ?_⟩
                  conv => whnf
                  conv => whnf
                  refine ⟨⟨(by omega), (by omega)⟩, ?_⟩
                  conv => whnf
                  conv => whnf
                  refine ⟨⟨(by omega), (by omega)⟩, ?_⟩
                  conv => whnf
                  conv => whnf
                  refine ⟨[], by kernel_rfl, ?_⟩
                  conv => whnf
                  conv => whnf
                  refine ⟨inK64 (by omega) (by omega), ?_⟩
                  conv => whnf
                  conv => whnf
                  refine ⟨(by omega), ?_⟩
                  conv => whnf
                  conv => whnf
                  refine ⟨⟨(by omega), (by omega)⟩, ?_⟩
                  conv => whnf
                  conv => whnf
                  refine ⟨⟨(by omega), (by omega)⟩, ?_⟩
                  conv => whnf
                  conv => whnf
                  refine ⟨⟨(by omega), (by omega)⟩, ?_⟩
                  conv => whnf
                  conv => whnf
                  refine ⟨by assumption, ?_⟩
                  conv => whnf
                  conv => whnf
                  refine ⟨⟨(by omega), (by omega)⟩, ?_⟩
                  conv => whnf
                  conv => whnf
                  refine ⟨[], by kernel_rfl, ?_⟩
                  conv => whnf
                  conv => whnf
                  refine ⟨inK64 (by omega) (by omega), ?_⟩
                  conv => whnf
                  conv => whnf
                  refine ⟨(by omega), ?_⟩
                  conv => whnf
                  conv => whnf
                  refine ⟨⟨(by omega), (by omega)⟩, ?_⟩
                  conv => whnf
                  conv => whnf
                  refine ⟨⟨(by omega), (by omega)⟩, ?_⟩
                  conv => whnf
                  conv => whnf
                  refine ⟨⟨(by omega), (by omega)⟩, ?_⟩
                  conv => whnf
                  conv => whnf
                  refine ⟨by assumption, ?_⟩
                  conv => whnf
                  conv => whnf
                  refine ⟨⟨(by omega), (by omega)⟩, ?_⟩
                  conv => whnf
                  conv => whnf
                  refine .inl ⟨_, _, byX rfl (Sound1.pl (h8) rfl), ?_⟩
                  conv => whnf
                  conv => whnf
                  refine ⟨[], by kernel_rfl, ?_⟩
                  conv => whnf
                  conv => whnf
                  refine ⟨⟨(by omega), (by omega)⟩, ?_⟩
                  conv => whnf
                  conv => whnf
                  refine ⟨by assumption, ?_⟩
                  conv => whnf
                  conv => whnf
                  refine ⟨⟨(by omega), (by omega)⟩, ?_⟩
                  conv => whnf
                  conv => whnf
                  refine ⟨by assumption, ?_⟩
                  conv => whnf
                  conv => whnf
                  refine .inl ⟨_, _, byX rfl (Sound1.pl (h7m) rfl), ?_⟩
                  conv => whnf
                  conv => whnf
                  refine ⟨[(0, 1000000), (1, 1000000), (2, 1000000), (3, 1000000), (5, 1000000), (6, 1000000), (7, 1000000), (8, 1000000), (9, 1000000), (10, 1000000), (11, 1000000), (12, 1000000), (13, 1000000), (15, 1000000), (16, 1000000), (17, 1000000), (18, 1000000), (19, 1000000), (20, 1000000), (21, 1000000), (22, 1000000), (23, 1000000), (4, 1000000), (14, 1000000), (24, 1000000), (25, 1000000), (26, 1000000), (27, 1000000), (5, 22), (6, 22), (8, 22), (9, 22), (12, 22), (14, 22), (14, 23), (15, 22), (15, 23), (17, 22), (17, 23), (18, 22), (18, 23), (21, 22), (21, 23)], by kernel_rfl, ?_⟩
                  conv => whnf
                  conv => whnf
                  refine ⟨⟨(by omega), (by omega)⟩, ?_⟩
                  conv => whnf
                  conv => whnf
                  refine ⟨by assumption, ?_⟩
                  conv => whnf
                  conv => whnf
                  refine ⟨⟨(by omega), (by omega)⟩, ?_⟩
                  conv => whnf
                  conv => whnf
                  refine ⟨by assumption, ?_⟩
                  conv => whnf
                  conv => whnf
                  refine .inl ?_
                  conv => whnf
                  conv => whnf
                  refine ⟨(by show _ * (8 + 1) ≤ _; omega), ?_⟩
                  conv => whnf
                  conv => whnf
                  refine .inl ?_
                  conv => whnf
                  conv => whnf
                  refine ⟨(by show _ * (8 + 1) ≤ _; omega), ?_⟩
                  conv => whnf
                  conv => whnf
                  refine .inl ?_
                  conv => whnf
                  conv => whnf
                  refine ⟨(by show _ * (8 + 1) ≤ _; omega), ?_⟩
                  conv => whnf
                  conv => whnf
                  refine ⟨inK64 (by omega) (by omega), ?_⟩
                  conv => whnf
                  conv => whnf
                  refine ⟨_, _, ⟨⟨i + 1, V ++ [m], L ++ [x.s.getD i 0 - x.t.tdiv 2], H ++ [x.s.getD i 0 + x.t.tdiv 2], by omega, by simp [hV], by simp [hL], by simp [hH], hnx, rfl, rfl⟩, by omega⟩, ⟨⟨.inl rfl, rfl, rfl, rfl⟩, ⟨⟨rfl, rfl, rfl, rfl, fun _ => rfl, fun _ _ => .inl rfl⟩, ⟨⟨rfl, rfl, rfl, rfl, fun _ => rfl, fun _ _ => .inl rfl⟩, ⟨⟨rfl, rfl, rfl, rfl, fun _ => rfl, fun _ _ => .inl rfl⟩, ⟨⟨rfl, rfl, rfl, rfl, fun _ => rfl, fun j hj => .inl (app_row V _ i j hV hj)⟩, ⟨⟨rfl, rfl, rfl, rfl, fun _ => rfl, fun j hj => .inl (app_row L _ i j hL hj)⟩, ⟨⟨rfl, rfl, rfl, rfl, fun _ => rfl, fun j hj => .inl (app_row H _ i j hH hj)⟩, trivial⟩⟩⟩⟩⟩⟩, trivial⟩⟩
                · (exfalso; omega)
              · rw [e, if_neg (by decide), if_pos rfl] at hm
                have h8 := S8 (r3 (x.s.getD i 0 + (x.e.getD i (0, 0)).2) (x.w.getD i 0) (x.s.getD i 0 + (x.e.getD i (0, 0)).1)) x.t
                rw [hm] at h8
                change SP 8 _ (.tuple [.agg [i64 m, vb o1, vb o2, vb o3], i64 0]) false at h8
                rw [e]
                conv => whnf
                conv => whnf
                refine ifB_dec (fun w4 => ?_) (fun w4 => ?_)
                · conv => whnf
                  conv => whnf
                  refine ⟨⟨(by omega), (by omega)⟩, ?_⟩
                  conv => whnf
                  conv => whnf
                  refine .inl ⟨_, _, byX rfl (Sound1.pl (h7s) rfl), ?_⟩
                  conv => whnf
                  conv => whnf
                  refine ⟨⟨(by omega), (by omega)⟩, ?_⟩
                  conv => whnf
                  conv => whnf
                  refine .inl ⟨_, _, byX rfl (Sound1.pl (h7w) rfl), ?_⟩
                  conv => whnf
                  conv => whnf
                  refine ⟨⟨(by omega), (by omega)⟩, ?_⟩
                  conv => whnf
                  conv => whnf
                  refine ⟨⟨(by omega), (by omega)⟩, ?_⟩
                  conv => whnf
                  conv => whnf
                  refine ⟨inK64 (by omega) (by omega), ?_⟩
                  conv => whnf
                  conv => whnf
                  refine .inl ⟨_, _, byX rfl (Sound1.pl (h7a) rfl), ?_⟩
                  conv => whnf
                  conv => whnf
                  refine ⟨⟨(by omega), (by omega)⟩, ?_⟩
                  conv => whnf
                  conv => whnf
                  refine ⟨⟨(by omega), (by omega)⟩, ?_⟩
                  conv => whnf
                  conv => whnf
                  refine ⟨inK64 (by omega) (by omega), ?_⟩
                  conv => whnf
                  conv => whnf
                  refine .inl ⟨_, _, byX rfl (Sound1.pl (h7b) rfl), ?_⟩
                  conv => whnf
                  conv => whnf
                  refine ⟨[], by kernel_rfl, ?_⟩
                  conv => whnf
                  conv => whnf
                  refine ⟨⟨(by omega), (by omega)⟩, ?_⟩
                  conv => whnf
                  conv => whnf
                  refine ⟨⟨(by omega), (by omega)⟩, ?_⟩
                  conv => whnf
                  conv => whnf
                  refine ⟨[], by kernel_rfl, ?_⟩
                  conv => whnf
                  conv => whnf
                  refine ⟨inK64 (by omega) (by omega), ?_⟩
                  conv => whnf
                  conv => whnf
                  refine ⟨(by omega), ?_⟩
                  conv => whnf
                  conv => whnf
                  refine ⟨⟨(by omega), (by omega)⟩, ?_⟩
                  conv => whnf
                  conv => whnf
                  refine ⟨⟨(by omega), (by omega)⟩, ?_⟩
                  conv => whnf
                  conv => whnf
                  refine ⟨⟨(by omega), (by omega)⟩, ?_⟩
                  conv => whnf
                  conv => whnf
                  refine ⟨by assumption, ?_⟩
                  conv => whnf
                  conv => whnf
                  refine ⟨⟨(by omega), (by omega)⟩, ?_⟩
                  conv => whnf
                  conv => whnf
                  refine ⟨[], by kernel_rfl, ?_⟩
                  conv => whnf
                  conv => whnf
                  refine ⟨inK64 (by omega) (by omega), ?_⟩
                  conv => whnf
                  conv => whnf
                  refine ⟨(by omega), ?_⟩
                  conv => whnf
                  conv => whnf
                  refine ⟨⟨(by omega), (by omega)⟩, ?_⟩
                  conv => whnf
                  conv => whnf
                  refine ⟨⟨(by omega), (by omega)⟩, ?_⟩
                  conv => whnf
                  conv => whnf
                  refine ⟨⟨(by omega), (by omega)⟩, ?_⟩
                  conv => whnf
                  conv => whnf
                  refine ⟨by assumption, ?_⟩
                  conv => whnf
                  conv => whnf
                  refine ⟨⟨(by omega), (by omega)⟩, ?_⟩
                  conv => whnf
                  conv => whnf
                  refine .inl ⟨_, _, byX rfl (Sound1.pl (h8) rfl), ?_⟩
                  conv => whnf
                  conv => whnf
                  refine ⟨[], by kernel_rfl, ?_⟩
                  conv => whnf
                  conv => whnf
                  refine ⟨⟨(by omega), (by omega)⟩, ?_⟩
                  conv => whnf
                  conv => whnf
                  refine ⟨by assumption, ?_⟩
                  conv => whnf
                  conv => whnf
                  refine ⟨⟨(by omega), (by omega)⟩, ?_⟩
                  conv => whnf
                  conv => whnf
                  refine ⟨by assumption, ?_⟩
                  conv => whnf
                  conv => whnf
                  refine .inl ⟨_, _, byX rfl (Sound1.pl (h7m) rfl), ?_⟩
                  conv => whnf
                  conv => whnf
                  refine ⟨[(0, 1000000), (1, 1000000), (2, 1000000), (3, 1000000), (5, 1000000), (6, 1000000), (7, 1000000), (8, 1000000), (9, 1000000), (10, 1000000), (11, 1000000), (12, 1000000), (13, 1000000), (15, 1000000), (16, 1000000), (17, 1000000), (18, 1000000), (19, 1000000), (20, 1000000), (21, 1000000), (22, 1000000), (23, 1000000), (4, 1000000), (14, 1000000), (24, 1000000), (25, 1000000), (26, 1000000), (27, 1000000), (5, 22), (6, 22), (8, 22), (9, 22), (12, 22), (14, 22), (14, 23), (15, 22), (15, 23), (17, 22), (17, 23), (18, 22), (18, 23), (21, 22), (21, 23)], by kernel_rfl, ?_⟩
                  conv => whnf
                  conv => whnf
                  refine ⟨⟨(by omega), (by omega)⟩, ?_⟩
                  conv => whnf
                  conv => whnf
                  refine ⟨by assumption, ?_⟩
                  conv => whnf
                  conv => whnf
                  refine ⟨⟨(by omega), (by omega)⟩, ?_⟩
                  conv => whnf
                  conv => whnf
                  refine ⟨by assumption, ?_⟩
                  conv => whnf
                  conv => whnf
                  refine .inl ?_
                  conv => whnf
                  conv => whnf
                  refine ⟨(by show _ * (8 + 1) ≤ _; omega), ?_⟩
                  conv => whnf
                  conv => whnf
                  refine .inl ?_
                  conv => whnf
                  conv => whnf
                  refine ⟨(by show _ * (8 + 1) ≤ _; omega), ?_⟩
                  conv => whnf
                  conv => whnf
                  refine .inl ?_
                  conv => whnf
                  conv => whnf
                  refine ⟨(by show _ * (8 + 1) ≤ _; omega), ?_⟩
                  conv => whnf
                  conv => whnf
                  refine ⟨inK64 (by omega) (by omega), ?_⟩
                  conv => whnf
                  conv => whnf
                  refine ⟨_, _, ⟨⟨i + 1, V ++ [m], L ++ [x.s.getD i 0 - x.t.tdiv 2], H ++ [x.s.getD i 0 + x.t.tdiv 2], by omega, by simp [hV], by simp [hL], by simp [hH], hnx, rfl, rfl⟩, by omega⟩, ⟨⟨.inl rfl, rfl, rfl, rfl⟩, ⟨⟨rfl, rfl, rfl, rfl, fun _ => rfl, fun _ _ => .inl rfl⟩, ⟨⟨rfl, rfl, rfl, rfl, fun _ => rfl, fun _ _ => .inl rfl⟩, ⟨⟨rfl, rfl, rfl, rfl, fun _ => rfl, fun _ _ => .inl rfl⟩, ⟨⟨rfl, rfl, rfl, rfl, fun _ => rfl, fun j hj => .inl (app_row V _ i j hV hj)⟩, ⟨⟨rfl, rfl, rfl, rfl, fun _ => rfl, fun j hj => .inl (app_row L _ i j hL hj)⟩, ⟨⟨rfl, rfl, rfl, rfl, fun _ => rfl, fun j hj => .inl (app_row H _ i j hH hj)⟩, trivial⟩⟩⟩⟩⟩⟩, trivial⟩⟩
                · (exfalso; omega)
              · rw [e, if_neg (by decide), if_neg (by decide)] at hm
                have h8 := S8 (r3 (x.s.getD i 0 + (x.e.getD i (0, 0)).1) (x.s.getD i 0 + (x.e.getD i (0, 0)).2) (x.w.getD i 0)) x.t
                rw [hm] at h8
                change SP 8 _ (.tuple [.agg [i64 m, vb o1, vb o2, vb o3], i64 0]) false at h8
                rw [e]
                conv => whnf
                conv => whnf
                refine ifB_dec (fun w4 => ?_) (fun w4 => ?_)
                · conv => whnf
                  conv => whnf
                  refine ⟨⟨(by omega), (by omega)⟩, ?_⟩
                  conv => whnf
                  conv => whnf
                  refine .inl ⟨_, _, byX rfl (Sound1.pl (h7s) rfl), ?_⟩
                  conv => whnf
                  conv => whnf
                  refine ⟨⟨(by omega), (by omega)⟩, ?_⟩
                  conv => whnf
                  conv => whnf
                  refine .inl ⟨_, _, byX rfl (Sound1.pl (h7w) rfl), ?_⟩
                  conv => whnf
                  conv => whnf
                  refine ⟨⟨(by omega), (by omega)⟩, ?_⟩
                  conv => whnf
                  conv => whnf
                  refine ⟨⟨(by omega), (by omega)⟩, ?_⟩
                  conv => whnf
                  conv => whnf
                  refine ⟨inK64 (by omega) (by omega), ?_⟩
                  conv => whnf
                  conv => whnf
                  refine .inl ⟨_, _, byX rfl (Sound1.pl (h7a) rfl), ?_⟩
                  conv => whnf
                  conv => whnf
                  refine ⟨⟨(by omega), (by omega)⟩, ?_⟩
                  conv => whnf
                  conv => whnf
                  refine ⟨⟨(by omega), (by omega)⟩, ?_⟩
                  conv => whnf
                  conv => whnf
                  refine ⟨inK64 (by omega) (by omega), ?_⟩
                  conv => whnf
                  conv => whnf
                  refine .inl ⟨_, _, byX rfl (Sound1.pl (h7b) rfl), ?_⟩
                  conv => whnf
                  conv => whnf
                  refine ⟨[], by kernel_rfl, ?_⟩
                  conv => whnf
                  conv => whnf
                  refine ⟨⟨(by omega), (by omega)⟩, ?_⟩
                  conv => whnf
                  conv => whnf
                  refine ⟨⟨(by omega), (by omega)⟩, ?_⟩
                  conv => whnf
                  conv => whnf
                  refine ⟨[], by kernel_rfl, ?_⟩
                  conv => whnf
                  conv => whnf
                  refine ⟨inK64 (by omega) (by omega), ?_⟩
                  conv => whnf
                  conv => whnf
                  refine ⟨(by omega), ?_⟩
                  conv => whnf
                  conv => whnf
                  refine ⟨⟨(by omega), (by omega)⟩, ?_⟩
                  conv => whnf
                  conv => whnf
                  refine ⟨⟨(by omega), (by omega)⟩, ?_⟩
                  conv => whnf
                  conv => whnf
                  refine ⟨⟨(by omega), (by omega)⟩, ?_⟩
                  conv => whnf
                  conv => whnf
                  refine ⟨by assumption, ?_⟩
                  conv => whnf
                  conv => whnf
                  refine ⟨⟨(by omega), (by omega)⟩, ?_⟩
                  conv => whnf
                  conv => whnf
                  refine ⟨[], by kernel_rfl, ?_⟩
                  conv => whnf
                  conv => whnf
                  refine ⟨inK64 (by omega) (by omega), ?_⟩
                  conv => whnf
                  conv => whnf
                  refine ⟨(by omega), ?_⟩
                  conv => whnf
                  conv => whnf
                  refine ⟨⟨(by omega), (by omega)⟩, ?_⟩
                  conv => whnf
                  conv => whnf
                  refine ⟨⟨(by omega), (by omega)⟩, ?_⟩
                  conv => whnf
                  conv => whnf
                  refine ⟨⟨(by omega), (by omega)⟩, ?_⟩
                  conv => whnf
                  conv => whnf
                  refine ⟨by assumption, ?_⟩
                  conv => whnf
                  conv => whnf
                  refine ⟨⟨(by omega), (by omega)⟩, ?_⟩
                  conv => whnf
                  conv => whnf
                  refine .inl ⟨_, _, byX rfl (Sound1.pl (h8) rfl), ?_⟩
                  conv => whnf
                  conv => whnf
                  refine ⟨[], by kernel_rfl, ?_⟩
                  conv => whnf
                  conv => whnf
                  refine ⟨⟨(by omega), (by omega)⟩, ?_⟩
                  conv => whnf
                  conv => whnf
                  refine ⟨by assumption, ?_⟩
                  conv => whnf
                  conv => whnf
                  refine ⟨⟨(by omega), (by omega)⟩, ?_⟩
                  conv => whnf
                  conv => whnf
                  refine ⟨by assumption, ?_⟩
                  conv => whnf
                  conv => whnf
                  refine .inl ⟨_, _, byX rfl (Sound1.pl (h7m) rfl), ?_⟩
                  conv => whnf
                  conv => whnf
                  refine ⟨[(0, 1000000), (1, 1000000), (2, 1000000), (3, 1000000), (5, 1000000), (6, 1000000), (7, 1000000), (8, 1000000), (9, 1000000), (10, 1000000), (11, 1000000), (12, 1000000), (13, 1000000), (15, 1000000), (16, 1000000), (17, 1000000), (18, 1000000), (19, 1000000), (20, 1000000), (21, 1000000), (22, 1000000), (23, 1000000), (4, 1000000), (14, 1000000), (24, 1000000), (25, 1000000), (26, 1000000), (27, 1000000), (5, 22), (6, 22), (8, 22), (9, 22), (12, 22), (14, 22), (14, 23), (15, 22), (15, 23), (17, 22), (17, 23), (18, 22), (18, 23), (21, 22), (21, 23)], by kernel_rfl, ?_⟩
                  conv => whnf
                  conv => whnf
                  refine ⟨⟨(by omega), (by omega)⟩, ?_⟩
                  conv => whnf
                  conv => whnf
                  refine ⟨by assumption, ?_⟩
                  conv => whnf
                  conv => whnf
                  refine ⟨⟨(by omega), (by omega)⟩, ?_⟩
                  conv => whnf
                  conv => whnf
                  refine ⟨by assumption, ?_⟩
                  conv => whnf
                  conv => whnf
                  refine .inl ?_
                  conv => whnf
                  conv => whnf
                  refine ⟨(by show _ * (8 + 1) ≤ _; omega), ?_⟩
                  conv => whnf
                  conv => whnf
                  refine .inl ?_
                  conv => whnf
                  conv => whnf
                  refine ⟨(by show _ * (8 + 1) ≤ _; omega), ?_⟩
                  conv => whnf
                  conv => whnf
                  refine .inl ?_
                  conv => whnf
                  conv => whnf
                  refine ⟨(by show _ * (8 + 1) ≤ _; omega), ?_⟩
                  conv => whnf
                  conv => whnf
                  refine ⟨inK64 (by omega) (by omega), ?_⟩
                  conv => whnf
                  conv => whnf
                  refine ⟨_, _, ⟨⟨i + 1, V ++ [m], L ++ [x.s.getD i 0 - x.t.tdiv 2], H ++ [x.s.getD i 0 + x.t.tdiv 2], by omega, by simp [hV], by simp [hL], by simp [hH], hnx, rfl, rfl⟩, by omega⟩, ⟨⟨.inl rfl, rfl, rfl, rfl⟩, ⟨⟨rfl, rfl, rfl, rfl, fun _ => rfl, fun _ _ => .inl rfl⟩, ⟨⟨rfl, rfl, rfl, rfl, fun _ => rfl, fun _ _ => .inl rfl⟩, ⟨⟨rfl, rfl, rfl, rfl, fun _ => rfl, fun _ _ => .inl rfl⟩, ⟨⟨rfl, rfl, rfl, rfl, fun _ => rfl, fun j hj => .inl (app_row V _ i j hV hj)⟩, ⟨⟨rfl, rfl, rfl, rfl, fun _ => rfl, fun j hj => .inl (app_row L _ i j hL hj)⟩, ⟨⟨rfl, rfl, rfl, rfl, fun _ => rfl, fun j hj => .inl (app_row H _ i j hH hj)⟩, trivial⟩⟩⟩⟩⟩⟩, trivial⟩⟩
                · (exfalso; omega)
            · conv => whnf
              conv => whnf
              refine ifB_dec (fun w4 => ?_) (fun w4 => ?_)
              · conv => whnf
                conv => whnf
                refine ⟨⟨(by omega), (by omega)⟩, ?_⟩
                conv => whnf
                conv => whnf
                refine .inl ⟨_, _, byX rfl (Sound1.pl (h7s) rfl), ?_⟩
                conv => whnf
                conv => whnf
                refine ifB_not ?_
                conv => whnf
                conv => whnf
                refine ifB_dec (fun w5 => ?_) (fun w5 => ?_)
                · conv => whnf
                  conv => whnf
                  refine ⟨⟨(by omega), (by omega)⟩, ?_⟩
                  conv => whnf
                  conv => whnf
                  refine .inl ⟨_, _, byX rfl (Sound1.pl (h7w) rfl), ?_⟩
                  conv => whnf
                  conv => whnf
                  refine ifB_not ?_
                  conv => whnf
                  conv => whnf
                  refine ifB_dec (fun w6 => ?_) (fun w6 => ?_)
                  · conv => whnf
                    conv => whnf
                    refine ⟨⟨(by omega), (by omega)⟩, ?_⟩
                    conv => whnf
                    conv => whnf
                    refine ⟨⟨(by omega), (by omega)⟩, ?_⟩
                    conv => whnf
                    conv => whnf
                    refine ⟨inK64 (by omega) (by omega), ?_⟩
                    conv => whnf
                    conv => whnf
                    refine .inl ⟨_, _, byX rfl (Sound1.pl (h7a) rfl), ?_⟩
                    conv => whnf
                    conv => whnf
                    refine ifB_not ?_
                    conv => whnf
                    conv => whnf
                    refine ifB_dec (fun w7 => ?_) (fun w7 => ?_)
                    · conv => whnf
                      conv => whnf
                      refine ⟨⟨(by omega), (by omega)⟩, ?_⟩
                      conv => whnf
                      conv => whnf
                      refine ⟨⟨(by omega), (by omega)⟩, ?_⟩
                      conv => whnf
                      conv => whnf
                      refine ⟨inK64 (by omega) (by omega), ?_⟩
                      conv => whnf
                      conv => whnf
                      refine .inl ⟨_, _, byX rfl (Sound1.pl (h7b) rfl), ?_⟩
                      conv => whnf
                      conv => whnf
                      refine ifB_not ?_
                      conv => whnf
                      conv => whnf
                      refine ifB_dec (fun w8 => ?_) (fun w8 => ?_)
                      · (exfalso; omega)
                      · conv => whnf
                        conv => whnf
                        refine ⟨?_, nofun⟩
                        (first | rfl | contradiction | (exfalso; apply hE; refine ⟨by assumption, by assumption, by assumption, by assumption⟩))
                    · conv => whnf
                      conv => whnf
                      refine ⟨?_, nofun⟩
                      (first | rfl | contradiction | (exfalso; apply hE; refine ⟨by assumption, by assumption, by assumption, by assumption⟩))
                  · conv => whnf
                    conv => whnf
                    refine ⟨?_, nofun⟩
                    (first | rfl | contradiction | (exfalso; apply hE; refine ⟨by assumption, by assumption, by assumption, by assumption⟩))
                · conv => whnf
                  conv => whnf
                  refine ⟨?_, nofun⟩
                  (first | rfl | contradiction | (exfalso; apply hE; refine ⟨by assumption, by assumption, by assumption, by assumption⟩))
              · (exfalso; omega)
          · have ei : i = x.s.length := by omega
            subst ei
            have hx : ∀ j, j < x.s.length → (-100000 ≤ V.getD j 0 ∧ V.getD j 0 ≤ 100000) ∧ (-100000 ≤ L.getD j 0 ∧ L.getD j 0 ≤ 100000) ∧ (-100000 ≤ H.getD j 0 ∧ H.getD j 0 ≤ 100000) := fun j hj => by
              have := hB j hj
              unfold Hold at this
              omega
            have rV := run_zero (l := V) hg hr (by omega) (fun j hj => (hx j (by omega)).1)
            have rL := run_zero (l := L) hg hr (by omega) (fun j hj => (hx j (by omega)).2.1)
            have rH := run_zero (l := H) hg hr (by omega) (fun j hj => (hx j (by omega)).2.2)
            have h9V := S9 g r V (by omega)
            have h9L := S9 g r L (by omega)
            have h9H := S9 g r H (by omega)
            rw [rV, if_pos rfl, ints_len hV] at h9V
            rw [rL, if_pos rfl, ints_len hL] at h9L
            rw [rH, if_pos rfl, ints_len hH] at h9H
            have lV := runL_len r g V
            have lL := runL_len r g L
            have lH := runL_len r g H
            have hGt := GtOk.of hg
            have hRu := RuOk.of hr
            have hLV : ∀ j, j < x.s.length → (runL r g V).getD j 0 ≤ (runL r g L).getD j 0 := fun j hj => run_mono hRu hGt.lh (by have := hGt.r; omega) L V g.a g.a (by omega) (fun k hk => by have := hB k (by omega); unfold Hold at this; omega) (Int.le_refl _) j (by omega)
            have hVH : ∀ j, j < x.s.length → (runL r g H).getD j 0 ≤ (runL r g V).getD j 0 := fun j hj => run_mono hRu hGt.lh (by have := hGt.r; omega) V H g.a g.a (by omega) (fun k hk => by have := hB k (by omega); unfold Hold at this; omega) (Int.le_refl _) j (by omega)
            conv => whnf
            conv => whnf
            refine ifB_dec (fun w4 => ?_) (fun w4 => ?_)
            · (exfalso; omega)
            · conv => whnf
              conv => whnf
              refine .inl ⟨_, _, byX rfl (h9V), ?_⟩
              conv => whnf
              conv => whnf
              refine .inl ⟨_, _, byX rfl (h9L), ?_⟩
              conv => whnf
              conv => whnf
              refine .inl ⟨_, _, byX rfl (h9H), ?_⟩
              conv => whnf
              conv => whnf
              refine ifB_bne (fun w5 => ?_) (fun w5 => ?_)
              · (exfalso; omega)
              · conv => whnf
                conv => whnf
                refine ifB_bne (fun w6 => ?_) (fun w6 => ?_)
                · (exfalso; omega)
                · conv => whnf
                  conv => whnf
                  refine ifB_bne (fun w7 => ?_) (fun w7 => ?_)
                  · (exfalso; omega)
                  · conv => whnf
                    conv => whnf
                    refine ⟨[], [7, 16, 18, 20, 22], fun st mq => ∃ (j : Nat) (F0 : Nat → List AV) (F1 : Nat → List AV) (F2 : Nat → List AV), (j ≤ x.s.length) ∧ st = ⟨[(7, i64 x.s.length), (16, ints (runL r g V)), (18, ints (runL r g L)), (20, ints (runL r g H)), (22, i64 j)], ⟨[⟨4, 1, F0, 0, false, true, false⟩, ⟨4, 1, F1, 0, false, true, false⟩, ⟨5, 1, F2, 0, false, true, false⟩, ⟨1, x.s.length, fun j => [i64 (V.getD j 0)], 0, true, true, false⟩, ⟨1, x.s.length, fun j => [i64 (L.getD j 0)], 0, true, true, false⟩, ⟨1, x.s.length, fun j => [i64 (H.getD j 0)], 0, true, true, false⟩], [], none, 0⟩, []⟩ ∧ mq = x.s.length - j,
                      ⟨_, _, ⟨0, _, _, _, by omega, rfl, rfl⟩, ⟨⟨.inl rfl, rfl, rfl, rfl⟩, ⟨⟨rfl, rfl, rfl, rfl, fun _ => rfl, fun _ _ => .inl rfl⟩, ⟨⟨rfl, rfl, rfl, rfl, fun _ => rfl, fun _ _ => .inl rfl⟩, ⟨⟨rfl, rfl, rfl, rfl, fun _ => rfl, fun _ _ => .inl rfl⟩, ⟨⟨rfl, rfl, rfl, rfl, fun _ => rfl, fun _ _ => .inl rfl⟩, ⟨⟨rfl, rfl, rfl, rfl, fun _ => rfl, fun _ _ => .inl rfl⟩, ⟨⟨rfl, rfl, rfl, rfl, fun _ => rfl, fun _ _ => .inl rfl⟩, trivial⟩⟩⟩⟩⟩⟩, trivial⟩⟩, ?_⟩
                    rintro s0 m0 ⟨j, F0, F1, F2, hj, rfl, hmeas⟩
                    by_cases hjl : j < x.s.length
                    · have h7j := S7 ((runL r g V).getD j 0) ((runL r g H).getD j 0) ((runL r g L).getD j 0)
                      rw [show win ((runL r g V).getD j 0) ((runL r g H).getD j 0) ((runL r g L).getD j 0) = true from decide_eq_true ⟨hVH j hjl, hLV j hjl⟩] at h7j
                      conv => whnf
                      conv => whnf
                      conv => whnf
                      refine ifB_dec (fun w8 => ?_) (fun w8 => ?_)
                      · conv => whnf
                        conv => whnf
                        conv => whnf
                        refine ⟨[], by kernel_rfl, ?_⟩
                        conv => whnf
                        conv => whnf
                        conv => whnf
                        refine ⟨⟨(by omega), (by omega)⟩, ?_⟩
                        conv => whnf
                        conv => whnf
                        conv => whnf
                        refine ⟨⟨(by omega), (by omega)⟩, ?_⟩
                        conv => whnf
                        conv => whnf
                        conv => whnf
                        refine ⟨⟨(by omega), (by omega)⟩, ?_⟩
                        conv => whnf
                        conv => whnf
                        conv => whnf
                        refine .inl ⟨_, _, byX rfl (Sound1.pl (h7j) rfl), ?_⟩
                        conv => whnf
                        conv => whnf
                        conv => whnf
                        refine ⟨inK64 (by omega) (by omega), ?_⟩
                        conv => whnf
                        conv => whnf
                        conv => whnf
                        refine ⟨_, _, ⟨⟨j + 1, _, _, _, by omega, rfl, rfl⟩, by omega⟩, ⟨⟨.inl rfl, rfl, rfl, rfl⟩, ⟨⟨rfl, rfl, rfl, rfl, fun _ => rfl, fun _ _ => .inl rfl⟩, ⟨⟨rfl, rfl, rfl, rfl, fun _ => rfl, fun _ _ => .inl rfl⟩, ⟨⟨rfl, rfl, rfl, rfl, fun _ => rfl, fun _ _ => .inl rfl⟩, ⟨⟨rfl, rfl, rfl, rfl, fun _ => rfl, fun _ _ => .inl rfl⟩, ⟨⟨rfl, rfl, rfl, rfl, fun _ => rfl, fun _ _ => .inl rfl⟩, ⟨⟨rfl, rfl, rfl, rfl, fun _ => rfl, fun _ _ => .inl rfl⟩, trivial⟩⟩⟩⟩⟩⟩, trivial⟩⟩
                      · (exfalso; omega)
                    · conv => whnf
                      conv => whnf
                      conv => whnf
                      refine ifB_dec (fun w8 => ?_) (fun w8 => ?_)
                      · (exfalso; omega)
                      · conv => whnf
                        conv => whnf
                        conv => whnf
                        refine ⟨?_, nofun⟩
                        rfl
  · refine sound (d := 2) tok2 mixed2 Try.func3 (by kernel_rfl) (by kernel_rfl) ?_
    conv => whnf
    refine .inl ⟨_, _, byX rfl (Sound1.pl (S4) rfl), ?_⟩
    conv => whnf
    refine .inl ⟨_, _, byX rfl (Sound1.pl (h5) rfl), ?_⟩
    conv => whnf
    refine ifB_bne (fun w1 => ?_) (fun w1 => ?_)
    · conv => whnf
      refine ⟨?_, nofun⟩
      (first | rfl | contradiction | (exfalso; apply hC; refine ⟨by assumption, by assumption, by omega, by omega, by omega, by assumption, by assumption⟩))
    · conv => whnf
      refine .inl ⟨_, _, byX rfl (Sound1.pl (h6) rfl), ?_⟩
      conv => whnf
      refine ifB_bne (fun w2 => ?_) (fun w2 => ?_)
      · conv => whnf
        refine ⟨?_, nofun⟩
        (first | rfl | contradiction | (exfalso; apply hC; refine ⟨by assumption, by assumption, by omega, by omega, by omega, by assumption, by assumption⟩))
      · conv => whnf
        refine ifB_dec (fun w3 => ?_) (fun w3 => ?_)
        · conv => whnf
          refine ⟨?_, nofun⟩
          (first | rfl | contradiction | (exfalso; apply hC; refine ⟨by assumption, by assumption, by omega, by omega, by omega, by assumption, by assumption⟩))
        · conv => whnf
          refine ifB_bne (fun w4 => ?_) (fun w4 => ?_)
          · conv => whnf
            refine ⟨?_, nofun⟩
            (first | rfl | contradiction | (exfalso; apply hC; refine ⟨by assumption, by assumption, by omega, by omega, by omega, by assumption, by assumption⟩))
          · conv => whnf
            refine ifB_bne (fun w5 => ?_) (fun w5 => ?_)
            · conv => whnf
              refine ⟨?_, nofun⟩
              (first | rfl | contradiction | (exfalso; apply hC; refine ⟨by assumption, by assumption, by omega, by omega, by omega, by assumption, by assumption⟩))
            · conv => whnf
              refine .inl ⟨_, _, byX rfl (Sound1.pl (h7k) rfl), ?_⟩
              conv => whnf
              refine ifB_not ?_
              conv => whnf
              refine ifB_dec (fun w6 => ?_) (fun w6 => ?_)
              · conv => whnf
                refine .inl ⟨_, _, byX rfl (Sound1.pl (h7t) rfl), ?_⟩
                conv => whnf
                refine ifB_not ?_
                conv => whnf
                refine ifB_dec (fun w7 => ?_) (fun w7 => ?_)
                · (exfalso; omega)
                · conv => whnf
                  refine ⟨?_, nofun⟩
                  (first | rfl | contradiction | (exfalso; apply hC; refine ⟨by assumption, by assumption, by omega, by omega, by omega, by assumption, by assumption⟩))
              · conv => whnf
                refine ⟨?_, nofun⟩
                (first | rfl | contradiction | (exfalso; apply hC; refine ⟨by assumption, by assumption, by omega, by omega, by omega, by assumption, by assumption⟩))
end Go.Tr

/- The opening of a law: what an argument reads as, as abstract values, with its shape. Conditions: types of numbers, truth values, strings, slices, structs and arrays. -/
namespace Go.Tr
open Go Go.RowKit

def V2 (P : Program) (w : World) (q : Nat → Prop) : List AV → List Value → Prop
  | [], [] => True
  | x :: xs, v :: vs => (VT P w q x v ∧ v.oneCell' = true) ∧ V2 P w q xs vs
  | _, _ => False

def All2 {α β : Type} (p : α → β → Prop) : List α → List β → Prop
  | [], [] => True
  | x :: xs, y :: ys => p x y ∧ All2 p xs ys
  | _, _ => False

/-- The shape of what a type's cells read as. -/
def TyC (P : Program) : Nat → TypeId → List AV → Prop
  | 0, _, _ => True
  | m + 1, t, xs => match P.underlying t with
    | some .bool => ∃ b, xs = [.val (.bool b)]
    | some (.int k) => ∃ n, xs = [.val (.int k n)] ∧ inK k n
    | some .string => ∃ s : ByteArray, xs = [.val (.string s)] ∧ s.size ≤ 9223372036854775807
    | some (.slice e) => ∃ len f, xs = [.rslice (P.cellsOf e) len f] ∧ len ≤ 9223372036854775807 ∧ ∀ i, i < len → TyC P m e (f i)
    | some (.struct fs) => ∃ ps : List (List AV), xs = ps.flatten ∧ All2 (fun f p => TyC P m f.type p) fs.toList ps
    | some (.array n e) => ∃ ps : List (List AV), xs = ps.flatten ∧ ps.length = n ∧ ∀ p ∈ ps, TyC P m e p
    | _ => False

def layF (P : Program) (g : TypeId → Bool) : List Field → Nat → Nat → Bool
  | [], off, tot => Nat.beq off tot
  | f :: r, off, tot => Nat.beq f.offset off && g f.type && layF P g r (off + P.cellsOf f.type) tot

/-- Types that are covered, laid out part behind part. -/
def lay (P : Program) : Nat → TypeId → Bool
  | 0, _ => false
  | m + 1, t => match P.underlying t with
    | some .bool | some (.int _) | some .string => true
    | some (.slice e) => Nat.blt 0 (P.cellsOf e) && lay P m e
    | some (.struct fs) => layF P (lay P m) fs.toList 0 (P.cellsOf t)
    | some (.array n e) => Nat.beq (P.cellsOf t) (n * P.cellsOf e) && lay P m e
    | _ => false

section
variable {H : Type} {enc : TypeId × Value → H} {P : Program} {w : World} {spare : Nat → Bool} {held : Bool} {q : Nat → Prop}

theorem V2_len : ∀ {xs : List AV} {vs : List Value}, V2 P w q xs vs → xs.length = vs.length
  | [], [], _ => rfl
  | x :: xs, v :: vs, h => by simp [V2_len h.2]
  | [], _ :: _, h => h.elim
  | _ :: _, [], h => h.elim

theorem V2_append : ∀ {xs : List AV} {vs : List Value} {ys : List AV} {us : List Value}, V2 P w q xs vs → V2 P w q ys us → V2 P w q (xs ++ ys) (vs ++ us)
  | [], [], _, _, _, h => h
  | _ :: _, _ :: _, _, _, h, h' => ⟨h.1, V2_append h.2 h'⟩
  | [], _ :: _, _, _, h, _ => h.elim
  | _ :: _, [], _, _, h, _ => h.elim

theorem V2_get : ∀ {xs : List AV} {vs : List Value}, V2 P w q xs vs → ∀ (i : Nat) x, xs[i]? = some x → VT P w q x (vs.getD i undef) ∧ (vs.getD i undef).oneCell' = true
  | [], [], _, i, x, hx => by simp at hx
  | y :: ys, v :: vs, h, 0, x, hx => by
    simp at hx
    subst hx
    simpa using h.1
  | y :: ys, v :: vs, h, i + 1, x, hx => by
    have := V2_get h.2 i x (by simpa using hx)
    simpa using this
  | [], _ :: _, h, _, _, _ => h.elim
  | _ :: _, [], h, _, _, _ => h.elim

theorem mapM_cons_some {α β : Type} {f : α → Option β} {a : α} {l : List α} {r : List β} (h : (a :: l).mapM f = some r) : ∃ b bs, f a = some b ∧ l.mapM f = some bs ∧ r = b :: bs := by
  rw [List.mapM_cons] at h
  cases ha : f a with
  | none => simp [ha] at h
  | some b =>
    cases hl : l.mapM f with
    | none => simp [ha, hl] at h
    | some bs => simp [ha, hl] at h; exact ⟨b, bs, rfl, rfl, h.symm⟩

theorem mapM_get {α β : Type} {f : α → Option β} : ∀ {l : List α} {r : List β}, l.mapM f = some r → r.length = l.length ∧ ∀ (i : Nat) x, l[i]? = some x → ∃ y, f x = some y ∧ r[i]? = some y
  | [], r, h => by simp at h; subst h; exact ⟨rfl, fun i x hx => by simp at hx⟩
  | a :: l, r, h => by
    obtain ⟨b, bs, h1, h2, rfl⟩ := mapM_cons_some h
    obtain ⟨g1, g2⟩ := mapM_get h2
    refine ⟨by simp [g1], fun i x hx => ?_⟩
    cases i with
    | zero => simp at hx; subst hx; exact ⟨b, h1, rfl⟩
    | succ i => simpa using g2 i x (by simpa using hx)

theorem cells_some {a : Addr} {n : Nat} {cs : List Value} (h : w.cells? 0 a n = some cs) : cs.length = n ∧ ∀ j, j < n → w.cell? (a.add j) = some (cs.getD j undef) := by
  unfold World.cells? at h
  rw [if_pos (Nat.zero_le _)] at h
  obtain ⟨h1, h2⟩ := mapM_get h
  refine ⟨by simpa using h1, fun j hj => ?_⟩
  obtain ⟨y, h3, h4⟩ := h2 j j (by simp [hj])
  rw [h3, List.getD_eq_getElem?_getD, h4]
  rfl

theorem cell_spot {a : Addr} {v : Value} (h : w.cell? a = some v) : a.spot = none ∧ a.block < w.heap.size := by
  unfold World.cell? at h
  split at h
  · rename_i c t fr hb
    refine ⟨?_, ?_⟩
    · cases hs : a.spot with
      | none => rfl
      | some s => simp [hs] at h
    · exact (Array.getElem?_eq_some_iff.1 hb).1
  · cases h

theorem addr_add2 (blk off u j : Nat) : ((⟨blk, off, none⟩ : Addr).add u).add j = ⟨blk, off + (u + j), none⟩ := by
  unfold Addr.add
  by_cases h1 : u = 0
  · subst h1
    by_cases h2 : j = 0
    · subst h2; rfl
    · simp [h2]
  · by_cases h2 : j = 0
    · subst h2; simp [h1]
    · simp [h1, h2, Nat.add_assoc]

theorem fields_av {g : TypeId → List Value → Option (DataW H × List MemPlace)} {T : TypeId → List AV → Prop} {ly : TypeId → Bool}
    (ih : ∀ t, ly t = true → ∀ cs x, g t cs = some x → ∃ xs, V2 P w q xs cs ∧ T t xs) (cs : List Value) : ∀ (fs : List Field) (off : Nat) (r : List (DataW H × List MemPlace)), layF P ly fs off cs.length = true →
    (fs.mapM fun f => g f.type ((cs.drop f.offset).take (P.cellsOf f.type))) = some r → ∃ ps : List (List AV), V2 P w q ps.flatten (cs.drop off) ∧ All2 (fun f p => T f.type p) fs ps
  | [], off, r, hl, h => by
    have := Nat.eq_of_beq_eq_true hl
    subst this
    exact ⟨[], by simp [V2], trivial⟩
  | f :: fs, off, r, hl, h => by
    simp only [layF, Bool.and_eq_true] at hl
    obtain ⟨⟨h1, h2⟩, h3⟩ := hl
    have e := Nat.eq_of_beq_eq_true h1
    obtain ⟨b, bs, g1, g2, rfl⟩ := mapM_cons_some h
    obtain ⟨p, p1, p2⟩ := ih _ h2 _ _ g1
    obtain ⟨ps, r1, r2⟩ := fields_av ih cs fs _ _ h3 g2
    refine ⟨p :: ps, ?_, p2, r2⟩
    rw [List.flatten_cons]
    have : cs.drop off = (cs.drop f.offset).take (P.cellsOf f.type) ++ cs.drop (off + P.cellsOf f.type) := by
      rw [e, ← List.drop_drop]
      exact (List.take_append_drop _ _).symm
    rw [this]
    exact V2_append p1 r1

theorem items_av {g : List Value → Option (DataW H × List MemPlace)} {T : List AV → Prop} (ih : ∀ cs x, g cs = some x → ∃ xs, V2 P w q xs cs ∧ T xs) (cs : List Value) (s n : Nat) (hn : cs.length = n * s)
    (h : ∀ i, i < n → ∃ x, g ((cs.drop (i * s)).take s) = some x) : ∀ (k i : Nat), i + k = n → ∃ ps : List (List AV), V2 P w q ps.flatten (cs.drop (i * s)) ∧ ps.length = k ∧ ∀ p ∈ ps, T p
  | 0, i, hi => by
    have : i = n := by omega
    subst this
    refine ⟨[], ?_, rfl, nofun⟩
    rw [List.drop_eq_nil_of_le (by omega)]
    exact trivial
  | k + 1, i, hi => by
    obtain ⟨x, hx⟩ := h i (by omega)
    obtain ⟨p, p1, p2⟩ := ih _ _ hx
    obtain ⟨ps, r1, r2, r3⟩ := items_av ih cs s n hn h k (i + 1) (by omega)
    refine ⟨p :: ps, ?_, by simp [r2], fun y hy => ?_⟩
    · rw [List.flatten_cons]
      have : cs.drop (i * s) = (cs.drop (i * s)).take s ++ cs.drop ((i + 1) * s) := by
        rw [Nat.succ_mul, ← List.drop_drop]
        exact (List.take_append_drop _ _).symm
      rw [this]
      exact V2_append p1 r1
    · rcases List.mem_cons.1 hy with rfl | hy
      · exact p2
      · exact r3 y hy

theorem trod_av (hq : ∀ b, b < w.heap.size → q b) : ∀ (m : Nat) (t : TypeId), lay P m t = true → ∀ (fuel : Nat) (cs : List Value) (x : DataW H × List MemPlace), DataW.trod enc P w 0 spare held fuel t cs = some x → ∃ xs, V2 P w q xs cs ∧ TyC P m t xs
  | 0, t, hl, _, _, _, _ => by simp [lay] at hl
  | m + 1, t, hl, 0, cs, x, h => by simp [DataW.trod] at h
  | m + 1, t, hl, fuel + 1, cs, x, h => by
    unfold lay at hl
    unfold TyC
    unfold DataW.trod at h
    cases hu : P.underlying t with
    | none => simp [hu] at hl
    | some d =>
      simp only [hu] at hl h ⊢
      cases d with
      | bool =>
        split at h <;> first | (cases h; done) | (rename_i e; cases e; done) | skip
        cases h
        exact ⟨[.val (.bool _)], ⟨⟨.val _, rfl⟩, trivial⟩, _, rfl⟩
      | int k =>
        split at h <;> first | (cases h; done) | (rename_i e; cases e; done) | skip
        rename_i e
        cases e
        split at h
        · rename_i hk
          obtain ⟨rfl, hw⟩ := hk
          simp only [Lit.wf, Bool.and_eq_true, decide_eq_true_eq] at hw
          exact ⟨[.val (.int _ _)], ⟨⟨.val _, rfl⟩, trivial⟩, _, rfl, hw⟩
        · cases h
      | string =>
        split at h <;> first | (cases h; done) | (rename_i e; cases e; done) | skip
        split at h
        · rename_i hs
          exact ⟨[.val (.string _)], ⟨⟨.val _, rfl⟩, trivial⟩, _, rfl, hs⟩
        · cases h
      | slice e =>
        simp only [Bool.and_eq_true] at hl
        split at h <;> first | (cases h; done) | (rename_i e; cases e; done) | skip
        · exact ⟨[.rslice (P.cellsOf e) 0 fun _ => []], ⟨⟨.rslice0 _ _ _ _, rfl⟩, trivial⟩, _, _, rfl, by omega, fun i hi => absurd hi (Nat.not_lt_zero i)⟩
        · rename_i e0 a len cap e1
          cases e1
          split at h
          case isFalse => cases h
          rename_i hb
          have hes : 0 < P.cellsOf e := Nat.le_of_ble_eq_true hl.1
          cases hM : (List.range len).mapM fun i => (w.cells? 0 (a.add (i * P.cellsOf e)) (P.cellsOf e)).bind (DataW.trod enc P w 0 spare held fuel e) with
          | none => rw [hM] at h; cases h
          | some elems =>
            obtain ⟨_, g2⟩ := mapM_get hM
            have hx : ∀ i, ∃ xs : List AV, i < len → ∃ cs, (cs.length = P.cellsOf e ∧ ∀ j, j < P.cellsOf e → w.cell? ((a.add (i * P.cellsOf e)).add j) = some (cs.getD j undef)) ∧ V2 P w q xs cs ∧ TyC P m e xs := fun i => by
              by_cases hi : i < len
              · obtain ⟨y, y1, _⟩ := g2 i i (by simp [hi])
                cases hc : w.cells? 0 (a.add (i * P.cellsOf e)) (P.cellsOf e) with
                | none => rw [hc] at y1; cases y1
                | some cs1 =>
                  rw [hc] at y1
                  obtain ⟨xs, x1, x2⟩ := trod_av hq m e hl.2 _ _ _ y1
                  exact ⟨xs, fun _ => ⟨cs1, cells_some hc, x1, x2⟩⟩
              · exact ⟨[], fun h => absurd h hi⟩
            have hf := fun i => (Classical.choose_spec (hx i))
            generalize hF : (fun i => Classical.choose (hx i)) = F
            have hf : ∀ i, i < len → ∃ cs, (cs.length = P.cellsOf e ∧ ∀ j, j < P.cellsOf e → w.cell? ((a.add (i * P.cellsOf e)).add j) = some (cs.getD j undef)) ∧ V2 P w q (F i) cs ∧ TyC P m e (F i) := fun i hi => by
              have := Classical.choose_spec (hx i) hi
              rw [← hF]
              exact this
            refine ⟨[.rslice (P.cellsOf e) len F], ⟨⟨?_, rfl⟩, trivial⟩, len, F, rfl, ?_, fun i hi => ?_⟩
            · rcases Nat.eq_zero_or_pos len with rfl | hp
              · exact .rslice0 _ _ _ _
              · obtain ⟨cs0, c1, _, _⟩ := hf 0 hp
                have hc0 := c1.2 0 hes
                have e0 : ((a.add (0 * P.cellsOf e)).add 0) = a := by simp [Addr.add]
                rw [e0] at hc0
                obtain ⟨s1, s2⟩ := cell_spot hc0
                obtain ⟨blk, off, spot⟩ := a
                simp only at s1 s2
                subst s1
                have hG : ∀ i, ∃ cs : List Value, i < len → (cs.length = P.cellsOf e ∧ ∀ j, j < P.cellsOf e → w.cell? (((⟨blk, off, none⟩ : Addr).add (i * P.cellsOf e)).add j) = some (cs.getD j undef)) ∧ V2 P w q (F i) cs := fun i => by
                  by_cases hi : i < len
                  · obtain ⟨cs, c1, c2, _⟩ := hf i hi
                    exact ⟨cs, fun _ => ⟨c1, c2⟩⟩
                  · exact ⟨[], fun h => absurd h hi⟩
                refine .rslice _ _ _ blk off cap (fun i j => (Classical.choose (hG i)).getD j undef) hb.2.1 (hq _ s2) (fun i hi => ?_) (fun i j hi hj => ?_) (fun i j x hi hx => ?_)
                · obtain ⟨c1, c2⟩ := Classical.choose_spec (hG i) hi
                  rw [V2_len c2, c1.1]
                · obtain ⟨c1, c2⟩ := Classical.choose_spec (hG i) hi
                  have hc := c1.2 j hj
                  have ea : ((⟨blk, off, none⟩ : Addr).add (i * P.cellsOf e)).add j = ⟨blk, off + (i * P.cellsOf e + j), none⟩ := by
                    exact addr_add2 blk off _ j
                  rw [ea] at hc
                  refine ⟨hc, ?_⟩
                  have hlt : j < (F i).length := by rw [V2_len c2, c1.1]; exact hj
                  exact (V2_get c2 j _ (List.getElem?_eq_getElem hlt)).2
                · obtain ⟨c1, c2⟩ := Classical.choose_spec (hG i) hi
                  exact (V2_get c2 j x hx).1
            · have := hb.2.2
              unfold maxLen at this
              omega
            · obtain ⟨_, _, _, h3⟩ := hf i hi
              exact h3
      | struct fs =>
        replace h : (if cs.length = P.cellsOf t then (fs.toList.mapM fun f => DataW.trod enc P w 0 spare held fuel f.type ((cs.drop f.offset).take (P.cellsOf f.type))).map fun xs => (.agg (xs.map (·.1)), xs.flatMap (·.2)) else none) = some x := h
        split at h
        case isFalse => cases h
        rename_i hc
        cases hM : fs.toList.mapM fun f => DataW.trod enc P w 0 spare held fuel f.type ((cs.drop f.offset).take (P.cellsOf f.type)) with
        | none => rw [hM] at h; cases h
        | some r =>
          obtain ⟨ps, p1, p2⟩ := fields_av (T := TyC P m) (ly := lay P m) (fun t ht cs x hx => trod_av hq m t ht fuel cs x hx) cs fs.toList 0 r (by rw [hc]; exact hl) hM
          exact ⟨ps.flatten, by simpa using p1, ps, rfl, p2⟩
      | array n e =>
        simp only [Bool.and_eq_true] at hl
        replace h : (if cs.length = P.cellsOf t then ((List.range n).mapM fun i => DataW.trod enc P w 0 spare held fuel e ((cs.drop (i * P.cellsOf e)).take (P.cellsOf e))).map fun xs => (.agg (xs.map (·.1)), xs.flatMap (·.2)) else none) = some x := h
        split at h
        case isFalse => cases h
        rename_i hc
        cases hM : (List.range n).mapM fun i => DataW.trod enc P w 0 spare held fuel e ((cs.drop (i * P.cellsOf e)).take (P.cellsOf e)) with
        | none => rw [hM] at h; cases h
        | some r =>
          obtain ⟨_, g2⟩ := mapM_get hM
          obtain ⟨ps, p1, p2, p3⟩ := items_av (T := TyC P m e) (fun cs x hx => trod_av hq m e hl.2 fuel cs x hx) cs (P.cellsOf e) n (by rw [hc]; exact Nat.eq_of_beq_eq_true hl.1)
            (fun i hi => by obtain ⟨y, y1, _⟩ := g2 i i (by simp [hi]); exact ⟨y, y1⟩) n 0 (by omega)
          exact ⟨ps.flatten, by simpa using p1, ps, rfl, p2, p3⟩
      | _ => simp at hl

/-- The shape of an argument. -/
def TyA (P : Program) (m : Nat) (t : TypeId) (x : AV) : Prop :=
  match P.underlying t with
  | some (.struct _) | some (.array _ _) => ∃ xs, x = .agg xs ∧ TyC P m t xs
  | _ => TyC P m t [x]

/-- An argument of a law, as an abstract value. -/
theorem open_av {r : Reach} {b0 : Nat} {t : TypeId} {v : Value} {d : DataW H} {ps : List MemPlace} {m : Nat} (hl : lay P m t = true) (hq : ∀ b, b < w.heap.size → q b)
    (hv : Value.okWide P w r b0 t v) (hd : DataW.Trod enc P w 0 spare held t v d ps) : ∃ x, VT P w q x v ∧ TyA P m t x := by
  obtain ⟨fuel, hf⟩ := hd
  obtain ⟨xs, h1, h2⟩ := trod_av hq m t hl fuel _ _ hf
  have agg : ∀ cs, v = .agg cs → VT P w q (.agg xs) v := by
    rintro cs rfl
    have hlen := V2_len h1
    refine .agg xs cs (by rw [hlen]; simp [Value.cells]) (fun u hu => ?_) (fun i x hx => ?_)
    · obtain ⟨i, hi, rfl⟩ := List.getElem_of_mem hu
      have hx : i < xs.length := by rw [hlen]; simpa [Value.cells] using hi
      have := (V2_get h1 i _ (List.getElem?_eq_getElem hx)).2
      have hi' : i < cs.size := by simpa using hi
      simpa [Value.cells, List.getD_eq_getElem?_getD, hi'] using this
    · have := (V2_get h1 i x hx).1
      simpa [Value.cells, List.getD_eq_getElem?_getD, Array.getD_eq_getD_getElem?] using this
  have one : ∀ u, v.cells.toList = [u] → v = u → ∃ x, VT P w q x v ∧ TyC P m t [x] := by
    rintro u e rfl
    rw [e] at h1
    match xs, h1, h2 with
    | [x], h1, h2 => exact ⟨x, h1.1.1, h2⟩
  unfold TyA
  unfold Value.okWide at hv
  split
  · rename_i fs hu
    simp only [hu] at hv
    obtain ⟨cs, e, _, _⟩ := hv
    exact ⟨_, agg cs e, xs, rfl, h2⟩
  · rename_i n e hu
    simp only [hu] at hv
    obtain ⟨cs, e, _, _⟩ := hv
    exact ⟨_, agg cs e, xs, rfl, h2⟩
  · rename_i n1 n2
    have hc : Cell.okWide P w r b0 t v := by
      split at hv
      · rename_i hu; exact absurd hu (n1 _)
      · rename_i hu; exact absurd hu (n2 _ _)
      · exact hv
    cases v with
    | agg cs =>
      simp only [Cell.okWide] at hc
      split at hc <;> first | (rename_i e _; cases e; done) | (rename_i e; cases e; done) | (simp [Cell.ok] at hc)
    | tuple cs =>
      simp only [Cell.okWide] at hc
      split at hc <;> first | (rename_i e _; cases e; done) | (rename_i e; cases e; done) | (simp [Cell.ok] at hc)
    | _ => exact one _ rfl rfl
end
end Go.Tr

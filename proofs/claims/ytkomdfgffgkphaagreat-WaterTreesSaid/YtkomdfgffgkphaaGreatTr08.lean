/- Contracts of chapter 2: the state of a net. Conditions: none. -/
import Derived.Test.YtkomdfgffgkphaaGreatTr07
import Derived.Test.YtkomdfgffgkphaaGreatTr06

namespace Go.Tr
open Go Go.Proofs
set_option maxRecDepth 20000
set_option maxHeartbeats 8000000

theorem S64 (N : Net) (b : List (Int × Int)) (c : Int) (x : Int × Int) (h0 : 0 ≤ x.1) (h1 : x.1 < N.cs.length) : SP 64 [treeA N b c, .agg (brC x)] (.tuple [i64 (otherN (N.cs.getD x.1.toNat cn0) x.2), i64 (signN (N.cs.getD x.1.toNat cn0) x.2)]) false := by
  unfold otherN signN
  refine sound (d := 2) tok2 mixed2 Tryz.func64 (by kernel_rfl) (by kernel_rfl) ?_
  conv => whnf
  refine ⟨⟨(by omega), (by omega)⟩, ?_⟩
  conv => whnf
  refine ifB_bne (fun w1 => ?_) (fun w1 => ?_)
  · conv => whnf
    refine ⟨?_, nofun⟩
    rw [if_neg w1, if_neg w1]
    exact ave_tup2 (k := 4) rfl rfl
  · conv => whnf
    refine ⟨?_, nofun⟩
    rw [if_pos w1, if_pos w1]
    exact ave_tup2 (k := 4) rfl rfl

theorem mem_getD {l : List Cn} {k : Nat} (h : k < l.length) : l.getD k cn0 ∈ l := by simp [List.getD_eq_getElem?_getD, h]
/-- What is asked of a tree for its states. -/
structure StOk (N : Net) (b : List (Int × Int)) (c : Int) : Prop where
  n1 : N.ns.length ≤ 10
  c1 : N.cs.length ≤ 14
  ends : inR N.ns.length N.cs
  dr : ∀ n ∈ N.ns, -10000 ≤ n.draw ∧ n.draw ≤ 10000
  hd : ∀ n ∈ N.ns, 0 ≤ n.head ∧ n.head ≤ 1000000
  res : ∀ c ∈ N.cs, 0 ≤ c.res ∧ c.res ≤ 1000
  tr : TreeOk N.ns.length N.cs (lakesB N) b
  cl : c < N.cs.length
  nb : b.length ≤ 10

def drawsL (N : Net) : List Int := N.ns.map Nd.draw
def headsL (N : Net) : List Int := N.ns.map fun n => 1000 * n.head
theorem drawsL_getD (N : Net) (k : Nat) (h : k < N.ns.length) : (drawsL N).getD k 0 = (N.ns.getD k nd0).draw := by simp [drawsL, List.getD_eq_getElem?_getD, h]
theorem headsL_getD (N : Net) (k : Nat) (h : k < N.ns.length) : (headsL N).getD k 0 = 1000 * (N.ns.getD k nd0).head := by simp [headsL, List.getD_eq_getElem?_getD, h]
theorem set_invI {y W : List Int} {k : Nat} {v : Int} (h : ∀ i, i < k → y.getD i 0 = W.getD i 0) (hk : k < y.length) (hv : v = W.getD k 0) : ∀ i, i < k + 1 → (y.set k v).getD i 0 = W.getD i 0 := fun i hi => by
  rw [getD_setI]
  by_cases e : i = k
  · subst e; rw [if_pos ⟨rfl, hk⟩]; exact hv
  · rw [if_neg (fun h => e h.1)]; exact h i (by omega)
theorem ext_invI {y W : List Int} {n : Nat} (h1 : y.length = n) (h2 : W.length = n) (h : ∀ i, i < n → y.getD i 0 = W.getD i 0) : y = W := by
  apply List.ext_getElem (h1.trans h2.symm)
  intro i a b
  have := h i (by omega)
  simpa [List.getD_eq_getElem?_getD, a, b] using this
theorem rep_rowI (n i : Nat) : [i64 ((List.replicate n 0).getD i 0)] = [i64 0] := by
  simp only [List.getD_eq_getElem?_getD, List.getElem?_replicate]
  split <;> rfl

/-- The flows and draws before the branches are walked. -/
def st0 (N : Net) (c q : Int) : List Int × List Int :=
  if c < 0 then (List.replicate N.cs.length 0, drawsL N)
  else ((List.replicate N.cs.length 0).set c.toNat q,
    ((drawsL N).set (N.cs.getD c.toNat cn0).fr.toNat ((drawsL N).getD (N.cs.getD c.toNat cn0).fr.toNat 0 + q)).set (N.cs.getD c.toNat cn0).to.toNat
      (((drawsL N).set (N.cs.getD c.toNat cn0).fr.toNat ((drawsL N).getD (N.cs.getD c.toNat cn0).fr.toNat 0 + q)).getD (N.cs.getD c.toNat cn0).to.toNat 0 - q))
theorem drawsL_len (N : Net) : (drawsL N).length = N.ns.length := by simp [drawsL]
theorem headsL_len (N : Net) : (headsL N).length = N.ns.length := by simp [headsL]

theorem st0_len0 (N : Net) (c q : Int) : (st0 N c q).1.length = N.cs.length := by unfold st0; split <;> simp
theorem st0_len1 (N : Net) (c q : Int) : (st0 N c q).2.length = N.ns.length := by unfold st0; split <;> simp [drawsL]
theorem S63 (l : List (Int × Int)) : SP 63 [brA l] (.func (.func 100) 0 [.rptr [brA l]]) false := by
  refine sound (d := 2) tok2 mixed2 Tryz.func63 (by kernel_rfl) (by kernel_rfl) ?_
  conv => whnf
  refine ⟨?_, nofun⟩
  rfl
theorem getD_bdI {l : List Int} {A B : Int} (h : ∀ x ∈ l, A ≤ x ∧ x ≤ B) (hA : A ≤ 0) (hB : 0 ≤ B) (i : Nat) : A ≤ l.getD i 0 ∧ l.getD i 0 ≤ B := by
  rw [List.getD_eq_getElem?_getD]
  by_cases hi : i < l.length
  · rw [List.getElem?_eq_getElem hi]; exact h _ (List.getElem_mem hi)
  · rw [List.getElem?_eq_none (by omega)]; exact ⟨hA, hB⟩
theorem drawsL_bd {N : Net} (h : ∀ n ∈ N.ns, -10000 ≤ n.draw ∧ n.draw ≤ 10000) (i : Nat) : -10000 ≤ (drawsL N).getD i 0 ∧ (drawsL N).getD i 0 ≤ 10000 :=
  getD_bdI (fun x hx => by obtain ⟨n, hn, rfl⟩ := List.mem_map.1 hx; exact h n hn) (by omega) (by omega) i
theorem set_bdI {l : List Int} {A B : Int} {k : Nat} {v : Int} (h : ∀ i, A ≤ l.getD i 0 ∧ l.getD i 0 ≤ B) (hv : A ≤ v ∧ v ≤ B) (i : Nat) : A ≤ (l.set k v).getD i 0 ∧ (l.set k v).getD i 0 ≤ B := by
  rw [getD_setI]; split
  · exact hv
  · exact h i
theorem st0_bd {N : Net} {b : List (Int × Int)} {c q : Int} (hS : StOk N b c) (hq : -200000 ≤ q ∧ q ≤ 200000) (i : Nat) : -410000 ≤ (st0 N c q).2.getD i 0 ∧ (st0 N c q).2.getD i 0 ≤ 410000 := by
  have hbd := drawsL_bd hS.dr
  unfold st0
  split
  · have := hbd i
    show -410000 ≤ (drawsL N).getD i 0 ∧ (drawsL N).getD i 0 ≤ 410000
    omega
  · have h1 := fun i => set_bdI (l := drawsL N) (A := -210000) (B := 210000) (k := (N.cs.getD c.toNat cn0).fr.toNat) (v := (drawsL N).getD (N.cs.getD c.toNat cn0).fr.toNat 0 + q) (fun i => by have := hbd i; omega) (by have := hbd (N.cs.getD c.toNat cn0).fr.toNat; omega) i
    exact set_bdI (fun i => by have := h1 i; omega) (by have := h1 (N.cs.getD c.toNat cn0).to.toNat; omega) i
theorem st0_sum {N : Net} {b : List (Int × Int)} {c q : Int} (hS : StOk N b c) (hq : -200000 ≤ q ∧ q ≤ 200000) : sumA (st0 N c q).2 ≤ 4100000 := by
  have h := sumA_le (B := 410000) (st0 N c q).2 fun i => absI_of (st0_bd hS hq i)
  rw [st0_len1] at h
  have := hS.n1
  omega
theorem st0_fl {N : Net} {b : List (Int × Int)} {c q : Int} (_ : StOk N b c) (hq : -200000 ≤ q ∧ q ≤ 200000) (i : Nat) : -4100000 ≤ (st0 N c q).1.getD i 0 ∧ (st0 N c q).1.getD i 0 ≤ 4100000 := by
  have hz : ∀ i, -4100000 ≤ (List.replicate N.cs.length (0 : Int)).getD i 0 ∧ (List.replicate N.cs.length (0 : Int)).getD i 0 ≤ 4100000 := fun i => by
    have := rep_rowI N.cs.length i
    have e : (List.replicate N.cs.length (0 : Int)).getD i 0 = 0 := by
      simp only [List.getD_eq_getElem?_getD, List.getElem?_replicate]; split <;> rfl
    omega
  unfold st0
  split
  · exact hz i
  · exact set_bdI hz (by omega) i
/-- The state of a tree at a circulation: the flows, and the heads. -/
def stateF (N : Net) (b : List (Int × Int)) (c q : Int) : List Int × List Int :=
  ((backL N.cs b (st0 N c q)).1, foreL N.cs (backL N.cs b (st0 N c q)).1 b (headsL N))
theorem lossW {r f : Int} (hr : 0 ≤ r ∧ r ≤ 1000) (hf : -4100000 ≤ f ∧ f ≤ 4100000) : (-4100000000 ≤ r * f ∧ r * f ≤ 4100000000) ∧ -16810000000000000 ≤ lossF r f ∧ lossF r f ≤ 16810000000000000 := by
  have h1 := mul_bound (A := 1000) (B := 4100000) (by omega) hr.2 hf.1 hf.2 (by omega) (by omega)
  have h2 := mul_bound (a := r * f) (b := sizeF f) (A := 4100000000) (B := 4100000) (by omega) (by omega) (sizeF_le hf.1 hf.2).1 (sizeF_le hf.1 hf.2).2 (by omega) (by omega)
  unfold lossF
  omega
theorem S65w (r f : Int) (hr : 0 ≤ r ∧ r ≤ 1000) (hf : -4100000 ≤ f ∧ f ≤ 4100000) : SP 65 [i64 r, i64 f] (i64 (lossF r f)) false := by
  have h := lossW hr hf
  unfold lossF at h ⊢
  unfold sizeF at h ⊢
  refine sound (d := 2) tok2 mixed2 Tryz.func65 (by kernel_rfl) (by kernel_rfl) ?_
  conv => whnf
  refine ⟨inK64 (by omega) (by omega), ?_⟩
  conv => whnf
  refine ⟨inK64 (by omega) (by omega), ?_⟩
  conv => whnf
  refine ⟨inK64 (by omega) (by omega), ?_⟩
  conv => whnf
  refine ⟨?_, nofun⟩
  rfl
theorem headsL_bd {N : Net} (h : ∀ n ∈ N.ns, 0 ≤ n.head ∧ n.head ≤ 1000000) (i : Nat) : -1000000000 ≤ (headsL N).getD i 0 ∧ (headsL N).getD i 0 ≤ 1000000000 :=
  getD_bdI (fun x hx => by obtain ⟨n, hn, rfl⟩ := List.mem_map.1 hx; have := h n hn; omega) (by omega) (by omega) i
set_option maxHeartbeats 0 in
theorem S34 (N : Net) (b : List (Int × Int)) (c : Int) (q : Int) (hS : StOk N b c) (hq : -200000 ≤ q ∧ q ≤ 200000) : SP 34 [treeA N b c, i64 q] (.agg [ints (stateF N b c q).1, ints (stateF N b c q).2]) false := by
  have hn := hS.n1
  have hc := hS.c1
  refine sound (d := 2) tok2 mixed2 Tryz.func34 (by kernel_rfl) (by kernel_rfl) ?_
  conv => whnf
  refine ⟨[], by kernel_rfl, ?_⟩
  conv => whnf
  refine ⟨⟨(by omega), ⟨(by omega), ⟨(by omega), (by show _ * ((8 : Nat) : Int) ≤ _; omega)⟩⟩⟩, ?_⟩
  conv => whnf
  refine ⟨⟨(by omega), ⟨(by omega), ⟨(by omega), (by show _ * ((8 : Nat) : Int) ≤ _; omega)⟩⟩⟩, ?_⟩
  conv => whnf
  refine ⟨⟨(by omega), ⟨(by omega), ⟨(by omega), (by show _ * ((8 : Nat) : Int) ≤ _; omega)⟩⟩⟩, ?_⟩
  conv => whnf
  refine ⟨[], [1, 2, 4, 5, 6, 40, 41, 42], fun st mq => ∃ (k : Nat) (d : List Int) (h : List Int), (k ≤ N.ns.length) ∧ (d.length = N.ns.length) ∧ (h.length = N.ns.length) ∧ (∀ i, i < k → d.getD i 0 = (drawsL N).getD i 0) ∧ (∀ i, i < k → h.getD i 0 = (headsL N).getD i 0) ∧ st = ⟨[(1, i64 q), (2, .optr 0 0 0 0), (4, .optr 1 0 0 0), (5, .optr 4 0 0 0), (6, .optr 6 0 0 0), (40, listA 4 ndC nd0 N.ns), (41, i64 N.ns.length), (42, i64 k)], ⟨[⟨4, 1, fun _ => [listA 4 ndC nd0 N.ns, listA 6 cnC cn0 N.cs, brA b, i64 c], 0, false, true, true⟩, ⟨2, 1, fun _ => [.eslice, .eslice], 0, false, true, true⟩, ⟨1, N.cs.length, fun i => [i64 ((List.replicate N.cs.length 0).getD i 0)], 0, false, true, false⟩, ⟨1, N.ns.length, fun i => [i64 (h.getD i 0)], 0, false, true, false⟩, ⟨2, 1, fun _ => [.oslice 2 0 0 N.cs.length (some N.cs.length), .oslice 3 0 0 N.ns.length (some N.ns.length)], 0, false, false, true⟩, ⟨1, N.ns.length, fun i => [i64 (d.getD i 0)], 0, false, true, false⟩, ⟨1, 1, fun _ => [.oslice 5 0 0 N.ns.length (some N.ns.length)], 0, false, false, true⟩], [], none, 0⟩, []⟩ ∧ mq = N.ns.length - k,
    ⟨_, _, ⟨0, List.replicate N.ns.length 0, List.replicate N.ns.length 0, by omega, by simp, by simp, fun i h => absurd h (Nat.not_lt_zero i), fun i h => absurd h (Nat.not_lt_zero i), rfl, rfl⟩, ⟨⟨rfl, rfl, rfl, rfl⟩, ⟨⟨rfl, rfl, rfl, rfl, fun _ => rfl, fun _ _ => rfl⟩, ⟨⟨rfl, rfl, rfl, rfl, fun _ => rfl, fun _ _ => rfl⟩, ⟨⟨rfl, rfl, rfl, rfl, fun _ => rfl, fun i _ => rep_rowI _ i⟩, ⟨⟨rfl, rfl, rfl, rfl, fun _ => rfl, fun i _ => rep_rowI _ i⟩, ⟨⟨rfl, rfl, rfl, rfl, nofun, fun _ _ => rfl⟩, ⟨⟨rfl, rfl, rfl, rfl, fun _ => rfl, fun i _ => rep_rowI _ i⟩, ⟨⟨rfl, rfl, rfl, rfl, nofun, fun _ _ => rfl⟩, trivial⟩⟩⟩⟩⟩⟩⟩, trivial⟩⟩, ?_⟩
  rintro s0 m0 ⟨k, d, h, hk, hd, hh, h1, h2, rfl, hmeas⟩
  by_cases hkl : k < N.ns.length
  · have hb := hS.hd (N.ns.getD (k : Int).toNat nd0) (by simp [List.getD_eq_getElem?_getD, hkl])
    have g1 := set_invI (v := (N.ns.getD (k : Int).toNat nd0).draw) h1 (by omega) (drawsL_getD N k hkl).symm
    have g2 := set_invI (v := 1000 * (N.ns.getD (k : Int).toNat nd0).head) h2 (by omega) (headsL_getD N k hkl).symm
    conv => whnf
    conv => whnf
    refine ifB_dec (fun w1 => ?_) (fun w1 => ?_)
    · conv => whnf
      conv => whnf
      refine ⟨⟨(by omega), (by omega)⟩, ?_⟩
      conv => whnf
      conv => whnf
      refine ⟨⟨(by omega), (by omega)⟩, ?_⟩
      refine ⟨_, fun i _ => rowI _ _ i _ (by first | omega | (simp only [List.length_set]; omega) | (simp only [List.length_replicate]; omega) | (simp only [List.length_set, List.length_replicate]; omega)), ?_⟩
      conv => whnf
      conv => whnf
      refine ⟨inK64 (by omega) (by omega), ?_⟩
      conv => whnf
      conv => whnf
      refine ⟨⟨(by omega), (by omega)⟩, ?_⟩
      refine ⟨_, fun i _ => rowI _ _ i _ (by first | omega | (simp only [List.length_set]; omega) | (simp only [List.length_replicate]; omega) | (simp only [List.length_set, List.length_replicate]; omega)), ?_⟩
      conv => whnf
      conv => whnf
      refine ⟨inK64 (by omega) (by omega), ?_⟩
      conv => whnf
      conv => whnf
      refine ⟨_, _, ⟨⟨k + 1, _, _, by omega, by simpa using hd, by simpa using hh, g1, g2, rfl, rfl⟩, by omega⟩, ⟨⟨rfl, rfl, rfl, rfl⟩, ⟨⟨rfl, rfl, rfl, rfl, fun _ => rfl, fun _ _ => rfl⟩, ⟨⟨rfl, rfl, rfl, rfl, fun _ => rfl, fun _ _ => rfl⟩, ⟨⟨rfl, rfl, rfl, rfl, fun _ => rfl, fun _ _ => rfl⟩, ⟨⟨rfl, rfl, rfl, rfl, fun _ => rfl, fun _ _ => rfl⟩, ⟨⟨rfl, rfl, rfl, rfl, nofun, fun _ _ => rfl⟩, ⟨⟨rfl, rfl, rfl, rfl, fun _ => rfl, fun _ _ => rfl⟩, ⟨⟨rfl, rfl, rfl, rfl, nofun, fun _ _ => rfl⟩, trivial⟩⟩⟩⟩⟩⟩⟩, trivial⟩⟩
    · (exfalso; omega)
  · have e : k = N.ns.length := by omega
    subst e
    have e : d = drawsL N := ext_invI hd (drawsL_len N) h1
    subst e
    have e : h = headsL N := ext_invI hh (headsL_len N) h2
    subst e
    clear h1 h2 hk hmeas
    have hbd := drawsL_bd hS.dr
    have hnb := hS.nb
    have hs0 := st0_len0 N c q
    have hs1 := st0_len1 N c q
    have hsum := st0_sum hS hq
    by_cases hc0 : c < 0
    · conv => whnf
      conv => whnf
      refine ifB_dec (fun w1 => ?_) (fun w1 => ?_)
      · (exfalso; omega)
      · conv => whnf
        conv => whnf
        refine ifB_dec (fun w2 => ?_) (fun w2 => ?_)
        · (exfalso; omega)
        · conv => whnf
          conv => whnf
          refine .inl ⟨_, _, byX rfl (S63 _), ?_⟩
          conv => whnf
          conv => whnf
          refine ⟨(by first | rfl | assumption), ?_⟩
          refine ⟨_, keep_ok [1, 2, 4, 5, 6, 95] _, ?_⟩
          conv => whnf
          conv => whnf
          refine ⟨inK64 (by omega) (by omega), ?_⟩
          conv => whnf
          conv => whnf
          refine ⟨[], [0, 1, 3], fun st mq => ∃ (j : Int) (f : List Int) (d : List Int), (-1 ≤ j ∧ j < b.length) ∧ ((f, d) = backL N.cs (b.drop (j + 1).toNat) (st0 N c q)) ∧ st = ⟨[(0, .yld 0), (1, .rptr [brA b]), (3, i64 j)], ⟨[⟨4, 1, fun _ => [listA 4 ndC nd0 N.ns, listA 6 cnC cn0 N.cs, brA b, i64 c], 0, false, true, true⟩, ⟨2, 1, fun _ => [.eslice, .eslice], 0, false, true, true⟩, ⟨1, N.cs.length, fun i => [i64 (f.getD i 0)], 0, false, true, false⟩, ⟨1, N.ns.length, fun i => [i64 ((headsL N).getD i 0)], 0, false, true, false⟩, ⟨2, 1, fun _ => [.oslice 2 0 0 N.cs.length (some N.cs.length), .oslice 3 0 0 N.ns.length (some N.ns.length)], 0, false, false, true⟩, ⟨1, N.ns.length, fun i => [i64 (d.getD i 0)], 0, false, true, false⟩, ⟨1, 1, fun _ => [.oslice 5 0 0 N.ns.length (some N.ns.length)], 0, false, false, true⟩], [], none, 1⟩, [(1, i64 q), (2, .optr 0 0 0 0), (4, .optr 1 0 0 0), (5, .optr 4 0 0 0), (6, .optr 6 0 0 0), (95, .func (.func 100) 0 [.rptr [brA b]])]⟩ ∧ mq = (j + 1).toNat,
            ⟨_, _, ⟨(b.length : Int) - 1, List.replicate N.cs.length 0, drawsL N, by omega, (by rw [show ((b.length : Int) - 1 + 1).toNat = b.length by omega, List.drop_length, backL, st0, if_pos hc0]), rfl, rfl⟩, ⟨⟨rfl, rfl, rfl, rfl⟩, ⟨⟨rfl, rfl, rfl, rfl, fun _ => rfl, fun _ _ => rfl⟩, ⟨⟨rfl, rfl, rfl, rfl, fun _ => rfl, fun _ _ => rfl⟩, ⟨⟨rfl, rfl, rfl, rfl, fun _ => rfl, fun _ _ => rfl⟩, ⟨⟨rfl, rfl, rfl, rfl, fun _ => rfl, fun _ _ => rfl⟩, ⟨⟨rfl, rfl, rfl, rfl, nofun, fun _ _ => rfl⟩, ⟨⟨rfl, rfl, rfl, rfl, fun _ => rfl, fun _ _ => rfl⟩, ⟨⟨rfl, rfl, rfl, rfl, nofun, fun _ _ => rfl⟩, trivial⟩⟩⟩⟩⟩⟩⟩, trivial⟩⟩, ?_⟩
          rintro s0 m0 ⟨j, f, d, hj, he, rfl, hmeas⟩
          have hdl : d.length = N.ns.length := by
            have e := congrArg Prod.snd he
            simp only at e
            rw [e, (backL_len _ _ _).2]; exact hs1
          have hfl : f.length = N.cs.length := by
            have e := congrArg Prod.fst he
            simp only at e
            rw [e, (backL_len _ _ _).1]; exact hs0
          by_cases hj0 : 0 ≤ j
          · obtain ⟨hB, hv, ho⟩ := back_at (lakesB_len N) hs1 hS.tr (i := j.toNat) (by omega) hsum
            have e1 : (j + 1).toNat = j.toNat + 1 := by omega
            rw [e1] at he
            rw [← he] at hv ho
            simp only at hv ho
            have hsg := sign_bd (c := N.cs.getD (b.getD j.toNat (0, 0)).1.toNat cn0) (v := (b.getD j.toNat (0, 0)).2) hv
            have i0 := hB.i0; have i1 := hB.i1; have v0 := hB.v0; have v1 := hB.v1; have o0 := hB.o0; have o1 := hB.o1
            rw [← Nat.zero_add (b.getD j.toNat (0, 0)).2.toNat] at hv hsg
            rw [← Nat.zero_add (otherN (N.cs.getD (b.getD j.toNat (0, 0)).1.toNat cn0) (b.getD j.toNat (0, 0)).2).toNat] at ho
            conv => whnf
            conv => whnf
            conv => whnf
            refine ifB_dec (fun w3 => ?_) (fun w3 => ?_)
            · conv => whnf
              conv => whnf
              conv => whnf
              refine ⟨⟨(by omega), (by omega)⟩, ?_⟩
              conv => whnf
              conv => whnf
              conv => whnf
              refine ⟨(by first | rfl | assumption), ?_⟩
              conv => whnf
              conv => whnf
              conv => whnf
              refine .inl ⟨_, _, byX rfl (Sound1.pl (S64 _ _ _ _ (by omega) (by omega)) rfl), ?_⟩
              conv => whnf
              conv => whnf
              conv => whnf
              refine ⟨[], by kernel_rfl, ?_⟩
              conv => whnf
              conv => whnf
              conv => whnf
              refine ⟨⟨(by omega), (by omega)⟩, ?_⟩
              conv => whnf
              conv => whnf
              conv => whnf
              refine ⟨inK64 (by omega) (by omega), ?_⟩
              conv => whnf
              conv => whnf
              conv => whnf
              refine ⟨⟨(by omega), (by omega)⟩, ?_⟩
              refine ⟨_, fun i _ => rowI _ _ i _ (by first | omega | (simp only [List.length_set]; omega) | (simp only [List.length_replicate]; omega) | (simp only [List.length_set, List.length_replicate]; omega)), ?_⟩
              conv => whnf
              conv => whnf
              conv => whnf
              refine ⟨[], by kernel_rfl, ?_⟩
              conv => whnf
              conv => whnf
              conv => whnf
              refine ⟨⟨(by omega), (by omega)⟩, ?_⟩
              conv => whnf
              conv => whnf
              conv => whnf
              refine ⟨⟨(by omega), (by omega)⟩, ?_⟩
              conv => whnf
              conv => whnf
              conv => whnf
              refine ⟨inK64 (by omega) (by omega), ?_⟩
              conv => whnf
              conv => whnf
              conv => whnf
              refine ⟨⟨(by omega), (by omega)⟩, ?_⟩
              refine ⟨_, fun i _ => rowI _ _ i _ (by first | omega | (simp only [List.length_set]; omega) | (simp only [List.length_replicate]; omega) | (simp only [List.length_set, List.length_replicate]; omega)), ?_⟩
              conv => whnf
              conv => whnf
              conv => whnf
              refine ⟨inK64 (by omega) (by omega), ?_⟩
              conv => whnf
              conv => whnf
              conv => whnf
              refine ⟨_, _, ⟨⟨j - 1, _, _, by omega, (by rw [show (j - 1 + 1).toNat = j.toNat by omega, backL_drop (by omega), ← he]; simp only [stepB, Nat.zero_add]), rfl, rfl⟩, by omega⟩, ⟨⟨rfl, rfl, rfl, rfl⟩, ⟨⟨rfl, rfl, rfl, rfl, fun _ => rfl, fun _ _ => rfl⟩, ⟨⟨rfl, rfl, rfl, rfl, fun _ => rfl, fun _ _ => rfl⟩, ⟨⟨rfl, rfl, rfl, rfl, fun _ => rfl, fun _ _ => rfl⟩, ⟨⟨rfl, rfl, rfl, rfl, fun _ => rfl, fun _ _ => rfl⟩, ⟨⟨rfl, rfl, rfl, rfl, nofun, fun _ _ => rfl⟩, ⟨⟨rfl, rfl, rfl, rfl, fun _ => rfl, fun _ _ => rfl⟩, ⟨⟨rfl, rfl, rfl, rfl, nofun, fun _ _ => rfl⟩, trivial⟩⟩⟩⟩⟩⟩⟩, trivial⟩⟩
            · (exfalso; omega)
          · have e : j = -1 := by omega
            subst e
            have he' : (f, d) = backL N.cs b (st0 N c q) := he
            clear he hj hj0 hmeas
            conv => whnf
            conv => whnf
            conv => whnf
            refine ⟨[], [2, 4, 5, 128, 129, 130], fun st mq => ∃ (i : Nat) (h : List Int), (i ≤ b.length) ∧ (h.length = N.ns.length) ∧ (foreL N.cs f (b.drop i) h = foreL N.cs f b (headsL N)) ∧ (∀ j, -(1000000000 + i * 17000000000000000) ≤ h.getD j 0 ∧ h.getD j 0 ≤ 1000000000 + i * 17000000000000000) ∧ st = ⟨[(2, .optr 0 0 0 0), (4, .optr 1 0 0 0), (5, .optr 4 0 0 0), (128, brA b), (129, i64 b.length), (130, i64 i)], ⟨[⟨4, 1, fun _ => [listA 4 ndC nd0 N.ns, listA 6 cnC cn0 N.cs, brA b, i64 c], 0, false, true, true⟩, ⟨2, 1, fun _ => [.eslice, .eslice], 0, false, true, true⟩, ⟨1, N.cs.length, fun i => [i64 (f.getD i 0)], 0, false, true, false⟩, ⟨1, N.ns.length, fun i => [i64 (h.getD i 0)], 0, false, true, false⟩, ⟨2, 1, fun _ => [.oslice 2 0 0 N.cs.length (some N.cs.length), .oslice 3 0 0 N.ns.length (some N.ns.length)], 0, false, false, true⟩, ⟨1, N.ns.length, fun i => [i64 (d.getD i 0)], 0, false, true, false⟩, ⟨1, 1, fun _ => [.oslice 5 0 0 N.ns.length (some N.ns.length)], 0, false, false, true⟩], [], none, 1⟩, []⟩ ∧ mq = b.length - i,
              ⟨_, _, ⟨0, headsL N, by omega, headsL_len N, rfl, fun j => (by have := headsL_bd hS.hd j; omega), rfl, rfl⟩, ⟨⟨rfl, rfl, rfl, rfl⟩, ⟨⟨rfl, rfl, rfl, rfl, fun _ => rfl, fun _ _ => rfl⟩, ⟨⟨rfl, rfl, rfl, rfl, fun _ => rfl, fun _ _ => rfl⟩, ⟨⟨rfl, rfl, rfl, rfl, fun _ => rfl, fun _ _ => rfl⟩, ⟨⟨rfl, rfl, rfl, rfl, fun _ => rfl, fun _ _ => rfl⟩, ⟨⟨rfl, rfl, rfl, rfl, nofun, fun _ _ => rfl⟩, ⟨⟨rfl, rfl, rfl, rfl, fun _ => rfl, fun _ _ => rfl⟩, ⟨⟨rfl, rfl, rfl, rfl, nofun, fun _ _ => rfl⟩, trivial⟩⟩⟩⟩⟩⟩⟩, trivial⟩⟩, ?_⟩
            rintro s0 m0 ⟨i, h, hi, hh, hf2, hb0, rfl, hmeas⟩
            have hfe : f = (backL N.cs b (st0 N c q)).1 := congrArg Prod.fst he'
            by_cases hil : i < b.length
            · obtain ⟨hB, _⟩ := back_at (lakesB_len N) hs1 hS.tr (i := (i : Int).toNat) (by omega) hsum
              have hfb := back_flow b (lakesB N) (st0 N c q) (lakesB_len N) hs1 hS.tr hsum (st0_fl hS hq) (0 + (b.getD (i : Int).toNat (0, 0)).1.toNat)
              rw [← hfe] at hfb
              have hsg := sign_bd (c := N.cs.getD (b.getD (i : Int).toNat (0, 0)).1.toNat cn0) (v := (b.getD (i : Int).toNat (0, 0)).2) hfb
              have i0 := hB.i0; have i1 := hB.i1; have v0 := hB.v0; have v1 := hB.v1; have o0 := hB.o0; have o1 := hB.o1
              have hres := hS.res (N.cs.getD (b.getD (i : Int).toNat (0, 0)).1.toNat cn0) (mem_getD (by omega))
              have hlw := lossW hres hsg
              have hho := hb0 (0 + (otherN (N.cs.getD (b.getD (i : Int).toNat (0, 0)).1.toNat cn0) (b.getD (i : Int).toNat (0, 0)).2).toNat)
              rw [foreL_drop hil] at hf2
              conv => whnf
              conv => whnf
              conv => whnf
              conv => whnf
              refine ifB_dec (fun w3 => ?_) (fun w3 => ?_)
              · conv => whnf
                conv => whnf
                conv => whnf
                conv => whnf
                refine ⟨⟨(by omega), (by omega)⟩, ?_⟩
                conv => whnf
                conv => whnf
                conv => whnf
                conv => whnf
                refine .inl ⟨_, _, byX rfl (Sound1.pl (S64 _ _ _ _ (by omega) (by omega)) rfl), ?_⟩
                conv => whnf
                conv => whnf
                conv => whnf
                conv => whnf
                refine ⟨[], by kernel_rfl, ?_⟩
                conv => whnf
                conv => whnf
                conv => whnf
                conv => whnf
                refine ⟨⟨(by omega), (by omega)⟩, ?_⟩
                conv => whnf
                conv => whnf
                conv => whnf
                conv => whnf
                refine ⟨⟨(by omega), (by omega)⟩, ?_⟩
                conv => whnf
                conv => whnf
                conv => whnf
                conv => whnf
                refine ⟨⟨(by omega), (by omega)⟩, ?_⟩
                conv => whnf
                conv => whnf
                conv => whnf
                conv => whnf
                refine ⟨inK64 (by omega) (by omega), ?_⟩
                conv => whnf
                conv => whnf
                conv => whnf
                conv => whnf
                refine .inl ⟨_, _, byX rfl (Sound1.pl (S65w _ _ (by omega) (by omega)) rfl), ?_⟩
                conv => whnf
                conv => whnf
                conv => whnf
                conv => whnf
                refine ⟨inK64 (by omega) (by omega), ?_⟩
                conv => whnf
                conv => whnf
                conv => whnf
                conv => whnf
                refine ⟨⟨(by omega), (by omega)⟩, ?_⟩
                refine ⟨_, fun i _ => rowI _ _ i _ (by first | omega | (simp only [List.length_set]; omega) | (simp only [List.length_replicate]; omega) | (simp only [List.length_set, List.length_replicate]; omega)), ?_⟩
                conv => whnf
                conv => whnf
                conv => whnf
                conv => whnf
                refine ⟨inK64 (by omega) (by omega), ?_⟩
                conv => whnf
                conv => whnf
                conv => whnf
                conv => whnf
                refine ⟨_, _, ⟨⟨i + 1, _, by omega, (by rw [List.length_set]; exact hh), (by rw [← hf2]; simp only [stepH, Nat.zero_add]; rfl), fun j => set_bdI (fun j => by have := hb0 j; omega) (by omega) j, rfl, rfl⟩, by omega⟩, ⟨⟨rfl, rfl, rfl, rfl⟩, ⟨⟨rfl, rfl, rfl, rfl, fun _ => rfl, fun _ _ => rfl⟩, ⟨⟨rfl, rfl, rfl, rfl, fun _ => rfl, fun _ _ => rfl⟩, ⟨⟨rfl, rfl, rfl, rfl, fun _ => rfl, fun _ _ => rfl⟩, ⟨⟨rfl, rfl, rfl, rfl, fun _ => rfl, fun _ _ => rfl⟩, ⟨⟨rfl, rfl, rfl, rfl, nofun, fun _ _ => rfl⟩, ⟨⟨rfl, rfl, rfl, rfl, fun _ => rfl, fun _ _ => rfl⟩, ⟨⟨rfl, rfl, rfl, rfl, nofun, fun _ _ => rfl⟩, trivial⟩⟩⟩⟩⟩⟩⟩, trivial⟩⟩
              · (exfalso; omega)
            · have e : i = b.length := by omega
              subst e
              rw [List.drop_length, foreL] at hf2
              rw [hfe] at hf2
              conv => whnf
              conv => whnf
              conv => whnf
              conv => whnf
              refine ifB_dec (fun w3 => ?_) (fun w3 => ?_)
              · (exfalso; omega)
              · conv => whnf
                conv => whnf
                conv => whnf
                conv => whnf
                refine ⟨?_, nofun⟩
                exact ave_agg2 (k := 4) (a := .rslice 1 N.cs.length _) (b := .rslice 1 N.ns.length _) ⟨rfl, (by rw [← hfl, hfe]; rfl), fun j _ => by show [i64 (f.getD j 0)] = _; rw [hfe]; rfl⟩ ⟨rfl, (by rw [← hh, hf2]; rfl), fun j _ => by show [i64 (h.getD j 0)] = _; rw [hf2]; rfl⟩
    · have hcl := hS.cl
      have hqq := hS.ends (N.cs.getD c.toNat cn0) (by
        have : c.toNat < N.cs.length := by omega
        simp [List.getD_eq_getElem?_getD, this])
      have hb1 := hbd (0 + (N.cs.getD c.toNat cn0).fr.toNat)
      have hb2 := set_bdI (k := (N.cs.getD c.toNat cn0).fr.toNat) (v := (drawsL N).getD (0 + (N.cs.getD c.toNat cn0).fr.toNat) 0 + q) (A := -210000) (B := 210000) (l := drawsL N) (fun i => by have := hbd i; omega) (by omega) (0 + (N.cs.getD c.toNat cn0).to.toNat)
      conv => whnf
      conv => whnf
      refine ifB_dec (fun w1 => ?_) (fun w1 => ?_)
      · (exfalso; omega)
      · conv => whnf
        conv => whnf
        refine ifB_dec (fun w2 => ?_) (fun w2 => ?_)
        · conv => whnf
          conv => whnf
          refine ⟨⟨(by omega), (by omega)⟩, ?_⟩
          conv => whnf
          conv => whnf
          refine ⟨⟨(by omega), (by omega)⟩, ?_⟩
          refine ⟨_, fun i _ => rowI _ _ i _ (by first | omega | (simp only [List.length_set]; omega) | (simp only [List.length_replicate]; omega) | (simp only [List.length_set, List.length_replicate]; omega)), ?_⟩
          conv => whnf
          conv => whnf
          refine ⟨⟨(by omega), (by omega)⟩, ?_⟩
          conv => whnf
          conv => whnf
          refine ⟨inK64 (by omega) (by omega), ?_⟩
          conv => whnf
          conv => whnf
          refine ⟨⟨(by omega), (by omega)⟩, ?_⟩
          refine ⟨_, fun i _ => rowI _ _ i _ (by first | omega | (simp only [List.length_set]; omega) | (simp only [List.length_replicate]; omega) | (simp only [List.length_set, List.length_replicate]; omega)), ?_⟩
          conv => whnf
          conv => whnf
          refine ⟨⟨(by omega), (by omega)⟩, ?_⟩
          conv => whnf
          conv => whnf
          refine ⟨inK64 (by omega) (by omega), ?_⟩
          conv => whnf
          conv => whnf
          refine ⟨⟨(by omega), (by omega)⟩, ?_⟩
          refine ⟨_, fun i _ => rowI _ _ i _ (by first | omega | (simp only [List.length_set]; omega) | (simp only [List.length_replicate]; omega) | (simp only [List.length_set, List.length_replicate]; omega)), ?_⟩
          conv => whnf
          conv => whnf
          refine .inl ⟨_, _, byX rfl (S63 _), ?_⟩
          conv => whnf
          conv => whnf
          refine ⟨(by first | rfl | assumption), ?_⟩
          refine ⟨_, keep_ok [1, 2, 4, 5, 6, 95] _, ?_⟩
          conv => whnf
          conv => whnf
          refine ⟨inK64 (by omega) (by omega), ?_⟩
          conv => whnf
          conv => whnf
          refine ⟨[], [0, 1, 3], fun st mq => ∃ (j : Int) (f : List Int) (d : List Int) (F7 : Nat → List AV), (-1 ≤ j ∧ j < b.length) ∧ ((f, d) = backL N.cs (b.drop (j + 1).toNat) (st0 N c q)) ∧ st = ⟨[(0, .yld 0), (1, .rptr [brA b]), (3, i64 j)], ⟨[⟨4, 1, fun _ => [listA 4 ndC nd0 N.ns, listA 6 cnC cn0 N.cs, brA b, i64 c], 0, false, true, true⟩, ⟨2, 1, fun _ => [.eslice, .eslice], 0, false, true, true⟩, ⟨1, N.cs.length, fun i => [i64 (f.getD i 0)], 0, false, true, false⟩, ⟨1, N.ns.length, fun i => [i64 ((headsL N).getD i 0)], 0, false, true, false⟩, ⟨2, 1, fun _ => [.oslice 2 0 0 N.cs.length (some N.cs.length), .oslice 3 0 0 N.ns.length (some N.ns.length)], 0, false, false, true⟩, ⟨1, N.ns.length, fun i => [i64 (d.getD i 0)], 0, false, true, false⟩, ⟨1, 1, fun _ => [.oslice 5 0 0 N.ns.length (some N.ns.length)], 0, false, false, true⟩, ⟨6, 1, F7, 0, false, true, false⟩], [], none, 1⟩, [(1, i64 q), (2, .optr 0 0 0 0), (4, .optr 1 0 0 0), (5, .optr 4 0 0 0), (6, .optr 6 0 0 0), (95, .func (.func 100) 0 [.rptr [brA b]])]⟩ ∧ mq = (j + 1).toNat,
            ⟨_, _, ⟨(b.length : Int) - 1, _, _, _, by omega, (by rw [show ((b.length : Int) - 1 + 1).toNat = b.length by omega, List.drop_length, backL, st0, if_neg hc0]; simp only [Nat.zero_add]), rfl, rfl⟩, ⟨⟨rfl, rfl, rfl, rfl⟩, ⟨⟨rfl, rfl, rfl, rfl, fun _ => rfl, fun _ _ => rfl⟩, ⟨⟨rfl, rfl, rfl, rfl, fun _ => rfl, fun _ _ => rfl⟩, ⟨⟨rfl, rfl, rfl, rfl, fun _ => rfl, fun _ _ => rfl⟩, ⟨⟨rfl, rfl, rfl, rfl, fun _ => rfl, fun _ _ => rfl⟩, ⟨⟨rfl, rfl, rfl, rfl, nofun, fun _ _ => rfl⟩, ⟨⟨rfl, rfl, rfl, rfl, fun _ => rfl, fun _ _ => rfl⟩, ⟨⟨rfl, rfl, rfl, rfl, nofun, fun _ _ => rfl⟩, ⟨⟨rfl, rfl, rfl, rfl, fun _ => rfl, fun _ _ => rfl⟩, trivial⟩⟩⟩⟩⟩⟩⟩⟩, trivial⟩⟩, ?_⟩
          rintro s0 m0 ⟨j, f, d, F7, hj, he, rfl, hmeas⟩
          have hdl : d.length = N.ns.length := by
            have e := congrArg Prod.snd he
            simp only at e
            rw [e, (backL_len _ _ _).2]; exact hs1
          have hfl : f.length = N.cs.length := by
            have e := congrArg Prod.fst he
            simp only at e
            rw [e, (backL_len _ _ _).1]; exact hs0
          by_cases hj0 : 0 ≤ j
          · obtain ⟨hB, hv, ho⟩ := back_at (lakesB_len N) hs1 hS.tr (i := j.toNat) (by omega) hsum
            have e1 : (j + 1).toNat = j.toNat + 1 := by omega
            rw [e1] at he
            rw [← he] at hv ho
            simp only at hv ho
            have hsg := sign_bd (c := N.cs.getD (b.getD j.toNat (0, 0)).1.toNat cn0) (v := (b.getD j.toNat (0, 0)).2) hv
            have i0 := hB.i0; have i1 := hB.i1; have v0 := hB.v0; have v1 := hB.v1; have o0 := hB.o0; have o1 := hB.o1
            rw [← Nat.zero_add (b.getD j.toNat (0, 0)).2.toNat] at hv hsg
            rw [← Nat.zero_add (otherN (N.cs.getD (b.getD j.toNat (0, 0)).1.toNat cn0) (b.getD j.toNat (0, 0)).2).toNat] at ho
            conv => whnf
            conv => whnf
            conv => whnf
            refine ifB_dec (fun w3 => ?_) (fun w3 => ?_)
            · conv => whnf
              conv => whnf
              conv => whnf
              refine ⟨⟨(by omega), (by omega)⟩, ?_⟩
              conv => whnf
              conv => whnf
              conv => whnf
              refine ⟨(by first | rfl | assumption), ?_⟩
              conv => whnf
              conv => whnf
              conv => whnf
              refine .inl ⟨_, _, byX rfl (Sound1.pl (S64 _ _ _ _ (by omega) (by omega)) rfl), ?_⟩
              conv => whnf
              conv => whnf
              conv => whnf
              refine ⟨[], by kernel_rfl, ?_⟩
              conv => whnf
              conv => whnf
              conv => whnf
              refine ⟨⟨(by omega), (by omega)⟩, ?_⟩
              conv => whnf
              conv => whnf
              conv => whnf
              refine ⟨inK64 (by omega) (by omega), ?_⟩
              conv => whnf
              conv => whnf
              conv => whnf
              refine ⟨⟨(by omega), (by omega)⟩, ?_⟩
              refine ⟨_, fun i _ => rowI _ _ i _ (by first | omega | (simp only [List.length_set]; omega) | (simp only [List.length_replicate]; omega) | (simp only [List.length_set, List.length_replicate]; omega)), ?_⟩
              conv => whnf
              conv => whnf
              conv => whnf
              refine ⟨[], by kernel_rfl, ?_⟩
              conv => whnf
              conv => whnf
              conv => whnf
              refine ⟨⟨(by omega), (by omega)⟩, ?_⟩
              conv => whnf
              conv => whnf
              conv => whnf
              refine ⟨⟨(by omega), (by omega)⟩, ?_⟩
              conv => whnf
              conv => whnf
              conv => whnf
              refine ⟨inK64 (by omega) (by omega), ?_⟩
              conv => whnf
              conv => whnf
              conv => whnf
              refine ⟨⟨(by omega), (by omega)⟩, ?_⟩
              refine ⟨_, fun i _ => rowI _ _ i _ (by first | omega | (simp only [List.length_set]; omega) | (simp only [List.length_replicate]; omega) | (simp only [List.length_set, List.length_replicate]; omega)), ?_⟩
              conv => whnf
              conv => whnf
              conv => whnf
              refine ⟨inK64 (by omega) (by omega), ?_⟩
              conv => whnf
              conv => whnf
              conv => whnf
              refine ⟨_, _, ⟨⟨j - 1, _, _, _, by omega, (by rw [show (j - 1 + 1).toNat = j.toNat by omega, backL_drop (by omega), ← he]; simp only [stepB, Nat.zero_add]), rfl, rfl⟩, by omega⟩, ⟨⟨rfl, rfl, rfl, rfl⟩, ⟨⟨rfl, rfl, rfl, rfl, fun _ => rfl, fun _ _ => rfl⟩, ⟨⟨rfl, rfl, rfl, rfl, fun _ => rfl, fun _ _ => rfl⟩, ⟨⟨rfl, rfl, rfl, rfl, fun _ => rfl, fun _ _ => rfl⟩, ⟨⟨rfl, rfl, rfl, rfl, fun _ => rfl, fun _ _ => rfl⟩, ⟨⟨rfl, rfl, rfl, rfl, nofun, fun _ _ => rfl⟩, ⟨⟨rfl, rfl, rfl, rfl, fun _ => rfl, fun _ _ => rfl⟩, ⟨⟨rfl, rfl, rfl, rfl, nofun, fun _ _ => rfl⟩, ⟨⟨rfl, rfl, rfl, rfl, fun _ => rfl, fun _ _ => rfl⟩, trivial⟩⟩⟩⟩⟩⟩⟩⟩, trivial⟩⟩
            · (exfalso; omega)
          · have e : j = -1 := by omega
            subst e
            have he' : (f, d) = backL N.cs b (st0 N c q) := he
            clear he hj hj0 hmeas
            conv => whnf
            conv => whnf
            conv => whnf
            refine ⟨[], [2, 4, 5, 128, 129, 130], fun st mq => ∃ (i : Nat) (h : List Int) (F7 : Nat → List AV), (i ≤ b.length) ∧ (h.length = N.ns.length) ∧ (foreL N.cs f (b.drop i) h = foreL N.cs f b (headsL N)) ∧ (∀ j, -(1000000000 + i * 17000000000000000) ≤ h.getD j 0 ∧ h.getD j 0 ≤ 1000000000 + i * 17000000000000000) ∧ st = ⟨[(2, .optr 0 0 0 0), (4, .optr 1 0 0 0), (5, .optr 4 0 0 0), (128, brA b), (129, i64 b.length), (130, i64 i)], ⟨[⟨4, 1, fun _ => [listA 4 ndC nd0 N.ns, listA 6 cnC cn0 N.cs, brA b, i64 c], 0, false, true, true⟩, ⟨2, 1, fun _ => [.eslice, .eslice], 0, false, true, true⟩, ⟨1, N.cs.length, fun i => [i64 (f.getD i 0)], 0, false, true, false⟩, ⟨1, N.ns.length, fun i => [i64 (h.getD i 0)], 0, false, true, false⟩, ⟨2, 1, fun _ => [.oslice 2 0 0 N.cs.length (some N.cs.length), .oslice 3 0 0 N.ns.length (some N.ns.length)], 0, false, false, true⟩, ⟨1, N.ns.length, fun i => [i64 (d.getD i 0)], 0, false, true, false⟩, ⟨1, 1, fun _ => [.oslice 5 0 0 N.ns.length (some N.ns.length)], 0, false, false, true⟩, ⟨6, 1, F7, 0, false, true, false⟩], [], none, 1⟩, []⟩ ∧ mq = b.length - i,
              ⟨_, _, ⟨0, headsL N, _, by omega, headsL_len N, rfl, fun j => (by have := headsL_bd hS.hd j; omega), rfl, rfl⟩, ⟨⟨rfl, rfl, rfl, rfl⟩, ⟨⟨rfl, rfl, rfl, rfl, fun _ => rfl, fun _ _ => rfl⟩, ⟨⟨rfl, rfl, rfl, rfl, fun _ => rfl, fun _ _ => rfl⟩, ⟨⟨rfl, rfl, rfl, rfl, fun _ => rfl, fun _ _ => rfl⟩, ⟨⟨rfl, rfl, rfl, rfl, fun _ => rfl, fun _ _ => rfl⟩, ⟨⟨rfl, rfl, rfl, rfl, nofun, fun _ _ => rfl⟩, ⟨⟨rfl, rfl, rfl, rfl, fun _ => rfl, fun _ _ => rfl⟩, ⟨⟨rfl, rfl, rfl, rfl, nofun, fun _ _ => rfl⟩, ⟨⟨rfl, rfl, rfl, rfl, fun _ => rfl, fun _ _ => rfl⟩, trivial⟩⟩⟩⟩⟩⟩⟩⟩, trivial⟩⟩, ?_⟩
            rintro s0 m0 ⟨i, h, F7, hi, hh, hf2, hb0, rfl, hmeas⟩
            have hfe : f = (backL N.cs b (st0 N c q)).1 := congrArg Prod.fst he'
            by_cases hil : i < b.length
            · obtain ⟨hB, _⟩ := back_at (lakesB_len N) hs1 hS.tr (i := (i : Int).toNat) (by omega) hsum
              have hfb := back_flow b (lakesB N) (st0 N c q) (lakesB_len N) hs1 hS.tr hsum (st0_fl hS hq) (0 + (b.getD (i : Int).toNat (0, 0)).1.toNat)
              rw [← hfe] at hfb
              have hsg := sign_bd (c := N.cs.getD (b.getD (i : Int).toNat (0, 0)).1.toNat cn0) (v := (b.getD (i : Int).toNat (0, 0)).2) hfb
              have i0 := hB.i0; have i1 := hB.i1; have v0 := hB.v0; have v1 := hB.v1; have o0 := hB.o0; have o1 := hB.o1
              have hres := hS.res (N.cs.getD (b.getD (i : Int).toNat (0, 0)).1.toNat cn0) (mem_getD (by omega))
              have hlw := lossW hres hsg
              have hho := hb0 (0 + (otherN (N.cs.getD (b.getD (i : Int).toNat (0, 0)).1.toNat cn0) (b.getD (i : Int).toNat (0, 0)).2).toNat)
              rw [foreL_drop hil] at hf2
              conv => whnf
              conv => whnf
              conv => whnf
              conv => whnf
              refine ifB_dec (fun w3 => ?_) (fun w3 => ?_)
              · conv => whnf
                conv => whnf
                conv => whnf
                conv => whnf
                refine ⟨⟨(by omega), (by omega)⟩, ?_⟩
                conv => whnf
                conv => whnf
                conv => whnf
                conv => whnf
                refine .inl ⟨_, _, byX rfl (Sound1.pl (S64 _ _ _ _ (by omega) (by omega)) rfl), ?_⟩
                conv => whnf
                conv => whnf
                conv => whnf
                conv => whnf
                refine ⟨[], by kernel_rfl, ?_⟩
                conv => whnf
                conv => whnf
                conv => whnf
                conv => whnf
                refine ⟨⟨(by omega), (by omega)⟩, ?_⟩
                conv => whnf
                conv => whnf
                conv => whnf
                conv => whnf
                refine ⟨⟨(by omega), (by omega)⟩, ?_⟩
                conv => whnf
                conv => whnf
                conv => whnf
                conv => whnf
                refine ⟨⟨(by omega), (by omega)⟩, ?_⟩
                conv => whnf
                conv => whnf
                conv => whnf
                conv => whnf
                refine ⟨inK64 (by omega) (by omega), ?_⟩
                conv => whnf
                conv => whnf
                conv => whnf
                conv => whnf
                refine .inl ⟨_, _, byX rfl (Sound1.pl (S65w _ _ (by omega) (by omega)) rfl), ?_⟩
                conv => whnf
                conv => whnf
                conv => whnf
                conv => whnf
                refine ⟨inK64 (by omega) (by omega), ?_⟩
                conv => whnf
                conv => whnf
                conv => whnf
                conv => whnf
                refine ⟨⟨(by omega), (by omega)⟩, ?_⟩
                refine ⟨_, fun i _ => rowI _ _ i _ (by first | omega | (simp only [List.length_set]; omega) | (simp only [List.length_replicate]; omega) | (simp only [List.length_set, List.length_replicate]; omega)), ?_⟩
                conv => whnf
                conv => whnf
                conv => whnf
                conv => whnf
                refine ⟨inK64 (by omega) (by omega), ?_⟩
                conv => whnf
                conv => whnf
                conv => whnf
                conv => whnf
                refine ⟨_, _, ⟨⟨i + 1, _, _, by omega, (by rw [List.length_set]; exact hh), (by rw [← hf2]; simp only [stepH, Nat.zero_add]; rfl), fun j => set_bdI (fun j => by have := hb0 j; omega) (by omega) j, rfl, rfl⟩, by omega⟩, ⟨⟨rfl, rfl, rfl, rfl⟩, ⟨⟨rfl, rfl, rfl, rfl, fun _ => rfl, fun _ _ => rfl⟩, ⟨⟨rfl, rfl, rfl, rfl, fun _ => rfl, fun _ _ => rfl⟩, ⟨⟨rfl, rfl, rfl, rfl, fun _ => rfl, fun _ _ => rfl⟩, ⟨⟨rfl, rfl, rfl, rfl, fun _ => rfl, fun _ _ => rfl⟩, ⟨⟨rfl, rfl, rfl, rfl, nofun, fun _ _ => rfl⟩, ⟨⟨rfl, rfl, rfl, rfl, fun _ => rfl, fun _ _ => rfl⟩, ⟨⟨rfl, rfl, rfl, rfl, nofun, fun _ _ => rfl⟩, ⟨⟨rfl, rfl, rfl, rfl, fun _ => rfl, fun _ _ => rfl⟩, trivial⟩⟩⟩⟩⟩⟩⟩⟩, trivial⟩⟩
              · (exfalso; omega)
            · have e : i = b.length := by omega
              subst e
              rw [List.drop_length, foreL] at hf2
              rw [hfe] at hf2
              conv => whnf
              conv => whnf
              conv => whnf
              conv => whnf
              refine ifB_dec (fun w3 => ?_) (fun w3 => ?_)
              · (exfalso; omega)
              · conv => whnf
                conv => whnf
                conv => whnf
                conv => whnf
                refine ⟨?_, nofun⟩
                exact ave_agg2 (k := 4) (a := .rslice 1 N.cs.length _) (b := .rslice 1 N.ns.length _) ⟨rfl, (by rw [← hfl, hfe]; rfl), fun j _ => by show [i64 (f.getD j 0)] = _; rw [hfe]; rfl⟩ ⟨rfl, (by rw [← hh, hf2]; rfl), fun j _ => by show [i64 (h.getD j 0)] = _; rw [hf2]; rfl⟩
        · (exfalso; omega)
end Go.Tr

/- Contracts of chapter 2: closing conduit, state and gap of a net. Conditions: none. -/
namespace Go.Tr
open Go Go.Proofs
set_option maxRecDepth 20000
set_option maxHeartbeats 8000000

theorem closeF_lt (T : List Int) : ∀ (l : List Cn) (k : Nat) (o : Int), o < k + l.length → (closeF T k l o).1 < k + l.length
  | [], k, o, h => by simpa [closeF] using h
  | c :: r, k, o, h => by
    rw [closeF]
    simp only [List.length_cons] at h ⊢
    split
    · have := closeF_lt T r (k + 1) o (by omega); omega
    · split
      · omega
      · have := closeF_lt T r (k + 1) k (by omega); omega
theorem clF_bd (N : Net) (h : 0 < N.cs.length) : -1 ≤ (clF N).1 ∧ (clF N).1 < N.cs.length := by
  unfold clF
  split
  · exact ⟨Int.le_refl _, by omega⟩
  · have a := closeF_lt ((brF N).map (·.1)) N.cs 0 (-1) (by omega)
    have b := closeF_err ((brF N).map (·.1)) N.cs 0 (-1) (by omega)
    constructor
    · rcases b with b | b <;> omega
    · simpa using a
theorem node_bd {n : Nd} (h : nodeRight n = true ∧ nodeOther n = 0) : (-10000 ≤ n.draw ∧ n.draw ≤ 10000) ∧ 0 ≤ n.head ∧ n.head ≤ 1000000 := by
  obtain ⟨h1, h2⟩ := h
  unfold nodeRight at h1
  unfold nodeOther at h2
  cases hl : n.lake with
  | true =>
    rw [hl] at h1 h2
    simp only [if_true, decide_eq_true_eq] at h1 h2
    omega
  | false =>
    rw [hl] at h1 h2
    simp only [Bool.false_eq_true, if_false, decide_eq_true_eq] at h1 h2
    omega
theorem stOk {N : Net} (hok : N.Ok) : StOk N (brF N) (clF N).1 where
  n1 := hok.n1
  c1 := hok.c1
  ends := hok.ends
  dr := fun n hn => (node_bd (hok.node n hn)).1
  hd := fun n hn => (node_bd (hok.node n hn)).2
  res := fun c hc => ⟨(hok.con c hc).2.1, (hok.con c hc).2.2.1⟩
  tr := (brF_tree hok.ends).1
  cl := (clF_bd N hok.c0).2
  nb := Nat.le_trans (brF_len hok.ends) hok.n1

theorem foreL_bd {cs : List Cn} {f : List Int} (hcs : ∀ c ∈ cs, 0 ≤ c.res ∧ c.res ≤ 1000) (hf : ∀ i, -4100000 ≤ f.getD i 0 ∧ f.getD i 0 ≤ 4100000) : ∀ (l : List (Int × Int)) (h : List Int) (B : Int), 0 ≤ B → (∀ j, -B ≤ h.getD j 0 ∧ h.getD j 0 ≤ B) →
    ∀ j, -(B + l.length * 17000000000000000) ≤ (foreL cs f l h).getD j 0 ∧ (foreL cs f l h).getD j 0 ≤ B + l.length * 17000000000000000
  | [], h, B, hB, hb, j => by simpa [foreL] using hb j
  | b :: r, h, B, hB, hb, j => by
    have hres : 0 ≤ (cs.getD b.1.toNat cn0).res ∧ (cs.getD b.1.toNat cn0).res ≤ 1000 := by
      by_cases hi : b.1.toNat < cs.length
      · exact hcs _ (mem_getD hi)
      · rw [List.getD_eq_getElem?_getD, List.getElem?_eq_none (by omega)]
        exact ⟨by decide, by decide⟩
    have hl := lossW hres (sign_bd (c := cs.getD b.1.toNat cn0) (v := b.2) (hf b.1.toNat))
    have ih := foreL_bd hcs hf r (stepH cs f b h) (B + 17000000000000000) (by omega) (fun j => set_bdI (fun j => by have := hb j; omega) (by have := hb (otherN (cs.getD b.1.toNat cn0) b.2).toNat; omega) j) j
    rw [foreL]
    simp only [List.length_cons]
    rw [Int.natCast_add, Int.add_mul]
    omega
theorem state_bd {N : Net} {b : List (Int × Int)} {c q : Int} (hS : StOk N b c) (hq : -200000 ≤ q ∧ q ≤ 200000) (j : Nat) : (-4100000 ≤ (stateF N b c q).1.getD j 0 ∧ (stateF N b c q).1.getD j 0 ≤ 4100000) ∧ -180000000000000000 ≤ (stateF N b c q).2.getD j 0 ∧ (stateF N b c q).2.getD j 0 ≤ 180000000000000000 := by
  have hf := back_flow b (lakesB N) (st0 N c q) (lakesB_len N) (st0_len1 N c q) hS.tr (st0_sum hS hq) (st0_fl hS hq)
  have hh := foreL_bd hS.res hf b (headsL N) 1000000000 (by omega) (headsL_bd hS.hd) j
  have := hS.nb
  refine ⟨hf j, ?_⟩
  show -180000000000000000 ≤ (foreL _ _ _ _).getD j 0 ∧ (foreL _ _ _ _).getD j 0 ≤ 180000000000000000
  omega
theorem state_len (N : Net) (b : List (Int × Int)) (c q : Int) : (stateF N b c q).1.length = N.cs.length ∧ (stateF N b c q).2.length = N.ns.length := by
  unfold stateF
  simp only [(backL_len _ _ _).1, st0_len0, foreL_len, headsL_len, and_self]

/-- The gap at a circulation. -/
def gapF (N : Net) (b : List (Int × Int)) (c q : Int) : Int :=
  lossF (N.cs.getD c.toNat cn0).res q - ((stateF N b c q).2.getD (N.cs.getD c.toNat cn0).fr.toNat 0 - (stateF N b c q).2.getD (N.cs.getD c.toNat cn0).to.toNat 0)
theorem ints_n {l : List Int} {n : Nat} (h : l.length = n) : ints l = .rslice 1 n fun i => [i64 (l.getD i 0)] := by
  unfold ints; rw [h]
theorem S35 (N : Net) (b : List (Int × Int)) (c q : Int) (hS : StOk N b c) (hq : -200000 ≤ q ∧ q ≤ 200000) (hc : 0 ≤ c) : SP 35 [treeA N b c, i64 q] (i64 (gapF N b c q)) false := by
  have h101 := S34 N b c q hS hq
  have hl := state_len N b c q
  have hcl := hS.cl
  have he := hS.ends (N.cs.getD c.toNat cn0) (mem_getD (by omega))
  have hr := hS.res (N.cs.getD c.toNat cn0) (mem_getD (by omega))
  have hlw := lossW (f := q) hr (by omega)
  have b1 := (state_bd hS hq (N.cs.getD c.toNat cn0).fr.toNat).2
  have b2 := (state_bd hS hq (N.cs.getD c.toNat cn0).to.toNat).2
  have h77 := S65w (N.cs.getD c.toNat cn0).res q hr (by omega)
  rw [ints_n hl.1, ints_n hl.2] at h101
  refine sound (d := 2) tok2 mixed2 Tryz.func35 (by kernel_rfl) (by kernel_rfl) ?_
  conv => whnf
  refine ⟨⟨(by omega), (by omega)⟩, ?_⟩
  conv => whnf
  refine .inl ⟨_, _, byX rfl (h101), ?_⟩
  conv => whnf
  refine ⟨[], by kernel_rfl, ?_⟩
  conv => whnf
  refine .inl ⟨_, _, byX rfl (Sound1.pl (h77) rfl), ?_⟩
  conv => whnf
  refine ⟨⟨(by omega), (by omega)⟩, ?_⟩
  conv => whnf
  refine ⟨⟨(by omega), (by omega)⟩, ?_⟩
  conv => whnf
  refine ⟨inK64 (by omega) (by omega), ?_⟩
  conv => whnf
  refine ⟨inK64 (by omega) (by omega), ?_⟩
  conv => whnf
  refine ⟨?_, nofun⟩
  rfl

/-- What ClosingOf says of a net: 12 where there is none. -/
def closE (N : Net) : Int := if formE N = 0 then (if 0 ≤ (clF N).1 then 0 else 12) else formE N
theorem clF_err {N : Net} (h : ¬ (clF N).2 = 0) : (clF N).2 = 14 ∧ (clF N).1 = -1 ∨ (clF N).2 = 8 ∧ 0 ≤ (clF N).1 := by
  unfold clF at h ⊢
  split at h
  · rename_i hg; rw [if_pos hg]; exact .inl ⟨rfl, rfl⟩
  · rename_i hg
    rw [if_neg hg]
    rcases closeF_err ((brF N).map (·.1)) N.cs 0 (-1) (by omega) with b | b
    · exact absurd b.1 h
    · exact .inr b
/-- A tree, or nothing. -/
def treeT (N : Net) : AV := if netE N = 0 then treeA N (brF N) (clF N).1 else tree0
theorem S29 (N : Net) (hN : N.In) : SP 29 [netV N] (.tuple [treeT N, i64 (closE N)]) false := by
  unfold treeT closE formE
  by_cases hE : netE N = 0
  · rw [if_pos hE, if_pos hE]
    have h99 := S30ok N hN hE
    by_cases hF : (clF N).2 = 0
    · rw [if_pos hF]
      rw [hF] at h99
      have e : ∀ x : Int, firstOf [0, x] = x := fun x => by rw [firstOf2, if_pos rfl]; split <;> simp_all
      refine sound (d := 2) tok2 mixed2 Tryz.func29 (by kernel_rfl) (by kernel_rfl) ?_
      conv => whnf
      refine .inl ⟨_, _, byX rfl (h99), ?_⟩
      conv => whnf
      refine ⟨[], by kernel_rfl, ?_⟩
      conv => whnf
      refine .inl ⟨_, _, byX rfl (Sound1.pl (S33 _ _) rfl), ?_⟩
      conv => whnf
      refine .inl ⟨_, _, byX rfl (Sound1.pl (S31_2 _ _ _ ⟨rfl, rfl⟩) rfl), ?_⟩
      conv => whnf
      refine ⟨?_, nofun⟩
      refine ave_tup2 (k := 4) (ave_agg4 (k := 3) (a := .rslice 4 N.ns.length _) (b := .rslice 6 N.cs.length _) (c := .rslice 2 (brF N).length _) (d := i64 (clF N).1) ⟨rfl, rfl, fun _ _ => rfl⟩ ⟨rfl, rfl, fun _ _ => rfl⟩ ⟨rfl, rfl, fun _ _ => rfl⟩ rfl) ?_
      show i64 (firstOf _) = i64 _
      rw [e]
      simp only [decide_eq_true_eq, ge_iff_le]
    · rw [if_neg hF]
      have e : ∀ x : Int, firstOf [(clF N).2, x] = (clF N).2 := fun x => by rw [firstOf2, if_neg hF]
      refine sound (d := 2) tok2 mixed2 Tryz.func29 (by kernel_rfl) (by kernel_rfl) ?_
      conv => whnf
      refine .inl ⟨_, _, byX rfl (h99), ?_⟩
      conv => whnf
      refine ⟨[], by kernel_rfl, ?_⟩
      conv => whnf
      refine .inl ⟨_, _, byX rfl (Sound1.pl (S33 _ _) rfl), ?_⟩
      conv => whnf
      refine .inl ⟨_, _, byX rfl (Sound1.pl (S31_2 _ _ _ ⟨rfl, rfl⟩) rfl), ?_⟩
      conv => whnf
      refine ⟨?_, nofun⟩
      refine ave_tup2 (k := 4) (ave_agg4 (k := 3) (a := .rslice 4 N.ns.length _) (b := .rslice 6 N.cs.length _) (c := .rslice 2 (brF N).length _) (d := i64 (clF N).1) ⟨rfl, rfl, fun _ _ => rfl⟩ ⟨rfl, rfl, fun _ _ => rfl⟩ ⟨rfl, rfl, fun _ _ => rfl⟩ rfl) ?_
      show i64 (firstOf _) = i64 _
      rw [e]
  · rw [if_neg hE, if_neg hE, if_neg hE]
    have h99 := S30err N hN hE
    have e : ∀ x : Int, firstOf [netE N, x] = netE N := fun x => by rw [firstOf2, if_neg hE]
    refine sound (d := 2) tok2 mixed2 Tryz.func29 (by kernel_rfl) (by kernel_rfl) ?_
    conv => whnf
    refine .inl ⟨_, _, byX rfl (h99), ?_⟩
    conv => whnf
    refine ⟨[], by kernel_rfl, ?_⟩
    conv => whnf
    refine .inl ⟨_, _, byX rfl (Sound1.pl (S33 _ _) rfl), ?_⟩
    conv => whnf
    refine .inl ⟨_, _, byX rfl (Sound1.pl (S31_2 _ _ _ ⟨rfl, rfl⟩) rfl), ?_⟩
    conv => whnf
    refine ⟨?_, nofun⟩
    refine ave_tup2 (k := 4) (ave_agg4 (k := 3) rfl rfl rfl rfl) ?_
    show i64 (firstOf _) = i64 _
    rw [e]
theorem formE_ok {N : Net} (h : formE N = 0) : netE N = 0 ∧ (clF N).2 = 0 := by
  unfold formE at h
  split at h
  · exact ⟨by assumption, h⟩
  · contradiction
theorem closE_ok {N : Net} (h : closE N = 0) : formE N = 0 ∧ 0 ≤ (clF N).1 := by
  unfold closE at h
  split at h
  · split at h
    · exact ⟨by assumption, by assumption⟩
    · cases h
  · contradiction
theorem S8 (N : Net) (hN : N.In) : SP 8 [netV N] (.tuple [i64 (if closE N = 0 then (clF N).1 else 0), i64 (closE N)]) false := by
  have h98 := S29 N hN
  by_cases hE : closE N = 0
  · have hf := closE_ok hE
    have hn := formE_ok hf.1
    unfold treeT at h98
    rw [if_pos hn.1] at h98
    rw [if_pos hE]
    refine sound (d := 2) tok2 mixed2 Tryz.func8 (by kernel_rfl) (by kernel_rfl) ?_
    conv => whnf
    refine .inl ⟨_, _, byX rfl (h98), ?_⟩
    conv => whnf
    refine ifB_bne (fun w1 => ?_) (fun w1 => ?_)
    · (exfalso; omega)
    · conv => whnf
      refine ⟨?_, nofun⟩
      exact ave_tup2 (k := 4) rfl (by show i64 _ = i64 _; rw [hE])
  · rw [if_neg hE]
    unfold treeT at h98
    by_cases hn : netE N = 0
    · rw [if_pos hn] at h98
      refine sound (d := 2) tok2 mixed2 Tryz.func8 (by kernel_rfl) (by kernel_rfl) ?_
      conv => whnf
      refine .inl ⟨_, _, byX rfl (h98), ?_⟩
      conv => whnf
      refine ifB_bne (fun w1 => ?_) (fun w1 => ?_)
      · conv => whnf
        refine ⟨?_, nofun⟩
        exact ave_tup2 (k := 4) rfl rfl
      · (exfalso; omega)
    · rw [if_neg hn] at h98
      refine sound (d := 2) tok2 mixed2 Tryz.func8 (by kernel_rfl) (by kernel_rfl) ?_
      conv => whnf
      refine .inl ⟨_, _, byX rfl (h98), ?_⟩
      conv => whnf
      refine ifB_bne (fun w1 => ?_) (fun w1 => ?_)
      · conv => whnf
        refine ⟨?_, nofun⟩
        exact ave_tup2 (k := 4) rfl rfl
      · (exfalso; omega)

/-- The error of a state; of a gap. -/
def crE (q : Int) : Int := if decide (-200000 ≤ q ∧ q ≤ 200000) = true then 0 else 2
def stateE (N : Net) (q : Int) : Int := if formE N = 0 then (if crE q = 0 then (if q = 0 ∨ 0 ≤ (clF N).1 then 0 else 3) else crE q) else formE N
def gapErr (N : Net) (q : Int) : Int := if closE N = 0 then crE q else closE N
theorem crE_ok {q : Int} (h : crE q = 0) : -200000 ≤ q ∧ q ≤ 200000 := by
  unfold crE at h; split at h
  · exact of_decide_eq_true (by assumption)
  · cases h
theorem S10 (N : Net) (hN : N.In) (q : Int) : SP 10 [netV N, i64 q] (.tuple [i64 (if gapErr N q = 0 then gapF N (brF N) (clF N).1 q else 0), i64 (gapErr N q)]) false := by
  have h98 := S29 N hN
  have h100 : SP 32 [i64 q] (i64 (crE q)) false := S32 q
  have e : firstOf [closE N, crE q] = gapErr N q := by
    rw [firstOf2]; unfold gapErr; split
    · split <;> simp_all
    · rfl
  by_cases hE : gapErr N q = 0
  · rw [if_pos hE]
    have hc : closE N = 0 ∧ crE q = 0 := by
      unfold gapErr at hE
      split at hE
      · exact ⟨by assumption, hE⟩
      · contradiction
    have hf := closE_ok hc.1
    have hn := formE_ok hf.1
    have h102 := S35 N (brF N) (clF N).1 q (stOk (net_ok hn.1)) (crE_ok hc.2) hf.2
    unfold treeT at h98
    rw [if_pos hn.1] at h98
    refine sound (d := 2) tok2 mixed2 Tryz.func10 (by kernel_rfl) (by kernel_rfl) ?_
    rw [← e] at hE ⊢
    conv => whnf
    refine .inl ⟨_, _, byX rfl (h98), ?_⟩
    conv => whnf
    refine .inl ⟨_, _, byX rfl (Sound1.pl (h100) rfl), ?_⟩
    conv => whnf
    refine .inl ⟨_, _, byX rfl (Sound1.pl (S31_2 _ _ _ ⟨rfl, rfl⟩) rfl), ?_⟩
    conv => whnf
    refine ifB_bne (fun w1 => ?_) (fun w1 => ?_)
    · (exfalso; omega)
    · conv => whnf
      refine .inl ⟨_, _, byX rfl (Sound1.pl (h102) rfl), ?_⟩
      conv => whnf
      refine ⟨?_, nofun⟩
      exact ave_tup2 (k := 4) rfl (by show i64 _ = i64 _; rw [hE])
  · rw [if_neg hE]
    unfold treeT at h98
    rw [← e] at hE ⊢
    by_cases hn : netE N = 0
    · rw [if_pos hn] at h98
      refine sound (d := 2) tok2 mixed2 Tryz.func10 (by kernel_rfl) (by kernel_rfl) ?_
      conv => whnf
      refine .inl ⟨_, _, byX rfl (h98), ?_⟩
      conv => whnf
      refine .inl ⟨_, _, byX rfl (Sound1.pl (h100) rfl), ?_⟩
      conv => whnf
      refine .inl ⟨_, _, byX rfl (Sound1.pl (S31_2 _ _ _ ⟨rfl, rfl⟩) rfl), ?_⟩
      conv => whnf
      refine ifB_bne (fun w1 => ?_) (fun w1 => ?_)
      · conv => whnf
        refine ⟨?_, nofun⟩
        exact ave_tup2 (k := 4) rfl rfl
      · (exfalso; omega)
    · rw [if_neg hn] at h98
      refine sound (d := 2) tok2 mixed2 Tryz.func10 (by kernel_rfl) (by kernel_rfl) ?_
      conv => whnf
      refine .inl ⟨_, _, byX rfl (h98), ?_⟩
      conv => whnf
      refine .inl ⟨_, _, byX rfl (Sound1.pl (h100) rfl), ?_⟩
      conv => whnf
      refine .inl ⟨_, _, byX rfl (Sound1.pl (S31_2 _ _ _ ⟨rfl, rfl⟩) rfl), ?_⟩
      conv => whnf
      refine ifB_bne (fun w1 => ?_) (fun w1 => ?_)
      · conv => whnf
        refine ⟨?_, nofun⟩
        exact ave_tup2 (k := 4) rfl rfl
      · (exfalso; omega)
end Go.Tr

/- Contracts of chapter 2: the state at a circulation. Conditions: none. -/
namespace Go.Tr
open Go Go.Proofs
set_option maxRecDepth 20000
set_option maxHeartbeats 8000000

def stA (s : List Int × List Int) : AV := .agg [ints s.1, ints s.2]
theorem stateE_ok {N : Net} {q : Int} (h : stateE N q = 0) : formE N = 0 ∧ crE q = 0 ∧ (q = 0 ∨ 0 ≤ (clF N).1) := by
  unfold stateE at h
  split at h
  · split at h
    · split at h
      · exact ⟨by assumption, by assumption, by assumption⟩
      · cases h
    · contradiction
  · contradiction
theorem firstOf3 (a b c : Int) : firstOf [a, b, c] = if a = 0 then (if b = 0 then (if c = 0 then 0 else c) else b) else a := rfl
theorem stateE_eq {N : Net} {q : Int} (hn : netE N = 0) (x : Int) (hx : x = if q = 0 ∨ 0 ≤ (clF N).1 then 0 else 3) : firstOf [(clF N).2, crE q, x] = stateE N q := by
  rw [firstOf3]
  unfold stateE formE
  rw [if_pos hn, ← hx]
  by_cases h1 : (clF N).2 = 0
  · rw [if_pos h1, if_pos h1]
    by_cases h2 : crE q = 0
    · rw [if_pos h2, if_pos h2]; split <;> simp_all
    · rw [if_neg h2, if_neg h2]
  · rw [if_neg h1, if_neg h1]
theorem ave_st0 (e : Int) : AVE 5 (.tuple [.agg [.eslice, .eslice], i64 e]) (.tuple [stA ([], []), i64 e]) :=
  ave_tup2 (k := 4) (ave_agg2 (k := 3) (show (0 : Nat) = 0 from rfl) (show (0 : Nat) = 0 from rfl)) rfl
theorem ave_st (s : List Int × List Int) (e : Int) : AVE 5 (.tuple [stA s, i64 e]) (.tuple [stA s, i64 e]) :=
  ave_tup2 (k := 4) (ave_agg2 (k := 3) (a := .rslice 1 s.1.length _) (b := .rslice 1 s.2.length _) ⟨rfl, rfl, fun _ _ => rfl⟩ ⟨rfl, rfl, fun _ _ => rfl⟩) rfl
theorem S9 (N : Net) (hN : N.In) (q : Int) : SP 9 [netV N, i64 q] (.tuple [stA (if stateE N q = 0 then stateF N (brF N) (clF N).1 q else ([], [])), i64 (stateE N q)]) false := by
  have h100 : SP 32 [i64 q] (i64 (crE q)) false := S32 q
  by_cases hn : netE N = 0
  · have h99 := S30ok N hN hn
    have e1 : q = 0 → firstOf [(clF N).2, crE q, if true = true then 0 else 3] = stateE N q := fun h => stateE_eq hn _ (by rw [if_pos rfl, if_pos (.inl h)])
    have e2 : ¬ q = 0 → firstOf [(clF N).2, crE q, if decide ((clF N).1 ≥ 0) = true then 0 else 3] = stateE N q := fun h => stateE_eq hn _ (by
      by_cases h2 : 0 ≤ (clF N).1
      · rw [if_pos (by simpa using h2), if_pos (.inr h2)]
      · rw [if_neg (by simpa using h2), if_neg (by rintro (a | a); exact h a; exact h2 a)])
    by_cases hE : stateE N q = 0
    · have hk := stateE_ok hE
      have h101 := S34 N (brF N) (clF N).1 q (stOk (net_ok hn)) (crE_ok hk.2.1)
      rw [if_pos hE]
      change SP 34 _ (stA (stateF N (brF N) (clF N).1 q)) false at h101
      refine sound (d := 2) tok2 mixed2 Tryz.func9 (by kernel_rfl) (by kernel_rfl) ?_
      conv => whnf
      refine .inl ⟨_, _, byX rfl (h99), ?_⟩
      conv => whnf
      refine .inl ⟨_, _, byX rfl (Sound1.pl (h100) rfl), ?_⟩
      conv => whnf
      refine ifB_beq (fun w1 => ?_) (fun w1 => ?_)
      · conv => whnf
        refine .inl ⟨_, _, byX rfl (Sound1.pl (S33 _ _) rfl), ?_⟩
        conv => whnf
        refine .inl ⟨_, _, byX rfl (Sound1.pl (S31_3 _ _ _ _ ⟨rfl, rfl, rfl⟩) rfl), ?_⟩
        conv => whnf
        refine ifB_bne (fun w2 => ?_) (fun w2 => ?_)
        · (exfalso; omega)
        · conv => whnf
          refine .inl ⟨_, _, byX rfl (h101), ?_⟩
          conv => whnf
          refine ⟨?_, nofun⟩
          rw [hE]; exact ave_st _ _
      · conv => whnf
        refine .inl ⟨_, _, byX rfl (Sound1.pl (S33 _ _) rfl), ?_⟩
        conv => whnf
        refine .inl ⟨_, _, byX rfl (Sound1.pl (S31_3 _ _ _ _ ⟨rfl, rfl, rfl⟩) rfl), ?_⟩
        conv => whnf
        refine ifB_bne (fun w2 => ?_) (fun w2 => ?_)
        · (exfalso; omega)
        · conv => whnf
          refine .inl ⟨_, _, byX rfl (h101), ?_⟩
          conv => whnf
          refine ⟨?_, nofun⟩
          rw [hE]; exact ave_st _ _
    · rw [if_neg hE]
      refine sound (d := 2) tok2 mixed2 Tryz.func9 (by kernel_rfl) (by kernel_rfl) ?_
      conv => whnf
      refine .inl ⟨_, _, byX rfl (h99), ?_⟩
      conv => whnf
      refine .inl ⟨_, _, byX rfl (Sound1.pl (h100) rfl), ?_⟩
      conv => whnf
      refine ifB_beq (fun w1 => ?_) (fun w1 => ?_)
      · conv => whnf
        refine .inl ⟨_, _, byX rfl (Sound1.pl (S33 _ _) rfl), ?_⟩
        conv => whnf
        refine .inl ⟨_, _, byX rfl (Sound1.pl (S31_3 _ _ _ _ ⟨rfl, rfl, rfl⟩) rfl), ?_⟩
        conv => whnf
        refine ifB_bne (fun w2 => ?_) (fun w2 => ?_)
        · conv => whnf
          refine ⟨?_, nofun⟩
          refine ave_tup2 (k := 4) (ave_agg2 (k := 3) (show (0 : Nat) = 0 from rfl) (show (0 : Nat) = 0 from rfl)) ?_
          show i64 _ = i64 _
          rw [e1 w1]
        · (exfalso; omega)
      · conv => whnf
        refine .inl ⟨_, _, byX rfl (Sound1.pl (S33 _ _) rfl), ?_⟩
        conv => whnf
        refine .inl ⟨_, _, byX rfl (Sound1.pl (S31_3 _ _ _ _ ⟨rfl, rfl, rfl⟩) rfl), ?_⟩
        conv => whnf
        refine ifB_bne (fun w2 => ?_) (fun w2 => ?_)
        · conv => whnf
          refine ⟨?_, nofun⟩
          refine ave_tup2 (k := 4) (ave_agg2 (k := 3) (show (0 : Nat) = 0 from rfl) (show (0 : Nat) = 0 from rfl)) ?_
          show i64 _ = i64 _
          rw [e2 w1]
        · (exfalso; omega)
  · have h99 := S30err N hN hn
    have hE : stateE N q = netE N := by unfold stateE formE; rw [if_neg hn, if_neg hn]
    have e : ∀ x y : Int, firstOf [netE N, x, y] = netE N := fun x y => by rw [firstOf3, if_neg hn]
    rw [hE, if_neg hn]
    refine sound (d := 2) tok2 mixed2 Tryz.func9 (by kernel_rfl) (by kernel_rfl) ?_
    conv => whnf
    refine .inl ⟨_, _, byX rfl (h99), ?_⟩
    conv => whnf
    refine .inl ⟨_, _, byX rfl (Sound1.pl (h100) rfl), ?_⟩
    conv => whnf
    refine ifB_beq (fun w1 => ?_) (fun w1 => ?_)
    · conv => whnf
      refine .inl ⟨_, _, byX rfl (Sound1.pl (S33 _ _) rfl), ?_⟩
      conv => whnf
      refine .inl ⟨_, _, byX rfl (Sound1.pl (S31_3 _ _ _ _ ⟨rfl, rfl, rfl⟩) rfl), ?_⟩
      conv => whnf
      refine ifB_bne (fun w2 => ?_) (fun w2 => ?_)
      · conv => whnf
        refine ⟨?_, nofun⟩
        refine ave_tup2 (k := 4) (ave_agg2 (k := 3) (show (0 : Nat) = 0 from rfl) (show (0 : Nat) = 0 from rfl)) ?_
        show i64 _ = i64 _
        rw [e]
      · exact absurd ((e _ _).symm.trans w2) hn
    · conv => whnf
      refine .inl ⟨_, _, byX rfl (Sound1.pl (S33 _ _) rfl), ?_⟩
      conv => whnf
      refine .inl ⟨_, _, byX rfl (Sound1.pl (S31_3 _ _ _ _ ⟨rfl, rfl, rfl⟩) rfl), ?_⟩
      conv => whnf
      refine ifB_bne (fun w2 => ?_) (fun w2 => ?_)
      · conv => whnf
        refine ⟨?_, nofun⟩
        refine ave_tup2 (k := 4) (ave_agg2 (k := 3) (show (0 : Nat) = 0 from rfl) (show (0 : Nat) = 0 from rfl)) ?_
        show i64 _ = i64 _
        rw [e]
      · exact absurd ((e _ _).symm.trans w2) hn
end Go.Tr

/- Plain laws of chapter 2: no water is lost, heads along a tree. Conditions: none. -/
namespace Go.Tr
open Go Go.Proofs
set_option maxRecDepth 20000
set_option maxHeartbeats 8000000

section
variable {n : Nat} {cs : List Cn}

/-- A branch's conduit is of no later branch. -/
theorem tree_later : ∀ (l : List (Int × Int)) (m : List Bool) (i : Int), m.length = n → inR n cs → TreeOk n cs m l → m.getD (cs.getD i.toNat cn0).fr.toNat false = true → m.getD (cs.getD i.toNat cn0).to.toNat false = true → ∀ b ∈ l, b.1 ≠ i
  | [], m, i, _, _, _, _, _, b, hb => by simp at hb
  | b :: r, m, i, hm, hr, ht, h1, h2, x, hx => by
    obtain ⟨hB, ht⟩ := ht
    rcases List.mem_cons.1 hx with rfl | hx
    · intro e
      subst e
      have hn := hB.new
      rcases hB.isEnd with e | e
      · rw [← e, h2] at hn; cases hn
      · rw [← e, h1] at hn; cases hn
    · have mono : ∀ u, m.getD u false = true → (m.set b.2.toNat true).getD u false = true := fun u hu => by
        rw [getD_set]; split
        · rfl
        · exact hu
      exact tree_later r _ i (by simpa using hm) hr ht (mono _ h1) (mono _ h2) x hx
theorem other_or {c : Cn} {v : Int} (h : c.to = v ∨ c.fr = v) : (c.to = v ∧ otherN c v = c.fr ∧ signN c v = 1) ∨ (c.to ≠ v ∧ c.fr = v ∧ otherN c v = c.to ∧ signN c v = -1) := by
  unfold otherN signN
  by_cases e : c.to = v
  · exact .inl ⟨e, if_pos e, if_pos e⟩
  · rcases h with h | h
    · exact absurd h e
    · exact .inr ⟨e, h, if_neg e, if_neg e⟩
theorem tree_dist {b : Int × Int} {r : List (Int × Int)} {m : List Bool} (hm : m.length = n) (hr : inR n cs) (ht : TreeOk n cs m (b :: r)) : ∀ x ∈ r, x.1 ≠ b.1 := by
  obtain ⟨hB, ht⟩ := ht
  have hv := hB.v0; have hv1 := hB.v1
  have hv2 : (m.set b.2.toNat true).getD b.2.toNat false = true := by rw [getD_set, if_pos]; exact ⟨rfl, by omega⟩
  have ho : (m.set b.2.toNat true).getD (otherN (cs.getD b.1.toNat cn0) b.2).toNat false = true := by
    rw [getD_set]; split
    · rfl
    · exact hB.old
  refine tree_later r _ b.1 (by simpa using hm) hr ht ?_ ?_
  · rcases other_or hB.isEnd with ⟨e1, e2, _⟩ | ⟨_, e1, e2, _⟩
    · rw [← e2]; exact ho
    · rw [e1]; exact hv2
  · rcases other_or hB.isEnd with ⟨e1, e2, _⟩ | ⟨_, e1, e2, _⟩
    · rw [e1]; exact hv2
    · rw [← e2]; exact ho

theorem tree_range : ∀ (l : List (Int × Int)) (m : List Bool), TreeOk n cs m l → ∀ b ∈ l, 0 ≤ b.1 ∧ b.1 < cs.length ∧ 0 ≤ b.2 ∧ b.2 < n ∧ (cs.getD b.1.toNat cn0).opn = true
  | [], m, _, b, hb => by simp at hb
  | x :: r, m, ht, b, hb => by
    rcases List.mem_cons.1 hb with rfl | hb
    · exact ⟨ht.1.i0, ht.1.i1, ht.1.v0, ht.1.v1, ht.1.opn⟩
    · exact tree_range r _ ht.2 b hb

/-- Conduits of no branch keep their flow. -/
theorem back_other : ∀ (l : List (Int × Int)) (s : List Int × List Int) (i : Nat), (∀ b ∈ l, 0 ≤ b.1) → (∀ b ∈ l, b.1 ≠ i) → (backL cs l s).1.getD i 0 = s.1.getD i 0
  | [], s, i, _, _ => rfl
  | b :: r, s, i, h0, h => by
    have ih := back_other r s i (fun x hx => h0 x (by simp [hx])) (fun x hx => h x (by simp [hx]))
    show ((backL cs r s).1.set _ _).getD i 0 = _
    rw [getD_setI, if_neg, ih]
    rintro ⟨e, _⟩
    have := h0 b (by simp)
    exact h b (by simp) (by omega)
theorem back_flow_at {b : Int × Int} {r : List (Int × Int)} {m : List Bool} {s : List Int × List Int} (hs : s.1.length = cs.length) (ht : TreeOk n cs m (b :: r)) :
    (backL cs (b :: r) s).1.getD b.1.toNat 0 = signN (cs.getD b.1.toNat cn0) b.2 * (backL cs r s).2.getD b.2.toNat 0 := by
  have h1 := ht.1.i0; have h2 := ht.1.i1
  show ((backL cs r s).1.set _ _).getD _ 0 = _
  rw [getD_setI, if_pos]
  exact ⟨rfl, by rw [(backL_len cs r s).1, hs]; omega⟩

/-- Heads of nodes that were in the tree stay. -/
theorem fore_keep {f : List Int} : ∀ (l : List (Int × Int)) (m : List Bool) (h : List Int) (u : Nat), TreeOk n cs m l → m.getD u false = true → (foreL cs f l h).getD u 0 = h.getD u 0
  | [], m, h, u, _, _ => rfl
  | b :: r, m, h, u, ht, hu => by
    have ih := fore_keep (f := f) r _ (stepH cs f b h) u ht.2 (by rw [getD_set]; split; rfl; exact hu)
    rw [foreL, ih]
    show (h.set _ _).getD u 0 = _
    rw [getD_setI, if_neg]
    rintro ⟨e, _⟩
    have := ht.1.new
    rw [← e, hu] at this
    cases this
theorem loss_neg (r f : Int) : lossF r (-f) = -lossF r f := by
  have e : sizeF (-f) = sizeF f := by unfold sizeF; split <;> split <;> omega
  unfold lossF
  rw [e, Int.mul_neg, Int.neg_mul]
/-- The loss of each branch is what the heads of its ends differ by. -/
theorem fore_loss {f : List Int} : ∀ (l : List (Int × Int)) (m : List Bool) (h : List Int), m.length = n → h.length = n → TreeOk n cs m l → ∀ b ∈ l,
    (foreL cs f l h).getD (cs.getD b.1.toNat cn0).fr.toNat 0 - (foreL cs f l h).getD (cs.getD b.1.toNat cn0).to.toNat 0 = lossF (cs.getD b.1.toNat cn0).res (f.getD b.1.toNat 0)
  | [], m, h, _, _, _, b, hb => by simp at hb
  | x :: r, m, h, hm, hh, ht, b, hb => by
    rcases List.mem_cons.1 hb with rfl | hb
    · obtain ⟨hB, ht⟩ := ht
      have hv := hB.v0; have hv1 := hB.v1
      have kv := fore_keep (f := f) r _ (stepH cs f b h) b.2.toNat ht (by rw [getD_set, if_pos]; exact ⟨rfl, by omega⟩)
      have ko := fore_keep (f := f) r _ (stepH cs f b h) (otherN (cs.getD b.1.toNat cn0) b.2).toNat ht (by rw [getD_set]; split; rfl; exact hB.old)
      have sv : (stepH cs f b h).getD b.2.toNat 0 = h.getD (otherN (cs.getD b.1.toNat cn0) b.2).toNat 0 - lossF (cs.getD b.1.toNat cn0).res (signN (cs.getD b.1.toNat cn0) b.2 * f.getD b.1.toNat 0) := by
        unfold stepH
        rw [getD_setI, if_pos]
        exact ⟨rfl, by omega⟩
      have so : (stepH cs f b h).getD (otherN (cs.getD b.1.toNat cn0) b.2).toNat 0 = h.getD (otherN (cs.getD b.1.toNat cn0) b.2).toNat 0 := by
        unfold stepH
        rw [getD_setI, if_neg]
        rintro ⟨e, _⟩
        have := hB.new
        rw [← e, hB.old] at this
        cases this
      rw [foreL]
      rcases other_or hB.isEnd with ⟨e1, e2, e3⟩ | ⟨_, e1, e2, e3⟩
      · rw [e2] at ko so sv
        rw [e3, Int.one_mul] at sv
        rw [e1, kv, ko, sv, so]
        omega
      · rw [e2] at ko so sv
        rw [e3, Int.neg_mul, Int.one_mul, loss_neg] at sv
        rw [e1, kv, ko, sv, so]
        omega
    · rw [foreL]
      exact fore_loss r _ _ (by simpa using hm) (by simpa [stepH] using hh) ht.2 b hb

/-- What arrives at a node, minus what leaves it. -/
def inflow : List Cn → List Int → Nat → Int
  | c :: r, f :: fs, u => f * ((if c.to.toNat = u then 1 else 0) - (if c.fr.toNat = u then 1 else 0)) + inflow r fs u
  | _, _, _ => 0
theorem inflow_set : ∀ (cs : List Cn) (f : List Int) (i : Nat) (x : Int) (u : Nat), f.length = cs.length → i < cs.length →
    inflow cs (f.set i x) u = inflow cs f u + (x - f.getD i 0) * ((if (cs.getD i cn0).to.toNat = u then 1 else 0) - (if (cs.getD i cn0).fr.toNat = u then 1 else 0))
  | [], f, i, x, u, _, h => by simp at h
  | c :: r, [], i, x, u, hl, _ => by simp at hl
  | c :: r, f :: fs, 0, x, u, hl, _ => by
    simp only [List.set_cons_zero, inflow, List.getD_cons_zero]
    rw [Int.sub_mul]; omega
  | c :: r, f :: fs, i + 1, x, u, hl, h => by
    have := inflow_set r fs i x u (by simpa using hl) (by simpa using h)
    simp only [List.set_cons_succ, inflow, List.getD_cons_succ]
    omega
/-- What a branch carries arrives at its node, and leaves the other one. -/
theorem carry {c : Cn} {v y : Int} {u : Nat} (h : c.to = v ∨ c.fr = v) : (signN c v * y) * ((if c.to.toNat = u then (1 : Int) else 0) - (if c.fr.toNat = u then 1 else 0)) = y * ((if v.toNat = u then 1 else 0) - (if (otherN c v).toNat = u then 1 else 0)) := by
  rcases other_or h with ⟨e1, e2, e3⟩ | ⟨_, e1, e2, e3⟩
  · rw [e2, e3, e1, Int.one_mul]
  · rw [e2, e3, e1, Int.neg_mul, Int.one_mul, Int.neg_mul, ← Int.mul_neg]
    congr 1
    omega

theorem kept : ∀ (l : List (Int × Int)) (m : List Bool) (s : List Int × List Int), m.length = n → s.1.length = cs.length → s.2.length = n → inR n cs → TreeOk n cs m l → (∀ b ∈ l, s.1.getD b.1.toNat 0 = 0) → ∀ u : Nat, u < n →
    (m.getD u false = true → inflow cs (backL cs l s).1 u + (backL cs l s).2.getD u 0 = inflow cs s.1 u + s.2.getD u 0) ∧
    (m.getD u false = false → (afterF m l).getD u false = true → inflow cs (backL cs l s).1 u = inflow cs s.1 u + s.2.getD u 0)
  | [], m, s, hm, hs1, hs2, hr, ht, hz, u, hu => ⟨fun _ => rfl, fun h1 h2 => by rw [show (afterF m []) = m from rfl, h1] at h2; cases h2⟩
  | b :: r, m, s, hm, hs1, hs2, hr, ht, hz, u, hu => by
    have hd := tree_dist hm hr ht
    have hrg := tree_range r _ ht.2
    obtain ⟨hB, ht2⟩ := ht
    have i0 := hB.i0; have i1 := hB.i1; have v0 := hB.v0; have v1 := hB.v1; have o0 := hB.o0; have o1 := hB.o1
    have ih := kept r (m.set b.2.toNat true) s (by simpa using hm) hs1 hs2 hr ht2 (fun x hx => hz x (by simp [hx])) u hu
    have hf0 : (backL cs r s).1.getD b.1.toNat 0 = 0 := by
      rw [back_other r s b.1.toNat (fun x hx => (hrg x hx).1) (fun x hx e => hd x hx (by omega))]
      exact hz b (by simp)
    have hfl : (backL cs r s).1.length = cs.length := by rw [(backL_len cs r s).1, hs1]
    have hdl : (backL cs r s).2.length = n := by rw [(backL_len cs r s).2, hs2]
    have hin : inflow cs (backL cs (b :: r) s).1 u = inflow cs (backL cs r s).1 u + (backL cs r s).2.getD b.2.toNat 0 * ((if b.2.toNat = u then 1 else 0) - (if (otherN (cs.getD b.1.toNat cn0) b.2).toNat = u then 1 else 0)) := by
      show inflow cs ((backL cs r s).1.set _ _) u = _
      rw [inflow_set cs _ _ _ u hfl (by omega), hf0, Int.sub_zero, carry hB.isEnd]
    have hdr : (backL cs (b :: r) s).2.getD u 0 = if u = (otherN (cs.getD b.1.toNat cn0) b.2).toNat then (backL cs r s).2.getD u 0 + (backL cs r s).2.getD b.2.toNat 0 else (backL cs r s).2.getD u 0 := by
      show ((backL cs r s).2.set _ _).getD u 0 = _
      rw [getD_setI]
      by_cases e : u = (otherN (cs.getD b.1.toNat cn0) b.2).toNat
      · rw [if_pos ⟨e, by omega⟩, if_pos e, ← e]
      · rw [if_neg (fun h => e h.1), if_neg e]
    rw [getD_set] at ih
    have hne : (otherN (cs.getD b.1.toNat cn0) b.2).toNat ≠ b.2.toNat := fun e => by
      have := hB.new
      rw [← e, hB.old] at this
      cases this
    by_cases huv : u = b.2.toNat
    · subst huv
      rw [if_pos ⟨rfl, by omega⟩] at ih
      refine ⟨fun h => (by rw [hB.new] at h; cases h), fun _ _ => ?_⟩
      rw [hin, if_pos rfl, if_neg hne, Int.sub_zero, Int.mul_one]
      exact ih.1 rfl
    · rw [if_neg (fun h => huv h.1)] at ih
      rw [if_neg (fun e => huv e.symm)] at hin
      by_cases huo : u = (otherN (cs.getD b.1.toNat cn0) b.2).toNat
      · rw [if_pos huo.symm] at hin
        rw [if_pos huo] at hdr
        refine ⟨fun h => ?_, fun h _ => ?_⟩
        · have := ih.1 h
          rw [hin, hdr]
          omega
        · rw [huo, hB.old] at h; cases h
      · rw [if_neg (fun e => huo e.symm)] at hin
        rw [if_neg huo] at hdr
        rw [Int.sub_self, Int.mul_zero, Int.add_zero] at hin
        rw [hin, hdr]
        exact ⟨ih.1, fun h1 h2 => ih.2 h1 h2⟩
end
end Go.Tr

/- Plain laws of chapter 2: the gap never decreases with the circulation; the closing conduit. Conditions: none. -/
namespace Go.Tr
open Go Go.Proofs
set_option maxRecDepth 20000
set_option maxHeartbeats 8000000

theorem size_nonneg (f : Int) : 0 ≤ sizeF f := by unfold sizeF; split <;> omega
theorem sq_size_mono {f g : Int} (h : f ≤ g) : f * sizeF f ≤ g * sizeF g := by
  by_cases hf : 0 ≤ f
  · have e1 : sizeF f = f := by unfold sizeF; split <;> omega
    have e2 : sizeF g = g := by unfold sizeF; split <;> omega
    rw [e1, e2]
    exact Int.mul_le_mul h h hf (by omega)
  · have e1 : sizeF f = -f := by unfold sizeF; split <;> omega
    by_cases hg : 0 ≤ g
    · have h1 : f * sizeF f ≤ 0 := by
        rw [e1]; exact Int.mul_nonpos_of_nonpos_of_nonneg (by omega) (by omega)
      have h2 : 0 ≤ g * sizeF g := Int.mul_nonneg hg (size_nonneg g)
      omega
    · have e2 : sizeF g = -g := by unfold sizeF; split <;> omega
      rw [e1, e2, Int.mul_neg, Int.mul_neg]
      have : (-g) * (-g) ≤ (-f) * (-f) := Int.mul_le_mul (by omega) (by omega) (by omega) (by omega)
      rw [Int.neg_mul_neg, Int.neg_mul_neg] at this
      omega
theorem loss_mono {r f g : Int} (hr : 0 ≤ r) (h : f ≤ g) : lossF r f ≤ lossF r g := by
  unfold lossF
  rw [Int.mul_assoc, Int.mul_assoc]
  exact Int.mul_le_mul_of_nonneg_left (sq_size_mono h) hr

/-- Is it this node? -/
def dl (u p : Nat) : Int := if u = p then 1 else 0

section
variable {n : Nat} {cs : List Cn}
theorem tok (hcs : ∀ c ∈ cs, 0 ≤ c.res) (hr : inR n cs) (D : Int) (hD : 0 ≤ D) : ∀ (l : List (Int × Int)) (m : List Bool) (s s' : List Int × List Int) (P0 R0 : Nat), m.length = n → s.1.length = cs.length → s'.1.length = cs.length → s.2.length = n → s'.2.length = n → TreeOk n cs m l →
    (∀ u : Nat, s'.2.getD u 0 = s.2.getD u 0 + D * (dl u P0 - dl u R0)) →
    ∃ P R : Nat, (∀ u : Nat, m.getD u false = true → (backL cs l s').2.getD u 0 = (backL cs l s).2.getD u 0 + D * (dl u P - dl u R)) ∧
      ((l = [] → P = P0 ∧ R = R0) ∧ ∀ F F' h h' : List Int, h.length = n → h'.length = n → (∀ x ∈ l, F.getD x.1.toNat 0 = (backL cs l s).1.getD x.1.toNat 0) → (∀ x ∈ l, F'.getD x.1.toNat 0 = (backL cs l s').1.getD x.1.toNat 0) →
        h'.getD P 0 ≤ h.getD P 0 → h.getD R 0 ≤ h'.getD R 0 → (foreL cs F' l h').getD P0 0 ≤ (foreL cs F l h).getD P0 0 ∧ (foreL cs F l h).getD R0 0 ≤ (foreL cs F' l h').getD R0 0)
  | [], m, s, s', P0, R0, _, _, _, _, _, _, hs => ⟨P0, R0, fun u _ => hs u, fun _ => ⟨rfl, rfl⟩, fun F F' h h' _ _ _ _ h1 h2 => ⟨h1, h2⟩⟩
  | b :: r, m, s, s', P0, R0, hm, a1, a2, a3, a4, ht, hs => by
    have ht0 := ht
    have hd := tree_dist hm hr ht
    have hrg := tree_range r _ ht.2
    obtain ⟨hB, ht2⟩ := ht
    have i0 := hB.i0; have i1 := hB.i1; have v0 := hB.v0; have v1 := hB.v1; have o0 := hB.o0; have o1 := hB.o1
    obtain ⟨P1, R1, g1, _, g2⟩ := tok hcs hr D hD r (m.set b.2.toNat true) s s' P0 R0 (by simpa using hm) a1 a2 a3 a4 ht2 hs
    have hne : (otherN (cs.getD b.1.toNat cn0) b.2).toNat ≠ b.2.toNat := fun e => by
      have := hB.new
      rw [← e, hB.old] at this
      cases this
    have mk : ∀ u, m.getD u false = true → (m.set b.2.toNat true).getD u false = true := fun u hu => by
      rw [getD_set]; split
      · rfl
      · exact hu
    have mv : (m.set b.2.toNat true).getD b.2.toNat false = true := by rw [getD_set, if_pos]; exact ⟨rfl, by omega⟩
    have gv := g1 _ mv
    have hl1 : (backL cs r s).2.length = n := by rw [(backL_len cs r s).2, a3]
    have hl2 : (backL cs r s').2.length = n := by rw [(backL_len cs r s').2, a4]
    refine ⟨if P1 = b.2.toNat then (otherN (cs.getD b.1.toNat cn0) b.2).toNat else P1, if R1 = b.2.toNat then (otherN (cs.getD b.1.toNat cn0) b.2).toNat else R1, ?_, ⟨(fun h => by cases h), ?_⟩⟩
    · intro u hu
      have gu := g1 u (mk u hu)
      have huv : u ≠ b.2.toNat := fun e => by
        have := hB.new
        rw [← e, hu] at this
        cases this
      show ((backL cs r s').2.set _ _).getD u 0 = ((backL cs r s).2.set _ _).getD u 0 + _
      rw [getD_setI, getD_setI]
      by_cases huo : u = (otherN (cs.getD b.1.toNat cn0) b.2).toNat
      · rw [if_pos ⟨huo, by omega⟩, if_pos ⟨huo, by omega⟩, ← huo, gu, gv]
        have e1 : dl u (if P1 = b.2.toNat then u else P1) = dl u P1 + dl b.2.toNat P1 := by
          unfold dl
          by_cases e : P1 = b.2.toNat
          · rw [if_pos e, if_pos rfl, if_neg (by omega), if_pos e.symm]; rfl
          · have h0 : (if b.2.toNat = P1 then (1 : Int) else 0) = 0 := if_neg (fun h => e h.symm)
            rw [if_neg e, h0]; omega
        have e2 : dl u (if R1 = b.2.toNat then u else R1) = dl u R1 + dl b.2.toNat R1 := by
          unfold dl
          by_cases e : R1 = b.2.toNat
          · rw [if_pos e, if_pos rfl, if_neg (by omega), if_pos e.symm]; rfl
          · have h0 : (if b.2.toNat = R1 then (1 : Int) else 0) = 0 := if_neg (fun h => e h.symm)
            rw [if_neg e, h0]; omega
        rw [e1, e2]
        simp only [Int.mul_sub, Int.mul_add]
        omega
      · rw [if_neg (fun h => huo h.1), if_neg (fun h => huo h.1), gu]
        have e1 : dl u (if P1 = b.2.toNat then (otherN (cs.getD b.1.toNat cn0) b.2).toNat else P1) = dl u P1 := by
          unfold dl
          by_cases e : P1 = b.2.toNat
          · rw [if_pos e, if_neg huo, if_neg (by omega)]
          · rw [if_neg e]
        have e2 : dl u (if R1 = b.2.toNat then (otherN (cs.getD b.1.toNat cn0) b.2).toNat else R1) = dl u R1 := by
          unfold dl
          by_cases e : R1 = b.2.toNat
          · rw [if_pos e, if_neg huo, if_neg (by omega)]
          · rw [if_neg e]
        rw [e1, e2]
    · intro F F' h h' hh hh' hF hF' hP hR
      have sgn : ∀ (c : Cn) (v x : Int), signN c v * (signN c v * x) = x := fun c v x => by
        unfold signN; split <;> omega
      have f1 : signN (cs.getD b.1.toNat cn0) b.2 * F.getD b.1.toNat 0 = (backL cs r s).2.getD b.2.toNat 0 := by
        rw [hF b (by simp), back_flow_at a1 ht0, sgn]
      have f2 : signN (cs.getD b.1.toNat cn0) b.2 * F'.getD b.1.toNat 0 = (backL cs r s').2.getD b.2.toNat 0 := by
        rw [hF' b (by simp), back_flow_at a2 ht0, sgn]
      have hFr : ∀ x ∈ r, F.getD x.1.toNat 0 = (backL cs r s).1.getD x.1.toNat 0 := fun x hx => by
        rw [hF x (by simp [hx])]
        show ((backL cs r s).1.set _ _).getD _ 0 = _
        rw [getD_setI, if_neg]
        rintro ⟨e, _⟩
        have := (hrg x hx).1
        exact hd x hx (by omega)
      have hFr' : ∀ x ∈ r, F'.getD x.1.toNat 0 = (backL cs r s').1.getD x.1.toNat 0 := fun x hx => by
        rw [hF' x (by simp [hx])]
        show ((backL cs r s').1.set _ _).getD _ 0 = _
        rw [getD_setI, if_neg]
        rintro ⟨e, _⟩
        have := (hrg x hx).1
        exact hd x hx (by omega)
      have hres := hcs (cs.getD b.1.toNat cn0) (mem_getD (by omega))
      have sv : ∀ (G g : List Int), g.length = n → (stepH cs G b g).getD b.2.toNat 0 = g.getD (otherN (cs.getD b.1.toNat cn0) b.2).toNat 0 - lossF (cs.getD b.1.toNat cn0).res (signN (cs.getD b.1.toNat cn0) b.2 * G.getD b.1.toNat 0) := fun G g hg => by
        unfold stepH
        rw [getD_setI, if_pos]
        exact ⟨rfl, by omega⟩
      have so : ∀ (G g : List Int) (u : Nat), u ≠ b.2.toNat → (stepH cs G b g).getD u 0 = g.getD u 0 := fun G g u hu => by
        unfold stepH
        rw [getD_setI, if_neg (fun h => hu h.1)]
      refine g2 F F' (stepH cs F b h) (stepH cs F' b h') (by simpa [stepH] using hh) (by simpa [stepH] using hh') hFr hFr' ?_ ?_
      · by_cases e : P1 = b.2.toNat
        · rw [if_pos e] at hP
          rw [e, sv F h hh, sv F' h' hh', f1, f2, gv]
          have hd1 : dl b.2.toNat P1 = 1 := if_pos e.symm
          have hd2 : dl b.2.toNat R1 ≤ 1 := by unfold dl; split <;> omega
          have := Int.mul_nonneg hD (show 0 ≤ dl b.2.toNat P1 - dl b.2.toNat R1 by omega)
          have := loss_mono hres (show (backL cs r s).2.getD b.2.toNat 0 ≤ (backL cs r s).2.getD b.2.toNat 0 + D * (dl b.2.toNat P1 - dl b.2.toNat R1) by omega)
          omega
        · rw [if_neg e] at hP
          rw [so F h P1 e, so F' h' P1 e]
          exact hP
      · by_cases e : R1 = b.2.toNat
        · rw [if_pos e] at hR
          rw [e, sv F h hh, sv F' h' hh', f1, f2, gv]
          have hd1 : dl b.2.toNat R1 = 1 := if_pos e.symm
          have hd2 : dl b.2.toNat P1 ≤ 1 := by unfold dl; split <;> omega
          have := Int.mul_nonneg hD (show 0 ≤ dl b.2.toNat R1 - dl b.2.toNat P1 by omega)
          have e3 : D * (dl b.2.toNat P1 - dl b.2.toNat R1) = -(D * (dl b.2.toNat R1 - dl b.2.toNat P1)) := by
            rw [← Int.mul_neg]; congr 1; omega
          have := loss_mono hres (show (backL cs r s).2.getD b.2.toNat 0 + D * (dl b.2.toNat P1 - dl b.2.toNat R1) ≤ (backL cs r s).2.getD b.2.toNat 0 by omega)
          omega
        · rw [if_neg e] at hR
          rw [so F h R1 e, so F' h' R1 e]
          exact hR
end

theorem st0_diff {N : Net} {c q q' : Int} (hr : inR N.ns.length N.cs) (hc0 : 0 ≤ c) (hc : c < N.cs.length) (hne : (N.cs.getD c.toNat cn0).fr ≠ (N.cs.getD c.toNat cn0).to) (u : Nat) :
    (st0 N c q').2.getD u 0 = (st0 N c q).2.getD u 0 + (q' - q) * (dl u (N.cs.getD c.toNat cn0).fr.toNat - dl u (N.cs.getD c.toNat cn0).to.toNat) := by
  have he := hr (N.cs.getD c.toNat cn0) (mem_getD (by omega))
  have hn : (N.cs.getD c.toNat cn0).to.toNat ≠ (N.cs.getD c.toNat cn0).fr.toNat := by omega
  have hl := drawsL_len N
  have hv : ∀ q : Int, ((drawsL N).set (N.cs.getD c.toNat cn0).fr.toNat ((drawsL N).getD (N.cs.getD c.toNat cn0).fr.toNat 0 + q)).getD (N.cs.getD c.toNat cn0).to.toNat 0 = (drawsL N).getD (N.cs.getD c.toNat cn0).to.toNat 0 := fun q => by
    rw [getD_setI, if_neg (fun h => hn h.1)]
  have hx : ∀ q : Int, (st0 N c q).2.getD u 0 = if u = (N.cs.getD c.toNat cn0).to.toNat then (drawsL N).getD u 0 - q else if u = (N.cs.getD c.toNat cn0).fr.toNat then (drawsL N).getD u 0 + q else (drawsL N).getD u 0 := fun q => by
    unfold st0
    rw [if_neg (by omega)]
    show (((drawsL N).set _ _).set _ _).getD u 0 = _
    rw [hv, getD_setI, getD_setI]
    by_cases h1 : u = (N.cs.getD c.toNat cn0).to.toNat
    · rw [if_pos ⟨h1, by rw [List.length_set]; omega⟩, if_pos h1, ← h1]
    · rw [if_neg (fun h => h1 h.1), if_neg h1]
      by_cases h2 : u = (N.cs.getD c.toNat cn0).fr.toNat
      · rw [if_pos ⟨h2, by omega⟩, if_pos h2, ← h2]
      · rw [if_neg (fun h => h2 h.1), if_neg h2]
  rw [hx, hx]
  unfold dl
  by_cases h1 : u = (N.cs.getD c.toNat cn0).to.toNat
  · rw [if_pos h1, if_pos h1, if_neg (by omega), if_pos h1]
    omega
  · rw [if_neg h1, if_neg h1, if_neg h1]
    by_cases h2 : u = (N.cs.getD c.toNat cn0).fr.toNat
    · rw [if_pos h2, if_pos h2, if_pos h2]; omega
    · rw [if_neg h2, if_neg h2, if_neg h2]; omega

/-- The gap never decreases with the circulation. -/
theorem gap_mono {N : Net} {b : List (Int × Int)} {c q q' : Int} (hS : StOk N b c) (hc : 0 ≤ c) (hne : (N.cs.getD c.toNat cn0).fr ≠ (N.cs.getD c.toNat cn0).to) (h : q ≤ q') : gapF N b c q ≤ gapF N b c q' := by
  have hcl := hS.cl
  obtain ⟨P, R, _, _, g⟩ := tok (fun c hc => (hS.res c hc).1) hS.ends (q' - q) (by omega) b (lakesB N) (st0 N c q) (st0 N c q') _ _ (lakesB_len N) (st0_len0 N c q) (st0_len0 N c q') (st0_len1 N c q) (st0_len1 N c q') hS.tr (st0_diff hS.ends hc hcl hne)
  have := g (backL N.cs b (st0 N c q)).1 (backL N.cs b (st0 N c q')).1 (headsL N) (headsL N) (headsL_len N) (headsL_len N) (fun _ _ => rfl) (fun _ _ => rfl) (Int.le_refl _) (Int.le_refl _)
  have hl := loss_mono (hS.res (N.cs.getD c.toNat cn0) (mem_getD (by omega))).1 h
  unfold gapF stateF
  simp only
  omega
end Go.Tr

/- Plain: the closing conduit, and what holds in a state. Conditions: none. -/
namespace Go.Tr
open Go Go.Proofs
set_option maxRecDepth 20000
set_option maxHeartbeats 8000000

theorem closeF_keep (T : List Int) : ∀ (l : List Cn) (k : Nat) (o : Int), 0 ≤ o → (closeF T k l o).2 = 0 → (closeF T k l o).1 = o ∧ ∀ j, j < l.length → (l.getD j cn0).opn = true → T.contains ((k + j : Nat) : Int) = true
  | [], k, o, ho, h => ⟨rfl, fun j hj => by simp at hj⟩
  | c :: r, k, o, ho, h => by
    rw [closeF] at h ⊢
    by_cases e : c.opn = false ∨ T.contains (k : Int) = true
    · rw [if_pos e] at h ⊢
      have ih := closeF_keep T r (k + 1) o ho h
      refine ⟨ih.1, fun j hj hop => ?_⟩
      cases j with
      | zero =>
        rcases e with e | e
        · rw [List.getD_cons_zero, e] at hop; cases hop
        · exact e
      | succ j =>
        have := ih.2 j (by simpa using hj) (by simpa using hop)
        rwa [show k + (j + 1) = k + 1 + j by omega]
    · rw [if_neg e, if_pos ho] at h
      exact absurd (show (8 : Int) = 0 from h) (by decide)
theorem closeF_all (T : List Int) : ∀ (l : List Cn) (k : Nat), (closeF T k l (-1)).2 = 0 →
    (∀ j, j < l.length → (l.getD j cn0).opn = true → T.contains ((k + j : Nat) : Int) = false → (closeF T k l (-1)).1 = (k + j : Nat)) ∧
    (0 ≤ (closeF T k l (-1)).1 → ∃ j, j < l.length ∧ (closeF T k l (-1)).1 = (k + j : Nat) ∧ (l.getD j cn0).opn = true ∧ T.contains ((k + j : Nat) : Int) = false)
  | [], k, h => ⟨fun j hj => by simp at hj, fun h0 => by rw [closeF] at h0; exact absurd h0 (by decide)⟩
  | c :: r, k, h => by
    rw [closeF] at h ⊢
    by_cases e : c.opn = false ∨ T.contains (k : Int) = true
    · rw [if_pos e] at h ⊢
      have ih := closeF_all T r (k + 1) h
      refine ⟨fun j hj hop ht => ?_, fun h0 => ?_⟩
      · cases j with
        | zero =>
          rw [List.getD_cons_zero] at hop
          rw [Nat.add_zero] at ht
          rcases e with e | e
          · rw [e] at hop; cases hop
          · rw [e] at ht; cases ht
        | succ j =>
          have := ih.1 j (by simpa using hj) (by simpa using hop) (by rwa [show k + 1 + j = k + (j + 1) by omega])
          rw [this, show k + 1 + j = k + (j + 1) by omega]
      · obtain ⟨j, a, b, c, d⟩ := ih.2 h0
        refine ⟨j + 1, by simpa using a, ?_, by simpa using c, ?_⟩
        · rw [b, show k + 1 + j = k + (j + 1) by omega]
        · rwa [show k + (j + 1) = k + 1 + j by omega]
    · rw [if_neg e, if_neg (by decide)] at h ⊢
      have kp := closeF_keep T r (k + 1) k (by omega) h
      have ho : c.opn = true := by
        cases hc : c.opn with
        | true => rfl
        | false => exact absurd (.inl hc) e
      have ht : T.contains (k : Int) = false := by
        cases hc : T.contains (k : Int) with
        | false => rfl
        | true => exact absurd (.inr hc) e
      refine ⟨fun j hj hop hn => ?_, fun h0 => ⟨0, by simp, kp.1, ho, ht⟩⟩
      cases j with
      | zero => exact kp.1
      | succ j =>
        have := kp.2 j (by simpa using hj) (by simpa using hop)
        rw [show k + 1 + j = k + (j + 1) by omega] at this
        rw [this] at hn; cases hn
theorem not_contains {l : List (Int × Int)} {x : Int} (h : (l.map (·.1)).contains x = false) : ∀ b ∈ l, b.1 ≠ x := fun b hb e => by
  have : (l.map (·.1)).contains x = true := by
    rw [List.contains_iff_mem]; exact List.mem_map.2 ⟨b, hb, e⟩
  rw [this] at h; cases h
theorem is_contains {l : List (Int × Int)} {x : Int} (h : (l.map (·.1)).contains x = true) : ∃ b ∈ l, b.1 = x := by
  rw [List.contains_iff_mem] at h
  exact List.mem_map.1 h
/-- What the form says of a net. -/
theorem form_ok {N : Net} (hok : N.Ok) (h : (clF N).2 = 0) :
    (∀ u, u < N.ns.length → (afterF (lakesB N) (brF N)).getD u false = true) ∧
    (∀ j, j < N.cs.length → (N.cs.getD j cn0).opn = true → (∀ b ∈ brF N, b.1 ≠ j) → (clF N).1 = j) ∧
    (0 ≤ (clF N).1 → (N.cs.getD (clF N).1.toNat cn0).opn = true ∧ ∀ b ∈ brF N, b.1 ≠ (clF N).1) := by
  unfold clF at h ⊢
  by_cases hg : gapE N = true
  · rw [if_pos hg] at h; exact absurd h (by decide)
  · rw [if_neg hg] at h ⊢
    have ha := closeF_all _ _ _ h
    refine ⟨fun u hu => ?_, fun j hj ho hb => ?_, fun h0 => ?_⟩
    · have hl := (treeF_len hok.ends).1
      have ht := (brF_tree hok.ends).2
      unfold gapE at hg
      rw [ht] at hg hl
      cases e : (afterF (lakesB N) (brF N)).getD u false with
      | true => rfl
      | false =>
        refine absurd ?_ hg
        rw [List.contains_iff_mem]
        have hu' : u < (afterF (lakesB N) (brF N)).length := by omega
        rw [List.getD_eq_getElem?_getD, List.getElem?_eq_getElem hu', Option.getD_some] at e
        rw [← e]; exact List.getElem_mem hu'
    · have := ha.1 j hj ho (by
        rw [Nat.zero_add]
        cases e : ((brF N).map (·.1)).contains (j : Int) with
        | false => rfl
        | true =>
          obtain ⟨b, hb1, hb2⟩ := is_contains e
          exact absurd hb2 (hb b hb1))
      rw [this, Nat.zero_add]
    · obtain ⟨j, a, b, c, d⟩ := ha.2 h0
      rw [Nat.zero_add] at b d
      rw [b, Int.toNat_natCast]
      exact ⟨c, not_contains d⟩
/-- A sum of sizes, after a change. -/
theorem sumA_set : ∀ (d : List Int) (k : Nat) (x : Int), sumA (d.set k (d.getD k 0 + x)) ≤ sumA d + absI x
  | [], k, x => by simp [sumA]; exact absI_nonneg x
  | a :: r, 0, x => by
    have := absI_add a x
    simp only [List.set_cons_zero, List.getD_cons_zero, sumA, List.map_cons, List.sum_cons]
    omega
  | a :: r, k + 1, x => by
    have := sumA_set r k x
    simp only [List.set_cons_succ, List.getD_cons_succ]
    unfold sumA at this ⊢
    simp only [List.map_cons, List.sum_cons]
    omega
theorem st0_sum' {N : Net} {b : List (Int × Int)} {c q : Int} (hS : StOk N b c) (hq : -200000 ≤ q ∧ q ≤ 200000) : sumA (st0 N c q).2 ≤ 500000 := by
  have h := sumA_le (B := 10000) (drawsL N) fun i => absI_of (drawsL_bd hS.dr i)
  rw [drawsL_len] at h
  have := hS.n1
  have ha : absI q ≤ 200000 := absI_of hq
  have hb : absI (-q) ≤ 200000 := absI_of (by omega)
  unfold st0
  split
  · show sumA (drawsL N) ≤ _
    omega
  · have h1 := sumA_set (drawsL N) (N.cs.getD c.toNat cn0).fr.toNat q
    have h2 := sumA_set ((drawsL N).set (N.cs.getD c.toNat cn0).fr.toNat ((drawsL N).getD (N.cs.getD c.toNat cn0).fr.toNat 0 + q)) (N.cs.getD c.toNat cn0).to.toNat (-q)
    show sumA (((drawsL N).set _ _).set _ (_ - q)) ≤ _
    rw [Int.sub_eq_add_neg]
    omega
theorem st0_fl' {N : Net} {c q : Int} (hq : -200000 ≤ q ∧ q ≤ 200000) (i : Nat) : -500000 ≤ (st0 N c q).1.getD i 0 ∧ (st0 N c q).1.getD i 0 ≤ 500000 := by
  have hz : ∀ i, -500000 ≤ (List.replicate N.cs.length (0 : Int)).getD i 0 ∧ (List.replicate N.cs.length (0 : Int)).getD i 0 ≤ 500000 := fun i => by
    have e : (List.replicate N.cs.length (0 : Int)).getD i 0 = 0 := by
      simp only [List.getD_eq_getElem?_getD, List.getElem?_replicate]; split <;> rfl
    omega
  unfold st0
  split
  · exact hz i
  · exact set_bdI hz (by omega) i
theorem inflow_zero : ∀ (cs : List Cn) (n : Nat) (u : Nat), inflow cs (List.replicate n 0) u = 0
  | [], n, u => by cases n <;> rfl
  | c :: r, 0, u => rfl
  | c :: r, n + 1, u => by rw [List.replicate_succ, inflow, inflow_zero r n u]; omega
theorem st0_z {N : Net} {c q : Int} {i : Nat} (h : (i : Int) ≠ c) : (st0 N c q).1.getD i 0 = 0 := by
  have e : (List.replicate N.cs.length (0 : Int)).getD i 0 = 0 := by
    simp only [List.getD_eq_getElem?_getD, List.getElem?_replicate]; split <;> rfl
  unfold st0
  split
  · exact e
  · show ((List.replicate N.cs.length (0 : Int)).set c.toNat q).getD i 0 = 0
    rw [getD_setI, if_neg (fun h => by omega)]; exact e
theorem st0_in {N : Net} {c q : Int} (hr : inR N.ns.length N.cs) (hc : c < N.cs.length) (hne : 0 ≤ c → (N.cs.getD c.toNat cn0).fr ≠ (N.cs.getD c.toNat cn0).to) (u : Nat) :
    inflow N.cs (st0 N c q).1 u + (st0 N c q).2.getD u 0 = (drawsL N).getD u 0 := by
  by_cases h0 : 0 ≤ c
  · have hd := st0_diff (q := 0) (q' := q) hr h0 hc (hne h0) u
    have hz : (st0 N c 0).2.getD u 0 = (drawsL N).getD u 0 := by
      unfold st0
      rw [if_neg (by omega)]
      show (((drawsL N).set _ (_ + 0)).set _ (_ - 0)).getD u 0 = _
      have he := hr (N.cs.getD c.toNat cn0) (mem_getD (by omega))
      have := drawsL_len N
      rw [getD_setI]
      split
      · next h => rw [Int.sub_zero, Int.add_zero, ← h.1, getD_setI]; split
                  · next h => rw [← h.1]
                  · rfl
      · rw [Int.add_zero, getD_setI]
        split
        · next h => rw [← h.1]
        · rfl
    rw [hd, hz]
    have e : (st0 N c q).1 = (List.replicate N.cs.length 0).set c.toNat q := by unfold st0; rw [if_neg (by omega)]
    have e0 : (List.replicate N.cs.length (0 : Int)).getD c.toNat 0 = 0 := by
      simp only [List.getD_eq_getElem?_getD, List.getElem?_replicate]; split <;> rfl
    rw [e, inflow_set _ _ _ _ _ (by simp) (by omega), inflow_zero, e0]
    unfold dl
    have f : ∀ v : Nat, (if v = u then (1 : Int) else 0) = if u = v then 1 else 0 := fun v => by
      by_cases h : v = u
      · rw [if_pos h, if_pos h.symm]
      · rw [if_neg h, if_neg (fun e => h e.symm)]
    rw [f, f, Int.sub_zero]
    have := Int.mul_sub q (if u = (N.cs.getD c.toNat cn0).to.toNat then (1 : Int) else 0) (if u = (N.cs.getD c.toNat cn0).fr.toNat then 1 else 0)
    have := Int.mul_sub q (if u = (N.cs.getD c.toNat cn0).fr.toNat then (1 : Int) else 0) (if u = (N.cs.getD c.toNat cn0).to.toNat then 1 else 0)
    omega
  · have e : st0 N c q = (List.replicate N.cs.length 0, drawsL N) := by unfold st0; rw [if_pos (by omega)]
    rw [e, inflow_zero]
    show 0 + (drawsL N).getD u 0 = _
    omega

/-- What WaterKept asks of a state. -/
structure Kept (N : Net) (q : Int) (s : List Int × List Int) : Prop where
  l1 : s.1.length = N.cs.length
  l2 : s.2.length = N.ns.length
  bd : ∀ i, -1000000 ≤ s.1.getD i 0 ∧ s.1.getD i 0 ≤ 1000000
  shut : ∀ i, i < N.cs.length → (N.cs.getD i cn0).opn = false → s.1.getD i 0 = 0
  cl : ∀ i, i < N.cs.length → (i : Int) = (clF N).1 → s.1.getD i 0 = q
  hd : ∀ i, -180000000000000000 ≤ s.2.getD i 0 ∧ s.2.getD i 0 ≤ 180000000000000000
  loss : ∀ i, i < N.cs.length → (N.cs.getD i cn0).opn = true → (i : Int) ≠ (clF N).1 → s.2.getD (N.cs.getD i cn0).fr.toNat 0 - s.2.getD (N.cs.getD i cn0).to.toNat 0 = lossF (N.cs.getD i cn0).res (s.1.getD i 0)
  lake : ∀ u, u < N.ns.length → (N.ns.getD u nd0).lake = true → s.2.getD u 0 = 1000 * (N.ns.getD u nd0).head
  draw : ∀ u, u < N.ns.length → (N.ns.getD u nd0).lake = false → inflow N.cs s.1 u = (N.ns.getD u nd0).draw
theorem kept_ok {N : Net} {q : Int} (hok : N.Ok) (h : (clF N).2 = 0) (hq : -200000 ≤ q ∧ q ≤ 200000) : Kept N q (stateF N (brF N) (clF N).1 q) := by
  have hS := stOk hok
  have hl := state_len N (brF N) (clF N).1 q
  obtain ⟨hf1, hf2, hf3⟩ := form_ok hok h
  have hrg := tree_range (brF N) _ hS.tr
  have hlk : ∀ u, u < N.ns.length → (lakesB N).getD u false = (N.ns.getD u nd0).lake := fun u hu =>
    lakesB_getD N u hu
  have hz : ∀ b ∈ brF N, (st0 N (clF N).1 q).1.getD b.1.toNat 0 = 0 := fun b hb => st0_z fun e => by
    have := hrg b hb
    have := (hf3 (by omega)).2 b hb
    omega
  refine ⟨hl.1, hl.2, fun i => ?_, fun i hi ho => ?_, fun i hi he => ?_, fun i => (state_bd hS hq i).2, fun i hi ho he => ?_, fun u hu hu1 => ?_, fun u hu hu1 => ?_⟩
  · have := back_flow (brF N) _ (st0 N (clF N).1 q) (lakesB_len N) (st0_len1 N _ q) hS.tr (st0_sum' hS hq) (st0_fl' hq) i
    unfold stateF
    simp only
    omega
  · unfold stateF
    show (backL N.cs (brF N) _).1.getD i 0 = 0
    rw [back_other _ _ i (fun b hb => (hrg b hb).1) (fun b hb e => by
      have := (hrg b hb).2.2.2.2
      rw [e, Int.toNat_natCast, ho] at this
      cases this)]
    exact st0_z fun e => by
      have := (hf3 (by omega)).1
      rw [← e, Int.toNat_natCast, ho] at this
      cases this
  · unfold stateF
    show (backL N.cs (brF N) _).1.getD i 0 = q
    have h0 : 0 ≤ (clF N).1 := by omega
    rw [back_other _ _ i (fun b hb => (hrg b hb).1) (fun b hb e => (hf3 h0).2 b hb (by omega))]
    unfold st0
    rw [if_neg (by omega)]
    show ((List.replicate N.cs.length (0 : Int)).set (clF N).1.toNat q).getD i 0 = q
    rw [getD_setI, if_pos ⟨by omega, by simp; omega⟩]
  · by_cases hb : ∀ b ∈ brF N, b.1 ≠ i
    · exact absurd (hf2 i hi ho hb).symm he
    · have hx : ∃ b ∈ brF N, b.1 = (i : Int) := Classical.byContradiction fun hn => hb fun b h1 h2 => hn ⟨b, h1, h2⟩
      obtain ⟨b, hb1, hbi⟩ := hx
      have := fore_loss (n := N.ns.length) (cs := N.cs) (f := (backL N.cs (brF N) (st0 N (clF N).1 q)).1) (brF N) _ (headsL N) (lakesB_len N) (headsL_len N) hS.tr b hb1
      rw [hbi, Int.toNat_natCast] at this
      exact this
  · have := fore_keep (n := N.ns.length) (cs := N.cs) (f := (backL N.cs (brF N) (st0 N (clF N).1 q)).1) (brF N) _ (headsL N) u hS.tr (by rw [hlk u hu, hu1])
    rw [headsL_getD N u hu] at this
    exact this
  · have := (kept (n := N.ns.length) (cs := N.cs) (brF N) _ (st0 N (clF N).1 q) (lakesB_len N) (st0_len0 N _ q) (st0_len1 N _ q) hok.ends hS.tr hz u hu).2 (by rw [hlk u hu, hu1]) (hf1 u hu)
    have h2 := st0_in (q := q) hok.ends hS.cl (fun h0 => (hok.con _ (mem_getD (by have := hS.cl; omega))).1) u
    rw [drawsL_getD N u hu] at h2
    unfold stateF
    simp only
    omega
end Go.Tr

/- Plain: what a branch carries is the sum over the branches that climb to its node. Conditions: none. -/
namespace Go.Tr
open Go Go.Proofs
set_option maxRecDepth 20000
set_option maxHeartbeats 8000000

section
variable {n : Nat} {cs : List Cn}
/-- The node where one comes out who climbs from a node until the branches of a list are behind. -/
def rootOf (cs : List Cn) : List (Int × Int) → Int → Int
  | [], u => u
  | b :: r, u => if rootOf cs r u = b.2 then otherN (cs.getD b.1.toNat cn0) b.2 else rootOf cs r u
def sumRt (g : Int → Int) (w : Int) (D : List Int) : List (Int × Int) → Int
  | [] => 0
  | x :: r => (if g x.2 = w then D.getD x.2.toNat 0 else 0) + sumRt g w D r
theorem mark_mono {m : List Bool} {v u : Nat} (h : m.getD u false = true) : (m.set v true).getD u false = true := by
  rw [getD_set]; split
  · rfl
  · exact h
theorem root_fix : ∀ (l : List (Int × Int)) (m : List Bool) (u : Int), TreeOk n cs m l → m.getD u.toNat false = true → rootOf cs l u = u
  | [], m, u, _, _ => rfl
  | b :: r, m, u, ht, h => by
    have ih := root_fix r _ u ht.2 (mark_mono h)
    rw [rootOf, ih, if_neg]
    intro e
    have hn := ht.1.new
    rw [← e, h] at hn
    cases hn
theorem root_up : ∀ (l : List (Int × Int)) (m : List Bool), m.length = n → TreeOk n cs m l → ∀ b ∈ l, rootOf cs l b.2 = rootOf cs l (otherN (cs.getD b.1.toNat cn0) b.2)
  | [], m, _, _, b, hb => by simp at hb
  | x :: r, m, hm, ht, b, hb => by
    rcases List.mem_cons.1 hb with rfl | hb
    · have hB := ht.1
      have v0 := hB.v0; have v1 := hB.v1
      have e1 : rootOf cs r b.2 = b.2 := root_fix r _ _ ht.2 (by rw [getD_set, if_pos]; exact ⟨rfl, by omega⟩)
      have e2 := root_fix r _ (otherN (cs.getD b.1.toNat cn0) b.2) ht.2 (mark_mono hB.old)
      have hne : ¬ otherN (cs.getD b.1.toNat cn0) b.2 = b.2 := fun e => by
        have h1 := hB.old
        rw [e, hB.new] at h1
        cases h1
      rw [rootOf, rootOf, e1, e2, if_pos rfl, if_neg hne]
    · have ih := root_up r _ (by simpa using hm) ht.2 b hb
      rw [rootOf, rootOf, ih]
theorem sum_split {g : Int → Int} {v o w : Int} {D : List Int} (h : w ≠ v) : ∀ l : List (Int × Int), sumRt (fun u => if g u = v then o else g u) w D l = sumRt g w D l + (if o = w then sumRt g v D l else 0)
  | [] => by simp [sumRt]
  | x :: r => by
    have ih := sum_split (g := g) (o := o) (D := D) h r
    simp only [sumRt]
    rw [ih]
    by_cases e : g x.2 = v
    · have e3 : ¬ g x.2 = w := by omega
      by_cases e2 : o = w
      · simp only [if_pos e, if_pos e2, if_neg e3]; omega
      · simp only [if_pos e, if_neg e2, if_neg e3]; omega
    · by_cases e2 : o = w
      · simp only [if_neg e, if_pos e2]; omega
      · simp only [if_neg e, if_neg e2]; omega
/-- What stands at a node ahead of the branches. -/
theorem back_root : ∀ (l : List (Int × Int)) (m : List Bool) (s : List Int × List Int), m.length = n → s.2.length = n → TreeOk n cs m l → ∀ w : Int, 0 ≤ w → m.getD w.toNat false = true →
    (backL cs l s).2.getD w.toNat 0 = s.2.getD w.toNat 0 + sumRt (rootOf cs l) w s.2 l
  | [], m, s, _, _, _, w, _, _ => by simp [backL, sumRt]
  | b :: r, m, s, hm, hs, ht, w, hw, h => by
    have hB := ht.1
    have v0 := hB.v0; have v1 := hB.v1; have o0 := hB.o0; have o1 := hB.o1
    have ih := fun w hw h => back_root r (m.set b.2.toNat true) s (by simpa using hm) hs ht.2 w hw h
    have hv : (m.set b.2.toNat true).getD b.2.toNat false = true := by rw [getD_set, if_pos]; exact ⟨rfl, by omega⟩
    have iw := ih w hw (mark_mono h)
    have iv := ih b.2 v0 hv
    have io := ih _ o0 (mark_mono hB.old)
    have hl := (backL_len cs r s).2
    have hwv : w ≠ b.2 := fun e => by
      have hn := hB.new
      rw [← e, h] at hn
      cases hn
    have e1 : rootOf cs (b :: r) b.2 = otherN (cs.getD b.1.toNat cn0) b.2 := by
      rw [rootOf, root_fix r _ _ ht.2 hv, if_pos rfl]
    have e2 : rootOf cs (b :: r) = fun u => if rootOf cs r u = b.2 then otherN (cs.getD b.1.toNat cn0) b.2 else rootOf cs r u := by funext u; rw [rootOf]
    have e3 := sum_split (g := rootOf cs r) (o := otherN (cs.getD b.1.toNat cn0) b.2) (D := s.2) hwv r
    rw [sumRt, e1, e2, e3]
    show ((backL cs r s).2.set _ _).getD w.toNat 0 = _
    rw [getD_setI]
    by_cases e : otherN (cs.getD b.1.toNat cn0) b.2 = w
    · rw [if_pos ⟨by rw [e], by omega⟩, if_pos e, if_pos e, io, iv, e]
      omega
    · rw [if_neg (fun h => e (by omega)), if_neg e, if_neg e, iw]
      omega
end
end Go.Tr

/- Plain: who climbs through a branch, and the reference's flows. Conditions: none. -/
namespace Go.Tr
open Go Go.Proofs
set_option maxRecDepth 20000
set_option maxHeartbeats 8000000

/-- The place of a number, or -1. -/
def atF (x : Int) : Nat → List Int → Int
  | _, [] => -1
  | k, y :: r => if y = x then (k : Int) else atF x (k + 1) r
theorem atF_spec (x : Int) : ∀ (l : List Int) (k : Nat), (atF x k l = -1 ∧ ∀ i, i < l.length → l.getD i 0 ≠ x) ∨ ∃ i, i < l.length ∧ atF x k l = (k + i : Nat) ∧ l.getD i 0 = x
  | [], k => .inl ⟨rfl, fun i h => absurd h (Nat.not_lt_zero i)⟩
  | y :: r, k => by
    rw [atF]
    by_cases e : y = x
    · rw [if_pos e]; exact .inr ⟨0, by simp, rfl, e⟩
    · rw [if_neg e]
      rcases atF_spec x r (k + 1) with ⟨h1, h2⟩ | ⟨i, h1, h2, h3⟩
      · refine .inl ⟨h1, fun i hi => ?_⟩
        cases i with
        | zero => exact e
        | succ i => exact h2 i (by simpa using hi)
      · exact .inr ⟨i + 1, by simpa using h1, by rw [h2, show k + 1 + i = k + (i + 1) by omega], h3⟩

section
variable {n : Nat} {cs : List Cn}
theorem afterF_or : ∀ (l : List (Int × Int)) (m : List Bool) (u : Nat), (afterF m l).getD u false = true → m.getD u false = true ∨ ∃ b ∈ l, b.2.toNat = u
  | [], m, u, h => .inl h
  | b :: r, m, u, h => by
    rcases afterF_or r (m.set b.2.toNat true) u h with h1 | ⟨x, h1, h2⟩
    · rw [getD_set] at h1
      split at h1
      · rename_i e; exact .inr ⟨b, by simp, e.1.symm⟩
      · exact .inl h1
    · exact .inr ⟨x, by simp [h1], h2⟩
theorem afterF_mem : ∀ (l : List (Int × Int)) (m : List Bool), m.length = n → TreeOk n cs m l → ∀ b ∈ l, (afterF m l).getD b.2.toNat false = true
  | [], m, _, _, b, hb => by simp at hb
  | x :: r, m, hm, ht, b, hb => by
    have v0 := ht.1.v0; have v1 := ht.1.v1
    rcases List.mem_cons.1 hb with rfl | hb
    · refine afterF_mono r _ _ ?_
      rw [getD_set, if_pos]; exact ⟨rfl, by omega⟩
    · exact afterF_mem r _ (by simpa using hm) ht.2 b hb
theorem getD_memR {l : List (Int × Int)} {i : Nat} (h : i < l.length) : l.getD i (0, 0) ∈ l := by simp [List.getD_eq_getElem?_getD, h]
theorem take_mem {l : List (Int × Int)} {i j : Nat} (h : i < j) (hi : i < l.length) : l.getD i (0, 0) ∈ l.take j := by
  rw [List.getD_eq_getElem?_getD, List.getElem?_eq_getElem hi, Option.getD_some]
  rw [List.mem_take_iff_getElem]
  exact ⟨i, by omega, rfl⟩
theorem tree_take : ∀ (l : List (Int × Int)) (m : List Bool) (i : Nat), TreeOk n cs m l → TreeOk n cs m (l.take i)
  | [], m, i, _ => by simp [TreeOk]
  | b :: r, m, 0, _ => trivial
  | b :: r, m, i + 1, h => ⟨h.1, tree_take r _ i h.2⟩
/-- A node that came in is marked from then on. -/
theorem mark_later {m : List Bool} {b : List (Int × Int)} (hm : m.length = n) (ht : TreeOk n cs m b) {i j : Nat} (h : i < j) (hi : i < b.length) : (afterF m (b.take j)).getD (b.getD i (0, 0)).2.toNat false = true :=
  afterF_mem _ _ hm (tree_take b m j ht) _ (take_mem h hi)
theorem node_ne {m : List Bool} {b : List (Int × Int)} (hm : m.length = n) (ht : TreeOk n cs m b) {i j : Nat} (h : i < j) (hj : j < b.length) : (b.getD i (0, 0)).2 ≠ (b.getD j (0, 0)).2 := fun e => by
  have h1 := (tree_at b m j ht hj).1.new
  have h2 := mark_later hm ht h (by omega)
  rw [e, h1] at h2
  cases h2
theorem map_snd_getD (b : List (Int × Int)) (i : Nat) : (b.map (·.2)).getD i 0 = (b.getD i (0, 0)).2 := by
  simp only [List.getD_eq_getElem?_getD, List.getElem?_map]
  cases b[i]? <;> rfl
theorem map_fst_getD (b : List (Int × Int)) (i : Nat) : (b.map (·.1)).getD i 0 = (b.getD i (0, 0)).1 := by
  simp only [List.getD_eq_getElem?_getD, List.getElem?_map]
  cases b[i]? <;> rfl
theorem mem_dropR {b : List (Int × Int)} {i j : Nat} (h : j < i) (hi : i < b.length) : b.getD i (0, 0) ∈ b.drop (j + 1) := by
  rw [List.getD_eq_getElem?_getD, List.getElem?_eq_getElem hi, Option.getD_some, List.mem_drop_iff_getElem]
  refine ⟨i - (j + 1), by omega, ?_⟩
  congr 1; omega
/-- One step of a climb. -/
theorem through_step {m : List Bool} {b : List (Int × Int)} (hm : m.length = n) (ht : TreeOk n cs m b) {j s : Nat} (hj : j < s) (hs : s < b.length) :
    (-1 ≤ atF (otherN (cs.getD (b.getD s (0, 0)).1.toNat cn0) (b.getD s (0, 0)).2) 0 (b.map (·.2)) ∧ atF (otherN (cs.getD (b.getD s (0, 0)).1.toNat cn0) (b.getD s (0, 0)).2) 0 (b.map (·.2)) < s) ∧
    ((j < atF (otherN (cs.getD (b.getD s (0, 0)).1.toNat cn0) (b.getD s (0, 0)).2) 0 (b.map (·.2)) ∧ rootOf cs (b.drop (j + 1)) (b.getD (atF (otherN (cs.getD (b.getD s (0, 0)).1.toNat cn0) (b.getD s (0, 0)).2) 0 (b.map (·.2))).toNat (0, 0)).2 = rootOf cs (b.drop (j + 1)) (b.getD s (0, 0)).2) ∨
      (atF (otherN (cs.getD (b.getD s (0, 0)).1.toNat cn0) (b.getD s (0, 0)).2) 0 (b.map (·.2)) ≤ j ∧ (rootOf cs (b.drop (j + 1)) (b.getD s (0, 0)).2 = (b.getD j (0, 0)).2 ↔ atF (otherN (cs.getD (b.getD s (0, 0)).1.toNat cn0) (b.getD s (0, 0)).2) 0 (b.map (·.2)) = j))) := by
  have hB := (tree_at b m s ht hs).1
  have hBj := (tree_at b m j ht (by omega)).1
  have htj := (tree_at b m j ht (by omega)).2
  have o0 := hB.o0
  have ho := hB.old
  have hup := root_up (b.drop (j + 1)) _ (by rw [afterF_len]; exact hm) htj _ (mem_dropR hj hs)
  generalize otherN (cs.getD (b.getD s (0, 0)).1.toNat cn0) (b.getD s (0, 0)).2 = o at *
  rw [hup]
  have jv0 := hBj.v0
  rcases atF_spec o (b.map (·.2)) 0 with ⟨h1, h2⟩ | ⟨i, h1, h2, h3⟩
  · rw [h1]
    refine ⟨⟨by omega, by omega⟩, .inr ⟨by omega, ?_⟩⟩
    have hne : ∀ i, i < b.length → (b.getD i (0, 0)).2 ≠ o := fun i hi => by
      have := h2 i (by simpa using hi)
      rwa [map_snd_getD] at this
    have hmk : m.getD o.toNat false = true := by
      rcases afterF_or _ _ _ ho with h | ⟨x, hx, he⟩
      · exact h
      · obtain ⟨i, hi, hxi⟩ := List.mem_take_iff_getElem.1 hx
        have hlt : i < b.length := by omega
        have e : b.getD i (0, 0) = x := by rw [List.getD_eq_getElem?_getD, List.getElem?_eq_getElem hlt, Option.getD_some]; exact hxi
        have r := (tree_range b m ht _ (getD_memR hlt)).2.2.1
        rw [← e] at he
        exact absurd (by omega) (hne i hlt)
    rw [root_fix _ _ o htj (afterF_mono _ _ _ hmk)]
    exact ⟨fun e => absurd e.symm (hne j (by omega)), fun e => by omega⟩
  · rw [h2]
    rw [map_snd_getD] at h3
    have hi : i < b.length := by simpa using h1
    have his : i < s := by
      rcases Nat.lt_or_ge i s with h | h
      · exact h
      · have hn := (tree_at b m i ht hi).1.new
        rw [h3] at hn
        have hk : (afterF m (b.take i)).getD o.toNat false = true := by
          have e : b.take i = b.take s ++ (b.take i).drop s := by
            have := List.take_append_drop s (b.take i)
            rw [List.take_take, Nat.min_eq_left h] at this
            exact this.symm
          rw [e]
          unfold afterF
          rw [List.foldl_append]
          exact afterF_mono _ _ _ ho
        rw [hk] at hn; cases hn
    rw [Nat.zero_add]
    refine ⟨⟨by omega, by omega⟩, ?_⟩
    rcases Nat.lt_trichotomy j i with h | h | h
    · refine .inl ⟨by omega, ?_⟩
      rw [Int.toNat_natCast, h3]
    · subst h
      refine .inr ⟨by omega, fun _ => rfl, fun _ => ?_⟩
      rw [← h3]
      exact root_fix _ _ _ htj (mark_later hm ht (by omega) (by omega))
    · refine .inr ⟨by omega, fun e => ?_, fun e => by omega⟩
      have hf := root_fix _ _ (b.getD i (0, 0)).2 htj (mark_later hm ht (by omega) (by omega))
      rw [← h3, hf] at e
      exact absurd e (node_ne hm ht h (by omega))

/-- Does a branch's node hang on an earlier branch? -/
def thB (cs : List Cn) (b : List (Int × Int)) (k j : Nat) : Bool := decide (k = j ∨ rootOf cs (b.drop (j + 1)) (b.getD k (0, 0)).2 = (b.getD j (0, 0)).2)

theorem back_keep {s : List Int × List Int} (hr : inR n cs) : ∀ (b : List (Int × Int)) (m : List Bool) (i : Nat), m.length = n → TreeOk n cs m b → i < b.length → (backL cs b s).1.getD (b.getD i (0, 0)).1.toNat 0 = (backL cs (b.drop i) s).1.getD (b.getD i (0, 0)).1.toNat 0
  | [], m, i, _, _, h => by simp at h
  | x :: r, m, 0, _, _, _ => rfl
  | x :: r, m, i + 1, hm, ht, h => by
    have hi : i < r.length := by simpa using h
    have hd := tree_dist hm hr ht _ (getD_memR hi)
    have h0 := (tree_range r _ ht.2 _ (getD_memR hi)).1
    have ih := back_keep (s := s) hr r _ i (by simpa using hm) ht.2 hi
    rw [List.getD_cons_succ, List.drop_succ_cons, ← ih]
    show ((backL cs r s).1.set _ _).getD _ 0 = _
    rw [getD_setI, if_neg]
    rintro ⟨e, _⟩
    have := ht.1.i0
    omega
/-- What a branch carries, as the reference says it. -/
theorem flow_sum {m : List Bool} {b : List (Int × Int)} {s : List Int × List Int} (hm : m.length = n) (hs1 : s.1.length = cs.length) (hs : s.2.length = n) (hr : inR n cs) (ht : TreeOk n cs m b) {i : Nat} (hi : i < b.length) :
    (backL cs b s).1.getD (b.getD i (0, 0)).1.toNat 0 = signN (cs.getD (b.getD i (0, 0)).1.toNat cn0) (b.getD i (0, 0)).2 * (s.2.getD (b.getD i (0, 0)).2.toNat 0 + sumRt (rootOf cs (b.drop (i + 1))) (b.getD i (0, 0)).2 s.2 (b.drop (i + 1))) := by
  obtain ⟨hB, ht2⟩ := tree_at b m i ht hi
  have e : b.drop i = b.getD i (0, 0) :: b.drop (i + 1) := by
    rw [List.drop_eq_getElem_cons hi, List.getD_eq_getElem?_getD, List.getElem?_eq_getElem hi, Option.getD_some]
  have hT : TreeOk n cs (afterF m (b.take i)) (b.getD i (0, 0) :: b.drop (i + 1)) := ⟨hB, by rw [afterF_snoc hi] at ht2; exact ht2⟩
  rw [back_keep hr b m i hm ht hi, e, back_flow_at hs1 hT]
  have v0 := hB.v0
  rw [back_root (b.drop (i + 1)) _ s (by rw [afterF_len]; exact hm) hs ht2 _ v0 (mark_later hm ht (by omega) hi)]

/-- The flows that are put down, one by one. -/
def setL (F : List Int) (l : List (Int × Int)) (f : List Int) : List Int := l.foldl (fun f x => f.set x.1.toNat (F.getD x.1.toNat 0)) f
theorem setL_all {F : List Int} : ∀ (l : List (Int × Int)) (f : List Int), f.length = F.length → (∀ x ∈ l, x.1.toNat < F.length) → (∀ i, i < F.length → (∀ x ∈ l, x.1.toNat ≠ i) → f.getD i 0 = F.getD i 0) → setL F l f = F
  | [], f, hl, _, h => ext_invI hl rfl fun i hi => h i hi fun x hx => by simp at hx
  | x :: r, f, hl, hb, h => by
    show setL F r (f.set _ _) = F
    refine setL_all r _ (by simpa using hl) (fun y hy => hb y (by simp [hy])) fun i hi hn => ?_
    rw [getD_setI]
    have := hb x (by simp)
    split
    · rename_i e; rw [e.1]
    · rename_i e
      refine h i hi fun y hy => ?_
      rcases List.mem_cons.1 hy with rfl | hy
      · intro e2; exact e ⟨e2.symm, by omega⟩
      · exact hn y hy
theorem setL_back {m : List Bool} {b : List (Int × Int)} {s : List Int × List Int} (hs1 : s.1.length = cs.length) (ht : TreeOk n cs m b) : setL (backL cs b s).1 b s.1 = (backL cs b s).1 := by
  have hl := (backL_len cs b s).1
  have hrg := tree_range b m ht
  refine setL_all b s.1 hl.symm (fun x hx => by have := hrg x hx; omega) fun i hi hn => ?_
  rw [back_other b s i (fun x hx => (hrg x hx).1) (fun x hx e => hn x hx (by omega))]
theorem setL_drop {F f : List Int} {b : List (Int × Int)} {i : Nat} (h : i < b.length) : setL F (b.drop i) f = setL F (b.drop (i + 1)) (f.set (b.getD i (0, 0)).1.toNat (F.getD (b.getD i (0, 0)).1.toNat 0)) := by
  have e : b.getD i (0, 0) = b[i] := by simp [List.getD_eq_getElem?_getD, h]
  rw [List.drop_eq_getElem_cons h, e]; rfl
theorem sumRt_drop {g : Int → Int} {w : Int} {D : List Int} {b : List (Int × Int)} {k : Nat} (h : k < b.length) : sumRt g w D (b.drop k) = (if g (b.getD k (0, 0)).2 = w then D.getD (b.getD k (0, 0)).2.toNat 0 else 0) + sumRt g w D (b.drop (k + 1)) := by
  have e : b.getD k (0, 0) = b[k] := by simp [List.getD_eq_getElem?_getD, h]
  rw [List.drop_eq_getElem_cons h, sumRt, e]
end
end Go.Tr

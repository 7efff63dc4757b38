/- Contracts of chapter 2: the reference's state. Conditions: none. -/
import Derived.Test.YtkomdfgffgkphaaGreatTr08
import Derived.Test.YtkomdfgffgkphaaGreatTr09
import Derived.Test.YtkomdfgffgkphaaGreatTr05
import Derived.Test.YtkomdfgffgkphaaGreatTr06
import Derived.Test.YtkomdfgffgkphaaGreatTr07

namespace Go.Tr
open Go Go.Proofs
set_option maxRecDepth 20000
set_option maxHeartbeats 8000000

def fstA (b : List (Int × Int)) : AV := .rslice 1 b.length fun i => [i64 (b.getD i (0, 0)).1]
def sndA (b : List (Int × Int)) : AV := .rslice 1 b.length fun i => [i64 (b.getD i (0, 0)).2]
theorem ints_fst (b : List (Int × Int)) : ints (b.map (·.1)) = fstA b := by
  unfold ints fstA; rw [List.length_map]; congr 1; funext i; rw [map_fst_getD]
theorem ints_snd (b : List (Int × Int)) : ints (b.map (·.2)) = sndA b := by
  unfold ints sndA; rw [List.length_map]; congr 1; funext i; rw [map_snd_getD]
theorem atF_drop {x : Int} {l : List Int} {k : Nat} (h : k < l.length) : atF x k (l.drop k) = if l.getD k 0 = x then (k : Int) else atF x (k + 1) (l.drop (k + 1)) := by
  have e : l.getD k 0 = l[k] := by simp [List.getD_eq_getElem?_getD, h]
  rw [List.drop_eq_getElem_cons h, atF, e]
theorem S68 (l : List Int) (x : Int) (hl : l.length ≤ 1000000000) : SP 68 [ints l, i64 x] (i64 (atF x 0 l)) false := by
  generalize hR : atF x 0 l = R
  refine sound (d := 2) tok2 mixed2 Tryz.func68 (by kernel_rfl) (by kernel_rfl) ?_
  conv => whnf
  refine ⟨[], [0, 1, 5], fun st mq => ∃ (k : Nat), (k ≤ l.length) ∧ (atF x k (l.drop k) = R) ∧ st = ⟨[(0, ints l), (1, i64 x), (5, i64 k)], ⟨[], [], none, 0⟩, []⟩ ∧ mq = l.length - k,
    ⟨_, _, ⟨0, by omega, hR, rfl, rfl⟩, ⟨⟨rfl, rfl, rfl, rfl⟩, trivial, trivial⟩⟩, ?_⟩
  rintro s0 m0 ⟨k, hk, h1, rfl, hmeas⟩
  by_cases h : k < l.length
  · rw [atF_drop h] at h1
    conv => whnf
    conv => whnf
    refine ifB_dec (fun w1 => ?_) (fun w1 => ?_)
    · conv => whnf
      conv => whnf
      refine ⟨⟨(by omega), (by omega)⟩, ?_⟩
      conv => whnf
      conv => whnf
      refine ifB_beq (fun w2 => ?_) (fun w2 => ?_)
      · conv => whnf
        conv => whnf
        refine ⟨?_, nofun⟩
        rw [if_pos (show l.getD k 0 = x from w2)] at h1
        show i64 _ = i64 _
        rw [h1]
      · conv => whnf
        conv => whnf
        refine ⟨inK64 (by omega) (by omega), ?_⟩
        rw [if_neg (show ¬ l.getD k 0 = x from w2)] at h1
        conv => whnf
        conv => whnf
        refine ⟨_, _, ⟨⟨k + 1, by omega, h1, rfl, rfl⟩, by omega⟩, ⟨⟨rfl, rfl, rfl, rfl⟩, trivial, trivial⟩⟩
    · (exfalso; omega)
  · have e : k = l.length := by omega
    subst e
    rw [List.drop_length, atF] at h1
    subst h1
    conv => whnf
    conv => whnf
    refine ifB_dec (fun w1 => ?_) (fun w1 => ?_)
    · (exfalso; omega)
    · conv => whnf
      conv => whnf
      refine ⟨?_, nofun⟩
      rfl
theorem S38 (N : Net) (b : List (Int × Int)) (c : Int) (hS : StOk N b c) (k j : Nat) (hjk : j ≤ k) (hk : k < b.length) : SP 38 [netV N, fstA b, sndA b, i64 k, i64 j] (vb (thB N.cs b k j)) false := by
  have hnb := hS.nb
  have hcb := hS.c1
  have htr := hS.tr
  generalize hR : thB N.cs b k j = R
  unfold thB at hR
  have hR' : R = true ↔ k = j ∨ rootOf N.cs (b.drop (j + 1)) (b.getD k (0, 0)).2 = (b.getD j (0, 0)).2 := by rw [← hR]; exact decide_eq_true_iff
  clear hR
  have h155 := fun x => S68 (b.map (·.2)) x (by rw [List.length_map]; omega)
  rw [ints_snd] at h155
  have hI : ((j : Int) < (k : Int) ∧ (R = true ↔ rootOf N.cs (b.drop (j + 1)) (b.getD (k : Int).toNat (0, 0)).2 = (b.getD j (0, 0)).2)) ∨ ((k : Int) ≤ j ∧ (R = true ↔ (k : Int) = j)) := by
    by_cases e : k = j
    · exact .inr ⟨by omega, by rw [hR']; exact ⟨fun _ => by omega, fun _ => .inl e⟩⟩
    · exact .inl ⟨by omega, by rw [hR', Int.toNat_natCast]; exact ⟨fun h => h.resolve_left e, .inr⟩⟩
  refine sound (d := 2) tok2 mixed2 Tryz.func38 (by kernel_rfl) (by kernel_rfl) ?_
  conv => whnf
  refine ⟨[], [1, 2, 3, 4, 5], fun st mq => ∃ (s : Int), (-1 ≤ s ∧ s < b.length) ∧ ((j < s ∧ (R = true ↔ rootOf N.cs (b.drop (j + 1)) (b.getD s.toNat (0, 0)).2 = (b.getD j (0, 0)).2)) ∨ (s ≤ j ∧ (R = true ↔ s = j))) ∧ st = ⟨[(1, fstA b), (2, sndA b), (3, i64 s), (4, i64 j), (5, .optr 0 0 0 0)], ⟨[⟨2, 1, fun _ => [listA 4 ndC nd0 N.ns, listA 6 cnC cn0 N.cs], 0, false, true, true⟩], [], none, 0⟩, []⟩ ∧ mq = (s + 1).toNat,
    ⟨_, _, ⟨k, by omega, hI, rfl, rfl⟩, ⟨⟨rfl, rfl, rfl, rfl⟩, ⟨⟨rfl, rfl, rfl, rfl, fun _ => rfl, fun _ _ => rfl⟩, trivial⟩, trivial⟩⟩, ?_⟩
  rintro s0 m0 ⟨s, h0, h1, rfl, hmeas⟩
  by_cases hs : j < s
  · have hst := through_step (lakesB_len N) htr (j := j) (s := s.toNat) (by omega) (by omega)
    have hB := (tree_at b (lakesB N) s.toNat htr (by omega)).1
    have i0 := hB.i0; have i1 := hB.i1; have v0 := hB.v0; have v1 := hB.v1
    have hr1 : R = true ↔ rootOf N.cs (b.drop (j + 1)) (b.getD s.toNat (0, 0)).2 = (b.getD j (0, 0)).2 := by
      rcases h1 with h1 | h1
      · exact h1.2
      · omega
    have hot : otherN (N.cs.getD (b.getD s.toNat (0, 0)).1.toNat cn0) (b.getD s.toNat (0, 0)).2 = if (N.cs.getD (b.getD s.toNat (0, 0)).1.toNat cn0).fr = (b.getD s.toNat (0, 0)).2 then (N.cs.getD (b.getD s.toNat (0, 0)).1.toNat cn0).to else (N.cs.getD (b.getD s.toNat (0, 0)).1.toNat cn0).fr := by
      have hne := br_ne hB
      rcases other_or hB.isEnd with ⟨e1, e2, _⟩ | ⟨e1, e2, e3, _⟩
      · rw [e2] at hne ⊢
        rw [if_neg (fun e => hne (by rw [e]))]
      · rw [e3, if_pos e2]
    rw [hot] at hst
    have hI2 : ∀ t : Int, ((j : Int) < t ∧ rootOf N.cs (b.drop (j + 1)) (b.getD t.toNat (0, 0)).2 = rootOf N.cs (b.drop (j + 1)) (b.getD s.toNat (0, 0)).2) ∨ (t ≤ j ∧ (rootOf N.cs (b.drop (j + 1)) (b.getD s.toNat (0, 0)).2 = (b.getD j (0, 0)).2 ↔ t = j)) →
        ((j : Int) < t ∧ (R = true ↔ rootOf N.cs (b.drop (j + 1)) (b.getD t.toNat (0, 0)).2 = (b.getD j (0, 0)).2)) ∨ (t ≤ j ∧ (R = true ↔ t = j)) := fun t h => by
      rcases h with ⟨a, e⟩ | ⟨a, e⟩
      · exact .inl ⟨a, by rw [hr1, e]⟩
      · exact .inr ⟨a, hr1.trans e⟩
    conv => whnf
    conv => whnf
    refine ifB_dec (fun w1 => ?_) (fun w1 => ?_)
    · conv => whnf
      conv => whnf
      refine ⟨[], by kernel_rfl, ?_⟩
      conv => whnf
      conv => whnf
      refine ⟨⟨(by omega), (by omega)⟩, ?_⟩
      conv => whnf
      conv => whnf
      refine ⟨⟨(by omega), (by omega)⟩, ?_⟩
      conv => whnf
      conv => whnf
      refine ⟨[], by kernel_rfl, ?_⟩
      conv => whnf
      conv => whnf
      refine ⟨⟨(by omega), (by omega)⟩, ?_⟩
      conv => whnf
      conv => whnf
      refine ifB_beq (fun w2 => ?_) (fun w2 => ?_)
      · conv => whnf
        conv => whnf
        refine .inl ⟨_, _, byX rfl (Sound1.pl (h155 _) rfl), ?_⟩
        rw [if_pos w2] at hst
        conv => whnf
        conv => whnf
        refine ⟨_, _, ⟨⟨_, by omega, hI2 _ hst.2, rfl, rfl⟩, by omega⟩, ⟨⟨rfl, rfl, rfl, rfl⟩, ⟨⟨rfl, rfl, rfl, rfl, fun _ => rfl, fun _ _ => rfl⟩, trivial⟩, trivial⟩⟩
      · conv => whnf
        conv => whnf
        refine .inl ⟨_, _, byX rfl (Sound1.pl (h155 _) rfl), ?_⟩
        rw [if_neg w2] at hst
        conv => whnf
        conv => whnf
        refine ⟨_, _, ⟨⟨_, by omega, hI2 _ hst.2, rfl, rfl⟩, by omega⟩, ⟨⟨rfl, rfl, rfl, rfl⟩, ⟨⟨rfl, rfl, rfl, rfl, fun _ => rfl, fun _ _ => rfl⟩, trivial⟩, trivial⟩⟩
    · (exfalso; omega)
  · have hr1 : R = true ↔ s = j := by
      rcases h1 with h1 | h1
      · omega
      · exact h1.2
    conv => whnf
    conv => whnf
    refine ifB_dec (fun w1 => ?_) (fun w1 => ?_)
    · (exfalso; omega)
    · conv => whnf
      conv => whnf
      refine ⟨?_, nofun⟩
      refine vbE ?_
      rw [Bool.eq_iff_iff, hr1, beq_iff_eq]

theorem S69w' (f : Int) (hf : -4100000 ≤ f) (hf2 : f ≤ 4100000) : SP 69 [i64 f] (i64 (sizeF f)) false := by
  refine sound (d := 2) tok2 mixed2 Tryz.func69 (by kernel_rfl) (by kernel_rfl) ?_
  refine ⟨inK64 (by omega) (by omega), ?_⟩
  refine ⟨?_, nofun⟩
  rfl
theorem S39w (r f : Int) (hr : 0 ≤ r ∧ r ≤ 1000) (hf : -4100000 ≤ f ∧ f ≤ 4100000) : SP 39 [i64 r, i64 f] (i64 (lossF r f)) false := by
  have h := lossW hr hf
  have h41 := S69w' f hf.1 hf.2
  unfold lossF at h ⊢
  refine sound (d := 2) tok2 mixed2 Tryz.func39 (by kernel_rfl) (by kernel_rfl) ?_
  conv => whnf
  refine ⟨inK64 (by omega) (by omega), ?_⟩
  conv => whnf
  refine .inl ⟨_, _, byX rfl (Sound1.pl (h41) rfl), ?_⟩
  conv => whnf
  refine ⟨inK64 (by omega) (by omega), ?_⟩
  conv => whnf
  refine ⟨?_, nofun⟩
  rfl
theorem rep_setI {n a : Nat} {v : Int} (h : a < n) (i : Nat) : [i64 (((List.replicate n 0).set a v).getD i 0)] = bif Nat.beq i (0 + a) then splice [i64 0] 0 [i64 v] else [i64 0] := by
  have e := rowI (List.replicate n 0) a i v (by simpa using h)
  rw [rep_rowI] at e
  exact e
theorem st0_pos {N : Net} {c q : Int} (h : ¬ c < 0) : st0 N c q = ((List.replicate N.cs.length 0).set c.toNat q,
    ((drawsL N).set (N.cs.getD c.toNat cn0).fr.toNat ((drawsL N).getD (N.cs.getD c.toNat cn0).fr.toNat 0 + q)).set (N.cs.getD c.toNat cn0).to.toNat
      (((drawsL N).set (N.cs.getD c.toNat cn0).fr.toNat ((drawsL N).getD (N.cs.getD c.toNat cn0).fr.toNat 0 + q)).getD (N.cs.getD c.toNat cn0).to.toNat 0 - q)) := by
  unfold st0; rw [if_neg h]
theorem rep0 (n i : Nat) : (List.replicate n (0 : Int)).getD i 0 = 0 := by
  simp only [List.getD_eq_getElem?_getD, List.getElem?_replicate]; split <;> rfl
theorem stepH_two {n : Nat} {cs : List Cn} {m : List Bool} {b : Int × Int} {f h : List Int} (hB : BrOk n cs m b) :
    ((cs.getD b.1.toNat cn0).to = b.2 → stepH cs f b h = h.set (cs.getD b.1.toNat cn0).to.toNat (h.getD (0 + (cs.getD b.1.toNat cn0).fr.toNat) 0 - lossF (cs.getD b.1.toNat cn0).res (f.getD (0 + b.1.toNat) 0))) ∧
    (¬ (cs.getD b.1.toNat cn0).to = b.2 → stepH cs f b h = h.set (cs.getD b.1.toNat cn0).fr.toNat (h.getD (0 + (cs.getD b.1.toNat cn0).to.toNat) 0 + lossF (cs.getD b.1.toNat cn0).res (f.getD (0 + b.1.toNat) 0))) := by
  rw [Nat.zero_add, Nat.zero_add, Nat.zero_add]
  unfold stepH
  rcases other_or hB.isEnd with ⟨e1, e2, e3⟩ | ⟨e0, e1, e2, e3⟩
  · refine ⟨fun _ => ?_, fun h => absurd e1 h⟩
    rw [e2, e3, e1, Int.one_mul]
  · refine ⟨fun h => absurd h e0, fun _ => ?_⟩
    rw [e2, e3, e1, Int.neg_mul, Int.one_mul, loss_neg, Int.sub_neg]
theorem lake0 {N : Net} (hok : N.Ok) (k : Nat) (hk : k < N.ns.length) : (headsL N).getD k 0 = if (N.ns.getD k nd0).lake = true then 1000 * (N.ns.getD k nd0).head else 0 := by
  rw [headsL_getD N k hk]
  split
  · rfl
  · rename_i h
    have hn := (hok.node (N.ns.getD k nd0) (by simp [List.getD_eq_getElem?_getD, hk])).2
    unfold nodeOther at hn
    rw [if_neg h] at hn
    rw [hn]; rfl
set_option maxHeartbeats 0 in
theorem S18 (N : Net) (hok : N.Ok) (hF : (clF N).2 = 0) (q : Int) (hq : -200000 ≤ q ∧ q ≤ 200000) : SP 18 [netV N, i64 q] (stA (stateF N (brF N) (clF N).1 q)) false := by
  have hS := stOk hok
  have hn := hS.n1
  have hcn := hS.c1
  have hnb := hS.nb
  have hcl := hS.cl
  have h137 := S13 N (by omega) (by omega) hok.ends
  change SP 13 _ (.tuple [ints ((brF N).map (·.1)), ints ((brF N).map (·.2)), vb _]) false at h137
  rw [ints_fst, ints_snd] at h137
  have h97 := S16 N (by omega) (by omega) hok.ends
  unfold clR at h97
  rw [if_pos hF, hF] at h97
  have hlk := fun k h => lake0 hok (N := N) k h
  have hne := net_ne hok hS.cl
  generalize brF N = b at *
  generalize (clF N).1 = c at *
  unfold fstA sndA at h137
  refine sound (d := 2) tok2 mixed2 Tryz.func18 (by kernel_rfl) (by kernel_rfl) ?_
  conv => whnf
  refine .inl ⟨_, _, byX rfl (h137), ?_⟩
  conv => whnf
  refine .inl ⟨_, _, byX rfl (Sound1.pl (h97) rfl), ?_⟩
  conv => whnf
  refine ⟨[.slot 10 1], [1, 2, 4, 5, 6, 8, 10, 11], fun st mq => ∃ (k : Nat), (k ≤ N.ns.length) ∧ st = ⟨[(1, i64 q), (2, .optr 0 0 0 0), (4, .optr 1 0 0 0), (5, .rslice 1 b.length fun i => [i64 (b.getD i (0, 0)).1]), (6, .rslice 1 b.length fun i => [i64 (b.getD i (0, 0)).2]), (8, i64 c), (10, .oslice 2 0 0 k none), (11, i64 k)], ⟨[⟨2, 1, fun _ => [listA 4 ndC nd0 N.ns, listA 6 cnC cn0 N.cs], 0, false, true, true⟩, ⟨2, 1, fun _ => [.eslice, .eslice], 0, false, true, true⟩, ⟨1, k, fun i => [i64 ((drawsL N).getD i 0)], 0, false, true, false⟩], [], none, 0⟩, []⟩ ∧ mq = N.ns.length - k,
    ⟨_, _, ⟨0, by omega, rfl, rfl⟩, ⟨⟨rfl, rfl, rfl, rfl⟩, ⟨⟨rfl, rfl, rfl, rfl, fun _ => rfl, fun _ _ => rfl⟩, ⟨⟨rfl, rfl, rfl, rfl, fun _ => rfl, fun _ _ => rfl⟩, ⟨⟨rfl, rfl, rfl, rfl, fun _ => rfl, fun i h => absurd h (Nat.not_lt_zero i)⟩, trivial⟩⟩⟩, trivial⟩⟩, ?_⟩
  rintro s0 m0 ⟨k, hk, rfl, hmeas⟩
  by_cases hkl : k < N.ns.length
  · have e := drawsL_getD N k hkl
    conv => whnf
    conv => whnf
    refine ifB_dec (fun w1 => ?_) (fun w1 => ?_)
    · conv => whnf
      conv => whnf
      refine ⟨⟨(by omega), (by omega)⟩, ?_⟩
      conv => whnf
      conv => whnf
      refine ⟨(by show _ * (8 + 1) ≤ _; omega), ?_⟩
      conv => whnf
      conv => whnf
      refine ⟨inK64 (by omega) (by omega), ?_⟩
      conv => whnf
      conv => whnf
      refine ⟨_, _, ⟨⟨k + 1, by omega, rfl, rfl⟩, by omega⟩, ⟨⟨rfl, rfl, rfl, rfl⟩, ⟨⟨rfl, rfl, rfl, rfl, fun _ => rfl, fun _ _ => rfl⟩, ⟨⟨rfl, rfl, rfl, rfl, fun _ => rfl, fun _ _ => rfl⟩, ⟨⟨rfl, rfl, rfl, rfl, fun _ => rfl, fun i h => ext_row (g := fun x => [i64 x]) (d := (0 : Int)) (congrArg (fun x => [i64 x]) e) rfl h⟩, trivial⟩⟩⟩, trivial⟩⟩
    · (exfalso; omega)
  · have e : k = N.ns.length := by omega
    subst e
    have hbd := drawsL_bd hS.dr
    have hs0 := st0_len0 N c q
    have hs1 := st0_len1 N c q
    have hsum := st0_sum hS hq
    have hDb0 := st0_bd (N := N) hS hq
    obtain ⟨D, hD⟩ : ∃ D, D = (st0 N c q).2 := ⟨_, rfl⟩
    obtain ⟨F, hFd⟩ : ∃ F, F = (backL N.cs b (st0 N c q)).1 := ⟨_, rfl⟩
    have hset : setL F b (st0 N c q).1 = F := by rw [hFd]; exact setL_back hs0 hS.tr
    have hDb : ∀ i, -410000 ≤ D.getD i 0 ∧ D.getD i 0 ≤ 410000 := fun i => by rw [hD]; exact hDb0 i
    have hDl : D.length = N.ns.length := by rw [hD]; exact hs1
    have hDb0 := st0_bd (N := N) hS hq
    obtain ⟨D, hD⟩ : ∃ D, D = (st0 N c q).2 := ⟨_, rfl⟩
    obtain ⟨F, hFd⟩ : ∃ F, F = (backL N.cs b (st0 N c q)).1 := ⟨_, rfl⟩
    have hset : setL F b (st0 N c q).1 = F := by rw [hFd]; exact setL_back hs0 hS.tr
    have hDb : ∀ i, -410000 ≤ D.getD i 0 ∧ D.getD i 0 ≤ 410000 := fun i => by rw [hD]; exact hDb0 i
    have hDl : D.length = N.ns.length := by rw [hD]; exact hs1
    have hDb0 := st0_bd (N := N) hS hq
    obtain ⟨D, hD⟩ : ∃ D, D = (st0 N c q).2 := ⟨_, rfl⟩
    obtain ⟨F, hFd⟩ : ∃ F, F = (backL N.cs b (st0 N c q)).1 := ⟨_, rfl⟩
    have hset : setL F b (st0 N c q).1 = F := by rw [hFd]; exact setL_back hs0 hS.tr
    have hDb : ∀ i, -410000 ≤ D.getD i 0 ∧ D.getD i 0 ≤ 410000 := fun i => by rw [hD]; exact hDb0 i
    have hDl : D.length = N.ns.length := by rw [hD]; exact hs1
    have hDb0 := st0_bd (N := N) hS hq
    obtain ⟨D, hD⟩ : ∃ D, D = (st0 N c q).2 := ⟨_, rfl⟩
    obtain ⟨F, hFd⟩ : ∃ F, F = (backL N.cs b (st0 N c q)).1 := ⟨_, rfl⟩
    have hset : setL F b (st0 N c q).1 = F := by rw [hFd]; exact setL_back hs0 hS.tr
    have hDb : ∀ i, -410000 ≤ D.getD i 0 ∧ D.getD i 0 ≤ 410000 := fun i => by rw [hD]; exact hDb0 i
    have hDl : D.length = N.ns.length := by rw [hD]; exact hs1
    have hDb0 := st0_bd (N := N) hS hq
    obtain ⟨D, hD⟩ : ∃ D, D = (st0 N c q).2 := ⟨_, rfl⟩
    obtain ⟨F, hFd⟩ : ∃ F, F = (backL N.cs b (st0 N c q)).1 := ⟨_, rfl⟩
    have hset : setL F b (st0 N c q).1 = F := by rw [hFd]; exact setL_back hs0 hS.tr
    have hDb : ∀ i, -410000 ≤ D.getD i 0 ∧ D.getD i 0 ≤ 410000 := fun i => by rw [hD]; exact hDb0 i
    have hDl : D.length = N.ns.length := by rw [hD]; exact hs1
    by_cases hc0 : c < 0
    · have e0 : st0 N c q = (List.replicate N.cs.length 0, drawsL N) := by unfold st0; rw [if_pos hc0]
      conv => whnf
      conv => whnf
      refine ifB_dec (fun w1 => ?_) (fun w1 => ?_)
      · (exfalso; omega)
      · conv => whnf
        conv => whnf
        refine ⟨[], by kernel_rfl, ?_⟩
        conv => whnf
        conv => whnf
        refine ⟨⟨(by omega), ⟨(by omega), ⟨(by omega), (by show _ * ((8 : Nat) : Int) ≤ _; omega)⟩⟩⟩, ?_⟩
        conv => whnf
        conv => whnf
        refine ⟨⟨(by omega), ⟨(by omega), ⟨(by omega), (by show _ * ((8 : Nat) : Int) ≤ _; omega)⟩⟩⟩, ?_⟩
        conv => whnf
        conv => whnf
        refine ifB_dec (fun w2 => ?_) (fun w2 => ?_)
        · (exfalso; omega)
        · conv => whnf
          conv => whnf
          refine ⟨[], [2, 4, 5, 6, 10, 12, 14], fun st mq => ∃ (i : Nat) (f : List Int), (i ≤ b.length) ∧ (f.length = N.cs.length) ∧ (setL F (b.drop i) f = F) ∧ st = ⟨[(2, .optr 0 0 0 0), (4, .optr 1 0 0 0), (5, .rslice 1 b.length fun i => [i64 (b.getD i (0, 0)).1]), (6, .rslice 1 b.length fun i => [i64 (b.getD i (0, 0)).2]), (10, .oslice 2 0 0 N.ns.length none), (12, .optr 5 0 0 0), (14, i64 i)], ⟨[⟨2, 1, fun _ => [listA 4 ndC nd0 N.ns, listA 6 cnC cn0 N.cs], 0, false, true, true⟩, ⟨2, 1, fun _ => [.eslice, .eslice], 0, false, true, true⟩, ⟨1, N.ns.length, fun i => [i64 (D.getD i 0)], 0, false, true, false⟩, ⟨1, N.cs.length, fun i => [i64 (f.getD i 0)], 0, false, true, false⟩, ⟨1, N.ns.length, fun i => [i64 0], 0, false, true, false⟩, ⟨2, 1, fun _ => [.oslice 3 0 0 N.cs.length (some N.cs.length), .oslice 4 0 0 N.ns.length (some N.ns.length)], 0, false, false, true⟩], [], none, 0⟩, []⟩ ∧ mq = b.length - i,
            ⟨_, _, ⟨0, (st0 N c q).1, by omega, hs0, hset, rfl, rfl⟩, ⟨⟨rfl, rfl, rfl, rfl⟩, ⟨⟨rfl, rfl, rfl, rfl, fun _ => rfl, fun _ _ => rfl⟩, ⟨⟨rfl, rfl, rfl, rfl, fun _ => rfl, fun _ _ => rfl⟩, ⟨⟨rfl, rfl, rfl, rfl, fun _ => rfl, fun j _ => (by show [i64 (D.getD j 0)] = [i64 ((drawsL N).getD j 0)]; rw [hD, e0])⟩, ⟨⟨rfl, rfl, rfl, rfl, fun _ => rfl, fun j _ => (by show [i64 ((st0 N c q).1.getD j 0)] = [i64 0]; rw [e0]; exact rep_rowI _ j)⟩, ⟨⟨rfl, rfl, rfl, rfl, fun _ => rfl, fun _ _ => rfl⟩, ⟨⟨rfl, rfl, rfl, rfl, nofun, fun _ _ => rfl⟩, trivial⟩⟩⟩⟩⟩⟩, trivial⟩⟩, ?_⟩
          rintro s0 m0 ⟨i, f, hi, hf, hse, rfl, hmeas⟩
          by_cases hil : i < b.length
          · have hfs := flow_sum (s := st0 N c q) (lakesB_len N) hs0 hs1 hS.ends hS.tr hil
            obtain ⟨hB, _⟩ := tree_at b (lakesB N) (i : Int).toNat hS.tr (by omega)
            have i0 := hB.i0; have i1 := hB.i1; have v0 := hB.v0; have v1 := hB.v1
            have hsg : signN (N.cs.getD (b.getD i (0, 0)).1.toNat cn0) (b.getD i (0, 0)).2 = if (N.cs.getD (b.getD i (0, 0)).1.toNat cn0).to = (b.getD i (0, 0)).2 then 1 else -1 := rfl
            rw [hsg, ← hD, ← hFd] at hfs
            rw [setL_drop hil] at hse
            conv => whnf
            conv => whnf
            conv => whnf
            refine ifB_dec (fun w3 => ?_) (fun w3 => ?_)
            · conv => whnf
              conv => whnf
              conv => whnf
              refine ⟨[], [2, 4, 5, 6, 10, 12, 14, 15, 16], fun st mq => ∃ (k : Nat) (sm : Int), (i ≤ k ∧ k ≤ b.length) ∧ ((k = i ∧ sm = 0) ∨ (i < k ∧ sm + sumRt (rootOf N.cs (b.drop (i + 1))) (b.getD i (0, 0)).2 D (b.drop k) = D.getD (b.getD i (0, 0)).2.toNat 0 + sumRt (rootOf N.cs (b.drop (i + 1))) (b.getD i (0, 0)).2 D (b.drop (i + 1)))) ∧ (-((k : Int) * 410000) ≤ sm ∧ sm ≤ (k : Int) * 410000) ∧ st = ⟨[(2, .optr 0 0 0 0), (4, .optr 1 0 0 0), (5, .rslice 1 b.length fun i => [i64 (b.getD i (0, 0)).1]), (6, .rslice 1 b.length fun i => [i64 (b.getD i (0, 0)).2]), (10, .oslice 2 0 0 N.ns.length none), (12, .optr 5 0 0 0), (14, i64 i), (15, i64 sm), (16, i64 k)], ⟨[⟨2, 1, fun _ => [listA 4 ndC nd0 N.ns, listA 6 cnC cn0 N.cs], 0, false, true, true⟩, ⟨2, 1, fun _ => [.eslice, .eslice], 0, false, true, true⟩, ⟨1, N.ns.length, fun i => [i64 (D.getD i 0)], 0, false, true, false⟩, ⟨1, N.cs.length, fun i => [i64 (f.getD i 0)], 0, false, true, false⟩, ⟨1, N.ns.length, fun i => [i64 0], 0, false, true, false⟩, ⟨2, 1, fun _ => [.oslice 3 0 0 N.cs.length (some N.cs.length), .oslice 4 0 0 N.ns.length (some N.ns.length)], 0, false, false, true⟩], [], none, 0⟩, []⟩ ∧ mq = b.length - k,
                ⟨_, _, ⟨i, 0, by omega, .inl ⟨rfl, rfl⟩, by omega, rfl, rfl⟩, ⟨⟨rfl, rfl, rfl, rfl⟩, ⟨⟨rfl, rfl, rfl, rfl, fun _ => rfl, fun _ _ => rfl⟩, ⟨⟨rfl, rfl, rfl, rfl, fun _ => rfl, fun _ _ => rfl⟩, ⟨⟨rfl, rfl, rfl, rfl, fun _ => rfl, fun _ _ => rfl⟩, ⟨⟨rfl, rfl, rfl, rfl, fun _ => rfl, fun _ _ => rfl⟩, ⟨⟨rfl, rfl, rfl, rfl, fun _ => rfl, fun _ _ => rfl⟩, ⟨⟨rfl, rfl, rfl, rfl, nofun, fun _ _ => rfl⟩, trivial⟩⟩⟩⟩⟩⟩, trivial⟩⟩, ?_⟩
              rintro s0 m0 ⟨k, sm, hk, hsm, hbs, rfl, hmeas⟩
              by_cases hkl : k < b.length
              · have h143 := S38 N b c hS k i hk.1 hkl
                obtain ⟨hB2, _⟩ := tree_at b (lakesB N) (k : Int).toNat hS.tr (by omega)
                have k0 := hB2.v0; have k1 := hB2.v1
                have hdk := hDb (0 + (b.getD (k : Int).toNat (0, 0)).2.toNat)
                have hdp := sumRt_drop (g := rootOf N.cs (b.drop (i + 1))) (w := (b.getD i (0, 0)).2) (D := D) hkl
                conv => whnf
                conv => whnf
                conv => whnf
                conv => whnf
                refine ifB_dec (fun w4 => ?_) (fun w4 => ?_)
                · conv => whnf
                  conv => whnf
                  conv => whnf
                  conv => whnf
                  refine .inl ⟨_, _, byX rfl (Sound1.pl (h143) rfl), ?_⟩
                  conv => whnf
                  conv => whnf
                  conv => whnf
                  conv => whnf
                  refine ifB_dec (fun w5 => ?_) (fun w5 => ?_)
                  · conv => whnf
                    conv => whnf
                    conv => whnf
                    conv => whnf
                    refine ⟨⟨(by omega), (by omega)⟩, ?_⟩
                    conv => whnf
                    conv => whnf
                    conv => whnf
                    conv => whnf
                    refine ⟨⟨(by omega), (by omega)⟩, ?_⟩
                    conv => whnf
                    conv => whnf
                    conv => whnf
                    conv => whnf
                    refine ⟨inK64 (by omega) (by omega), ?_⟩
                    conv => whnf
                    conv => whnf
                    conv => whnf
                    conv => whnf
                    refine ⟨inK64 (by omega) (by omega), ?_⟩
                    have ht : k = i ∨ rootOf N.cs (b.drop (i + 1)) (b.getD k (0, 0)).2 = (b.getD i (0, 0)).2 := by first | exact w2 | exact w3 | exact w4 | exact w5 | exact w6 | exact w7
                    have e1 : sm + D.getD (0 + (b.getD (k : Int).toNat (0, 0)).2.toNat) 0 + sumRt (rootOf N.cs (b.drop (i + 1))) (b.getD i (0, 0)).2 D (b.drop (k + 1)) = D.getD (b.getD i (0, 0)).2.toNat 0 + sumRt (rootOf N.cs (b.drop (i + 1))) (b.getD i (0, 0)).2 D (b.drop (i + 1)) := by
                      rw [Nat.zero_add, Int.toNat_natCast]
                      rcases hsm with ⟨a, e⟩ | ⟨a, e⟩
                      · subst a; omega
                      · rw [if_pos (ht.resolve_left (by omega))] at hdp; omega
                    conv => whnf
                    conv => whnf
                    conv => whnf
                    conv => whnf
                    refine ⟨_, _, ⟨⟨k + 1, _, by omega, .inr ⟨by omega, e1⟩, by omega, rfl, rfl⟩, by omega⟩, ⟨⟨rfl, rfl, rfl, rfl⟩, ⟨⟨rfl, rfl, rfl, rfl, fun _ => rfl, fun _ _ => rfl⟩, ⟨⟨rfl, rfl, rfl, rfl, fun _ => rfl, fun _ _ => rfl⟩, ⟨⟨rfl, rfl, rfl, rfl, fun _ => rfl, fun _ _ => rfl⟩, ⟨⟨rfl, rfl, rfl, rfl, fun _ => rfl, fun _ _ => rfl⟩, ⟨⟨rfl, rfl, rfl, rfl, fun _ => rfl, fun _ _ => rfl⟩, ⟨⟨rfl, rfl, rfl, rfl, nofun, fun _ _ => rfl⟩, trivial⟩⟩⟩⟩⟩⟩, trivial⟩⟩
                  · conv => whnf
                    conv => whnf
                    conv => whnf
                    conv => whnf
                    refine ⟨inK64 (by omega) (by omega), ?_⟩
                    have ht : ¬ (k = i ∨ rootOf N.cs (b.drop (i + 1)) (b.getD k (0, 0)).2 = (b.getD i (0, 0)).2) := by first | exact w2 | exact w3 | exact w4 | exact w5 | exact w6 | exact w7
                    have e1 : sm + sumRt (rootOf N.cs (b.drop (i + 1))) (b.getD i (0, 0)).2 D (b.drop (k + 1)) = D.getD (b.getD i (0, 0)).2.toNat 0 + sumRt (rootOf N.cs (b.drop (i + 1))) (b.getD i (0, 0)).2 D (b.drop (i + 1)) ∧ i < k := by
                      rcases hsm with ⟨a, e⟩ | ⟨a, e⟩
                      · exact absurd (.inl a) ht
                      · rw [if_neg (fun h => ht (.inr h))] at hdp; exact ⟨by omega, a⟩
                    conv => whnf
                    conv => whnf
                    conv => whnf
                    conv => whnf
                    refine ⟨_, _, ⟨⟨k + 1, _, by omega, .inr ⟨by omega, e1.1⟩, by omega, rfl, rfl⟩, by omega⟩, ⟨⟨rfl, rfl, rfl, rfl⟩, ⟨⟨rfl, rfl, rfl, rfl, fun _ => rfl, fun _ _ => rfl⟩, ⟨⟨rfl, rfl, rfl, rfl, fun _ => rfl, fun _ _ => rfl⟩, ⟨⟨rfl, rfl, rfl, rfl, fun _ => rfl, fun _ _ => rfl⟩, ⟨⟨rfl, rfl, rfl, rfl, fun _ => rfl, fun _ _ => rfl⟩, ⟨⟨rfl, rfl, rfl, rfl, fun _ => rfl, fun _ _ => rfl⟩, ⟨⟨rfl, rfl, rfl, rfl, nofun, fun _ _ => rfl⟩, trivial⟩⟩⟩⟩⟩⟩, trivial⟩⟩
                · (exfalso; omega)
              · have e : k = b.length := by omega
                subst e
                rw [List.drop_length, sumRt] at hsm
                have e : sm = D.getD (b.getD i (0, 0)).2.toNat 0 + sumRt (rootOf N.cs (b.drop (i + 1))) (b.getD i (0, 0)).2 D (b.drop (i + 1)) := by omega
                rw [← e] at hfs
                conv => whnf
                conv => whnf
                conv => whnf
                conv => whnf
                refine ifB_dec (fun w4 => ?_) (fun w4 => ?_)
                · (exfalso; omega)
                · conv => whnf
                  conv => whnf
                  conv => whnf
                  conv => whnf
                  refine ⟨[], by kernel_rfl, ?_⟩
                  conv => whnf
                  conv => whnf
                  conv => whnf
                  conv => whnf
                  refine ⟨⟨(by omega), (by omega)⟩, ?_⟩
                  conv => whnf
                  conv => whnf
                  conv => whnf
                  conv => whnf
                  refine ⟨⟨(by omega), (by omega)⟩, ?_⟩
                  conv => whnf
                  conv => whnf
                  conv => whnf
                  conv => whnf
                  refine ⟨⟨(by omega), (by omega)⟩, ?_⟩
                  conv => whnf
                  conv => whnf
                  conv => whnf
                  conv => whnf
                  refine ifB_beq (fun w5 => ?_) (fun w5 => ?_)
                  · conv => whnf
                    conv => whnf
                    conv => whnf
                    conv => whnf
                    refine ⟨[], by kernel_rfl, ?_⟩
                    conv => whnf
                    conv => whnf
                    conv => whnf
                    conv => whnf
                    refine ⟨⟨(by omega), (by omega)⟩, ?_⟩
                    conv => whnf
                    conv => whnf
                    conv => whnf
                    conv => whnf
                    refine ⟨⟨(by omega), (by omega)⟩, ?_⟩
                    refine ⟨_, fun i _ => rowI _ _ i _ (by first | omega | (simp only [List.length_set]; omega) | (simp only [List.length_replicate]; omega) | (simp only [List.length_set, List.length_replicate]; omega)), ?_⟩
                    conv => whnf
                    conv => whnf
                    conv => whnf
                    conv => whnf
                    refine ⟨inK64 (by omega) (by omega), ?_⟩
                    rw [if_pos (show (N.cs.getD (b.getD i (0, 0)).1.toNat cn0).to = (b.getD i (0, 0)).2 by first | exact w2 | exact w3 | exact w4 | exact w5 | exact w6 | exact w7), Int.one_mul] at hfs
                    rw [hfs] at hse
                    conv => whnf
                    conv => whnf
                    conv => whnf
                    conv => whnf
                    refine ⟨_, _, ⟨⟨i + 1, f.set (b.getD i (0, 0)).1.toNat sm, by omega, (by rw [List.length_set]; exact hf), hse, rfl, rfl⟩, by omega⟩, ⟨⟨rfl, rfl, rfl, rfl⟩, ⟨⟨rfl, rfl, rfl, rfl, fun _ => rfl, fun _ _ => rfl⟩, ⟨⟨rfl, rfl, rfl, rfl, fun _ => rfl, fun _ _ => rfl⟩, ⟨⟨rfl, rfl, rfl, rfl, fun _ => rfl, fun _ _ => rfl⟩, ⟨⟨rfl, rfl, rfl, rfl, fun _ => rfl, fun _ _ => rfl⟩, ⟨⟨rfl, rfl, rfl, rfl, fun _ => rfl, fun _ _ => rfl⟩, ⟨⟨rfl, rfl, rfl, rfl, nofun, fun _ _ => rfl⟩, trivial⟩⟩⟩⟩⟩⟩, trivial⟩⟩
                  · conv => whnf
                    conv => whnf
                    conv => whnf
                    conv => whnf
                    refine ⟨[], by kernel_rfl, ?_⟩
                    conv => whnf
                    conv => whnf
                    conv => whnf
                    conv => whnf
                    refine ⟨⟨(by omega), (by omega)⟩, ?_⟩
                    conv => whnf
                    conv => whnf
                    conv => whnf
                    conv => whnf
                    refine ⟨inK64 (by omega) (by omega), ?_⟩
                    conv => whnf
                    conv => whnf
                    conv => whnf
                    conv => whnf
                    refine ⟨⟨(by omega), (by omega)⟩, ?_⟩
                    refine ⟨_, fun i _ => rowI _ _ i _ (by first | omega | (simp only [List.length_set]; omega) | (simp only [List.length_replicate]; omega) | (simp only [List.length_set, List.length_replicate]; omega)), ?_⟩
                    conv => whnf
                    conv => whnf
                    conv => whnf
                    conv => whnf
                    refine ⟨inK64 (by omega) (by omega), ?_⟩
                    rw [if_neg (show ¬ (N.cs.getD (b.getD i (0, 0)).1.toNat cn0).to = (b.getD i (0, 0)).2 by first | exact w2 | exact w3 | exact w4 | exact w5 | exact w6 | exact w7), Int.neg_mul, Int.one_mul] at hfs
                    rw [hfs] at hse
                    conv => whnf
                    conv => whnf
                    conv => whnf
                    conv => whnf
                    refine ⟨_, _, ⟨⟨i + 1, f.set (b.getD i (0, 0)).1.toNat (-sm), by omega, (by rw [List.length_set]; exact hf), hse, rfl, rfl⟩, by omega⟩, ⟨⟨rfl, rfl, rfl, rfl⟩, ⟨⟨rfl, rfl, rfl, rfl, fun _ => rfl, fun _ _ => rfl⟩, ⟨⟨rfl, rfl, rfl, rfl, fun _ => rfl, fun _ _ => rfl⟩, ⟨⟨rfl, rfl, rfl, rfl, fun _ => rfl, fun _ _ => rfl⟩, ⟨⟨rfl, rfl, rfl, rfl, fun _ => rfl, fun _ _ => rfl⟩, ⟨⟨rfl, rfl, rfl, rfl, fun _ => rfl, fun _ _ => rfl⟩, ⟨⟨rfl, rfl, rfl, rfl, nofun, fun _ _ => rfl⟩, trivial⟩⟩⟩⟩⟩⟩, trivial⟩⟩
            · (exfalso; omega)
          · have e : i = b.length := by omega
            subst e
            rw [List.drop_length] at hse
            have e : f = F := hse
            subst e
            conv => whnf
            conv => whnf
            conv => whnf
            refine ifB_dec (fun w3 => ?_) (fun w3 => ?_)
            · (exfalso; omega)
            · conv => whnf
              conv => whnf
              conv => whnf
              refine ⟨[], [2, 4, 5, 6, 12, 17], fun st mq => ∃ (k : Nat) (h : List Int), (k ≤ N.ns.length) ∧ (h.length = N.ns.length) ∧ (∀ i, i < k → h.getD i 0 = (headsL N).getD i 0) ∧ (∀ i, k ≤ i → h.getD i 0 = 0) ∧ st = ⟨[(2, .optr 0 0 0 0), (4, .optr 1 0 0 0), (5, .rslice 1 b.length fun i => [i64 (b.getD i (0, 0)).1]), (6, .rslice 1 b.length fun i => [i64 (b.getD i (0, 0)).2]), (12, .optr 5 0 0 0), (17, i64 k)], ⟨[⟨2, 1, fun _ => [listA 4 ndC nd0 N.ns, listA 6 cnC cn0 N.cs], 0, false, true, true⟩, ⟨2, 1, fun _ => [.eslice, .eslice], 0, false, true, true⟩, ⟨1, N.ns.length, fun i => [i64 (D.getD i 0)], 0, false, true, false⟩, ⟨1, N.cs.length, fun i => [i64 (f.getD i 0)], 0, false, true, false⟩, ⟨1, N.ns.length, fun i => [i64 (h.getD i 0)], 0, false, true, false⟩, ⟨2, 1, fun _ => [.oslice 3 0 0 N.cs.length (some N.cs.length), .oslice 4 0 0 N.ns.length (some N.ns.length)], 0, false, false, true⟩], [], none, 0⟩, []⟩ ∧ mq = N.ns.length - k,
                ⟨_, _, ⟨0, List.replicate N.ns.length 0, by omega, by simp, fun i h => absurd h (Nat.not_lt_zero i), fun i _ => rep0 _ i, rfl, rfl⟩, ⟨⟨rfl, rfl, rfl, rfl⟩, ⟨⟨rfl, rfl, rfl, rfl, fun _ => rfl, fun _ _ => rfl⟩, ⟨⟨rfl, rfl, rfl, rfl, fun _ => rfl, fun _ _ => rfl⟩, ⟨⟨rfl, rfl, rfl, rfl, fun _ => rfl, fun _ _ => rfl⟩, ⟨⟨rfl, rfl, rfl, rfl, fun _ => rfl, fun _ _ => rfl⟩, ⟨⟨rfl, rfl, rfl, rfl, fun _ => rfl, fun j _ => rep_rowI _ j⟩, ⟨⟨rfl, rfl, rfl, rfl, nofun, fun _ _ => rfl⟩, trivial⟩⟩⟩⟩⟩⟩, trivial⟩⟩, ?_⟩
              rintro s0 m0 ⟨k, h, hk, hh, h2, h3, rfl, hmeas⟩
              by_cases hkl : k < N.ns.length
              · have hbk := hS.hd (N.ns.getD (k : Int).toNat nd0) (by simp [List.getD_eq_getElem?_getD, hkl])
                have hv := hlk k hkl
                conv => whnf
                conv => whnf
                conv => whnf
                conv => whnf
                refine ifB_dec (fun w4 => ?_) (fun w4 => ?_)
                · conv => whnf
                  conv => whnf
                  conv => whnf
                  conv => whnf
                  refine ⟨⟨(by omega), (by omega)⟩, ?_⟩
                  conv => whnf
                  conv => whnf
                  conv => whnf
                  conv => whnf
                  refine ifB_intro (fun w5 => ?_) (fun w5 => ?_)
                  · conv => whnf
                    conv => whnf
                    conv => whnf
                    conv => whnf
                    refine ⟨[], by kernel_rfl, ?_⟩
                    conv => whnf
                    conv => whnf
                    conv => whnf
                    conv => whnf
                    refine ⟨⟨(by omega), (by omega)⟩, ?_⟩
                    conv => whnf
                    conv => whnf
                    conv => whnf
                    conv => whnf
                    refine ⟨inK64 (by omega) (by omega), ?_⟩
                    conv => whnf
                    conv => whnf
                    conv => whnf
                    conv => whnf
                    refine ⟨⟨(by omega), (by omega)⟩, ?_⟩
                    refine ⟨_, fun i _ => rowI _ _ i _ (by first | omega | (simp only [List.length_set]; omega) | (simp only [List.length_replicate]; omega) | (simp only [List.length_set, List.length_replicate]; omega)), ?_⟩
                    conv => whnf
                    conv => whnf
                    conv => whnf
                    conv => whnf
                    refine ⟨inK64 (by omega) (by omega), ?_⟩
                    rw [if_pos (show (N.ns.getD k nd0).lake = true by first | exact w1 | exact w2 | exact w3 | exact w4 | exact w5 | exact w6)] at hv
                    have g1 := set_invI (v := 1000 * (N.ns.getD (k : Int).toNat nd0).head) h2 (by omega) hv.symm
                    conv => whnf
                    conv => whnf
                    conv => whnf
                    conv => whnf
                    refine ⟨_, _, ⟨⟨k + 1, _, by omega, (by rw [List.length_set]; exact hh), g1, fun i hi => (by rw [getD_setI, if_neg (by omega)]; exact h3 i (by omega)), rfl, rfl⟩, by omega⟩, ⟨⟨rfl, rfl, rfl, rfl⟩, ⟨⟨rfl, rfl, rfl, rfl, fun _ => rfl, fun _ _ => rfl⟩, ⟨⟨rfl, rfl, rfl, rfl, fun _ => rfl, fun _ _ => rfl⟩, ⟨⟨rfl, rfl, rfl, rfl, fun _ => rfl, fun _ _ => rfl⟩, ⟨⟨rfl, rfl, rfl, rfl, fun _ => rfl, fun _ _ => rfl⟩, ⟨⟨rfl, rfl, rfl, rfl, fun _ => rfl, fun _ _ => rfl⟩, ⟨⟨rfl, rfl, rfl, rfl, nofun, fun _ _ => rfl⟩, trivial⟩⟩⟩⟩⟩⟩, trivial⟩⟩
                  · conv => whnf
                    conv => whnf
                    conv => whnf
                    conv => whnf
                    refine ⟨inK64 (by omega) (by omega), ?_⟩
                    rw [if_neg (show ¬ (N.ns.getD k nd0).lake = true from Bool.eq_false_iff.1 (by first | exact w1 | exact w2 | exact w3 | exact w4 | exact w5 | exact w6))] at hv
                    have g1 : ∀ i, i < k + 1 → h.getD i 0 = (headsL N).getD i 0 := fun i hi => by
                      by_cases e : i < k
                      · exact h2 i e
                      · rw [show i = k by omega, hv]; exact h3 k (by omega)
                    conv => whnf
                    conv => whnf
                    conv => whnf
                    conv => whnf
                    refine ⟨_, _, ⟨⟨k + 1, h, by omega, hh, g1, fun i hi => h3 i (by omega), rfl, rfl⟩, by omega⟩, ⟨⟨rfl, rfl, rfl, rfl⟩, ⟨⟨rfl, rfl, rfl, rfl, fun _ => rfl, fun _ _ => rfl⟩, ⟨⟨rfl, rfl, rfl, rfl, fun _ => rfl, fun _ _ => rfl⟩, ⟨⟨rfl, rfl, rfl, rfl, fun _ => rfl, fun _ _ => rfl⟩, ⟨⟨rfl, rfl, rfl, rfl, fun _ => rfl, fun _ _ => rfl⟩, ⟨⟨rfl, rfl, rfl, rfl, fun _ => rfl, fun _ _ => rfl⟩, ⟨⟨rfl, rfl, rfl, rfl, nofun, fun _ _ => rfl⟩, trivial⟩⟩⟩⟩⟩⟩, trivial⟩⟩
                · (exfalso; omega)
              · have e : k = N.ns.length := by omega
                subst e
                have e : h = headsL N := ext_invI hh (headsL_len N) h2
                subst e
                clear h2 h3 hk hmeas
                conv => whnf
                conv => whnf
                conv => whnf
                conv => whnf
                refine ifB_dec (fun w4 => ?_) (fun w4 => ?_)
                · (exfalso; omega)
                · conv => whnf
                  conv => whnf
                  conv => whnf
                  conv => whnf
                  refine ⟨[], [2, 4, 5, 6, 12, 18], fun st mq => ∃ (i : Nat) (h : List Int), (i ≤ b.length) ∧ (h.length = N.ns.length) ∧ (foreL N.cs f (b.drop i) h = foreL N.cs f b (headsL N)) ∧ (∀ j, -(1000000000 + i * 17000000000000000) ≤ h.getD j 0 ∧ h.getD j 0 ≤ 1000000000 + i * 17000000000000000) ∧ st = ⟨[(2, .optr 0 0 0 0), (4, .optr 1 0 0 0), (5, .rslice 1 b.length fun i => [i64 (b.getD i (0, 0)).1]), (6, .rslice 1 b.length fun i => [i64 (b.getD i (0, 0)).2]), (12, .optr 5 0 0 0), (18, i64 i)], ⟨[⟨2, 1, fun _ => [listA 4 ndC nd0 N.ns, listA 6 cnC cn0 N.cs], 0, false, true, true⟩, ⟨2, 1, fun _ => [.eslice, .eslice], 0, false, true, true⟩, ⟨1, N.ns.length, fun i => [i64 (D.getD i 0)], 0, false, true, false⟩, ⟨1, N.cs.length, fun i => [i64 (f.getD i 0)], 0, false, true, false⟩, ⟨1, N.ns.length, fun i => [i64 (h.getD i 0)], 0, false, true, false⟩, ⟨2, 1, fun _ => [.oslice 3 0 0 N.cs.length (some N.cs.length), .oslice 4 0 0 N.ns.length (some N.ns.length)], 0, false, false, true⟩], [], none, 0⟩, []⟩ ∧ mq = b.length - i,
                    ⟨_, _, ⟨0, headsL N, by omega, headsL_len N, rfl, fun j => (by have := headsL_bd hS.hd j; omega), rfl, rfl⟩, ⟨⟨rfl, rfl, rfl, rfl⟩, ⟨⟨rfl, rfl, rfl, rfl, fun _ => rfl, fun _ _ => rfl⟩, ⟨⟨rfl, rfl, rfl, rfl, fun _ => rfl, fun _ _ => rfl⟩, ⟨⟨rfl, rfl, rfl, rfl, fun _ => rfl, fun _ _ => rfl⟩, ⟨⟨rfl, rfl, rfl, rfl, fun _ => rfl, fun _ _ => rfl⟩, ⟨⟨rfl, rfl, rfl, rfl, fun _ => rfl, fun _ _ => rfl⟩, ⟨⟨rfl, rfl, rfl, rfl, nofun, fun _ _ => rfl⟩, trivial⟩⟩⟩⟩⟩⟩, trivial⟩⟩, ?_⟩
                  rintro s0 m0 ⟨i, h, hi, hh, hf2, hb0, rfl, hmeas⟩
                  by_cases hil : i < b.length
                  · obtain ⟨hB, _⟩ := tree_at b (lakesB N) (i : Int).toNat hS.tr (by omega)
                    have hfb := back_flow b (lakesB N) (st0 N c q) (lakesB_len N) hs1 hS.tr hsum (st0_fl hS hq) (0 + (b.getD (i : Int).toNat (0, 0)).1.toNat)
                    rw [← hFd] at hfb
                    have i0 := hB.i0; have i1 := hB.i1; have v0 := hB.v0; have v1 := hB.v1; have o0 := hB.o0; have o1 := hB.o1
                    have hme := mem_getD (l := N.cs) (k := (b.getD (i : Int).toNat (0, 0)).1.toNat) (by omega)
                    have hres := hS.res _ hme
                    have hen := hS.ends _ hme
                    have hlw := lossW hres hfb
                    have hho := hb0 (0 + (N.cs.getD (b.getD (i : Int).toNat (0, 0)).1.toNat cn0).fr.toNat)
                    have hho2 := hb0 (0 + (N.cs.getD (b.getD (i : Int).toNat (0, 0)).1.toNat cn0).to.toNat)
                    have h22 := S39w (N.cs.getD (b.getD (i : Int).toNat (0, 0)).1.toNat cn0).res (f.getD (0 + (b.getD (i : Int).toNat (0, 0)).1.toNat) 0) hres hfb
                    rw [foreL_drop hil, show b.getD i (0, 0) = b.getD (i : Int).toNat (0, 0) from rfl] at hf2
                    have hst := stepH_two (f := f) (h := h) hB
                    conv => whnf
                    conv => whnf
                    conv => whnf
                    conv => whnf
                    conv => whnf
                    refine ifB_dec (fun w5 => ?_) (fun w5 => ?_)
                    · conv => whnf
                      conv => whnf
                      conv => whnf
                      conv => whnf
                      conv => whnf
                      refine ⟨[], by kernel_rfl, ?_⟩
                      conv => whnf
                      conv => whnf
                      conv => whnf
                      conv => whnf
                      conv => whnf
                      refine ⟨⟨(by omega), (by omega)⟩, ?_⟩
                      conv => whnf
                      conv => whnf
                      conv => whnf
                      conv => whnf
                      conv => whnf
                      refine ⟨⟨(by omega), (by omega)⟩, ?_⟩
                      conv => whnf
                      conv => whnf
                      conv => whnf
                      conv => whnf
                      conv => whnf
                      refine ⟨[], by kernel_rfl, ?_⟩
                      conv => whnf
                      conv => whnf
                      conv => whnf
                      conv => whnf
                      conv => whnf
                      refine ⟨⟨(by omega), (by omega)⟩, ?_⟩
                      conv => whnf
                      conv => whnf
                      conv => whnf
                      conv => whnf
                      conv => whnf
                      refine ifB_beq (fun w6 => ?_) (fun w6 => ?_)
                      · conv => whnf
                        conv => whnf
                        conv => whnf
                        conv => whnf
                        conv => whnf
                        refine ⟨[], by kernel_rfl, ?_⟩
                        conv => whnf
                        conv => whnf
                        conv => whnf
                        conv => whnf
                        conv => whnf
                        refine ⟨⟨(by omega), (by omega)⟩, ?_⟩
                        conv => whnf
                        conv => whnf
                        conv => whnf
                        conv => whnf
                        conv => whnf
                        refine ⟨⟨(by omega), (by omega)⟩, ?_⟩
                        conv => whnf
                        conv => whnf
                        conv => whnf
                        conv => whnf
                        conv => whnf
                        refine ⟨⟨(by omega), (by omega)⟩, ?_⟩
                        conv => whnf
                        conv => whnf
                        conv => whnf
                        conv => whnf
                        conv => whnf
                        refine .inl ⟨_, _, byX rfl (Sound1.pl (h22) rfl), ?_⟩
                        conv => whnf
                        conv => whnf
                        conv => whnf
                        conv => whnf
                        conv => whnf
                        refine ⟨inK64 (by omega) (by omega), ?_⟩
                        conv => whnf
                        conv => whnf
                        conv => whnf
                        conv => whnf
                        conv => whnf
                        refine ⟨⟨(by omega), (by omega)⟩, ?_⟩
                        refine ⟨_, fun i _ => rowI _ _ i _ (by first | omega | (simp only [List.length_set]; omega) | (simp only [List.length_replicate]; omega) | (simp only [List.length_set, List.length_replicate]; omega)), ?_⟩
                        conv => whnf
                        conv => whnf
                        conv => whnf
                        conv => whnf
                        conv => whnf
                        refine ⟨inK64 (by omega) (by omega), ?_⟩
                        rw [hst.1 (by first | exact w1 | exact w2 | exact w3 | exact w4 | exact w5 | exact w6)] at hf2
                        conv => whnf
                        conv => whnf
                        conv => whnf
                        conv => whnf
                        conv => whnf
                        refine ⟨_, _, ⟨⟨i + 1, _, by omega, (by rw [List.length_set]; exact hh), hf2, fun j => set_bdI (fun j => by have := hb0 j; omega) (by omega) j, rfl, rfl⟩, by omega⟩, ⟨⟨rfl, rfl, rfl, rfl⟩, ⟨⟨rfl, rfl, rfl, rfl, fun _ => rfl, fun _ _ => rfl⟩, ⟨⟨rfl, rfl, rfl, rfl, fun _ => rfl, fun _ _ => rfl⟩, ⟨⟨rfl, rfl, rfl, rfl, fun _ => rfl, fun _ _ => rfl⟩, ⟨⟨rfl, rfl, rfl, rfl, fun _ => rfl, fun _ _ => rfl⟩, ⟨⟨rfl, rfl, rfl, rfl, fun _ => rfl, fun _ _ => rfl⟩, ⟨⟨rfl, rfl, rfl, rfl, nofun, fun _ _ => rfl⟩, trivial⟩⟩⟩⟩⟩⟩, trivial⟩⟩
                      · conv => whnf
                        conv => whnf
                        conv => whnf
                        conv => whnf
                        conv => whnf
                        refine ⟨[], by kernel_rfl, ?_⟩
                        conv => whnf
                        conv => whnf
                        conv => whnf
                        conv => whnf
                        conv => whnf
                        refine ⟨⟨(by omega), (by omega)⟩, ?_⟩
                        conv => whnf
                        conv => whnf
                        conv => whnf
                        conv => whnf
                        conv => whnf
                        refine ⟨⟨(by omega), (by omega)⟩, ?_⟩
                        conv => whnf
                        conv => whnf
                        conv => whnf
                        conv => whnf
                        conv => whnf
                        refine ⟨⟨(by omega), (by omega)⟩, ?_⟩
                        conv => whnf
                        conv => whnf
                        conv => whnf
                        conv => whnf
                        conv => whnf
                        refine .inl ⟨_, _, byX rfl (Sound1.pl (h22) rfl), ?_⟩
                        conv => whnf
                        conv => whnf
                        conv => whnf
                        conv => whnf
                        conv => whnf
                        refine ⟨inK64 (by omega) (by omega), ?_⟩
                        conv => whnf
                        conv => whnf
                        conv => whnf
                        conv => whnf
                        conv => whnf
                        refine ⟨⟨(by omega), (by omega)⟩, ?_⟩
                        refine ⟨_, fun i _ => rowI _ _ i _ (by first | omega | (simp only [List.length_set]; omega) | (simp only [List.length_replicate]; omega) | (simp only [List.length_set, List.length_replicate]; omega)), ?_⟩
                        conv => whnf
                        conv => whnf
                        conv => whnf
                        conv => whnf
                        conv => whnf
                        refine ⟨inK64 (by omega) (by omega), ?_⟩
                        rw [hst.2 (by first | exact w1 | exact w2 | exact w3 | exact w4 | exact w5 | exact w6)] at hf2
                        conv => whnf
                        conv => whnf
                        conv => whnf
                        conv => whnf
                        conv => whnf
                        refine ⟨_, _, ⟨⟨i + 1, _, by omega, (by rw [List.length_set]; exact hh), hf2, fun j => set_bdI (fun j => by have := hb0 j; omega) (by omega) j, rfl, rfl⟩, by omega⟩, ⟨⟨rfl, rfl, rfl, rfl⟩, ⟨⟨rfl, rfl, rfl, rfl, fun _ => rfl, fun _ _ => rfl⟩, ⟨⟨rfl, rfl, rfl, rfl, fun _ => rfl, fun _ _ => rfl⟩, ⟨⟨rfl, rfl, rfl, rfl, fun _ => rfl, fun _ _ => rfl⟩, ⟨⟨rfl, rfl, rfl, rfl, fun _ => rfl, fun _ _ => rfl⟩, ⟨⟨rfl, rfl, rfl, rfl, fun _ => rfl, fun _ _ => rfl⟩, ⟨⟨rfl, rfl, rfl, rfl, nofun, fun _ _ => rfl⟩, trivial⟩⟩⟩⟩⟩⟩, trivial⟩⟩
                    · (exfalso; omega)
                  · have e : i = b.length := by omega
                    subst e
                    rw [List.drop_length, foreL] at hf2
                    conv => whnf
                    conv => whnf
                    conv => whnf
                    conv => whnf
                    conv => whnf
                    refine ifB_dec (fun w5 => ?_) (fun w5 => ?_)
                    · (exfalso; omega)
                    · conv => whnf
                      conv => whnf
                      conv => whnf
                      conv => whnf
                      conv => whnf
                      refine ⟨?_, nofun⟩
                      exact ave_agg2 (k := 4) (a := .rslice 1 N.cs.length _) (b := .rslice 1 N.ns.length _) ⟨rfl, (by rw [← hf, hFd]; rfl), fun j _ => by show [i64 (f.getD j 0)] = _; rw [hFd]; rfl⟩ ⟨rfl, (by rw [← hh, hf2, hFd]; rfl), fun j _ => by show [i64 (h.getD j 0)] = _; rw [hf2, hFd]; rfl⟩
    · have hqq := hS.ends (N.cs.getD c.toNat cn0) (mem_getD (by omega))
      have hb1 := hbd (0 + (N.cs.getD c.toNat cn0).fr.toNat)
      have hb2 := set_bdI (k := (N.cs.getD c.toNat cn0).fr.toNat) (v := (drawsL N).getD (0 + (N.cs.getD c.toNat cn0).fr.toNat) 0 + q) (A := -210000) (B := 210000) (l := drawsL N) (fun i => by have := hbd i; omega) (by omega) (0 + (N.cs.getD c.toNat cn0).to.toNat)
      have hdl := drawsL_len N
      have e0 := st0_pos (N := N) (q := q) hc0
      conv => whnf
      conv => whnf
      refine ifB_dec (fun w1 => ?_) (fun w1 => ?_)
      · (exfalso; omega)
      · conv => whnf
        conv => whnf
        refine ⟨[], by kernel_rfl, ?_⟩
        conv => whnf
        conv => whnf
        refine ⟨⟨(by omega), ⟨(by omega), ⟨(by omega), (by show _ * ((8 : Nat) : Int) ≤ _; omega)⟩⟩⟩, ?_⟩
        conv => whnf
        conv => whnf
        refine ⟨⟨(by omega), ⟨(by omega), ⟨(by omega), (by show _ * ((8 : Nat) : Int) ≤ _; omega)⟩⟩⟩, ?_⟩
        conv => whnf
        conv => whnf
        refine ifB_dec (fun w2 => ?_) (fun w2 => ?_)
        · conv => whnf
          conv => whnf
          refine ⟨⟨(by omega), (by omega)⟩, ?_⟩
          conv => whnf
          conv => whnf
          refine ⟨⟨(by omega), (by omega)⟩, ?_⟩
          refine ⟨_, fun _ _ => rfl, ?_⟩
          conv => whnf
          conv => whnf
          refine ⟨[], by kernel_rfl, ?_⟩
          conv => whnf
          conv => whnf
          refine ⟨⟨(by omega), (by omega)⟩, ?_⟩
          conv => whnf
          conv => whnf
          refine ⟨inK64 (by omega) (by omega), ?_⟩
          conv => whnf
          conv => whnf
          refine ⟨⟨(by omega), (by omega)⟩, ?_⟩
          refine ⟨_, fun i _ => rowI _ _ i _ (by first | omega | (simp only [List.length_set]; omega) | (simp only [List.length_replicate]; omega) | (simp only [List.length_set, List.length_replicate]; omega)), ?_⟩
          conv => whnf
          conv => whnf
          refine ⟨[], by kernel_rfl, ?_⟩
          conv => whnf
          conv => whnf
          refine ⟨⟨(by omega), (by omega)⟩, ?_⟩
          conv => whnf
          conv => whnf
          refine ⟨inK64 (by omega) (by omega), ?_⟩
          conv => whnf
          conv => whnf
          refine ⟨⟨(by omega), (by omega)⟩, ?_⟩
          refine ⟨_, fun i _ => rowI _ _ i _ (by first | omega | (simp only [List.length_set]; omega) | (simp only [List.length_replicate]; omega) | (simp only [List.length_set, List.length_replicate]; omega)), ?_⟩
          conv => whnf
          conv => whnf
          refine ⟨[], [2, 4, 5, 6, 10, 12, 14], fun st mq => ∃ (i : Nat) (f : List Int) (F6 : Nat → List AV), (i ≤ b.length) ∧ (f.length = N.cs.length) ∧ (setL F (b.drop i) f = F) ∧ st = ⟨[(2, .optr 0 0 0 0), (4, .optr 1 0 0 0), (5, .rslice 1 b.length fun i => [i64 (b.getD i (0, 0)).1]), (6, .rslice 1 b.length fun i => [i64 (b.getD i (0, 0)).2]), (10, .oslice 2 0 0 N.ns.length none), (12, .optr 5 0 0 0), (14, i64 i)], ⟨[⟨2, 1, fun _ => [listA 4 ndC nd0 N.ns, listA 6 cnC cn0 N.cs], 0, false, true, true⟩, ⟨2, 1, fun _ => [.eslice, .eslice], 0, false, true, true⟩, ⟨1, N.ns.length, fun i => [i64 (D.getD i 0)], 0, false, true, false⟩, ⟨1, N.cs.length, fun i => [i64 (f.getD i 0)], 0, false, true, false⟩, ⟨1, N.ns.length, fun i => [i64 0], 0, false, true, false⟩, ⟨2, 1, fun _ => [.oslice 3 0 0 N.cs.length (some N.cs.length), .oslice 4 0 0 N.ns.length (some N.ns.length)], 0, false, false, true⟩, ⟨6, 1, F6, 0, false, true, false⟩], [], none, 0⟩, []⟩ ∧ mq = b.length - i,
            ⟨_, _, ⟨0, (st0 N c q).1, _, by omega, hs0, hset, rfl, rfl⟩, ⟨⟨rfl, rfl, rfl, rfl⟩, ⟨⟨rfl, rfl, rfl, rfl, fun _ => rfl, fun _ _ => rfl⟩, ⟨⟨rfl, rfl, rfl, rfl, fun _ => rfl, fun _ _ => rfl⟩, ⟨⟨rfl, rfl, rfl, rfl, fun _ => rfl, fun j _ => (by rw [hD, e0]; simp only [Nat.zero_add]; rfl)⟩, ⟨⟨rfl, rfl, rfl, rfl, fun _ => rfl, fun j _ => (by rw [e0]; exact rep_setI (by omega) j)⟩, ⟨⟨rfl, rfl, rfl, rfl, fun _ => rfl, fun _ _ => rfl⟩, ⟨⟨rfl, rfl, rfl, rfl, nofun, fun _ _ => rfl⟩, ⟨⟨rfl, rfl, rfl, rfl, fun _ => rfl, fun _ _ => rfl⟩, trivial⟩⟩⟩⟩⟩⟩⟩, trivial⟩⟩, ?_⟩
          rintro s0 m0 ⟨i, f, F6, hi, hf, hse, rfl, hmeas⟩
          by_cases hil : i < b.length
          · have hfs := flow_sum (s := st0 N c q) (lakesB_len N) hs0 hs1 hS.ends hS.tr hil
            obtain ⟨hB, _⟩ := tree_at b (lakesB N) (i : Int).toNat hS.tr (by omega)
            have i0 := hB.i0; have i1 := hB.i1; have v0 := hB.v0; have v1 := hB.v1
            have hsg : signN (N.cs.getD (b.getD i (0, 0)).1.toNat cn0) (b.getD i (0, 0)).2 = if (N.cs.getD (b.getD i (0, 0)).1.toNat cn0).to = (b.getD i (0, 0)).2 then 1 else -1 := rfl
            rw [hsg, ← hD, ← hFd] at hfs
            rw [setL_drop hil] at hse
            conv => whnf
            conv => whnf
            conv => whnf
            refine ifB_dec (fun w3 => ?_) (fun w3 => ?_)
            · conv => whnf
              conv => whnf
              conv => whnf
              refine ⟨[], [2, 4, 5, 6, 10, 12, 14, 15, 16], fun st mq => ∃ (k : Nat) (sm : Int) (F6 : Nat → List AV), (i ≤ k ∧ k ≤ b.length) ∧ ((k = i ∧ sm = 0) ∨ (i < k ∧ sm + sumRt (rootOf N.cs (b.drop (i + 1))) (b.getD i (0, 0)).2 D (b.drop k) = D.getD (b.getD i (0, 0)).2.toNat 0 + sumRt (rootOf N.cs (b.drop (i + 1))) (b.getD i (0, 0)).2 D (b.drop (i + 1)))) ∧ (-((k : Int) * 410000) ≤ sm ∧ sm ≤ (k : Int) * 410000) ∧ st = ⟨[(2, .optr 0 0 0 0), (4, .optr 1 0 0 0), (5, .rslice 1 b.length fun i => [i64 (b.getD i (0, 0)).1]), (6, .rslice 1 b.length fun i => [i64 (b.getD i (0, 0)).2]), (10, .oslice 2 0 0 N.ns.length none), (12, .optr 5 0 0 0), (14, i64 i), (15, i64 sm), (16, i64 k)], ⟨[⟨2, 1, fun _ => [listA 4 ndC nd0 N.ns, listA 6 cnC cn0 N.cs], 0, false, true, true⟩, ⟨2, 1, fun _ => [.eslice, .eslice], 0, false, true, true⟩, ⟨1, N.ns.length, fun i => [i64 (D.getD i 0)], 0, false, true, false⟩, ⟨1, N.cs.length, fun i => [i64 (f.getD i 0)], 0, false, true, false⟩, ⟨1, N.ns.length, fun i => [i64 0], 0, false, true, false⟩, ⟨2, 1, fun _ => [.oslice 3 0 0 N.cs.length (some N.cs.length), .oslice 4 0 0 N.ns.length (some N.ns.length)], 0, false, false, true⟩, ⟨6, 1, F6, 0, false, true, false⟩], [], none, 0⟩, []⟩ ∧ mq = b.length - k,
                ⟨_, _, ⟨i, 0, _, by omega, .inl ⟨rfl, rfl⟩, by omega, rfl, rfl⟩, ⟨⟨rfl, rfl, rfl, rfl⟩, ⟨⟨rfl, rfl, rfl, rfl, fun _ => rfl, fun _ _ => rfl⟩, ⟨⟨rfl, rfl, rfl, rfl, fun _ => rfl, fun _ _ => rfl⟩, ⟨⟨rfl, rfl, rfl, rfl, fun _ => rfl, fun _ _ => rfl⟩, ⟨⟨rfl, rfl, rfl, rfl, fun _ => rfl, fun _ _ => rfl⟩, ⟨⟨rfl, rfl, rfl, rfl, fun _ => rfl, fun _ _ => rfl⟩, ⟨⟨rfl, rfl, rfl, rfl, nofun, fun _ _ => rfl⟩, ⟨⟨rfl, rfl, rfl, rfl, fun _ => rfl, fun _ _ => rfl⟩, trivial⟩⟩⟩⟩⟩⟩⟩, trivial⟩⟩, ?_⟩
              rintro s0 m0 ⟨k, sm, F6, hk, hsm, hbs, rfl, hmeas⟩
              by_cases hkl : k < b.length
              · have h143 := S38 N b c hS k i hk.1 hkl
                obtain ⟨hB2, _⟩ := tree_at b (lakesB N) (k : Int).toNat hS.tr (by omega)
                have k0 := hB2.v0; have k1 := hB2.v1
                have hdk := hDb (0 + (b.getD (k : Int).toNat (0, 0)).2.toNat)
                have hdp := sumRt_drop (g := rootOf N.cs (b.drop (i + 1))) (w := (b.getD i (0, 0)).2) (D := D) hkl
                conv => whnf
                conv => whnf
                conv => whnf
                conv => whnf
                refine ifB_dec (fun w4 => ?_) (fun w4 => ?_)
                · conv => whnf
                  conv => whnf
                  conv => whnf
                  conv => whnf
                  refine .inl ⟨_, _, byX rfl (Sound1.pl (h143) rfl), ?_⟩
                  conv => whnf
                  conv => whnf
                  conv => whnf
                  conv => whnf
                  refine ifB_dec (fun w5 => ?_) (fun w5 => ?_)
                  · conv => whnf
                    conv => whnf
                    conv => whnf
                    conv => whnf
                    refine ⟨⟨(by omega), (by omega)⟩, ?_⟩
                    conv => whnf
                    conv => whnf
                    conv => whnf
                    conv => whnf
                    refine ⟨⟨(by omega), (by omega)⟩, ?_⟩
                    conv => whnf
                    conv => whnf
                    conv => whnf
                    conv => whnf
                    refine ⟨inK64 (by omega) (by omega), ?_⟩
                    conv => whnf
                    conv => whnf
                    conv => whnf
                    conv => whnf
                    refine ⟨inK64 (by omega) (by omega), ?_⟩
                    have ht : k = i ∨ rootOf N.cs (b.drop (i + 1)) (b.getD k (0, 0)).2 = (b.getD i (0, 0)).2 := by first | exact w2 | exact w3 | exact w4 | exact w5 | exact w6 | exact w7
                    have e1 : sm + D.getD (0 + (b.getD (k : Int).toNat (0, 0)).2.toNat) 0 + sumRt (rootOf N.cs (b.drop (i + 1))) (b.getD i (0, 0)).2 D (b.drop (k + 1)) = D.getD (b.getD i (0, 0)).2.toNat 0 + sumRt (rootOf N.cs (b.drop (i + 1))) (b.getD i (0, 0)).2 D (b.drop (i + 1)) := by
                      rw [Nat.zero_add, Int.toNat_natCast]
                      rcases hsm with ⟨a, e⟩ | ⟨a, e⟩
                      · subst a; omega
                      · rw [if_pos (ht.resolve_left (by omega))] at hdp; omega
                    conv => whnf
                    conv => whnf
                    conv => whnf
                    conv => whnf
                    refine ⟨_, _, ⟨⟨k + 1, _, _, by omega, .inr ⟨by omega, e1⟩, by omega, rfl, rfl⟩, by omega⟩, ⟨⟨rfl, rfl, rfl, rfl⟩, ⟨⟨rfl, rfl, rfl, rfl, fun _ => rfl, fun _ _ => rfl⟩, ⟨⟨rfl, rfl, rfl, rfl, fun _ => rfl, fun _ _ => rfl⟩, ⟨⟨rfl, rfl, rfl, rfl, fun _ => rfl, fun _ _ => rfl⟩, ⟨⟨rfl, rfl, rfl, rfl, fun _ => rfl, fun _ _ => rfl⟩, ⟨⟨rfl, rfl, rfl, rfl, fun _ => rfl, fun _ _ => rfl⟩, ⟨⟨rfl, rfl, rfl, rfl, nofun, fun _ _ => rfl⟩, ⟨⟨rfl, rfl, rfl, rfl, fun _ => rfl, fun _ _ => rfl⟩, trivial⟩⟩⟩⟩⟩⟩⟩, trivial⟩⟩
                  · conv => whnf
                    conv => whnf
                    conv => whnf
                    conv => whnf
                    refine ⟨inK64 (by omega) (by omega), ?_⟩
                    have ht : ¬ (k = i ∨ rootOf N.cs (b.drop (i + 1)) (b.getD k (0, 0)).2 = (b.getD i (0, 0)).2) := by first | exact w2 | exact w3 | exact w4 | exact w5 | exact w6 | exact w7
                    have e1 : sm + sumRt (rootOf N.cs (b.drop (i + 1))) (b.getD i (0, 0)).2 D (b.drop (k + 1)) = D.getD (b.getD i (0, 0)).2.toNat 0 + sumRt (rootOf N.cs (b.drop (i + 1))) (b.getD i (0, 0)).2 D (b.drop (i + 1)) ∧ i < k := by
                      rcases hsm with ⟨a, e⟩ | ⟨a, e⟩
                      · exact absurd (.inl a) ht
                      · rw [if_neg (fun h => ht (.inr h))] at hdp; exact ⟨by omega, a⟩
                    conv => whnf
                    conv => whnf
                    conv => whnf
                    conv => whnf
                    refine ⟨_, _, ⟨⟨k + 1, _, _, by omega, .inr ⟨by omega, e1.1⟩, by omega, rfl, rfl⟩, by omega⟩, ⟨⟨rfl, rfl, rfl, rfl⟩, ⟨⟨rfl, rfl, rfl, rfl, fun _ => rfl, fun _ _ => rfl⟩, ⟨⟨rfl, rfl, rfl, rfl, fun _ => rfl, fun _ _ => rfl⟩, ⟨⟨rfl, rfl, rfl, rfl, fun _ => rfl, fun _ _ => rfl⟩, ⟨⟨rfl, rfl, rfl, rfl, fun _ => rfl, fun _ _ => rfl⟩, ⟨⟨rfl, rfl, rfl, rfl, fun _ => rfl, fun _ _ => rfl⟩, ⟨⟨rfl, rfl, rfl, rfl, nofun, fun _ _ => rfl⟩, ⟨⟨rfl, rfl, rfl, rfl, fun _ => rfl, fun _ _ => rfl⟩, trivial⟩⟩⟩⟩⟩⟩⟩, trivial⟩⟩
                · (exfalso; omega)
              · have e : k = b.length := by omega
                subst e
                rw [List.drop_length, sumRt] at hsm
                have e : sm = D.getD (b.getD i (0, 0)).2.toNat 0 + sumRt (rootOf N.cs (b.drop (i + 1))) (b.getD i (0, 0)).2 D (b.drop (i + 1)) := by omega
                rw [← e] at hfs
                conv => whnf
                conv => whnf
                conv => whnf
                conv => whnf
                refine ifB_dec (fun w4 => ?_) (fun w4 => ?_)
                · (exfalso; omega)
                · conv => whnf
                  conv => whnf
                  conv => whnf
                  conv => whnf
                  refine ⟨[], by kernel_rfl, ?_⟩
                  conv => whnf
                  conv => whnf
                  conv => whnf
                  conv => whnf
                  refine ⟨⟨(by omega), (by omega)⟩, ?_⟩
                  conv => whnf
                  conv => whnf
                  conv => whnf
                  conv => whnf
                  refine ⟨⟨(by omega), (by omega)⟩, ?_⟩
                  conv => whnf
                  conv => whnf
                  conv => whnf
                  conv => whnf
                  refine ⟨⟨(by omega), (by omega)⟩, ?_⟩
                  conv => whnf
                  conv => whnf
                  conv => whnf
                  conv => whnf
                  refine ifB_beq (fun w5 => ?_) (fun w5 => ?_)
                  · conv => whnf
                    conv => whnf
                    conv => whnf
                    conv => whnf
                    refine ⟨[], by kernel_rfl, ?_⟩
                    conv => whnf
                    conv => whnf
                    conv => whnf
                    conv => whnf
                    refine ⟨⟨(by omega), (by omega)⟩, ?_⟩
                    conv => whnf
                    conv => whnf
                    conv => whnf
                    conv => whnf
                    refine ⟨⟨(by omega), (by omega)⟩, ?_⟩
                    refine ⟨_, fun i _ => rowI _ _ i _ (by first | omega | (simp only [List.length_set]; omega) | (simp only [List.length_replicate]; omega) | (simp only [List.length_set, List.length_replicate]; omega)), ?_⟩
                    conv => whnf
                    conv => whnf
                    conv => whnf
                    conv => whnf
                    refine ⟨inK64 (by omega) (by omega), ?_⟩
                    rw [if_pos (show (N.cs.getD (b.getD i (0, 0)).1.toNat cn0).to = (b.getD i (0, 0)).2 by first | exact w2 | exact w3 | exact w4 | exact w5 | exact w6 | exact w7), Int.one_mul] at hfs
                    rw [hfs] at hse
                    conv => whnf
                    conv => whnf
                    conv => whnf
                    conv => whnf
                    refine ⟨_, _, ⟨⟨i + 1, f.set (b.getD i (0, 0)).1.toNat sm, _, by omega, (by rw [List.length_set]; exact hf), hse, rfl, rfl⟩, by omega⟩, ⟨⟨rfl, rfl, rfl, rfl⟩, ⟨⟨rfl, rfl, rfl, rfl, fun _ => rfl, fun _ _ => rfl⟩, ⟨⟨rfl, rfl, rfl, rfl, fun _ => rfl, fun _ _ => rfl⟩, ⟨⟨rfl, rfl, rfl, rfl, fun _ => rfl, fun _ _ => rfl⟩, ⟨⟨rfl, rfl, rfl, rfl, fun _ => rfl, fun _ _ => rfl⟩, ⟨⟨rfl, rfl, rfl, rfl, fun _ => rfl, fun _ _ => rfl⟩, ⟨⟨rfl, rfl, rfl, rfl, nofun, fun _ _ => rfl⟩, ⟨⟨rfl, rfl, rfl, rfl, fun _ => rfl, fun _ _ => rfl⟩, trivial⟩⟩⟩⟩⟩⟩⟩, trivial⟩⟩
                  · conv => whnf
                    conv => whnf
                    conv => whnf
                    conv => whnf
                    refine ⟨[], by kernel_rfl, ?_⟩
                    conv => whnf
                    conv => whnf
                    conv => whnf
                    conv => whnf
                    refine ⟨⟨(by omega), (by omega)⟩, ?_⟩
                    conv => whnf
                    conv => whnf
                    conv => whnf
                    conv => whnf
                    refine ⟨inK64 (by omega) (by omega), ?_⟩
                    conv => whnf
                    conv => whnf
                    conv => whnf
                    conv => whnf
                    refine ⟨⟨(by omega), (by omega)⟩, ?_⟩
                    refine ⟨_, fun i _ => rowI _ _ i _ (by first | omega | (simp only [List.length_set]; omega) | (simp only [List.length_replicate]; omega) | (simp only [List.length_set, List.length_replicate]; omega)), ?_⟩
                    conv => whnf
                    conv => whnf
                    conv => whnf
                    conv => whnf
                    refine ⟨inK64 (by omega) (by omega), ?_⟩
                    rw [if_neg (show ¬ (N.cs.getD (b.getD i (0, 0)).1.toNat cn0).to = (b.getD i (0, 0)).2 by first | exact w2 | exact w3 | exact w4 | exact w5 | exact w6 | exact w7), Int.neg_mul, Int.one_mul] at hfs
                    rw [hfs] at hse
                    conv => whnf
                    conv => whnf
                    conv => whnf
                    conv => whnf
                    refine ⟨_, _, ⟨⟨i + 1, f.set (b.getD i (0, 0)).1.toNat (-sm), _, by omega, (by rw [List.length_set]; exact hf), hse, rfl, rfl⟩, by omega⟩, ⟨⟨rfl, rfl, rfl, rfl⟩, ⟨⟨rfl, rfl, rfl, rfl, fun _ => rfl, fun _ _ => rfl⟩, ⟨⟨rfl, rfl, rfl, rfl, fun _ => rfl, fun _ _ => rfl⟩, ⟨⟨rfl, rfl, rfl, rfl, fun _ => rfl, fun _ _ => rfl⟩, ⟨⟨rfl, rfl, rfl, rfl, fun _ => rfl, fun _ _ => rfl⟩, ⟨⟨rfl, rfl, rfl, rfl, fun _ => rfl, fun _ _ => rfl⟩, ⟨⟨rfl, rfl, rfl, rfl, nofun, fun _ _ => rfl⟩, ⟨⟨rfl, rfl, rfl, rfl, fun _ => rfl, fun _ _ => rfl⟩, trivial⟩⟩⟩⟩⟩⟩⟩, trivial⟩⟩
            · (exfalso; omega)
          · have e : i = b.length := by omega
            subst e
            rw [List.drop_length] at hse
            have e : f = F := hse
            subst e
            conv => whnf
            conv => whnf
            conv => whnf
            refine ifB_dec (fun w3 => ?_) (fun w3 => ?_)
            · (exfalso; omega)
            · conv => whnf
              conv => whnf
              conv => whnf
              refine ⟨[], [2, 4, 5, 6, 12, 17], fun st mq => ∃ (k : Nat) (h : List Int) (F6 : Nat → List AV), (k ≤ N.ns.length) ∧ (h.length = N.ns.length) ∧ (∀ i, i < k → h.getD i 0 = (headsL N).getD i 0) ∧ (∀ i, k ≤ i → h.getD i 0 = 0) ∧ st = ⟨[(2, .optr 0 0 0 0), (4, .optr 1 0 0 0), (5, .rslice 1 b.length fun i => [i64 (b.getD i (0, 0)).1]), (6, .rslice 1 b.length fun i => [i64 (b.getD i (0, 0)).2]), (12, .optr 5 0 0 0), (17, i64 k)], ⟨[⟨2, 1, fun _ => [listA 4 ndC nd0 N.ns, listA 6 cnC cn0 N.cs], 0, false, true, true⟩, ⟨2, 1, fun _ => [.eslice, .eslice], 0, false, true, true⟩, ⟨1, N.ns.length, fun i => [i64 (D.getD i 0)], 0, false, true, false⟩, ⟨1, N.cs.length, fun i => [i64 (f.getD i 0)], 0, false, true, false⟩, ⟨1, N.ns.length, fun i => [i64 (h.getD i 0)], 0, false, true, false⟩, ⟨2, 1, fun _ => [.oslice 3 0 0 N.cs.length (some N.cs.length), .oslice 4 0 0 N.ns.length (some N.ns.length)], 0, false, false, true⟩, ⟨6, 1, F6, 0, false, true, false⟩], [], none, 0⟩, []⟩ ∧ mq = N.ns.length - k,
                ⟨_, _, ⟨0, List.replicate N.ns.length 0, _, by omega, by simp, fun i h => absurd h (Nat.not_lt_zero i), fun i _ => rep0 _ i, rfl, rfl⟩, ⟨⟨rfl, rfl, rfl, rfl⟩, ⟨⟨rfl, rfl, rfl, rfl, fun _ => rfl, fun _ _ => rfl⟩, ⟨⟨rfl, rfl, rfl, rfl, fun _ => rfl, fun _ _ => rfl⟩, ⟨⟨rfl, rfl, rfl, rfl, fun _ => rfl, fun _ _ => rfl⟩, ⟨⟨rfl, rfl, rfl, rfl, fun _ => rfl, fun _ _ => rfl⟩, ⟨⟨rfl, rfl, rfl, rfl, fun _ => rfl, fun j _ => rep_rowI _ j⟩, ⟨⟨rfl, rfl, rfl, rfl, nofun, fun _ _ => rfl⟩, ⟨⟨rfl, rfl, rfl, rfl, fun _ => rfl, fun _ _ => rfl⟩, trivial⟩⟩⟩⟩⟩⟩⟩, trivial⟩⟩, ?_⟩
              rintro s0 m0 ⟨k, h, F6, hk, hh, h2, h3, rfl, hmeas⟩
              by_cases hkl : k < N.ns.length
              · have hbk := hS.hd (N.ns.getD (k : Int).toNat nd0) (by simp [List.getD_eq_getElem?_getD, hkl])
                have hv := hlk k hkl
                conv => whnf
                conv => whnf
                conv => whnf
                conv => whnf
                refine ifB_dec (fun w4 => ?_) (fun w4 => ?_)
                · conv => whnf
                  conv => whnf
                  conv => whnf
                  conv => whnf
                  refine ⟨⟨(by omega), (by omega)⟩, ?_⟩
                  conv => whnf
                  conv => whnf
                  conv => whnf
                  conv => whnf
                  refine ifB_intro (fun w5 => ?_) (fun w5 => ?_)
                  · conv => whnf
                    conv => whnf
                    conv => whnf
                    conv => whnf
                    refine ⟨[], by kernel_rfl, ?_⟩
                    conv => whnf
                    conv => whnf
                    conv => whnf
                    conv => whnf
                    refine ⟨⟨(by omega), (by omega)⟩, ?_⟩
                    conv => whnf
                    conv => whnf
                    conv => whnf
                    conv => whnf
                    refine ⟨inK64 (by omega) (by omega), ?_⟩
                    conv => whnf
                    conv => whnf
                    conv => whnf
                    conv => whnf
                    refine ⟨⟨(by omega), (by omega)⟩, ?_⟩
                    refine ⟨_, fun i _ => rowI _ _ i _ (by first | omega | (simp only [List.length_set]; omega) | (simp only [List.length_replicate]; omega) | (simp only [List.length_set, List.length_replicate]; omega)), ?_⟩
                    conv => whnf
                    conv => whnf
                    conv => whnf
                    conv => whnf
                    refine ⟨inK64 (by omega) (by omega), ?_⟩
                    rw [if_pos (show (N.ns.getD k nd0).lake = true by first | exact w1 | exact w2 | exact w3 | exact w4 | exact w5 | exact w6)] at hv
                    have g1 := set_invI (v := 1000 * (N.ns.getD (k : Int).toNat nd0).head) h2 (by omega) hv.symm
                    conv => whnf
                    conv => whnf
                    conv => whnf
                    conv => whnf
                    refine ⟨_, _, ⟨⟨k + 1, _, _, by omega, (by rw [List.length_set]; exact hh), g1, fun i hi => (by rw [getD_setI, if_neg (by omega)]; exact h3 i (by omega)), rfl, rfl⟩, by omega⟩, ⟨⟨rfl, rfl, rfl, rfl⟩, ⟨⟨rfl, rfl, rfl, rfl, fun _ => rfl, fun _ _ => rfl⟩, ⟨⟨rfl, rfl, rfl, rfl, fun _ => rfl, fun _ _ => rfl⟩, ⟨⟨rfl, rfl, rfl, rfl, fun _ => rfl, fun _ _ => rfl⟩, ⟨⟨rfl, rfl, rfl, rfl, fun _ => rfl, fun _ _ => rfl⟩, ⟨⟨rfl, rfl, rfl, rfl, fun _ => rfl, fun _ _ => rfl⟩, ⟨⟨rfl, rfl, rfl, rfl, nofun, fun _ _ => rfl⟩, ⟨⟨rfl, rfl, rfl, rfl, fun _ => rfl, fun _ _ => rfl⟩, trivial⟩⟩⟩⟩⟩⟩⟩, trivial⟩⟩
                  · conv => whnf
                    conv => whnf
                    conv => whnf
                    conv => whnf
                    refine ⟨inK64 (by omega) (by omega), ?_⟩
                    rw [if_neg (show ¬ (N.ns.getD k nd0).lake = true from Bool.eq_false_iff.1 (by first | exact w1 | exact w2 | exact w3 | exact w4 | exact w5 | exact w6))] at hv
                    have g1 : ∀ i, i < k + 1 → h.getD i 0 = (headsL N).getD i 0 := fun i hi => by
                      by_cases e : i < k
                      · exact h2 i e
                      · rw [show i = k by omega, hv]; exact h3 k (by omega)
                    conv => whnf
                    conv => whnf
                    conv => whnf
                    conv => whnf
                    refine ⟨_, _, ⟨⟨k + 1, h, _, by omega, hh, g1, fun i hi => h3 i (by omega), rfl, rfl⟩, by omega⟩, ⟨⟨rfl, rfl, rfl, rfl⟩, ⟨⟨rfl, rfl, rfl, rfl, fun _ => rfl, fun _ _ => rfl⟩, ⟨⟨rfl, rfl, rfl, rfl, fun _ => rfl, fun _ _ => rfl⟩, ⟨⟨rfl, rfl, rfl, rfl, fun _ => rfl, fun _ _ => rfl⟩, ⟨⟨rfl, rfl, rfl, rfl, fun _ => rfl, fun _ _ => rfl⟩, ⟨⟨rfl, rfl, rfl, rfl, fun _ => rfl, fun _ _ => rfl⟩, ⟨⟨rfl, rfl, rfl, rfl, nofun, fun _ _ => rfl⟩, ⟨⟨rfl, rfl, rfl, rfl, fun _ => rfl, fun _ _ => rfl⟩, trivial⟩⟩⟩⟩⟩⟩⟩, trivial⟩⟩
                · (exfalso; omega)
              · have e : k = N.ns.length := by omega
                subst e
                have e : h = headsL N := ext_invI hh (headsL_len N) h2
                subst e
                clear h2 h3 hk hmeas
                conv => whnf
                conv => whnf
                conv => whnf
                conv => whnf
                refine ifB_dec (fun w4 => ?_) (fun w4 => ?_)
                · (exfalso; omega)
                · conv => whnf
                  conv => whnf
                  conv => whnf
                  conv => whnf
                  refine ⟨[], [2, 4, 5, 6, 12, 18], fun st mq => ∃ (i : Nat) (h : List Int) (F6 : Nat → List AV), (i ≤ b.length) ∧ (h.length = N.ns.length) ∧ (foreL N.cs f (b.drop i) h = foreL N.cs f b (headsL N)) ∧ (∀ j, -(1000000000 + i * 17000000000000000) ≤ h.getD j 0 ∧ h.getD j 0 ≤ 1000000000 + i * 17000000000000000) ∧ st = ⟨[(2, .optr 0 0 0 0), (4, .optr 1 0 0 0), (5, .rslice 1 b.length fun i => [i64 (b.getD i (0, 0)).1]), (6, .rslice 1 b.length fun i => [i64 (b.getD i (0, 0)).2]), (12, .optr 5 0 0 0), (18, i64 i)], ⟨[⟨2, 1, fun _ => [listA 4 ndC nd0 N.ns, listA 6 cnC cn0 N.cs], 0, false, true, true⟩, ⟨2, 1, fun _ => [.eslice, .eslice], 0, false, true, true⟩, ⟨1, N.ns.length, fun i => [i64 (D.getD i 0)], 0, false, true, false⟩, ⟨1, N.cs.length, fun i => [i64 (f.getD i 0)], 0, false, true, false⟩, ⟨1, N.ns.length, fun i => [i64 (h.getD i 0)], 0, false, true, false⟩, ⟨2, 1, fun _ => [.oslice 3 0 0 N.cs.length (some N.cs.length), .oslice 4 0 0 N.ns.length (some N.ns.length)], 0, false, false, true⟩, ⟨6, 1, F6, 0, false, true, false⟩], [], none, 0⟩, []⟩ ∧ mq = b.length - i,
                    ⟨_, _, ⟨0, headsL N, _, by omega, headsL_len N, rfl, fun j => (by have := headsL_bd hS.hd j; omega), rfl, rfl⟩, ⟨⟨rfl, rfl, rfl, rfl⟩, ⟨⟨rfl, rfl, rfl, rfl, fun _ => rfl, fun _ _ => rfl⟩, ⟨⟨rfl, rfl, rfl, rfl, fun _ => rfl, fun _ _ => rfl⟩, ⟨⟨rfl, rfl, rfl, rfl, fun _ => rfl, fun _ _ => rfl⟩, ⟨⟨rfl, rfl, rfl, rfl, fun _ => rfl, fun _ _ => rfl⟩, ⟨⟨rfl, rfl, rfl, rfl, fun _ => rfl, fun _ _ => rfl⟩, ⟨⟨rfl, rfl, rfl, rfl, nofun, fun _ _ => rfl⟩, ⟨⟨rfl, rfl, rfl, rfl, fun _ => rfl, fun _ _ => rfl⟩, trivial⟩⟩⟩⟩⟩⟩⟩, trivial⟩⟩, ?_⟩
                  rintro s0 m0 ⟨i, h, F6, hi, hh, hf2, hb0, rfl, hmeas⟩
                  by_cases hil : i < b.length
                  · obtain ⟨hB, _⟩ := tree_at b (lakesB N) (i : Int).toNat hS.tr (by omega)
                    have hfb := back_flow b (lakesB N) (st0 N c q) (lakesB_len N) hs1 hS.tr hsum (st0_fl hS hq) (0 + (b.getD (i : Int).toNat (0, 0)).1.toNat)
                    rw [← hFd] at hfb
                    have i0 := hB.i0; have i1 := hB.i1; have v0 := hB.v0; have v1 := hB.v1; have o0 := hB.o0; have o1 := hB.o1
                    have hme := mem_getD (l := N.cs) (k := (b.getD (i : Int).toNat (0, 0)).1.toNat) (by omega)
                    have hres := hS.res _ hme
                    have hen := hS.ends _ hme
                    have hlw := lossW hres hfb
                    have hho := hb0 (0 + (N.cs.getD (b.getD (i : Int).toNat (0, 0)).1.toNat cn0).fr.toNat)
                    have hho2 := hb0 (0 + (N.cs.getD (b.getD (i : Int).toNat (0, 0)).1.toNat cn0).to.toNat)
                    have h22 := S39w (N.cs.getD (b.getD (i : Int).toNat (0, 0)).1.toNat cn0).res (f.getD (0 + (b.getD (i : Int).toNat (0, 0)).1.toNat) 0) hres hfb
                    rw [foreL_drop hil, show b.getD i (0, 0) = b.getD (i : Int).toNat (0, 0) from rfl] at hf2
                    have hst := stepH_two (f := f) (h := h) hB
                    conv => whnf
                    conv => whnf
                    conv => whnf
                    conv => whnf
                    conv => whnf
                    refine ifB_dec (fun w5 => ?_) (fun w5 => ?_)
                    · conv => whnf
                      conv => whnf
                      conv => whnf
                      conv => whnf
                      conv => whnf
                      refine ⟨[], by kernel_rfl, ?_⟩
                      conv => whnf
                      conv => whnf
                      conv => whnf
                      conv => whnf
                      conv => whnf
                      refine ⟨⟨(by omega), (by omega)⟩, ?_⟩
                      conv => whnf
                      conv => whnf
                      conv => whnf
                      conv => whnf
                      conv => whnf
                      refine ⟨⟨(by omega), (by omega)⟩, ?_⟩
                      conv => whnf
                      conv => whnf
                      conv => whnf
                      conv => whnf
                      conv => whnf
                      refine ⟨[], by kernel_rfl, ?_⟩
                      conv => whnf
                      conv => whnf
                      conv => whnf
                      conv => whnf
                      conv => whnf
                      refine ⟨⟨(by omega), (by omega)⟩, ?_⟩
                      conv => whnf
                      conv => whnf
                      conv => whnf
                      conv => whnf
                      conv => whnf
                      refine ifB_beq (fun w6 => ?_) (fun w6 => ?_)
                      · conv => whnf
                        conv => whnf
                        conv => whnf
                        conv => whnf
                        conv => whnf
                        refine ⟨[], by kernel_rfl, ?_⟩
                        conv => whnf
                        conv => whnf
                        conv => whnf
                        conv => whnf
                        conv => whnf
                        refine ⟨⟨(by omega), (by omega)⟩, ?_⟩
                        conv => whnf
                        conv => whnf
                        conv => whnf
                        conv => whnf
                        conv => whnf
                        refine ⟨⟨(by omega), (by omega)⟩, ?_⟩
                        conv => whnf
                        conv => whnf
                        conv => whnf
                        conv => whnf
                        conv => whnf
                        refine ⟨⟨(by omega), (by omega)⟩, ?_⟩
                        conv => whnf
                        conv => whnf
                        conv => whnf
                        conv => whnf
                        conv => whnf
                        refine .inl ⟨_, _, byX rfl (Sound1.pl (h22) rfl), ?_⟩
                        conv => whnf
                        conv => whnf
                        conv => whnf
                        conv => whnf
                        conv => whnf
                        refine ⟨inK64 (by omega) (by omega), ?_⟩
                        conv => whnf
                        conv => whnf
                        conv => whnf
                        conv => whnf
                        conv => whnf
                        refine ⟨⟨(by omega), (by omega)⟩, ?_⟩
                        refine ⟨_, fun i _ => rowI _ _ i _ (by first | omega | (simp only [List.length_set]; omega) | (simp only [List.length_replicate]; omega) | (simp only [List.length_set, List.length_replicate]; omega)), ?_⟩
                        conv => whnf
                        conv => whnf
                        conv => whnf
                        conv => whnf
                        conv => whnf
                        refine ⟨inK64 (by omega) (by omega), ?_⟩
                        rw [hst.1 (by first | exact w1 | exact w2 | exact w3 | exact w4 | exact w5 | exact w6)] at hf2
                        conv => whnf
                        conv => whnf
                        conv => whnf
                        conv => whnf
                        conv => whnf
                        refine ⟨_, _, ⟨⟨i + 1, _, _, by omega, (by rw [List.length_set]; exact hh), hf2, fun j => set_bdI (fun j => by have := hb0 j; omega) (by omega) j, rfl, rfl⟩, by omega⟩, ⟨⟨rfl, rfl, rfl, rfl⟩, ⟨⟨rfl, rfl, rfl, rfl, fun _ => rfl, fun _ _ => rfl⟩, ⟨⟨rfl, rfl, rfl, rfl, fun _ => rfl, fun _ _ => rfl⟩, ⟨⟨rfl, rfl, rfl, rfl, fun _ => rfl, fun _ _ => rfl⟩, ⟨⟨rfl, rfl, rfl, rfl, fun _ => rfl, fun _ _ => rfl⟩, ⟨⟨rfl, rfl, rfl, rfl, fun _ => rfl, fun _ _ => rfl⟩, ⟨⟨rfl, rfl, rfl, rfl, nofun, fun _ _ => rfl⟩, ⟨⟨rfl, rfl, rfl, rfl, fun _ => rfl, fun _ _ => rfl⟩, trivial⟩⟩⟩⟩⟩⟩⟩, trivial⟩⟩
                      · conv => whnf
                        conv => whnf
                        conv => whnf
                        conv => whnf
                        conv => whnf
                        refine ⟨[], by kernel_rfl, ?_⟩
                        conv => whnf
                        conv => whnf
                        conv => whnf
                        conv => whnf
                        conv => whnf
                        refine ⟨⟨(by omega), (by omega)⟩, ?_⟩
                        conv => whnf
                        conv => whnf
                        conv => whnf
                        conv => whnf
                        conv => whnf
                        refine ⟨⟨(by omega), (by omega)⟩, ?_⟩
                        conv => whnf
                        conv => whnf
                        conv => whnf
                        conv => whnf
                        conv => whnf
                        refine ⟨⟨(by omega), (by omega)⟩, ?_⟩
                        conv => whnf
                        conv => whnf
                        conv => whnf
                        conv => whnf
                        conv => whnf
                        refine .inl ⟨_, _, byX rfl (Sound1.pl (h22) rfl), ?_⟩
                        conv => whnf
                        conv => whnf
                        conv => whnf
                        conv => whnf
                        conv => whnf
                        refine ⟨inK64 (by omega) (by omega), ?_⟩
                        conv => whnf
                        conv => whnf
                        conv => whnf
                        conv => whnf
                        conv => whnf
                        refine ⟨⟨(by omega), (by omega)⟩, ?_⟩
                        refine ⟨_, fun i _ => rowI _ _ i _ (by first | omega | (simp only [List.length_set]; omega) | (simp only [List.length_replicate]; omega) | (simp only [List.length_set, List.length_replicate]; omega)), ?_⟩
                        conv => whnf
                        conv => whnf
                        conv => whnf
                        conv => whnf
                        conv => whnf
                        refine ⟨inK64 (by omega) (by omega), ?_⟩
                        rw [hst.2 (by first | exact w1 | exact w2 | exact w3 | exact w4 | exact w5 | exact w6)] at hf2
                        conv => whnf
                        conv => whnf
                        conv => whnf
                        conv => whnf
                        conv => whnf
                        refine ⟨_, _, ⟨⟨i + 1, _, _, by omega, (by rw [List.length_set]; exact hh), hf2, fun j => set_bdI (fun j => by have := hb0 j; omega) (by omega) j, rfl, rfl⟩, by omega⟩, ⟨⟨rfl, rfl, rfl, rfl⟩, ⟨⟨rfl, rfl, rfl, rfl, fun _ => rfl, fun _ _ => rfl⟩, ⟨⟨rfl, rfl, rfl, rfl, fun _ => rfl, fun _ _ => rfl⟩, ⟨⟨rfl, rfl, rfl, rfl, fun _ => rfl, fun _ _ => rfl⟩, ⟨⟨rfl, rfl, rfl, rfl, fun _ => rfl, fun _ _ => rfl⟩, ⟨⟨rfl, rfl, rfl, rfl, fun _ => rfl, fun _ _ => rfl⟩, ⟨⟨rfl, rfl, rfl, rfl, nofun, fun _ _ => rfl⟩, ⟨⟨rfl, rfl, rfl, rfl, fun _ => rfl, fun _ _ => rfl⟩, trivial⟩⟩⟩⟩⟩⟩⟩, trivial⟩⟩
                    · (exfalso; omega)
                  · have e : i = b.length := by omega
                    subst e
                    rw [List.drop_length, foreL] at hf2
                    conv => whnf
                    conv => whnf
                    conv => whnf
                    conv => whnf
                    conv => whnf
                    refine ifB_dec (fun w5 => ?_) (fun w5 => ?_)
                    · (exfalso; omega)
                    · conv => whnf
                      conv => whnf
                      conv => whnf
                      conv => whnf
                      conv => whnf
                      refine ⟨?_, nofun⟩
                      exact ave_agg2 (k := 4) (a := .rslice 1 N.cs.length _) (b := .rslice 1 N.ns.length _) ⟨rfl, (by rw [← hf, hFd]; rfl), fun j _ => by show [i64 (f.getD j 0)] = _; rw [hFd]; rfl⟩ ⟨rfl, (by rw [← hh, hf2, hFd]; rfl), fun j _ => by show [i64 (h.getD j 0)] = _; rw [hf2, hFd]; rfl⟩
        · (exfalso; omega)
end Go.Tr

/- The examples of chapter 2 are as they should be: awake gives true. Conditions: none. -/
namespace Go.Tr
open Go Go.Proofs

def G83 : FuncId → List AV → Option (AV × Bool)
  | 74, [.val (.int .i64 r), .val (.int .i64 d)] => bif decide (0 ≤ r) && decide (r ≤ 1000000) then some (.agg [i64 (loF r d), i64 (hiF r d)], false) else none
  | _, _ => none
theorem G83_ok (f : FuncId) (args : List AV) (r : AV) (fr : Bool) (h : G83 f args = some (r, fr)) : SP f args r fr ∧ fr = false := by
  unfold G83 at h
  split at h
  · rename_i r0 d0
    cases hb : (decide (0 ≤ r0) && decide (r0 ≤ 1000000)) with
    | true =>
      rw [hb, cond_true] at h
      cases h
      simp only [Bool.and_eq_true, decide_eq_true_eq] at hb
      exact ⟨S74 r0 d0 hb.1 hb.2, rfl⟩
    | false => rw [hb] at h; cases h
  · cases h

theorem run_drop : Run.ok Tryz.prog ⟨22, [tab 1 [[i64 100], [i64 400]], i64 30], .tuple [.agg [i64 36101, i64 40000], i64 0]⟩ := run_okG mixed2 G83_ok 1000 60 (by kernel_rfl)
theorem run_gap : Run.ok Tryz.prog ⟨10, [netA, i64 17], .tuple [i64 (-2200), i64 0]⟩ := run_ok mixed2 (l := []) (by simp) 1000 60 (by kernel_rfl)
end Go.Tr

/- The examples of chapter 2: cuts and fills. Conditions: none. -/
namespace Go.Tr
open Go Go.Proofs
theorem run_fill : Run.ok Tryz.prog ⟨23, [dryA, i64 0], .tuple [tab 1 [[i64 0], [i64 1]], i64 0]⟩ := run_ok mixed2 (l := []) (by simp) 1000 60 (by kernel_rfl)
theorem run_cut : Run.ok Tryz.prog ⟨25, [netA, .agg [i64 0, i64 2]], .tuple [tab 1 [[i64 1]], i64 0]⟩ := run_ok mixed2 (l := []) (by simp) 1000 60 (by kernel_rfl)
end Go.Tr

/- The examples of chapter 2: the circulation. Conditions: none. -/
namespace Go.Tr
open Go Go.Proofs
theorem run_circ : Run.ok Tryz.prog ⟨20, [netA], .tuple [.agg [i64 17, i64 18], i64 0]⟩ := run_ok mixed2 (l := []) (by simp) 1000 60 (by kernel_rfl)
end Go.Tr

/- The examples of chapter 2 are as they should be: awake gives true. Conditions: none. -/
namespace Go.Tr
open Go Go.Proofs
def runs2 : List Run := [⟨21, [], netA⟩, ⟨24, [], dryA⟩, ⟨22, [tab 1 [[i64 100], [i64 400]], i64 30], .tuple [.agg [i64 36101, i64 40000], i64 0]⟩, ⟨10, [netA, i64 17], .tuple [i64 (-2200), i64 0]⟩,
  ⟨23, [dryA, i64 0], .tuple [tab 1 [[i64 0], [i64 1]], i64 0]⟩, ⟨25, [netA, .agg [i64 0, i64 2]], .tuple [tab 1 [[i64 1]], i64 0]⟩, ⟨20, [netA], .tuple [.agg [i64 17, i64 18], i64 0]⟩]
theorem runs2_ok : ∀ x ∈ runs2, x.ok Tryz.prog := by
  intro x hx
  simp only [runs2, List.mem_cons, List.not_mem_nil, or_false] at hx
  rcases hx with rfl | rfl | rfl | rfl | rfl | rfl | rfl
  · exact run_net
  · exact run_dry
  · exact run_drop
  · exact run_gap
  · exact run_fill
  · exact run_cut
  · exact run_circ
theorem S4 : SP 4 [] (vb true) false := run_ok mixed2 runs2_ok 1000 60 (y := vb true) (by kernel_rfl)
end Go.Tr

/- The law WaterNets returns true for every net and every two numbers. Conditions: none. -/
namespace Go.Tr
open Go Go.Proofs
set_option maxRecDepth 20000
set_option maxHeartbeats 8000000

theorem few_bounds {N : Net} (h : fewB N = true) : N.ns.length ≤ 12 ∧ N.cs.length ≤ 16 := by
  unfold fewB at h
  simp only [Bool.and_eq_true, decide_eq_true_eq] at h
  exact h.1.1

end Go.Tr

/- The law WaterReaches returns true. Conditions: none. -/
namespace Go.Tr
open Go Go.Proofs
set_option maxRecDepth 20000
set_option maxHeartbeats 8000000

theorem S23ex (N : Net) (hN : N.In) (k : Int) : ∃ L E, SP 23 [netV N, i64 k] (.tuple [ints L, i64 E]) false ∧
    (netE N ≠ 0 ∧ E = netE N ∧ L = [] ∨ netE N = 0 ∧ ¬ (0 ≤ k ∧ k ≤ (N.cs.length : Int) - 1) ∧ E = 6 ∧ L = [] ∨
      netE N = 0 ∧ (0 ≤ k ∧ k ≤ (N.cs.length : Int) - 1) ∧ (N.cs.getD k.toNat cn0).valve = false ∧ E = 12 ∧ L = [] ∨
      netE N = 0 ∧ (0 ≤ k ∧ k ≤ (N.cs.length : Int) - 1) ∧ (N.cs.getD k.toNat cn0).valve = true ∧ E = 0 ∧ L = whereF 0 (fillB N k.toNat)) := by
  refine ⟨_, _, S23 N hN k, ?_⟩
  unfold fillE
  rw [firstOf2]
  by_cases h1 : netE N = 0
  · rw [if_pos h1]
    unfold conN
    by_cases h2 : 0 ≤ k ∧ k ≤ (N.cs.length : Int) - 1
    · have e : (if decide (0 ≤ k ∧ k ≤ (N.cs.length : Int) - 1) = true then (0 : Int) else 6) = 0 := if_pos (decide_eq_true h2)
      rw [e]
      cases hv : (N.cs.getD k.toNat cn0).valve with
      | true => exact .inr (.inr (.inr ⟨h1, h2, rfl, rfl, rfl⟩))
      | false => exact .inr (.inr (.inl ⟨h1, h2, rfl, rfl, rfl⟩))
    · have e : (if decide (0 ≤ k ∧ k ≤ (N.cs.length : Int) - 1) = true then (0 : Int) else 6) = 6 := if_neg (by simpa using h2)
      rw [e]
      exact .inr (.inl ⟨h1, h2, rfl, rfl⟩)
  · rw [if_neg h1, if_neg h1, if_neg h1]; exact .inl ⟨h1, rfl, rfl⟩

end Go.Tr

/- The law WaterTwoSigns returns true. Conditions: none. -/
namespace Go.Tr
open Go Go.Proofs
set_option maxRecDepth 20000
set_option maxHeartbeats 8000000

/-- Flows at the two ends of a circulation. -/
theorem steady_flow {N : Net} (hok : N.Ok) (hF : (clF N).2 = 0) (hq : flatQ N (brF N) (clF N).1 = false) (i : Nat) (hi : i < N.cs.length) :
    -1000000 ≤ ((steadyF N (brF N) (clF N).1).1.getD i (0, 0)).1 ∧ ((steadyF N (brF N) (clF N).1).1.getD i (0, 0)).1 ≤ 1000000 ∧ ((steadyF N (brF N) (clF N).1).1.getD i (0, 0)).1 ≤ ((steadyF N (brF N) (clF N).1).1.getD i (0, 0)).2 ∧ ((steadyF N (brF N) (clF N).1).1.getD i (0, 0)).2 ≤ ((steadyF N (brF N) (clF N).1).1.getD i (0, 0)).1 + 1 := by
  have hS := stOk hok
  have hne := net_ne hok hS.cl
  obtain ⟨b1, b2, b3, b4⟩ := circ_bd hS hne hq
  have lA := state_len N (brF N) (clF N).1 (circF N (brF N) (clF N).1).1
  have lB := state_len N (brF N) (clF N).1 (circF N (brF N) (clF N).1).2
  have kA := (kept_ok hok hF b1).bd i
  have kB := (kept_ok hok hF b2).bd i
  have hd : -1 ≤ (stateF N (brF N) (clF N).1 (circF N (brF N) (clF N).1).2).1.getD i 0 - (stateF N (brF N) (clF N).1 (circF N (brF N) (clF N).1).1).1.getD i 0 ∧ (stateF N (brF N) (clF N).1 (circF N (brF N) (clF N).1).2).1.getD i 0 - (stateF N (brF N) (clF N).1 (circF N (brF N) (clF N).1).1).1.getD i 0 ≤ 1 := by
    by_cases hc : (clF N).1 < 0
    · have e : circF N (brF N) (clF N).1 = (0, 0) := by unfold circF; rw [if_pos hc]
      rw [e]; simp only; omega
    · generalize circF N (brF N) (clF N).1 = x at *
      have hs := st0_diff (N := N) (q := x.1) (q' := x.2) hS.ends (by omega) hS.cl (hne (by omega))
      have := flow_diff (D := x.2 - x.1) (by omega) (brF N) (lakesB N) (st0 N (clF N).1 x.1) (st0 N (clF N).1 x.2) (lakesB_len N) (st0_len1 N _ _) (st0_len1 N _ _) (by rw [st0_len0, st0_len0]) hS.tr hs (fun j => by
        unfold st0
        rw [if_neg hc, if_neg hc]
        show _ ≤ ((List.replicate N.cs.length (0 : Int)).set _ _).getD j 0 - ((List.replicate N.cs.length (0 : Int)).set _ _).getD j 0 ∧ ((List.replicate N.cs.length (0 : Int)).set _ _).getD j 0 - ((List.replicate N.cs.length (0 : Int)).set _ _).getD j 0 ≤ _
        rw [getD_setI, getD_setI]
        split <;> omega) i
      unfold stateF
      simp only
      omega
  unfold steadyF
  simp only
  rw [rngL_getD lA.1 lB.1 hi]
  simp only
  refine ⟨?_, ?_, ?_, ?_⟩ <;> (split <;> (try split) <;> omega)
/-- The gap at both ends. -/
theorem steady_gap {N : Net} (hok : N.Ok) (hc : 0 ≤ (clF N).1) (hq : flatQ N (brF N) (clF N).1 = false) :
    (gapF N (brF N) (clF N).1 (circF N (brF N) (clF N).1).1 = 0 ∧ (circF N (brF N) (clF N).1).1 = (circF N (brF N) (clF N).1).2) ∨ (gapF N (brF N) (clF N).1 (circF N (brF N) (clF N).1).1 < 0 ∧ 0 < gapF N (brF N) (clF N).1 (circF N (brF N) (clF N).1).2) := by
  have hS := stOk hok
  have h := circ_spec hS hc (net_ne hok hS.cl hc) (flatQ_of hq hc)
  unfold circF
  rw [if_neg (by omega)]
  split
  · rename_i e
    exact .inl ⟨e, rfl⟩
  · exact .inr ⟨h.2.2.2, by simp only; omega⟩
theorem chk_iff {N : Net} (h : flowE N = 0) (x : Int × Int) : chkE N x = 0 ↔ x = circF N (brF N) (clF N).1 := by
  have hk := flowE_ok h
  have hn := formE_ok hk.1
  have hok := net_ok hn.1
  have hS := stOk hok
  have hne := net_ne hok hS.cl
  have hp := proves_iff hS hne (flatQ_of hk.2) x
  obtain ⟨b1, b2, b3, b4⟩ := circ_bd hS hne hk.2
  unfold chkE
  constructor
  · intro hx
    split at hx
    · rw [hk.2] at hx
      simp only [Bool.false_eq_true, if_false] at hx
      split at hx
      · exact hp.1 (by assumption)
      · cases hx
    · contradiction
  · intro e
    have hp := hp.2 e
    have c1 : crE x.1 = 0 := by unfold crE; rw [e, decide_eq_true b1]; rfl
    have c2 : crE x.2 = 0 := by unfold crE; rw [e, decide_eq_true b2]; rfl
    have h0 : chk0 N x = 0 := by
      unfold chk0
      rw [firstOf4, if_pos hk.1, if_pos c1, if_pos c2, decide_eq_true (by rw [e]; exact b3)]
      rfl
    rw [if_pos h0, hk.2, hp]; rfl

end Go.Tr

/- Plain laws of chapter 2: roots. Conditions: none. -/
namespace Go.Tr
open Go Go.Proofs
set_option maxRecDepth 20000
set_option maxHeartbeats 8000000

/-- The root rounded down, bit by bit. -/
def rootF : Nat → Int → Int → Int
  | 0, _, r => r
  | k + 1, n, r => rootF k n (if (r + 2 ^ k) * (r + 2 ^ k) ≤ n then r + 2 ^ k else r)
theorem two_pow_pos (k : Nat) : (1 : Int) ≤ 2 ^ k := by
  induction k with
  | zero => decide
  | succ k ih => rw [Int.pow_succ]; omega
theorem rootF_spec : ∀ (k : Nat) (n r : Int), 0 ≤ r → r * r ≤ n → n < (r + 2 ^ k) * (r + 2 ^ k) → 0 ≤ rootF k n r ∧ rootF k n r * rootF k n r ≤ n ∧ n < (rootF k n r + 1) * (rootF k n r + 1)
  | 0, n, r, h0, h1, h2 => ⟨h0, h1, by simp only [rootF]; simpa using h2⟩
  | k + 1, n, r, h0, h1, h2 => by
    have hb := two_pow_pos k
    unfold rootF
    split
    · rename_i h
      refine rootF_spec k n _ (by omega) h ?_
      rw [Int.pow_succ] at h2
      rw [show r + 2 ^ k + 2 ^ k = r + 2 ^ k * 2 by omega]
      exact h2
    · rename_i h
      exact rootF_spec k n r h0 h1 (by omega)
def rOf (n : Int) : Int := rootF 31 n 0
theorem rOf_spec {n : Int} (h0 : 0 ≤ n) (h1 : n < 4611686018427387904) : 0 ≤ rOf n ∧ rOf n * rOf n ≤ n ∧ n < (rOf n + 1) * (rOf n + 1) :=
  rootF_spec 31 n 0 (by omega) h0 (by
    have : ((0 : Int) + 2 ^ 31) * (0 + 2 ^ 31) = 4611686018427387904 := by decide
    omega)
theorem sq_lt {a b n : Int} (hb : 0 ≤ b) (h1 : a * a ≤ n) (h2 : n < (b + 1) * (b + 1)) : a ≤ b := by
  rcases Int.lt_or_le b a with h | h
  · have : (b + 1) * (b + 1) ≤ a * a := Int.mul_le_mul (by omega) (by omega) (by omega) (by omega)
    omega
  · exact h
def rUp (n : Int) : Int := if rOf n * rOf n < n then rOf n + 1 else rOf n
theorem rUp_spec {n : Int} (h0 : 0 ≤ n) (h1 : n < 4611686018427387904) : 0 ≤ rUp n ∧ n ≤ rUp n * rUp n ∧ (∀ x, 0 ≤ x → x < rUp n → x * x < n) := by
  obtain ⟨a, b, c⟩ := rOf_spec h0 h1
  unfold rUp
  generalize rOf n = s at *
  split
  · rename_i h
    refine ⟨by omega, by omega, fun x hx hs => ?_⟩
    have : x * x ≤ s * s := Int.mul_le_mul (by omega) (by omega) (by omega) (by omega)
    omega
  · rename_i h
    refine ⟨by omega, by omega, fun x hx hs => ?_⟩
    have : (x + 1) * (x + 1) ≤ s * s := Int.mul_le_mul (by omega) (by omega) (by omega) (by omega)
    have e : (x + 1) * (x + 1) = x * x + (x + x + 1) := by rw [Int.mul_add, Int.add_mul]; omega
    omega

theorem mul3 (r x y : Int) : r * x * y = x * y * r := by rw [Int.mul_assoc, Int.mul_comm]
theorem lo_root {r d : Int} (hr : 1 ≤ r) (h0 : 0 ≤ d) (hd : d ≤ 1000000001) : loF r d = rOf (d / r) := by
  obtain ⟨a1, a2, a3, a4, a5⟩ := loF_spec hr h0 hd
  have q0 : 0 ≤ d / r := Int.ediv_nonneg h0 (by omega)
  have q1 : d / r ≤ d := Int.ediv_le_self _ h0
  obtain ⟨b1, b2, b3⟩ := rOf_spec q0 (by omega)
  rw [mul3] at a4 a5
  have c4 : loF r d * loF r d ≤ d / r := (Int.le_ediv_iff_mul_le (by omega)).2 a4
  have c5 : d / r < (loF r d + 1) * (loF r d + 1) := (Int.ediv_lt_iff_lt_mul (by omega)).2 a5
  have := sq_lt b1 c4 b3
  have := sq_lt a1 b2 c5
  omega

theorem hi_root {r d : Int} (hr : 1 ≤ r) (h0 : 0 ≤ d) (hd : d ≤ 1000000001) : hiF r d = rUp (-(-d / r)) := by
  obtain ⟨s1, s2⟩ := hiF_spec hr hd
  have hm := hiF_mem r d
  generalize hc : -(-d / r) = c
  have e1 : d ≤ c * r := by
    have := Int.ediv_mul_le (-d) (show r ≠ 0 by omega)
    have : c * r = -(-d / r * r) := by rw [← hc, Int.neg_mul]
    omega
  have e2 : ∀ z, d ≤ z * r → c ≤ z := fun z hz => by
    have : -z ≤ -d / r := (Int.le_ediv_iff_mul_le (by omega)).2 (by rw [Int.neg_mul]; omega)
    omega
  have c0 : 0 ≤ c := by
    rcases Int.lt_or_le c 0 with h | h
    · have : c * r < 0 := Int.mul_neg_of_neg_of_pos h (by omega)
      omega
    · exact h
  have c1 : c ≤ d := e2 d (by
    have := Int.mul_le_mul_of_nonneg_left (show 1 ≤ r by omega) h0
    omega)
  obtain ⟨b1, b2, b3⟩ := rUp_spec c0 (by omega)
  have f1 : c ≤ hiF r d * hiF r d := e2 _ (by rw [mul3] at s1; exact s1)
  have f2 : ∀ x, 0 ≤ x → x < hiF r d → x * x < c := fun x hx hlt => by
    have := s2 x hx hlt
    rw [mul3] at this
    rcases Int.lt_or_le (x * x) c with h | h
    · exact h
    · have := Int.mul_le_mul_of_nonneg_right h (show 0 ≤ r by omega)
      omega
  rcases Int.lt_trichotomy (hiF r d) (rUp c) with h | h | h
  · have := b3 _ hm.1 h; omega
  · exact h
  · have := f2 _ b1 h; omega

theorem floor_eq {n b : Int} (hb : 0 < b) : (if n.tmod b < 0 then n.tdiv b - 1 else n.tdiv b) = n / b := by
  have e := Int.mul_tdiv_add_tmod n b
  have u := Int.tmod_lt_of_pos n hb
  have l := Int.lt_tmod_of_pos n hb
  split
  · rename_i h
    exact ((Int.ediv_emod_unique (r := n.tmod b + b) hb).2 ⟨by rw [Int.mul_sub]; omega, by omega, by omega⟩).1.symm
  · rename_i h
    exact ((Int.ediv_emod_unique (r := n.tmod b) hb).2 ⟨by omega, by omega, by omega⟩).1.symm
end Go.Tr

/- Contracts of chapter 2: roots, and the reference of flows. Conditions: none. -/
namespace Go.Tr
open Go Go.Proofs
set_option maxRecDepth 20000
set_option maxHeartbeats 8000000

theorem tdiv_small {n b : Int} (hb : 1 ≤ b) (h0 : -4000000000000000000 ≤ n) (h1 : n ≤ 4000000000000000000) : -4000000000000000000 ≤ n.tdiv b ∧ n.tdiv b ≤ 4000000000000000000 := by
  have e := floor_eq (n := n) (b := b) (by omega)
  have l1 : n / b ≤ 4000000000000000000 := by
    rcases Int.lt_or_le n 0 with h | h
    · have := Int.ediv_neg_of_neg_of_pos h (show 0 < b by omega); omega
    · have := Int.ediv_le_self b h; omega
  have l2 : -4000000000000000000 ≤ n / b := (Int.le_ediv_iff_mul_le (by omega)).2 (by
    omega)
  split at e
  · rename_i h
    have u := Int.mul_tdiv_add_tmod n b
    have : n.tdiv b ≤ 0 := by
      rcases Int.lt_or_le 0 (n.tdiv b) with h' | h'
      · have h2 : 0 ≤ n := by
          rcases Int.lt_or_le n 0 with h3 | h3
          · have h4 : n.tdiv b ≤ 0 := by
              have := Int.neg_tdiv n b
              have h5 : 0 ≤ (-n).tdiv b := Int.tdiv_nonneg (by omega) (by omega)
              omega
            omega
          · exact h3
        have := Int.tmod_nonneg b h2
        omega
      · exact h'
    omega
  · omega

theorem ediv_small {n b : Int} (hb : 1 ≤ b) (h0 : -4000000000000000000 ≤ n) (h1 : n ≤ 4000000000000000000) : -4000000000000000001 ≤ n / b ∧ n / b ≤ 4000000000000000000 := by
  have s := tdiv_small hb h0 h1
  rw [← floor_eq (by omega)]
  split <;> omega

theorem half_pow (k : Nat) : ((2 : Int) ^ (k + 1)).tdiv 2 = 2 ^ k := by
  rw [Int.pow_succ, Int.mul_tdiv_cancel _ (by decide)]
theorem ave_t2 (a b : Int) : AVE 5 (.tuple [i64 a, i64 b]) (.tuple [i64 a, i64 b]) := by
  refine ⟨rfl, fun i x y h1 h2 => ?_⟩
  match i, h1, h2 with
  | 0, h1, h2 => cases h1; cases h2; rfl
  | 1, h1, h2 => cases h1; cases h2; rfl
theorem ave_rngB (a b : Int) (e : Bool) : AVE 5 (.tuple [.agg [i64 a, i64 b], vb e]) (.tuple [.agg [i64 a, i64 b], vb e]) := by
  refine ⟨rfl, fun i x y h1 h2 => ?_⟩
  match i, h1, h2 with
  | 0, h1, h2 =>
    cases h1; cases h2
    refine ⟨rfl, fun i x y h1 h2 => ?_⟩
    match i, h1, h2 with
    | 0, h1, h2 => cases h1; cases h2; rfl
    | 1, h1, h2 => cases h1; cases h2; rfl
  | 1, h1, h2 => cases h1; cases h2; rfl

/-- The reference's two numbers. -/
def refLo (l : List Int) (fl : Int) : Int := leastF (fun d => decide (hiS d l ≥ fl)) 30 0 1000000000
def refHi (l : List Int) (fl : Int) : Int := leastF (fun d => decide (loS d l ≥ fl)) 30 0 1000000000
theorem half_eq {a b : Int} (h : 0 ≤ a) (h2 : a < b) : (a + b).tdiv 2 = a + (b - a) / 2 := by
  rw [Int.tdiv_eq_ediv_of_nonneg (by omega)]; omega
theorem leastF_done {p : Int → Bool} {n : Nat} {a b : Int} (h : ¬ a < b) : leastF p n a b = a := by
  cases n with
  | zero => rfl
  | succ n => rw [leastF, if_neg h]
theorem leastF_go {p : Int → Bool} {n : Nat} {a b : Int} (h : a < b) (hn : (b - a).toNat < 2 ^ n) : ∃ k, n = k + 1 ∧ leastF p n a b = (bif p (a + (b - a) / 2) then leastF p k a (a + (b - a) / 2) else leastF p k (a + (b - a) / 2 + 1) b) ∧ (b - a).toNat < 2 * 2 ^ k := by
  cases n with
  | zero => simp at hn; omega
  | succ k => exact ⟨k, rfl, by rw [leastF, if_pos h], by rw [Nat.pow_succ] at hn; omega⟩

end Go.Tr

/- Contracts of chapter 2: the reference's gap, circulation and steady state. Conditions: none. -/
namespace Go.Tr
open Go Go.Proofs
set_option maxRecDepth 20000
set_option maxHeartbeats 8000000

theorem S19 (N : Net) (hok : N.Ok) (hF : (clF N).2 = 0) (hc : 0 ≤ (clF N).1) (q : Int) (hq : -200000 ≤ q ∧ q ≤ 200000) : SP 19 [netV N, i64 q] (i64 (gapF N (brF N) (clF N).1 q)) false := by
  have hS := stOk hok
  have hcl := hS.cl
  have hn := hS.n1
  have hcn := hS.c1
  have h97 := S16 N (by omega) (by omega) hok.ends
  unfold clR at h97
  rw [if_pos hF, hF] at h97
  have h114 := S18 N hok hF q hq
  have hl := state_len N (brF N) (clF N).1 q
  have he := hS.ends (N.cs.getD (clF N).1.toNat cn0) (mem_getD (by omega))
  have hr := hS.res (N.cs.getD (clF N).1.toNat cn0) (mem_getD (by omega))
  have hlw := lossW (f := q) hr (by omega)
  have b1 := (state_bd hS hq (N.cs.getD (clF N).1.toNat cn0).fr.toNat).2
  have b2 := (state_bd hS hq (N.cs.getD (clF N).1.toNat cn0).to.toNat).2
  have h22 := S39w (N.cs.getD (clF N).1.toNat cn0).res q hr (by omega)
  unfold stA at h114
  rw [ints_n hl.1, ints_n hl.2] at h114
  refine sound (d := 2) tok2 mixed2 Tryz.func19 (by kernel_rfl) (by kernel_rfl) ?_
  conv => whnf
  refine .inl ⟨_, _, byX rfl (Sound1.pl (h97) rfl), ?_⟩
  conv => whnf
  refine ⟨[], by kernel_rfl, ?_⟩
  conv => whnf
  refine ⟨⟨(by omega), (by omega)⟩, ?_⟩
  conv => whnf
  refine .inl ⟨_, _, byX rfl (h114), ?_⟩
  conv => whnf
  refine ⟨[], by kernel_rfl, ?_⟩
  conv => whnf
  refine .inl ⟨_, _, byX rfl (Sound1.pl (h22) rfl), ?_⟩
  conv => whnf
  refine ⟨⟨(by omega), (by omega)⟩, ?_⟩
  conv => whnf
  refine ⟨⟨(by omega), (by omega)⟩, ?_⟩
  conv => whnf
  refine ⟨inK64 (by omega) (by omega), ?_⟩
  conv => whnf
  refine ⟨inK64 (by omega) (by omega), ?_⟩
  conv => whnf
  refine ⟨?_, nofun⟩
  rfl
/-- As S17 says it. -/
theorem S17c (q : Int) : SP 17 [i64 q] (i64 (crE q)) false := by
  have h := S17 q
  have e : (if -200000 ≤ q ∧ q ≤ 200000 then (0 : Int) else 2) = crE q := by unfold crE; simp only [decide_eq_true_eq]
  rw [e] at h; exact h
theorem crE_two (q : Int) : crE q = 0 ∨ crE q = 2 := by unfold crE; split <;> simp
end Go.Tr

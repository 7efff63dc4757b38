/- Contracts of chapter 2: wet conduits. Conditions: none. -/
import Derived.Test.YtkomdfgffgkphaaTr06
import Derived.Test.YtkomdfgffgkphaaTr05

namespace Go.Tr
open Go Go.Proofs
set_option maxRecDepth 20000
set_option maxHeartbeats 8000000

theorem bools_n {l : List Bool} {n : Nat} (h : l.length = n) : bools l = .rslice 1 n fun i => [vb (l.getD i false)] := by
  unfold bools; rw [h]
def opnU (N : Net) (k : Nat) : Bool := (N.cs.getD k cn0).opn
theorem S95 (N : Net) (m : List Bool) (hm : m.length = N.ns.length) (hn : N.ns.length ≤ 1000) (hc : N.cs.length ≤ 1000) (hr : inR N.ns.length N.cs) : SP 95 [netV N, bools m] (bools (clo (opnU N) N.cs m)) true := by
  generalize hR : clo (opnU N) N.cs m = R
  unfold clo at hR
  rw [hm] at hR
  refine sound (d := 2) tok2 mixed2 Try.func95 (by kernel_rfl) (by kernel_rfl) ?_
  conv => whnf
  refine ⟨⟨(by omega), (by show _ * (1 + 1) ≤ _; omega)⟩, ?_⟩
  conv => whnf
  refine ⟨[], [2, 5, 6], fun st mq => ∃ (k : Nat) (n : Nat) (x : List Bool) (F1 : Nat → List AV), (k ≤ N.ns.length) ∧ (x.length = N.ns.length) ∧ (n = N.ns.length) ∧ (iterF (opnU N) N.cs (N.ns.length - k) x = R) ∧ st = ⟨[(2, .optr 0 0 0 0), (5, .oslice 2 0 0 n none), (6, i64 k)], ⟨[netBlk N, ⟨1, 0, F1, 0, false, true, false⟩, ⟨1, n, fun i => [vb (x.getD i false)], 0, false, true, false⟩], [], none, 0⟩, []⟩ ∧ mq = N.ns.length - k,
    ⟨_, _, ⟨0, _, m, _, by omega, hm, (Nat.zero_add _).trans hm, hR, rfl, rfl⟩, ⟨⟨rfl, rfl, rfl, rfl⟩, ⟨⟨rfl, rfl, rfl, rfl, fun _ => rfl, fun _ _ => rfl⟩, ⟨⟨rfl, rfl, rfl, rfl, fun _ => rfl, fun _ _ => rfl⟩, ⟨⟨rfl, rfl, rfl, rfl, fun _ => rfl, fun _ _ => rfl⟩, trivial⟩⟩⟩, trivial⟩⟩, ?_⟩
  rintro s0 m0 ⟨k, n, x, F1, hk, hx, hn1, h1, rfl, hmeas⟩
  by_cases hkl : k < N.ns.length
  · obtain ⟨j, hj⟩ : ∃ j, N.ns.length - k = j + 1 := ⟨N.ns.length - k - 1, by omega⟩
    rw [hj, iterF] at h1
    conv => whnf
    conv => whnf
    refine ifB_dec (fun w1 => ?_) (fun w1 => ?_)
    · conv => whnf
      conv => whnf
      refine ⟨[], [2, 5, 6, 7], fun st mq => ∃ (i : Nat) (y : List Bool) (F1 : Nat → List AV), (i ≤ N.cs.length) ∧ (y.length = N.ns.length) ∧ (sweep (opnU N) i (N.cs.drop i) y = sweep (opnU N) 0 N.cs x) ∧ st = ⟨[(2, .optr 0 0 0 0), (5, .oslice 2 0 0 n none), (6, i64 k), (7, i64 i)], ⟨[netBlk N, ⟨1, 0, F1, 0, false, true, false⟩, ⟨1, n, fun i => [vb (y.getD i false)], 0, false, true, false⟩], [], none, 0⟩, []⟩ ∧ mq = N.cs.length - i,
        ⟨_, _, ⟨0, x, _, by omega, hx, rfl, rfl, rfl⟩, ⟨⟨rfl, rfl, rfl, rfl⟩, ⟨⟨rfl, rfl, rfl, rfl, fun _ => rfl, fun _ _ => rfl⟩, ⟨⟨rfl, rfl, rfl, rfl, fun _ => rfl, fun _ _ => rfl⟩, ⟨⟨rfl, rfl, rfl, rfl, fun _ => rfl, fun _ _ => rfl⟩, trivial⟩⟩⟩, trivial⟩⟩, ?_⟩
      rintro s0 m0 ⟨i, y, F1, hi, hy, h2, rfl, hmeas⟩
      by_cases hil : i < N.cs.length
      · have hq := hr (N.cs.getD (i : Int).toNat cn0) (by simp [List.getD_eq_getElem?_getD, hil])
        rw [sweep_drop y hil] at h2
        have e0 : opnU N i = (N.cs.getD (i : Int).toNat cn0).opn := rfl
        conv => whnf
        conv => whnf
        conv => whnf
        refine ifB_dec (fun w2 => ?_) (fun w2 => ?_)
        · conv => whnf
          conv => whnf
          conv => whnf
          refine ⟨⟨(by omega), (by omega)⟩, ?_⟩
          conv => whnf
          conv => whnf
          conv => whnf
          refine ifB_intro (fun w3 => ?_) (fun w3 => ?_)
          · conv => whnf
            conv => whnf
            conv => whnf
            refine ⟨⟨(by omega), (by omega)⟩, ?_⟩
            conv => whnf
            conv => whnf
            conv => whnf
            refine ifB_intro (fun w4 => ?_) (fun w4 => ?_)
            · conv => whnf
              conv => whnf
              conv => whnf
              refine ⟨[(5, 7)], by kernel_rfl, ?_⟩
              conv => whnf
              conv => whnf
              conv => whnf
              refine ⟨⟨(by omega), (by omega)⟩, ?_⟩
              refine ⟨_, fun i _ => row1 _ _ i _ (by first | omega | (simp only [List.length_set]; omega) | (simp only [List.length_replicate]; omega) | (simp only [List.length_set, List.length_replicate]; omega)), ?_⟩
              conv => whnf
              conv => whnf
              conv => whnf
              refine ⟨⟨(by omega), (by omega)⟩, ?_⟩
              refine ⟨_, fun i _ => row1 _ _ i _ (by first | omega | (simp only [List.length_set]; omega) | (simp only [List.length_replicate]; omega) | (simp only [List.length_set, List.length_replicate]; omega)), ?_⟩
              conv => whnf
              conv => whnf
              conv => whnf
              refine ⟨inK64 (by omega) (by omega), ?_⟩
              rw [e0, w3, if_pos rfl, ← touch_or] at h2
              have e : y.getD (N.cs.getD i cn0).fr.toNat false = true := by simpa using w4
              rw [e, Bool.true_or, if_pos rfl] at h2
              conv => whnf
              conv => whnf
              conv => whnf
              refine ⟨_, _, ⟨⟨i + 1, (y.set (N.cs.getD (i : Int).toNat cn0).fr.toNat true).set (N.cs.getD (i : Int).toNat cn0).to.toNat true, _, by omega, by simpa using hy, h2, rfl, rfl⟩, by omega⟩, ⟨⟨rfl, rfl, rfl, rfl⟩, ⟨⟨rfl, rfl, rfl, rfl, fun _ => rfl, fun _ _ => rfl⟩, ⟨⟨rfl, rfl, rfl, rfl, fun _ => rfl, fun _ _ => rfl⟩, ⟨⟨rfl, rfl, rfl, rfl, fun _ => rfl, fun _ _ => rfl⟩, trivial⟩⟩⟩, trivial⟩⟩
            · conv => whnf
              conv => whnf
              conv => whnf
              refine ⟨⟨(by omega), (by omega)⟩, ?_⟩
              conv => whnf
              conv => whnf
              conv => whnf
              refine ifB_intro (fun w5 => ?_) (fun w5 => ?_)
              · conv => whnf
                conv => whnf
                conv => whnf
                refine ⟨[(5, 7)], by kernel_rfl, ?_⟩
                conv => whnf
                conv => whnf
                conv => whnf
                refine ⟨⟨(by omega), (by omega)⟩, ?_⟩
                refine ⟨_, fun i _ => row1 _ _ i _ (by first | omega | (simp only [List.length_set]; omega) | (simp only [List.length_replicate]; omega) | (simp only [List.length_set, List.length_replicate]; omega)), ?_⟩
                conv => whnf
                conv => whnf
                conv => whnf
                refine ⟨⟨(by omega), (by omega)⟩, ?_⟩
                refine ⟨_, fun i _ => row1 _ _ i _ (by first | omega | (simp only [List.length_set]; omega) | (simp only [List.length_replicate]; omega) | (simp only [List.length_set, List.length_replicate]; omega)), ?_⟩
                conv => whnf
                conv => whnf
                conv => whnf
                refine ⟨inK64 (by omega) (by omega), ?_⟩
                rw [e0, w3, if_pos rfl, ← touch_or] at h2
                have e : y.getD (N.cs.getD i cn0).to.toNat false = true := by simpa using w5
                rw [e, Bool.or_true, if_pos rfl] at h2
                conv => whnf
                conv => whnf
                conv => whnf
                refine ⟨_, _, ⟨⟨i + 1, (y.set (N.cs.getD (i : Int).toNat cn0).fr.toNat true).set (N.cs.getD (i : Int).toNat cn0).to.toNat true, _, by omega, by simpa using hy, h2, rfl, rfl⟩, by omega⟩, ⟨⟨rfl, rfl, rfl, rfl⟩, ⟨⟨rfl, rfl, rfl, rfl, fun _ => rfl, fun _ _ => rfl⟩, ⟨⟨rfl, rfl, rfl, rfl, fun _ => rfl, fun _ _ => rfl⟩, ⟨⟨rfl, rfl, rfl, rfl, fun _ => rfl, fun _ _ => rfl⟩, trivial⟩⟩⟩, trivial⟩⟩
              · conv => whnf
                conv => whnf
                conv => whnf
                refine ⟨inK64 (by omega) (by omega), ?_⟩
                rw [e0, w3, if_pos rfl, ← touch_or] at h2
                have e : y.getD (N.cs.getD i cn0).fr.toNat false = false := by simpa using w4
                have e' : y.getD (N.cs.getD i cn0).to.toNat false = false := by simpa using w5
                rw [e, e'] at h2
                conv => whnf
                conv => whnf
                conv => whnf
                refine ⟨_, _, ⟨⟨i + 1, y, _, by omega, hy, h2, rfl, rfl⟩, by omega⟩, ⟨⟨rfl, rfl, rfl, rfl⟩, ⟨⟨rfl, rfl, rfl, rfl, fun _ => rfl, fun _ _ => rfl⟩, ⟨⟨rfl, rfl, rfl, rfl, fun _ => rfl, fun _ _ => rfl⟩, ⟨⟨rfl, rfl, rfl, rfl, fun _ => rfl, fun _ _ => rfl⟩, trivial⟩⟩⟩, trivial⟩⟩
          · conv => whnf
            conv => whnf
            conv => whnf
            refine ⟨inK64 (by omega) (by omega), ?_⟩
            rw [e0, w3] at h2
            conv => whnf
            conv => whnf
            conv => whnf
            refine ⟨_, _, ⟨⟨i + 1, y, _, by omega, hy, h2, rfl, rfl⟩, by omega⟩, ⟨⟨rfl, rfl, rfl, rfl⟩, ⟨⟨rfl, rfl, rfl, rfl, fun _ => rfl, fun _ _ => rfl⟩, ⟨⟨rfl, rfl, rfl, rfl, fun _ => rfl, fun _ _ => rfl⟩, ⟨⟨rfl, rfl, rfl, rfl, fun _ => rfl, fun _ _ => rfl⟩, trivial⟩⟩⟩, trivial⟩⟩
        · (exfalso; omega)
      · have e : i = N.cs.length := by omega
        subst e
        rw [List.drop_length, sweep] at h2
        conv => whnf
        conv => whnf
        conv => whnf
        refine ifB_dec (fun w2 => ?_) (fun w2 => ?_)
        · (exfalso; omega)
        · conv => whnf
          conv => whnf
          conv => whnf
          refine ⟨inK64 (by omega) (by omega), ?_⟩
          conv => whnf
          conv => whnf
          conv => whnf
          refine ⟨_, _, ⟨⟨k + 1, n, y, _, by omega, hy, hn1, by (rw [h2, show N.ns.length - (k + 1) = j by omega]; exact h1), rfl, rfl⟩, by omega⟩, ⟨⟨rfl, rfl, rfl, rfl⟩, ⟨⟨rfl, rfl, rfl, rfl, fun _ => rfl, fun _ _ => rfl⟩, ⟨⟨rfl, rfl, rfl, rfl, fun _ => rfl, fun _ _ => rfl⟩, ⟨⟨rfl, rfl, rfl, rfl, fun _ => rfl, fun _ _ => rfl⟩, trivial⟩⟩⟩, trivial⟩⟩
    · (exfalso; omega)
  · have e : k = N.ns.length := by omega
    subst e
    rw [Nat.sub_self, iterF] at h1
    subst h1
    conv => whnf
    conv => whnf
    refine ifB_dec (fun w1 => ?_) (fun w1 => ?_)
    · (exfalso; omega)
    · conv => whnf
      conv => whnf
      refine ⟨?_, fun _ => ⟨rfl, ?_⟩⟩
      · exact ave_bools (hn1.trans hx.symm) fun _ _ => rfl
      · exact plain_bools x

theorem set_inv {y W : List Bool} {k : Nat} {v : Bool} (h : ∀ i, i < k → y.getD i false = W.getD i false) (hk : k < y.length) (hv : v = W.getD k false) : ∀ i, i < k + 1 → (y.set k v).getD i false = W.getD i false := fun i hi => by
  rw [getD_set]
  by_cases e : i = k
  · subst e; rw [if_pos ⟨rfl, hk⟩]; exact hv
  · rw [if_neg (fun h => e h.1)]; exact h i (by omega)
theorem app_inv {y W : List Bool} {k : Nat} {v : Bool} (h : ∀ i, i < k → y.getD i false = W.getD i false) (hk : y.length = k) (hv : v = W.getD k false) : ∀ i, i < k + 1 → (y ++ [v]).getD i false = W.getD i false := fun i hi => by
  subst hk
  by_cases e : i < y.length
  · rw [← h i e]; simp [List.getD_eq_getElem?_getD, List.getElem?_append_left e]
  · have : i = y.length := by omega
    subst this
    rw [← hv]; simp [List.getD_eq_getElem?_getD]
theorem ext_inv {y W : List Bool} {n : Nat} (h1 : y.length = n) (h2 : W.length = n) (h : ∀ i, i < n → y.getD i false = W.getD i false) : y = W :=
  list_ext_getD (h1.trans h2.symm) fun i => by
    by_cases hi : i < n
    · exact h i hi
    · rw [List.getD_eq_getElem?_getD, List.getD_eq_getElem?_getD, List.getElem?_eq_none (by omega), List.getElem?_eq_none (by omega)]

/-- The nodes that are reached from lakes; the wet conduits. -/
def lakeR (N : Net) : List Bool := clo (opnU N) N.cs (lakesB N)
def wetC (N : Net) (c : Cn) : Bool := (lakeR N).getD c.to.toNat false || (c.opn && (lakeR N).getD c.fr.toNat false)
def wetB (N : Net) : List Bool := N.cs.map (wetC N)
theorem lakesB_len (N : Net) : (lakesB N).length = N.ns.length := by simp [lakesB]
theorem lakeR_len (N : Net) : (lakeR N).length = N.ns.length := by unfold lakeR; rw [clo_len, lakesB_len]
theorem wetB_len (N : Net) : (wetB N).length = N.cs.length := by simp [wetB]
theorem wetB_getD (N : Net) (k : Nat) (h : k < N.cs.length) : (wetB N).getD k false = wetC N (N.cs.getD k cn0) := by
  simp [wetB, List.getD_eq_getElem?_getD, h]

theorem S96 (N : Net) (hn : N.ns.length ≤ 1000) (hc : N.cs.length ≤ 1000) (hr : inR N.ns.length N.cs) : SP 96 [netV N] (bools (wetB N)) true := by
  have h95 := S95 N (lakesB N) (lakesB_len N) hn hc hr
  have hl := lakesB_len N
  have hR := lakeR_len N
  change SP 95 _ (bools (lakeR N)) true at h95
  rw [bools_n hl] at h95
  refine sound (d := 2) tok2 mixed2 Try.func96 (by kernel_rfl) (by kernel_rfl) ?_
  conv => whnf
  refine ⟨⟨(by omega), ⟨(by omega), ⟨(by omega), (by show _ * ((1 : Nat) : Int) ≤ _; omega)⟩⟩⟩, ?_⟩
  conv => whnf
  refine ⟨[], [1, 3, 4], fun st mq => ∃ (k : Nat) (y : List Bool), (k ≤ N.ns.length) ∧ (y.length = N.ns.length) ∧ (∀ i, i < k → y.getD i false = (lakesB N).getD i false) ∧ st = ⟨[(1, .optr 0 0 0 0), (3, .oslice 1 0 0 N.ns.length (some N.ns.length)), (4, i64 k)], ⟨[netBlk N, ⟨1, N.ns.length, fun i => [vb (y.getD i false)], 0, false, true, false⟩], [], none, 0⟩, []⟩ ∧ mq = N.ns.length - k,
    ⟨_, _, ⟨0, List.replicate N.ns.length false, by omega, by simp, fun i h => absurd h (Nat.not_lt_zero i), rfl, rfl⟩, ⟨⟨rfl, rfl, rfl, rfl⟩, ⟨⟨rfl, rfl, rfl, rfl, fun _ => rfl, fun _ _ => rfl⟩, ⟨⟨rfl, rfl, rfl, rfl, fun _ => rfl, fun i _ => rep_row _ i⟩, trivial⟩⟩, trivial⟩⟩, ?_⟩
  rintro s0 m0 ⟨k, y, hk, hy, h1, rfl, hmeas⟩
  by_cases hkl : k < N.ns.length
  · conv => whnf
    conv => whnf
    refine ifB_dec (fun w1 => ?_) (fun w1 => ?_)
    · conv => whnf
      conv => whnf
      refine ⟨⟨(by omega), (by omega)⟩, ?_⟩
      conv => whnf
      conv => whnf
      refine ⟨⟨(by omega), (by omega)⟩, ?_⟩
      refine ⟨_, fun i _ => row1 _ _ i _ (by first | omega | (simp only [List.length_set]; omega) | (simp only [List.length_replicate]; omega) | (simp only [List.length_set, List.length_replicate]; omega)), ?_⟩
      conv => whnf
      conv => whnf
      refine ⟨inK64 (by omega) (by omega), ?_⟩
      have hs := set_inv h1 (by omega) (lakesB_getD N k hkl).symm
      conv => whnf
      conv => whnf
      refine ⟨_, _, ⟨⟨k + 1, y.set (k : Int).toNat _, by omega, by simpa using hy, by simpa using hs, rfl, rfl⟩, by omega⟩, ⟨⟨rfl, rfl, rfl, rfl⟩, ⟨⟨rfl, rfl, rfl, rfl, fun _ => rfl, fun _ _ => rfl⟩, ⟨⟨rfl, rfl, rfl, rfl, fun _ => rfl, fun _ _ => rfl⟩, trivial⟩⟩, trivial⟩⟩
    · (exfalso; omega)
  · have e : k = N.ns.length := by omega
    subst e
    have e : y = lakesB N := ext_inv hy hl h1
    subst e
    conv => whnf
    conv => whnf
    refine ifB_dec (fun w1 => ?_) (fun w1 => ?_)
    · (exfalso; omega)
    · conv => whnf
      conv => whnf
      refine .inl ⟨_, _, byX rfl (h95), ?_⟩
      conv => whnf
      conv => whnf
      refine ⟨⟨(by omega), ⟨(by omega), ⟨(by omega), (by show _ * ((1 : Nat) : Int) ≤ _; omega)⟩⟩⟩, ?_⟩
      conv => whnf
      conv => whnf
      refine ⟨[], [1, 3, 5, 6], fun st mq => ∃ (k : Nat) (y : List Bool) (F1 : Nat → List AV), (k ≤ N.cs.length) ∧ (y.length = N.cs.length) ∧ (∀ i, i < k → y.getD i false = (wetB N).getD i false) ∧ st = ⟨[(1, .optr 0 0 0 0), (3, .oslice 2 0 0 (lakeR N).length none), (5, .oslice 3 0 0 N.cs.length (some N.cs.length)), (6, i64 k)], ⟨[netBlk N, ⟨1, N.ns.length, F1, 0, false, true, false⟩, ⟨1, (lakeR N).length, fun i => [vb ((lakeR N).getD i false)], 0, false, true, false⟩, ⟨1, N.cs.length, fun i => [vb (y.getD i false)], 0, false, true, false⟩], [], none, 0⟩, []⟩ ∧ mq = N.cs.length - k,
        ⟨_, _, ⟨0, List.replicate N.cs.length false, _, by omega, by simp, fun i h => absurd h (Nat.not_lt_zero i), rfl, rfl⟩, ⟨⟨rfl, rfl, rfl, rfl⟩, ⟨⟨rfl, rfl, rfl, rfl, fun _ => rfl, fun _ _ => rfl⟩, ⟨⟨rfl, rfl, rfl, rfl, fun _ => rfl, fun _ _ => rfl⟩, ⟨⟨rfl, rfl, rfl, rfl, fun _ => rfl, fun _ _ => rfl⟩, ⟨⟨rfl, rfl, rfl, rfl, fun _ => rfl, fun i _ => rep_row _ i⟩, trivial⟩⟩⟩⟩, trivial⟩⟩, ?_⟩
      rintro s0 m0 ⟨k, y, F1, hk, hy, h1, rfl, hmeas⟩
      by_cases hkl : k < N.cs.length
      · have hq := hr (N.cs.getD (k : Int).toNat cn0) (by simp [List.getD_eq_getElem?_getD, hkl])
        have hW := wetB_getD N k hkl
        unfold wetC at hW
        conv => whnf
        conv => whnf
        conv => whnf
        refine ifB_dec (fun w2 => ?_) (fun w2 => ?_)
        · conv => whnf
          conv => whnf
          conv => whnf
          refine ⟨⟨(by omega), (by omega)⟩, ?_⟩
          conv => whnf
          conv => whnf
          conv => whnf
          refine ⟨⟨(by omega), (by omega)⟩, ?_⟩
          conv => whnf
          conv => whnf
          conv => whnf
          refine ifB_intro (fun w3 => ?_) (fun w3 => ?_)
          · conv => whnf
            conv => whnf
            conv => whnf
            refine ⟨⟨(by omega), (by omega)⟩, ?_⟩
            refine ⟨_, fun i _ => row1 _ _ i _ (by first | omega | (simp only [List.length_set]; omega) | (simp only [List.length_replicate]; omega) | (simp only [List.length_set, List.length_replicate]; omega)), ?_⟩
            conv => whnf
            conv => whnf
            conv => whnf
            refine ⟨inK64 (by omega) (by omega), ?_⟩
            have e : (lakeR N).getD (N.cs.getD k cn0).to.toNat false = true := by simpa using w3
            have hs := set_inv (v := true) h1 (by omega) (by rw [hW, e]; rfl)
            conv => whnf
            conv => whnf
            conv => whnf
            refine ⟨_, _, ⟨⟨k + 1, y.set (k : Int).toNat true, _, by omega, by simpa using hy, by simpa using hs, rfl, rfl⟩, by omega⟩, ⟨⟨rfl, rfl, rfl, rfl⟩, ⟨⟨rfl, rfl, rfl, rfl, fun _ => rfl, fun _ _ => rfl⟩, ⟨⟨rfl, rfl, rfl, rfl, fun _ => rfl, fun _ _ => rfl⟩, ⟨⟨rfl, rfl, rfl, rfl, fun _ => rfl, fun _ _ => rfl⟩, ⟨⟨rfl, rfl, rfl, rfl, fun _ => rfl, fun _ _ => rfl⟩, trivial⟩⟩⟩⟩, trivial⟩⟩
          · conv => whnf
            conv => whnf
            conv => whnf
            refine ifB_intro (fun w4 => ?_) (fun w4 => ?_)
            · conv => whnf
              conv => whnf
              conv => whnf
              refine ⟨⟨(by omega), (by omega)⟩, ?_⟩
              conv => whnf
              conv => whnf
              conv => whnf
              refine ⟨⟨(by omega), (by omega)⟩, ?_⟩
              refine ⟨_, fun i _ => row1 _ _ i _ (by first | omega | (simp only [List.length_set]; omega) | (simp only [List.length_replicate]; omega) | (simp only [List.length_set, List.length_replicate]; omega)), ?_⟩
              conv => whnf
              conv => whnf
              conv => whnf
              refine ⟨inK64 (by omega) (by omega), ?_⟩
              have e : (lakeR N).getD (N.cs.getD k cn0).to.toNat false = false := by simpa using w3
              have e2 : (N.cs.getD k cn0).opn = true := by simpa using w4
              have hs := set_inv (v := (lakeR N).getD (0 + (N.cs.getD (k : Int).toNat cn0).fr.toNat) false) h1 (by omega) (by rw [hW, e, e2]; simp)
              conv => whnf
              conv => whnf
              conv => whnf
              refine ⟨_, _, ⟨⟨k + 1, y.set (k : Int).toNat ((lakeR N).getD (0 + (N.cs.getD (k : Int).toNat cn0).fr.toNat) false), _, by omega, by simpa using hy, hs, rfl, rfl⟩, by omega⟩, ⟨⟨rfl, rfl, rfl, rfl⟩, ⟨⟨rfl, rfl, rfl, rfl, fun _ => rfl, fun _ _ => rfl⟩, ⟨⟨rfl, rfl, rfl, rfl, fun _ => rfl, fun _ _ => rfl⟩, ⟨⟨rfl, rfl, rfl, rfl, fun _ => rfl, fun _ _ => rfl⟩, ⟨⟨rfl, rfl, rfl, rfl, fun _ => rfl, fun _ _ => rfl⟩, trivial⟩⟩⟩⟩, trivial⟩⟩
            · conv => whnf
              conv => whnf
              conv => whnf
              refine ⟨⟨(by omega), (by omega)⟩, ?_⟩
              refine ⟨_, fun i _ => row1 _ _ i _ (by first | omega | (simp only [List.length_set]; omega) | (simp only [List.length_replicate]; omega) | (simp only [List.length_set, List.length_replicate]; omega)), ?_⟩
              conv => whnf
              conv => whnf
              conv => whnf
              refine ⟨inK64 (by omega) (by omega), ?_⟩
              have e : (lakeR N).getD (N.cs.getD k cn0).to.toNat false = false := by simpa using w3
              have e2 : (N.cs.getD k cn0).opn = false := by simpa using w4
              have hs := set_inv (v := false) h1 (by omega) (by rw [hW, e, e2]; rfl)
              conv => whnf
              conv => whnf
              conv => whnf
              refine ⟨_, _, ⟨⟨k + 1, y.set (k : Int).toNat false, _, by omega, by simpa using hy, by simpa using hs, rfl, rfl⟩, by omega⟩, ⟨⟨rfl, rfl, rfl, rfl⟩, ⟨⟨rfl, rfl, rfl, rfl, fun _ => rfl, fun _ _ => rfl⟩, ⟨⟨rfl, rfl, rfl, rfl, fun _ => rfl, fun _ _ => rfl⟩, ⟨⟨rfl, rfl, rfl, rfl, fun _ => rfl, fun _ _ => rfl⟩, ⟨⟨rfl, rfl, rfl, rfl, fun _ => rfl, fun _ _ => rfl⟩, trivial⟩⟩⟩⟩, trivial⟩⟩
        · (exfalso; omega)
      · have e : k = N.cs.length := by omega
        subst e
        have e : y = wetB N := ext_inv hy (wetB_len N) h1
        subst e
        conv => whnf
        conv => whnf
        conv => whnf
        refine ifB_dec (fun w2 => ?_) (fun w2 => ?_)
        · (exfalso; omega)
        · conv => whnf
          conv => whnf
          conv => whnf
          refine ⟨?_, fun _ => ⟨rfl, ?_⟩⟩
          · exact ave_bools (wetB_len N).symm fun _ _ => rfl
          · exact plain_bools _

theorem app_rowB {acc : List Bool} {n : Nat} (hn : acc.length = n) (x : Bool) (i : Nat) (h : i < n + 1) : [vb ((acc ++ [x]).getD i false)] = if i < n then [vb (acc.getD (0 + i) false)] else List.take 1 (List.drop ((i - n) * 1) [vb x]) := by
  subst hn
  rw [Nat.zero_add]
  by_cases hi : i < acc.length
  · rw [if_pos hi]; simp [List.getD_eq_getElem?_getD, hi, List.getElem?_append_left hi]
  · have : i = acc.length := by omega
    subst this
    rw [if_neg hi]; simp [List.getD_eq_getElem?_getD]
theorem S91p (N : Net) (i : Nat) (hi : i < N.cs.length) : SP 91 [netV N, i64 i] (vb (opnU N i)) true := (S91 N i hi).pl rfl

theorem S92 (N : Net) (hn : N.ns.length ≤ 1000) (hc : N.cs.length ≤ 1000) (hr : inR N.ns.length N.cs) : SP 92 [netV N] (bools (wetB N)) true := by
  have h135 := S135 N hn
  have hw : ∀ x ∈ whereF 0 (lakesB N), 0 ≤ x ∧ x < N.ns.length := fun x hx => by
    have := whereF_mem hx
    rw [lakesB_len] at this
    omega
  have hwl := whereF_len (lakesB N) 0
  rw [lakesB_len] at hwl
  have h90 := S90 N 91 N (opnU N) (whereF 0 (lakesB N)) hn hc hr hw (by omega) (S91p N)
  have hm := marks_where (lakesB N)
  rw [lakesB_len] at hm
  rw [hm] at h90
  change SP 90 _ (bools (lakeR N)) true at h90
  have hR := lakeR_len N
  refine sound (d := 2) tok2 mixed2 Try.func92 (by kernel_rfl) (by kernel_rfl) ?_
  conv => whnf
  refine ⟨[], by kernel_rfl, ?_⟩
  conv => whnf
  refine .inl ⟨_, _, byX rfl (h135), ?_⟩
  conv => whnf
  refine .inl ⟨_, _, byX rfl (h90), ?_⟩
  conv => whnf
  refine ⟨[.slot 4 1], [1, 3, 4, 15, 16, 17], fun st mq => ∃ (k : Nat) (n : Nat) (a : List Bool), (a.length = n) ∧ (k ≤ N.cs.length) ∧ (n = k) ∧ (∀ i, i < k → a.getD i false = (wetB N).getD i false) ∧ st = ⟨[(1, .optr 0 0 0 0), (3, .oslice 1 0 0 (lakeR N).length none), (4, .oslice 2 0 0 n none), (15, listA 6 cnC cn0 N.cs), (16, i64 N.cs.length), (17, i64 k)], ⟨[netBlk N, ⟨1, (lakeR N).length, fun i => [vb ((lakeR N).getD i false)], 0, false, true, false⟩, ⟨1, n, fun i => [vb (a.getD i false)], 0, false, true, false⟩], [], none, 0⟩, []⟩ ∧ mq = N.cs.length - k,
    ⟨_, _, ⟨0, 0, [], rfl, by omega, rfl, fun i h => absurd h (Nat.not_lt_zero i), rfl, rfl⟩, ⟨⟨rfl, rfl, rfl, rfl⟩, ⟨⟨rfl, rfl, rfl, rfl, fun _ => rfl, fun _ _ => rfl⟩, ⟨⟨rfl, rfl, rfl, rfl, fun _ => rfl, fun _ _ => rfl⟩, ⟨⟨rfl, rfl, rfl, rfl, fun _ => rfl, fun i h => absurd h (Nat.not_lt_zero i)⟩, trivial⟩⟩⟩, trivial⟩⟩, ?_⟩
  rintro s0 m0 ⟨k, n, a, hn1, hk, ha, h1, rfl, hmeas⟩
  by_cases hkl : k < N.cs.length
  · have hq := hr (N.cs.getD (k : Int).toNat cn0) (by simp [List.getD_eq_getElem?_getD, hkl])
    have hW := wetB_getD N k hkl
    unfold wetC at hW
    subst ha
    conv => whnf
    conv => whnf
    refine ifB_dec (fun w1 => ?_) (fun w1 => ?_)
    · conv => whnf
      conv => whnf
      refine ⟨⟨(by omega), (by omega)⟩, ?_⟩
      conv => whnf
      conv => whnf
      refine ⟨⟨(by omega), (by omega)⟩, ?_⟩
      conv => whnf
      conv => whnf
      refine ifB_intro (fun w2 => ?_) (fun w2 => ?_)
      · conv => whnf
        conv => whnf
        refine ⟨(by show _ * (1 + 1) ≤ _; omega), ?_⟩
        conv => whnf
        conv => whnf
        refine ⟨inK64 (by omega) (by omega), ?_⟩
        have e : (lakeR N).getD (N.cs.getD n cn0).to.toNat false = true := by simpa using w2
        have hs := app_inv (v := true) h1 hn1 (by rw [hW, e]; rfl)
        conv => whnf
        conv => whnf
        refine ⟨_, _, ⟨⟨n + 1, n + 1, a ++ [true], by simpa using hn1, by omega, rfl, hs, rfl, rfl⟩, by omega⟩, ⟨⟨rfl, rfl, rfl, rfl⟩, ⟨⟨rfl, rfl, rfl, rfl, fun _ => rfl, fun _ _ => rfl⟩, ⟨⟨rfl, rfl, rfl, rfl, fun _ => rfl, fun _ _ => rfl⟩, ⟨⟨rfl, rfl, rfl, rfl, fun _ => rfl, fun i h => app_rowB hn1 _ i h⟩, trivial⟩⟩⟩, trivial⟩⟩
      · conv => whnf
        conv => whnf
        refine ifB_intro (fun w3 => ?_) (fun w3 => ?_)
        · conv => whnf
          conv => whnf
          refine ⟨⟨(by omega), (by omega)⟩, ?_⟩
          conv => whnf
          conv => whnf
          refine ⟨(by show _ * (1 + 1) ≤ _; omega), ?_⟩
          conv => whnf
          conv => whnf
          refine ⟨inK64 (by omega) (by omega), ?_⟩
          have e : (lakeR N).getD (N.cs.getD n cn0).to.toNat false = false := by simpa using w2
          have e2 : (N.cs.getD n cn0).opn = true := by simpa using w3
          have hs := app_inv (v := (lakeR N).getD (0 + (N.cs.getD (n : Int).toNat cn0).fr.toNat) false) h1 hn1 (by rw [hW, e, e2]; simp)
          conv => whnf
          conv => whnf
          refine ⟨_, _, ⟨⟨n + 1, n + 1, a ++ [(lakeR N).getD (0 + (N.cs.getD (n : Int).toNat cn0).fr.toNat) false], by simpa using hn1, by omega, rfl, hs, rfl, rfl⟩, by omega⟩, ⟨⟨rfl, rfl, rfl, rfl⟩, ⟨⟨rfl, rfl, rfl, rfl, fun _ => rfl, fun _ _ => rfl⟩, ⟨⟨rfl, rfl, rfl, rfl, fun _ => rfl, fun _ _ => rfl⟩, ⟨⟨rfl, rfl, rfl, rfl, fun _ => rfl, fun i h => app_rowB hn1 _ i h⟩, trivial⟩⟩⟩, trivial⟩⟩
        · conv => whnf
          conv => whnf
          refine ⟨(by show _ * (1 + 1) ≤ _; omega), ?_⟩
          conv => whnf
          conv => whnf
          refine ⟨inK64 (by omega) (by omega), ?_⟩
          have e : (lakeR N).getD (N.cs.getD n cn0).to.toNat false = false := by simpa using w2
          have e2 : (N.cs.getD n cn0).opn = false := by simpa using w3
          have hs := app_inv (v := false) h1 hn1 (by rw [hW, e, e2]; rfl)
          conv => whnf
          conv => whnf
          refine ⟨_, _, ⟨⟨n + 1, n + 1, a ++ [false], by simpa using hn1, by omega, rfl, hs, rfl, rfl⟩, by omega⟩, ⟨⟨rfl, rfl, rfl, rfl⟩, ⟨⟨rfl, rfl, rfl, rfl, fun _ => rfl, fun _ _ => rfl⟩, ⟨⟨rfl, rfl, rfl, rfl, fun _ => rfl, fun _ _ => rfl⟩, ⟨⟨rfl, rfl, rfl, rfl, fun _ => rfl, fun i h => app_rowB hn1 _ i h⟩, trivial⟩⟩⟩, trivial⟩⟩
    · (exfalso; omega)
  · have e : k = N.cs.length := by omega
    subst e
    have e : a = wetB N := ext_inv (hn1.trans ha) (wetB_len N) h1
    subst e
    conv => whnf
    conv => whnf
    refine ifB_dec (fun w1 => ?_) (fun w1 => ?_)
    · (exfalso; omega)
    · conv => whnf
      conv => whnf
      refine ⟨?_, fun _ => ⟨rfl, ?_⟩⟩
      · exact ave_bools hn1.symm fun _ _ => rfl
      · exact plain_bools _
end Go.Tr

/- Contracts of chapter 2: what a valve fills. Conditions: none. -/
namespace Go.Tr
open Go Go.Proofs
set_option maxRecDepth 20000
set_option maxHeartbeats 8000000

theorem plain_cons (cs : List Cn) : PlainR (leaves (listA 6 cnC cn0 cs)) := by
  refine ⟨fun i _ x hx => ?_, trivial⟩
  simp only [cnC, List.mem_cons, List.not_mem_nil, or_false] at hx
  rcases hx with rfl | rfl | rfl | rfl | rfl | rfl <;> exact ⟨_, rfl⟩
theorem S136 (cs : List Cn) (h0 : 0 < cs.length) (h1 : cs.length ≤ 1000) : SP 136 [listA 6 cnC cn0 cs] (listA 6 cnC cn0 cs) true := by
  refine sound (d := 2) tok2 mixed2 Try.func136 (by kernel_rfl) (by kernel_rfl) ?_
  rintro (_ | _) w1
  · conv => whnf
    refine ⟨⟨(by omega), (by show _ * (48 + 1) ≤ _; omega)⟩, ?_⟩
    conv => whnf
    refine ⟨?_, fun _ => ⟨rfl, ?_⟩⟩
    · refine ⟨rfl, Nat.zero_add _, fun i _ => ?_⟩
      show cnC (cs.getD (i - 0) cn0) = _
      rw [Nat.sub_zero]
    · exact plain_cons cs
  · (exact absurd (w1 (by omega)) nofun)

def setOpen (N : Net) (k : Nat) (b : Bool) : Net := ⟨N.ns, N.cs.set k { N.cs.getD k cn0 with opn := b }⟩
theorem con_row (cs : List Cn) (k j : Nat) (b : Bool) (hk : k < cs.length) : cnC ((cs.set k { cs.getD k cn0 with opn := b }).getD j cn0) = bif Nat.beq j (0 + k) then splice (cnC (cs.getD j cn0)) 5 [vb b] else cnC (cs.getD j cn0) := by
  rw [Nat.zero_add]
  cases e : Nat.beq j k with
  | true => cases Nat.eq_of_beq_eq_true e; simp [List.getD_eq_getElem?_getD, hk, cnC, splice]
  | false => have := Nat.ne_of_beq_eq_false e; simp [List.getD_eq_getElem?_getD, Ne.symm this]

theorem S93 (N : Net) (k : Nat) (b : Bool) (hk : k < N.cs.length) (h1 : N.cs.length ≤ 1000) : SP 93 [netV N, i64 k, vb b] (netV (setOpen N k b)) false := by
  have h136 := S136 N.cs (by omega) h1
  refine sound (d := 2) tok2 mixed2 Try.func93 (by kernel_rfl) (by kernel_rfl) ?_
  conv => whnf
  refine ⟨[], by kernel_rfl, ?_⟩
  conv => whnf
  refine .inl ⟨_, _, byX rfl (h136), ?_⟩
  conv => whnf
  refine ⟨⟨(by omega), (by omega)⟩, ?_⟩
  refine ⟨_, fun _ _ => rfl, ?_⟩
  conv => whnf
  refine ⟨?_, nofun⟩
  exact ave_agg2 (k := 4) (a := .rslice 4 N.ns.length _) (b := .rslice 6 N.cs.length _) ⟨rfl, rfl, fun _ _ => rfl⟩ ⟨rfl, by simp [setOpen], fun j _ => (con_row N.cs k j b hk).symm⟩
theorem plain_net (N : Net) : PlainR (leaves (netV N)) := by
  refine ⟨fun i _ x hx => ?_, fun i _ x hx => ?_, trivial⟩
  · simp only [ndC, List.mem_cons, List.not_mem_nil, or_false] at hx
    rcases hx with rfl | rfl | rfl | rfl <;> exact ⟨_, rfl⟩
  · simp only [cnC, List.mem_cons, List.not_mem_nil, or_false] at hx
    rcases hx with rfl | rfl | rfl | rfl | rfl | rfl <;> exact ⟨_, rfl⟩
theorem S17o (N : Net) (h1 : N.ns.length ≤ 1000) (h2 : N.cs.length ≤ 1000) : SP 17 [netV N] (netV N) true := by
  refine sound (d := 2) tok2 mixed2 Try.func17 (by kernel_rfl) (by kernel_rfl) ?_
  conv => whnf
  refine ⟨[], by kernel_rfl, ?_⟩
  conv => whnf
  refine ⟨⟨(by omega), (by show _ * (40 + 1) ≤ _; omega)⟩, ?_⟩
  conv => whnf
  refine ⟨⟨(by omega), (by show _ * (48 + 1) ≤ _; omega)⟩, ?_⟩
  conv => whnf
  refine ⟨?_, fun _ => ⟨rfl, ?_⟩⟩
  · refine ave_agg2 (k := 4) (a := .rslice 4 (0 + N.ns.length) _) (b := .rslice 6 (0 + N.cs.length) _) ⟨rfl, Nat.zero_add _, fun i _ => ?_⟩ ⟨rfl, Nat.zero_add _, fun i _ => ?_⟩
    · show ndC (N.ns.getD (i - 0) nd0) = _
      rw [Nat.sub_zero]
    · show cnC (N.cs.getD (i - 0) cn0) = _
      rw [Nat.sub_zero]
  · exact plain_net N

theorem inR_setOpen {N : Net} {k : Nat} {b : Bool} (hk : k < N.cs.length) (h : inR N.ns.length N.cs) : inR (setOpen N k b).ns.length (setOpen N k b).cs := by
  intro c hc
  rcases List.mem_or_eq_of_mem_set hc with h1 | rfl
  · exact h c h1
  · exact h (N.cs.getD k cn0) (by simp [List.getD_eq_getElem?_getD, hk])
theorem setOpen_len (N : Net) (k : Nat) (b : Bool) : (setOpen N k b).cs.length = N.cs.length := by simp [setOpen]

/-- What a valve fills. -/
def fillB (N : Net) (k : Nat) : List Bool := List.zipWith (fun a b => a && !b) (wetB (setOpen N k true)) (wetB (setOpen N k false))
theorem wetSO_len (N : Net) (k : Nat) (b : Bool) : (wetB (setOpen N k b)).length = N.cs.length := by rw [wetB_len, setOpen_len]
theorem fillB_len (N : Net) (k : Nat) : (fillB N k).length = N.cs.length := by simp [fillB, wetSO_len]
theorem fillB_getD (N : Net) (k i : Nat) (h : i < N.cs.length) : (fillB N k).getD i false = ((wetB (setOpen N k true)).getD i false && !(wetB (setOpen N k false)).getD i false) := by
  have h1 := wetSO_len N k true
  have h2 := wetSO_len N k false
  simp [fillB, List.getD_eq_getElem?_getD, h1, h2, h]

theorem wet_args {N : Net} {k : Nat} {b : Bool} (hk : k < N.cs.length) {f : Nat → List AV} (hf : ∀ j, f j = bif Nat.beq j (0 + k) then splice (cnC (N.cs.getD j cn0)) 5 [vb b] else cnC (N.cs.getD j cn0)) : AVE 5 (.agg [listA 4 ndC nd0 N.ns, .rslice 6 N.cs.length f]) (netV (setOpen N k b)) :=
  ave_agg2 (k := 4) (a := .rslice 4 N.ns.length _) (b := .rslice 6 N.cs.length _) ⟨rfl, rfl, fun _ _ => rfl⟩ ⟨rfl, (setOpen_len N k b).symm, fun j _ => by rw [hf]; exact (con_row N.cs k j b hk).symm⟩
theorem S96f {N : Net} {k : Nat} {b : Bool} (hk : k < N.cs.length) (h1 : N.ns.length ≤ 1000) (h2 : N.cs.length ≤ 1000) (hr : inR N.ns.length N.cs) (f : Nat → List AV)
    (hf : ∀ j, f j = bif Nat.beq j (0 + k) then splice (cnC (N.cs.getD j cn0)) 5 [vb b] else cnC (N.cs.getD j cn0)) : SP 96 [.agg [listA 4 ndC nd0 N.ns, .rslice 6 N.cs.length f]] (bools (wetB (setOpen N k b))) true :=
  (S96 (setOpen N k b) (by simpa [setOpen] using h1) (by rw [setOpen_len]; exact h2) (inR_setOpen hk hr)).args rfl fun i y x hy hx => by
    match i, hy, hx with
    | 0, hy, hx => cases hy; cases hx; exact wet_args hk hf

theorem S37 (N : Net) (k : Nat) (hk : k < N.cs.length) (h1 : N.ns.length ≤ 1000) (h2 : N.cs.length ≤ 1000) (hr : inR N.ns.length N.cs) : SP 37 [netV N, i64 k] (ints (whereF 0 (fillB N k))) false := by
  have ha := S96f (b := true) hk h1 h2 hr
  have hb := S96f (b := false) hk h1 h2 hr
  have h94 := S94 (fillB N k) (by rw [fillB_len]; exact h2)
  refine sound (d := 2) tok2 mixed2 Try.func37 (by kernel_rfl) (by kernel_rfl) ?_
  have hW1 := wetSO_len N k true
  have hW2 := wetSO_len N k false
  have hfl := fillB_len N k
  conv => whnf
  refine ⟨[], by kernel_rfl, ?_⟩
  conv => whnf
  refine .inl ⟨_, _, byX rfl (S17o _ (by omega) (by omega)), ?_⟩
  conv => whnf
  refine .inl ⟨_, _, byX rfl (S17o _ (by omega) (by omega)), ?_⟩
  conv => whnf
  refine ⟨[(4, 8)], by kernel_rfl, ?_⟩
  conv => whnf
  refine ⟨⟨(by omega), (by omega)⟩, ?_⟩
  refine ⟨_, fun _ _ => rfl, ?_⟩
  conv => whnf
  refine ⟨⟨(by omega), (by omega)⟩, ?_⟩
  refine ⟨_, fun _ _ => rfl, ?_⟩
  conv => whnf
  refine ⟨[], by kernel_rfl, ?_⟩
  conv => whnf
  refine .inl ⟨_, _, byX rfl (ha _ (fun _ => rfl)), ?_⟩
  conv => whnf
  refine .inl ⟨_, _, byX rfl (hb _ (fun _ => rfl)), ?_⟩
  conv => whnf
  refine ⟨[], [7, 8, 9], fun st mq => ∃ (i : Nat) (n : Nat) (y : List Bool) (F0 : Nat → List AV) (F1 : Nat → List AV) (F2 : Nat → List AV) (F3 : Nat → List AV) (F4 : Nat → List AV) (F5 : Nat → List AV) (F6 : Nat → List AV), (i ≤ N.cs.length) ∧ (n = N.cs.length) ∧ (y.length = N.cs.length) ∧ (∀ j, j < i → y.getD j false = (fillB N k).getD j false) ∧ (∀ j, i ≤ j → y.getD j false = (wetB (setOpen N k true)).getD j false) ∧ st = ⟨[(7, .oslice 7 0 0 n none), (8, .oslice 8 0 0 (wetB (setOpen N k false)).length none), (9, i64 i)], ⟨[⟨2, 1, F0, 0, false, true, false⟩, ⟨4, N.ns.length, F1, 0, false, true, false⟩, ⟨6, N.cs.length, F2, 0, false, true, false⟩, ⟨4, N.ns.length, F3, 0, false, true, false⟩, ⟨6, N.cs.length, F4, 0, false, true, false⟩, ⟨2, 1, F5, 0, false, false, false⟩, ⟨2, 1, F6, 0, false, false, false⟩, ⟨1, n, fun i => [vb (y.getD i false)], 0, false, true, false⟩, ⟨1, (wetB (setOpen N k false)).length, fun i => [vb ((wetB (setOpen N k false)).getD i false)], 0, false, true, false⟩], [], none, 0⟩, []⟩ ∧ mq = N.cs.length - i,
    ⟨_, _, ⟨0, _, wetB (setOpen N k true), _, _, _, _, _, _, _, by omega, hW1, hW1, fun j h => absurd h (Nat.not_lt_zero j), fun j _ => rfl, rfl, rfl⟩, ⟨⟨rfl, rfl, rfl, rfl⟩, ⟨⟨rfl, rfl, rfl, rfl, fun _ => rfl, fun _ _ => rfl⟩, ⟨⟨rfl, rfl, rfl, rfl, fun _ => rfl, fun _ _ => rfl⟩, ⟨⟨rfl, rfl, rfl, rfl, fun _ => rfl, fun _ _ => rfl⟩, ⟨⟨rfl, rfl, rfl, rfl, fun _ => rfl, fun _ _ => rfl⟩, ⟨⟨rfl, rfl, rfl, rfl, fun _ => rfl, fun _ _ => rfl⟩, ⟨⟨rfl, rfl, rfl, rfl, nofun, fun _ _ => rfl⟩, ⟨⟨rfl, rfl, rfl, rfl, nofun, fun _ _ => rfl⟩, ⟨⟨rfl, rfl, rfl, rfl, fun _ => rfl, fun _ _ => rfl⟩, ⟨⟨rfl, rfl, rfl, rfl, fun _ => rfl, fun _ _ => rfl⟩, trivial⟩⟩⟩⟩⟩⟩⟩⟩⟩, trivial⟩⟩, ?_⟩
  rintro s0 m0 ⟨i, n, y, F0, F1, F2, F3, F4, F5, F6, hi, hn, hy, h3, h4, rfl, hmeas⟩
  by_cases hil : i < N.cs.length
  · have hF := fillB_getD N k i hil
    rw [← h4 i (Nat.le_refl i)] at hF
    conv => whnf
    conv => whnf
    refine ifB_dec (fun w1 => ?_) (fun w1 => ?_)
    · conv => whnf
      conv => whnf
      refine ⟨⟨(by omega), (by omega)⟩, ?_⟩
      conv => whnf
      conv => whnf
      refine ifB_intro (fun w2 => ?_) (fun w2 => ?_)
      · conv => whnf
        conv => whnf
        refine ⟨⟨(by omega), (by omega)⟩, ?_⟩
        conv => whnf
        conv => whnf
        refine ⟨⟨(by omega), (by omega)⟩, ?_⟩
        refine ⟨_, fun i _ => row1 _ _ i _ (by first | omega | (simp only [List.length_set]; omega) | (simp only [List.length_replicate]; omega) | (simp only [List.length_set, List.length_replicate]; omega)), ?_⟩
        conv => whnf
        conv => whnf
        refine ⟨inK64 (by omega) (by omega), ?_⟩
        have e : y.getD i false = true := by simpa using w2
        rw [e] at hF
        have hs := set_inv (v := !(wetB (setOpen N k false)).getD (0 + (i : Int).toNat) false) h3 (by omega) (by rw [hF]; simp)
        conv => whnf
        conv => whnf
        refine ⟨_, _, ⟨⟨i + 1, n, y.set (i : Int).toNat (!(wetB (setOpen N k false)).getD (0 + (i : Int).toNat) false), _, _, _, _, _, _, _, by omega, hn, by simpa using hy, hs, fun j hj => (by rw [getD_set, if_neg (fun e => by have := e.1; simp at this; omega)]; exact h4 j (by omega)), rfl, rfl⟩, by omega⟩, ⟨⟨rfl, rfl, rfl, rfl⟩, ⟨⟨rfl, rfl, rfl, rfl, fun _ => rfl, fun _ _ => rfl⟩, ⟨⟨rfl, rfl, rfl, rfl, fun _ => rfl, fun _ _ => rfl⟩, ⟨⟨rfl, rfl, rfl, rfl, fun _ => rfl, fun _ _ => rfl⟩, ⟨⟨rfl, rfl, rfl, rfl, fun _ => rfl, fun _ _ => rfl⟩, ⟨⟨rfl, rfl, rfl, rfl, fun _ => rfl, fun _ _ => rfl⟩, ⟨⟨rfl, rfl, rfl, rfl, nofun, fun _ _ => rfl⟩, ⟨⟨rfl, rfl, rfl, rfl, nofun, fun _ _ => rfl⟩, ⟨⟨rfl, rfl, rfl, rfl, fun _ => rfl, fun _ _ => rfl⟩, ⟨⟨rfl, rfl, rfl, rfl, fun _ => rfl, fun _ _ => rfl⟩, trivial⟩⟩⟩⟩⟩⟩⟩⟩⟩, trivial⟩⟩
      · conv => whnf
        conv => whnf
        refine ⟨⟨(by omega), (by omega)⟩, ?_⟩
        refine ⟨_, fun i _ => row1 _ _ i _ (by first | omega | (simp only [List.length_set]; omega) | (simp only [List.length_replicate]; omega) | (simp only [List.length_set, List.length_replicate]; omega)), ?_⟩
        conv => whnf
        conv => whnf
        refine ⟨inK64 (by omega) (by omega), ?_⟩
        have e : y.getD i false = false := by simpa using w2
        rw [e] at hF
        have hs := set_inv (v := false) h3 (by omega) (by rw [hF]; rfl)
        conv => whnf
        conv => whnf
        refine ⟨_, _, ⟨⟨i + 1, n, y.set (i : Int).toNat false, _, _, _, _, _, _, _, by omega, hn, by simpa using hy, by simpa using hs, fun j hj => (by rw [getD_set, if_neg (fun e => by have := e.1; simp at this; omega)]; exact h4 j (by omega)), rfl, rfl⟩, by omega⟩, ⟨⟨rfl, rfl, rfl, rfl⟩, ⟨⟨rfl, rfl, rfl, rfl, fun _ => rfl, fun _ _ => rfl⟩, ⟨⟨rfl, rfl, rfl, rfl, fun _ => rfl, fun _ _ => rfl⟩, ⟨⟨rfl, rfl, rfl, rfl, fun _ => rfl, fun _ _ => rfl⟩, ⟨⟨rfl, rfl, rfl, rfl, fun _ => rfl, fun _ _ => rfl⟩, ⟨⟨rfl, rfl, rfl, rfl, fun _ => rfl, fun _ _ => rfl⟩, ⟨⟨rfl, rfl, rfl, rfl, nofun, fun _ _ => rfl⟩, ⟨⟨rfl, rfl, rfl, rfl, nofun, fun _ _ => rfl⟩, ⟨⟨rfl, rfl, rfl, rfl, fun _ => rfl, fun _ _ => rfl⟩, ⟨⟨rfl, rfl, rfl, rfl, fun _ => rfl, fun _ _ => rfl⟩, trivial⟩⟩⟩⟩⟩⟩⟩⟩⟩, trivial⟩⟩
    · (exfalso; omega)
  · have e : i = N.cs.length := by omega
    subst e
    have e : y = fillB N k := ext_inv hy hfl h3
    subst e
    subst hn
    rw [bools_n hfl] at h94
    conv => whnf
    conv => whnf
    refine ifB_dec (fun w1 => ?_) (fun w1 => ?_)
    · (exfalso; omega)
    · conv => whnf
      conv => whnf
      refine .inl ⟨_, _, byX rfl (h94), ?_⟩
      conv => whnf
      conv => whnf
      refine ⟨?_, nofun⟩
      exact ave_ints rfl fun _ _ => rfl
end Go.Tr

/- Contracts of chapter 2: the three functions of reach. Conditions: none. -/
namespace Go.Tr
open Go Go.Proofs
set_option maxRecDepth 20000
set_option maxHeartbeats 8000000

theorem S34 (a b : List Int) (ha : a.length ≤ 1000000000) (hb : b.length ≤ 1000000000) : SP 34 [ints a, ints b] (vb (decide (a = b))) false := by
  refine sound (d := 2) tok2 mixed2 Try.func34 (by kernel_rfl) (by kernel_rfl) ?_
  conv => whnf
  refine ifB_bne (fun w1 => ?_) (fun w1 => ?_)
  · conv => whnf
    refine ⟨?_, nofun⟩
    show vb false = vb _
    rw [decide_eq_false]
    intro e; subst e; exact w1 rfl
  · have hab : a.length = b.length := by omega
    conv => whnf
    refine ⟨[], [0, 1, 5], fun st mq => ∃ (k : Nat), (k ≤ a.length) ∧ (∀ i, i < k → a.getD i 0 = b.getD i 0) ∧ st = ⟨[(0, ints a), (1, ints b), (5, i64 k)], ⟨[], [], none, 0⟩, []⟩ ∧ mq = a.length - k,
      ⟨_, _, ⟨0, by omega, fun i h => absurd h (Nat.not_lt_zero i), rfl, rfl⟩, ⟨⟨rfl, rfl, rfl, rfl⟩, trivial, trivial⟩⟩, ?_⟩
    rintro s0 m0 ⟨k, hk, h1, rfl, hmeas⟩
    conv => whnf
    conv => whnf
    refine ifB_dec (fun w2 => ?_) (fun w2 => ?_)
    · conv => whnf
      conv => whnf
      refine ⟨[], by kernel_rfl, ?_⟩
      conv => whnf
      conv => whnf
      refine ⟨⟨(by omega), (by omega)⟩, ?_⟩
      conv => whnf
      conv => whnf
      refine ⟨⟨(by omega), (by omega)⟩, ?_⟩
      conv => whnf
      conv => whnf
      refine ifB_bne (fun w3 => ?_) (fun w3 => ?_)
      · conv => whnf
        conv => whnf
        refine ⟨?_, nofun⟩
        have e : ¬ a.getD k 0 = b.getD k 0 := w3
        show vb false = vb _
        rw [decide_eq_false]
        intro h; subst h; exact e rfl
      · conv => whnf
        conv => whnf
        refine ⟨inK64 (by omega) (by omega), ?_⟩
        have e : a.getD k 0 = b.getD k 0 := w3
        conv => whnf
        conv => whnf
        refine ⟨_, _, ⟨⟨k + 1, by omega, fun i hi => (by rcases Nat.lt_or_ge i k with h | h; exact h1 i h; rw [show i = k by omega]; exact e), rfl, rfl⟩, by omega⟩, ⟨⟨rfl, rfl, rfl, rfl⟩, trivial, trivial⟩⟩
    · conv => whnf
      conv => whnf
      refine ⟨?_, nofun⟩
      have e : k = a.length := by omega
      subst e
      show vb true = vb _
      rw [decide_eq_true]
      apply List.ext_getElem hab
      intro i h2 h3
      have := h1 i h2
      simpa [List.getD_eq_getElem?_getD, h2, h3] using this

/-- The nodes that are reached from a node. -/
def reachB (N : Net) (k : Int) : List Bool := clo (opnU N) N.cs (marks N.ns.length [k])
theorem marks_len (n : Nat) (l : List Int) : (marks n l).length = n := by unfold marks; rw [foldl_set_len]; simp
theorem reachB_len (N : Net) (k : Int) : (reachB N k).length = N.ns.length := by unfold reachB; rw [clo_len, marks_len]
theorem S95f {N : Net} {m : List Bool} (hm : m.length = N.ns.length) (hn : N.ns.length ≤ 1000) (hc : N.cs.length ≤ 1000) (hr : inR N.ns.length N.cs) (f : Nat → List AV) (hf : ∀ j, j < N.ns.length → f j = [vb (m.getD j false)]) :
    SP 95 [netV N, .rslice 1 N.ns.length f] (bools (clo (opnU N) N.cs m)) true :=
  (S95 N m hm hn hc hr).args rfl fun i y x hy hx => by
    match i, hy, hx with
    | 0, hy, hx => cases hy; cases hx; exact ave_agg2 (k := 4) (a := .rslice 4 N.ns.length _) (b := .rslice 6 N.cs.length _) ⟨rfl, rfl, fun _ _ => rfl⟩ ⟨rfl, rfl, fun _ _ => rfl⟩
    | 1, hy, hx => cases hy; cases hx; exact ⟨rfl, hm.symm, hf⟩
theorem S35 (N : Net) (k : Int) (h0 : 0 ≤ k) (h1 : k < N.ns.length) (hn : N.ns.length ≤ 1000) (hc : N.cs.length ≤ 1000) (hr : inR N.ns.length N.cs) : SP 35 [netV N, i64 k] (ints (whereF 0 (reachB N k))) false := by
  have h95 := S95f (m := marks N.ns.length [k]) (marks_len _ _) hn hc hr
  have h94 := S94 (reachB N k) (by rw [reachB_len]; exact hn)
  change ∀ f, _ → SP 95 _ (bools (reachB N k)) true at h95
  refine sound (d := 2) tok2 mixed2 Try.func35 (by kernel_rfl) (by kernel_rfl) ?_
  conv => whnf
  refine ⟨⟨(by omega), ⟨(by omega), ⟨(by omega), (by show _ * ((1 : Nat) : Int) ≤ _; omega)⟩⟩⟩, ?_⟩
  conv => whnf
  refine ⟨⟨(by omega), (by omega)⟩, ?_⟩
  refine ⟨_, fun _ _ => rfl, ?_⟩
  conv => whnf
  refine .inl ⟨_, _, byX rfl (h95 _ ?_), ?_⟩
  · intro j hj
    have h := row1 (List.replicate N.ns.length false) k.toNat j true (by simp; omega)
    rw [rep_row] at h
    exact h.symm
  · conv => whnf
    refine .inl ⟨_, _, byX rfl (h94), ?_⟩
    conv => whnf
    refine ⟨?_, nofun⟩
    exact ave_ints rfl fun _ _ => rfl
theorem S36 (N : Net) (hn : N.ns.length ≤ 1000) (hc : N.cs.length ≤ 1000) (hr : inR N.ns.length N.cs) : SP 36 [netV N] (ints (whereF 0 (wetB N))) false := by
  have h94 := S94 (wetB N) (by rw [wetB_len]; exact hc)
  refine sound (d := 2) tok2 mixed2 Try.func36 (by kernel_rfl) (by kernel_rfl) ?_
  conv => whnf
  refine .inl ⟨_, _, byX rfl (S96 _ (by omega) (by omega) (by omega)), ?_⟩
  conv => whnf
  refine .inl ⟨_, _, byX rfl (h94), ?_⟩
  conv => whnf
  refine ⟨?_, nofun⟩
  exact ave_ints rfl fun _ _ => rfl

theorem S90_1 (N : Net) (k : Int) (h0 : 0 ≤ k) (h1 : k < N.ns.length) (hn : N.ns.length ≤ 1000) (hc : N.cs.length ≤ 1000) (hr : inR N.ns.length N.cs) (f : Nat → List AV) (hf : f 0 = [i64 k]) : SP 90 [netV N, .rslice 1 1 f, .func (.func 91) 1 [netV N]] (bools (reachB N k)) true :=
  (S90 N 91 N (opnU N) [k] hn hc hr (by simpa using ⟨h0, h1⟩) (by simp) (S91p N)).args rfl fun i y x hy hx => by
    match i, hy, hx with
    | 0, hy, hx => cases hy; cases hx; exact ave_agg2 (k := 4) (a := .rslice 4 N.ns.length _) (b := .rslice 6 N.cs.length _) ⟨rfl, rfl, fun _ _ => rfl⟩ ⟨rfl, rfl, fun _ _ => rfl⟩
    | 1, hy, hx => cases hy; cases hx; exact ⟨rfl, rfl, fun i hi => match i, hi with | 0, _ => hf⟩
    | 2, hy, hx => cases hy; cases hx; rfl

theorem ave_listE {k : Nat} {x : AV} {l : List Int} {e : Int} (h : AVE (k + 3) x (ints l)) : AVE (k + 4) (.tuple [x, i64 e]) (.tuple [ints l, i64 e]) := by
  refine ⟨rfl, fun i a b h1 h2 => ?_⟩
  match i, h1, h2 with
  | 0, h1, h2 => cases h1; cases h2; exact h
  | 1, h1, h2 => cases h1; cases h2; rfl
theorem ave_nilE (k : Nat) (e : Int) : AVE (k + 4) (.tuple [.eslice, i64 e]) (.tuple [ints [], i64 e]) := ave_listE (k := k) (show (0 : Nat) = 0 from rfl)

theorem S29 (N : Net) (hN : N.In) (k : Int) : SP 29 [netV N, i64 k] (.tuple [ints (if firstOf [netE N, ndE N k] = 0 then whereF 0 (reachB N k) else []), i64 (firstOf [netE N, ndE N k])]) false := by
  have hn := hN.nl
  have h87 := S87 N hN
  by_cases hE : firstOf [netE N, ndE N k] = 0
  · have hz := firstOf_zero hE
    have hok := net_ok (hz _ (by simp : netE N ∈ _))
    have h1 := hok.n1
    have h2 := hok.c1
    have hk : 0 ≤ k ∧ k ≤ (N.ns.length : Int) - 1 := by
      have := hz (ndE N k) (by simp)
      unfold ndE at this
      split at this
      · assumption
      · cases this
    have h90 := S90_1 N k hk.1 (by omega) (by omega) (by omega) hok.ends
    have h89 := S89 (reachB N k) (by rw [reachB_len]; omega)
    rw [if_pos hE, hE]
    refine sound (d := 2) tok2 mixed2 Try.func29 (by kernel_rfl) (by kernel_rfl) ?_
    conv => whnf
    refine .inl ⟨_, _, byX rfl (h87), ?_⟩
    conv => whnf
    refine .inl ⟨_, _, byX rfl (Sound1.pl (S88 _ (by omega) _) rfl), ?_⟩
    conv => whnf
    refine .inl ⟨_, _, byX rfl (Sound1.pl (S71_2 _ _ _ ⟨rfl, rfl⟩) rfl), ?_⟩
    conv => whnf
    refine ifB_bne (fun w1 => ?_) (fun w1 => ?_)
    · (exfalso; omega)
    · conv => whnf
      refine .inl ⟨_, _, byX rfl (h90 _ rfl), ?_⟩
      conv => whnf
      refine .inl ⟨_, _, byX rfl (h89), ?_⟩
      conv => whnf
      refine ⟨?_, nofun⟩
      exact ave_listE (k := 1) (ave_ints rfl fun _ _ => rfl)
  · rw [if_neg hE]
    refine sound (d := 2) tok2 mixed2 Try.func29 (by kernel_rfl) (by kernel_rfl) ?_
    conv => whnf
    refine .inl ⟨_, _, byX rfl (h87), ?_⟩
    conv => whnf
    refine .inl ⟨_, _, byX rfl (Sound1.pl (S88 _ (by omega) _) rfl), ?_⟩
    conv => whnf
    refine .inl ⟨_, _, byX rfl (Sound1.pl (S71_2 _ _ _ ⟨rfl, rfl⟩) rfl), ?_⟩
    conv => whnf
    refine ifB_bne (fun w1 => ?_) (fun w1 => ?_)
    · conv => whnf
      refine ⟨?_, nofun⟩
      exact ave_nilE 1 _
    · (exfalso; omega)

theorem S30 (N : Net) (hN : N.In) : SP 30 [netV N] (.tuple [ints (if netE N = 0 then whereF 0 (wetB N) else []), i64 (netE N)]) false := by
  have hn := hN.nl
  have h87 := S87 N hN
  by_cases hE : netE N = 0
  · have hok := net_ok hE
    have h1 := hok.n1
    have h2 := hok.c1
    have h92 := S92 N (by omega) (by omega) hok.ends
    have h89 := S89 (wetB N) (by rw [wetB_len]; omega)
    rw [if_pos hE]
    rw [hE] at h87 ⊢
    refine sound (d := 2) tok2 mixed2 Try.func30 (by kernel_rfl) (by kernel_rfl) ?_
    conv => whnf
    refine .inl ⟨_, _, byX rfl (h87), ?_⟩
    conv => whnf
    refine .inl ⟨_, _, byX rfl (h92), ?_⟩
    conv => whnf
    refine .inl ⟨_, _, byX rfl (h89), ?_⟩
    conv => whnf
    refine ⟨?_, nofun⟩
    exact ave_listE (k := 1) (ave_ints rfl fun _ _ => rfl)
  · rw [if_neg hE]
    refine sound (d := 2) tok2 mixed2 Try.func30 (by kernel_rfl) (by kernel_rfl) ?_
    conv => whnf
    refine .inl ⟨_, _, byX rfl (h87), ?_⟩
    conv => whnf
    refine ifB_bne (fun w1 => ?_) (fun w1 => ?_)
    · conv => whnf
      refine ⟨?_, nofun⟩
      exact ave_nilE 1 _
    · (exfalso; omega)

def conN (N : Net) (k : Int) : Int := if decide (0 ≤ k ∧ k ≤ (N.cs.length : Int) - 1) = true then 0 else 6
def fillE (N : Net) (k : Int) : Int := if firstOf [netE N, conN N k] = 0 then (if (N.cs.getD k.toNat cn0).valve then 0 else 12) else firstOf [netE N, conN N k]
theorem S31 (N : Net) (hN : N.In) (k : Int) : SP 31 [netV N, i64 k] (.tuple [ints (if fillE N k = 0 then whereF 0 (fillB N k.toNat) else []), i64 (fillE N k)]) false := by
  have hn := hN.cl
  have h87 := S87 N hN
  unfold fillE
  by_cases hE : firstOf [netE N, conN N k] = 0
  · have hz := firstOf_zero hE
    have hok := net_ok (hz _ (by simp : netE N ∈ _))
    have h1 := hok.n1
    have h2 := hok.c1
    have hk : 0 ≤ k ∧ k ≤ (N.cs.length : Int) - 1 := by
      have := hz (conN N k) (by simp)
      unfold conN at this
      split at this
      · exact of_decide_eq_true (by assumption)
      · cases this
    obtain ⟨i, rfl⟩ : ∃ i : Nat, k = i := ⟨k.toNat, by omega⟩
    have hE' : firstOf [netE N, if decide (0 ≤ (i : Int) ∧ (i : Int) ≤ (N.cs.length : Int) - 1) = true then 0 else 6] = 0 := hE
    have hi : i < N.cs.length := by omega
    rw [if_pos hE]
    cases hv : (N.cs.getD (i : Int).toNat cn0).valve with
    | false =>
      rw [if_neg nofun, if_neg (by decide)]
      refine sound (d := 2) tok2 mixed2 Try.func31 (by kernel_rfl) (by kernel_rfl) ?_
      conv => whnf
      refine .inl ⟨_, _, byX rfl (h87), ?_⟩
      conv => whnf
      refine ⟨inK64 (by omega) (by omega), ?_⟩
      conv => whnf
      refine .inl ⟨_, _, byX rfl (Sound1.pl (S74 _ _ _) rfl), ?_⟩
      conv => whnf
      refine .inl ⟨_, _, byX rfl (Sound1.pl (S72 _ _) rfl), ?_⟩
      conv => whnf
      refine .inl ⟨_, _, byX rfl (Sound1.pl (S71_2 _ _ _ ⟨rfl, rfl⟩) rfl), ?_⟩
      conv => whnf
      refine ifB_bne (fun w1 => ?_) (fun w1 => ?_)
      · (exfalso; omega)
      · conv => whnf
        refine ⟨⟨(by omega), (by omega)⟩, ?_⟩
        conv => whnf
        refine ifB_not ?_
        conv => whnf
        refine ifB_intro (fun w2 => ?_) (fun w2 => ?_)
        · exact absurd (hv.symm.trans w2) nofun
        · conv => whnf
          refine ⟨?_, nofun⟩
          exact ave_nilE 1 _
    | true =>
      rw [if_pos rfl, if_pos rfl]
      have h92a := S92 (setOpen N i false) (show N.ns.length ≤ 1000 by omega) (by rw [setOpen_len]; omega) (inR_setOpen hi hok.ends)
      have h92b := S92 (setOpen N i true) (show N.ns.length ≤ 1000 by omega) (by rw [setOpen_len]; omega) (inR_setOpen hi hok.ends)
      have h93a := S93 N i false hi (by omega)
      have h93b := S93 N i true hi (by omega)
      have hW1 := wetSO_len N i true
      have hW2 := wetSO_len N i false
      have hfl := fillB_len N i
      have h89 := S89 (fillB N i) (by rw [hfl]; omega)
      refine sound (d := 2) tok2 mixed2 Try.func31 (by kernel_rfl) (by kernel_rfl) ?_
      conv => whnf
      refine .inl ⟨_, _, byX rfl (h87), ?_⟩
      conv => whnf
      refine ⟨inK64 (by omega) (by omega), ?_⟩
      conv => whnf
      refine .inl ⟨_, _, byX rfl (Sound1.pl (S74 _ _ _) rfl), ?_⟩
      conv => whnf
      refine .inl ⟨_, _, byX rfl (Sound1.pl (S72 _ _) rfl), ?_⟩
      conv => whnf
      refine .inl ⟨_, _, byX rfl (Sound1.pl (S71_2 _ _ _ ⟨rfl, rfl⟩) rfl), ?_⟩
      conv => whnf
      refine ifB_bne (fun w1 => ?_) (fun w1 => ?_)
      · (exfalso; omega)
      · conv => whnf
        refine ⟨⟨(by omega), (by omega)⟩, ?_⟩
        conv => whnf
        refine ifB_not ?_
        conv => whnf
        refine ifB_intro (fun w2 => ?_) (fun w2 => ?_)
        · conv => whnf
          refine .inl ⟨_, _, byX rfl (h93a), ?_⟩
          conv => whnf
          refine .inl ⟨_, _, byX rfl (h92a), ?_⟩
          conv => whnf
          refine .inl ⟨_, _, byX rfl (h93b), ?_⟩
          conv => whnf
          refine .inl ⟨_, _, byX rfl (h92b), ?_⟩
          conv => whnf
          refine ⟨[], [8, 9, 46, 47], fun st mq => ∃ (j : Nat) (n : Nat) (y : List Bool) (F0 : Nat → List AV) (F1 : Nat → List AV) (F2 : Nat → List AV), (j ≤ N.cs.length) ∧ (n = N.cs.length) ∧ (y.length = N.cs.length) ∧ (∀ p, p < j → y.getD p false = (fillB N i).getD p false) ∧ (∀ p, j ≤ p → y.getD p false = (wetB (setOpen N i true)).getD p false) ∧ st = ⟨[(8, .oslice 3 0 0 (wetB (setOpen N i false)).length none), (9, .oslice 4 0 0 n none), (46, i64 n), (47, i64 j)], ⟨[⟨2, 1, F0, 0, false, true, false⟩, ⟨2, 1, F1, 0, false, true, false⟩, ⟨1, 2, F2, 0, false, true, false⟩, ⟨1, (wetB (setOpen N i false)).length, fun p => [vb ((wetB (setOpen N i false)).getD p false)], 0, false, true, false⟩, ⟨1, n, fun p => [vb (y.getD p false)], 0, false, true, false⟩], [], none, 0⟩, []⟩ ∧ mq = N.cs.length - j,
            ⟨_, _, ⟨0, _, wetB (setOpen N i true), _, _, _, by omega, hW1, hW1, fun j h => absurd h (Nat.not_lt_zero j), fun j _ => rfl, rfl, rfl⟩, ⟨⟨rfl, rfl, rfl, rfl⟩, ⟨⟨rfl, rfl, rfl, rfl, fun _ => rfl, fun _ _ => rfl⟩, ⟨⟨rfl, rfl, rfl, rfl, fun _ => rfl, fun _ _ => rfl⟩, ⟨⟨rfl, rfl, rfl, rfl, fun _ => rfl, fun _ _ => rfl⟩, ⟨⟨rfl, rfl, rfl, rfl, fun _ => rfl, fun _ _ => rfl⟩, ⟨⟨rfl, rfl, rfl, rfl, fun _ => rfl, fun _ _ => rfl⟩, trivial⟩⟩⟩⟩⟩, trivial⟩⟩, ?_⟩
          rintro s0 m0 ⟨j, n, y, F0, F1, F2, hj, hn1, hy, h3, h4, rfl, hmeas⟩
          by_cases hil : j < N.cs.length
          · have hF := fillB_getD N i j hil
            rw [← h4 j (Nat.le_refl j)] at hF
            conv => whnf
            conv => whnf
            refine ifB_dec (fun w3 => ?_) (fun w3 => ?_)
            · conv => whnf
              conv => whnf
              refine ⟨⟨(by omega), (by omega)⟩, ?_⟩
              conv => whnf
              conv => whnf
              refine ifB_intro (fun w4 => ?_) (fun w4 => ?_)
              · conv => whnf
                conv => whnf
                refine ⟨⟨(by omega), (by omega)⟩, ?_⟩
                conv => whnf
                conv => whnf
                refine ⟨⟨(by omega), (by omega)⟩, ?_⟩
                refine ⟨_, fun i _ => row1 _ _ i _ (by first | omega | (simp only [List.length_set]; omega) | (simp only [List.length_replicate]; omega) | (simp only [List.length_set, List.length_replicate]; omega)), ?_⟩
                conv => whnf
                conv => whnf
                refine ⟨inK64 (by omega) (by omega), ?_⟩
                have e : y.getD j false = true := by simpa using w4
                rw [e] at hF
                have hs := set_inv (v := !(wetB (setOpen N i false)).getD (0 + (j : Int).toNat) false) h3 (by omega) (by rw [hF]; simp)
                conv => whnf
                conv => whnf
                refine ⟨_, _, ⟨⟨j + 1, n, y.set (j : Int).toNat (!(wetB (setOpen N i false)).getD (0 + (j : Int).toNat) false), _, _, _, by omega, hn1, by simpa using hy, hs, fun p hp => (by rw [getD_set, if_neg (fun e => by have := e.1; simp at this; omega)]; exact h4 p (by omega)), rfl, rfl⟩, by omega⟩, ⟨⟨rfl, rfl, rfl, rfl⟩, ⟨⟨rfl, rfl, rfl, rfl, fun _ => rfl, fun _ _ => rfl⟩, ⟨⟨rfl, rfl, rfl, rfl, fun _ => rfl, fun _ _ => rfl⟩, ⟨⟨rfl, rfl, rfl, rfl, fun _ => rfl, fun _ _ => rfl⟩, ⟨⟨rfl, rfl, rfl, rfl, fun _ => rfl, fun _ _ => rfl⟩, ⟨⟨rfl, rfl, rfl, rfl, fun _ => rfl, fun _ _ => rfl⟩, trivial⟩⟩⟩⟩⟩, trivial⟩⟩
              · conv => whnf
                conv => whnf
                refine ⟨⟨(by omega), (by omega)⟩, ?_⟩
                refine ⟨_, fun i _ => row1 _ _ i _ (by first | omega | (simp only [List.length_set]; omega) | (simp only [List.length_replicate]; omega) | (simp only [List.length_set, List.length_replicate]; omega)), ?_⟩
                conv => whnf
                conv => whnf
                refine ⟨inK64 (by omega) (by omega), ?_⟩
                have e : y.getD j false = false := by simpa using w4
                rw [e] at hF
                have hs := set_inv (v := false) h3 (by omega) (by rw [hF]; rfl)
                conv => whnf
                conv => whnf
                refine ⟨_, _, ⟨⟨j + 1, n, y.set (j : Int).toNat false, _, _, _, by omega, hn1, by simpa using hy, by simpa using hs, fun p hp => (by rw [getD_set, if_neg (fun e => by have := e.1; simp at this; omega)]; exact h4 p (by omega)), rfl, rfl⟩, by omega⟩, ⟨⟨rfl, rfl, rfl, rfl⟩, ⟨⟨rfl, rfl, rfl, rfl, fun _ => rfl, fun _ _ => rfl⟩, ⟨⟨rfl, rfl, rfl, rfl, fun _ => rfl, fun _ _ => rfl⟩, ⟨⟨rfl, rfl, rfl, rfl, fun _ => rfl, fun _ _ => rfl⟩, ⟨⟨rfl, rfl, rfl, rfl, fun _ => rfl, fun _ _ => rfl⟩, ⟨⟨rfl, rfl, rfl, rfl, fun _ => rfl, fun _ _ => rfl⟩, trivial⟩⟩⟩⟩⟩, trivial⟩⟩
            · (exfalso; omega)
          · have e : j = N.cs.length := by omega
            subst e
            have e : y = fillB N i := ext_inv hy hfl h3
            subst e
            subst hn1
            rw [bools_n hfl] at h89
            conv => whnf
            conv => whnf
            refine ifB_dec (fun w3 => ?_) (fun w3 => ?_)
            · (exfalso; omega)
            · conv => whnf
              conv => whnf
              refine .inl ⟨_, _, byX rfl (h89), ?_⟩
              conv => whnf
              conv => whnf
              refine ⟨?_, nofun⟩
              exact ave_listE (k := 1) (ave_ints rfl fun _ _ => rfl)
        · exact absurd (hv.symm.trans w2) nofun
  · rw [if_neg hE, if_neg hE]
    have hE' : ¬ firstOf [netE N, if decide (0 ≤ k ∧ k ≤ (N.cs.length : Int) - 1) = true then 0 else 6] = 0 := hE
    refine sound (d := 2) tok2 mixed2 Try.func31 (by kernel_rfl) (by kernel_rfl) ?_
    conv => whnf
    refine .inl ⟨_, _, byX rfl (h87), ?_⟩
    conv => whnf
    refine ⟨inK64 (by omega) (by omega), ?_⟩
    conv => whnf
    refine .inl ⟨_, _, byX rfl (Sound1.pl (S74 _ _ _) rfl), ?_⟩
    conv => whnf
    refine .inl ⟨_, _, byX rfl (Sound1.pl (S72 _ _) rfl), ?_⟩
    conv => whnf
    refine .inl ⟨_, _, byX rfl (Sound1.pl (S71_2 _ _ _ ⟨rfl, rfl⟩) rfl), ?_⟩
    conv => whnf
    refine ifB_bne (fun w1 => ?_) (fun w1 => ?_)
    · conv => whnf
      refine ⟨?_, nofun⟩
      exact ave_nilE 1 _
    · (exfalso; omega)
end Go.Tr

/- The examples of chapter 2 are as they should be: awake gives true. Conditions: none. -/
namespace Go.Tr
open Go Go.Proofs

def G83 : FuncId → List AV → Option (AV × Bool)
  | 83, [.val (.int .i64 r), .val (.int .i64 d)] => bif decide (0 ≤ r) && decide (r ≤ 1000000) then some (.agg [i64 (loF r d), i64 (hiF r d)], false) else none
  | _, _ => none
theorem G83_ok (f : FuncId) (args : List AV) (r : AV) (fr : Bool) (h : G83 f args = some (r, fr)) : SP f args r fr ∧ fr = false := by
  unfold G83 at h
  split at h
  · rename_i r0 d0
    cases hb : (decide (0 ≤ r0) && decide (r0 ≤ 1000000)) with
    | true =>
      rw [hb, cond_true] at h
      cases h
      simp only [Bool.and_eq_true, decide_eq_true_eq] at hb
      exact ⟨S83 r0 d0 hb.1 hb.2, rfl⟩
    | false => rw [hb] at h; cases h
  · cases h

theorem run_drop : Run.ok Try.prog ⟨28, [tab 1 [[i64 100], [i64 400]], i64 30], .tuple [.agg [i64 36101, i64 40000], i64 0]⟩ := run_okG mixed2 G83_ok 1000 60 (by kernel_rfl)
theorem run_gap : Run.ok Try.prog ⟨42, [netA, i64 17], .tuple [i64 (-2200), i64 0]⟩ := run_ok mixed2 (l := []) (by simp) 1000 60 (by kernel_rfl)
end Go.Tr

/- The examples of chapter 2: cuts and fills. Conditions: none. -/
namespace Go.Tr
open Go Go.Proofs
theorem run_fill : Run.ok Try.prog ⟨31, [dryA, i64 0], .tuple [tab 1 [[i64 0], [i64 1]], i64 0]⟩ := run_ok mixed2 (l := []) (by simp) 1000 60 (by kernel_rfl)
theorem run_cut : Run.ok Try.prog ⟨55, [netA, .agg [i64 0, i64 2]], .tuple [tab 1 [[i64 1]], i64 0]⟩ := run_ok mixed2 (l := []) (by simp) 1000 60 (by kernel_rfl)
end Go.Tr

/- The examples of chapter 2: the circulation. Conditions: none. -/
namespace Go.Tr
open Go Go.Proofs
theorem run_circ : Run.ok Try.prog ⟨48, [netA], .tuple [.agg [i64 17, i64 18], i64 0]⟩ := run_ok mixed2 (l := []) (by simp) 1000 60 (by kernel_rfl)
end Go.Tr

/- The examples of chapter 2 are as they should be: awake gives true. Conditions: none. -/
namespace Go.Tr
open Go Go.Proofs
def runs2 : List Run := [⟨69, [], netA⟩, ⟨70, [], dryA⟩, ⟨28, [tab 1 [[i64 100], [i64 400]], i64 30], .tuple [.agg [i64 36101, i64 40000], i64 0]⟩, ⟨42, [netA, i64 17], .tuple [i64 (-2200), i64 0]⟩,
  ⟨31, [dryA, i64 0], .tuple [tab 1 [[i64 0], [i64 1]], i64 0]⟩, ⟨55, [netA, .agg [i64 0, i64 2]], .tuple [tab 1 [[i64 1]], i64 0]⟩, ⟨48, [netA], .tuple [.agg [i64 17, i64 18], i64 0]⟩]
theorem runs2_ok : ∀ x ∈ runs2, x.ok Try.prog := by
  intro x hx
  simp only [runs2, List.mem_cons, List.not_mem_nil, or_false] at hx
  rcases hx with rfl | rfl | rfl | rfl | rfl | rfl | rfl
  · exact run_net
  · exact run_dry
  · exact run_drop
  · exact run_gap
  · exact run_fill
  · exact run_cut
  · exact run_circ
theorem S14 : SP 14 [] (vb true) false := run_ok mixed2 runs2_ok 1000 60 (y := vb true) (by kernel_rfl)
end Go.Tr

/- The law WaterNets returns true for every net and every two numbers. Conditions: none. -/
namespace Go.Tr
open Go Go.Proofs
set_option maxRecDepth 20000
set_option maxHeartbeats 8000000

theorem few_bounds {N : Net} (h : fewB N = true) : N.ns.length ≤ 12 ∧ N.cs.length ≤ 16 := by
  unfold fewB at h
  simp only [Bool.and_eq_true, decide_eq_true_eq] at h
  exact h.1.1

theorem S18a (r f : Int) (h : 0 ≤ r ∧ r ≤ 1000 ∧ -200000 ≤ f ∧ f ≤ 200000) : SP 18 [i64 r, i64 f] (.tuple [i64 (lossF r f), i64 0]) false := by
  have := S18 r f
  rw [if_pos h] at this
  exact this
theorem S18b (r f : Int) (h : ¬ (0 ≤ r ∧ r ≤ 1000 ∧ -200000 ≤ f ∧ f ≤ 200000)) : SP 18 [i64 r, i64 f] (.tuple [i64 0, i64 2]) false := by
  have := S18 r f
  rw [if_neg h] at this
  exact this

theorem S3 (N : Net) (hN : N.In) (r f : Int) : SP 3 [netV N, i64 r, i64 f] (vb true) false := by
  by_cases hc : 0 ≤ r ∧ r ≤ 1000 ∧ -200000 ≤ f ∧ f ≤ 200000
  · refine sound (d := 2) tok2 mixed2 Try.func3 (by kernel_rfl) (by kernel_rfl) ?_
    refine .inl ⟨_, _, byS (d := 2) (S14), ?_⟩
    refine .inl ⟨_, _, byS (d := 2) (S15 N hN), ?_⟩
    refine ifB_intro (fun h1 => ?_) (fun h1 => ?_)
    · refine ⟨?_, nofun⟩
      rfl
    · obtain ⟨b1, b2⟩ := few_bounds (not_f h1)
      refine .inl ⟨_, _, byS (d := 2) (S17 N (by omega) (by omega)), ?_⟩
      refine .inl ⟨_, _, byS (d := 2) (S16 N hN), ?_⟩
      refine .inl ⟨_, _, byS (d := 2) (S18a r f hc), ?_⟩
      refine .inl ⟨_, _, byS (d := 2) (S19 N hN), ?_⟩
      refine ifB_intro (fun h2 => ?_) (fun h2 => ?_)
      · exact absurd rfl (bne_iff_ne.1 h2)
      · refine ifB_intro (fun h3 => ?_) (fun h3 => ?_)
        · exact absurd rfl (bne_iff_ne.1 h3)
        · refine .inl ⟨_, _, byS (d := 2) (S20 r 0 1000), ?_⟩
          refine ifB_intro (fun h4 => ?_) (fun h4 => ?_)
          · exact absurd (of_decide_eq_false (not_t h4)) (by omega)
          · refine .inl ⟨_, _, byS (d := 2) (S21 f), ?_⟩
            refine ifB_intro (fun h5 => ?_) (fun h5 => ?_)
            · exact absurd (if_pos (by omega)) (bne_iff_ne.1 h5)
            · refine .inl ⟨_, _, byS (d := 2) (S22 r f (by omega) (by omega) (by omega) (by omega)), ?_⟩
              refine ⟨?_, nofun⟩
              show vb (lossF r f == lossF r f) = vb true
              rw [beq_self_eq_true]
  · refine sound (d := 2) tok2 mixed2 Try.func3 (by kernel_rfl) (by kernel_rfl) ?_
    refine .inl ⟨_, _, byS (d := 2) (S14), ?_⟩
    refine .inl ⟨_, _, byS (d := 2) (S15 N hN), ?_⟩
    refine ifB_intro (fun h1 => ?_) (fun h1 => ?_)
    · refine ⟨?_, nofun⟩
      rfl
    · obtain ⟨b1, b2⟩ := few_bounds (not_f h1)
      refine .inl ⟨_, _, byS (d := 2) (S17 N (by omega) (by omega)), ?_⟩
      refine .inl ⟨_, _, byS (d := 2) (S16 N hN), ?_⟩
      refine .inl ⟨_, _, byS (d := 2) (S18b r f hc), ?_⟩
      refine .inl ⟨_, _, byS (d := 2) (S19 N hN), ?_⟩
      refine ifB_intro (fun h2 => ?_) (fun h2 => ?_)
      · exact absurd rfl (bne_iff_ne.1 h2)
      · refine ifB_intro (fun h3 => ?_) (fun h3 => ?_)
        · exact absurd rfl (bne_iff_ne.1 h3)
        · refine .inl ⟨_, _, byS (d := 2) (S20 r 0 1000), ?_⟩
          refine ifB_intro (fun h4 => ?_) (fun h4 => ?_)
          · refine ⟨?_, nofun⟩
            rfl
          · refine .inl ⟨_, _, byS (d := 2) (S21 f), ?_⟩
            refine ifB_intro (fun h5 => ?_) (fun h5 => ?_)
            · refine ⟨?_, nofun⟩
              rfl
            · have h4' := of_decide_eq_true (not_f h4)
              have h5' : (if -200000 ≤ f ∧ f ≤ 200000 then (0 : Int) else 2) = 0 := bne_eq_false_iff_eq.1 h5
              rw [if_neg (by omega)] at h5'
              exact absurd h5' (by decide)
end Go.Tr

/- The law WaterReaches returns true. Conditions: none. -/
namespace Go.Tr
open Go Go.Proofs
set_option maxRecDepth 20000
set_option maxHeartbeats 8000000

theorem S29ex (N : Net) (hN : N.In) (k : Int) : ∃ L E, SP 29 [netV N, i64 k] (.tuple [ints L, i64 E]) false ∧
    (netE N ≠ 0 ∧ E = netE N ∧ L = [] ∨ netE N = 0 ∧ ndE N k ≠ 0 ∧ E = ndE N k ∧ L = [] ∨ netE N = 0 ∧ ndE N k = 0 ∧ E = 0 ∧ L = whereF 0 (reachB N k)) := by
  refine ⟨_, _, S29 N hN k, ?_⟩
  rw [firstOf2]
  by_cases h1 : netE N = 0
  · rw [if_pos h1]
    by_cases h2 : ndE N k = 0
    · rw [if_pos h2, if_pos rfl]; exact .inr (.inr ⟨h1, h2, rfl, rfl⟩)
    · rw [if_neg h2, if_neg h2]; exact .inr (.inl ⟨h1, h2, rfl, rfl⟩)
  · rw [if_neg h1, if_neg h1]; exact .inl ⟨h1, rfl, rfl⟩
theorem S30ex (N : Net) (hN : N.In) : ∃ L, SP 30 [netV N] (.tuple [ints L, i64 (netE N)]) false ∧ (netE N ≠ 0 ∧ L = [] ∨ netE N = 0 ∧ L = whereF 0 (wetB N)) := by
  refine ⟨_, S30 N hN, ?_⟩
  by_cases h1 : netE N = 0
  · rw [if_pos h1]; exact .inr ⟨h1, rfl⟩
  · rw [if_neg h1]; exact .inl ⟨h1, rfl⟩
theorem S31ex (N : Net) (hN : N.In) (k : Int) : ∃ L E, SP 31 [netV N, i64 k] (.tuple [ints L, i64 E]) false ∧
    (netE N ≠ 0 ∧ E = netE N ∧ L = [] ∨ netE N = 0 ∧ ¬ (0 ≤ k ∧ k ≤ (N.cs.length : Int) - 1) ∧ E = 6 ∧ L = [] ∨
      netE N = 0 ∧ (0 ≤ k ∧ k ≤ (N.cs.length : Int) - 1) ∧ (N.cs.getD k.toNat cn0).valve = false ∧ E = 12 ∧ L = [] ∨
      netE N = 0 ∧ (0 ≤ k ∧ k ≤ (N.cs.length : Int) - 1) ∧ (N.cs.getD k.toNat cn0).valve = true ∧ E = 0 ∧ L = whereF 0 (fillB N k.toNat)) := by
  refine ⟨_, _, S31 N hN k, ?_⟩
  unfold fillE
  rw [firstOf2]
  by_cases h1 : netE N = 0
  · rw [if_pos h1]
    unfold conN
    by_cases h2 : 0 ≤ k ∧ k ≤ (N.cs.length : Int) - 1
    · have e : (if decide (0 ≤ k ∧ k ≤ (N.cs.length : Int) - 1) = true then (0 : Int) else 6) = 0 := if_pos (decide_eq_true h2)
      rw [e]
      cases hv : (N.cs.getD k.toNat cn0).valve with
      | true => exact .inr (.inr (.inr ⟨h1, h2, rfl, rfl, rfl⟩))
      | false => exact .inr (.inr (.inl ⟨h1, h2, rfl, rfl, rfl⟩))
    · have e : (if decide (0 ≤ k ∧ k ≤ (N.cs.length : Int) - 1) = true then (0 : Int) else 6) = 6 := if_neg (by simpa using h2)
      rw [e]
      exact .inr (.inl ⟨h1, h2, rfl, rfl⟩)
  · rw [if_neg h1, if_neg h1, if_neg h1]; exact .inl ⟨h1, rfl, rfl⟩

set_option maxHeartbeats 0 in
theorem S5 (N : Net) (hN : N.In) (k c : Int) : SP 5 [netV N, i64 k, i64 c] (vb true) false := by
  have hn := hN.nl
  cases hf : fewB N with
  | false =>
    have h15 := S15 N hN
    rw [hf] at h15
    refine sound (d := 2) tok2 mixed2 Try.func5 (by kernel_rfl) (by kernel_rfl) ?_
    conv => whnf
    refine .inl ⟨_, _, byX rfl (Sound1.pl (S14) rfl), ?_⟩
    conv => whnf
    refine .inl ⟨_, _, byX rfl (Sound1.pl (h15) rfl), ?_⟩
    conv => whnf
    refine ⟨?_, nofun⟩
    (rfl)
  | true =>
    obtain ⟨b1, b2⟩ := few_bounds hf
    obtain ⟨L1, E1, h29, q1⟩ := S29ex N hN k
    obtain ⟨L2, h30, q2⟩ := S30ex N hN
    obtain ⟨L3, E3, h31, q3⟩ := S31ex N hN c
    have h15 := S15 N hN
    rw [hf] at h15
    have h17 := S17 N (by omega) (by omega)
    have h32 := S32 N hN
    have h33 := S33 N hn k
    by_cases hE : netE N = 0
    · have hok := net_ok hE
      replace q2 : L2 = whereF 0 (wetB N) := by
        rcases q2 with ⟨e, _⟩ | ⟨_, e⟩
        · exact absurd hE e
        · exact e
      subst q2
      have l2 := whereF_len (wetB N) 0
      rw [wetB_len] at l2
      have h36 := S36 N (by omega) (by omega) hok.ends
      have h34b := S34 (whereF 0 (wetB N)) (whereF 0 (wetB N)) (by omega) (by omega)
      rcases q1 with ⟨e, _⟩ | ⟨_, e1, e2, rfl⟩ | ⟨_, e1, e2, rfl⟩
      · exact absurd hE e
      · rcases q3 with ⟨e, _⟩ | ⟨_, f1, f2, rfl⟩ | ⟨_, f1, f2, f3, rfl⟩ | ⟨_, f1, f2, f3, rfl⟩
        · exact absurd hE e
        · refine sound (d := 2) tok2 mixed2 Try.func5 (by kernel_rfl) (by kernel_rfl) ?_
          conv => whnf
          refine .inl ⟨_, _, byX rfl (Sound1.pl (S14) rfl), ?_⟩
          conv => whnf
          refine .inl ⟨_, _, byX rfl (Sound1.pl (h15) rfl), ?_⟩
          conv => whnf
          refine .inl ⟨_, _, byX rfl (h17), ?_⟩
          conv => whnf
          refine .inl ⟨_, _, byX rfl (h29), ?_⟩
          conv => whnf
          refine .inl ⟨_, _, byX rfl (h17), ?_⟩
          conv => whnf
          refine .inl ⟨_, _, byX rfl (h30), ?_⟩
          conv => whnf
          refine .inl ⟨_, _, byX rfl (h17), ?_⟩
          conv => whnf
          refine .inl ⟨_, _, byX rfl (h31), ?_⟩
          conv => whnf
          refine .inl ⟨_, _, byX rfl (Sound1.pl (h32) rfl), ?_⟩
          conv => whnf
          refine ifB_bne (fun w1 => ?_) (fun w1 => ?_)
          · (exfalso; omega)
          · conv => whnf
            refine .inl ⟨_, _, byX rfl (Sound1.pl (h33) rfl), ?_⟩
            conv => whnf
            refine ifB_bne (fun w2 => ?_) (fun w2 => ?_)
            · conv => whnf
              refine ifB_bne (fun w3 => ?_) (fun w3 => ?_)
              · (exfalso; omega)
              · conv => whnf
                refine ifB_beq (fun w4 => ?_) (fun w4 => ?_)
                · (exfalso; omega)
                · conv => whnf
                  refine ifB_bne (fun w5 => ?_) (fun w5 => ?_)
                  · (exfalso; omega)
                  · conv => whnf
                    refine .inl ⟨_, _, byX rfl (h36), ?_⟩
                    conv => whnf
                    refine .inl ⟨_, _, byX rfl (Sound1.pl (h34b) rfl), ?_⟩
                    conv => whnf
                    refine ifB_not ?_
                    conv => whnf
                    refine ifB_dec (fun w6 => ?_) (fun w6 => ?_)
                    · conv => whnf
                      refine ⟨inK64 (by omega) (by omega), ?_⟩
                      conv => whnf
                      refine .inl ⟨_, _, byX rfl (Sound1.pl (S20 _ _ _) rfl), ?_⟩
                      conv => whnf
                      refine ifB_not ?_
                      conv => whnf
                      refine ifB_dec (fun w7 => ?_) (fun w7 => ?_)
                      · (exfalso; omega)
                      · conv => whnf
                        refine ifB_beq (fun w8 => ?_) (fun w8 => ?_)
                        · conv => whnf
                          refine ⟨?_, nofun⟩
                          (rfl)
                        · (exfalso; omega)
                    · exact absurd rfl w6
            · (exfalso; omega)
        · refine sound (d := 2) tok2 mixed2 Try.func5 (by kernel_rfl) (by kernel_rfl) ?_
          conv => whnf
          refine .inl ⟨_, _, byX rfl (Sound1.pl (S14) rfl), ?_⟩
          conv => whnf
          refine .inl ⟨_, _, byX rfl (Sound1.pl (h15) rfl), ?_⟩
          conv => whnf
          refine .inl ⟨_, _, byX rfl (h17), ?_⟩
          conv => whnf
          refine .inl ⟨_, _, byX rfl (h29), ?_⟩
          conv => whnf
          refine .inl ⟨_, _, byX rfl (h17), ?_⟩
          conv => whnf
          refine .inl ⟨_, _, byX rfl (h30), ?_⟩
          conv => whnf
          refine .inl ⟨_, _, byX rfl (h17), ?_⟩
          conv => whnf
          refine .inl ⟨_, _, byX rfl (h31), ?_⟩
          conv => whnf
          refine .inl ⟨_, _, byX rfl (Sound1.pl (h32) rfl), ?_⟩
          conv => whnf
          refine ifB_bne (fun w1 => ?_) (fun w1 => ?_)
          · (exfalso; omega)
          · conv => whnf
            refine .inl ⟨_, _, byX rfl (Sound1.pl (h33) rfl), ?_⟩
            conv => whnf
            refine ifB_bne (fun w2 => ?_) (fun w2 => ?_)
            · conv => whnf
              refine ifB_bne (fun w3 => ?_) (fun w3 => ?_)
              · (exfalso; omega)
              · conv => whnf
                refine ifB_beq (fun w4 => ?_) (fun w4 => ?_)
                · (exfalso; omega)
                · conv => whnf
                  refine ifB_bne (fun w5 => ?_) (fun w5 => ?_)
                  · (exfalso; omega)
                  · conv => whnf
                    refine .inl ⟨_, _, byX rfl (h36), ?_⟩
                    conv => whnf
                    refine .inl ⟨_, _, byX rfl (Sound1.pl (h34b) rfl), ?_⟩
                    conv => whnf
                    refine ifB_not ?_
                    conv => whnf
                    refine ifB_dec (fun w6 => ?_) (fun w6 => ?_)
                    · conv => whnf
                      refine ⟨inK64 (by omega) (by omega), ?_⟩
                      conv => whnf
                      refine .inl ⟨_, _, byX rfl (Sound1.pl (S20 _ _ _) rfl), ?_⟩
                      conv => whnf
                      refine ifB_not ?_
                      conv => whnf
                      refine ifB_dec (fun w7 => ?_) (fun w7 => ?_)
                      · conv => whnf
                        refine ⟨⟨(by omega), (by omega)⟩, ?_⟩
                        conv => whnf
                        refine ifB_not ?_
                        conv => whnf
                        refine ifB_intro (fun w8 => ?_) (fun w8 => ?_)
                        · exact absurd (f2.symm.trans w8) nofun
                        · conv => whnf
                          refine ifB_beq (fun w9 => ?_) (fun w9 => ?_)
                          · conv => whnf
                            refine ⟨?_, nofun⟩
                            (rfl)
                          · (exfalso; omega)
                      · (exfalso; omega)
                    · exact absurd rfl w6
            · (exfalso; omega)
        · have l3 := whereF_len (fillB N c.toNat) 0
          rw [fillB_len] at l3
          have h37 := S37 N c.toNat (by omega) (by omega) (by omega) hok.ends
          rw [show ((c.toNat : Nat) : Int) = c by omega] at h37
          have h34c := S34 (whereF 0 (fillB N c.toNat)) (whereF 0 (fillB N c.toNat)) (by omega) (by omega)
          refine sound (d := 2) tok2 mixed2 Try.func5 (by kernel_rfl) (by kernel_rfl) ?_
          conv => whnf
          refine .inl ⟨_, _, byX rfl (Sound1.pl (S14) rfl), ?_⟩
          conv => whnf
          refine .inl ⟨_, _, byX rfl (Sound1.pl (h15) rfl), ?_⟩
          conv => whnf
          refine .inl ⟨_, _, byX rfl (h17), ?_⟩
          conv => whnf
          refine .inl ⟨_, _, byX rfl (h29), ?_⟩
          conv => whnf
          refine .inl ⟨_, _, byX rfl (h17), ?_⟩
          conv => whnf
          refine .inl ⟨_, _, byX rfl (h30), ?_⟩
          conv => whnf
          refine .inl ⟨_, _, byX rfl (h17), ?_⟩
          conv => whnf
          refine .inl ⟨_, _, byX rfl (h31), ?_⟩
          conv => whnf
          refine .inl ⟨_, _, byX rfl (Sound1.pl (h32) rfl), ?_⟩
          conv => whnf
          refine ifB_bne (fun w1 => ?_) (fun w1 => ?_)
          · (exfalso; omega)
          · conv => whnf
            refine .inl ⟨_, _, byX rfl (Sound1.pl (h33) rfl), ?_⟩
            conv => whnf
            refine ifB_bne (fun w2 => ?_) (fun w2 => ?_)
            · conv => whnf
              refine ifB_bne (fun w3 => ?_) (fun w3 => ?_)
              · (exfalso; omega)
              · conv => whnf
                refine ifB_beq (fun w4 => ?_) (fun w4 => ?_)
                · (exfalso; omega)
                · conv => whnf
                  refine ifB_bne (fun w5 => ?_) (fun w5 => ?_)
                  · (exfalso; omega)
                  · conv => whnf
                    refine .inl ⟨_, _, byX rfl (h36), ?_⟩
                    conv => whnf
                    refine .inl ⟨_, _, byX rfl (Sound1.pl (h34b) rfl), ?_⟩
                    conv => whnf
                    refine ifB_not ?_
                    conv => whnf
                    refine ifB_dec (fun w6 => ?_) (fun w6 => ?_)
                    · conv => whnf
                      refine ⟨inK64 (by omega) (by omega), ?_⟩
                      conv => whnf
                      refine .inl ⟨_, _, byX rfl (Sound1.pl (S20 _ _ _) rfl), ?_⟩
                      conv => whnf
                      refine ifB_not ?_
                      conv => whnf
                      refine ifB_dec (fun w7 => ?_) (fun w7 => ?_)
                      · conv => whnf
                        refine ⟨⟨(by omega), (by omega)⟩, ?_⟩
                        conv => whnf
                        refine ifB_not ?_
                        conv => whnf
                        refine ifB_intro (fun w8 => ?_) (fun w8 => ?_)
                        · conv => whnf
                          refine ifB_beq (fun w9 => ?_) (fun w9 => ?_)
                          · conv => whnf
                            refine .inl ⟨_, _, byX rfl (h37), ?_⟩
                            conv => whnf
                            refine .inl ⟨_, _, byX rfl (Sound1.pl (h34c) rfl), ?_⟩
                            conv => whnf
                            refine ⟨?_, nofun⟩
                            show vb (decide (_ = _)) = vb true
                            rw [decide_eq_true rfl]
                          · (exfalso; omega)
                        · exact absurd (f2.symm.trans w8) nofun
                      · (exfalso; omega)
                    · exact absurd rfl w6
            · (exfalso; omega)
      · have hk : 0 ≤ k ∧ k ≤ (N.ns.length : Int) - 1 := by
          unfold ndE at e1
          split at e1
          · assumption
          · cases e1
        have l1 := whereF_len (reachB N k) 0
        rw [reachB_len] at l1
        have h35 := S35 N k hk.1 (by omega) (by omega) (by omega) hok.ends
        have h34a := S34 (whereF 0 (reachB N k)) (whereF 0 (reachB N k)) (by omega) (by omega)
        rcases q3 with ⟨e, _⟩ | ⟨_, f1, f2, rfl⟩ | ⟨_, f1, f2, f3, rfl⟩ | ⟨_, f1, f2, f3, rfl⟩
        · exact absurd hE e
        · refine sound (d := 2) tok2 mixed2 Try.func5 (by kernel_rfl) (by kernel_rfl) ?_
          conv => whnf
          refine .inl ⟨_, _, byX rfl (Sound1.pl (S14) rfl), ?_⟩
          conv => whnf
          refine .inl ⟨_, _, byX rfl (Sound1.pl (h15) rfl), ?_⟩
          conv => whnf
          refine .inl ⟨_, _, byX rfl (h17), ?_⟩
          conv => whnf
          refine .inl ⟨_, _, byX rfl (h29), ?_⟩
          conv => whnf
          refine .inl ⟨_, _, byX rfl (h17), ?_⟩
          conv => whnf
          refine .inl ⟨_, _, byX rfl (h30), ?_⟩
          conv => whnf
          refine .inl ⟨_, _, byX rfl (h17), ?_⟩
          conv => whnf
          refine .inl ⟨_, _, byX rfl (h31), ?_⟩
          conv => whnf
          refine .inl ⟨_, _, byX rfl (Sound1.pl (h32) rfl), ?_⟩
          conv => whnf
          refine ifB_bne (fun w1 => ?_) (fun w1 => ?_)
          · (exfalso; omega)
          · conv => whnf
            refine .inl ⟨_, _, byX rfl (Sound1.pl (h33) rfl), ?_⟩
            conv => whnf
            refine ifB_bne (fun w2 => ?_) (fun w2 => ?_)
            · (exfalso; omega)
            · conv => whnf
              refine ifB_beq (fun w3 => ?_) (fun w3 => ?_)
              · conv => whnf
                refine ifB_bne (fun w4 => ?_) (fun w4 => ?_)
                · (exfalso; omega)
                · conv => whnf
                  refine .inl ⟨_, _, byX rfl (h35), ?_⟩
                  conv => whnf
                  refine .inl ⟨_, _, byX rfl (Sound1.pl (h34a) rfl), ?_⟩
                  conv => whnf
                  refine ifB_not ?_
                  conv => whnf
                  refine ifB_dec (fun w5 => ?_) (fun w5 => ?_)
                  · conv => whnf
                    refine ifB_bne (fun w6 => ?_) (fun w6 => ?_)
                    · (exfalso; omega)
                    · conv => whnf
                      refine .inl ⟨_, _, byX rfl (h36), ?_⟩
                      conv => whnf
                      refine .inl ⟨_, _, byX rfl (Sound1.pl (h34b) rfl), ?_⟩
                      conv => whnf
                      refine ifB_not ?_
                      conv => whnf
                      refine ifB_dec (fun w7 => ?_) (fun w7 => ?_)
                      · conv => whnf
                        refine ⟨inK64 (by omega) (by omega), ?_⟩
                        conv => whnf
                        refine .inl ⟨_, _, byX rfl (Sound1.pl (S20 _ _ _) rfl), ?_⟩
                        conv => whnf
                        refine ifB_not ?_
                        conv => whnf
                        refine ifB_dec (fun w8 => ?_) (fun w8 => ?_)
                        · (exfalso; omega)
                        · conv => whnf
                          refine ifB_beq (fun w9 => ?_) (fun w9 => ?_)
                          · conv => whnf
                            refine ⟨?_, nofun⟩
                            (rfl)
                          · (exfalso; omega)
                      · exact absurd rfl w7
                  · exact absurd rfl w5
              · (exfalso; omega)
        · refine sound (d := 2) tok2 mixed2 Try.func5 (by kernel_rfl) (by kernel_rfl) ?_
          conv => whnf
          refine .inl ⟨_, _, byX rfl (Sound1.pl (S14) rfl), ?_⟩
          conv => whnf
          refine .inl ⟨_, _, byX rfl (Sound1.pl (h15) rfl), ?_⟩
          conv => whnf
          refine .inl ⟨_, _, byX rfl (h17), ?_⟩
          conv => whnf
          refine .inl ⟨_, _, byX rfl (h29), ?_⟩
          conv => whnf
          refine .inl ⟨_, _, byX rfl (h17), ?_⟩
          conv => whnf
          refine .inl ⟨_, _, byX rfl (h30), ?_⟩
          conv => whnf
          refine .inl ⟨_, _, byX rfl (h17), ?_⟩
          conv => whnf
          refine .inl ⟨_, _, byX rfl (h31), ?_⟩
          conv => whnf
          refine .inl ⟨_, _, byX rfl (Sound1.pl (h32) rfl), ?_⟩
          conv => whnf
          refine ifB_bne (fun w1 => ?_) (fun w1 => ?_)
          · (exfalso; omega)
          · conv => whnf
            refine .inl ⟨_, _, byX rfl (Sound1.pl (h33) rfl), ?_⟩
            conv => whnf
            refine ifB_bne (fun w2 => ?_) (fun w2 => ?_)
            · (exfalso; omega)
            · conv => whnf
              refine ifB_beq (fun w3 => ?_) (fun w3 => ?_)
              · conv => whnf
                refine ifB_bne (fun w4 => ?_) (fun w4 => ?_)
                · (exfalso; omega)
                · conv => whnf
                  refine .inl ⟨_, _, byX rfl (h35), ?_⟩
                  conv => whnf
                  refine .inl ⟨_, _, byX rfl (Sound1.pl (h34a) rfl), ?_⟩
                  conv => whnf
                  refine ifB_not ?_
                  conv => whnf
                  refine ifB_dec (fun w5 => ?_) (fun w5 => ?_)
                  · conv => whnf
                    refine ifB_bne (fun w6 => ?_) (fun w6 => ?_)
                    · (exfalso; omega)
                    · conv => whnf
                      refine .inl ⟨_, _, byX rfl (h36), ?_⟩
                      conv => whnf
                      refine .inl ⟨_, _, byX rfl (Sound1.pl (h34b) rfl), ?_⟩
                      conv => whnf
                      refine ifB_not ?_
                      conv => whnf
                      refine ifB_dec (fun w7 => ?_) (fun w7 => ?_)
                      · conv => whnf
                        refine ⟨inK64 (by omega) (by omega), ?_⟩
                        conv => whnf
                        refine .inl ⟨_, _, byX rfl (Sound1.pl (S20 _ _ _) rfl), ?_⟩
                        conv => whnf
                        refine ifB_not ?_
                        conv => whnf
                        refine ifB_dec (fun w8 => ?_) (fun w8 => ?_)
                        · conv => whnf
                          refine ⟨⟨(by omega), (by omega)⟩, ?_⟩
                          conv => whnf
                          refine ifB_not ?_
                          conv => whnf
                          refine ifB_intro (fun w9 => ?_) (fun w9 => ?_)
                          · exact absurd (f2.symm.trans w9) nofun
                          · conv => whnf
                            refine ifB_beq (fun w10 => ?_) (fun w10 => ?_)
                            · conv => whnf
                              refine ⟨?_, nofun⟩
                              (rfl)
                            · (exfalso; omega)
                        · (exfalso; omega)
                      · exact absurd rfl w7
                  · exact absurd rfl w5
              · (exfalso; omega)
        · have l3 := whereF_len (fillB N c.toNat) 0
          rw [fillB_len] at l3
          have h37 := S37 N c.toNat (by omega) (by omega) (by omega) hok.ends
          rw [show ((c.toNat : Nat) : Int) = c by omega] at h37
          have h34c := S34 (whereF 0 (fillB N c.toNat)) (whereF 0 (fillB N c.toNat)) (by omega) (by omega)
          refine sound (d := 2) tok2 mixed2 Try.func5 (by kernel_rfl) (by kernel_rfl) ?_
          conv => whnf
          refine .inl ⟨_, _, byX rfl (Sound1.pl (S14) rfl), ?_⟩
          conv => whnf
          refine .inl ⟨_, _, byX rfl (Sound1.pl (h15) rfl), ?_⟩
          conv => whnf
          refine .inl ⟨_, _, byX rfl (h17), ?_⟩
          conv => whnf
          refine .inl ⟨_, _, byX rfl (h29), ?_⟩
          conv => whnf
          refine .inl ⟨_, _, byX rfl (h17), ?_⟩
          conv => whnf
          refine .inl ⟨_, _, byX rfl (h30), ?_⟩
          conv => whnf
          refine .inl ⟨_, _, byX rfl (h17), ?_⟩
          conv => whnf
          refine .inl ⟨_, _, byX rfl (h31), ?_⟩
          conv => whnf
          refine .inl ⟨_, _, byX rfl (Sound1.pl (h32) rfl), ?_⟩
          conv => whnf
          refine ifB_bne (fun w1 => ?_) (fun w1 => ?_)
          · (exfalso; omega)
          · conv => whnf
            refine .inl ⟨_, _, byX rfl (Sound1.pl (h33) rfl), ?_⟩
            conv => whnf
            refine ifB_bne (fun w2 => ?_) (fun w2 => ?_)
            · (exfalso; omega)
            · conv => whnf
              refine ifB_beq (fun w3 => ?_) (fun w3 => ?_)
              · conv => whnf
                refine ifB_bne (fun w4 => ?_) (fun w4 => ?_)
                · (exfalso; omega)
                · conv => whnf
                  refine .inl ⟨_, _, byX rfl (h35), ?_⟩
                  conv => whnf
                  refine .inl ⟨_, _, byX rfl (Sound1.pl (h34a) rfl), ?_⟩
                  conv => whnf
                  refine ifB_not ?_
                  conv => whnf
                  refine ifB_dec (fun w5 => ?_) (fun w5 => ?_)
                  · conv => whnf
                    refine ifB_bne (fun w6 => ?_) (fun w6 => ?_)
                    · (exfalso; omega)
                    · conv => whnf
                      refine .inl ⟨_, _, byX rfl (h36), ?_⟩
                      conv => whnf
                      refine .inl ⟨_, _, byX rfl (Sound1.pl (h34b) rfl), ?_⟩
                      conv => whnf
                      refine ifB_not ?_
                      conv => whnf
                      refine ifB_dec (fun w7 => ?_) (fun w7 => ?_)
                      · conv => whnf
                        refine ⟨inK64 (by omega) (by omega), ?_⟩
                        conv => whnf
                        refine .inl ⟨_, _, byX rfl (Sound1.pl (S20 _ _ _) rfl), ?_⟩
                        conv => whnf
                        refine ifB_not ?_
                        conv => whnf
                        refine ifB_dec (fun w8 => ?_) (fun w8 => ?_)
                        · conv => whnf
                          refine ⟨⟨(by omega), (by omega)⟩, ?_⟩
                          conv => whnf
                          refine ifB_not ?_
                          conv => whnf
                          refine ifB_intro (fun w9 => ?_) (fun w9 => ?_)
                          · conv => whnf
                            refine ifB_beq (fun w10 => ?_) (fun w10 => ?_)
                            · conv => whnf
                              refine .inl ⟨_, _, byX rfl (h37), ?_⟩
                              conv => whnf
                              refine .inl ⟨_, _, byX rfl (Sound1.pl (h34c) rfl), ?_⟩
                              conv => whnf
                              refine ⟨?_, nofun⟩
                              show vb (decide (_ = _)) = vb true
                              rw [decide_eq_true rfl]
                            · (exfalso; omega)
                          · exact absurd (f2.symm.trans w9) nofun
                        · (exfalso; omega)
                      · exact absurd rfl w7
                  · exact absurd rfl w5
              · (exfalso; omega)
    · replace q1 : E1 = netE N ∧ L1 = [] := by
        rcases q1 with ⟨_, e⟩ | ⟨e, _⟩ | ⟨e, _⟩
        · exact e
        · exact absurd e hE
        · exact absurd e hE
      replace q2 : L2 = [] := by
        rcases q2 with ⟨_, e⟩ | ⟨e, _⟩
        · exact e
        · exact absurd e hE
      replace q3 : E3 = netE N ∧ L3 = [] := by
        rcases q3 with ⟨_, e⟩ | ⟨e, _⟩ | ⟨e, _⟩ | ⟨e, _⟩
        · exact e
        · exact absurd e hE
        · exact absurd e hE
        · exact absurd e hE
      obtain ⟨e1, rfl⟩ := q1
      subst q2
      obtain ⟨e3, rfl⟩ := q3
      refine sound (d := 2) tok2 mixed2 Try.func5 (by kernel_rfl) (by kernel_rfl) ?_
      conv => whnf
      refine .inl ⟨_, _, byX rfl (Sound1.pl (S14) rfl), ?_⟩
      conv => whnf
      refine .inl ⟨_, _, byX rfl (Sound1.pl (h15) rfl), ?_⟩
      conv => whnf
      refine .inl ⟨_, _, byX rfl (h17), ?_⟩
      conv => whnf
      refine .inl ⟨_, _, byX rfl (h29), ?_⟩
      conv => whnf
      refine .inl ⟨_, _, byX rfl (h17), ?_⟩
      conv => whnf
      refine .inl ⟨_, _, byX rfl (h30), ?_⟩
      conv => whnf
      refine .inl ⟨_, _, byX rfl (h17), ?_⟩
      conv => whnf
      refine .inl ⟨_, _, byX rfl (h31), ?_⟩
      conv => whnf
      refine .inl ⟨_, _, byX rfl (Sound1.pl (h32) rfl), ?_⟩
      conv => whnf
      refine ifB_bne (fun w1 => ?_) (fun w1 => ?_)
      · conv => whnf
        refine ifB_beq (fun w2 => ?_) (fun w2 => ?_)
        · conv => whnf
          refine ifB_beq (fun w3 => ?_) (fun w3 => ?_)
          · conv => whnf
            refine ifB_beq (fun w4 => ?_) (fun w4 => ?_)
            · conv => whnf
              refine ⟨?_, ?_⟩
              · exact ⟨by decide, by decide⟩
              · conv => whnf
                refine ⟨?_, ?_⟩
                · exact ⟨by decide, by decide⟩
                · conv => whnf
                  refine ⟨?_, nofun⟩
                  (rfl)
            · (exfalso; omega)
          · (exfalso; omega)
        · (exfalso; omega)
      · (exfalso; omega)
end Go.Tr

/- Plain laws of chapter 2: how a tree grows; contracts of the searches. Conditions: none. -/
namespace Go.Tr
open Go Go.Proofs
set_option maxRecDepth 20000
set_option maxHeartbeats 8000000

/-- May a conduit bring a node into the tree? -/
def grows (m : List Bool) (c : Cn) : Bool := c.opn && (m.getD c.fr.toNat false != m.getD c.to.toNat false)
/-- The index of the first conduit for which something holds. -/
def fstC (p : Cn → Bool) : Nat → List Cn → Int
  | _, [] => -1
  | k, c :: r => if p c then k else fstC p (k + 1) r
theorem fstC_drop {p : Cn → Bool} {l : List Cn} {k : Nat} (h : k < l.length) : fstC p k (l.drop k) = if p (l.getD k cn0) then (k : Int) else fstC p (k + 1) (l.drop (k + 1)) := by
  rw [List.drop_eq_getElem_cons h, fstC]; simp [List.getD_eq_getElem?_getD, h]
theorem fstC_cases {p : Cn → Bool} : ∀ (l : List Cn) (k : Nat), (fstC p k l = -1 ∧ ∀ c ∈ l, p c = false) ∨ ∃ i, i < l.length ∧ fstC p k l = ((k + i : Nat) : Int) ∧ p (l.getD i cn0) = true ∧ ∀ j, j < i → p (l.getD j cn0) = false
  | [], k => .inl ⟨rfl, by simp⟩
  | c :: r, k => by
    rw [fstC]
    cases hp : p c with
    | true => exact .inr ⟨0, by simp, by simp, by simpa using hp, by simp⟩
    | false =>
      rw [if_neg (by decide)]
      rcases fstC_cases r (k + 1) with ⟨h1, h2⟩ | ⟨i, h1, h2, h3, h4⟩
      · exact .inl ⟨h1, fun x hx => by rcases List.mem_cons.1 hx with rfl | hx; exact hp; exact h2 x hx⟩
      · refine .inr ⟨i + 1, by simpa using h1, by rw [h2]; congr 1; omega, by simpa using h3, fun j hj => ?_⟩
        cases j with
        | zero => simpa using hp
        | succ j => simpa using h4 j (by omega)

/-- The node that a conduit brings in. -/
def newNode (m : List Bool) (c : Cn) : Int := if m.getD c.to.toNat false then c.fr else c.to
/-- The branches of the tree, with the nodes that are in it at the end. -/
def growF (cs : List Cn) : Nat → List Bool → List (Int × Int) → List Bool × List (Int × Int)
  | 0, m, b => (m, b)
  | n + 1, m, b => if fstC (grows m) 0 cs < 0 then (m, b) else growF cs n (m.set (newNode m (cs.getD (fstC (grows m) 0 cs).toNat cn0)).toNat true) (b ++ [(fstC (grows m) 0 cs, newNode m (cs.getD (fstC (grows m) 0 cs).toNat cn0))])

theorem newNode_out {m : List Bool} {c : Cn} (h : grows m c = true) : m.getD (newNode m c).toNat false = false := by
  unfold grows at h
  unfold newNode
  simp only [Bool.and_eq_true, bne_iff_ne, ne_eq] at h
  cases h1 : m.getD c.to.toNat false with
  | true =>
    rw [h1] at h
    simp only [if_true]
    cases h2 : m.getD c.fr.toNat false with
    | true => exact absurd h2 h.2
    | false => rfl
  | false => simpa using h1
theorem newNode_in {n : Nat} {cs : List Cn} (hr : inR n cs) {m : List Bool} {i : Nat} (hi : i < cs.length) : 0 ≤ newNode m (cs.getD i cn0) ∧ newNode m (cs.getD i cn0) < n := by
  have := hr (cs.getD i cn0) (by simp [List.getD_eq_getElem?_getD, hi])
  unfold newNode
  split <;> omega

/-- One step of growth. -/
theorem grow_step {n : Nat} {cs : List Cn} (hr : inR n cs) {m : List Bool} (hm : m.length = n) (h : ¬ fstC (grows m) 0 cs < 0) :
    ∃ i, i < cs.length ∧ fstC (grows m) 0 cs = (i : Int) ∧ grows m (cs.getD i cn0) = true ∧ 0 ≤ newNode m (cs.getD i cn0) ∧ newNode m (cs.getD i cn0) < n ∧ nF (m.set (newNode m (cs.getD i cn0)).toNat true) + 1 = nF m ∧
      ∀ (b : List (Int × Int)), growF cs (nF m) m b = growF cs (nF (m.set (newNode m (cs.getD i cn0)).toNat true)) (m.set (newNode m (cs.getD i cn0)).toNat true) (b ++ [((i : Int), newNode m (cs.getD i cn0))]) := by
  rcases fstC_cases (p := grows m) cs 0 with ⟨e, _⟩ | ⟨i, h1, h2, h3, h4⟩
  · rw [e] at h; omega
  · have h2' : fstC (grows m) 0 cs = (i : Int) := by rw [h2]; simp
    have hn := newNode_in hr (m := m) h1
    have hc := nF_set (newNode_out h3) (by omega)
    refine ⟨i, h1, h2', h3, hn.1, hn.2, hc, fun b => ?_⟩
    rw [← hc, growF, if_neg h, h2']
    rfl
theorem grow_end {cs : List Cn} {m : List Bool} (h : fstC (grows m) 0 cs < 0) (n : Nat) (b : List (Int × Int)) : growF cs n m b = (m, b) := by
  cases n with
  | zero => rfl
  | succ n => rw [growF, if_pos h]

/-- The tree of a net: who is in it, and its branches. -/
def treeF (N : Net) : List Bool × List (Int × Int) := growF N.cs (nF (lakesB N)) (lakesB N) []

theorem S159 (c : Cn) (m : List Bool) (n : Nat) (hm : m.length = n) (h1 : 0 ≤ c.fr ∧ c.fr < n) (h2 : 0 ≤ c.to ∧ c.to < n) : SP 159 [.agg (cnC c), .rptr [bools m]] (vb (grows m c)) false := by
  unfold grows
  subst hm
  refine sound (d := 2) tok2 mixed2 Try.func159 (by kernel_rfl) (by kernel_rfl) ?_
  conv => whnf
  refine ⟨[], by kernel_rfl, ?_⟩
  conv => whnf
  refine ifB_intro (fun w1 => ?_) (fun w1 => ?_)
  · conv => whnf
    refine ⟨⟨(by omega), (by omega)⟩, ?_⟩
    conv => whnf
    refine ⟨⟨(by omega), (by omega)⟩, ?_⟩
    conv => whnf
    refine ⟨?_, nofun⟩
    have e : c.opn = true := w1
    have e2 : vb (!(m.getD c.fr.toNat false == m.getD c.to.toNat false)) = vb (c.opn && (m.getD c.fr.toNat false != m.getD c.to.toNat false)) := by rw [e]; rfl
    exact e2
  · conv => whnf
    refine ⟨?_, nofun⟩
    have e : c.opn = false := w1
    show vb false = vb _
    rw [e]; rfl

theorem S158 (g : FuncId) (l : List Cn) (m : List Bool) (p : Cn → Bool) (hl : l.length ≤ 1000) (hp : ∀ c ∈ l, SP g [.agg (cnC c), .rptr [bools m]] (vb (p c)) true) : SP 158 [listA 6 cnC cn0 l, .func (.func g) 0 [.rptr [bools m]]] (i64 (fstC p 0 l)) false := by
  generalize hR : fstC p 0 l = R
  refine sound (d := 2) tok2 mixed2 Try.func158 (by kernel_rfl) (by kernel_rfl) ?_
  conv => whnf
  refine ⟨[], [0, 1, 7, 8], fun st mq => ∃ (k : Nat), (k ≤ l.length) ∧ (fstC p k (l.drop k) = R) ∧ st = ⟨[(0, listA 6 cnC cn0 l), (1, .func (.func g) 0 [.rptr [bools m]]), (7, i64 l.length), (8, i64 k)], ⟨[], [], none, 0⟩, []⟩ ∧ mq = l.length - k,
    ⟨_, _, ⟨0, by omega, hR, rfl, rfl⟩, ⟨⟨rfl, rfl, rfl, rfl⟩, trivial, trivial⟩⟩, ?_⟩
  rintro s0 m0 ⟨k, hk, h1, rfl, hmeas⟩
  by_cases hkl : k < l.length
  · rw [fstC_drop hkl] at h1
    have hq := hp (l.getD (k : Int).toNat cn0) (by simp [List.getD_eq_getElem?_getD, hkl])
    conv => whnf
    conv => whnf
    refine ifB_dec (fun w1 => ?_) (fun w1 => ?_)
    · conv => whnf
      conv => whnf
      refine ⟨⟨(by omega), (by omega)⟩, ?_⟩
      conv => whnf
      conv => whnf
      refine .inl ⟨_, _, byX rfl (hq), ?_⟩
      conv => whnf
      conv => whnf
      refine ifB_intro (fun w2 => ?_) (fun w2 => ?_)
      · conv => whnf
        conv => whnf
        refine ⟨?_, nofun⟩
        have e : p (l.getD k cn0) = true := w2
        rw [if_pos e] at h1
        show i64 _ = i64 _
        rw [← h1]
      · conv => whnf
        conv => whnf
        refine ⟨inK64 (by omega) (by omega), ?_⟩
        have e : p (l.getD k cn0) = false := w2
        rw [e] at h1
        conv => whnf
        conv => whnf
        refine ⟨_, _, ⟨⟨k + 1, by omega, h1, rfl, rfl⟩, by omega⟩, ⟨⟨rfl, rfl, rfl, rfl⟩, trivial, trivial⟩⟩
    · (exfalso; omega)
  · have e : k = l.length := by omega
    subst e
    rw [List.drop_length] at h1
    conv => whnf
    conv => whnf
    refine ifB_dec (fun w1 => ?_) (fun w1 => ?_)
    · (exfalso; omega)
    · conv => whnf
      conv => whnf
      refine ⟨?_, nofun⟩
      show i64 _ = i64 _
      rw [← h1]; rfl

/-- The index of a truth value. -/
def idxB (v : Bool) : Nat → List Bool → Int
  | _, [] => -1
  | k, b :: r => if v = b then k else idxB v (k + 1) r
theorem idxB_drop {v : Bool} {l : List Bool} {k : Nat} (h : k < l.length) : idxB v k (l.drop k) = if v = l.getD k false then (k : Int) else idxB v (k + 1) (l.drop (k + 1)) := by
  rw [List.drop_eq_getElem_cons h, idxB]; simp [List.getD_eq_getElem?_getD, h]
theorem idxB_has (v : Bool) : ∀ (l : List Bool) (k : Nat), decide (idxB v k l ≥ 0) = l.contains v
  | [], k => rfl
  | b :: r, k => by
    rw [idxB, List.contains_cons]
    by_cases h : v = b
    · subst h; simp
    · rw [if_neg h, idxB_has v r (k + 1)]
      cases hv : (v == b) with
      | true => exact absurd (eq_of_beq hv) h
      | false => rfl
theorem S162 (l : List Bool) (v : Bool) (hl : l.length ≤ 1000) : SP 162 [bools l, vb v] (i64 (idxB v 0 l)) false := by
  generalize hR : idxB v 0 l = R
  refine sound (d := 2) tok2 mixed2 Try.func162 (by kernel_rfl) (by kernel_rfl) ?_
  conv => whnf
  refine ⟨[], [0, 1, 7, 8], fun st mq => ∃ (k : Nat), (k ≤ l.length) ∧ (idxB v k (l.drop k) = R) ∧ st = ⟨[(0, bools l), (1, vb v), (7, i64 l.length), (8, i64 k)], ⟨[], [], none, 0⟩, []⟩ ∧ mq = l.length - k,
    ⟨_, _, ⟨0, by omega, hR, rfl, rfl⟩, ⟨⟨rfl, rfl, rfl, rfl⟩, trivial, trivial⟩⟩, ?_⟩
  rintro s0 m0 ⟨k, hk, h1, rfl, hmeas⟩
  by_cases hkl : k < l.length
  · rw [idxB_drop hkl] at h1
    conv => whnf
    conv => whnf
    refine ifB_dec (fun w1 => ?_) (fun w1 => ?_)
    · conv => whnf
      conv => whnf
      refine ⟨⟨(by omega), (by omega)⟩, ?_⟩
      conv => whnf
      conv => whnf
      refine ifB_beqB (fun w2 => ?_) (fun w2 => ?_)
      · conv => whnf
        conv => whnf
        refine ⟨?_, nofun⟩
        have e : v = l.getD k false := w2
        rw [if_pos e] at h1
        show i64 _ = i64 _
        rw [← h1]
      · conv => whnf
        conv => whnf
        refine ⟨inK64 (by omega) (by omega), ?_⟩
        have e : ¬ v = l.getD k false := w2
        rw [if_neg e] at h1
        conv => whnf
        conv => whnf
        refine ⟨_, _, ⟨⟨k + 1, by omega, h1, rfl, rfl⟩, by omega⟩, ⟨⟨rfl, rfl, rfl, rfl⟩, trivial, trivial⟩⟩
    · (exfalso; omega)
  · have e : k = l.length := by omega
    subst e
    rw [List.drop_length] at h1
    conv => whnf
    conv => whnf
    refine ifB_dec (fun w1 => ?_) (fun w1 => ?_)
    · (exfalso; omega)
    · conv => whnf
      conv => whnf
      refine ⟨?_, nofun⟩
      show i64 _ = i64 _
      rw [← h1]; rfl
theorem S160 (l : List Bool) (v : Bool) (hl : l.length ≤ 1000) : SP 160 [bools l, vb v] (vb (l.contains v)) false := by
  have h162 := S162 l v hl
  refine sound (d := 2) tok2 mixed2 Try.func160 (by kernel_rfl) (by kernel_rfl) ?_
  conv => whnf
  refine .inl ⟨_, _, byX rfl (Sound1.pl (h162) rfl), ?_⟩
  conv => whnf
  refine ⟨?_, nofun⟩
  show vb _ = vb _
  rw [idxB_has]

/-- Branches as rows; a tree as a value. -/
def brC (b : Int × Int) : List AV := [i64 b.1, i64 b.2]
def brA (l : List (Int × Int)) : AV := listA 2 brC (0, 0) l
def treeA (N : Net) (b : List (Int × Int)) (c : Int) : AV := .agg [listA 4 ndC nd0 N.ns, listA 6 cnC cn0 N.cs, brA b, i64 c]
theorem ave_tup2 {k : Nat} {a b a' b' : AV} (ha : AVE k a a') (hb : AVE k b b') : AVE (k + 1) (.tuple [a, b]) (.tuple [a', b']) := by
  refine ⟨rfl, fun i x y h1 h2 => ?_⟩
  match i, h1, h2 with
  | 0, h1, h2 => cases h1; cases h2; exact ha
  | 1, h1, h2 => cases h1; cases h2; exact hb
theorem ave_tup3 {k : Nat} {a b c a' b' c' : AV} (ha : AVE k a a') (hb : AVE k b b') (hc : AVE k c c') : AVE (k + 1) (.tuple [a, b, c]) (.tuple [a', b', c']) := by
  refine ⟨rfl, fun i x y h1 h2 => ?_⟩
  match i, h1, h2 with
  | 0, h1, h2 => cases h1; cases h2; exact ha
  | 1, h1, h2 => cases h1; cases h2; exact hb
  | 2, h1, h2 => cases h1; cases h2; exact hc
theorem ave_agg4 {k : Nat} {a b c d a' b' c' d' : AV} (ha : AVE k a a') (hb : AVE k b b') (hc : AVE k c c') (hd : AVE k d d') : AVE (k + 1) (.agg [a, b, c, d]) (.agg [a', b', c', d']) := by
  refine ⟨rfl, fun i x y h1 h2 => ?_⟩
  match i, h1, h2 with
  | 0, h1, h2 => cases h1; cases h2; exact ha
  | 1, h1, h2 => cases h1; cases h2; exact hb
  | 2, h1, h2 => cases h1; cases h2; exact hc
  | 3, h1, h2 => cases h1; cases h2; exact hd
theorem app_rowR {acc : List (Int × Int)} {n : Nat} (hn : acc.length = n) (x : Int × Int) (i : Nat) (h : i < n + 1) : brC ((acc ++ [x]).getD i (0, 0)) = if i < n then brC (acc.getD (0 + i) (0, 0)) else List.take 2 (List.drop ((i - n) * 2) (brC x)) := by
  subst hn
  rw [Nat.zero_add]
  by_cases hi : i < acc.length
  · rw [if_pos hi]; simp [List.getD_eq_getElem?_getD, hi, List.getElem?_append_left hi]
  · have : i = acc.length := by omega
    subst this
    rw [if_neg hi]; simp [List.getD_eq_getElem?_getD, brC]

theorem S151 (N : Net) (hn : N.ns.length ≤ 1000) (hc : N.cs.length ≤ 1000) (hr : inR N.ns.length N.cs) : SP 151 [netV N] (.tuple [treeA N (treeF N).2 (-1), i64 (if (treeF N).1.contains false then 14 else 0)]) false := by
  have h135 := S135 N hn
  have hw : ∀ x ∈ whereF 0 (lakesB N), 0 ≤ x ∧ x < N.ns.length := fun x hx => by
    have := whereF_mem hx
    rw [lakesB_len] at this
    omega
  have hwl := whereF_len (lakesB N) 0
  rw [lakesB_len] at hwl
  have hm := marks_where (lakesB N)
  rw [lakesB_len] at hm
  generalize hR : treeF N = R
  unfold treeF at hR
  refine sound (d := 2) tok2 mixed2 Try.func151 (by kernel_rfl) (by kernel_rfl) ?_
  conv => whnf
  refine ⟨⟨(by omega), ⟨(by omega), ⟨(by omega), (by show _ * ((1 : Nat) : Int) ≤ _; omega)⟩⟩⟩, ?_⟩
  conv => whnf
  refine .inl ⟨_, _, byX rfl (h135), ?_⟩
  conv => whnf
  refine ⟨[], [1, 2, 4, 5, 19, 20, 21], fun st mq => ∃ (k : Nat) (x : List Bool), (k ≤ (whereF 0 (lakesB N)).length) ∧ (x.length = N.ns.length) ∧ (((whereF 0 (lakesB N)).drop k).foldl (fun m k => m.set k.toNat true) x = lakesB N) ∧ st = ⟨[(1, .optr 0 0 0 0), (2, .optr 1 0 0 0), (4, .optr 2 0 0 0), (5, .optr 4 0 0 0), (19, ints (whereF 0 (lakesB N))), (20, i64 (whereF 0 (lakesB N)).length), (21, i64 k)], ⟨[netBlk N, ⟨4, 1, fun _ => [.eslice, .eslice, .eslice, i64 0], 0, false, true, true⟩, ⟨4, 1, fun _ => [listA 4 ndC nd0 N.ns, listA 6 cnC cn0 N.cs, .eslice, i64 (-1)], 0, false, true, true⟩, ⟨1, N.ns.length, fun i => [vb (x.getD i false)], 0, false, true, false⟩, ⟨1, 1, fun _ => [.oslice 3 0 0 N.ns.length (some N.ns.length)], 0, false, false, true⟩], [], none, 0⟩, []⟩ ∧ mq = (whereF 0 (lakesB N)).length - k,
    ⟨_, _, ⟨0, List.replicate N.ns.length false, by omega, by simp, hm, rfl, rfl⟩, ⟨⟨rfl, rfl, rfl, rfl⟩, ⟨⟨rfl, rfl, rfl, rfl, fun _ => rfl, fun _ _ => rfl⟩, ⟨⟨rfl, rfl, rfl, rfl, fun _ => rfl, fun _ _ => rfl⟩, ⟨⟨rfl, rfl, rfl, rfl, fun _ => rfl, fun _ _ => rfl⟩, ⟨⟨rfl, rfl, rfl, rfl, fun _ => rfl, fun i _ => rep_row _ i⟩, ⟨⟨rfl, rfl, rfl, rfl, nofun, fun _ _ => rfl⟩, trivial⟩⟩⟩⟩⟩, trivial⟩⟩, ?_⟩
  rintro s0 m0 ⟨k, x, hk, hx, h1, rfl, hmeas⟩
  by_cases hkl : k < (whereF 0 (lakesB N)).length
  · have hq := hw ((whereF 0 (lakesB N)).getD (k : Int).toNat 0) (by simp [List.getD_eq_getElem?_getD, hkl])
    have e := List.drop_eq_getElem_cons (l := whereF 0 (lakesB N)) (i := k) hkl
    have e2 : (whereF 0 (lakesB N)).getD (k : Int).toNat 0 = (whereF 0 (lakesB N))[k] := by simp [List.getD_eq_getElem?_getD, hkl]
    rw [e, List.foldl_cons, ← e2] at h1
    conv => whnf
    conv => whnf
    refine ifB_dec (fun w1 => ?_) (fun w1 => ?_)
    · conv => whnf
      conv => whnf
      refine ⟨⟨(by omega), (by omega)⟩, ?_⟩
      conv => whnf
      conv => whnf
      refine ⟨⟨(by omega), (by omega)⟩, ?_⟩
      refine ⟨_, fun i _ => row1 _ _ i _ (by first | omega | (simp only [List.length_set]; omega) | (simp only [List.length_replicate]; omega) | (simp only [List.length_set, List.length_replicate]; omega)), ?_⟩
      conv => whnf
      conv => whnf
      refine ⟨inK64 (by omega) (by omega), ?_⟩
      conv => whnf
      conv => whnf
      refine ⟨_, _, ⟨⟨k + 1, _, by omega, by (rw [List.length_set]; exact hx), h1, rfl, rfl⟩, by omega⟩, ⟨⟨rfl, rfl, rfl, rfl⟩, ⟨⟨rfl, rfl, rfl, rfl, fun _ => rfl, fun _ _ => rfl⟩, ⟨⟨rfl, rfl, rfl, rfl, fun _ => rfl, fun _ _ => rfl⟩, ⟨⟨rfl, rfl, rfl, rfl, fun _ => rfl, fun _ _ => rfl⟩, ⟨⟨rfl, rfl, rfl, rfl, fun _ => rfl, fun _ _ => rfl⟩, ⟨⟨rfl, rfl, rfl, rfl, nofun, fun _ _ => rfl⟩, trivial⟩⟩⟩⟩⟩, trivial⟩⟩
    · (exfalso; omega)
  · have e : k = (whereF 0 (lakesB N)).length := by omega
    subst e
    rw [List.drop_length, List.foldl_nil] at h1
    subst h1
    conv => whnf
    conv => whnf
    refine ifB_dec (fun w1 => ?_) (fun w1 => ?_)
    · (exfalso; omega)
    · clear hk hkl hmeas w1
      have hF := nF_le (lakesB N)
      conv => whnf
      conv => whnf
      refine ⟨[.cell 2 2 2], [1, 2, 4, 5], fun st mq => ∃ (x : List Bool) (n : Nat) (b : List (Int × Int)), (x.length = N.ns.length) ∧ (b.length = n) ∧ (n + nF x ≤ N.ns.length) ∧ (growF N.cs (nF x) x b = R) ∧ st = ⟨[(1, .optr 0 0 0 0), (2, .optr 1 0 0 0), (4, .optr 2 0 0 0), (5, .optr 4 0 0 0)], ⟨[netBlk N, ⟨4, 1, fun _ => [.eslice, .eslice, .eslice, i64 0], 0, false, true, true⟩, ⟨4, 1, fun _ => [listA 4 ndC nd0 N.ns, listA 6 cnC cn0 N.cs, .oslice 5 0 0 n none, i64 (-1)], 0, false, false, true⟩, ⟨1, N.ns.length, fun i => [vb (x.getD i false)], 0, false, true, false⟩, ⟨1, 1, fun _ => [.oslice 3 0 0 N.ns.length (some N.ns.length)], 0, false, false, true⟩, ⟨2, n, fun i => brC (b.getD i (0, 0)), 0, false, true, false⟩], [], none, 0⟩, []⟩ ∧ mq = nF x,
        ⟨_, _, ⟨lakesB N, 0, [], hx, rfl, by omega, hR, rfl, rfl⟩, ⟨⟨rfl, rfl, rfl, rfl⟩, ⟨⟨rfl, rfl, rfl, rfl, fun _ => rfl, fun _ _ => rfl⟩, ⟨⟨rfl, rfl, rfl, rfl, fun _ => rfl, fun _ _ => rfl⟩, ⟨⟨rfl, rfl, rfl, rfl, nofun, fun _ _ => rfl⟩, ⟨⟨rfl, rfl, rfl, rfl, fun _ => rfl, fun _ _ => rfl⟩, ⟨⟨rfl, rfl, rfl, rfl, nofun, fun _ _ => rfl⟩, ⟨⟨rfl, rfl, rfl, rfl, fun _ => rfl, fun i h => absurd h (Nat.not_lt_zero i)⟩, trivial⟩⟩⟩⟩⟩⟩, trivial⟩⟩, ?_⟩
      rintro s0 m0 ⟨x, n, b, hx, hb, hn1, h1, rfl, hmeas⟩
      have h158 := S158 159 N.cs x (grows x) hc (fun c hcm => (S159 c x N.ns.length hx (by have := hr c hcm; omega) (by have := hr c hcm; omega)).pl rfl)
      have h160 := S160 x false (by omega)
      rw [bools_n hx] at h158 h160
      by_cases hlt : fstC (grows x) 0 N.cs < 0
      · rw [grow_end hlt] at h1
        subst h1
        conv => whnf
        conv => whnf
        conv => whnf
        refine .inl ⟨_, _, byX rfl (Sound1.pl (h158) rfl), ?_⟩
        conv => whnf
        conv => whnf
        conv => whnf
        refine ifB_dec (fun w1 => ?_) (fun w1 => ?_)
        · conv => whnf
          conv => whnf
          conv => whnf
          refine ⟨[], by kernel_rfl, ?_⟩
          conv => whnf
          conv => whnf
          conv => whnf
          refine .inl ⟨_, _, byX rfl (Sound1.pl (h160) rfl), ?_⟩
          conv => whnf
          conv => whnf
          conv => whnf
          refine .inl ⟨_, _, byX rfl (Sound1.pl (S72 _ _) rfl), ?_⟩
          conv => whnf
          conv => whnf
          conv => whnf
          refine ⟨?_, nofun⟩
          refine ave_tup2 (k := 4) (ave_agg4 (k := 3) (a := .rslice 4 N.ns.length _) (b := .rslice 6 N.cs.length _) (c := .rslice 2 n _) (d := i64 (-1)) ⟨rfl, rfl, fun _ _ => rfl⟩ ⟨rfl, rfl, fun _ _ => rfl⟩ ⟨rfl, hb.symm, fun _ _ => rfl⟩ rfl) ?_
          show i64 (if (!x.contains false) = true then 0 else 14) = i64 (if x.contains false = true then 14 else 0)
          cases x.contains false <;> rfl
        · (exfalso; omega)
      · obtain ⟨i, hi, e1, e2, e3, e4, e5, e6⟩ := grow_step hr hx hlt
        rw [e1] at h158
        rw [e6] at h1
        clear e6
        unfold newNode at e3 e4 e5 h1
        have hq := hr (N.cs.getD (i : Int).toNat cn0) (by simp [List.getD_eq_getElem?_getD, hi])
        conv => whnf
        conv => whnf
        conv => whnf
        refine .inl ⟨_, _, byX rfl (Sound1.pl (h158) rfl), ?_⟩
        conv => whnf
        conv => whnf
        conv => whnf
        refine ⟨⟨(by omega), (by omega)⟩, ?_⟩
        conv => whnf
        conv => whnf
        conv => whnf
        refine ⟨⟨(by omega), (by omega)⟩, ?_⟩
        conv => whnf
        conv => whnf
        conv => whnf
        refine ifB_intro (fun w1 => ?_) (fun w1 => ?_)
        · conv => whnf
          conv => whnf
          conv => whnf
          refine ⟨⟨(by omega), (by omega)⟩, ?_⟩
          refine ⟨_, fun i _ => row1 _ _ i _ (by first | omega | (simp only [List.length_set]; omega) | (simp only [List.length_replicate]; omega) | (simp only [List.length_set, List.length_replicate]; omega)), ?_⟩
          conv => whnf
          conv => whnf
          conv => whnf
          refine ⟨(by show _ * (16 + 1) ≤ _; omega), ?_⟩
          have e : x.getD (N.cs.getD i cn0).to.toNat false = true := by simpa using w1
          rw [if_pos e] at e3 e4 e5 h1
          conv => whnf
          conv => whnf
          conv => whnf
          refine ⟨_, _, ⟨⟨x.set (N.cs.getD (i : Int).toNat cn0).fr.toNat true, n + 1, b ++ [((i : Int), (N.cs.getD (i : Int).toNat cn0).fr)], by simpa using hx, by simpa using hb, (by show n + 1 + nF (x.set (N.cs.getD i cn0).fr.toNat true) ≤ _; omega), h1, rfl, rfl⟩, (by show nF (x.set (N.cs.getD i cn0).fr.toNat true) < _; omega)⟩, ⟨⟨rfl, rfl, rfl, rfl⟩, ⟨⟨rfl, rfl, rfl, rfl, fun _ => rfl, fun _ _ => rfl⟩, ⟨⟨rfl, rfl, rfl, rfl, fun _ => rfl, fun _ _ => rfl⟩, ⟨⟨rfl, rfl, rfl, rfl, nofun, fun _ _ => rfl⟩, ⟨⟨rfl, rfl, rfl, rfl, fun _ => rfl, fun _ _ => rfl⟩, ⟨⟨rfl, rfl, rfl, rfl, nofun, fun _ _ => rfl⟩, ⟨⟨rfl, rfl, rfl, rfl, fun _ => rfl, fun j h => app_rowR hb _ j h⟩, trivial⟩⟩⟩⟩⟩⟩, trivial⟩⟩
        · conv => whnf
          conv => whnf
          conv => whnf
          refine ⟨⟨(by omega), (by omega)⟩, ?_⟩
          refine ⟨_, fun i _ => row1 _ _ i _ (by first | omega | (simp only [List.length_set]; omega) | (simp only [List.length_replicate]; omega) | (simp only [List.length_set, List.length_replicate]; omega)), ?_⟩
          conv => whnf
          conv => whnf
          conv => whnf
          refine ⟨(by show _ * (16 + 1) ≤ _; omega), ?_⟩
          have e : ¬ x.getD (N.cs.getD i cn0).to.toNat false = true := by simpa using w1
          rw [if_neg e] at e3 e4 e5 h1
          conv => whnf
          conv => whnf
          conv => whnf
          refine ⟨_, _, ⟨⟨x.set (N.cs.getD (i : Int).toNat cn0).to.toNat true, n + 1, b ++ [((i : Int), (N.cs.getD (i : Int).toNat cn0).to)], by simpa using hx, by simpa using hb, (by show n + 1 + nF (x.set (N.cs.getD i cn0).to.toNat true) ≤ _; omega), h1, rfl, rfl⟩, (by show nF (x.set (N.cs.getD i cn0).to.toNat true) < _; omega)⟩, ⟨⟨rfl, rfl, rfl, rfl⟩, ⟨⟨rfl, rfl, rfl, rfl, fun _ => rfl, fun _ _ => rfl⟩, ⟨⟨rfl, rfl, rfl, rfl, fun _ => rfl, fun _ _ => rfl⟩, ⟨⟨rfl, rfl, rfl, rfl, nofun, fun _ _ => rfl⟩, ⟨⟨rfl, rfl, rfl, rfl, fun _ => rfl, fun _ _ => rfl⟩, ⟨⟨rfl, rfl, rfl, rfl, nofun, fun _ _ => rfl⟩, ⟨⟨rfl, rfl, rfl, rfl, fun _ => rfl, fun j h => app_rowR hb _ j h⟩, trivial⟩⟩⟩⟩⟩⟩, trivial⟩⟩
end Go.Tr

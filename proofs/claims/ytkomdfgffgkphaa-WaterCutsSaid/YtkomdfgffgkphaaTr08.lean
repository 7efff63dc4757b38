/- Contracts of chapter 2: the tree of the reference; the closing conduit. Conditions: none. -/
import Derived.Test.YtkomdfgffgkphaaTr07
import Derived.Test.YtkomdfgffgkphaaTr05

namespace Go.Tr
open Go Go.Proofs
set_option maxRecDepth 20000
set_option maxHeartbeats 8000000

theorem count_take_succ {l : List Bool} {k : Nat} (h : k < l.length) : nF (l.take (k + 1)) = nF (l.take k) + (if l.getD k false then 0 else 1) := by
  have e : l.getD k false = l[k] := by simp [List.getD_eq_getElem?_getD, h]
  unfold nF
  rw [List.take_succ_eq_append_getElem h, List.count_append, e]
  cases l[k] <;> simp

theorem app_rowM1 {acc : List (Int × Int)} {n : Nat} (hn : acc.length = n) (x : Int × Int) (i : Nat) (h : i < n + 1) : [i64 (((acc ++ [x]).map (·.1)).getD i 0)] = if i < n then [i64 ((acc.map (·.1)).getD (0 + i) 0)] else List.take 1 (List.drop ((i - n) * 1) [i64 x.1]) := by
  rw [List.map_append]
  exact app_row (by simpa using hn) x.1 i h
theorem app_rowM2 {acc : List (Int × Int)} {n : Nat} (hn : acc.length = n) (x : Int × Int) (i : Nat) (h : i < n + 1) : [i64 (((acc ++ [x]).map (·.2)).getD i 0)] = if i < n then [i64 ((acc.map (·.2)).getD (0 + i) 0)] else List.take 1 (List.drop ((i - n) * 1) [i64 x.2]) := by
  rw [List.map_append]
  exact app_row (by simpa using hn) x.2 i h
/-- The reference's search, from an index on. -/
theorem S137 (N : Net) (hn : N.ns.length ≤ 1000) (hc : N.cs.length ≤ 1000) (hr : inR N.ns.length N.cs) : SP 137 [netV N] (.tuple [ints ((treeF N).2.map (·.1)), ints ((treeF N).2.map (·.2)), vb (decide ((treeF N).2.length = nF (lakesB N)))]) false := by
  have hl := lakesB_len N
  generalize hR : treeF N = R
  unfold treeF at hR
  refine sound (d := 2) tok2 mixed2 Try.func137 (by kernel_rfl) (by kernel_rfl) ?_
  conv => whnf
  refine ⟨⟨(by omega), ⟨(by omega), ⟨(by omega), (by show _ * ((1 : Nat) : Int) ≤ _; omega)⟩⟩⟩, ?_⟩
  conv => whnf
  refine ⟨[], [1, 5, 6, 7], fun st mq => ∃ (k : Nat) (x : List Bool) (c : Nat), (k ≤ N.ns.length) ∧ (x.length = N.ns.length) ∧ (∀ i, i < k → x.getD i false = (lakesB N).getD i false) ∧ (c = nF ((lakesB N).take k)) ∧ (c ≤ k) ∧ st = ⟨[(1, .optr 0 0 0 0), (5, .oslice 1 0 0 N.ns.length (some N.ns.length)), (6, i64 c), (7, i64 k)], ⟨[netBlk N, ⟨1, N.ns.length, fun i => [vb (x.getD i false)], 0, false, true, false⟩], [], none, 0⟩, []⟩ ∧ mq = N.ns.length - k,
    ⟨_, _, ⟨0, List.replicate N.ns.length false, 0, by omega, by simp, fun i h => absurd h (Nat.not_lt_zero i), rfl, by omega, rfl, rfl⟩, ⟨⟨rfl, rfl, rfl, rfl⟩, ⟨⟨rfl, rfl, rfl, rfl, fun _ => rfl, fun _ _ => rfl⟩, ⟨⟨rfl, rfl, rfl, rfl, fun _ => rfl, fun i _ => rep_row _ i⟩, trivial⟩⟩, trivial⟩⟩, ?_⟩
  rintro s0 m0 ⟨k, x, c, hk, hx, h1, h2, h3, rfl, hmeas⟩
  by_cases hkl : k < N.ns.length
  · have hg := lakesB_getD N k hkl
    have hct := count_take_succ (l := lakesB N) (k := k) (by omega)
    rw [hg] at hct
    have hs := set_inv (v := (N.ns.getD (k : Int).toNat nd0).lake) h1 (by omega) hg.symm
    have hgs : (x.set (k : Int).toNat (N.ns.getD (k : Int).toNat nd0).lake).getD (0 + (k : Int).toNat) false = (N.ns.getD k nd0).lake := by
      rw [getD_set, if_pos ⟨by simp, by simp; omega⟩]; rfl
    conv => whnf
    conv => whnf
    refine ifB_dec (fun w1 => ?_) (fun w1 => ?_)
    · conv => whnf
      conv => whnf
      refine ⟨⟨(by omega), (by omega)⟩, ?_⟩
      conv => whnf
      conv => whnf
      refine ⟨⟨(by omega), (by omega)⟩, ?_⟩
      refine ⟨_, fun i _ => row1 _ _ i _ (by first | omega | (simp only [List.length_set]; omega) | (simp only [List.length_replicate]; omega) | (simp only [List.length_set, List.length_replicate]; omega)), ?_⟩
      conv => whnf
      conv => whnf
      refine ⟨⟨(by omega), (by omega)⟩, ?_⟩
      conv => whnf
      conv => whnf
      refine ifB_not ?_
      conv => whnf
      conv => whnf
      refine ifB_intro (fun w2 => ?_) (fun w2 => ?_)
      · conv => whnf
        conv => whnf
        refine ⟨inK64 (by omega) (by omega), ?_⟩
        have e : (N.ns.getD k nd0).lake = true := by rw [← hgs]; exact w2
        rw [e] at hct
        conv => whnf
        conv => whnf
        refine ⟨_, _, ⟨⟨k + 1, _, c, by omega, by simpa using hx, hs, by simpa [h2] using hct.symm, by omega, rfl, rfl⟩, by omega⟩, ⟨⟨rfl, rfl, rfl, rfl⟩, ⟨⟨rfl, rfl, rfl, rfl, fun _ => rfl, fun _ _ => rfl⟩, ⟨⟨rfl, rfl, rfl, rfl, fun _ => rfl, fun _ _ => rfl⟩, trivial⟩⟩, trivial⟩⟩
      · conv => whnf
        conv => whnf
        refine ⟨inK64 (by omega) (by omega), ?_⟩
        conv => whnf
        conv => whnf
        refine ⟨inK64 (by omega) (by omega), ?_⟩
        have e : (N.ns.getD k nd0).lake = false := by rw [← hgs]; exact w2
        rw [e] at hct
        conv => whnf
        conv => whnf
        refine ⟨_, _, ⟨⟨k + 1, _, c + 1, by omega, by simpa using hx, hs, by simpa [h2] using hct.symm, by omega, rfl, rfl⟩, by omega⟩, ⟨⟨rfl, rfl, rfl, rfl⟩, ⟨⟨rfl, rfl, rfl, rfl, fun _ => rfl, fun _ _ => rfl⟩, ⟨⟨rfl, rfl, rfl, rfl, fun _ => rfl, fun _ _ => rfl⟩, trivial⟩⟩, trivial⟩⟩
    · (exfalso; omega)
  · have e : k = N.ns.length := by omega
    subst e
    have e : x = lakesB N := ext_inv hx hl h1
    subst e
    rw [← hl, List.take_length] at h2
    subst h2
    have hF := nF_le (lakesB N)
    conv => whnf
    conv => whnf
    refine ifB_dec (fun w1 => ?_) (fun w1 => ?_)
    · (exfalso; omega)
    · clear h1 hk hmeas hkl w1
      conv => whnf
      conv => whnf
      refine ⟨[.slot 8 1, .slot 9 1], [1, 5, 6, 8, 9, 10], fun st mq => ∃ (x : List Bool) (n : Nat) (b : List (Int × Int)) (mo : Bool), (x.length = N.ns.length) ∧ (b.length = n) ∧ (n + nF x ≤ N.ns.length) ∧ (n + nF x = nF (lakesB N)) ∧ (growF N.cs (nF x) x b = R) ∧ (mo = false → fstC (grows x) 0 N.cs < 0) ∧ st = ⟨[(1, .optr 0 0 0 0), (5, .oslice 1 0 0 N.ns.length (some N.ns.length)), (6, i64 (nF (lakesB N) : Nat)), (8, .oslice 2 0 0 n none), (9, .oslice 3 0 0 n none), (10, vb mo)], ⟨[netBlk N, ⟨1, N.ns.length, fun i => [vb (x.getD i false)], 0, false, true, false⟩, ⟨1, n, fun i => [i64 ((b.map (·.1)).getD i 0)], 0, false, true, false⟩, ⟨1, n, fun i => [i64 ((b.map (·.2)).getD i 0)], 0, false, true, false⟩], [], none, 0⟩, []⟩ ∧ mq = nF x + mo.toNat,
        ⟨_, _, ⟨lakesB N, 0, [], true, hx, rfl, by omega, by omega, hR, nofun, rfl, rfl⟩, ⟨⟨rfl, rfl, rfl, rfl⟩, ⟨⟨rfl, rfl, rfl, rfl, fun _ => rfl, fun _ _ => rfl⟩, ⟨⟨rfl, rfl, rfl, rfl, fun _ => rfl, fun _ _ => rfl⟩, ⟨⟨rfl, rfl, rfl, rfl, fun _ => rfl, fun i h => absurd h (Nat.not_lt_zero i)⟩, ⟨⟨rfl, rfl, rfl, rfl, fun _ => rfl, fun i h => absurd h (Nat.not_lt_zero i)⟩, trivial⟩⟩⟩⟩, trivial⟩⟩, ?_⟩
      rintro s0 m0 ⟨x, n, b, mo, hx, hb, hn1, hn2, h1, hm, rfl, hmeas⟩
      cases mo with
      | false =>
        have hlt := hm rfl
        rw [grow_end hlt] at h1
        subst h1
        conv => whnf
        conv => whnf
        conv => whnf
        refine ⟨?_, nofun⟩
        refine ave_tup3 (k := 4) (a := .rslice 1 n _) (b := .rslice 1 n _) ⟨rfl, by simpa using hb.symm, fun _ _ => rfl⟩ ⟨rfl, by simpa using hb.symm, fun _ _ => rfl⟩ ?_
        show vb _ = vb _
        have e : ((n : Int) == (nF (lakesB N) : Int)) = decide (b.length = nF (lakesB N)) := by
          rw [hb, Bool.eq_iff_iff]
          simp only [beq_iff_eq, decide_eq_true_eq]
          omega
        rw [e]
      | true =>
        conv => whnf
        conv => whnf
        conv => whnf
        refine ⟨[], [1, 5, 6, 8, 9, 10, 11], fun st mq => ∃ (k : Nat) (y : List Bool) (p : Nat) (d : List (Int × Int)) (c : Bool), (k ≤ N.cs.length) ∧ (y.length = N.ns.length) ∧ (d.length = p) ∧ (p + nF y ≤ N.ns.length) ∧ (p + nF y = nF (lakesB N)) ∧ (growF N.cs (nF y) y d = R) ∧ (c = false → y = x ∧ fstC (grows x) 0 N.cs = fstC (grows x) k (N.cs.drop k)) ∧ (c = true → nF y < nF x) ∧ st = ⟨[(1, .optr 0 0 0 0), (5, .oslice 1 0 0 N.ns.length (some N.ns.length)), (6, i64 (nF (lakesB N) : Nat)), (8, .oslice 2 0 0 p none), (9, .oslice 3 0 0 p none), (10, vb c), (11, i64 k)], ⟨[netBlk N, ⟨1, N.ns.length, fun i => [vb (y.getD i false)], 0, false, true, false⟩, ⟨1, p, fun i => [i64 ((d.map (·.1)).getD i 0)], 0, false, true, false⟩, ⟨1, p, fun i => [i64 ((d.map (·.2)).getD i 0)], 0, false, true, false⟩], [], none, 0⟩, []⟩ ∧ mq = N.cs.length - k,
          ⟨_, _, ⟨0, x, n, b, false, by omega, hx, hb, hn1, hn2, h1, fun _ => ⟨rfl, rfl⟩, nofun, rfl, rfl⟩, ⟨⟨rfl, rfl, rfl, rfl⟩, ⟨⟨rfl, rfl, rfl, rfl, fun _ => rfl, fun _ _ => rfl⟩, ⟨⟨rfl, rfl, rfl, rfl, fun _ => rfl, fun _ _ => rfl⟩, ⟨⟨rfl, rfl, rfl, rfl, fun _ => rfl, fun _ _ => rfl⟩, ⟨⟨rfl, rfl, rfl, rfl, fun _ => rfl, fun _ _ => rfl⟩, trivial⟩⟩⟩⟩, trivial⟩⟩, ?_⟩
        rintro s0 m0 ⟨k, y, p, d, c, hk, hy, hd, hp1, hp2, g1, g2, g3, rfl, hmeas⟩
        cases c with
        | true =>
          have g3' := g3 rfl
          have t1 : true.toNat = 1 := rfl
          conv => whnf
          conv => whnf
          conv => whnf
          conv => whnf
          refine ifB_dec (fun w1 => ?_) (fun w1 => ?_)
          · conv => whnf
            conv => whnf
            conv => whnf
            conv => whnf
            refine ⟨_, _, ⟨⟨y, p, d, true, hy, hd, hp1, hp2, g1, nofun, rfl, rfl⟩, by omega⟩, ⟨⟨rfl, rfl, rfl, rfl⟩, ⟨⟨rfl, rfl, rfl, rfl, fun _ => rfl, fun _ _ => rfl⟩, ⟨⟨rfl, rfl, rfl, rfl, fun _ => rfl, fun _ _ => rfl⟩, ⟨⟨rfl, rfl, rfl, rfl, fun _ => rfl, fun _ _ => rfl⟩, ⟨⟨rfl, rfl, rfl, rfl, fun _ => rfl, fun _ _ => rfl⟩, trivial⟩⟩⟩⟩, trivial⟩⟩
          · conv => whnf
            conv => whnf
            conv => whnf
            conv => whnf
            refine ⟨_, _, ⟨⟨y, p, d, true, hy, hd, hp1, hp2, g1, nofun, rfl, rfl⟩, by omega⟩, ⟨⟨rfl, rfl, rfl, rfl⟩, ⟨⟨rfl, rfl, rfl, rfl, fun _ => rfl, fun _ _ => rfl⟩, ⟨⟨rfl, rfl, rfl, rfl, fun _ => rfl, fun _ _ => rfl⟩, ⟨⟨rfl, rfl, rfl, rfl, fun _ => rfl, fun _ _ => rfl⟩, ⟨⟨rfl, rfl, rfl, rfl, fun _ => rfl, fun _ _ => rfl⟩, trivial⟩⟩⟩⟩, trivial⟩⟩
        | false =>
          obtain ⟨rfl, g2'⟩ := g2 rfl
          by_cases hkl : k < N.cs.length
          · have hq := hr (N.cs.getD (k : Int).toNat cn0) (by simp [List.getD_eq_getElem?_getD, hkl])
            rw [fstC_drop hkl] at g2'
            have hgs : ∀ b, (N.cs.getD (k : Int).toNat cn0).opn = true → ¬ y.getD (0 + (N.cs.getD (k : Int).toNat cn0).fr.toNat) false = y.getD (0 + (N.cs.getD (k : Int).toNat cn0).to.toNat) false →
                0 ≤ newNode y (N.cs.getD k cn0) ∧ newNode y (N.cs.getD k cn0) < N.ns.length ∧ nF (y.set (newNode y (N.cs.getD k cn0)).toNat true) + 1 = nF y ∧ growF N.cs (nF y) y b = growF N.cs (nF (y.set (newNode y (N.cs.getD k cn0)).toNat true)) (y.set (newNode y (N.cs.getD k cn0)).toNat true) (b ++ [((k : Int), newNode y (N.cs.getD k cn0))]) := fun b h1 h2 => by
              have hg : grows y (N.cs.getD k cn0) = true := by
                unfold grows
                rw [Bool.and_eq_true, bne_iff_ne]
                exact ⟨h1, by simpa using h2⟩
              rw [if_pos hg] at g2'
              obtain ⟨i, hi, e1, e2, e3, e4, e5, e6⟩ := grow_step hr hy (by omega)
              have : i = k := by omega
              subst this
              exact ⟨e3, e4, e5, e6 b⟩
            conv => whnf
            conv => whnf
            conv => whnf
            conv => whnf
            refine ifB_dec (fun w1 => ?_) (fun w1 => ?_)
            · conv => whnf
              conv => whnf
              conv => whnf
              conv => whnf
              refine ⟨⟨(by omega), (by omega)⟩, ?_⟩
              conv => whnf
              conv => whnf
              conv => whnf
              conv => whnf
              refine ⟨[], by kernel_rfl, ?_⟩
              conv => whnf
              conv => whnf
              conv => whnf
              conv => whnf
              refine ifB_not ?_
              conv => whnf
              conv => whnf
              conv => whnf
              conv => whnf
              refine ifB_intro (fun w2 => ?_) (fun w2 => ?_)
              · conv => whnf
                conv => whnf
                conv => whnf
                conv => whnf
                refine ⟨⟨(by omega), (by omega)⟩, ?_⟩
                conv => whnf
                conv => whnf
                conv => whnf
                conv => whnf
                refine ⟨⟨(by omega), (by omega)⟩, ?_⟩
                conv => whnf
                conv => whnf
                conv => whnf
                conv => whnf
                refine ifB_beqB (fun w3 => ?_) (fun w3 => ?_)
                · conv => whnf
                  conv => whnf
                  conv => whnf
                  conv => whnf
                  refine ⟨inK64 (by omega) (by omega), ?_⟩
                  have hg : grows y (N.cs.getD k cn0) = false := by
                    unfold grows
                    have e : y.getD (N.cs.getD k cn0).fr.toNat false = y.getD (N.cs.getD k cn0).to.toNat false := by simpa using w3
                    rw [e]; simp
                  rw [hg] at g2'
                  conv => whnf
                  conv => whnf
                  conv => whnf
                  conv => whnf
                  refine ⟨_, _, ⟨⟨k + 1, y, p, d, false, by omega, hy, hd, hp1, hp2, g1, fun _ => ⟨rfl, g2'⟩, nofun, rfl, rfl⟩, by omega⟩, ⟨⟨rfl, rfl, rfl, rfl⟩, ⟨⟨rfl, rfl, rfl, rfl, fun _ => rfl, fun _ _ => rfl⟩, ⟨⟨rfl, rfl, rfl, rfl, fun _ => rfl, fun _ _ => rfl⟩, ⟨⟨rfl, rfl, rfl, rfl, fun _ => rfl, fun _ _ => rfl⟩, ⟨⟨rfl, rfl, rfl, rfl, fun _ => rfl, fun _ _ => rfl⟩, trivial⟩⟩⟩⟩, trivial⟩⟩
                · conv => whnf
                  conv => whnf
                  conv => whnf
                  conv => whnf
                  refine ⟨⟨(by omega), (by omega)⟩, ?_⟩
                  conv => whnf
                  conv => whnf
                  conv => whnf
                  conv => whnf
                  refine ifB_intro (fun w4 => ?_) (fun w4 => ?_)
                  · conv => whnf
                    conv => whnf
                    conv => whnf
                    conv => whnf
                    refine ⟨⟨(by omega), (by omega)⟩, ?_⟩
                    refine ⟨_, fun i _ => row1 _ _ i _ (by first | omega | (simp only [List.length_set]; omega) | (simp only [List.length_replicate]; omega) | (simp only [List.length_set, List.length_replicate]; omega)), ?_⟩
                    conv => whnf
                    conv => whnf
                    conv => whnf
                    conv => whnf
                    refine ⟨(by show _ * (8 + 1) ≤ _; omega), ?_⟩
                    conv => whnf
                    conv => whnf
                    conv => whnf
                    conv => whnf
                    refine ⟨(by show _ * (8 + 1) ≤ _; omega), ?_⟩
                    conv => whnf
                    conv => whnf
                    conv => whnf
                    conv => whnf
                    refine ⟨inK64 (by omega) (by omega), ?_⟩
                    obtain ⟨e3, e4, e5, e6⟩ := hgs d w2 w3
                    have hnn : newNode y (N.cs.getD k cn0) = (N.cs.getD k cn0).fr := if_pos (by simpa using w4)
                    rw [e6, hnn] at g1
                    rw [hnn] at e5
                    conv => whnf
                    conv => whnf
                    conv => whnf
                    conv => whnf
                    refine ⟨_, _, ⟨⟨k + 1, y.set (N.cs.getD (k : Int).toNat cn0).fr.toNat true, p + 1, d ++ [((k : Int), (N.cs.getD (k : Int).toNat cn0).fr)], true, by omega, by simpa using hy, by simpa using hd, (by show p + 1 + nF (y.set (N.cs.getD k cn0).fr.toNat true) ≤ _; omega), (by show p + 1 + nF (y.set (N.cs.getD k cn0).fr.toNat true) = _; omega), g1, nofun, fun _ => (by show nF (y.set (N.cs.getD k cn0).fr.toNat true) < _; omega), rfl, rfl⟩, by omega⟩, ⟨⟨rfl, rfl, rfl, rfl⟩, ⟨⟨rfl, rfl, rfl, rfl, fun _ => rfl, fun _ _ => rfl⟩, ⟨⟨rfl, rfl, rfl, rfl, fun _ => rfl, fun _ _ => rfl⟩, ⟨⟨rfl, rfl, rfl, rfl, fun _ => rfl, fun j h => app_rowM1 hd _ j h⟩, ⟨⟨rfl, rfl, rfl, rfl, fun _ => rfl, fun j h => app_rowM2 hd _ j h⟩, trivial⟩⟩⟩⟩, trivial⟩⟩
                  · conv => whnf
                    conv => whnf
                    conv => whnf
                    conv => whnf
                    refine ⟨⟨(by omega), (by omega)⟩, ?_⟩
                    refine ⟨_, fun i _ => row1 _ _ i _ (by first | omega | (simp only [List.length_set]; omega) | (simp only [List.length_replicate]; omega) | (simp only [List.length_set, List.length_replicate]; omega)), ?_⟩
                    conv => whnf
                    conv => whnf
                    conv => whnf
                    conv => whnf
                    refine ⟨(by show _ * (8 + 1) ≤ _; omega), ?_⟩
                    conv => whnf
                    conv => whnf
                    conv => whnf
                    conv => whnf
                    refine ⟨(by show _ * (8 + 1) ≤ _; omega), ?_⟩
                    conv => whnf
                    conv => whnf
                    conv => whnf
                    conv => whnf
                    refine ⟨inK64 (by omega) (by omega), ?_⟩
                    obtain ⟨e3, e4, e5, e6⟩ := hgs d w2 w3
                    have hnn : newNode y (N.cs.getD k cn0) = (N.cs.getD k cn0).to := if_neg (by simpa using w4)
                    rw [e6, hnn] at g1
                    rw [hnn] at e5
                    conv => whnf
                    conv => whnf
                    conv => whnf
                    conv => whnf
                    refine ⟨_, _, ⟨⟨k + 1, y.set (N.cs.getD (k : Int).toNat cn0).to.toNat true, p + 1, d ++ [((k : Int), (N.cs.getD (k : Int).toNat cn0).to)], true, by omega, by simpa using hy, by simpa using hd, (by show p + 1 + nF (y.set (N.cs.getD k cn0).to.toNat true) ≤ _; omega), (by show p + 1 + nF (y.set (N.cs.getD k cn0).to.toNat true) = _; omega), g1, nofun, fun _ => (by show nF (y.set (N.cs.getD k cn0).to.toNat true) < _; omega), rfl, rfl⟩, by omega⟩, ⟨⟨rfl, rfl, rfl, rfl⟩, ⟨⟨rfl, rfl, rfl, rfl, fun _ => rfl, fun _ _ => rfl⟩, ⟨⟨rfl, rfl, rfl, rfl, fun _ => rfl, fun _ _ => rfl⟩, ⟨⟨rfl, rfl, rfl, rfl, fun _ => rfl, fun j h => app_rowM1 hd _ j h⟩, ⟨⟨rfl, rfl, rfl, rfl, fun _ => rfl, fun j h => app_rowM2 hd _ j h⟩, trivial⟩⟩⟩⟩, trivial⟩⟩
              · conv => whnf
                conv => whnf
                conv => whnf
                conv => whnf
                refine ⟨inK64 (by omega) (by omega), ?_⟩
                have hg : grows y (N.cs.getD k cn0) = false := by
                  unfold grows
                  rw [show (N.cs.getD k cn0).opn = false from w2]; rfl
                rw [hg] at g2'
                conv => whnf
                conv => whnf
                conv => whnf
                conv => whnf
                refine ⟨_, _, ⟨⟨k + 1, y, p, d, false, by omega, hy, hd, hp1, hp2, g1, fun _ => ⟨rfl, g2'⟩, nofun, rfl, rfl⟩, by omega⟩, ⟨⟨rfl, rfl, rfl, rfl⟩, ⟨⟨rfl, rfl, rfl, rfl, fun _ => rfl, fun _ _ => rfl⟩, ⟨⟨rfl, rfl, rfl, rfl, fun _ => rfl, fun _ _ => rfl⟩, ⟨⟨rfl, rfl, rfl, rfl, fun _ => rfl, fun _ _ => rfl⟩, ⟨⟨rfl, rfl, rfl, rfl, fun _ => rfl, fun _ _ => rfl⟩, trivial⟩⟩⟩⟩, trivial⟩⟩
            · (exfalso; omega)
          · have e : k = N.cs.length := by omega
            subst e
            rw [List.drop_length] at g2'
            have g2'' : fstC (grows y) 0 N.cs = -1 := g2'
            have t1 : true.toNat = 1 := rfl
            have t0 : false.toNat = 0 := rfl
            conv => whnf
            conv => whnf
            conv => whnf
            conv => whnf
            refine ifB_dec (fun w1 => ?_) (fun w1 => ?_)
            · (exfalso; omega)
            · conv => whnf
              conv => whnf
              conv => whnf
              conv => whnf
              refine ⟨_, _, ⟨⟨y, p, d, false, hy, hd, hp1, hp2, g1, fun _ => by omega, rfl, rfl⟩, by omega⟩, ⟨⟨rfl, rfl, rfl, rfl⟩, ⟨⟨rfl, rfl, rfl, rfl, fun _ => rfl, fun _ _ => rfl⟩, ⟨⟨rfl, rfl, rfl, rfl, fun _ => rfl, fun _ _ => rfl⟩, ⟨⟨rfl, rfl, rfl, rfl, fun _ => rfl, fun _ _ => rfl⟩, ⟨⟨rfl, rfl, rfl, rfl, fun _ => rfl, fun _ _ => rfl⟩, trivial⟩⟩⟩⟩, trivial⟩⟩
end Go.Tr

/- Contracts of chapter 2: the closing conduit, the form of a net. Conditions: none. -/
namespace Go.Tr
open Go Go.Proofs
set_option maxRecDepth 20000
set_option maxHeartbeats 8000000

theorem contains_drop {l : List Int} {k : Nat} {x : Int} (h : k < l.length) : (l.drop k).contains x = (x == l.getD k 0 || (l.drop (k + 1)).contains x) := by
  have e : l.getD k 0 = l[k] := by simp [List.getD_eq_getElem?_getD, h]
  rw [List.drop_eq_getElem_cons h, List.contains_cons, e]
theorem S68 (l : List Int) (x : Int) (hl : l.length ≤ 1000000000) : SP 68 [ints l, i64 x] (vb (l.contains x)) false := by
  generalize hR : l.contains x = R
  refine sound (d := 2) tok2 mixed2 Try.func68 (by kernel_rfl) (by kernel_rfl) ?_
  conv => whnf
  refine ⟨[], [0, 1, 5], fun st mq => ∃ (k : Nat), (k ≤ l.length) ∧ ((l.drop k).contains x = R) ∧ st = ⟨[(0, ints l), (1, i64 x), (5, i64 k)], ⟨[], [], none, 0⟩, []⟩ ∧ mq = l.length - k,
    ⟨_, _, ⟨0, by omega, hR, rfl, rfl⟩, ⟨⟨rfl, rfl, rfl, rfl⟩, trivial, trivial⟩⟩, ?_⟩
  rintro s0 m0 ⟨k, hk, h1, rfl, hmeas⟩
  by_cases hkl : k < l.length
  · rw [contains_drop hkl] at h1
    conv => whnf
    conv => whnf
    refine ifB_dec (fun w1 => ?_) (fun w1 => ?_)
    · conv => whnf
      conv => whnf
      refine ⟨⟨(by omega), (by omega)⟩, ?_⟩
      conv => whnf
      conv => whnf
      refine ifB_beq (fun w2 => ?_) (fun w2 => ?_)
      · conv => whnf
        conv => whnf
        refine ⟨?_, nofun⟩
        have e : l.getD k 0 = x := w2
        rw [e, beq_self_eq_true, Bool.true_or] at h1
        show vb _ = vb _
        rw [← h1]
      · conv => whnf
        conv => whnf
        refine ⟨inK64 (by omega) (by omega), ?_⟩
        have e : ¬ l.getD k 0 = x := w2
        have e2 : (x == l.getD k 0) = false := by simpa using fun h => e h.symm
        rw [e2, Bool.false_or] at h1
        conv => whnf
        conv => whnf
        refine ⟨_, _, ⟨⟨k + 1, by omega, h1, rfl, rfl⟩, by omega⟩, ⟨⟨rfl, rfl, rfl, rfl⟩, trivial, trivial⟩⟩
    · (exfalso; omega)
  · have e : k = l.length := by omega
    subst e
    rw [List.drop_length] at h1
    conv => whnf
    conv => whnf
    refine ifB_dec (fun w1 => ?_) (fun w1 => ?_)
    · (exfalso; omega)
    · conv => whnf
      conv => whnf
      refine ⟨?_, nofun⟩
      show vb _ = vb _
      rw [← h1]; rfl

theorem S153 (b : Int × Int) (i : Int) : SP 153 [.agg (brC b), .rptr [i64 i]] (vb (b.1 == i)) true := by
  have h : SP 153 [.agg (brC b), .rptr [i64 i]] (vb (b.1 == i)) false := by
    refine sound (d := 2) tok2 mixed2 Try.func153 (by kernel_rfl) (by kernel_rfl) ?_
    conv => whnf
    refine ⟨?_, nofun⟩
    rfl
  exact h.pl rfl

/-- The index of the branch of a conduit. -/
def idxR (x : Int) : Nat → List (Int × Int) → Int
  | _, [] => -1
  | k, b :: r => if b.1 = x then k else idxR x (k + 1) r
theorem idxR_drop {x : Int} {l : List (Int × Int)} {k : Nat} (h : k < l.length) : idxR x k (l.drop k) = if (l.getD k (0, 0)).1 = x then (k : Int) else idxR x (k + 1) (l.drop (k + 1)) := by
  rw [List.drop_eq_getElem_cons h, idxR]; simp [List.getD_eq_getElem?_getD, h]
theorem idxR_has (x : Int) : ∀ (l : List (Int × Int)) (k : Nat), decide (idxR x k l ≥ 0) = (l.map (·.1)).contains x
  | [], k => rfl
  | b :: r, k => by
    rw [idxR, List.map_cons, List.contains_cons]
    by_cases h : b.1 = x
    · rw [if_pos h, ← h]; simp
    · rw [if_neg h, idxR_has x r (k + 1)]
      have e2 : (x == b.1) = false := by simpa using fun e => h e.symm
      rw [e2, Bool.false_or]
theorem S161 (l : List (Int × Int)) (x : Int) (hl : l.length ≤ 1000) : SP 161 [brA l, .func (.func 153) 0 [.rptr [i64 x]]] (i64 (idxR x 0 l)) false := by
  generalize hR : idxR x 0 l = R
  refine sound (d := 2) tok2 mixed2 Try.func161 (by kernel_rfl) (by kernel_rfl) ?_
  conv => whnf
  refine ⟨[], [0, 1, 7, 8], fun st mq => ∃ (k : Nat), (k ≤ l.length) ∧ (idxR x k (l.drop k) = R) ∧ st = ⟨[(0, brA l), (1, .func (.func 153) 0 [.rptr [i64 x]]), (7, i64 l.length), (8, i64 k)], ⟨[], [], none, 0⟩, []⟩ ∧ mq = l.length - k,
    ⟨_, _, ⟨0, by omega, hR, rfl, rfl⟩, ⟨⟨rfl, rfl, rfl, rfl⟩, trivial, trivial⟩⟩, ?_⟩
  rintro s0 m0 ⟨k, hk, h1, rfl, hmeas⟩
  by_cases hkl : k < l.length
  · rw [idxR_drop hkl] at h1
    have hq := S153 (l.getD (k : Int).toNat (0, 0)) x
    conv => whnf
    conv => whnf
    refine ifB_dec (fun w1 => ?_) (fun w1 => ?_)
    · conv => whnf
      conv => whnf
      refine ⟨⟨(by omega), (by omega)⟩, ?_⟩
      conv => whnf
      conv => whnf
      refine .inl ⟨_, _, byX rfl (hq), ?_⟩
      conv => whnf
      conv => whnf
      refine ifB_beq (fun w2 => ?_) (fun w2 => ?_)
      · conv => whnf
        conv => whnf
        refine ⟨?_, nofun⟩
        have e : (l.getD k (0, 0)).1 = x := w2
        rw [if_pos e] at h1
        show i64 _ = i64 _
        rw [← h1]
      · conv => whnf
        conv => whnf
        refine ⟨inK64 (by omega) (by omega), ?_⟩
        have e : ¬ (l.getD k (0, 0)).1 = x := w2
        rw [if_neg e] at h1
        conv => whnf
        conv => whnf
        refine ⟨_, _, ⟨⟨k + 1, by omega, h1, rfl, rfl⟩, by omega⟩, ⟨⟨rfl, rfl, rfl, rfl⟩, trivial, trivial⟩⟩
    · (exfalso; omega)
  · have e : k = l.length := by omega
    subst e
    rw [List.drop_length] at h1
    conv => whnf
    conv => whnf
    refine ifB_dec (fun w1 => ?_) (fun w1 => ?_)
    · (exfalso; omega)
    · conv => whnf
      conv => whnf
      refine ⟨?_, nofun⟩
      show i64 _ = i64 _
      rw [← h1]; rfl
theorem S152 (l : List (Int × Int)) (x : Int) (hl : l.length ≤ 1000) : SP 152 [brA l, .func (.func 153) 0 [.rptr [i64 x]]] (vb ((l.map (·.1)).contains x)) false := by
  have h161 := S161 l x hl
  refine sound (d := 2) tok2 mixed2 Try.func152 (by kernel_rfl) (by kernel_rfl) ?_
  conv => whnf
  refine .inl ⟨_, _, byX rfl (Sound1.pl (h161) rfl), ?_⟩
  conv => whnf
  refine ⟨?_, nofun⟩
  show vb _ = vb _
  rw [idxR_has]

/-- The closing conduit, and the error of the form: from a conduit on. -/
def closeF (T : List Int) : Nat → List Cn → Int → Int × Int
  | _, [], o => (o, 0)
  | k, c :: r, o => if c.opn = false ∨ T.contains (k : Int) = true then closeF T (k + 1) r o else if o ≥ 0 then (o, 8) else closeF T (k + 1) r k
theorem closeF_drop {T : List Int} {l : List Cn} {k : Nat} {o : Int} (h : k < l.length) : closeF T k (l.drop k) o = if (l.getD k cn0).opn = false ∨ T.contains (k : Int) = true then closeF T (k + 1) (l.drop (k + 1)) o else if o ≥ 0 then (o, 8) else closeF T (k + 1) (l.drop (k + 1)) k := by
  have e : l.getD k cn0 = l[k] := by simp [List.getD_eq_getElem?_getD, h]
  rw [List.drop_eq_getElem_cons h, closeF, e]
/-- The branches of a net, its closing conduit (as the program says), the error of its form. -/
def brF (N : Net) : List (Int × Int) := (treeF N).2
def gapE (N : Net) : Bool := (treeF N).1.contains false
def clF (N : Net) : Int × Int := if gapE N then (-1, 14) else closeF ((brF N).map (·.1)) 0 N.cs (-1)

theorem growF_len {cs : List Cn} {n : Nat} (hr : inR n cs) : ∀ (k : Nat) (m : List Bool) (b : List (Int × Int)), m.length = n → nF m ≤ k → (growF cs k m b).1.length = n ∧ (growF cs k m b).2.length + nF (growF cs k m b).1 = b.length + nF m ∧ fstC (grows (growF cs k m b).1) 0 cs < 0
  | 0, m, b, hm, hk => by
    refine ⟨hm, rfl, ?_⟩
    rcases Int.lt_or_le (fstC (grows m) 0 cs) 0 with h | h
    · exact h
    · obtain ⟨i, _, _, _, _, _, e5, _⟩ := grow_step hr hm (by omega)
      omega
  | k + 1, m, b, hm, hk => by
    rcases Int.lt_or_le (fstC (grows m) 0 cs) 0 with h | h
    · rw [growF, if_pos h]; exact ⟨hm, rfl, h⟩
    · obtain ⟨i, hi, e1, e2, e3, e4, e5, _⟩ := grow_step hr hm (by omega)
      rw [growF, if_neg (by omega), e1]
      have ih := growF_len hr k (m.set (newNode m (cs.getD (i : Int).toNat cn0)).toNat true) (b ++ [((i : Int), newNode m (cs.getD (i : Int).toNat cn0))]) (by simpa using hm) (by
        show nF (m.set (newNode m (cs.getD i cn0)).toNat true) ≤ k
        omega)
      refine ⟨ih.1, ?_, ih.2.2⟩
      rw [ih.2.1]
      have : nF (m.set (newNode m (cs.getD (i : Int).toNat cn0)).toNat true) + 1 = nF m := e5
      simp only [List.length_append, List.length_cons, List.length_nil]
      omega
theorem treeF_len {N : Net} (hr : inR N.ns.length N.cs) : (treeF N).1.length = N.ns.length ∧ (brF N).length + nF (treeF N).1 = nF (lakesB N) := by
  have := growF_len hr (nF (lakesB N)) (lakesB N) [] (lakesB_len N) (Nat.le_refl _)
  refine ⟨this.1, ?_⟩
  have h := this.2.1
  simpa [brF, treeF] using h
theorem contains_false (m : List Bool) : m.contains false = decide (0 < nF m) := by
  rw [Bool.eq_iff_iff, decide_eq_true_eq, List.contains_iff_mem]
  exact List.count_pos_iff.symm
/-- All junctions are in the tree, or one is not. -/
theorem gap_ok {N : Net} (hr : inR N.ns.length N.cs) : decide ((brF N).length = nF (lakesB N)) = !gapE N := by
  have := (treeF_len hr).2
  unfold gapE
  rw [contains_false, Bool.eq_iff_iff]
  simp only [decide_eq_true_eq, Bool.not_eq_true', decide_eq_false_iff_not]
  omega
theorem brF_len {N : Net} (hr : inR N.ns.length N.cs) : (brF N).length ≤ N.ns.length := by
  have h := (treeF_len hr).2
  have := nF_le (lakesB N)
  rw [lakesB_len] at this
  omega

theorem ave_treeE (N : Net) (b : List (Int × Int)) (c e : Int) : AVE 5 (.tuple [treeA N b c, i64 e]) (.tuple [treeA N b c, i64 e]) :=
  ave_tup2 (k := 4) (ave_agg4 (k := 3) (a := .rslice 4 N.ns.length _) (b := .rslice 6 N.cs.length _) (c := .rslice 2 b.length _) (d := i64 c) ⟨rfl, rfl, fun _ _ => rfl⟩ ⟨rfl, rfl, fun _ _ => rfl⟩ ⟨rfl, rfl, fun _ _ => rfl⟩ rfl) rfl
theorem ave_tree (N : Net) (b : List (Int × Int)) (c : Int) : AVE 5 (treeA N b c) (treeA N b c) :=
  ave_agg4 (k := 4) (a := .rslice 4 N.ns.length _) (b := .rslice 6 N.cs.length _) (c := .rslice 2 b.length _) (d := i64 c) ⟨rfl, rfl, fun _ _ => rfl⟩ ⟨rfl, rfl, fun _ _ => rfl⟩ ⟨rfl, rfl, fun _ _ => rfl⟩ rfl
theorem S138 (N : Net) (hn : N.ns.length ≤ 1000) (hc : N.cs.length ≤ 1000) (hr : inR N.ns.length N.cs) : SP 138 [netV N] (.tuple [treeA N (brF N) (clF N).1, i64 (clF N).2]) false := by
  have h151 := S151 N hn hc hr
  have hb := brF_len hr
  change SP 151 _ (.tuple [treeA N (brF N) (-1), i64 (if gapE N = true then 14 else 0)]) false at h151
  generalize hR : clF N = R
  unfold clF at hR
  cases hg : gapE N with
  | true =>
    rw [hg] at h151 hR
    rw [if_pos rfl] at hR h151
    subst hR
    refine sound (d := 2) tok2 mixed2 Try.func138 (by kernel_rfl) (by kernel_rfl) ?_
    conv => whnf
    refine .inl ⟨_, _, byX rfl (h151), ?_⟩
    conv => whnf
    refine ⟨?_, nofun⟩
    exact ave_treeE N _ _ _
  | false =>
    rw [hg] at h151 hR
    rw [if_neg nofun] at hR h151
    refine sound (d := 2) tok2 mixed2 Try.func138 (by kernel_rfl) (by kernel_rfl) ?_
    conv => whnf
    refine .inl ⟨_, _, byX rfl (h151), ?_⟩
    conv => whnf
    refine ⟨[], [2, 4, 20, 21, 22], fun st mq => ∃ (k : Nat) (o : Int), (k ≤ N.cs.length) ∧ (o ≤ k) ∧ (closeF ((brF N).map (·.1)) k (N.cs.drop k) o = R) ∧ st = ⟨[(2, .optr 1 0 0 0), (4, .optr 2 0 0 0), (20, listA 6 cnC cn0 N.cs), (21, i64 N.cs.length), (22, i64 k)], ⟨[netBlk N, ⟨4, 1, fun _ => [.eslice, .eslice, .eslice, i64 0], 0, false, true, true⟩, ⟨4, 1, fun _ => [listA 4 ndC nd0 N.ns, listA 6 cnC cn0 N.cs, brA (brF N), i64 o], 0, false, true, true⟩], [], none, 0⟩, []⟩ ∧ mq = N.cs.length - k,
      ⟨_, _, ⟨0, -1, by omega, by omega, hR, rfl, rfl⟩, ⟨⟨rfl, rfl, rfl, rfl⟩, ⟨⟨rfl, rfl, rfl, rfl, fun _ => rfl, fun _ _ => rfl⟩, ⟨⟨rfl, rfl, rfl, rfl, fun _ => rfl, fun _ _ => rfl⟩, ⟨⟨rfl, rfl, rfl, rfl, fun _ => rfl, fun _ _ => rfl⟩, trivial⟩⟩⟩, trivial⟩⟩, ?_⟩
    rintro s0 m0 ⟨k, o, hk, ho, h1, rfl, hmeas⟩
    by_cases hkl : k < N.cs.length
    · rw [closeF_drop hkl] at h1
      have h152 := S152 (brF N) (k : Int) (by omega)
      conv => whnf
      conv => whnf
      refine ifB_dec (fun w1 => ?_) (fun w1 => ?_)
      · conv => whnf
        conv => whnf
        refine ⟨⟨(by omega), (by omega)⟩, ?_⟩
        conv => whnf
        conv => whnf
        refine .inl ⟨_, _, byX rfl (Sound1.pl (h152) rfl), ?_⟩
        conv => whnf
        conv => whnf
        refine ifB_not ?_
        conv => whnf
        conv => whnf
        refine ifB_intro (fun w2 => ?_) (fun w2 => ?_)
        · conv => whnf
          conv => whnf
          refine ifB_intro (fun w3 => ?_) (fun w3 => ?_)
          · conv => whnf
            conv => whnf
            refine ⟨inK64 (by omega) (by omega), ?_⟩
            rw [if_pos (.inr w3)] at h1
            conv => whnf
            conv => whnf
            refine ⟨_, _, ⟨⟨k + 1, o, by omega, by omega, h1, rfl, rfl⟩, by omega⟩, ⟨⟨rfl, rfl, rfl, rfl⟩, ⟨⟨rfl, rfl, rfl, rfl, fun _ => rfl, fun _ _ => rfl⟩, ⟨⟨rfl, rfl, rfl, rfl, fun _ => rfl, fun _ _ => rfl⟩, ⟨⟨rfl, rfl, rfl, rfl, fun _ => rfl, fun _ _ => rfl⟩, trivial⟩⟩⟩, trivial⟩⟩
          · conv => whnf
            conv => whnf
            refine ifB_dec (fun w4 => ?_) (fun w4 => ?_)
            · conv => whnf
              conv => whnf
              refine ⟨?_, nofun⟩
              rw [if_neg (by rintro (e | e); exact absurd (w2.symm.trans e) nofun; exact absurd (w3.symm.trans e) nofun), if_pos w4] at h1
              subst h1
              exact ave_treeE N _ _ _
            · conv => whnf
              conv => whnf
              refine ⟨inK64 (by omega) (by omega), ?_⟩
              rw [if_neg (by rintro (e | e); exact absurd (w2.symm.trans e) nofun; exact absurd (w3.symm.trans e) nofun), if_neg w4] at h1
              conv => whnf
              conv => whnf
              refine ⟨_, _, ⟨⟨k + 1, k, by omega, by omega, h1, rfl, rfl⟩, by omega⟩, ⟨⟨rfl, rfl, rfl, rfl⟩, ⟨⟨rfl, rfl, rfl, rfl, fun _ => rfl, fun _ _ => rfl⟩, ⟨⟨rfl, rfl, rfl, rfl, fun _ => rfl, fun _ _ => rfl⟩, ⟨⟨rfl, rfl, rfl, rfl, fun _ => rfl, fun _ _ => rfl⟩, trivial⟩⟩⟩, trivial⟩⟩
        · conv => whnf
          conv => whnf
          refine ⟨inK64 (by omega) (by omega), ?_⟩
          rw [if_pos (.inl w2)] at h1
          conv => whnf
          conv => whnf
          refine ⟨_, _, ⟨⟨k + 1, o, by omega, by omega, h1, rfl, rfl⟩, by omega⟩, ⟨⟨rfl, rfl, rfl, rfl⟩, ⟨⟨rfl, rfl, rfl, rfl, fun _ => rfl, fun _ _ => rfl⟩, ⟨⟨rfl, rfl, rfl, rfl, fun _ => rfl, fun _ _ => rfl⟩, ⟨⟨rfl, rfl, rfl, rfl, fun _ => rfl, fun _ _ => rfl⟩, trivial⟩⟩⟩, trivial⟩⟩
      · (exfalso; omega)
    · have e : k = N.cs.length := by omega
      subst e
      rw [List.drop_length, closeF] at h1
      subst h1
      conv => whnf
      conv => whnf
      refine ifB_dec (fun w1 => ?_) (fun w1 => ?_)
      · (exfalso; omega)
      · conv => whnf
        conv => whnf
        refine ⟨?_, nofun⟩
        exact ave_treeE N _ _ _

theorem ints_map1 (l : List (Int × Int)) : ints (l.map (·.1)) = .rslice 1 l.length fun i => [i64 ((l.map (·.1)).getD i 0)] := by
  unfold ints; rw [List.length_map]
/-- As the reference says it. -/
def clR (N : Net) : Int := if (clF N).2 = 0 then (clF N).1 else -1
theorem closeF_err (T : List Int) : ∀ (l : List Cn) (k : Nat) (o : Int), -1 ≤ o → (closeF T k l o).2 = 0 ∧ -1 ≤ (closeF T k l o).1 ∨ (closeF T k l o).2 = 8 ∧ 0 ≤ (closeF T k l o).1
  | [], k, o, h => .inl ⟨rfl, h⟩
  | c :: r, k, o, h => by
    rw [closeF]
    split
    · exact closeF_err T r _ _ h
    · split
      · exact .inr ⟨rfl, by assumption⟩
      · exact closeF_err T r _ _ (by omega)
theorem S97 (N : Net) (hn : N.ns.length ≤ 1000) (hc : N.cs.length ≤ 1000) (hr : inR N.ns.length N.cs) : SP 97 [netV N] (.tuple [i64 (clR N), i64 (clF N).2]) false := by
  have h137 := S137 N hn hc hr
  have hb := brF_len hr
  change SP 137 _ (.tuple [ints ((brF N).map (·.1)), ints ((brF N).map (·.2)), vb (decide ((brF N).length = nF (lakesB N)))]) false at h137
  rw [gap_ok hr] at h137
  generalize hR : clF N = R
  unfold clR
  rw [hR]
  unfold clF at hR
  cases hg : gapE N with
  | true =>
    rw [hg] at h137 hR
    rw [if_pos rfl] at hR
    subst hR
    refine sound (d := 2) tok2 mixed2 Try.func97 (by kernel_rfl) (by kernel_rfl) ?_
    conv => whnf
    refine .inl ⟨_, _, byX rfl (h137), ?_⟩
    conv => whnf
    refine ⟨?_, nofun⟩
    exact ave_tup2 (k := 4) rfl rfl
  | false =>
    rw [hg] at h137 hR
    rw [if_neg nofun] at hR
    refine sound (d := 2) tok2 mixed2 Try.func97 (by kernel_rfl) (by kernel_rfl) ?_
    conv => whnf
    refine .inl ⟨_, _, byX rfl (h137), ?_⟩
    conv => whnf
    refine ⟨[], [1, 4, 7, 8], fun st mq => ∃ (k : Nat) (o : Int), (k ≤ N.cs.length) ∧ (-1 ≤ o ∧ o ≤ k) ∧ (closeF ((brF N).map (·.1)) k (N.cs.drop k) o = R) ∧ st = ⟨[(1, .optr 0 0 0 0), (4, ints ((brF N).map (·.1))), (7, i64 o), (8, i64 k)], ⟨[netBlk N], [], none, 0⟩, []⟩ ∧ mq = N.cs.length - k,
      ⟨_, _, ⟨0, -1, by omega, by omega, hR, rfl, rfl⟩, ⟨⟨rfl, rfl, rfl, rfl⟩, ⟨⟨rfl, rfl, rfl, rfl, fun _ => rfl, fun _ _ => rfl⟩, trivial⟩, trivial⟩⟩, ?_⟩
    rintro s0 m0 ⟨k, o, hk, ho, h1, rfl, hmeas⟩
    by_cases hkl : k < N.cs.length
    · rw [closeF_drop hkl] at h1
      have h68 := S68 ((brF N).map (·.1)) (k : Int) (by simp; omega)
      conv => whnf
      conv => whnf
      refine ifB_dec (fun w1 => ?_) (fun w1 => ?_)
      · conv => whnf
        conv => whnf
        refine ⟨⟨(by omega), (by omega)⟩, ?_⟩
        conv => whnf
        conv => whnf
        refine ifB_not ?_
        conv => whnf
        conv => whnf
        refine ifB_intro (fun w2 => ?_) (fun w2 => ?_)
        · conv => whnf
          conv => whnf
          refine .inl ⟨_, _, byX rfl (Sound1.pl (h68) rfl), ?_⟩
          conv => whnf
          conv => whnf
          refine ifB_intro (fun w3 => ?_) (fun w3 => ?_)
          · conv => whnf
            conv => whnf
            refine ⟨inK64 (by omega) (by omega), ?_⟩
            rw [if_pos (.inr w3)] at h1
            conv => whnf
            conv => whnf
            refine ⟨_, _, ⟨⟨k + 1, o, by omega, by omega, h1, rfl, rfl⟩, by omega⟩, ⟨⟨rfl, rfl, rfl, rfl⟩, ⟨⟨rfl, rfl, rfl, rfl, fun _ => rfl, fun _ _ => rfl⟩, trivial⟩, trivial⟩⟩
          · conv => whnf
            conv => whnf
            refine ifB_dec (fun w4 => ?_) (fun w4 => ?_)
            · conv => whnf
              conv => whnf
              refine ⟨?_, nofun⟩
              rw [if_neg (by rintro (e | e); exact absurd (w2.symm.trans e) nofun; exact absurd (w3.symm.trans e) nofun), if_pos w4] at h1
              subst h1
              exact ave_tup2 (k := 4) rfl rfl
            · conv => whnf
              conv => whnf
              refine ⟨inK64 (by omega) (by omega), ?_⟩
              rw [if_neg (by rintro (e | e); exact absurd (w2.symm.trans e) nofun; exact absurd (w3.symm.trans e) nofun), if_neg w4] at h1
              conv => whnf
              conv => whnf
              refine ⟨_, _, ⟨⟨k + 1, k, by omega, by omega, h1, rfl, rfl⟩, by omega⟩, ⟨⟨rfl, rfl, rfl, rfl⟩, ⟨⟨rfl, rfl, rfl, rfl, fun _ => rfl, fun _ _ => rfl⟩, trivial⟩, trivial⟩⟩
        · conv => whnf
          conv => whnf
          refine ⟨inK64 (by omega) (by omega), ?_⟩
          rw [if_pos (.inl w2)] at h1
          conv => whnf
          conv => whnf
          refine ⟨_, _, ⟨⟨k + 1, o, by omega, by omega, h1, rfl, rfl⟩, by omega⟩, ⟨⟨rfl, rfl, rfl, rfl⟩, ⟨⟨rfl, rfl, rfl, rfl, fun _ => rfl, fun _ _ => rfl⟩, trivial⟩, trivial⟩⟩
      · (exfalso; omega)
    · have e : k = N.cs.length := by omega
      subst e
      rw [List.drop_length, closeF] at h1
      subst h1
      conv => whnf
      conv => whnf
      refine ifB_dec (fun w1 => ?_) (fun w1 => ?_)
      · (exfalso; omega)
      · conv => whnf
        conv => whnf
        refine ⟨?_, nofun⟩
        exact ave_tup2 (k := 4) rfl rfl

theorem S100 (c : Int) : SP 100 [i64 c] (i64 (if decide (-200000 ≤ c ∧ c ≤ 200000) = true then 0 else 2)) false := by
  have h73 := S73 c 200000 (by omega) (by omega)
  refine sound (d := 2) tok2 mixed2 Try.func100 (by kernel_rfl) (by kernel_rfl) ?_
  conv => whnf
  refine .inl ⟨_, _, byX rfl (Sound1.pl (h73) rfl), ?_⟩
  conv => whnf
  refine .inl ⟨_, _, byX rfl (Sound1.pl (S72 _ _) rfl), ?_⟩
  conv => whnf
  refine ⟨?_, nofun⟩
  rfl
/-- The error of a net's form, a net's own ahead. -/
def formE (N : Net) : Int := if netE N = 0 then (clF N).2 else netE N
theorem S38 (N : Net) (hN : N.In) : SP 38 [netV N] (i64 (formE N)) false := by
  have h32 := S32 N hN
  unfold formE
  by_cases hE : netE N = 0
  · have hok := net_ok hE
    have h97 := S97 N (by have := hok.n1; omega) (by have := hok.c1; omega) hok.ends
    rw [if_pos hE]
    refine sound (d := 2) tok2 mixed2 Try.func38 (by kernel_rfl) (by kernel_rfl) ?_
    conv => whnf
    refine .inl ⟨_, _, byX rfl (Sound1.pl (h32) rfl), ?_⟩
    conv => whnf
    refine ifB_bne (fun w1 => ?_) (fun w1 => ?_)
    · (exfalso; omega)
    · conv => whnf
      refine .inl ⟨_, _, byX rfl (Sound1.pl (h97) rfl), ?_⟩
      conv => whnf
      refine ⟨?_, nofun⟩
      rfl
  · rw [if_neg hE]
    refine sound (d := 2) tok2 mixed2 Try.func38 (by kernel_rfl) (by kernel_rfl) ?_
    conv => whnf
    refine .inl ⟨_, _, byX rfl (Sound1.pl (h32) rfl), ?_⟩
    conv => whnf
    refine ifB_bne (fun w1 => ?_) (fun w1 => ?_)
    · conv => whnf
      refine ⟨?_, nofun⟩
      rfl
    · (exfalso; omega)

/-- What the opening of a tree gives. -/
theorem S99ok (N : Net) (hN : N.In) (hE : netE N = 0) : SP 99 [netV N] (.tuple [treeA N (brF N) (clF N).1, i64 (clF N).2]) false := by
  have hok := net_ok hE
  have h87 := S87 N hN
  rw [hE] at h87
  have h138 := S138 N (by have := hok.n1; omega) (by have := hok.c1; omega) hok.ends
  refine sound (d := 2) tok2 mixed2 Try.func99 (by kernel_rfl) (by kernel_rfl) ?_
  conv => whnf
  refine .inl ⟨_, _, byX rfl (h87), ?_⟩
  conv => whnf
  refine .inl ⟨_, _, byX rfl (h138), ?_⟩
  conv => whnf
  refine ⟨?_, nofun⟩
  exact ave_treeE N _ _ _
def tree0 : AV := .agg [.eslice, .eslice, .eslice, i64 0]
theorem S99err (N : Net) (hN : N.In) (hE : ¬ netE N = 0) : SP 99 [netV N] (.tuple [tree0, i64 (netE N)]) false := by
  have h87 := S87 N hN
  refine sound (d := 2) tok2 mixed2 Try.func99 (by kernel_rfl) (by kernel_rfl) ?_
  conv => whnf
  refine .inl ⟨_, _, byX rfl (h87), ?_⟩
  conv => whnf
  refine ifB_bne (fun w1 => ?_) (fun w1 => ?_)
  · conv => whnf
    refine ⟨?_, nofun⟩
    exact ave_tup2 (k := 4) (ave_agg4 (k := 3) rfl rfl rfl rfl) rfl
  · (exfalso; omega)
end Go.Tr

/- Plain laws of chapter 2: cuts. Conditions: none. -/
namespace Go.Tr
open Go Go.Proofs
set_option maxRecDepth 20000
set_option maxHeartbeats 8000000

theorem vbEq {k : Nat} {a b : Bool} (h : a = b) : AVE (k + 1) (.val (.bool a)) (vb b) := by subst h; rfl
/-- The first set of so many of some numbers, behind others, for which something holds. -/
def findS (P : List Int → Bool) : List Int → Nat → List Int → Option (List Int)
  | _, 0, b => if P b then some b else none
  | [], _ + 1, _ => none
  | x :: r, n + 1, b => match findS P r n (b ++ [x]) with
    | some s => some s
    | none => findS P r (n + 1) b
def resS (P : List Int → Bool) (r : List Int) (n : Nat) (b : List Int) : List Int × Bool :=
  match n with
  | 0 => (b, P b)
  | n + 1 => match findS P r (n + 1) b with
    | some s => (s, true)
    | none => ([], false)
theorem findS_zero (P : List Int → Bool) (r b : List Int) : findS P r 0 b = if P b then some b else none := by cases r <;> rfl
theorem resS_some {P : List Int → Bool} {r : List Int} {n : Nat} {b s : List Int} (h : findS P r n b = some s) : resS P r n b = (s, true) := by
  cases n with
  | zero =>
    rw [findS_zero] at h
    split at h
    · rename_i e
      cases h
      show (b, P b) = _
      rw [e]
    · cases h
  | succ n => unfold resS; simp only [h]
theorem resS_none {P : List Int → Bool} {r : List Int} {n : Nat} {b : List Int} (h : findS P r n b = none) : (resS P r n b).2 = false := by
  cases n with
  | zero =>
    rw [findS_zero] at h
    split at h
    · cases h
    · rename_i e
      exact Bool.eq_false_iff.2 e
  | succ n => unfold resS; simp only [h]
theorem resS_two (P : List Int → Bool) (r : List Int) (n : Nat) (b : List Int) : (∃ s, findS P r n b = some s ∧ resS P r n b = (s, true)) ∨ (findS P r n b = none ∧ (resS P r n b).2 = false) := by
  cases h : findS P r n b with
  | some s => exact .inl ⟨s, rfl, resS_some h⟩
  | none => exact .inr ⟨rfl, resS_none h⟩
theorem findS_drop {P : List Int → Bool} {r b : List Int} {n k : Nat} (h : k < r.length) : findS P (r.drop k) (n + 1) b = match findS P (r.drop (k + 1)) n (b ++ [r.getD k 0]) with
    | some s => some s
    | none => findS P (r.drop (k + 1)) (n + 1) b := by
  have e : r.getD k 0 = r[k] := by simp [List.getD_eq_getElem?_getD, h]
  rw [List.drop_eq_getElem_cons h, findS, e]
/-- What is found holds, and is made of what was given. -/
theorem findS_mem {P : List Int → Bool} : ∀ (r : List Int) (n : Nat) (b s : List Int), findS P r n b = some s → P s = true ∧ ∀ x ∈ s, x ∈ b ∨ x ∈ r
  | r, 0, b, s, h => by
    rw [findS_zero] at h
    split at h
    · cases h; exact ⟨by assumption, fun x hx => .inl hx⟩
    · cases h
  | [], n + 1, b, s, h => by cases h
  | x :: r, n + 1, b, s, h => by
    rw [findS] at h
    split at h
    · rename_i s' e
      cases h
      have := findS_mem r n _ _ e
      refine ⟨this.1, fun y hy => ?_⟩
      rcases this.2 y hy with h | h
      · rcases List.mem_append.1 h with h | h
        · exact .inl h
        · rw [List.mem_singleton] at h; exact .inr (by simp [h])
      · exact .inr (by simp [h])
    · have := findS_mem r (n + 1) b s h
      exact ⟨this.1, fun y hy => (this.2 y hy).imp id fun h => by simp [h]⟩
/-- All of them. -/
theorem findS_big {P : List Int → Bool} : ∀ (r : List Int) (n : Nat) (b : List Int), r.length < n → findS P r n b = none
  | r, 0, b, h => by omega
  | [], n + 1, b, _ => rfl
  | x :: r, n + 1, b, h => by
    simp only [List.length_cons] at h
    rw [findS, findS_big r n _ (by omega), findS_big r (n + 1) b (by omega)]
theorem findS_all {P : List Int → Bool} : ∀ (r b : List Int), findS P r r.length b = if P (b ++ r) then some (b ++ r) else none
  | [], b => by rw [List.append_nil]; rfl
  | x :: r, b => by
    rw [List.length_cons, findS, findS_all r (b ++ [x]), findS_big r (r.length + 1) b (by omega), List.append_assoc]
    show (match if P (b ++ x :: r) = true then some (b ++ x :: r) else none with | some s => some s | none => none) = _
    cases P (b ++ x :: r) <;> rfl
/-- The first number for which something is found. -/
def firstN (f : Nat → Option (List Int)) : Nat → Nat → Option (List Int)
  | 0, _ => none
  | n + 1, k => match f k with
    | some s => some s
    | none => firstN f n (k + 1)
theorem firstN_none {f : Nat → Option (List Int)} (h : ∀ k, f k = none) : ∀ n k, firstN f n k = none
  | 0, _ => rfl
  | n + 1, k => by rw [firstN, h k, firstN_none h n]
theorem firstN_snoc {f : Nat → Option (List Int)} : ∀ n k, firstN f (n + 1) k = match firstN f n k with | some s => some s | none => f (k + n)
  | 0, k => by
    rw [firstN, firstN, Nat.add_zero]
    cases f k <;> rfl
  | n + 1, k => by
    rw [firstN, firstN_snoc n (k + 1)]
    conv => rhs; rw [firstN]
    cases f k with
    | some s => rfl
    | none => rw [show k + 1 + n = k + (n + 1) by omega]
/-- The minimum cut, as the program finds it. -/
def cutP (P : List Int → Bool) (V : List Int) : Option (List Int) := firstN (fun n => findS P V n []) (V.length + 1) 0
/-- As the reference says it. -/
theorem cutP_ref {P : List Int → Bool} {V : List Int} (hm : ∀ s, (∀ x ∈ s, x ∈ V) → P s = true → P V = true) :
    cutP P V = if P V then (match firstN (fun n => findS P V n []) V.length 0 with | some s => some s | none => some V) else none := by
  unfold cutP
  split
  · rename_i h
    rw [firstN_snoc, Nat.zero_add, findS_all V [], List.nil_append, if_pos h]
  · rename_i h
    refine firstN_none (fun k => ?_) _ _
    cases e : findS P V k [] with
    | none => rfl
    | some s =>
      have := findS_mem V k [] s e
      exact absurd (hm s (fun x hx => (this.2 x hx).resolve_left (by simp)) this.1) h

/-! ### Fewer conduits reach less -/
def leM (m m' : List Bool) : Prop := m.length = m'.length ∧ ∀ i, m.getD i false = true → m'.getD i false = true
theorem touch_get {m : List Bool} {a b : Nat} (ha : a < m.length) (hb : b < m.length) (i : Nat) : (touch m a b).getD i false = (m.getD i false || ((i == a || i == b) && (m.getD a false || m.getD b false))) := by
  rw [← touch_or]
  by_cases h : (m.getD a false || m.getD b false) = true
  · rw [if_pos h, getD_set, getD_set, h]
    by_cases h1 : i = b
    · rw [if_pos ⟨h1, by simpa using hb⟩, h1]; simp
    · rw [if_neg (fun e => h1 e.1)]
      by_cases h2 : i = a
      · rw [if_pos ⟨h2, ha⟩, h2]; simp
      · rw [if_neg (fun e => h2 e.1)]
        have e1 : (i == a) = false := by simpa using h2
        have e2 : (i == b) = false := by simpa using h1
        rw [e1, e2]; simp
  · have h' : (m.getD a false || m.getD b false) = false := Bool.eq_false_iff.2 h
    rw [if_neg h, h']; simp
theorem touch_le {m m' : List Bool} {a b : Nat} (ha : a < m.length) (hb : b < m.length) (h : leM m m') : leM (touch m a b) (touch m' a b) := by
  have hl := h.1
  refine ⟨by rw [touch_len, touch_len, hl], fun i hi => ?_⟩
  rw [touch_get ha hb] at hi
  rw [touch_get (by omega) (by omega)]
  simp only [Bool.or_eq_true, Bool.and_eq_true] at hi ⊢
  rcases hi with hi | ⟨h1, h2⟩
  · exact .inl (h.2 i hi)
  · exact .inr ⟨h1, h2.imp (h.2 a) (h.2 b)⟩
theorem touch_ge {m : List Bool} {a b : Nat} (ha : a < m.length) (hb : b < m.length) : leM m (touch m a b) := by
  refine ⟨(touch_len m a b).symm, fun i hi => ?_⟩
  rw [touch_get ha hb, hi]; rfl
theorem leM_trans {a b c : List Bool} (h1 : leM a b) (h2 : leM b c) : leM a c := ⟨h1.1.trans h2.1, fun i hi => h2.2 i (h1.2 i hi)⟩
theorem sweep_le {use use' : Nat → Bool} (hu : ∀ i, use i = true → use' i = true) : ∀ (cs : List Cn) (k : Nat) (m m' : List Bool), inR m.length cs → leM m m' → leM (sweep use k cs m) (sweep use' k cs m')
  | [], k, m, m', _, h => h
  | c :: r, k, m, m', hr, h => by
    have hc := hr c (by simp)
    have hl := h.1
    rw [sweep, sweep]
    have hA : leM (if use k = true then touch m c.fr.toNat c.to.toNat else m) (if use' k = true then touch m' c.fr.toNat c.to.toNat else m') := by
      cases h1 : use k with
      | true =>
        rw [hu k h1]
        simp only [if_true]
        exact touch_le (by omega) (by omega) h
      | false =>
        simp only [Bool.false_eq_true, if_false]
        split
        · exact leM_trans h (touch_ge (by omega) (by omega))
        · exact h
    refine sweep_le hu r (k + 1) _ _ (fun x hx => ?_) hA
    have : (if use k = true then touch m c.fr.toNat c.to.toNat else m).length = m.length := by split; exact touch_len _ _ _; rfl
    rw [this]
    exact hr x (by simp [hx])
theorem iterF_le {use use' : Nat → Bool} (hu : ∀ i, use i = true → use' i = true) {cs : List Cn} : ∀ (n : Nat) (m m' : List Bool), inR m.length cs → leM m m' → leM (iterF use cs n m) (iterF use' cs n m')
  | 0, m, m', _, h => h
  | n + 1, m, m', hr, h => by
    rw [iterF, iterF]
    exact iterF_le hu n _ _ (by rw [sweep_len]; exact hr) (sweep_le hu cs 0 m m' hr h)
theorem clo_le {use use' : Nat → Bool} (hu : ∀ i, use i = true → use' i = true) {cs : List Cn} {m : List Bool} (hr : inR m.length cs) : leM (clo use cs m) (clo use' cs m) :=
  iterF_le hu _ m m hr ⟨rfl, fun _ h => h⟩
/-- What is reached depends on the ends, and on what may be used. -/
theorem sweep_congr {use use' : Nat → Bool} : ∀ (cs cs' : List Cn) (k : Nat) (m : List Bool), cs.length = cs'.length → (∀ i, i < cs.length → (cs.getD i cn0).fr = (cs'.getD i cn0).fr ∧ (cs.getD i cn0).to = (cs'.getD i cn0).to ∧ use (k + i) = use' (k + i)) → sweep use k cs m = sweep use' k cs' m
  | [], [], k, m, _, _ => rfl
  | [], c :: r, k, m, h, _ => by simp at h
  | c :: r, [], k, m, h, _ => by simp at h
  | c :: r, c' :: r', k, m, hl, h => by
    have h0 := h 0 (by simp)
    simp only [List.getD_cons_zero, Nat.add_zero] at h0
    rw [sweep, sweep, h0.1, h0.2.1, h0.2.2]
    refine sweep_congr r r' (k + 1) _ (by simpa using hl) fun i hi => ?_
    have := h (i + 1) (by simpa using hi)
    simp only [List.getD_cons_succ] at this
    rw [show k + 1 + i = k + (i + 1) by omega]
    exact this
theorem clo_congr {use use' : Nat → Bool} {cs cs' : List Cn} (m : List Bool) (hl : cs.length = cs'.length) (h : ∀ i, i < cs.length → (cs.getD i cn0).fr = (cs'.getD i cn0).fr ∧ (cs.getD i cn0).to = (cs'.getD i cn0).to ∧ use i = use' i) : clo use cs m = clo use' cs' m := by
  have hs : ∀ m, sweep use 0 cs m = sweep use' 0 cs' m := fun m => sweep_congr cs cs' 0 m hl fun i hi => by rw [Nat.zero_add]; exact h i hi
  have : ∀ n m, iterF use cs n m = iterF use' cs' n m := by
    intro n
    induction n with
    | zero => intro m; rfl
    | succ n ih => intro m; rw [iterF, iterF, hs, ih]
  exact this _ _

/-- Conduits closed. -/
def closeC (cs : List Cn) (s : List Int) : List Cn := s.foldl (fun cs x => cs.set x.toNat { cs.getD x.toNat cn0 with opn := false }) cs
def closeN (N : Net) (s : List Int) : Net := ⟨N.ns, closeC N.cs s⟩
theorem close1_get (cs : List Cn) (x i : Nat) (hx : x < cs.length) : (cs.set x { cs.getD x cn0 with opn := false }).getD i cn0 = if i = x then { cs.getD x cn0 with opn := false } else cs.getD i cn0 := by
  simp only [List.getD_eq_getElem?_getD, List.getElem?_set]
  by_cases h : x = i
  · subst h; simp [hx]
  · rw [if_neg h, if_neg (fun e => h e.symm)]
theorem closeC_get : ∀ (s : List Int) (cs : List Cn), (∀ x ∈ s, 0 ≤ x ∧ x < cs.length) → (closeC cs s).length = cs.length ∧ ∀ i, i < cs.length → ((closeC cs s).getD i cn0).fr = (cs.getD i cn0).fr ∧ ((closeC cs s).getD i cn0).to = (cs.getD i cn0).to ∧ ((closeC cs s).getD i cn0).valve = (cs.getD i cn0).valve ∧ ((closeC cs s).getD i cn0).opn = ((cs.getD i cn0).opn && !s.contains (i : Int))
  | [], cs, _ => ⟨rfl, fun i _ => ⟨rfl, rfl, rfl, by simp [closeC]⟩⟩
  | x :: r, cs, h => by
    have hx := h x (by simp)
    have ih := closeC_get r (cs.set x.toNat { cs.getD x.toNat cn0 with opn := false }) (fun y hy => by rw [List.length_set]; exact h y (by simp [hy]))
    rw [List.length_set] at ih
    refine ⟨ih.1, fun i hi => ?_⟩
    have e := close1_get cs x.toNat i (by omega)
    obtain ⟨a, b, c, d⟩ := ih.2 i hi
    rw [e] at a b c d
    have hc : (x :: r).contains (i : Int) = ((i : Int) == x || r.contains (i : Int)) := by rw [List.contains_cons]
    refine ⟨?_, ?_, ?_, ?_⟩
    · show ((closeC _ r).getD i cn0).fr = _
      rw [a]; split
      · rename_i e; rw [e]
      · rfl
    · show ((closeC _ r).getD i cn0).to = _
      rw [b]; split
      · rename_i e; rw [e]
      · rfl
    · show ((closeC _ r).getD i cn0).valve = _
      rw [c]; split
      · rename_i e; rw [e]
      · rfl
    · show ((closeC _ r).getD i cn0).opn = _
      rw [d, hc]
      by_cases e : i = x.toNat
      · rw [if_pos e]
        have : ((i : Int) == x) = true := by simp; omega
        rw [this]; simp
      · rw [if_neg e]
        have : ((i : Int) == x) = false := by simp; omega
        rw [this]; simp
/-- Which conduits may be used behind a set. -/
def useS (N : Net) (s : List Int) (i : Nat) : Bool := opnU N i && !s.contains (i : Int)
/-- Is a set a cut? (who may use what is not in it does not get there) -/
def cutB (N : Net) (w : Int × Int) (s : List Int) : Bool := !(clo (useS N s) N.cs (marks N.ns.length [w.1])).getD w.2.toNat false
theorem close_reach {N : Net} {s : List Int} (hs : ∀ x ∈ s, 0 ≤ x ∧ x < N.cs.length) (k : Int) : reachB (closeN N s) k = clo (useS N s) N.cs (marks N.ns.length [k]) := by
  have h := closeC_get s N.cs hs
  unfold reachB
  refine clo_congr _ h.1 fun i hi => ?_
  have hi' : i < N.cs.length := by rw [← h.1]; exact hi
  obtain ⟨a, b, _, d⟩ := h.2 i hi'
  exact ⟨a, b, d⟩
theorem close_inR {N : Net} {s : List Int} (hs : ∀ x ∈ s, 0 ≤ x ∧ x < N.cs.length) (hr : inR N.ns.length N.cs) : inR N.ns.length (closeC N.cs s) := fun c hc => by
  have h := closeC_get s N.cs hs
  obtain ⟨i, hi, e⟩ := List.getElem_of_mem hc
  have hi' : i < N.cs.length := by rw [← h.1]; exact hi
  have e2 : (closeC N.cs s).getD i cn0 = c := by rw [List.getD_eq_getElem?_getD, List.getElem?_eq_getElem hi, Option.getD_some]; exact e
  have := h.2 i hi'
  rw [e2] at this
  rw [this.1, this.2.1]
  exact hr (N.cs.getD i cn0) (by simp [List.getD_eq_getElem?_getD, hi'])
/-- More closed, less reached. -/
theorem cut_mono {N : Net} {w : Int × Int} (hr : inR N.ns.length N.cs) {s t : List Int} (h : ∀ x ∈ s, x ∈ t) (hs : cutB N w s = true) : cutB N w t = true := by
  have hle := clo_le (use := useS N t) (use' := useS N s) (fun i hi => by
    unfold useS at hi ⊢
    rw [Bool.and_eq_true] at hi ⊢
    refine ⟨hi.1, ?_⟩
    cases hc : s.contains (i : Int) with
    | false => rfl
    | true =>
      rw [List.contains_iff_mem] at hc
      have := h _ hc
      rw [← List.contains_iff_mem] at this
      rw [this] at hi
      exact hi.2) (cs := N.cs) (m := marks N.ns.length [w.1]) (by rw [marks_len]; exact hr)
  unfold cutB at hs ⊢
  cases hc : (clo (useS N t) N.cs (marks N.ns.length [w.1])).getD w.2.toNat false with
  | false => rfl
  | true => rw [hle.2 _ hc] at hs; exact hs
/-- All open valves. -/
def valsF (N : Net) : List Int := whereF 0 (N.cs.map fun c => c.valve && c.opn)
theorem whereF_memI : ∀ (l : List Bool) (k : Nat) (x : Int), x ∈ whereF k l ↔ ∃ i, i < l.length ∧ x = (k + i : Nat) ∧ l.getD i false = true
  | [], k, x => by simp [whereF]
  | b :: r, k, x => by
    have ih := whereF_memI r (k + 1) x
    constructor
    · intro h
      have h' : (b = true ∧ x = k) ∨ x ∈ whereF (k + 1) r := by
        rw [whereF] at h
        split at h
        · rename_i e
          rcases List.mem_cons.1 h with h | h
          · exact .inl ⟨e, h⟩
          · exact .inr h
        · exact .inr h
      rcases h' with ⟨e, h⟩ | h
      · exact ⟨0, by simp, by simpa using h, by simpa using e⟩
      · obtain ⟨i, h1, h2, h3⟩ := ih.1 h
        exact ⟨i + 1, by simpa using h1, by rw [h2]; omega, by simpa using h3⟩
    · rintro ⟨i, h1, h2, h3⟩
      rw [whereF]
      cases i with
      | zero =>
        rw [if_pos (by simpa using h3)]
        exact List.mem_cons.2 (.inl (by simpa using h2))
      | succ i =>
        have : x ∈ whereF (k + 1) r := ih.2 ⟨i, by simpa using h1, by rw [h2]; omega, by simpa using h3⟩
        split
        · exact List.mem_cons.2 (.inr this)
        · exact this
theorem vals_mem (N : Net) (x : Int) (h : x ∈ valsF N) : 0 ≤ x ∧ x < N.cs.length ∧ (N.cs.getD x.toNat cn0).opn = true ∧ (N.cs.getD x.toNat cn0).valve = true := by
  obtain ⟨i, h1, h2, h3⟩ := (whereF_memI _ _ _).1 h
  rw [List.length_map] at h1
  rw [Nat.zero_add] at h2
  subst h2
  have e : (N.cs.map fun c => c.valve && c.opn).getD i false = ((N.cs.getD i cn0).valve && (N.cs.getD i cn0).opn) := by
    simp [List.getD_eq_getElem?_getD, h1]
  rw [e, Bool.and_eq_true] at h3
  exact ⟨by omega, by omega, h3.2, h3.1⟩
end Go.Tr

/- Contracts of chapter 2: cuts. Conditions: none. -/
namespace Go.Tr
open Go Go.Proofs
set_option maxRecDepth 20000
set_option maxHeartbeats 8000000

theorem S90c (N : Net) (g : FuncId) (l1 l2 : List AV) (use : Nat → Bool) (fm : List Int) (hn : N.ns.length ≤ 1000) (hc : N.cs.length ≤ 1000) (hr : inR N.ns.length N.cs) (hf : ∀ x ∈ fm, 0 ≤ x ∧ x < N.ns.length) (hl : fm.length ≤ 1000)
    (hg : ∀ i : Nat, i < N.cs.length → SP g [i64 i, .rptr l1, .rptr l2] (vb (use i)) true) : SP 90 [netV N, ints fm, .func (.func g) 0 [.rptr l1, .rptr l2]] (bools (clo use N.cs (marks N.ns.length fm))) true := by
  generalize hR : clo use N.cs (marks N.ns.length fm) = R
  refine sound (d := 2) tok2 mixed2 Try.func90 (by kernel_rfl) (by kernel_rfl) ?_
  conv => whnf
  refine ⟨⟨(by omega), ⟨(by omega), ⟨(by omega), (by show _ * ((1 : Nat) : Int) ≤ _; omega)⟩⟩⟩, ?_⟩
  conv => whnf
  refine ⟨[], [2, 3, 7, 18, 19, 20], fun st mq => ∃ (k : Nat) (x : List Bool), (k ≤ fm.length) ∧ (x.length = N.ns.length) ∧ ((fm.drop k).foldl (fun m k => m.set k.toNat true) x = marks N.ns.length fm) ∧ st = ⟨[(2, .func (.func g) 0 [.rptr l1, .rptr l2]), (3, .optr 0 0 0 0), (7, .oslice 1 0 0 N.ns.length (some N.ns.length)), (18, ints fm), (19, i64 fm.length), (20, i64 k)], ⟨[netBlk N, ⟨1, N.ns.length, fun i => [vb (x.getD i false)], 0, false, true, false⟩], [], none, 0⟩, []⟩ ∧ mq = fm.length - k,
    ⟨_, _, ⟨0, List.replicate N.ns.length false, by omega, by simp, rfl, rfl, rfl⟩, ⟨⟨rfl, rfl, rfl, rfl⟩, ⟨⟨rfl, rfl, rfl, rfl, fun _ => rfl, fun _ _ => rfl⟩, ⟨⟨rfl, rfl, rfl, rfl, fun _ => rfl, fun i _ => rep_row _ i⟩, trivial⟩⟩, trivial⟩⟩, ?_⟩
  rintro s0 m0 ⟨k, x, hk, hm, hf1, rfl, hmeas⟩
  by_cases hkl : k < fm.length
  · have hq := hf (fm.getD (k : Int).toNat 0) (by simp [List.getD_eq_getElem?_getD, hkl])
    have e := List.drop_eq_getElem_cons (l := fm) (i := k) hkl
    have e2 : fm.getD (k : Int).toNat 0 = fm[k] := by simp [List.getD_eq_getElem?_getD, hkl]
    rw [e, List.foldl_cons, ← e2] at hf1
    conv => whnf
    conv => whnf
    refine ifB_dec (fun w1 => ?_) (fun w1 => ?_)
    · conv => whnf
      conv => whnf
      refine ⟨⟨(by omega), (by omega)⟩, ?_⟩
      conv => whnf
      conv => whnf
      refine ⟨⟨(by omega), (by omega)⟩, ?_⟩
      refine ⟨_, fun i _ => row1 _ _ i _ (by first | omega | (simp only [List.length_set]; omega) | (simp only [List.length_replicate]; omega) | (simp only [List.length_set, List.length_replicate]; omega)), ?_⟩
      conv => whnf
      conv => whnf
      refine ⟨inK64 (by omega) (by omega), ?_⟩
      conv => whnf
      conv => whnf
      refine ⟨_, _, ⟨⟨k + 1, _, by omega, by (rw [List.length_set]; exact hm), hf1, rfl, rfl⟩, by omega⟩, ⟨⟨rfl, rfl, rfl, rfl⟩, ⟨⟨rfl, rfl, rfl, rfl, fun _ => rfl, fun _ _ => rfl⟩, ⟨⟨rfl, rfl, rfl, rfl, fun _ => rfl, fun _ _ => rfl⟩, trivial⟩⟩, trivial⟩⟩
    · (exfalso; omega)
  · have e : k = fm.length := by omega
    subst e
    rw [List.drop_length, List.foldl_nil] at hf1
    rw [← hf1] at hR
    conv => whnf
    conv => whnf
    refine ifB_dec (fun w1 => ?_) (fun w1 => ?_)
    · (exfalso; omega)
    · clear hk hkl hmeas hf1 w1
      conv => whnf
      conv => whnf
      refine ⟨[], [2, 3, 7, 10], fun st mq => ∃ (x : List Bool) (c : Bool), (x.length = N.ns.length) ∧ (clo use N.cs x = R) ∧ (c = false → sweep use 0 N.cs x = x) ∧ st = ⟨[(2, .func (.func g) 0 [.rptr l1, .rptr l2]), (3, .optr 0 0 0 0), (7, .oslice 1 0 0 N.ns.length (some N.ns.length)), (10, vb c)], ⟨[netBlk N, ⟨1, N.ns.length, fun i => [vb (x.getD i false)], 0, false, true, false⟩], [], none, 0⟩, []⟩ ∧ mq = nF x + c.toNat,
        ⟨_, _, ⟨x, true, hm, hR, nofun, rfl, rfl⟩, ⟨⟨rfl, rfl, rfl, rfl⟩, ⟨⟨rfl, rfl, rfl, rfl, fun _ => rfl, fun _ _ => rfl⟩, ⟨⟨rfl, rfl, rfl, rfl, fun _ => rfl, fun _ _ => rfl⟩, trivial⟩⟩, trivial⟩⟩, ?_⟩
      rintro s0 m0 ⟨x, c, hm, hR, hch, rfl, hmeas⟩
      cases c with
      | false =>
        have e : x = R := (clo_fix (hch rfl)).symm.trans hR
        conv => whnf
        conv => whnf
        conv => whnf
        refine ⟨?_, fun _ => ⟨rfl, ?_⟩⟩
        · subst e
          exact ave_bools hm.symm fun _ _ => rfl
        · exact plain_bools R
      | true =>
        have hr' : inR x.length N.cs := by rw [hm]; exact hr
        conv => whnf
        conv => whnf
        conv => whnf
        refine ⟨[], [2, 3, 7, 10, 31, 32, 33], fun st mq => ∃ (k : Nat) (y : List Bool) (c : Bool), (k ≤ N.cs.length) ∧ (y.length = N.ns.length) ∧ (sweep use k (N.cs.drop k) y = sweep use 0 N.cs x) ∧ ((c || sweepC use k (N.cs.drop k) y) = sweepC use 0 N.cs x) ∧ st = ⟨[(2, .func (.func g) 0 [.rptr l1, .rptr l2]), (3, .optr 0 0 0 0), (7, .oslice 1 0 0 N.ns.length (some N.ns.length)), (10, vb c), (31, listA 6 cnC cn0 N.cs), (32, i64 N.cs.length), (33, i64 k)], ⟨[netBlk N, ⟨1, N.ns.length, fun i => [vb (y.getD i false)], 0, false, true, false⟩], [], none, 0⟩, []⟩ ∧ mq = N.cs.length - k,
          ⟨_, _, ⟨0, x, false, by omega, hm, rfl, rfl, rfl, rfl⟩, ⟨⟨rfl, rfl, rfl, rfl⟩, ⟨⟨rfl, rfl, rfl, rfl, fun _ => rfl, fun _ _ => rfl⟩, ⟨⟨rfl, rfl, rfl, rfl, fun _ => rfl, fun _ _ => rfl⟩, trivial⟩⟩, trivial⟩⟩, ?_⟩
        rintro s0 m0 ⟨k, y, c, hk, hy, h1, h2, rfl, hmeas⟩
        by_cases hkl : k < N.cs.length
        · have hq := hr (N.cs.getD (k : Int).toNat cn0) (by simp [List.getD_eq_getElem?_getD, hkl])
          rw [sweep_drop y hkl] at h1
          rw [sweepC_drop y hkl] at h2
          have hg' := hg k hkl
          conv => whnf
          conv => whnf
          conv => whnf
          conv => whnf
          refine ifB_dec (fun w1 => ?_) (fun w1 => ?_)
          · conv => whnf
            conv => whnf
            conv => whnf
            conv => whnf
            refine ⟨⟨(by omega), (by omega)⟩, ?_⟩
            conv => whnf
            conv => whnf
            conv => whnf
            conv => whnf
            refine ⟨[], by kernel_rfl, ?_⟩
            conv => whnf
            conv => whnf
            conv => whnf
            conv => whnf
            refine .inl ⟨_, _, byX rfl (hg'), ?_⟩
            conv => whnf
            conv => whnf
            conv => whnf
            conv => whnf
            refine ifB_intro (fun w2 => ?_) (fun w2 => ?_)
            · conv => whnf
              conv => whnf
              conv => whnf
              conv => whnf
              refine ⟨⟨(by omega), (by omega)⟩, ?_⟩
              conv => whnf
              conv => whnf
              conv => whnf
              conv => whnf
              refine ⟨⟨(by omega), (by omega)⟩, ?_⟩
              conv => whnf
              conv => whnf
              conv => whnf
              conv => whnf
              refine ifB_not ?_
              conv => whnf
              conv => whnf
              conv => whnf
              conv => whnf
              refine ifB_beqB (fun w3 => ?_) (fun w3 => ?_)
              · conv => whnf
                conv => whnf
                conv => whnf
                conv => whnf
                refine ⟨inK64 (by omega) (by omega), ?_⟩
                have e : y.getD (N.cs.getD k cn0).fr.toNat false = y.getD (N.cs.getD k cn0).to.toNat false := by simpa using w3
                rw [touch_eq e] at h1 h2
                rw [e] at h2
                conv => whnf
                conv => whnf
                conv => whnf
                conv => whnf
                refine ⟨_, _, ⟨⟨k + 1, y, c, by omega, hy, by simpa using h1, by simpa using h2, rfl, rfl⟩, by omega⟩, ⟨⟨rfl, rfl, rfl, rfl⟩, ⟨⟨rfl, rfl, rfl, rfl, fun _ => rfl, fun _ _ => rfl⟩, ⟨⟨rfl, rfl, rfl, rfl, fun _ => rfl, fun _ _ => rfl⟩, trivial⟩⟩, trivial⟩⟩
              · conv => whnf
                conv => whnf
                conv => whnf
                conv => whnf
                refine ⟨[(5, 7)], by kernel_rfl, ?_⟩
                conv => whnf
                conv => whnf
                conv => whnf
                conv => whnf
                refine ⟨⟨(by omega), (by omega)⟩, ?_⟩
                refine ⟨_, fun i _ => row1 _ _ i _ (by first | omega | (simp only [List.length_set]; omega) | (simp only [List.length_replicate]; omega) | (simp only [List.length_set, List.length_replicate]; omega)), ?_⟩
                conv => whnf
                conv => whnf
                conv => whnf
                conv => whnf
                refine ⟨⟨(by omega), (by omega)⟩, ?_⟩
                refine ⟨_, fun i _ => row1 _ _ i _ (by first | omega | (simp only [List.length_set]; omega) | (simp only [List.length_replicate]; omega) | (simp only [List.length_set, List.length_replicate]; omega)), ?_⟩
                conv => whnf
                conv => whnf
                conv => whnf
                conv => whnf
                refine ⟨inK64 (by omega) (by omega), ?_⟩
                have e : ¬ y.getD (N.cs.getD k cn0).fr.toNat false = y.getD (N.cs.getD k cn0).to.toNat false := by simpa using w3
                rw [touch_ne e, if_pos w2] at h1 h2
                have e2 : (y.getD (N.cs.getD k cn0).fr.toNat false != y.getD (N.cs.getD k cn0).to.toNat false) = true := by simpa using e
                rw [e2, w2] at h2
                conv => whnf
                conv => whnf
                conv => whnf
                conv => whnf
                refine ⟨_, _, ⟨⟨k + 1, (y.set (N.cs.getD (k : Int).toNat cn0).fr.toNat true).set (N.cs.getD (k : Int).toNat cn0).to.toNat true, true, by omega, by simpa using hy, h1, by simpa using h2, rfl, rfl⟩, by omega⟩, ⟨⟨rfl, rfl, rfl, rfl⟩, ⟨⟨rfl, rfl, rfl, rfl, fun _ => rfl, fun _ _ => rfl⟩, ⟨⟨rfl, rfl, rfl, rfl, fun _ => rfl, fun _ _ => rfl⟩, trivial⟩⟩, trivial⟩⟩
            · conv => whnf
              conv => whnf
              conv => whnf
              conv => whnf
              refine ⟨inK64 (by omega) (by omega), ?_⟩
              rw [w2] at h1 h2
              conv => whnf
              conv => whnf
              conv => whnf
              conv => whnf
              refine ⟨_, _, ⟨⟨k + 1, y, c, by omega, hy, h1, by simpa using h2, rfl, rfl⟩, by omega⟩, ⟨⟨rfl, rfl, rfl, rfl⟩, ⟨⟨rfl, rfl, rfl, rfl, fun _ => rfl, fun _ _ => rfl⟩, ⟨⟨rfl, rfl, rfl, rfl, fun _ => rfl, fun _ _ => rfl⟩, trivial⟩⟩, trivial⟩⟩
          · (exfalso; omega)
        · have e : k = N.cs.length := by omega
          subst e
          rw [List.drop_length] at h1 h2
          have h1' : y = sweep use 0 N.cs x := h1
          have h2' : c = sweepC use 0 N.cs x := by rw [← h2]; simp [sweepC]
          have hs := sweep_nF use N.cs 0 x hr'
          conv => whnf
          conv => whnf
          conv => whnf
          conv => whnf
          refine ifB_dec (fun w1 => ?_) (fun w1 => ?_)
          · (exfalso; omega)
          · conv => whnf
            conv => whnf
            conv => whnf
            conv => whnf
            refine ⟨_, _, ⟨⟨y, c, hy, by rw [h1', clo_sweep hr']; exact hR, fun hc => ?_, rfl, rfl⟩, ?_⟩, ⟨⟨rfl, rfl, rfl, rfl⟩, ⟨⟨rfl, rfl, rfl, rfl, fun _ => rfl, fun _ _ => rfl⟩, ⟨⟨rfl, rfl, rfl, rfl, fun _ => rfl, fun _ _ => rfl⟩, trivial⟩⟩, trivial⟩⟩
            · have := hs.2 (h2'.symm.trans hc)
              rw [h1', this, this]
            · have := hs.1
              rw [← h2', ← h1'] at this
              cases c with
              | true => rw [if_pos rfl] at this; have t1 : true.toNat = 1 := rfl; omega
              | false => rw [if_neg nofun] at this; have t1 : true.toNat = 1 := rfl; have t0 : false.toNat = 0 := rfl; omega

/-- The index of a number; -1: none. -/
theorem idx_has (x : Int) (l : List Int) (k : Nat) : decide (idxF (fun y => x == y) k l ≥ 0) = l.contains x := by
  rw [idxF_any]
  induction l with
  | nil => rfl
  | cons y r ih => rw [List.any_cons, List.contains_cons, ih]
theorem S156 (l : List Int) (x : Int) (hl : l.length ≤ 1000000000) : SP 156 [ints l, i64 x] (i64 (idxF (fun y => x == y) 0 l)) false := by
  generalize hR : idxF (fun y => x == y) 0 l = R
  refine sound (d := 2) tok2 mixed2 Try.func156 (by kernel_rfl) (by kernel_rfl) ?_
  conv => whnf
  refine ⟨[], [0, 1, 7, 8], fun st mq => ∃ (k : Nat), (k ≤ l.length) ∧ (idxF (fun y => x == y) k (l.drop k) = R) ∧ st = ⟨[(0, ints l), (1, i64 x), (7, i64 l.length), (8, i64 k)], ⟨[], [], none, 0⟩, []⟩ ∧ mq = l.length - k,
    ⟨_, _, ⟨0, by omega, hR, rfl, rfl⟩, ⟨⟨rfl, rfl, rfl, rfl⟩, trivial, trivial⟩⟩, ?_⟩
  rintro s0 m0 ⟨k, hk, hf, rfl, hmeas⟩
  conv => whnf
  conv => whnf
  refine ifB_dec (fun w1 => ?_) (fun w1 => ?_)
  · conv => whnf
    conv => whnf
    refine ⟨⟨(by omega), (by omega)⟩, ?_⟩
    conv => whnf
    conv => whnf
    refine ifB_beq (fun w2 => ?_) (fun w2 => ?_)
    · conv => whnf
      conv => whnf
      refine ⟨?_, nofun⟩
      have h : x = l.getD k 0 := w2
      rw [idxF_drop _ l k (by omega), if_pos (by rw [← h]; exact beq_self_eq_true x)] at hf
      show i64 _ = i64 _
      rw [← hf]
    · conv => whnf
      conv => whnf
      refine ⟨inK64 (by omega) (by omega), ?_⟩
      have h : ¬ x = l.getD k 0 := w2
      rw [idxF_drop _ l k (by omega), if_neg (by simpa using h)] at hf
      conv => whnf
      conv => whnf
      refine ⟨_, _, ⟨⟨k + 1, by omega, hf, rfl, rfl⟩, by omega⟩, ⟨⟨rfl, rfl, rfl, rfl⟩, trivial, trivial⟩⟩
  · conv => whnf
    conv => whnf
    refine ⟨?_, nofun⟩
    have h : k = l.length := by omega
    subst h
    rw [List.drop_length] at hf
    show i64 _ = i64 _
    rw [← hf]; rfl
theorem S147 (l : List Int) (x : Int) (hl : l.length ≤ 1000000000) : SP 147 [ints l, i64 x] (vb (l.contains x)) false := by
  have h156 := S156 l x hl
  have e := idx_has x l 0
  refine sound (d := 2) tok2 mixed2 Try.func147 (by kernel_rfl) (by kernel_rfl) ?_
  conv => whnf
  refine .inl ⟨_, _, byX rfl (Sound1.pl (h156) rfl), ?_⟩
  conv => whnf
  refine ⟨?_, nofun⟩
  exact vbEq e
theorem S146 (N : Net) (s : List Int) (hs : s.length ≤ 1000) (i : Nat) (hi : i < N.cs.length) : SP 146 [i64 i, .rptr [listA 4 ndC nd0 N.ns, listA 6 cnC cn0 N.cs], .rptr [ints s]] (vb (useS N s i)) true := by
  have h : SP 146 [i64 i, .rptr [listA 4 ndC nd0 N.ns, listA 6 cnC cn0 N.cs], .rptr [ints s]] (vb (useS N s i)) false := by
    have h91 := S91 N i hi
    have h147 := S147 s i (by omega)
    unfold useS opnU
    refine sound (d := 2) tok2 mixed2 Try.func146 (by kernel_rfl) (by kernel_rfl) ?_
    conv => whnf
    refine .inl ⟨_, _, byX rfl (Sound1.pl (h91) rfl), ?_⟩
    conv => whnf
    refine ifB_intro (fun w1 => ?_) (fun w1 => ?_)
    · conv => whnf
      refine .inl ⟨_, _, byX rfl (Sound1.pl (h147) rfl), ?_⟩
      conv => whnf
      refine ⟨?_, nofun⟩
      exact vbEq (by rw [show (N.cs.getD i cn0).opn = true by assumption]; rfl)
    · conv => whnf
      refine ⟨?_, nofun⟩
      exact vbEq (by rw [show (N.cs.getD i cn0).opn = false by assumption]; rfl)
  exact h.pl rfl
theorem S145 (N : Net) (w : Int × Int) (s : List Int) (hs : s.length ≤ 1000) (hn : N.ns.length ≤ 1000) (hc : N.cs.length ≤ 1000) (hr : inR N.ns.length N.cs) (h1 : 0 ≤ w.1 ∧ w.1 < N.ns.length) (h2 : 0 ≤ w.2 ∧ w.2 < N.ns.length) :
    SP 145 [netV N, .agg [i64 w.1, i64 w.2], .func (.func 146) 0 [.rptr [listA 4 ndC nd0 N.ns, listA 6 cnC cn0 N.cs], .rptr [ints s]]] (vb ((clo (useS N s) N.cs (marks N.ns.length [w.1])).getD w.2.toNat false)) false := by
  have h90 := S90c N 146 [listA 4 ndC nd0 N.ns, listA 6 cnC cn0 N.cs] [ints s] (useS N s) [w.1] hn hc hr (by simpa using h1) (by simp) (S146 N s hs)
  have h90f : ∀ f : Nat → List AV, f 0 = [i64 w.1] → SP 90 [netV N, .rslice 1 1 f, .func (.func 146) 0 [.rptr [listA 4 ndC nd0 N.ns, listA 6 cnC cn0 N.cs], .rptr [ints s]]] (bools (clo (useS N s) N.cs (marks N.ns.length [w.1]))) true := fun f hf => h90.args rfl fun i y x hy hx => by
    match i, hy, hx with
    | 0, hy, hx => cases hy; cases hx; exact ave_agg2 (k := 4) (a := .rslice 4 N.ns.length _) (b := .rslice 6 N.cs.length _) ⟨rfl, rfl, fun _ _ => rfl⟩ ⟨rfl, rfl, fun _ _ => rfl⟩
    | 1, hy, hx => cases hy; cases hx; exact ⟨rfl, rfl, fun i hi => match i, hi with | 0, _ => hf⟩
    | 2, hy, hx => cases hy; cases hx; rfl
  have hl : (clo (useS N s) N.cs (marks N.ns.length [w.1])).length = N.ns.length := by rw [clo_len, marks_len]
  generalize clo (useS N s) N.cs (marks N.ns.length [w.1]) = R at *
  unfold bools at h90f
  rw [hl] at h90f
  refine sound (d := 2) tok2 mixed2 Try.func145 (by kernel_rfl) (by kernel_rfl) ?_
  conv => whnf
  refine ⟨[], by kernel_rfl, ?_⟩
  conv => whnf
  refine .inl ⟨_, _, byX rfl (h90f _ rfl), ?_⟩
  conv => whnf
  refine ⟨⟨(by omega), (by omega)⟩, ?_⟩
  conv => whnf
  refine ⟨?_, nofun⟩
  exact vbEq (by rw [Nat.zero_add])
theorem S144 (N : Net) (w : Int × Int) (s : List Int) (hs : s.length ≤ 1000) (hn : N.ns.length ≤ 1000) (hc : N.cs.length ≤ 1000) (hr : inR N.ns.length N.cs) (h1 : 0 ≤ w.1 ∧ w.1 < N.ns.length) (h2 : 0 ≤ w.2 ∧ w.2 < N.ns.length) :
    SP 144 [ints s, .rptr [listA 4 ndC nd0 N.ns, listA 6 cnC cn0 N.cs], .rptr [i64 w.1, i64 w.2]] (vb (cutB N w s)) true := by
  have h : SP 144 [ints s, .rptr [listA 4 ndC nd0 N.ns, listA 6 cnC cn0 N.cs], .rptr [i64 w.1, i64 w.2]] (vb (cutB N w s)) false := by
    have h145 := S145 N w s hs hn hc hr h1 h2
    unfold cutB
    refine sound (d := 2) tok2 mixed2 Try.func144 (by kernel_rfl) (by kernel_rfl) ?_
    conv => whnf
    refine .inl ⟨_, _, byX rfl (Sound1.pl (h145) rfl), ?_⟩
    conv => whnf
    refine ⟨?_, nofun⟩
    rfl
  exact h.pl rfl
theorem S157 (l : List Int) (hl : l.length ≤ 1000000000) : SP 157 [ints l] (.cslice 1 l.length l.length fun i => [i64 (l.getD i 0)]) false := by
  have e : ((l.length : Int) - 0).toNat = l.length := by omega
  refine sound (d := 2) tok2 mixed2 Try.func157 (by kernel_rfl) (by kernel_rfl) ?_
  conv => whnf
  refine ⟨⟨(by first | rfl | assumption), ⟨(by omega), ⟨(by omega), ⟨(by omega), (by omega)⟩⟩⟩⟩, ?_⟩
  conv => whnf
  refine ⟨?_, nofun⟩
  show AV.cslice 1 ((l.length : Int) - 0).toNat ((l.length : Int) - 0).toNat (shiftF (Int.toNat 0) fun i => [i64 (l.getD i 0)]) = _
  rw [e]; rfl

/-- Sets one after the other. -/
theorem S148 (N : Net) (w : Int × Int) (P : List Int → Bool) (hP : ∀ s : List Int, s.length ≤ 100 → SP 144 [ints s, .rptr [listA 4 ndC nd0 N.ns, listA 6 cnC cn0 N.cs], .rptr [i64 w.1, i64 w.2]] (vb (P s)) true) :
    ∀ (n : Nat) (r b : List Int), b.length + n ≤ 100 → r.length ≤ 100 → SP 148 [ints b, ints r, i64 n, .func (.func 144) 0 [.rptr [listA 4 ndC nd0 N.ns, listA 6 cnC cn0 N.cs], .rptr [i64 w.1, i64 w.2]]] (.tuple [ints (resS P r n b).1, vb (resS P r n b).2]) false := by
  intro n
  induction n with
  | zero =>
    intro r b hb hr
    have h144 := hP b (by omega)
    refine sound (d := 2) tok2 mixed2 Try.func148 (by kernel_rfl) (by kernel_rfl) ?_
    conv => whnf
    refine .inl ⟨_, _, byX rfl (h144), ?_⟩
    conv => whnf
    refine ⟨?_, nofun⟩
    exact ave_tup2 (k := 4) (ave_ints rfl fun _ _ => rfl) rfl
  | succ n ih =>
    intro r b hb hr
    generalize hR : resS P r (n + 1) b = R
    unfold resS at hR
    simp only at hR
    have h157 := S157 b (by omega)
    refine sound (d := 2) tok2 mixed2 Try.func148 (by kernel_rfl) (by kernel_rfl) ?_
    conv => whnf
    refine ⟨[], [0, 1, 2, 3, 20, 21, 22], fun st mq => ∃ (k : Nat), (k ≤ r.length) ∧ (findS P (r.drop k) (n + 1) b = findS P r (n + 1) b) ∧ st = ⟨[(0, ints b), (1, ints r), (2, i64 (n + 1)), (3, .func (.func 144) 0 [.rptr [listA 4 ndC nd0 N.ns, listA 6 cnC cn0 N.cs], .rptr [i64 w.1, i64 w.2]]), (20, ints r), (21, i64 r.length), (22, i64 k)], ⟨[], [], none, 0⟩, []⟩ ∧ mq = r.length - k,
      ⟨_, _, ⟨0, by omega, rfl, rfl, rfl⟩, ⟨⟨rfl, rfl, rfl, rfl⟩, trivial, trivial⟩⟩, ?_⟩
    rintro s0 m0 ⟨k, hk, hf, rfl, hmeas⟩
    by_cases hkl : k < r.length
    · have ihk := ih (r.drop (k + 1)) (b ++ [r.getD (k : Int).toNat 0]) (by simp; omega) (by simp; omega)
      have ihf : ∀ (p : Nat) (f : Nat → List AV) (q : Nat) (g : Nat → List AV) (c : Int), p = b.length + 1 ∧ q = r.length - (k + 1) ∧ c = n → (∀ i, i < b.length + 1 → f i = [i64 ((b ++ [r.getD (k : Int).toNat 0]).getD i 0)]) → (∀ i, i < r.length - (k + 1) → g i = [i64 (r.getD (k + 1 + i) 0)]) →
          SP 148 [.rslice 1 p f, .rslice 1 q g, i64 c, .func (.func 144) 0 [.rptr [listA 4 ndC nd0 N.ns, listA 6 cnC cn0 N.cs], .rptr [i64 w.1, i64 w.2]]] (.tuple [ints (resS P (r.drop (k + 1)) n (b ++ [r.getD (k : Int).toNat 0])).1, vb (resS P (r.drop (k + 1)) n (b ++ [r.getD (k : Int).toNat 0])).2]) false := by
        rintro p f q g c ⟨rfl, rfl, rfl⟩ hf hg
        refine ihk.args rfl fun i y x hy hx => ?_
        match i, hy, hx with
        | 0, hy, hx => cases hy; cases hx; exact ⟨rfl, by simp, hf⟩
        | 1, hy, hx => cases hy; cases hx; exact ⟨rfl, by simp, fun i hi => by rw [hg i hi]; simp [List.getD_eq_getElem?_getD]⟩
        | 2, hy, hx => cases hy; cases hx; rfl
        | 3, hy, hx => cases hy; cases hx; rfl
      rw [findS_drop hkl] at hf
      have h2 := resS_two P (r.drop (k + 1)) n (b ++ [r.getD (k : Int).toNat 0])
      generalize resS P (r.drop (k + 1)) n (b ++ [r.getD (k : Int).toNat 0]) = Q at *
      conv => whnf
      conv => whnf
      refine ifB_dec (fun w1 => ?_) (fun w1 => ?_)
      · conv => whnf
        conv => whnf
        refine ⟨⟨(by omega), (by omega)⟩, ?_⟩
        conv => whnf
        conv => whnf
        refine ⟨[(4, 8)], by kernel_rfl, ?_⟩
        conv => whnf
        conv => whnf
        refine .inl ⟨_, _, byX rfl (h157), ?_⟩
        conv => whnf
        conv => whnf
        refine ⟨⟨(by omega), (by show _ * (8 + 1) ≤ _; omega)⟩, ?_⟩
        conv => whnf
        conv => whnf
        refine ⟨inK64 (by omega) (by omega), ?_⟩
        conv => whnf
        conv => whnf
        refine ⟨⟨(by omega), ⟨(by omega), (by omega)⟩⟩, ?_⟩
        conv => whnf
        conv => whnf
        refine ⟨inK64 (by omega) (by omega), ?_⟩
        conv => whnf
        conv => whnf
        refine .inl ⟨_, _, byX rfl (ihf _ _ _ _ _ ?_ ?_ ?_), ?_⟩
        · exact ⟨rfl, by omega, by omega⟩
        · intro i hi
          have e := app_row (acc := b) rfl (r.getD (k : Int).toNat 0) i hi
          rw [Nat.zero_add] at e
          exact e.symm
        · intro i hi
          rw [shiftF_eq]
          show [i64 (r.getD (((k : Int) + 1).toNat + i) 0)] = _
          rw [show ((k : Int) + 1).toNat = k + 1 by omega]
        · conv => whnf
          conv => whnf
          refine ifB_intro (fun w2 => ?_) (fun w2 => ?_)
          · conv => whnf
            conv => whnf
            refine ⟨?_, nofun⟩
            rcases h2 with ⟨s, e1, e2⟩ | ⟨e1, e2⟩
            · rw [show r.getD (k : Int).toNat 0 = r.getD k 0 from rfl] at e1
              rw [e1] at hf
              rw [← hf] at hR
              subst hR e2
              exact ave_tup2 (k := 4) (ave_ints rfl fun _ _ => rfl) rfl
            · rw [e2] at w2; cases w2
          · conv => whnf
            conv => whnf
            refine ⟨inK64 (by omega) (by omega), ?_⟩
            rcases h2 with ⟨s, e1, e2⟩ | ⟨e1, e2⟩
            · rw [e2] at w2; cases w2
            · rw [show r.getD (k : Int).toNat 0 = r.getD k 0 from rfl] at e1
              rw [e1] at hf
              conv => whnf
              conv => whnf
              refine ⟨_, _, ⟨⟨k + 1, by omega, hf, rfl, rfl⟩, by omega⟩, ⟨⟨rfl, rfl, rfl, rfl⟩, trivial, trivial⟩⟩
      · (exfalso; omega)
    · have e : k = r.length := by omega
      subst e
      rw [List.drop_length, findS] at hf
      rw [← hf] at hR
      subst hR
      conv => whnf
      conv => whnf
      refine ifB_dec (fun w1 => ?_) (fun w1 => ?_)
      · (exfalso; omega)
      · conv => whnf
        conv => whnf
        refine ⟨?_, nofun⟩
        exact ave_tup2 (k := 4) (show (0 : Nat) = 0 from rfl) rfl

/-- The minimum cut of a net. -/
def cutR (N : Net) (w : Int × Int) : Option (List Int) := cutP (cutB N w) (valsF N)
def optL (o : Option (List Int)) : List Int × Bool := match o with
  | some s => (s, true)
  | none => ([], false)
theorem vals_row (N : Net) (k : Nat) (h : k < N.cs.length) : (N.cs.map fun c => c.valve && c.opn).getD k false = ((N.cs.getD k cn0).valve && (N.cs.getD k cn0).opn) := by simp [List.getD_eq_getElem?_getD, h]
theorem firstN_step {f : Nat → Option (List Int)} {n k : Nat} : firstN f (n + 1) k = match f k with
    | some s => some s
    | none => firstN f n (k + 1) := rfl
theorem S116 (N : Net) (w : Int × Int) (hn : N.ns.length ≤ 1000) (hc : N.cs.length ≤ 90) (hr : inR N.ns.length N.cs) (h1 : 0 ≤ w.1 ∧ w.1 < N.ns.length) (h2 : 0 ≤ w.2 ∧ w.2 < N.ns.length) :
    SP 116 [netV N, .agg [i64 w.1, i64 w.2]] (.tuple [ints (optL (cutR N w)).1, vb (optL (cutR N w)).2]) false := by
  have hP := fun s (hs : s.length ≤ 100) => S144 N w s (by omega) hn (by omega) hr h1 h2
  have h148 := fun n r b => S148 N w (cutB N w) hP n r b
  generalize hR : optL (cutR N w) = R
  unfold cutR cutP at hR
  have hvl : (valsF N).length ≤ N.cs.length := by
    have := whereF_len (N.cs.map fun c => c.valve && c.opn) 0
    rwa [List.length_map] at this
  have hv : whereF 0 (N.cs.map fun c => c.valve && c.opn) = valsF N := rfl
  refine sound (d := 2) tok2 mixed2 Try.func116 (by kernel_rfl) (by kernel_rfl) ?_
  conv => whnf
  refine ⟨[.slot 6 1], [2, 3, 6, 15, 16, 17], fun st mq => ∃ (k : Nat) (n : Nat) (a : List Int), (k ≤ N.cs.length) ∧ (a.length = n) ∧ (n ≤ k) ∧ (a ++ whereF k ((N.cs.map fun c => c.valve && c.opn).drop k) = valsF N) ∧ st = ⟨[(2, .optr 0 0 0 0), (3, .optr 1 0 0 0), (6, .oslice 2 0 0 n none), (15, listA 6 cnC cn0 N.cs), (16, i64 N.cs.length), (17, i64 k)], ⟨[⟨2, 1, fun _ => [listA 4 ndC nd0 N.ns, listA 6 cnC cn0 N.cs], 0, false, true, true⟩, ⟨2, 1, fun _ => [i64 w.1, i64 w.2], 0, false, true, true⟩, ⟨1, n, fun i => [i64 (a.getD i 0)], 0, false, true, false⟩], [], none, 0⟩, []⟩ ∧ mq = N.cs.length - k,
    ⟨_, _, ⟨0, 0, [], by omega, rfl, by omega, hv, rfl, rfl⟩, ⟨⟨rfl, rfl, rfl, rfl⟩, ⟨⟨rfl, rfl, rfl, rfl, fun _ => rfl, fun _ _ => rfl⟩, ⟨⟨rfl, rfl, rfl, rfl, fun _ => rfl, fun _ _ => rfl⟩, ⟨⟨rfl, rfl, rfl, rfl, fun _ => rfl, fun i h => absurd h (Nat.not_lt_zero i)⟩, trivial⟩⟩⟩, trivial⟩⟩, ?_⟩
  rintro s0 m0 ⟨k, n, a, hk, hn1, ha, hw, rfl, hmeas⟩
  by_cases hkl : k < N.cs.length
  · rw [whereF_drop (by simpa using hkl), vals_row N k hkl] at hw
    conv => whnf
    conv => whnf
    refine ifB_dec (fun w1 => ?_) (fun w1 => ?_)
    · conv => whnf
      conv => whnf
      refine ⟨⟨(by omega), (by omega)⟩, ?_⟩
      conv => whnf
      conv => whnf
      refine ifB_intro (fun w2 => ?_) (fun w2 => ?_)
      · conv => whnf
        conv => whnf
        refine ifB_intro (fun w3 => ?_) (fun w3 => ?_)
        · conv => whnf
          conv => whnf
          refine ⟨(by show _ * (8 + 1) ≤ _; omega), ?_⟩
          conv => whnf
          conv => whnf
          refine ⟨inK64 (by omega) (by omega), ?_⟩
          have a1 : (N.cs.getD k cn0).valve = true := by first | exact w2 | exact w3
          have a2 : (N.cs.getD k cn0).opn = true := by first | exact w2 | exact w3
          rw [a1, a2] at hw
          conv => whnf
          conv => whnf
          refine ⟨_, _, ⟨⟨k + 1, n + 1, a ++ [(k : Int)], by omega, by simpa using hn1, by omega, by simpa using hw, rfl, rfl⟩, by omega⟩, ⟨⟨rfl, rfl, rfl, rfl⟩, ⟨⟨rfl, rfl, rfl, rfl, fun _ => rfl, fun _ _ => rfl⟩, ⟨⟨rfl, rfl, rfl, rfl, fun _ => rfl, fun _ _ => rfl⟩, ⟨⟨rfl, rfl, rfl, rfl, fun _ => rfl, fun i h => app_row hn1 _ i h⟩, trivial⟩⟩⟩, trivial⟩⟩
        · conv => whnf
          conv => whnf
          refine ⟨inK64 (by omega) (by omega), ?_⟩
          have a2 : (N.cs.getD k cn0).opn = false := by first | exact w2 | exact w3
          rw [a2, Bool.and_false] at hw
          conv => whnf
          conv => whnf
          refine ⟨_, _, ⟨⟨k + 1, n, a, by omega, hn1, by omega, hw, rfl, rfl⟩, by omega⟩, ⟨⟨rfl, rfl, rfl, rfl⟩, ⟨⟨rfl, rfl, rfl, rfl, fun _ => rfl, fun _ _ => rfl⟩, ⟨⟨rfl, rfl, rfl, rfl, fun _ => rfl, fun _ _ => rfl⟩, ⟨⟨rfl, rfl, rfl, rfl, fun _ => rfl, fun _ _ => rfl⟩, trivial⟩⟩⟩, trivial⟩⟩
      · conv => whnf
        conv => whnf
        refine ⟨inK64 (by omega) (by omega), ?_⟩
        have a2 : (N.cs.getD k cn0).valve = false := by first | exact w2 | exact w3
        rw [a2, Bool.false_and] at hw
        conv => whnf
        conv => whnf
        refine ⟨_, _, ⟨⟨k + 1, n, a, by omega, hn1, by omega, hw, rfl, rfl⟩, by omega⟩, ⟨⟨rfl, rfl, rfl, rfl⟩, ⟨⟨rfl, rfl, rfl, rfl, fun _ => rfl, fun _ _ => rfl⟩, ⟨⟨rfl, rfl, rfl, rfl, fun _ => rfl, fun _ _ => rfl⟩, ⟨⟨rfl, rfl, rfl, rfl, fun _ => rfl, fun _ _ => rfl⟩, trivial⟩⟩⟩, trivial⟩⟩
    · (exfalso; omega)
  · have e : k = N.cs.length := by omega
    subst e
    rw [List.drop_eq_nil_of_le (by simp), whereF, List.append_nil] at hw
    subst hw
    subst hn1
    generalize hF : (fun n => findS (cutB N w) (valsF N) n []) = F at hR
    have h148f : ∀ j : Nat, j ≤ (valsF N).length → SP 148 [.eslice, ints (valsF N), i64 j, .func (.func 144) 0 [.rptr [listA 4 ndC nd0 N.ns, listA 6 cnC cn0 N.cs], .rptr [i64 w.1, i64 w.2]]] (.tuple [ints (resS (cutB N w) (valsF N) j []).1, vb (resS (cutB N w) (valsF N) j []).2]) false := fun j hj =>
      (h148 j (valsF N) [] (by rw [List.length_nil]; omega) (by omega)).args rfl fun i y x hy hx => by
        match i, hy, hx with
        | 0, hy, hx => cases hy; cases hx; exact (show (0 : Nat) = 0 from rfl)
        | 1, hy, hx => cases hy; cases hx; exact ⟨rfl, rfl, fun _ _ => rfl⟩
        | 2, hy, hx => cases hy; cases hx; rfl
        | 3, hy, hx => cases hy; cases hx; rfl
    have h2 := resS_two (cutB N w) (valsF N)
    generalize valsF N = V at *
    conv => whnf
    conv => whnf
    refine ifB_dec (fun w1 => ?_) (fun w1 => ?_)
    · (exfalso; omega)
    · conv => whnf
      conv => whnf
      refine ⟨inK64 (by omega) (by omega), ?_⟩
      conv => whnf
      conv => whnf
      refine ⟨[], [6, 9, 36, 37], fun st mq => ∃ (k : Nat) (o : Bool), (k ≤ V.length + 1) ∧ (firstN F (V.length + 1 - k) k = firstN F (V.length + 1) 0) ∧ st = ⟨[(6, .oslice 2 0 0 V.length none), (9, .func (.func 144) 0 [.optr 0 0 0 0, .optr 1 0 0 0]), (36, i64 (V.length + 1)), (37, i64 k)], ⟨[⟨2, 1, fun _ => [listA 4 ndC nd0 N.ns, listA 6 cnC cn0 N.cs], 0, o, true, true⟩, ⟨2, 1, fun _ => [i64 w.1, i64 w.2], 0, o, true, true⟩, ⟨1, V.length, fun i => [i64 (V.getD i 0)], 0, o, true, false⟩], [], none, 0⟩, []⟩ ∧ mq = V.length + 1 - k,
        ⟨_, _, ⟨0, false, by omega, rfl, rfl, rfl⟩, ⟨⟨rfl, rfl, rfl, rfl⟩, ⟨⟨rfl, rfl, rfl, rfl, fun _ => rfl, fun _ _ => rfl⟩, ⟨⟨rfl, rfl, rfl, rfl, fun _ => rfl, fun _ _ => rfl⟩, ⟨⟨rfl, rfl, rfl, rfl, fun _ => rfl, fun _ _ => rfl⟩, trivial⟩⟩⟩, trivial⟩⟩, ?_⟩
      rintro s0 m0 ⟨k, o, hk, hf, rfl, hmeas⟩
      by_cases hkl : k < V.length + 1
      · have h148k := h148f k (by omega)
        have h2 := h2 k []
        rw [show V.length + 1 - k = (V.length - k) + 1 by omega, firstN_step] at hf
        have hFk : F k = findS (cutB N w) V k [] := by rw [← hF]
        rw [hFk] at hf
        generalize resS (cutB N w) V k [] = Q at *
        conv => whnf
        conv => whnf
        conv => whnf
        refine ifB_dec (fun w2 => ?_) (fun w2 => ?_)
        · conv => whnf
          conv => whnf
          conv => whnf
          refine .inl ⟨_, _, byX rfl (h148k), ?_⟩
          conv => whnf
          conv => whnf
          conv => whnf
          refine ifB_intro (fun w3 => ?_) (fun w3 => ?_)
          · conv => whnf
            conv => whnf
            conv => whnf
            refine ⟨?_, nofun⟩
            rcases h2 with ⟨s, e1, e2⟩ | ⟨e1, e2⟩
            · rw [e1] at hf
              rw [← hf] at hR
              subst hR e2
              exact ave_tup2 (k := 4) (ave_ints rfl fun _ _ => rfl) rfl
            · exfalso
              have w := e2.symm.trans (show Q.2 = true by assumption)
              cases w
          · conv => whnf
            conv => whnf
            conv => whnf
            refine ⟨inK64 (by omega) (by omega), ?_⟩
            rcases h2 with ⟨s, e1, e2⟩ | ⟨e1, e2⟩
            · exfalso
              have w : Q.2 = false := by assumption
              rw [e2] at w; cases w
            · rw [e1] at hf
              have hf2 : firstN F (V.length + 1 - (k + 1)) (k + 1) = firstN F (V.length + 1) 0 := by rw [show V.length + 1 - (k + 1) = V.length - k by omega]; exact hf
              conv => whnf
              conv => whnf
              conv => whnf
              refine ⟨_, _, ⟨⟨k + 1, true, by omega, hf2, rfl, rfl⟩, by omega⟩, ⟨⟨rfl, rfl, rfl, rfl⟩, ⟨⟨rfl, rfl, rfl, rfl, fun _ => rfl, fun _ _ => rfl⟩, ⟨⟨rfl, rfl, rfl, rfl, fun _ => rfl, fun _ _ => rfl⟩, ⟨⟨rfl, rfl, rfl, rfl, fun _ => rfl, fun _ _ => rfl⟩, trivial⟩⟩⟩, trivial⟩⟩
        · (exfalso; omega)
      · have e : k = V.length + 1 := by omega
        subst e
        rw [Nat.sub_self, firstN] at hf
        rw [← hf] at hR
        subst hR
        conv => whnf
        conv => whnf
        conv => whnf
        refine ifB_dec (fun w2 => ?_) (fun w2 => ?_)
        · (exfalso; omega)
        · conv => whnf
          conv => whnf
          conv => whnf
          refine ⟨?_, nofun⟩
          exact ave_tup2 (k := 4) (show (0 : Nat) = 0 from rfl) rfl
end Go.Tr

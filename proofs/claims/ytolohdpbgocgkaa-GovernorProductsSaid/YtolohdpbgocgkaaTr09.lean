/- The law GovernorProducts returns true. Conditions: none. -/
import Derived.Test.YtolohdpbgocgkaaTr08
import Derived.Test.YtolohdpbgocgkaaTr06
import Derived.ProofKit
set_option linter.unusedSectionVars false
set_option linter.unnecessarySimpa false
set_option linter.unusedVariables false
set_option linter.unusedSimpArgs false

-- seat Ytolohdpbgocgkaa
namespace Go.Tr
open Go Go.Proofs
set_option maxRecDepth 20000
set_option maxHeartbeats 8000000

theorem S5w (l : List Int) (hl : l.length ≤ 9223372036854775807) : SP 5 [ints l] (i64 (polyE l)) false := by
  by_cases h : l.length ≤ 1000000
  · exact S5 l h
  · have h97 := S18 l.length
    have hs : shapeE l.length = 8 := by unfold shapeE; (repeat' split) <;> omega
    have hp : polyE l = 8 := by unfold polyE; rw [hs, if_pos (by decide)]
    rw [hs] at h97
    rw [hp]
    refine sound (d := 2) tok2 mixed2 Try.func5 (by kernel_rfl) (by kernel_rfl) ?_
    conv => whnf
    refine .inl ⟨_, _, byX rfl (Sound1.pl (h97) rfl), ?_⟩
    conv => whnf
    refine ⟨?_, nofun⟩
    rfl
def posB (l : List Int) : Bool := l.all fun x => decide (0 < x)
theorem S8 (l : List Int) (hl : l.length ≤ 1000000) : SP 8 [ints l] (vb (posB l)) false := by
  refine sound (d := 2) tok2 mixed2 Try.func8 (by kernel_rfl) (by kernel_rfl) ?_
  conv => whnf
  refine ⟨[], [0, 3], fun st mq => ∃ (k : Nat), (k ≤ l.length) ∧ (posB (l.drop k) = posB l) ∧ st = ⟨[(0, ints l), (3, i64 k)], ⟨[], [], none, 0⟩, []⟩ ∧ mq = l.length - k,
    ⟨_, _, ⟨0, by omega, rfl, rfl, rfl⟩, ⟨⟨.inl rfl, rfl, rfl, rfl⟩, trivial, trivial⟩⟩, ?_⟩
  rintro s0 m0 ⟨k, hk, h, rfl, hmeas⟩
  by_cases hlt : k < l.length
  · have hd : posB (l.drop k) = (decide (0 < l.getD k 0) && posB (l.drop (k + 1))) := by
      have e : l.getD k 0 = l[k] := by simp [List.getD_eq_getElem?_getD, hlt]
      rw [List.drop_eq_getElem_cons hlt, e]
      rfl
    conv => whnf
    conv => whnf
    refine ifB_dec (fun w1 => ?_) (fun w1 => ?_)
    · conv => whnf
      conv => whnf
      refine ⟨⟨(by omega), (by omega)⟩, ?_⟩
      conv => whnf
      conv => whnf
      refine ifB_dec (fun w2 => ?_) (fun w2 => ?_)
      · conv => whnf
        conv => whnf
        refine ⟨?_, nofun⟩
        have w2 : l.getD k 0 ≤ 0 := w2
        rw [decide_eq_false (by omega), Bool.false_and] at hd
        exact endb (by rw [← h, hd])
      · conv => whnf
        conv => whnf
        refine ⟨inK64 (by omega) (by omega), ?_⟩
        have w2 : ¬ l.getD k 0 ≤ 0 := w2
        rw [decide_eq_true (by omega), Bool.true_and] at hd
        conv => whnf
        conv => whnf
        refine ⟨_, _, ⟨⟨k + 1, by omega, hd.symm.trans h, rfl, rfl⟩, by omega⟩, ⟨⟨.inl rfl, rfl, rfl, rfl⟩, trivial, trivial⟩⟩
    · (exfalso; omega)
  · have e : k = l.length := by omega
    subst e
    rw [List.drop_length] at h
    conv => whnf
    conv => whnf
    refine ifB_dec (fun w1 => ?_) (fun w1 => ?_)
    · (exfalso; omega)
    · conv => whnf
      conv => whnf
      refine ⟨?_, nofun⟩
      exact endb (by rw [← h]; rfl)
/-- The product, as the law makes it. -/
def inG (x : Int) (b : List Int) : Nat → Nat → Nat → List Int → List Int
  | 0, _, _, X => X
  | r + 1, i, k, X => inG x b r i (k + 1) (X.set (i + k) (X.getD (i + k) 0 + x * b.getD k 0))
def ouG (a b : List Int) : Nat → Nat → List Int → List Int
  | 0, _, X => X
  | r + 1, i, X => ouG a b r (i + 1) (inG (a.getD i 0) b b.length i 0 X)
abbrev mulN (a b : List Int) : Nat := ((a.length : Int) + b.length - 1).toNat
def mulP (a b : List Int) : List Int := ouG a b a.length 0 (List.replicate (mulN a b) 0)
theorem stab_posB {a : List Int} (h : a.length = 2 ∨ a.length = 3) : stabB a = posB a := by
  rw [Bool.eq_iff_iff]
  match a, h with
  | [x, y], _ => rw [st2]; simp [posB]
  | [x, y, z], _ => rw [st3]; simp [posB]
  | [], h => simp at h
  | [_], h => simp at h
  | _ :: _ :: _ :: _ :: _, h => simp at h
theorem stab_mul {a b : List Int} (h : a.length = 2 ∨ a.length = 3) (h' : b.length = 2 ∨ b.length = 3) (pa : 0 < a.getD 0 0) (pb : 0 < b.getD 0 0) : stabB (mulP a b) = (stabB a && stabB b) := by
  rw [Bool.eq_iff_iff, Bool.and_eq_true]
  match a, b, h, h', pa, pb with
  | [a0, a1], [b0, b1], _, _, pa, pb =>
    have pa : 0 < a0 := pa
    have pb : 0 < b0 := pb
    have e : mulP [a0, a1] [b0, b1] = [a0 * b0, a0 * b1 + a1 * b0, a1 * b1] := by simp [mulP, ouG, inG, List.replicate]
    have := Int.mul_pos pa pb
    have h := pr11 (a1 := a1) (b1 := b1) pa pb
    rw [e, st3, st2, st2]
    omega
  | [a0, a1], [b0, b1, b2], _, _, pa, pb =>
    have pa : 0 < a0 := pa
    have pb : 0 < b0 := pb
    have e : mulP [a0, a1] [b0, b1, b2] = [a0 * b0, a0 * b1 + a1 * b0, a0 * b2 + a1 * b1, a1 * b2] := by simp [mulP, ouG, inG, List.replicate]
    have := Int.mul_pos pa pb
    have h := pr12 (a1 := a1) (b1 := b1) (b2 := b2) pa pb
    rw [e, st4, st2, st3]
    omega
  | [a0, a1, a2], [b0, b1], _, _, pa, pb =>
    have pa : 0 < a0 := pa
    have pb : 0 < b0 := pb
    have e : mulP [a0, a1, a2] [b0, b1] = [b0 * a0, b0 * a1 + b1 * a0, b0 * a2 + b1 * a1, b1 * a2] := by
      simp [mulP, ouG, inG, List.replicate]
      grind
    have := Int.mul_pos pb pa
    have h := pr12 (a1 := b1) (b1 := a1) (b2 := a2) pb pa
    rw [e, st4, st2, st3]
    omega
  | [a0, a1, a2], [b0, b1, b2], _, _, pa, pb =>
    have pa : 0 < a0 := pa
    have pb : 0 < b0 := pb
    have e : mulP [a0, a1, a2] [b0, b1, b2] = [a0 * b0, a0 * b1 + a1 * b0, a0 * b2 + a1 * b1 + a2 * b0, a1 * b2 + a2 * b1, a2 * b2] := by
      simp [mulP, ouG, inG, List.replicate]
    have := Int.mul_pos pa pb
    have h := pr22 (a1 := a1) (a2 := a2) (b1 := b1) (b2 := b2) pa pb
    rw [e, st5, st3, st3]
    omega
  | [], _, h, _, _, _ => simp at h
  | [_], _, h, _, _, _ => simp at h
  | _ :: _ :: _ :: _ :: _, _, h, _, _, _ => simp at h
  | _, [], _, h, _, _ => simp at h
  | _, [_], _, h, _, _ => simp at h
  | _, _ :: _ :: _ :: _ :: _, _, h, _, _ => simp at h
theorem ints_n' {P : List Int} {n : Nat} (h : P.length = n) : ints P = .rslice 1 n fun i => [i64 (P.getD i 0)] := by
  subst h; rfl
theorem S3 (a b : List Int) (ha : a.length ≤ 9223372036854775807) (hb : b.length ≤ 9223372036854775807) : SP 3 [ints a, ints b] (vb true) false := by
  have h5a := S5w a ha
  have h5b := S5w b hb
  by_cases h0 : polyE a = 0 ∧ polyE b = 0 ∧ a.length ≤ 3 ∧ b.length ≤ 3
  · obtain ⟨a0, b0, a3, b3⟩ := h0
    have pa := PolyOk.of a0
    have pb := PolyOk.of b0
    have pa2 := pa.p2
    have pb2 := pb.p2
    rw [a0] at h5a
    rw [b0] at h5b
    have hmn : mulN a b = a.length + b.length - 1 := by unfold mulN; omega
    have hb8 : Try.prog.types[3].bytes = 8 := by kernel_rfl
    refine sound (d := 2) tok2 mixed2 Try.func3 (by kernel_rfl) (by kernel_rfl) ?_
    conv => whnf
    refine .inl ⟨_, _, byX rfl (Sound1.pl (S4) rfl), ?_⟩
    conv => whnf
    refine .inl ⟨_, _, byX rfl (Sound1.pl (h5a) rfl), ?_⟩
    conv => whnf
    refine .inl ⟨_, _, byX rfl (Sound1.pl (h5b) rfl), ?_⟩
    conv => whnf
    refine ifB_dec (fun w1 => ?_) (fun w1 => ?_)
    · (exfalso; omega)
    · conv => whnf
      refine ifB_dec (fun w2 => ?_) (fun w2 => ?_)
      · (exfalso; omega)
      · conv => whnf
        refine ⟨inK64 (by omega) (by omega), ?_⟩
        conv => whnf
        refine ⟨inK64 (by omega) (by omega), ?_⟩
        conv => whnf
        refine ⟨⟨(by omega), ⟨(by omega), ⟨(by omega), (by show _ * ((8 : Nat) : Int) ≤ _; omega)⟩⟩⟩, ?_⟩
        conv => whnf
        refine ⟨[], [0, 1, 5, 6], fun st mq => ∃ (i : Nat) (r : Nat) (X : List Int) (u : Nat), (i + r = a.length) ∧ (X.length = mulN a b) ∧ (Sml (1000000 * u) X) ∧ (u ≤ 3 * i) ∧ (ouG a b r i X = mulP a b) ∧ st = ⟨[(0, ints a), (1, ints b), (5, .oslice 0 0 0 (mulN a b) (some (mulN a b))), (6, i64 i)], ⟨[⟨1, mulN a b, fun i => [i64 (X.getD i 0)], 0, false, true, false⟩], [], none, 0⟩, []⟩ ∧ mq = r,
          ⟨_, _, ⟨0, a.length, List.replicate (mulN a b) 0, 0, by omega, by simp, (fun x hx => by rw [List.eq_of_mem_replicate hx]; simp), by omega, rfl, rfl, rfl⟩, ⟨⟨.inl rfl, rfl, rfl, rfl⟩, ⟨⟨rfl, rfl, rfl, rfl, fun _ => rfl, fun i hi => .inl ((rep_row hi).trans rfl)⟩, trivial⟩, trivial⟩⟩, ?_⟩
        rintro s0 m0 ⟨i, r, X, u, hi, hX, hS, hu, hG, rfl, hmeas⟩
        by_cases hr : r = 0
        · subst hr
          have hP : X = mulP a b := hG
          have h7a := S7 a (by omega)
          have h7b := S7 b (by omega)
          have h6a := S6 a (by omega)
          have h6b := S6 b (by omega)
          have h8a := S8 a (by omega)
          have h8b := S8 b (by omega)
          have h5x := S5w X (by omega)
          have h6x := S6 X (by omega)
          rw [ints_n' hX] at h5x h6x
          have sa := stab_posB (a := a) (by omega)
          have sb := stab_posB (a := b) (by omega)
          have sx := stab_mul (a := a) (b := b) (by omega) (by omega) pa.p0 pb.p0
          rw [a0, if_pos rfl, sa] at h6a
          rw [b0, if_pos rfl, sb] at h6b
          rw [sa, sb, ← hP] at sx
          by_cases hx0 : polyE X = 0
          · rw [hx0, if_pos rfl, sx] at h6x
            rw [hx0] at h5x
            conv => whnf
            conv => whnf
            refine ifB_dec (fun w3 => ?_) (fun w3 => ?_)
            · (exfalso; omega)
            · conv => whnf
              conv => whnf
              refine .inl ⟨_, _, byX rfl (h7a), ?_⟩
              conv => whnf
              conv => whnf
              refine .inl ⟨_, _, byX rfl (Sound1.pl (h6a) rfl), ?_⟩
              conv => whnf
              conv => whnf
              refine .inl ⟨_, _, byX rfl (h7b), ?_⟩
              conv => whnf
              conv => whnf
              refine .inl ⟨_, _, byX rfl (Sound1.pl (h6b) rfl), ?_⟩
              conv => whnf
              conv => whnf
              refine .inl ⟨_, _, byX rfl (Sound1.pl (h8a) rfl), ?_⟩
              conv => whnf
              conv => whnf
              refine ifB_not ?_
              conv => whnf
              conv => whnf
              refine ifB_beqB (fun w4 => ?_) (fun w4 => ?_)
              · conv => whnf
                conv => whnf
                refine .inl ⟨_, _, byX rfl (Sound1.pl (h8b) rfl), ?_⟩
                conv => whnf
                conv => whnf
                refine ifB_not ?_
                conv => whnf
                conv => whnf
                refine ifB_beqB (fun w5 => ?_) (fun w5 => ?_)
                · conv => whnf
                  conv => whnf
                  refine .inl ⟨_, _, byX rfl (Sound1.pl (h5x) rfl), ?_⟩
                  conv => whnf
                  conv => whnf
                  refine .inl ⟨_, _, byX rfl (Sound1.pl (h6x) rfl), ?_⟩
                  conv => whnf
                  conv => whnf
                  refine ifB_intro (fun w6 => ?_) (fun w6 => ?_)
                  · conv => whnf
                    conv => whnf
                    refine ⟨?_, nofun⟩
                    (exact endb (by cases e1 : posB a <;> cases e2 : posB b <;> simp_all))
                  · conv => whnf
                    conv => whnf
                    refine ⟨?_, nofun⟩
                    (exact endb (by cases e1 : posB a <;> cases e2 : posB b <;> simp_all))
                · exact absurd rfl w5
              · exact absurd rfl w4
          · conv => whnf
            conv => whnf
            refine ifB_dec (fun w3 => ?_) (fun w3 => ?_)
            · (exfalso; omega)
            · conv => whnf
              conv => whnf
              refine .inl ⟨_, _, byX rfl (h7a), ?_⟩
              conv => whnf
              conv => whnf
              refine .inl ⟨_, _, byX rfl (Sound1.pl (h6a) rfl), ?_⟩
              conv => whnf
              conv => whnf
              refine .inl ⟨_, _, byX rfl (h7b), ?_⟩
              conv => whnf
              conv => whnf
              refine .inl ⟨_, _, byX rfl (Sound1.pl (h6b) rfl), ?_⟩
              conv => whnf
              conv => whnf
              refine .inl ⟨_, _, byX rfl (Sound1.pl (h8a) rfl), ?_⟩
              conv => whnf
              conv => whnf
              refine ifB_not ?_
              conv => whnf
              conv => whnf
              refine ifB_beqB (fun w4 => ?_) (fun w4 => ?_)
              · conv => whnf
                conv => whnf
                refine .inl ⟨_, _, byX rfl (Sound1.pl (h8b) rfl), ?_⟩
                conv => whnf
                conv => whnf
                refine ifB_not ?_
                conv => whnf
                conv => whnf
                refine ifB_beqB (fun w5 => ?_) (fun w5 => ?_)
                · conv => whnf
                  conv => whnf
                  refine .inl ⟨_, _, byX rfl (Sound1.pl (h5x) rfl), ?_⟩
                  conv => whnf
                  conv => whnf
                  refine ifB_bne (fun w6 => ?_) (fun w6 => ?_)
                  · conv => whnf
                    conv => whnf
                    refine ⟨?_, nofun⟩
                    rfl
                  · (exfalso; omega)
                · exact absurd rfl w5
              · exact absurd rfl w4
        · obtain ⟨q, rfl⟩ : ∃ q, r = q + 1 := ⟨r - 1, by omega⟩
          have hG2 : ouG a b q (i + 1) (inG (a.getD i 0) b b.length i 0 X) = mulP a b := hG
          conv => whnf
          conv => whnf
          refine ifB_dec (fun w3 => ?_) (fun w3 => ?_)
          · conv => whnf
            conv => whnf
            refine ⟨[], [0, 1, 5, 6, 7], fun st mq => ∃ (k : Nat) (m : Nat) (Y : List Int) (v : Nat), (k + m = b.length) ∧ (Y.length = mulN a b) ∧ (Sml (1000000 * v) Y) ∧ (v ≤ 3 * i + k) ∧ (inG (a.getD i 0) b m i k Y = inG (a.getD i 0) b b.length i 0 X) ∧ st = ⟨[(0, ints a), (1, ints b), (5, .oslice 0 0 0 (mulN a b) (some (mulN a b))), (6, i64 i), (7, i64 k)], ⟨[⟨1, mulN a b, fun i => [i64 (Y.getD i 0)], 0, false, true, false⟩], [], none, 0⟩, []⟩ ∧ mq = m,
              ⟨_, _, ⟨0, b.length, X, u, by omega, hX, hS, by omega, rfl, rfl, rfl⟩, ⟨⟨.inl rfl, rfl, rfl, rfl⟩, ⟨⟨rfl, rfl, rfl, rfl, fun _ => rfl, fun _ _ => .inl rfl⟩, trivial⟩, trivial⟩⟩, ?_⟩
            rintro s0 m0 ⟨k, m, Y, v, hk, hY, hT, hv, hM, rfl, hmeas⟩
            by_cases hm : m = 0
            · subst hm
              have hM2 : Y = inG (a.getD i 0) b b.length i 0 X := hM
              conv => whnf
              conv => whnf
              conv => whnf
              refine ifB_dec (fun w4 => ?_) (fun w4 => ?_)
              · (exfalso; omega)
              · conv => whnf
                conv => whnf
                conv => whnf
                refine ⟨inK64 (by omega) (by omega), ?_⟩
                conv => whnf
                conv => whnf
                conv => whnf
                refine ⟨_, _, ⟨⟨i + 1, q, Y, v, by omega, hY, hT, by omega, (by rw [hM2]; exact hG2), rfl, rfl⟩, by omega⟩, ⟨⟨.inl rfl, rfl, rfl, rfl⟩, ⟨⟨rfl, rfl, rfl, rfl, fun _ => rfl, fun _ _ => .inl rfl⟩, trivial⟩, trivial⟩⟩
            · obtain ⟨w, rfl⟩ : ∃ w, m = w + 1 := ⟨m - 1, by omega⟩
              have e1 : 0 + ((i : Int) + k).toNat = i + k := by omega
              have b1 : (Y.getD (i + k) 0).natAbs ≤ 1000000 * v := ent_sml hT (i + k)
              have b2 : (a.getD (i : Int).toNat 0).natAbs ≤ 1000 := ent_sml pa.ps i
              have b3 : (b.getD (k : Int).toNat 0).natAbs ≤ 1000 := ent_sml pb.ps k
              have b4 := mul_sml b2 b3
              rw [← e1] at b1
              have hn : Sml (1000000 * (v + 1)) (Y.set ((i : Int) + k).toNat (Y.getD (0 + ((i : Int) + k).toNat) 0 + a.getD (i : Int).toNat 0 * b.getD (k : Int).toNat 0)) := fun x hx => by
                rcases List.mem_or_eq_of_mem_set hx with hx | hx
                · have := hT x hx; omega
                · rw [hx]; omega
              have hM3 : inG (a.getD i 0) b w i (k + 1) (Y.set ((i : Int) + k).toNat (Y.getD (0 + ((i : Int) + k).toNat) 0 + a.getD (i : Int).toNat 0 * b.getD (k : Int).toNat 0)) = inG (a.getD i 0) b b.length i 0 X := by
                rw [e1, show ((i : Int) + k).toNat = i + k by omega]
                exact hM
              conv => whnf
              conv => whnf
              conv => whnf
              refine ifB_dec (fun w4 => ?_) (fun w4 => ?_)
              · conv => whnf
                conv => whnf
                conv => whnf
                refine ⟨[], by kernel_rfl, ?_⟩
                conv => whnf
                conv => whnf
                conv => whnf
                refine ⟨inK64 (by omega) (by omega), ?_⟩
                conv => whnf
                conv => whnf
                conv => whnf
                refine ⟨inK64 (by omega) (by omega), ?_⟩
                conv => whnf
                conv => whnf
                conv => whnf
                refine ⟨⟨(by omega), (by omega)⟩, ?_⟩
                conv => whnf
                conv => whnf
                conv => whnf
                refine ⟨⟨(by omega), (by omega)⟩, ?_⟩
                conv => whnf
                conv => whnf
                conv => whnf
                refine ⟨⟨(by omega), (by omega)⟩, ?_⟩
                conv => whnf
                conv => whnf
                conv => whnf
                refine ⟨inK64 (by omega) (by omega), ?_⟩
                conv => whnf
                conv => whnf
                conv => whnf
                refine ⟨inK64 (by omega) (by omega), ?_⟩
                conv => whnf
                conv => whnf
                conv => whnf
                refine ⟨⟨(by omega), (by omega)⟩, ?_⟩
                refine ⟨_, fun i _ => rowI _ _ i _ (by first | omega | (simp only [List.length_set]; omega) | (simp only [List.length_replicate]; omega) | (simp only [List.length_set, List.length_replicate]; omega)), ?_⟩
                conv => whnf
                conv => whnf
                conv => whnf
                refine ⟨inK64 (by omega) (by omega), ?_⟩
                conv => whnf
                conv => whnf
                conv => whnf
                refine ⟨_, _, ⟨⟨k + 1, w, Y.set ((i : Int) + k).toNat (Y.getD (0 + ((i : Int) + k).toNat) 0 + a.getD (i : Int).toNat 0 * b.getD (k : Int).toNat 0), v + 1, by omega, (by rw [List.length_set]; exact hY), hn, by omega, hM3, rfl, rfl⟩, by omega⟩, ⟨⟨.inl rfl, rfl, rfl, rfl⟩, ⟨⟨rfl, rfl, rfl, rfl, fun _ => rfl, fun _ _ => .inl rfl⟩, trivial⟩, trivial⟩⟩
              · (exfalso; omega)
          · (exfalso; omega)
  · refine sound (d := 2) tok2 mixed2 Try.func3 (by kernel_rfl) (by kernel_rfl) ?_
    conv => whnf
    refine .inl ⟨_, _, byX rfl (Sound1.pl (S4) rfl), ?_⟩
    conv => whnf
    refine .inl ⟨_, _, byX rfl (Sound1.pl (h5a) rfl), ?_⟩
    conv => whnf
    refine ifB_bne (fun w1 => ?_) (fun w1 => ?_)
    · conv => whnf
      refine ⟨?_, nofun⟩
      (first | rfl | (exfalso; exact h0 (by omega)))
    · conv => whnf
      refine .inl ⟨_, _, byX rfl (Sound1.pl (h5b) rfl), ?_⟩
      conv => whnf
      refine ifB_bne (fun w2 => ?_) (fun w2 => ?_)
      · conv => whnf
        refine ⟨?_, nofun⟩
        (first | rfl | (exfalso; exact h0 (by omega)))
      · conv => whnf
        refine ifB_dec (fun w3 => ?_) (fun w3 => ?_)
        · conv => whnf
          refine ⟨?_, nofun⟩
          (first | rfl | (exfalso; exact h0 (by omega)))
        · conv => whnf
          refine ifB_dec (fun w4 => ?_) (fun w4 => ?_)
          · conv => whnf
            refine ⟨?_, nofun⟩
            (first | rfl | (exfalso; exact h0 (by omega)))
          · (exfalso; omega)
end Go.Tr

/- The opening of a law: what an argument reads as, as abstract values, with its shape. Conditions: types of numbers, truth values, strings, slices, structs and arrays. -/
namespace Go.Tr
open Go Go.RowKit

def V2 (P : Program) (w : World) (q : Nat → Prop) : List AV → List Value → Prop
  | [], [] => True
  | x :: xs, v :: vs => (VT P w q x v ∧ v.oneCell' = true) ∧ V2 P w q xs vs
  | _, _ => False

def All2 {α β : Type} (p : α → β → Prop) : List α → List β → Prop
  | [], [] => True
  | x :: xs, y :: ys => p x y ∧ All2 p xs ys
  | _, _ => False

/-- The shape of what a type's cells read as. -/
def TyC (P : Program) : Nat → TypeId → List AV → Prop
  | 0, _, _ => True
  | m + 1, t, xs => match P.underlying t with
    | some .bool => ∃ b, xs = [.val (.bool b)]
    | some (.int k) => ∃ n, xs = [.val (.int k n)] ∧ inK k n
    | some .string => ∃ s : ByteArray, xs = [.val (.string s)] ∧ s.size ≤ 9223372036854775807
    | some (.slice e) => ∃ len f, xs = [.rslice (P.cellsOf e) len f] ∧ len ≤ 9223372036854775807 ∧ ∀ i, i < len → TyC P m e (f i)
    | some (.struct fs) => ∃ ps : List (List AV), xs = ps.flatten ∧ All2 (fun f p => TyC P m f.type p) fs.toList ps
    | some (.array n e) => ∃ ps : List (List AV), xs = ps.flatten ∧ ps.length = n ∧ ∀ p ∈ ps, TyC P m e p
    | _ => False

def layF (P : Program) (g : TypeId → Bool) : List Field → Nat → Nat → Bool
  | [], off, tot => Nat.beq off tot
  | f :: r, off, tot => Nat.beq f.offset off && g f.type && layF P g r (off + P.cellsOf f.type) tot

/-- Types that are covered, laid out part behind part. -/
def lay (P : Program) : Nat → TypeId → Bool
  | 0, _ => false
  | m + 1, t => match P.underlying t with
    | some .bool | some (.int _) | some .string => true
    | some (.slice e) => Nat.blt 0 (P.cellsOf e) && lay P m e
    | some (.struct fs) => layF P (lay P m) fs.toList 0 (P.cellsOf t)
    | some (.array n e) => Nat.beq (P.cellsOf t) (n * P.cellsOf e) && lay P m e
    | _ => false

section
variable {H : Type} {enc : TypeId × Value → H} {P : Program} {w : World} {spare : Nat → Bool} {held : Bool} {q : Nat → Prop}

theorem V2_len : ∀ {xs : List AV} {vs : List Value}, V2 P w q xs vs → xs.length = vs.length
  | [], [], _ => rfl
  | x :: xs, v :: vs, h => by simp [V2_len h.2]
  | [], _ :: _, h => h.elim
  | _ :: _, [], h => h.elim

theorem V2_append : ∀ {xs : List AV} {vs : List Value} {ys : List AV} {us : List Value}, V2 P w q xs vs → V2 P w q ys us → V2 P w q (xs ++ ys) (vs ++ us)
  | [], [], _, _, _, h => h
  | _ :: _, _ :: _, _, _, h, h' => ⟨h.1, V2_append h.2 h'⟩
  | [], _ :: _, _, _, h, _ => h.elim
  | _ :: _, [], _, _, h, _ => h.elim

theorem V2_get : ∀ {xs : List AV} {vs : List Value}, V2 P w q xs vs → ∀ (i : Nat) x, xs[i]? = some x → VT P w q x (vs.getD i undef) ∧ (vs.getD i undef).oneCell' = true
  | [], [], _, i, x, hx => by simp at hx
  | y :: ys, v :: vs, h, 0, x, hx => by
    simp at hx
    subst hx
    simpa using h.1
  | y :: ys, v :: vs, h, i + 1, x, hx => by
    have := V2_get h.2 i x (by simpa using hx)
    simpa using this
  | [], _ :: _, h, _, _, _ => h.elim
  | _ :: _, [], h, _, _, _ => h.elim

theorem mapM_cons_some {α β : Type} {f : α → Option β} {a : α} {l : List α} {r : List β} (h : (a :: l).mapM f = some r) : ∃ b bs, f a = some b ∧ l.mapM f = some bs ∧ r = b :: bs := by
  rw [List.mapM_cons] at h
  cases ha : f a with
  | none => simp [ha] at h
  | some b =>
    cases hl : l.mapM f with
    | none => simp [ha, hl] at h
    | some bs => simp [ha, hl] at h; exact ⟨b, bs, rfl, rfl, h.symm⟩

theorem mapM_get {α β : Type} {f : α → Option β} : ∀ {l : List α} {r : List β}, l.mapM f = some r → r.length = l.length ∧ ∀ (i : Nat) x, l[i]? = some x → ∃ y, f x = some y ∧ r[i]? = some y
  | [], r, h => by simp at h; subst h; exact ⟨rfl, fun i x hx => by simp at hx⟩
  | a :: l, r, h => by
    obtain ⟨b, bs, h1, h2, rfl⟩ := mapM_cons_some h
    obtain ⟨g1, g2⟩ := mapM_get h2
    refine ⟨by simp [g1], fun i x hx => ?_⟩
    cases i with
    | zero => simp at hx; subst hx; exact ⟨b, h1, rfl⟩
    | succ i => simpa using g2 i x (by simpa using hx)

theorem cells_some {a : Addr} {n : Nat} {cs : List Value} (h : w.cells? 0 a n = some cs) : cs.length = n ∧ ∀ j, j < n → w.cell? (a.add j) = some (cs.getD j undef) := by
  unfold World.cells? at h
  rw [if_pos (Nat.zero_le _)] at h
  obtain ⟨h1, h2⟩ := mapM_get h
  refine ⟨by simpa using h1, fun j hj => ?_⟩
  obtain ⟨y, h3, h4⟩ := h2 j j (by simp [hj])
  rw [h3, List.getD_eq_getElem?_getD, h4]
  rfl

theorem cell_spot {a : Addr} {v : Value} (h : w.cell? a = some v) : a.spot = none ∧ a.block < w.heap.size := by
  unfold World.cell? at h
  split at h
  · rename_i c t fr hb
    refine ⟨?_, ?_⟩
    · cases hs : a.spot with
      | none => rfl
      | some s => simp [hs] at h
    · exact (Array.getElem?_eq_some_iff.1 hb).1
  · cases h

theorem addr_add2 (blk off u j : Nat) : ((⟨blk, off, none⟩ : Addr).add u).add j = ⟨blk, off + (u + j), none⟩ := by
  unfold Addr.add
  by_cases h1 : u = 0
  · subst h1
    by_cases h2 : j = 0
    · subst h2; rfl
    · simp [h2]
  · by_cases h2 : j = 0
    · subst h2; simp [h1]
    · simp [h1, h2, Nat.add_assoc]

theorem fields_av {g : TypeId → List Value → Option (DataW H × List MemPlace)} {T : TypeId → List AV → Prop} {ly : TypeId → Bool}
    (ih : ∀ t, ly t = true → ∀ cs x, g t cs = some x → ∃ xs, V2 P w q xs cs ∧ T t xs) (cs : List Value) : ∀ (fs : List Field) (off : Nat) (r : List (DataW H × List MemPlace)), layF P ly fs off cs.length = true →
    (fs.mapM fun f => g f.type ((cs.drop f.offset).take (P.cellsOf f.type))) = some r → ∃ ps : List (List AV), V2 P w q ps.flatten (cs.drop off) ∧ All2 (fun f p => T f.type p) fs ps
  | [], off, r, hl, h => by
    have := Nat.eq_of_beq_eq_true hl
    subst this
    exact ⟨[], by simp [V2], trivial⟩
  | f :: fs, off, r, hl, h => by
    simp only [layF, Bool.and_eq_true] at hl
    obtain ⟨⟨h1, h2⟩, h3⟩ := hl
    have e := Nat.eq_of_beq_eq_true h1
    obtain ⟨b, bs, g1, g2, rfl⟩ := mapM_cons_some h
    obtain ⟨p, p1, p2⟩ := ih _ h2 _ _ g1
    obtain ⟨ps, r1, r2⟩ := fields_av ih cs fs _ _ h3 g2
    refine ⟨p :: ps, ?_, p2, r2⟩
    rw [List.flatten_cons]
    have : cs.drop off = (cs.drop f.offset).take (P.cellsOf f.type) ++ cs.drop (off + P.cellsOf f.type) := by
      rw [e, ← List.drop_drop]
      exact (List.take_append_drop _ _).symm
    rw [this]
    exact V2_append p1 r1

theorem items_av {g : List Value → Option (DataW H × List MemPlace)} {T : List AV → Prop} (ih : ∀ cs x, g cs = some x → ∃ xs, V2 P w q xs cs ∧ T xs) (cs : List Value) (s n : Nat) (hn : cs.length = n * s)
    (h : ∀ i, i < n → ∃ x, g ((cs.drop (i * s)).take s) = some x) : ∀ (k i : Nat), i + k = n → ∃ ps : List (List AV), V2 P w q ps.flatten (cs.drop (i * s)) ∧ ps.length = k ∧ ∀ p ∈ ps, T p
  | 0, i, hi => by
    have : i = n := by omega
    subst this
    refine ⟨[], ?_, rfl, nofun⟩
    rw [List.drop_eq_nil_of_le (by omega)]
    exact trivial
  | k + 1, i, hi => by
    obtain ⟨x, hx⟩ := h i (by omega)
    obtain ⟨p, p1, p2⟩ := ih _ _ hx
    obtain ⟨ps, r1, r2, r3⟩ := items_av ih cs s n hn h k (i + 1) (by omega)
    refine ⟨p :: ps, ?_, by simp [r2], fun y hy => ?_⟩
    · rw [List.flatten_cons]
      have : cs.drop (i * s) = (cs.drop (i * s)).take s ++ cs.drop ((i + 1) * s) := by
        rw [Nat.succ_mul, ← List.drop_drop]
        exact (List.take_append_drop _ _).symm
      rw [this]
      exact V2_append p1 r1
    · rcases List.mem_cons.1 hy with rfl | hy
      · exact p2
      · exact r3 y hy

theorem trod_av (hq : ∀ b, b < w.heap.size → q b) : ∀ (m : Nat) (t : TypeId), lay P m t = true → ∀ (fuel : Nat) (cs : List Value) (x : DataW H × List MemPlace), DataW.trod enc P w 0 spare held fuel t cs = some x → ∃ xs, V2 P w q xs cs ∧ TyC P m t xs
  | 0, t, hl, _, _, _, _ => by simp [lay] at hl
  | m + 1, t, hl, 0, cs, x, h => by simp [DataW.trod] at h
  | m + 1, t, hl, fuel + 1, cs, x, h => by
    unfold lay at hl
    unfold TyC
    unfold DataW.trod at h
    cases hu : P.underlying t with
    | none => simp [hu] at hl
    | some d =>
      simp only [hu] at hl h ⊢
      cases d with
      | bool =>
        split at h <;> first | (cases h; done) | (rename_i e; cases e; done) | skip
        cases h
        exact ⟨[.val (.bool _)], ⟨⟨.val _, rfl⟩, trivial⟩, _, rfl⟩
      | int k =>
        split at h <;> first | (cases h; done) | (rename_i e; cases e; done) | skip
        rename_i e
        cases e
        split at h
        · rename_i hk
          obtain ⟨rfl, hw⟩ := hk
          simp only [Lit.wf, Bool.and_eq_true, decide_eq_true_eq] at hw
          exact ⟨[.val (.int _ _)], ⟨⟨.val _, rfl⟩, trivial⟩, _, rfl, hw⟩
        · cases h
      | string =>
        split at h <;> first | (cases h; done) | (rename_i e; cases e; done) | skip
        split at h
        · rename_i hs
          exact ⟨[.val (.string _)], ⟨⟨.val _, rfl⟩, trivial⟩, _, rfl, hs⟩
        · cases h
      | slice e =>
        simp only [Bool.and_eq_true] at hl
        split at h <;> first | (cases h; done) | (rename_i e; cases e; done) | skip
        · exact ⟨[.rslice (P.cellsOf e) 0 fun _ => []], ⟨⟨.rslice0 _ _ _ _, rfl⟩, trivial⟩, _, _, rfl, by omega, fun i hi => absurd hi (Nat.not_lt_zero i)⟩
        · rename_i e0 a len cap e1
          cases e1
          split at h
          case isFalse => cases h
          rename_i hb
          have hes : 0 < P.cellsOf e := Nat.le_of_ble_eq_true hl.1
          cases hM : (List.range len).mapM fun i => (w.cells? 0 (a.add (i * P.cellsOf e)) (P.cellsOf e)).bind (DataW.trod enc P w 0 spare held fuel e) with
          | none => rw [hM] at h; cases h
          | some elems =>
            obtain ⟨_, g2⟩ := mapM_get hM
            have hx : ∀ i, ∃ xs : List AV, i < len → ∃ cs, (cs.length = P.cellsOf e ∧ ∀ j, j < P.cellsOf e → w.cell? ((a.add (i * P.cellsOf e)).add j) = some (cs.getD j undef)) ∧ V2 P w q xs cs ∧ TyC P m e xs := fun i => by
              by_cases hi : i < len
              · obtain ⟨y, y1, _⟩ := g2 i i (by simp [hi])
                cases hc : w.cells? 0 (a.add (i * P.cellsOf e)) (P.cellsOf e) with
                | none => rw [hc] at y1; cases y1
                | some cs1 =>
                  rw [hc] at y1
                  obtain ⟨xs, x1, x2⟩ := trod_av hq m e hl.2 _ _ _ y1
                  exact ⟨xs, fun _ => ⟨cs1, cells_some hc, x1, x2⟩⟩
              · exact ⟨[], fun h => absurd h hi⟩
            have hf := fun i => (Classical.choose_spec (hx i))
            generalize hF : (fun i => Classical.choose (hx i)) = F
            have hf : ∀ i, i < len → ∃ cs, (cs.length = P.cellsOf e ∧ ∀ j, j < P.cellsOf e → w.cell? ((a.add (i * P.cellsOf e)).add j) = some (cs.getD j undef)) ∧ V2 P w q (F i) cs ∧ TyC P m e (F i) := fun i hi => by
              have := Classical.choose_spec (hx i) hi
              rw [← hF]
              exact this
            refine ⟨[.rslice (P.cellsOf e) len F], ⟨⟨?_, rfl⟩, trivial⟩, len, F, rfl, ?_, fun i hi => ?_⟩
            · rcases Nat.eq_zero_or_pos len with rfl | hp
              · exact .rslice0 _ _ _ _
              · obtain ⟨cs0, c1, _, _⟩ := hf 0 hp
                have hc0 := c1.2 0 hes
                have e0 : ((a.add (0 * P.cellsOf e)).add 0) = a := by simp [Addr.add]
                rw [e0] at hc0
                obtain ⟨s1, s2⟩ := cell_spot hc0
                obtain ⟨blk, off, spot⟩ := a
                simp only at s1 s2
                subst s1
                have hG : ∀ i, ∃ cs : List Value, i < len → (cs.length = P.cellsOf e ∧ ∀ j, j < P.cellsOf e → w.cell? (((⟨blk, off, none⟩ : Addr).add (i * P.cellsOf e)).add j) = some (cs.getD j undef)) ∧ V2 P w q (F i) cs := fun i => by
                  by_cases hi : i < len
                  · obtain ⟨cs, c1, c2, _⟩ := hf i hi
                    exact ⟨cs, fun _ => ⟨c1, c2⟩⟩
                  · exact ⟨[], fun h => absurd h hi⟩
                refine .rslice _ _ _ blk off cap (fun i j => (Classical.choose (hG i)).getD j undef) hb.2.1 (hq _ s2) (fun i hi => ?_) (fun i j hi hj => ?_) (fun i j x hi hx => ?_)
                · obtain ⟨c1, c2⟩ := Classical.choose_spec (hG i) hi
                  rw [V2_len c2, c1.1]
                · obtain ⟨c1, c2⟩ := Classical.choose_spec (hG i) hi
                  have hc := c1.2 j hj
                  have ea : ((⟨blk, off, none⟩ : Addr).add (i * P.cellsOf e)).add j = ⟨blk, off + (i * P.cellsOf e + j), none⟩ := by
                    exact addr_add2 blk off _ j
                  rw [ea] at hc
                  refine ⟨hc, ?_⟩
                  have hlt : j < (F i).length := by rw [V2_len c2, c1.1]; exact hj
                  exact (V2_get c2 j _ (List.getElem?_eq_getElem hlt)).2
                · obtain ⟨c1, c2⟩ := Classical.choose_spec (hG i) hi
                  exact (V2_get c2 j x hx).1
            · have := hb.2.2
              unfold maxLen at this
              omega
            · obtain ⟨_, _, _, h3⟩ := hf i hi
              exact h3
      | struct fs =>
        replace h : (if cs.length = P.cellsOf t then (fs.toList.mapM fun f => DataW.trod enc P w 0 spare held fuel f.type ((cs.drop f.offset).take (P.cellsOf f.type))).map fun xs => (.agg (xs.map (·.1)), xs.flatMap (·.2)) else none) = some x := h
        split at h
        case isFalse => cases h
        rename_i hc
        cases hM : fs.toList.mapM fun f => DataW.trod enc P w 0 spare held fuel f.type ((cs.drop f.offset).take (P.cellsOf f.type)) with
        | none => rw [hM] at h; cases h
        | some r =>
          obtain ⟨ps, p1, p2⟩ := fields_av (T := TyC P m) (ly := lay P m) (fun t ht cs x hx => trod_av hq m t ht fuel cs x hx) cs fs.toList 0 r (by rw [hc]; exact hl) hM
          exact ⟨ps.flatten, by simpa using p1, ps, rfl, p2⟩
      | array n e =>
        simp only [Bool.and_eq_true] at hl
        replace h : (if cs.length = P.cellsOf t then ((List.range n).mapM fun i => DataW.trod enc P w 0 spare held fuel e ((cs.drop (i * P.cellsOf e)).take (P.cellsOf e))).map fun xs => (.agg (xs.map (·.1)), xs.flatMap (·.2)) else none) = some x := h
        split at h
        case isFalse => cases h
        rename_i hc
        cases hM : (List.range n).mapM fun i => DataW.trod enc P w 0 spare held fuel e ((cs.drop (i * P.cellsOf e)).take (P.cellsOf e)) with
        | none => rw [hM] at h; cases h
        | some r =>
          obtain ⟨_, g2⟩ := mapM_get hM
          obtain ⟨ps, p1, p2, p3⟩ := items_av (T := TyC P m e) (fun cs x hx => trod_av hq m e hl.2 fuel cs x hx) cs (P.cellsOf e) n (by rw [hc]; exact Nat.eq_of_beq_eq_true hl.1)
            (fun i hi => by obtain ⟨y, y1, _⟩ := g2 i i (by simp [hi]); exact ⟨y, y1⟩) n 0 (by omega)
          exact ⟨ps.flatten, by simpa using p1, ps, rfl, p2, p3⟩
      | _ => simp at hl

/-- The shape of an argument. -/
def TyA (P : Program) (m : Nat) (t : TypeId) (x : AV) : Prop :=
  match P.underlying t with
  | some (.struct _) | some (.array _ _) => ∃ xs, x = .agg xs ∧ TyC P m t xs
  | _ => TyC P m t [x]

/-- An argument of a law, as an abstract value. -/
theorem open_av {r : Reach} {b0 : Nat} {t : TypeId} {v : Value} {d : DataW H} {ps : List MemPlace} {m : Nat} (hl : lay P m t = true) (hq : ∀ b, b < w.heap.size → q b)
    (hv : Value.okWide P w r b0 t v) (hd : DataW.Trod enc P w 0 spare held t v d ps) : ∃ x, VT P w q x v ∧ TyA P m t x := by
  obtain ⟨fuel, hf⟩ := hd
  obtain ⟨xs, h1, h2⟩ := trod_av hq m t hl fuel _ _ hf
  have agg : ∀ cs, v = .agg cs → VT P w q (.agg xs) v := by
    rintro cs rfl
    have hlen := V2_len h1
    refine .agg xs cs (by rw [hlen]; simp [Value.cells]) (fun u hu => ?_) (fun i x hx => ?_)
    · obtain ⟨i, hi, rfl⟩ := List.getElem_of_mem hu
      have hx : i < xs.length := by rw [hlen]; simpa [Value.cells] using hi
      have := (V2_get h1 i _ (List.getElem?_eq_getElem hx)).2
      have hi' : i < cs.size := by simpa using hi
      simpa [Value.cells, List.getD_eq_getElem?_getD, hi'] using this
    · have := (V2_get h1 i x hx).1
      simpa [Value.cells, List.getD_eq_getElem?_getD, Array.getD_eq_getD_getElem?] using this
  have one : ∀ u, v.cells.toList = [u] → v = u → ∃ x, VT P w q x v ∧ TyC P m t [x] := by
    rintro u e rfl
    rw [e] at h1
    match xs, h1, h2 with
    | [x], h1, h2 => exact ⟨x, h1.1.1, h2⟩
  unfold TyA
  unfold Value.okWide at hv
  split
  · rename_i fs hu
    simp only [hu] at hv
    obtain ⟨cs, e, _, _⟩ := hv
    exact ⟨_, agg cs e, xs, rfl, h2⟩
  · rename_i n e hu
    simp only [hu] at hv
    obtain ⟨cs, e, _, _⟩ := hv
    exact ⟨_, agg cs e, xs, rfl, h2⟩
  · rename_i n1 n2
    have hc : Cell.okWide P w r b0 t v := by
      split at hv
      · rename_i hu; exact absurd hu (n1 _)
      · rename_i hu; exact absurd hu (n2 _ _)
      · exact hv
    cases v with
    | agg cs =>
      simp only [Cell.okWide] at hc
      split at hc <;> first | (rename_i e _; cases e; done) | (rename_i e; cases e; done) | (simp [Cell.ok] at hc)
    | tuple cs =>
      simp only [Cell.okWide] at hc
      split at hc <;> first | (rename_i e _; cases e; done) | (rename_i e; cases e; done) | (simp [Cell.ok] at hc)
    | _ => exact one _ rfl rfl
end
end Go.Tr

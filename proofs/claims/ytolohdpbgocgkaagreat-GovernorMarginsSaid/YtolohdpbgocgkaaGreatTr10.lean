/- Contracts of chapter 6: the reference's shift, and margins. Conditions: none. -/
import Derived.Test.YtolohdpbgocgkaaGreatTr09
import Derived.Test.YtolohdpbgocgkaaGreatTr06
import Derived.ProofKit
set_option linter.unusedSectionVars false
set_option linter.unnecessarySimpa false
set_option linter.unusedVariables false
set_option linter.unusedSimpArgs false

namespace Go.Tr
open Go Go.Proofs
set_option maxRecDepth 20000
set_option maxHeartbeats 8000000

/-- The reference's rounds. -/
def mxG (t : Int) (s : List Int) : Nat → Nat → List Int → List Int
  | 0, _, c => c
  | r + 1, j, c => mxG t s r (j + 1) (c.set (j + 1) (c.getD (j + 1) 0 + t * s.getD j 0))
def hoG (t : Int) (l : List Int) : Nat → Nat → List Int → List Int
  | 0, _, s => s
  | r + 1, i, s => hoG t l r (i + 1) ((mxG t s s.length 0 (s ++ [0])).set i ((mxG t s s.length 0 (s ++ [0])).getD i 0 + l.getD i 0))
def shR (t : Int) (l : List Int) : List Int := hoG t l (l.length - 1) 1 [l.getD 0 0]
theorem shR_eq (t : Int) (l : List Int) (h : 2 ≤ l.length ∧ l.length ≤ 5) : shR t l = shP t l := by
  match l, h with
  | [a, b], _ =>
    simp [shR, shP, hoG, mxG, shG, passG]
    grind
  | [a, b, c], _ =>
    simp [shR, shP, hoG, mxG, shG, passG]
    grind
  | [a, b, c, d], _ =>
    simp [shR, shP, hoG, mxG, shG, passG]
    grind
  | [a, b, c, d, e], _ =>
    simp [shR, shP, hoG, mxG, shG, passG]
    grind
  | [], h => simp at h
  | [_], h => simp at h
  | _ :: _ :: _ :: _ :: _ :: _ :: _, h => simp at h
theorem mx_len (t : Int) (s : List Int) : ∀ (r j : Nat) (c : List Int), (mxG t s r j c).length = c.length
  | 0, _, _ => rfl
  | r + 1, j, c => by unfold mxG; rw [mx_len t s r, List.length_set]
theorem S19x (l : List Int) (hl : l.length ≤ 1000000) : SP 19 [ints l] (ints l) true := by
  refine sound (d := 2) tok2 mixed2 Tryz.func19 (by kernel_rfl) (by kernel_rfl) ?_
  conv => whnf
  refine .inl ?_
  conv => whnf
  refine ⟨⟨(by omega), (by show _ * (8 + 1) ≤ _; omega)⟩, ?_⟩
  conv => whnf
  refine ⟨?_, fun _ => ⟨rfl, ?_⟩⟩
  · exact ⟨rfl, Nat.zero_add _, fun i hi => rfl⟩
  · exact ⟨fun i _ x hx => ⟨_, List.mem_singleton.1 hx⟩, trivial⟩
theorem set_sml2 {B : Nat} {X : List Int} {t y : Int} (ht : t.natAbs ≤ 10) (hy : y.natAbs ≤ B) (h : Sml B X) (k i : Nat) : Sml (11 * B) (X.set k (X.getD i 0 + t * y)) := fun x hx => by
  rcases List.mem_or_eq_of_mem_set hx with hx | hx
  · have := h x hx; omega
  · rw [hx]
    have e1 : (X.getD i 0).natAbs ≤ B := ent_sml h i
    have e2 := mul_sml ht hy
    omega
theorem pow_sml2 {s : Nat} (h : s ≤ 13) : 1000 * 11 ^ s ≤ 35000000000000000 := by
  have : 11 ^ s ≤ 11 ^ 13 := Nat.pow_le_pow_right (by decide) h
  omega
theorem pow_lo (s : Nat) : 1000 ≤ 1000 * 11 ^ s := by
  have : 1 ≤ 11 ^ s := Nat.one_le_pow _ _ (by decide)
  omega
/-- The error of a shift by a number. -/
def shE (t : Int) (l : List Int) : Int := if ¬(-10 ≤ t ∧ t ≤ 10) then 2 else if coefsE (shP t l) ≠ 0 then 8 else 0
theorem S85 (l : List Int) (t : Int) (h2 : 2 ≤ l.length ∧ l.length ≤ 5) (hs : Sml 1000 l) : SP 85 [ints l, i64 t] (.tuple [ints (if shE t l = 0 then shP t l else []), i64 (shE t l)]) false := by
  have h68 := S68 t (-10) 10
  have h68c := fun x => S68 x (-1000) 1000
  by_cases ht : -10 ≤ t ∧ t ≤ 10
  · have hta : t.natAbs ≤ 10 := by omega
    have hE : shE t l = if coefsE (shP t l) ≠ 0 then 8 else 0 := if_neg (not_not_intro ht)
    rw [hE]
    rw [← shR_eq t l h2]
    refine sound (d := 2) tok2 mixed2 Tryz.func85 (by kernel_rfl) (by kernel_rfl) ?_
    conv => whnf
    refine .inl ⟨_, _, byX rfl (Sound1.pl (h68) rfl), ?_⟩
    conv => whnf
    refine ifB_not ?_
    conv => whnf
    refine ifB_dec (fun w1 => ?_) (fun w1 => ?_)
    · conv => whnf
      refine ⟨⟨(by omega), (by omega)⟩, ?_⟩
      conv => whnf
      refine ⟨[.freeze 6], [0, 1, 6, 7], fun st mq => ∃ (i : Nat) (r : Nat) (s : List Int) (u : Nat), (i + r = l.length) ∧ (s.length = i) ∧ (1 ≤ i) ∧ (Sml (1000 * 11 ^ u) s) ∧ (u + 1 = tri i) ∧ (hoG t l r i s = shR t l) ∧ st = ⟨[(0, ints l), (1, i64 t), (6, .rslice 1 i fun k => [i64 (s.getD k 0)]), (7, i64 i)], ⟨[⟨1, 1, fun _ => [i64 (l.getD 0 0)], 0, true, true, true⟩], [], none, 0⟩, []⟩ ∧ mq = r,
        ⟨_, _, ⟨1, l.length - 1, [l.getD 0 0], 0, by omega, rfl, Nat.le_refl 1, (fun x hx => by rw [List.mem_singleton.1 hx]; exact ent_sml hs 0), rfl, rfl, rfl, rfl⟩, ⟨⟨.inr ⟨rfl, .inl rfl, ⟨rfl, .inl rfl, ⟨rfl, .inr (⟨rfl, rfl, fun k hk => (by have hk1 : k < 1 := hk; rw [show k = 0 by omega]; exact .inl rfl)⟩), ⟨rfl, .inl rfl, trivial⟩⟩⟩⟩, rfl, rfl, rfl⟩, ⟨⟨rfl, rfl, rfl, rfl, fun _ => rfl, fun k hk => .inl ((by have hk1 : k < 1 := hk; rw [show k = 0 by omega]; rfl))⟩, trivial⟩, trivial⟩⟩, ?_⟩
      rintro s0 m0 ⟨i, r, s, u, hi, hl, hi1, hS, hu, hH, rfl, hmeas⟩
      subst hl
      have h19 := S19x s (by omega)
      have hu14 : tri s.length ≤ 15 := by
        have : s.length = 1 ∨ s.length = 2 ∨ s.length = 3 ∨ s.length = 4 ∨ s.length = 5 := by omega
        rcases this with e | e | e | e | e <;> rw [e] <;> decide
      by_cases hr : r = 0
      · subst hr
        have hH2 : s = shR t l := hH
        conv => whnf
        conv => whnf
        refine ifB_dec (fun w2 => ?_) (fun w2 => ?_)
        · (exfalso; omega)
        · conv => whnf
          conv => whnf
          refine ⟨[], [6, 10], fun st mq => ∃ (k : Nat), (k ≤ s.length) ∧ ((eachI (fun _ x => coefE x) (s.drop k) k).2 = (eachI (fun _ x => coefE x) s 0).2) ∧ st = ⟨[(6, ints s), (10, i64 k)], ⟨[⟨1, 1, fun _ => [i64 (l.getD 0 0)], 0, true, true, true⟩], [], none, 0⟩, []⟩ ∧ mq = s.length - k,
            ⟨_, _, ⟨0, by omega, rfl, rfl, rfl⟩, ⟨⟨.inl rfl, rfl, rfl, rfl⟩, ⟨⟨rfl, rfl, rfl, rfl, fun _ => rfl, fun _ _ => .inl rfl⟩, trivial⟩, trivial⟩⟩, ?_⟩
          rintro s0 m0 ⟨k, hk, he, rfl, hmeas⟩
          by_cases hlt : k < s.length
          · have hd := eachI_drop (fun _ x => coefE x) s k hlt
            have h68k := h68c (s.getD (k : Int).toNat 0)
            conv => whnf
            conv => whnf
            conv => whnf
            refine ifB_dec (fun w3 => ?_) (fun w3 => ?_)
            · conv => whnf
              conv => whnf
              conv => whnf
              refine ⟨⟨(by omega), (by omega)⟩, ?_⟩
              conv => whnf
              conv => whnf
              conv => whnf
              refine .inl ⟨_, _, byX rfl (Sound1.pl (h68k) rfl), ?_⟩
              conv => whnf
              conv => whnf
              conv => whnf
              refine ifB_not ?_
              conv => whnf
              conv => whnf
              conv => whnf
              refine ifB_dec (fun w4 => ?_) (fun w4 => ?_)
              · conv => whnf
                conv => whnf
                conv => whnf
                refine ⟨inK64 (by omega) (by omega), ?_⟩
                have w4 : -1000 ≤ s.getD k 0 ∧ s.getD k 0 ≤ 1000 := w4
                rw [if_pos (show coefE (s.getD k 0) = 0 from if_pos w4)] at hd
                rw [hd] at he
                conv => whnf
                conv => whnf
                conv => whnf
                refine ⟨_, _, ⟨⟨k + 1, by omega, he, rfl, rfl⟩, by omega⟩, ⟨⟨.inl rfl, rfl, rfl, rfl⟩, ⟨⟨rfl, rfl, rfl, rfl, fun _ => rfl, fun _ _ => .inl rfl⟩, trivial⟩, trivial⟩⟩
              · conv => whnf
                conv => whnf
                conv => whnf
                refine ⟨?_, nofun⟩
                have w4 : ¬(-1000 ≤ s.getD k 0 ∧ s.getD k 0 ≤ 1000) := w4
                have hc : coefE (s.getD k 0) = 2 := if_neg w4
                rw [hc, if_neg (by decide)] at hd
                rw [hd] at he
                have hcs : coefsE s = 2 := he.symm
                rw [← hH2, hcs, if_pos (show (2 : Int) ≠ 0 by decide), if_neg (show ¬ (8 : Int) = 0 by decide)]
                exact ave_tup2 rfl rfl
            · (exfalso; omega)
          · have e : k = s.length := by omega
            subst e
            rw [List.drop_length] at he
            have hcs : coefsE s = 0 := he.symm
            rw [← hH2, hcs, if_neg (show ¬ (0 : Int) ≠ 0 by decide), if_pos (show (0 : Int) = 0 by decide)]
            conv => whnf
            conv => whnf
            conv => whnf
            refine ifB_dec (fun w3 => ?_) (fun w3 => ?_)
            · (exfalso; omega)
            · conv => whnf
              conv => whnf
              conv => whnf
              refine ⟨?_, nofun⟩
              exact ave_tup2 ⟨rfl, rfl, fun i hi => rfl⟩ rfl
      · obtain ⟨q, rfl⟩ : ∃ q, r = q + 1 := ⟨r - 1, by omega⟩
        have hu10 := tri_le (show s.length ≤ 4 by omega)
        conv => whnf
        conv => whnf
        refine ifB_dec (fun w2 => ?_) (fun w2 => ?_)
        · conv => whnf
          conv => whnf
          refine .inl ⟨_, _, byX rfl (h19), ?_⟩
          conv => whnf
          conv => whnf
          refine .inl ?_
          conv => whnf
          conv => whnf
          refine ⟨(by show _ * (8 + 1) ≤ _; omega), ?_⟩
          conv => whnf
          conv => whnf
          refine ⟨[], [0, 1, 6, 7, 8, 9], fun st mq => ∃ (j : Nat) (m : Nat) (c : List Int) (v : Nat) (F2 : Nat → List AV), (j + m = s.length) ∧ (c.length = s.length + 1) ∧ (Sml (1000 * 11 ^ v) c) ∧ (v = u + j) ∧ (mxG t s m j c = mxG t s s.length 0 (s ++ [0])) ∧ st = ⟨[(0, ints l), (1, i64 t), (6, ints s), (7, i64 s.length), (8, .oslice 1 0 0 (s.length + 1) none), (9, i64 j)], ⟨[⟨1, 1, fun _ => [i64 (l.getD 0 0)], 0, true, true, true⟩, ⟨1, s.length + 1, fun k => [i64 (c.getD k 0)], 0, false, true, false⟩, ⟨1, 1, F2, 0, false, true, false⟩], [], none, 0⟩, []⟩ ∧ mq = m,
            ⟨_, _, ⟨0, s.length, s ++ [0], u, _, by omega, by simp, (fun x hx => by rcases List.mem_append.1 hx with h | h; exact hS x h; rw [List.mem_singleton.1 h]; simp), rfl, rfl, rfl, rfl⟩, ⟨⟨.inl rfl, rfl, rfl, rfl⟩, ⟨⟨rfl, rfl, rfl, rfl, fun _ => rfl, fun _ _ => .inl rfl⟩, ⟨⟨rfl, rfl, rfl, rfl, fun _ => rfl, fun i hi => .inl (app_row s 0 s.length i rfl hi)⟩, ⟨⟨rfl, rfl, rfl, rfl, fun _ => rfl, fun _ _ => .inl rfl⟩, trivial⟩⟩⟩, trivial⟩⟩, ?_⟩
          rintro s0 m0 ⟨j, m, c, v, F2, hj, hc, hT, hv, hM, rfl, hmeas⟩
          by_cases hm : m = 0
          · subst hm
            have hM2 : c = mxG t s s.length 0 (s ++ [0]) := hM
            have hb := pow_sml2 (show v ≤ 13 by omega)
            have e1 : 0 + (s.length : Int).toNat = s.length := by omega
            have b1 : (c.getD s.length 0).natAbs ≤ 1000 * 11 ^ v := ent_sml hT s.length
            have b2 : (l.getD s.length 0).natAbs ≤ 1000 := ent_sml hs s.length
            have b2' : (l.getD (s.length : Int).toNat 0).natAbs ≤ 1000 := b2
            have hlo := pow_lo v
            rw [← e1] at b1
            have hn : Sml (1000 * 11 ^ (v + 1)) (c.set s.length (c.getD (0 + (s.length : Int).toNat) 0 + l.getD (s.length : Int).toNat 0)) := fun x hx => by
              rw [Nat.pow_succ]
              rcases List.mem_or_eq_of_mem_set hx with hx | hx
              · have := hT x hx; omega
              · rw [hx]; omega
            have hH3 : hoG t l q (s.length + 1) (c.set s.length (c.getD (0 + (s.length : Int).toNat) 0 + l.getD (s.length : Int).toNat 0)) = shR t l := by
              rw [e1, hM2]
              exact hH
            conv => whnf
            conv => whnf
            conv => whnf
            refine ifB_dec (fun w3 => ?_) (fun w3 => ?_)
            · (exfalso; omega)
            · conv => whnf
              conv => whnf
              conv => whnf
              refine ⟨[], by kernel_rfl, ?_⟩
              conv => whnf
              conv => whnf
              conv => whnf
              refine ⟨⟨(by omega), (by omega)⟩, ?_⟩
              conv => whnf
              conv => whnf
              conv => whnf
              refine ⟨⟨(by omega), (by omega)⟩, ?_⟩
              conv => whnf
              conv => whnf
              conv => whnf
              refine ⟨inK64 (by omega) (by omega), ?_⟩
              conv => whnf
              conv => whnf
              conv => whnf
              refine ⟨⟨(by omega), (by omega)⟩, ?_⟩
              refine ⟨_, fun i _ => rowI _ _ i _ (by first | omega | (simp only [List.length_set]; omega) | (simp only [List.length_replicate]; omega) | (simp only [List.length_set, List.length_replicate]; omega)), ?_⟩
              conv => whnf
              conv => whnf
              conv => whnf
              refine ⟨inK64 (by omega) (by omega), ?_⟩
              conv => whnf
              conv => whnf
              conv => whnf
              refine ⟨_, _, ⟨⟨s.length + 1, q, c.set s.length (c.getD (0 + (s.length : Int).toNat) 0 + l.getD (s.length : Int).toNat 0), u + s.length + 1, by omega, (by rw [List.length_set]; exact hc), by omega, (by rw [show u + s.length + 1 = v + 1 by omega]; exact hn), (by show _ = tri s.length + (s.length + 1); omega), hH3, rfl, rfl⟩, by omega⟩, ⟨⟨.inl rfl, rfl, rfl, rfl⟩, ⟨⟨rfl, rfl, rfl, rfl, fun _ => rfl, fun _ _ => .inl rfl⟩, trivial⟩, trivial⟩⟩
          · obtain ⟨w, rfl⟩ : ∃ w, m = w + 1 := ⟨m - 1, by omega⟩
            have hb := pow_sml2 (show v ≤ 13 by omega)
            have hsv : Sml (1000 * 11 ^ v) s := hS.mono (by have := Nat.pow_le_pow_right (show 0 < 11 by decide) (show u ≤ v by omega); omega)
            have e1 : 0 + ((j : Int) + 1).toNat = j + 1 := by omega
            have b1 : (c.getD (j + 1) 0).natAbs ≤ 1000 * 11 ^ v := ent_sml hT (j + 1)
            have b2 : (s.getD j 0).natAbs ≤ 1000 * 11 ^ v := ent_sml hsv j
            have b2' : (s.getD (j : Int).toNat 0).natAbs ≤ 1000 * 11 ^ v := b2
            have b3 := mul_sml hta b2'
            have hn : Sml (11 * (1000 * 11 ^ v)) (c.set ((j : Int) + 1).toNat (c.getD (0 + ((j : Int) + 1).toNat) 0 + t * s.getD (j : Int).toNat 0)) := by
              exact set_sml2 hta b2 hT _ _
            have hM3 : mxG t s w (j + 1) (c.set ((j : Int) + 1).toNat (c.getD (0 + ((j : Int) + 1).toNat) 0 + t * s.getD (j : Int).toNat 0)) = mxG t s s.length 0 (s ++ [0]) := by
              rw [e1, show ((j : Int) + 1).toNat = j + 1 by omega]
              exact hM
            rw [← e1] at b1
            conv => whnf
            conv => whnf
            conv => whnf
            refine ifB_dec (fun w3 => ?_) (fun w3 => ?_)
            · conv => whnf
              conv => whnf
              conv => whnf
              refine ⟨[], by kernel_rfl, ?_⟩
              conv => whnf
              conv => whnf
              conv => whnf
              refine ⟨inK64 (by omega) (by omega), ?_⟩
              conv => whnf
              conv => whnf
              conv => whnf
              refine ⟨inK64 (by omega) (by omega), ?_⟩
              conv => whnf
              conv => whnf
              conv => whnf
              refine ⟨⟨(by omega), (by omega)⟩, ?_⟩
              conv => whnf
              conv => whnf
              conv => whnf
              refine ⟨⟨(by omega), (by omega)⟩, ?_⟩
              conv => whnf
              conv => whnf
              conv => whnf
              refine ⟨inK64 (by omega) (by omega), ?_⟩
              conv => whnf
              conv => whnf
              conv => whnf
              refine ⟨inK64 (by omega) (by omega), ?_⟩
              conv => whnf
              conv => whnf
              conv => whnf
              refine ⟨⟨(by omega), (by omega)⟩, ?_⟩
              refine ⟨_, fun i _ => rowI _ _ i _ (by first | omega | (simp only [List.length_set]; omega) | (simp only [List.length_replicate]; omega) | (simp only [List.length_set, List.length_replicate]; omega)), ?_⟩
              conv => whnf
              conv => whnf
              conv => whnf
              refine ⟨inK64 (by omega) (by omega), ?_⟩
              conv => whnf
              conv => whnf
              conv => whnf
              refine ⟨_, _, ⟨⟨j + 1, w, c.set ((j : Int) + 1).toNat (c.getD (0 + ((j : Int) + 1).toNat) 0 + t * s.getD (j : Int).toNat 0), v + 1, _, by omega, (by rw [List.length_set]; exact hc), (by rw [Nat.pow_succ]; intro x hx; have := hn x hx; omega), by omega, hM3, rfl, rfl⟩, by omega⟩, ⟨⟨.inl rfl, rfl, rfl, rfl⟩, ⟨⟨rfl, rfl, rfl, rfl, fun _ => rfl, fun _ _ => .inl rfl⟩, ⟨⟨rfl, rfl, rfl, rfl, fun _ => rfl, fun _ _ => .inl rfl⟩, ⟨⟨rfl, rfl, rfl, rfl, fun _ => rfl, fun _ _ => .inl rfl⟩, trivial⟩⟩⟩, trivial⟩⟩
            · (exfalso; omega)
        · (exfalso; omega)
    · (exfalso; omega)
  · have hE : shE t l = 2 := if_pos ht
    rw [hE]
    refine sound (d := 2) tok2 mixed2 Tryz.func85 (by kernel_rfl) (by kernel_rfl) ?_
    conv => whnf
    refine .inl ⟨_, _, byX rfl (Sound1.pl (h68) rfl), ?_⟩
    conv => whnf
    refine ifB_not ?_
    conv => whnf
    refine ifB_dec (fun w1 => ?_) (fun w1 => ?_)
    · (exfalso; omega)
    · conv => whnf
      refine ⟨?_, nofun⟩
      exact ave_tup2 rfl rfl
end Go.Tr

/- Contracts of chapter 6: margins; the law GovernorMargins. Conditions: none. -/
namespace Go.Tr
open Go Go.Proofs
set_option maxRecDepth 20000
set_option maxHeartbeats 8000000

theorem S150 (k x : Int) : SP 150 [i64 k, i64 x] (i64 (coefE x)) false := by
  have h := S104 x
  refine sound (d := 2) tok2 mixed2 Tryz.func150 (by kernel_rfl) (by kernel_rfl) ?_
  conv => whnf
  refine .inl ⟨_, _, byX rfl (Sound1.pl (h) rfl), ?_⟩
  conv => whnf
  refine ⟨?_, nofun⟩
  rfl
/-- The error of the package's shift. -/
def shftE (t : Int) (l : List Int) : Int := if polyE l = 0 then shE t l else polyE l
theorem PolyOk.len {p : List Int} (h : PolyOk p) : p.length ≤ 1000 := by have := h.p2; omega
theorem win10 (t : Int) : win t (-10) 10 = true ↔ -10 ≤ t ∧ t ≤ 10 := by unfold win; simp
theorem S83 (l : List Int) (t : Int) (hl : l.length ≤ 1000000) : SP 83 [ints l, i64 t] (.tuple [ints (if shftE t l = 0 then shP t l else []), i64 (shftE t l)]) false := by
  have h64 := S64 l hl
  have h114 := S114 t 10 (by decide)
  unfold shftE
  by_cases h0 : polyE l = 0
  · have hp := PolyOk.of h0
    rw [if_pos h0]
    rw [h0] at h64
    by_cases ht : -10 ≤ t ∧ t ≤ 10
    · rw [(win10 t).2 ht] at h114
      have h93 : SP 93 [vb true, i64 2] (i64 0) false := S93 true 2
      have h90 : ∀ f : Nat → List AV, (f 0 = [i64 0] ∧ f 1 = [i64 0]) → SP 90 [.rslice 1 2 f] (i64 0) false := fun f h => by
        have h := S90_2 0 0 h
        rwa [first2, if_neg (by simp)] at h
      have h149 := S149 l t hp.p2 hp.ps (by omega)
      have hsl := shP_len t l
      have hpl := hp.len
      have h94 := S94 150 (fun _ x => coefE x) (shP t l) (by omega) (fun k hk => S150 k _)
      have hE : shE t l = if coefsE (shP t l) ≠ 0 then 8 else 0 := if_neg (not_not_intro ht)
      rw [hE]
      refine sound (d := 2) tok2 mixed2 Tryz.func83 (by kernel_rfl) (by kernel_rfl) ?_
      conv => whnf
      refine .inl ⟨_, _, byX rfl (Sound1.pl (h64) rfl), ?_⟩
      conv => whnf
      refine .inl ⟨_, _, byX rfl (Sound1.pl (h114) rfl), ?_⟩
      conv => whnf
      refine .inl ⟨_, _, byX rfl (Sound1.pl (h93) rfl), ?_⟩
      conv => whnf
      refine .inl ⟨_, _, byX rfl (Sound1.pl (h90 _ ⟨rfl, rfl⟩) rfl), ?_⟩
      conv => whnf
      refine .inl ⟨_, _, byX rfl (h149), ?_⟩
      conv => whnf
      refine .inl ⟨_, _, byX rfl (Sound1.pl (h94) rfl), ?_⟩
      conv => whnf
      refine ifB_bne (fun w1 => ?_) (fun w1 => ?_)
      · conv => whnf
        refine ⟨?_, nofun⟩
        rw [if_pos (show coefsE (shP t l) ≠ 0 from w1), if_neg (show ¬ (8 : Int) = 0 by decide)]
        exact ave_tup2 rfl rfl
      · conv => whnf
        refine ⟨?_, nofun⟩
        rw [if_neg (show ¬ coefsE (shP t l) ≠ 0 from not_not_intro w1), if_pos (show (0 : Int) = 0 by decide)]
        exact ave_tup2 ⟨rfl, rfl, fun i hi => rfl⟩ rfl
    · have hw : win t (-10) 10 = false := by
        cases h : win t (-10) 10 with
        | false => rfl
        | true => exact absurd ((win10 t).1 h) ht
      rw [hw] at h114
      have h93 : SP 93 [vb false, i64 2] (i64 2) false := S93 false 2
      have h90 : ∀ f : Nat → List AV, (f 0 = [i64 0] ∧ f 1 = [i64 2]) → SP 90 [.rslice 1 2 f] (i64 2) false := fun f h => by
        have h := S90_2 0 2 h
        rwa [first2, if_neg (by simp)] at h
      have hE : shE t l = 2 := if_pos ht
      rw [hE]
      refine sound (d := 2) tok2 mixed2 Tryz.func83 (by kernel_rfl) (by kernel_rfl) ?_
      conv => whnf
      refine .inl ⟨_, _, byX rfl (Sound1.pl (h64) rfl), ?_⟩
      conv => whnf
      refine .inl ⟨_, _, byX rfl (Sound1.pl (h114) rfl), ?_⟩
      conv => whnf
      refine .inl ⟨_, _, byX rfl (Sound1.pl (h93) rfl), ?_⟩
      conv => whnf
      refine .inl ⟨_, _, byX rfl (Sound1.pl (h90 _ ⟨rfl, rfl⟩) rfl), ?_⟩
      conv => whnf
      refine ⟨?_, nofun⟩
      exact ave_tup2 rfl rfl
  · rw [if_neg h0, if_neg h0]
    have h93 := fun b c => S93 b c
    have h90 : ∀ (b : Int) (f : Nat → List AV), (f 0 = [i64 (polyE l)] ∧ f 1 = [i64 b]) → SP 90 [.rslice 1 2 f] (i64 (polyE l)) false := fun b f h => by
      have h := S90_2 (polyE l) b h
      rwa [first2, if_pos h0] at h
    refine sound (d := 2) tok2 mixed2 Tryz.func83 (by kernel_rfl) (by kernel_rfl) ?_
    conv => whnf
    refine .inl ⟨_, _, byX rfl (Sound1.pl (h64) rfl), ?_⟩
    conv => whnf
    refine .inl ⟨_, _, byX rfl (Sound1.pl (h114) rfl), ?_⟩
    conv => whnf
    refine .inl ⟨_, _, byX rfl (Sound1.pl (h93 _ _) rfl), ?_⟩
    conv => whnf
    refine .inl ⟨_, _, byX rfl (Sound1.pl (h90 _ _ ⟨rfl, rfl⟩) rfl), ?_⟩
    conv => whnf
    refine ifB_bne (fun w1 => ?_) (fun w1 => ?_)
    · conv => whnf
      refine ⟨?_, nofun⟩
      exact ave_tup2 rfl rfl
    · (exfalso; omega)
/-- Shifted so far to the left a polynomial is one, and stable. -/
def okS (p : List Int) (d : Nat) : Bool := if polyE (shP (-(d : Int)) p) = 0 then stabB (shP (-(d : Int)) p) else false
def marF (p : List Int) : Nat → Nat
  | 0 => 0
  | d + 1 => if okS p (d + 1) = true then d + 1 else marF p d
theorem mar_le (p : List Int) : ∀ d, marF p d ≤ d
  | 0 => Nat.le_refl 0
  | d + 1 => by
    unfold marF
    split
    · exact Nat.le_refl _
    · exact Nat.le_succ_of_le (mar_le p d)
theorem S84 (l : List Int) (hl : l.length ≤ 1000000) : SP 84 [ints l] (.tuple [i64 (if polyE l = 0 then if stabB l = true then (marF l 10 : Nat) else 0 else 0), i64 (if polyE l = 0 then if stabB l = true then 0 else 12 else polyE l)]) false := by
  have h37 := S37 l hl
  by_cases h0 : polyE l = 0
  · have hp := PolyOk.of h0
    rw [if_pos h0, if_pos h0]
    rw [if_pos h0, h0] at h37
    cases hs : stabB l with
    | true =>
      rw [if_pos rfl, if_pos rfl]
      rw [hs] at h37
      have h93 : SP 93 [vb true, i64 12] (i64 0) false := S93 true 12
      have h90 : ∀ f : Nat → List AV, (f 0 = [i64 0] ∧ f 1 = [i64 0]) → SP 90 [.rslice 1 2 f] (i64 0) false := fun f h => by
        have h := S90_2 0 0 h
        rwa [first2, if_neg (by simp)] at h
      refine sound (d := 2) tok2 mixed2 Tryz.func84 (by kernel_rfl) (by kernel_rfl) ?_
      conv => whnf
      refine .inl ⟨_, _, byX rfl (Sound1.pl (h37) rfl), ?_⟩
      conv => whnf
      refine .inl ⟨_, _, byX rfl (Sound1.pl (h93) rfl), ?_⟩
      conv => whnf
      refine .inl ⟨_, _, byX rfl (Sound1.pl (h90 _ ⟨rfl, rfl⟩) rfl), ?_⟩
      conv => whnf
      refine ⟨[], [0, 6], fun st mq => ∃ (k : Nat) (c : Int) (F0 : Nat → List AV), (c = (k : Nat)) ∧ (k ≤ 10) ∧ (marF l k = marF l 10) ∧ st = ⟨[(0, ints l), (6, i64 c)], ⟨[⟨1, 2, F0, 0, false, true, false⟩], [], none, 0⟩, []⟩ ∧ mq = k,
        ⟨_, _, ⟨10, 10, _, rfl, by omega, rfl, rfl, rfl⟩, ⟨⟨.inl rfl, rfl, rfl, rfl⟩, ⟨⟨rfl, rfl, rfl, rfl, fun _ => rfl, fun _ _ => .inl rfl⟩, trivial⟩, trivial⟩⟩, ?_⟩
      rintro s0 m0 ⟨k, c, F0, hc, hk, hm, rfl, hmeas⟩
      subst hc
      by_cases hk0 : k = 0
      · subst hk0
        rw [← hm]
        conv => whnf
        conv => whnf
        refine ⟨?_, nofun⟩
        exact ave_tup2 rfl rfl
      · obtain ⟨d, rfl⟩ : ∃ d, k = d + 1 := ⟨k - 1, by omega⟩
        have hsl := shP_len (-((d + 1 : Nat) : Int)) l
        have hpl := hp.len
        have h149 := S149 l (-((d + 1 : Nat) : Int)) hp.p2 hp.ps (by omega)
        have h64 := S64 (shP (-((d + 1 : Nat) : Int)) l) (by omega)
        by_cases hq : polyE (shP (-((d + 1 : Nat) : Int)) l) = 0
        · have h109 := S109 _ (PolyOk.of hq)
          rw [hq] at h64
          have hok : okS l (d + 1) = stabB (shP (-((d + 1 : Nat) : Int)) l) := if_pos hq
          cases hst : stabB (shP (-((d + 1 : Nat) : Int)) l) with
          | true =>
            rw [hst] at h109
            have hm2 : marF l (d + 1) = d + 1 := if_pos (hok.trans hst)
            rw [← hm, hm2]
            conv => whnf
            conv => whnf
            refine ifB_dec (fun w1 => ?_) (fun w1 => ?_)
            · conv => whnf
              conv => whnf
              refine ⟨inK64 (by omega) (by omega), ?_⟩
              conv => whnf
              conv => whnf
              refine .inl ⟨_, _, byX rfl (h149), ?_⟩
              conv => whnf
              conv => whnf
              refine .inl ⟨_, _, byX rfl (Sound1.pl (h64) rfl), ?_⟩
              conv => whnf
              conv => whnf
              refine .inl ⟨_, _, byX rfl (Sound1.pl (h109) rfl), ?_⟩
              conv => whnf
              conv => whnf
              refine ⟨?_, nofun⟩
              exact ave_tup2 rfl rfl
            · (exfalso; omega)
          | false =>
            rw [hst] at h109
            have hm2 : marF l (d + 1) = marF l d := if_neg (by rw [hok, hst]; nofun)
            conv => whnf
            conv => whnf
            refine ifB_dec (fun w1 => ?_) (fun w1 => ?_)
            · conv => whnf
              conv => whnf
              refine ⟨inK64 (by omega) (by omega), ?_⟩
              conv => whnf
              conv => whnf
              refine .inl ⟨_, _, byX rfl (h149), ?_⟩
              conv => whnf
              conv => whnf
              refine .inl ⟨_, _, byX rfl (Sound1.pl (h64) rfl), ?_⟩
              conv => whnf
              conv => whnf
              refine .inl ⟨_, _, byX rfl (Sound1.pl (h109) rfl), ?_⟩
              conv => whnf
              conv => whnf
              refine ⟨inK64 (by omega) (by omega), ?_⟩
              conv => whnf
              conv => whnf
              refine ⟨_, _, ⟨⟨d, ((d + 1 : Nat) : Int) - 1, _, by omega, by omega, hm2.symm.trans hm, rfl, rfl⟩, by omega⟩, ⟨⟨.inl rfl, rfl, rfl, rfl⟩, ⟨⟨rfl, rfl, rfl, rfl, fun _ => rfl, fun _ _ => .inl rfl⟩, trivial⟩, trivial⟩⟩
            · (exfalso; omega)
        · have hok : okS l (d + 1) = false := if_neg hq
          have hm2 : marF l (d + 1) = marF l d := if_neg (by rw [hok]; nofun)
          conv => whnf
          conv => whnf
          refine ifB_dec (fun w1 => ?_) (fun w1 => ?_)
          · conv => whnf
            conv => whnf
            refine ⟨inK64 (by omega) (by omega), ?_⟩
            conv => whnf
            conv => whnf
            refine .inl ⟨_, _, byX rfl (h149), ?_⟩
            conv => whnf
            conv => whnf
            refine .inl ⟨_, _, byX rfl (Sound1.pl (h64) rfl), ?_⟩
            conv => whnf
            conv => whnf
            refine ifB_beq (fun w2 => ?_) (fun w2 => ?_)
            · (exfalso; omega)
            · conv => whnf
              conv => whnf
              refine ⟨inK64 (by omega) (by omega), ?_⟩
              conv => whnf
              conv => whnf
              refine ⟨_, _, ⟨⟨d, ((d + 1 : Nat) : Int) - 1, _, by omega, by omega, hm2.symm.trans hm, rfl, rfl⟩, by omega⟩, ⟨⟨.inl rfl, rfl, rfl, rfl⟩, ⟨⟨rfl, rfl, rfl, rfl, fun _ => rfl, fun _ _ => .inl rfl⟩, trivial⟩, trivial⟩⟩
          · (exfalso; omega)
    | false =>
      rw [if_neg (by nofun), if_neg (by nofun)]
      rw [hs] at h37
      have h93 : SP 93 [vb false, i64 12] (i64 12) false := S93 false 12
      have h90 : ∀ f : Nat → List AV, (f 0 = [i64 0] ∧ f 1 = [i64 12]) → SP 90 [.rslice 1 2 f] (i64 12) false := fun f h => by
        have h := S90_2 0 12 h
        rwa [first2, if_neg (by simp)] at h
      refine sound (d := 2) tok2 mixed2 Tryz.func84 (by kernel_rfl) (by kernel_rfl) ?_
      conv => whnf
      refine .inl ⟨_, _, byX rfl (Sound1.pl (h37) rfl), ?_⟩
      conv => whnf
      refine .inl ⟨_, _, byX rfl (Sound1.pl (h93) rfl), ?_⟩
      conv => whnf
      refine .inl ⟨_, _, byX rfl (Sound1.pl (h90 _ ⟨rfl, rfl⟩) rfl), ?_⟩
      conv => whnf
      refine ⟨?_, nofun⟩
      exact ave_tup2 rfl rfl
  · rw [if_neg h0, if_neg h0]
    rw [if_neg h0] at h37
    have h93 : SP 93 [vb false, i64 12] (i64 12) false := S93 false 12
    have h90 : ∀ (f : Nat → List AV), (f 0 = [i64 (polyE l)] ∧ f 1 = [i64 12]) → SP 90 [.rslice 1 2 f] (i64 (polyE l)) false := fun f h => by
      have h := S90_2 (polyE l) 12 h
      rwa [first2, if_pos h0] at h
    refine sound (d := 2) tok2 mixed2 Tryz.func84 (by kernel_rfl) (by kernel_rfl) ?_
    conv => whnf
    refine .inl ⟨_, _, byX rfl (Sound1.pl (h37) rfl), ?_⟩
    conv => whnf
    refine .inl ⟨_, _, byX rfl (Sound1.pl (h93) rfl), ?_⟩
    conv => whnf
    refine .inl ⟨_, _, byX rfl (Sound1.pl (h90 _ ⟨rfl, rfl⟩) rfl), ?_⟩
    conv => whnf
    refine ifB_bne (fun w1 => ?_) (fun w1 => ?_)
    · conv => whnf
      refine ⟨?_, nofun⟩
      exact ave_tup2 rfl rfl
    · (exfalso; omega)
end Go.Tr

/- The law GovernorMargins returns true. Conditions: none. -/
namespace Go.Tr
open Go Go.Proofs
set_option maxRecDepth 20000
set_option maxHeartbeats 8000000

theorem coefs_of {l : List Int} (h : polyE l = 0) : coefsE l = 0 := by
  unfold polyE at h
  by_cases h1 : shapeE l.length = 0
  · rw [if_neg (not_not_intro h1)] at h
    by_cases h2 : coefsE l = 0
    · exact h2
    · rw [if_pos h2] at h; exact absurd h h2
  · rw [if_pos h1] at h; exact absurd h h1
theorem shE_in {t : Int} {l : List Int} (ht : -10 ≤ t ∧ t ≤ 10) : shE t l = if coefsE (shP t l) ≠ 0 then 8 else 0 := if_neg (not_not_intro ht)
theorem S86 (l : List Int) (hp : PolyOk l) : SP 86 [ints l] (.tuple [i64 (if stabB l = true then (marF l 10 : Nat) else 0), vb (stabB l)]) false := by
  have h67 := S67 l hp
  have hpl := hp.len
  cases hs : stabB l with
  | false =>
    rw [hs] at h67
    rw [if_neg (by nofun)]
    refine sound (d := 2) tok2 mixed2 Tryz.func86 (by kernel_rfl) (by kernel_rfl) ?_
    conv => whnf
    refine .inl ⟨_, _, byX rfl (Sound1.pl (h67) rfl), ?_⟩
    conv => whnf
    refine ⟨?_, nofun⟩
    exact ave_tup2 rfl rfl
  | true =>
    rw [hs] at h67
    rw [if_pos rfl]
    refine sound (d := 2) tok2 mixed2 Tryz.func86 (by kernel_rfl) (by kernel_rfl) ?_
    conv => whnf
    refine .inl ⟨_, _, byX rfl (Sound1.pl (h67) rfl), ?_⟩
    conv => whnf
    refine ⟨[], [0, 4, 5], fun st mq => ∃ (d : Nat) (n : Nat), (d ≤ 10) ∧ (n = marF l d) ∧ st = ⟨[(0, ints l), (4, i64 n), (5, i64 (d + 1 : Nat))], ⟨[], [], none, 0⟩, []⟩ ∧ mq = 10 - d,
      ⟨_, _, ⟨0, 0, by omega, rfl, rfl, rfl⟩, ⟨⟨.inl rfl, rfl, rfl, rfl⟩, trivial, trivial⟩⟩, ?_⟩
    rintro s0 m0 ⟨d, n, hd, hn, rfl, hmeas⟩
    by_cases hlt : d < 10
    · have h85 := S85 l (-((d + 1 : Nat) : Int)) hp.p2 hp.ps
      have hE := shE_in (t := -((d + 1 : Nat) : Int)) (l := l) (by omega)
      have hsl := shP_len (-((d + 1 : Nat) : Int)) l
      by_cases hc : coefsE (shP (-((d + 1 : Nat) : Int)) l) = 0
      · rw [if_neg (not_not_intro hc)] at hE
        rw [hE, if_pos rfl] at h85
        have h21 := S21 (shP (-((d + 1 : Nat) : Int)) l) (by omega)
        by_cases hq : polyE (shP (-((d + 1 : Nat) : Int)) l) = 0
        · rw [hq] at h21
          have h67q := S67 _ (PolyOk.of hq)
          have hok : okS l (d + 1) = stabB (shP (-((d + 1 : Nat) : Int)) l) := if_pos hq
          cases hst : stabB (shP (-((d + 1 : Nat) : Int)) l) with
          | true =>
            rw [hst] at h67q
            have hm2 : marF l (d + 1) = d + 1 := if_pos (hok.trans hst)
            conv => whnf
            conv => whnf
            refine ifB_dec (fun w1 => ?_) (fun w1 => ?_)
            · conv => whnf
              conv => whnf
              refine ⟨inK64 (by omega) (by omega), ?_⟩
              conv => whnf
              conv => whnf
              refine .inl ⟨_, _, byX rfl (h85), ?_⟩
              conv => whnf
              conv => whnf
              refine .inl ⟨_, _, byX rfl (Sound1.pl (h21) rfl), ?_⟩
              conv => whnf
              conv => whnf
              refine .inl ⟨_, _, byX rfl (Sound1.pl (h67q) rfl), ?_⟩
              conv => whnf
              conv => whnf
              refine ⟨inK64 (by omega) (by omega), ?_⟩
              conv => whnf
              conv => whnf
              refine ⟨_, _, ⟨⟨d + 1, d + 1, by omega, hm2.symm, rfl, rfl⟩, by omega⟩, ⟨⟨.inl rfl, rfl, rfl, rfl⟩, trivial, trivial⟩⟩
            · (exfalso; omega)
          | false =>
            rw [hst] at h67q
            have hm2 : marF l (d + 1) = marF l d := if_neg (by rw [hok, hst]; nofun)
            conv => whnf
            conv => whnf
            refine ifB_dec (fun w1 => ?_) (fun w1 => ?_)
            · conv => whnf
              conv => whnf
              refine ⟨inK64 (by omega) (by omega), ?_⟩
              conv => whnf
              conv => whnf
              refine .inl ⟨_, _, byX rfl (h85), ?_⟩
              conv => whnf
              conv => whnf
              refine .inl ⟨_, _, byX rfl (Sound1.pl (h21) rfl), ?_⟩
              conv => whnf
              conv => whnf
              refine .inl ⟨_, _, byX rfl (Sound1.pl (h67q) rfl), ?_⟩
              conv => whnf
              conv => whnf
              refine ⟨inK64 (by omega) (by omega), ?_⟩
              conv => whnf
              conv => whnf
              refine ⟨_, _, ⟨⟨d + 1, n, by omega, hn.trans hm2.symm, rfl, rfl⟩, by omega⟩, ⟨⟨.inl rfl, rfl, rfl, rfl⟩, trivial, trivial⟩⟩
            · (exfalso; omega)
        · have hok : okS l (d + 1) = false := if_neg hq
          have hm2 : marF l (d + 1) = marF l d := if_neg (by rw [hok]; nofun)
          conv => whnf
          conv => whnf
          refine ifB_dec (fun w1 => ?_) (fun w1 => ?_)
          · conv => whnf
            conv => whnf
            refine ⟨inK64 (by omega) (by omega), ?_⟩
            conv => whnf
            conv => whnf
            refine .inl ⟨_, _, byX rfl (h85), ?_⟩
            conv => whnf
            conv => whnf
            refine .inl ⟨_, _, byX rfl (Sound1.pl (h21) rfl), ?_⟩
            conv => whnf
            conv => whnf
            refine ifB_beq (fun w2 => ?_) (fun w2 => ?_)
            · (exfalso; omega)
            · conv => whnf
              conv => whnf
              refine ⟨inK64 (by omega) (by omega), ?_⟩
              conv => whnf
              conv => whnf
              refine ⟨_, _, ⟨⟨d + 1, n, by omega, hn.trans hm2.symm, rfl, rfl⟩, by omega⟩, ⟨⟨.inl rfl, rfl, rfl, rfl⟩, trivial, trivial⟩⟩
          · (exfalso; omega)
      · rw [if_pos hc] at hE
        rw [hE, if_neg (show ¬ (8 : Int) = 0 by decide)] at h85
        have hok : okS l (d + 1) = false := if_neg (fun h => hc (coefs_of h))
        have hm2 : marF l (d + 1) = marF l d := if_neg (by rw [hok]; nofun)
        conv => whnf
        conv => whnf
        refine ifB_dec (fun w1 => ?_) (fun w1 => ?_)
        · conv => whnf
          conv => whnf
          refine ⟨inK64 (by omega) (by omega), ?_⟩
          conv => whnf
          conv => whnf
          refine .inl ⟨_, _, byX rfl (h85), ?_⟩
          conv => whnf
          conv => whnf
          refine ⟨inK64 (by omega) (by omega), ?_⟩
          conv => whnf
          conv => whnf
          refine ⟨_, _, ⟨⟨d + 1, n, by omega, hn.trans hm2.symm, rfl, rfl⟩, by omega⟩, ⟨⟨.inl rfl, rfl, rfl, rfl⟩, trivial, trivial⟩⟩
        · (exfalso; omega)
    · have e : d = 10 := by omega
      subst e
      subst hn
      conv => whnf
      conv => whnf
      refine ⟨?_, nofun⟩
      exact ave_tup2 rfl rfl
theorem S14 (l : List Int) (t : Int) (hl : l.length ≤ 9223372036854775807) : SP 14 [ints l, i64 t] (vb true) false := by
  have h17 := S17 l hl
  by_cases hls : l.length ≤ 7
  · rw [decide_eq_true hls] at h17
    have hl1 : l.length ≤ 1000000 := by omega
    have h19 := S19 l hl1
    have h83 := S83 l t hl1
    have h84 := S84 l hl1
    have h21 := S21 l hl1
    by_cases h0 : polyE l = 0
    · have hp := PolyOk.of h0
      have hE : shftE t l = shE t l := if_pos h0
      rw [hE] at h83
      rw [if_pos h0, if_pos h0] at h84
      rw [h0] at h21
      have h85 := S85 l t hp.p2 hp.ps
      have h86 := S86 l hp
      have hpl := hp.len
      have hsl : (if shE t l = 0 then shP t l else []).length ≤ 1000 := by
        split
        · rw [shP_len]; exact hpl
        · simp
      generalize (if shE t l = 0 then shP t l else []) = R at h83 h85 hsl
      have h26 := S26 R R (by omega) (by omega)
      rw [decide_eq_true rfl] at h26
      cases hs : stabB l with
      | true =>
        rw [hs, if_pos rfl, if_pos rfl] at h84
        rw [hs, if_pos rfl] at h86
        refine sound (d := 2) tok2 mixed2 Tryz.func14 (by kernel_rfl) (by kernel_rfl) ?_
        conv => whnf
        refine .inl ⟨_, _, byX rfl (Sound1.pl (S16) rfl), ?_⟩
        conv => whnf
        refine .inl ⟨_, _, byX rfl (Sound1.pl (h17) rfl), ?_⟩
        conv => whnf
        refine .inl ⟨_, _, byX rfl (h19), ?_⟩
        conv => whnf
        refine .inl ⟨_, _, byX rfl (h83), ?_⟩
        conv => whnf
        refine .inl ⟨_, _, byX rfl (h19), ?_⟩
        conv => whnf
        refine .inl ⟨_, _, byX rfl (Sound1.pl (h84) rfl), ?_⟩
        conv => whnf
        refine .inl ⟨_, _, byX rfl (Sound1.pl (h21) rfl), ?_⟩
        conv => whnf
        refine .inl ⟨_, _, byX rfl (h85), ?_⟩
        conv => whnf
        refine .inl ⟨_, _, byX rfl (Sound1.pl (h86) rfl), ?_⟩
        conv => whnf
        refine ifB_beq (fun w1 => ?_) (fun w1 => ?_)
        · conv => whnf
          refine .inl ⟨_, _, byX rfl (Sound1.pl (h26) rfl), ?_⟩
          conv => whnf
          refine ifB_beq (fun w2 => ?_) (fun w2 => ?_)
          · conv => whnf
            refine ⟨?_, nofun⟩
            (rfl)
          · (exfalso; omega)
        · (exfalso; omega)
      | false =>
        rw [hs, if_neg (by nofun), if_neg (by nofun)] at h84
        rw [hs, if_neg (by nofun)] at h86
        refine sound (d := 2) tok2 mixed2 Tryz.func14 (by kernel_rfl) (by kernel_rfl) ?_
        conv => whnf
        refine .inl ⟨_, _, byX rfl (Sound1.pl (S16) rfl), ?_⟩
        conv => whnf
        refine .inl ⟨_, _, byX rfl (Sound1.pl (h17) rfl), ?_⟩
        conv => whnf
        refine .inl ⟨_, _, byX rfl (h19), ?_⟩
        conv => whnf
        refine .inl ⟨_, _, byX rfl (h83), ?_⟩
        conv => whnf
        refine .inl ⟨_, _, byX rfl (h19), ?_⟩
        conv => whnf
        refine .inl ⟨_, _, byX rfl (Sound1.pl (h84) rfl), ?_⟩
        conv => whnf
        refine .inl ⟨_, _, byX rfl (Sound1.pl (h21) rfl), ?_⟩
        conv => whnf
        refine .inl ⟨_, _, byX rfl (h85), ?_⟩
        conv => whnf
        refine .inl ⟨_, _, byX rfl (Sound1.pl (h86) rfl), ?_⟩
        conv => whnf
        refine ifB_beq (fun w1 => ?_) (fun w1 => ?_)
        · conv => whnf
          refine .inl ⟨_, _, byX rfl (Sound1.pl (h26) rfl), ?_⟩
          conv => whnf
          refine ⟨?_, nofun⟩
          (rfl)
        · (exfalso; omega)
    · have hE : shftE t l = polyE l := if_neg h0
      rw [hE, if_neg h0] at h83
      rw [if_neg h0, if_neg h0] at h84
      refine sound (d := 2) tok2 mixed2 Tryz.func14 (by kernel_rfl) (by kernel_rfl) ?_
      conv => whnf
      refine .inl ⟨_, _, byX rfl (Sound1.pl (S16) rfl), ?_⟩
      conv => whnf
      refine .inl ⟨_, _, byX rfl (Sound1.pl (h17) rfl), ?_⟩
      conv => whnf
      refine .inl ⟨_, _, byX rfl (h19), ?_⟩
      conv => whnf
      refine .inl ⟨_, _, byX rfl (h83), ?_⟩
      conv => whnf
      refine .inl ⟨_, _, byX rfl (h19), ?_⟩
      conv => whnf
      refine .inl ⟨_, _, byX rfl (Sound1.pl (h84) rfl), ?_⟩
      conv => whnf
      refine .inl ⟨_, _, byX rfl (Sound1.pl (h21) rfl), ?_⟩
      conv => whnf
      refine ifB_bne (fun w1 => ?_) (fun w1 => ?_)
      · conv => whnf
        refine ifB_beq (fun w2 => ?_) (fun w2 => ?_)
        · conv => whnf
          refine ifB_beq (fun w3 => ?_) (fun w3 => ?_)
          · conv => whnf
            refine ⟨?_, nofun⟩
            (rfl)
          · (exfalso; omega)
        · (exfalso; omega)
      · (exfalso; omega)
  · rw [decide_eq_false hls] at h17
    refine sound (d := 2) tok2 mixed2 Tryz.func14 (by kernel_rfl) (by kernel_rfl) ?_
    conv => whnf
    refine .inl ⟨_, _, byX rfl (Sound1.pl (S16) rfl), ?_⟩
    conv => whnf
    refine .inl ⟨_, _, byX rfl (Sound1.pl (h17) rfl), ?_⟩
    conv => whnf
    refine ⟨?_, nofun⟩
    rfl
end Go.Tr

/- The opening of a law: what an argument reads as, as abstract values, with its shape. Conditions: types of numbers, truth values, strings, slices, structs and arrays. -/
namespace Go.Tr
open Go Go.RowKit

def V2 (P : Program) (w : World) (q : Nat → Prop) : List AV → List Value → Prop
  | [], [] => True
  | x :: xs, v :: vs => (VT P w q x v ∧ v.oneCell' = true) ∧ V2 P w q xs vs
  | _, _ => False

def All2 {α β : Type} (p : α → β → Prop) : List α → List β → Prop
  | [], [] => True
  | x :: xs, y :: ys => p x y ∧ All2 p xs ys
  | _, _ => False

/-- The shape of what a type's cells read as. -/
def TyC (P : Program) : Nat → TypeId → List AV → Prop
  | 0, _, _ => True
  | m + 1, t, xs => match P.underlying t with
    | some .bool => ∃ b, xs = [.val (.bool b)]
    | some (.int k) => ∃ n, xs = [.val (.int k n)] ∧ inK k n
    | some .string => ∃ s : ByteArray, xs = [.val (.string s)] ∧ s.size ≤ 9223372036854775807
    | some (.slice e) => ∃ len f, xs = [.rslice (P.cellsOf e) len f] ∧ len ≤ 9223372036854775807 ∧ ∀ i, i < len → TyC P m e (f i)
    | some (.struct fs) => ∃ ps : List (List AV), xs = ps.flatten ∧ All2 (fun f p => TyC P m f.type p) fs.toList ps
    | some (.array n e) => ∃ ps : List (List AV), xs = ps.flatten ∧ ps.length = n ∧ ∀ p ∈ ps, TyC P m e p
    | _ => False

def layF (P : Program) (g : TypeId → Bool) : List Field → Nat → Nat → Bool
  | [], off, tot => Nat.beq off tot
  | f :: r, off, tot => Nat.beq f.offset off && g f.type && layF P g r (off + P.cellsOf f.type) tot

/-- Types that are covered, laid out part behind part. -/
def lay (P : Program) : Nat → TypeId → Bool
  | 0, _ => false
  | m + 1, t => match P.underlying t with
    | some .bool | some (.int _) | some .string => true
    | some (.slice e) => Nat.blt 0 (P.cellsOf e) && lay P m e
    | some (.struct fs) => layF P (lay P m) fs.toList 0 (P.cellsOf t)
    | some (.array n e) => Nat.beq (P.cellsOf t) (n * P.cellsOf e) && lay P m e
    | _ => false

section
variable {H : Type} {enc : TypeId × Value → H} {P : Program} {w : World} {spare : Nat → Bool} {held : Bool} {q : Nat → Prop}

theorem V2_len : ∀ {xs : List AV} {vs : List Value}, V2 P w q xs vs → xs.length = vs.length
  | [], [], _ => rfl
  | x :: xs, v :: vs, h => by simp [V2_len h.2]
  | [], _ :: _, h => h.elim
  | _ :: _, [], h => h.elim

theorem V2_append : ∀ {xs : List AV} {vs : List Value} {ys : List AV} {us : List Value}, V2 P w q xs vs → V2 P w q ys us → V2 P w q (xs ++ ys) (vs ++ us)
  | [], [], _, _, _, h => h
  | _ :: _, _ :: _, _, _, h, h' => ⟨h.1, V2_append h.2 h'⟩
  | [], _ :: _, _, _, h, _ => h.elim
  | _ :: _, [], _, _, h, _ => h.elim

theorem V2_get : ∀ {xs : List AV} {vs : List Value}, V2 P w q xs vs → ∀ (i : Nat) x, xs[i]? = some x → VT P w q x (vs.getD i undef) ∧ (vs.getD i undef).oneCell' = true
  | [], [], _, i, x, hx => by simp at hx
  | y :: ys, v :: vs, h, 0, x, hx => by
    simp at hx
    subst hx
    simpa using h.1
  | y :: ys, v :: vs, h, i + 1, x, hx => by
    have := V2_get h.2 i x (by simpa using hx)
    simpa using this
  | [], _ :: _, h, _, _, _ => h.elim
  | _ :: _, [], h, _, _, _ => h.elim

theorem mapM_cons_some {α β : Type} {f : α → Option β} {a : α} {l : List α} {r : List β} (h : (a :: l).mapM f = some r) : ∃ b bs, f a = some b ∧ l.mapM f = some bs ∧ r = b :: bs := by
  rw [List.mapM_cons] at h
  cases ha : f a with
  | none => simp [ha] at h
  | some b =>
    cases hl : l.mapM f with
    | none => simp [ha, hl] at h
    | some bs => simp [ha, hl] at h; exact ⟨b, bs, rfl, rfl, h.symm⟩

theorem mapM_get {α β : Type} {f : α → Option β} : ∀ {l : List α} {r : List β}, l.mapM f = some r → r.length = l.length ∧ ∀ (i : Nat) x, l[i]? = some x → ∃ y, f x = some y ∧ r[i]? = some y
  | [], r, h => by simp at h; subst h; exact ⟨rfl, fun i x hx => by simp at hx⟩
  | a :: l, r, h => by
    obtain ⟨b, bs, h1, h2, rfl⟩ := mapM_cons_some h
    obtain ⟨g1, g2⟩ := mapM_get h2
    refine ⟨by simp [g1], fun i x hx => ?_⟩
    cases i with
    | zero => simp at hx; subst hx; exact ⟨b, h1, rfl⟩
    | succ i => simpa using g2 i x (by simpa using hx)

theorem cells_some {a : Addr} {n : Nat} {cs : List Value} (h : w.cells? 0 a n = some cs) : cs.length = n ∧ ∀ j, j < n → w.cell? (a.add j) = some (cs.getD j undef) := by
  unfold World.cells? at h
  rw [if_pos (Nat.zero_le _)] at h
  obtain ⟨h1, h2⟩ := mapM_get h
  refine ⟨by simpa using h1, fun j hj => ?_⟩
  obtain ⟨y, h3, h4⟩ := h2 j j (by simp [hj])
  rw [h3, List.getD_eq_getElem?_getD, h4]
  rfl

theorem cell_spot {a : Addr} {v : Value} (h : w.cell? a = some v) : a.spot = none ∧ a.block < w.heap.size := by
  unfold World.cell? at h
  split at h
  · rename_i c t fr hb
    refine ⟨?_, ?_⟩
    · cases hs : a.spot with
      | none => rfl
      | some s => simp [hs] at h
    · exact (Array.getElem?_eq_some_iff.1 hb).1
  · cases h

theorem addr_add2 (blk off u j : Nat) : ((⟨blk, off, none⟩ : Addr).add u).add j = ⟨blk, off + (u + j), none⟩ := by
  unfold Addr.add
  by_cases h1 : u = 0
  · subst h1
    by_cases h2 : j = 0
    · subst h2; rfl
    · simp [h2]
  · by_cases h2 : j = 0
    · subst h2; simp [h1]
    · simp [h1, h2, Nat.add_assoc]

theorem fields_av {g : TypeId → List Value → Option (DataW H × List MemPlace)} {T : TypeId → List AV → Prop} {ly : TypeId → Bool}
    (ih : ∀ t, ly t = true → ∀ cs x, g t cs = some x → ∃ xs, V2 P w q xs cs ∧ T t xs) (cs : List Value) : ∀ (fs : List Field) (off : Nat) (r : List (DataW H × List MemPlace)), layF P ly fs off cs.length = true →
    (fs.mapM fun f => g f.type ((cs.drop f.offset).take (P.cellsOf f.type))) = some r → ∃ ps : List (List AV), V2 P w q ps.flatten (cs.drop off) ∧ All2 (fun f p => T f.type p) fs ps
  | [], off, r, hl, h => by
    have := Nat.eq_of_beq_eq_true hl
    subst this
    exact ⟨[], by simp [V2], trivial⟩
  | f :: fs, off, r, hl, h => by
    simp only [layF, Bool.and_eq_true] at hl
    obtain ⟨⟨h1, h2⟩, h3⟩ := hl
    have e := Nat.eq_of_beq_eq_true h1
    obtain ⟨b, bs, g1, g2, rfl⟩ := mapM_cons_some h
    obtain ⟨p, p1, p2⟩ := ih _ h2 _ _ g1
    obtain ⟨ps, r1, r2⟩ := fields_av ih cs fs _ _ h3 g2
    refine ⟨p :: ps, ?_, p2, r2⟩
    rw [List.flatten_cons]
    have : cs.drop off = (cs.drop f.offset).take (P.cellsOf f.type) ++ cs.drop (off + P.cellsOf f.type) := by
      rw [e, ← List.drop_drop]
      exact (List.take_append_drop _ _).symm
    rw [this]
    exact V2_append p1 r1

theorem items_av {g : List Value → Option (DataW H × List MemPlace)} {T : List AV → Prop} (ih : ∀ cs x, g cs = some x → ∃ xs, V2 P w q xs cs ∧ T xs) (cs : List Value) (s n : Nat) (hn : cs.length = n * s)
    (h : ∀ i, i < n → ∃ x, g ((cs.drop (i * s)).take s) = some x) : ∀ (k i : Nat), i + k = n → ∃ ps : List (List AV), V2 P w q ps.flatten (cs.drop (i * s)) ∧ ps.length = k ∧ ∀ p ∈ ps, T p
  | 0, i, hi => by
    have : i = n := by omega
    subst this
    refine ⟨[], ?_, rfl, nofun⟩
    rw [List.drop_eq_nil_of_le (by omega)]
    exact trivial
  | k + 1, i, hi => by
    obtain ⟨x, hx⟩ := h i (by omega)
    obtain ⟨p, p1, p2⟩ := ih _ _ hx
    obtain ⟨ps, r1, r2, r3⟩ := items_av ih cs s n hn h k (i + 1) (by omega)
    refine ⟨p :: ps, ?_, by simp [r2], fun y hy => ?_⟩
    · rw [List.flatten_cons]
      have : cs.drop (i * s) = (cs.drop (i * s)).take s ++ cs.drop ((i + 1) * s) := by
        rw [Nat.succ_mul, ← List.drop_drop]
        exact (List.take_append_drop _ _).symm
      rw [this]
      exact V2_append p1 r1
    · rcases List.mem_cons.1 hy with rfl | hy
      · exact p2
      · exact r3 y hy

theorem trod_av (hq : ∀ b, b < w.heap.size → q b) : ∀ (m : Nat) (t : TypeId), lay P m t = true → ∀ (fuel : Nat) (cs : List Value) (x : DataW H × List MemPlace), DataW.trod enc P w 0 spare held fuel t cs = some x → ∃ xs, V2 P w q xs cs ∧ TyC P m t xs
  | 0, t, hl, _, _, _, _ => by simp [lay] at hl
  | m + 1, t, hl, 0, cs, x, h => by simp [DataW.trod] at h
  | m + 1, t, hl, fuel + 1, cs, x, h => by
    unfold lay at hl
    unfold TyC
    unfold DataW.trod at h
    cases hu : P.underlying t with
    | none => simp [hu] at hl
    | some d =>
      simp only [hu] at hl h ⊢
      cases d with
      | bool =>
        split at h <;> first | (cases h; done) | (rename_i e; cases e; done) | skip
        cases h
        exact ⟨[.val (.bool _)], ⟨⟨.val _, rfl⟩, trivial⟩, _, rfl⟩
      | int k =>
        split at h <;> first | (cases h; done) | (rename_i e; cases e; done) | skip
        rename_i e
        cases e
        split at h
        · rename_i hk
          obtain ⟨rfl, hw⟩ := hk
          simp only [Lit.wf, Bool.and_eq_true, decide_eq_true_eq] at hw
          exact ⟨[.val (.int _ _)], ⟨⟨.val _, rfl⟩, trivial⟩, _, rfl, hw⟩
        · cases h
      | string =>
        split at h <;> first | (cases h; done) | (rename_i e; cases e; done) | skip
        split at h
        · rename_i hs
          exact ⟨[.val (.string _)], ⟨⟨.val _, rfl⟩, trivial⟩, _, rfl, hs⟩
        · cases h
      | slice e =>
        simp only [Bool.and_eq_true] at hl
        split at h <;> first | (cases h; done) | (rename_i e; cases e; done) | skip
        · exact ⟨[.rslice (P.cellsOf e) 0 fun _ => []], ⟨⟨.rslice0 _ _ _ _, rfl⟩, trivial⟩, _, _, rfl, by omega, fun i hi => absurd hi (Nat.not_lt_zero i)⟩
        · rename_i e0 a len cap e1
          cases e1
          split at h
          case isFalse => cases h
          rename_i hb
          have hes : 0 < P.cellsOf e := Nat.le_of_ble_eq_true hl.1
          cases hM : (List.range len).mapM fun i => (w.cells? 0 (a.add (i * P.cellsOf e)) (P.cellsOf e)).bind (DataW.trod enc P w 0 spare held fuel e) with
          | none => rw [hM] at h; cases h
          | some elems =>
            obtain ⟨_, g2⟩ := mapM_get hM
            have hx : ∀ i, ∃ xs : List AV, i < len → ∃ cs, (cs.length = P.cellsOf e ∧ ∀ j, j < P.cellsOf e → w.cell? ((a.add (i * P.cellsOf e)).add j) = some (cs.getD j undef)) ∧ V2 P w q xs cs ∧ TyC P m e xs := fun i => by
              by_cases hi : i < len
              · obtain ⟨y, y1, _⟩ := g2 i i (by simp [hi])
                cases hc : w.cells? 0 (a.add (i * P.cellsOf e)) (P.cellsOf e) with
                | none => rw [hc] at y1; cases y1
                | some cs1 =>
                  rw [hc] at y1
                  obtain ⟨xs, x1, x2⟩ := trod_av hq m e hl.2 _ _ _ y1
                  exact ⟨xs, fun _ => ⟨cs1, cells_some hc, x1, x2⟩⟩
              · exact ⟨[], fun h => absurd h hi⟩
            have hf := fun i => (Classical.choose_spec (hx i))
            generalize hF : (fun i => Classical.choose (hx i)) = F
            have hf : ∀ i, i < len → ∃ cs, (cs.length = P.cellsOf e ∧ ∀ j, j < P.cellsOf e → w.cell? ((a.add (i * P.cellsOf e)).add j) = some (cs.getD j undef)) ∧ V2 P w q (F i) cs ∧ TyC P m e (F i) := fun i hi => by
              have := Classical.choose_spec (hx i) hi
              rw [← hF]
              exact this
            refine ⟨[.rslice (P.cellsOf e) len F], ⟨⟨?_, rfl⟩, trivial⟩, len, F, rfl, ?_, fun i hi => ?_⟩
            · rcases Nat.eq_zero_or_pos len with rfl | hp
              · exact .rslice0 _ _ _ _
              · obtain ⟨cs0, c1, _, _⟩ := hf 0 hp
                have hc0 := c1.2 0 hes
                have e0 : ((a.add (0 * P.cellsOf e)).add 0) = a := by simp [Addr.add]
                rw [e0] at hc0
                obtain ⟨s1, s2⟩ := cell_spot hc0
                obtain ⟨blk, off, spot⟩ := a
                simp only at s1 s2
                subst s1
                have hG : ∀ i, ∃ cs : List Value, i < len → (cs.length = P.cellsOf e ∧ ∀ j, j < P.cellsOf e → w.cell? (((⟨blk, off, none⟩ : Addr).add (i * P.cellsOf e)).add j) = some (cs.getD j undef)) ∧ V2 P w q (F i) cs := fun i => by
                  by_cases hi : i < len
                  · obtain ⟨cs, c1, c2, _⟩ := hf i hi
                    exact ⟨cs, fun _ => ⟨c1, c2⟩⟩
                  · exact ⟨[], fun h => absurd h hi⟩
                refine .rslice _ _ _ blk off cap (fun i j => (Classical.choose (hG i)).getD j undef) hb.2.1 (hq _ s2) (fun i hi => ?_) (fun i j hi hj => ?_) (fun i j x hi hx => ?_)
                · obtain ⟨c1, c2⟩ := Classical.choose_spec (hG i) hi
                  rw [V2_len c2, c1.1]
                · obtain ⟨c1, c2⟩ := Classical.choose_spec (hG i) hi
                  have hc := c1.2 j hj
                  have ea : ((⟨blk, off, none⟩ : Addr).add (i * P.cellsOf e)).add j = ⟨blk, off + (i * P.cellsOf e + j), none⟩ := by
                    exact addr_add2 blk off _ j
                  rw [ea] at hc
                  refine ⟨hc, ?_⟩
                  have hlt : j < (F i).length := by rw [V2_len c2, c1.1]; exact hj
                  exact (V2_get c2 j _ (List.getElem?_eq_getElem hlt)).2
                · obtain ⟨c1, c2⟩ := Classical.choose_spec (hG i) hi
                  exact (V2_get c2 j x hx).1
            · have := hb.2.2
              unfold maxLen at this
              omega
            · obtain ⟨_, _, _, h3⟩ := hf i hi
              exact h3
      | struct fs =>
        replace h : (if cs.length = P.cellsOf t then (fs.toList.mapM fun f => DataW.trod enc P w 0 spare held fuel f.type ((cs.drop f.offset).take (P.cellsOf f.type))).map fun xs => (.agg (xs.map (·.1)), xs.flatMap (·.2)) else none) = some x := h
        split at h
        case isFalse => cases h
        rename_i hc
        cases hM : fs.toList.mapM fun f => DataW.trod enc P w 0 spare held fuel f.type ((cs.drop f.offset).take (P.cellsOf f.type)) with
        | none => rw [hM] at h; cases h
        | some r =>
          obtain ⟨ps, p1, p2⟩ := fields_av (T := TyC P m) (ly := lay P m) (fun t ht cs x hx => trod_av hq m t ht fuel cs x hx) cs fs.toList 0 r (by rw [hc]; exact hl) hM
          exact ⟨ps.flatten, by simpa using p1, ps, rfl, p2⟩
      | array n e =>
        simp only [Bool.and_eq_true] at hl
        replace h : (if cs.length = P.cellsOf t then ((List.range n).mapM fun i => DataW.trod enc P w 0 spare held fuel e ((cs.drop (i * P.cellsOf e)).take (P.cellsOf e))).map fun xs => (.agg (xs.map (·.1)), xs.flatMap (·.2)) else none) = some x := h
        split at h
        case isFalse => cases h
        rename_i hc
        cases hM : (List.range n).mapM fun i => DataW.trod enc P w 0 spare held fuel e ((cs.drop (i * P.cellsOf e)).take (P.cellsOf e)) with
        | none => rw [hM] at h; cases h
        | some r =>
          obtain ⟨_, g2⟩ := mapM_get hM
          obtain ⟨ps, p1, p2, p3⟩ := items_av (T := TyC P m e) (fun cs x hx => trod_av hq m e hl.2 fuel cs x hx) cs (P.cellsOf e) n (by rw [hc]; exact Nat.eq_of_beq_eq_true hl.1)
            (fun i hi => by obtain ⟨y, y1, _⟩ := g2 i i (by simp [hi]); exact ⟨y, y1⟩) n 0 (by omega)
          exact ⟨ps.flatten, by simpa using p1, ps, rfl, p2, p3⟩
      | _ => simp at hl

/-- The shape of an argument. -/
def TyA (P : Program) (m : Nat) (t : TypeId) (x : AV) : Prop :=
  match P.underlying t with
  | some (.struct _) | some (.array _ _) => ∃ xs, x = .agg xs ∧ TyC P m t xs
  | _ => TyC P m t [x]

/-- An argument of a law, as an abstract value. -/
theorem open_av {r : Reach} {b0 : Nat} {t : TypeId} {v : Value} {d : DataW H} {ps : List MemPlace} {m : Nat} (hl : lay P m t = true) (hq : ∀ b, b < w.heap.size → q b)
    (hv : Value.okWide P w r b0 t v) (hd : DataW.Trod enc P w 0 spare held t v d ps) : ∃ x, VT P w q x v ∧ TyA P m t x := by
  obtain ⟨fuel, hf⟩ := hd
  obtain ⟨xs, h1, h2⟩ := trod_av hq m t hl fuel _ _ hf
  have agg : ∀ cs, v = .agg cs → VT P w q (.agg xs) v := by
    rintro cs rfl
    have hlen := V2_len h1
    refine .agg xs cs (by rw [hlen]; simp [Value.cells]) (fun u hu => ?_) (fun i x hx => ?_)
    · obtain ⟨i, hi, rfl⟩ := List.getElem_of_mem hu
      have hx : i < xs.length := by rw [hlen]; simpa [Value.cells] using hi
      have := (V2_get h1 i _ (List.getElem?_eq_getElem hx)).2
      have hi' : i < cs.size := by simpa using hi
      simpa [Value.cells, List.getD_eq_getElem?_getD, hi'] using this
    · have := (V2_get h1 i x hx).1
      simpa [Value.cells, List.getD_eq_getElem?_getD, Array.getD_eq_getD_getElem?] using this
  have one : ∀ u, v.cells.toList = [u] → v = u → ∃ x, VT P w q x v ∧ TyC P m t [x] := by
    rintro u e rfl
    rw [e] at h1
    match xs, h1, h2 with
    | [x], h1, h2 => exact ⟨x, h1.1.1, h2⟩
  unfold TyA
  unfold Value.okWide at hv
  split
  · rename_i fs hu
    simp only [hu] at hv
    obtain ⟨cs, e, _, _⟩ := hv
    exact ⟨_, agg cs e, xs, rfl, h2⟩
  · rename_i n e hu
    simp only [hu] at hv
    obtain ⟨cs, e, _, _⟩ := hv
    exact ⟨_, agg cs e, xs, rfl, h2⟩
  · rename_i n1 n2
    have hc : Cell.okWide P w r b0 t v := by
      split at hv
      · rename_i hu; exact absurd hu (n1 _)
      · rename_i hu; exact absurd hu (n2 _ _)
      · exact hv
    cases v with
    | agg cs =>
      simp only [Cell.okWide] at hc
      split at hc <;> first | (rename_i e _; cases e; done) | (rename_i e; cases e; done) | (simp [Cell.ok] at hc)
    | tuple cs =>
      simp only [Cell.okWide] at hc
      split at hc <;> first | (rename_i e _; cases e; done) | (rename_i e; cases e; done) | (simp [Cell.ok] at hc)
    | _ => exact one _ rfl rfl
end
end Go.Tr

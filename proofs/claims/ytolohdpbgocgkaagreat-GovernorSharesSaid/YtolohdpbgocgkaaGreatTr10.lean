/- Contracts of chapter 6: the reference's shift, and margins. Conditions: none. -/
import Derived.Test.YtolohdpbgocgkaaGreatTr09
import Derived.Test.YtolohdpbgocgkaaGreatTr07
set_option linter.unusedSectionVars false
set_option linter.unnecessarySimpa false
set_option linter.unusedVariables false
set_option linter.unusedSimpArgs false

namespace Go.Tr
open Go Go.Proofs
set_option maxRecDepth 20000
set_option maxHeartbeats 8000000

/-- The reference's rounds. -/
def mxG (t : Int) (s : List Int) : Nat → Nat → List Int → List Int
  | 0, _, c => c
  | r + 1, j, c => mxG t s r (j + 1) (c.set (j + 1) (c.getD (j + 1) 0 + t * s.getD j 0))
def hoG (t : Int) (l : List Int) : Nat → Nat → List Int → List Int
  | 0, _, s => s
  | r + 1, i, s => hoG t l r (i + 1) ((mxG t s s.length 0 (s ++ [0])).set i ((mxG t s s.length 0 (s ++ [0])).getD i 0 + l.getD i 0))
def shR (t : Int) (l : List Int) : List Int := hoG t l (l.length - 1) 1 [l.getD 0 0]
theorem shR_eq (t : Int) (l : List Int) (h : 2 ≤ l.length ∧ l.length ≤ 5) : shR t l = shP t l := by
  match l, h with
  | [a, b], _ =>
    simp [shR, shP, hoG, mxG, shG, passG]
    grind
  | [a, b, c], _ =>
    simp [shR, shP, hoG, mxG, shG, passG]
    grind
  | [a, b, c, d], _ =>
    simp [shR, shP, hoG, mxG, shG, passG]
    grind
  | [a, b, c, d, e], _ =>
    simp [shR, shP, hoG, mxG, shG, passG]
    grind
  | [], h => simp at h
  | [_], h => simp at h
  | _ :: _ :: _ :: _ :: _ :: _ :: _, h => simp at h
theorem mx_len (t : Int) (s : List Int) : ∀ (r j : Nat) (c : List Int), (mxG t s r j c).length = c.length
  | 0, _, _ => rfl
  | r + 1, j, c => by unfold mxG; rw [mx_len t s r, List.length_set]
theorem S19x (l : List Int) (hl : l.length ≤ 1000000) : SP 19 [ints l] (ints l) true := by
  refine sound (d := 2) tok2 mixed2 Tryz.func19 (by kernel_rfl) (by kernel_rfl) ?_
  conv => whnf
  refine .inl ?_
  conv => whnf
  refine ⟨⟨(by omega), (by show _ * (8 + 1) ≤ _; omega)⟩, ?_⟩
  conv => whnf
  refine ⟨?_, fun _ => ⟨rfl, ?_⟩⟩
  · exact ⟨rfl, Nat.zero_add _, fun i hi => rfl⟩
  · exact ⟨fun i _ x hx => ⟨_, List.mem_singleton.1 hx⟩, trivial⟩
theorem set_sml2 {B : Nat} {X : List Int} {t y : Int} (ht : t.natAbs ≤ 10) (hy : y.natAbs ≤ B) (h : Sml B X) (k i : Nat) : Sml (11 * B) (X.set k (X.getD i 0 + t * y)) := fun x hx => by
  rcases List.mem_or_eq_of_mem_set hx with hx | hx
  · have := h x hx; omega
  · rw [hx]
    have e1 : (X.getD i 0).natAbs ≤ B := ent_sml h i
    have e2 := mul_sml ht hy
    omega
theorem pow_sml2 {s : Nat} (h : s ≤ 13) : 1000 * 11 ^ s ≤ 35000000000000000 := by
  have : 11 ^ s ≤ 11 ^ 13 := Nat.pow_le_pow_right (by decide) h
  omega
theorem pow_lo (s : Nat) : 1000 ≤ 1000 * 11 ^ s := by
  have : 1 ≤ 11 ^ s := Nat.one_le_pow _ _ (by decide)
  omega
/-- The error of a shift by a number. -/
def shE (t : Int) (l : List Int) : Int := if ¬(-10 ≤ t ∧ t ≤ 10) then 2 else if coefsE (shP t l) ≠ 0 then 8 else 0
theorem S85 (l : List Int) (t : Int) (h2 : 2 ≤ l.length ∧ l.length ≤ 5) (hs : Sml 1000 l) : SP 85 [ints l, i64 t] (.tuple [ints (if shE t l = 0 then shP t l else []), i64 (shE t l)]) false := by
  have h68 := S68 t (-10) 10
  have h68c := fun x => S68 x (-1000) 1000
  by_cases ht : -10 ≤ t ∧ t ≤ 10
  · have hta : t.natAbs ≤ 10 := by omega
    have hE : shE t l = if coefsE (shP t l) ≠ 0 then 8 else 0 := if_neg (not_not_intro ht)
    rw [hE]
    rw [← shR_eq t l h2]
    refine sound (d := 2) tok2 mixed2 Tryz.func85 (by kernel_rfl) (by kernel_rfl) ?_
    conv => whnf
    refine .inl ⟨_, _, byX rfl (Sound1.pl (h68) rfl), ?_⟩
    conv => whnf
    refine ifB_not ?_
    conv => whnf
    refine ifB_dec (fun w1 => ?_) (fun w1 => ?_)
    · conv => whnf
      refine ⟨⟨(by omega), (by omega)⟩, ?_⟩
      conv => whnf
      refine ⟨[.freeze 6], [0, 1, 6, 7], fun st mq => ∃ (i : Nat) (r : Nat) (s : List Int) (u : Nat), (i + r = l.length) ∧ (s.length = i) ∧ (1 ≤ i) ∧ (Sml (1000 * 11 ^ u) s) ∧ (u + 1 = tri i) ∧ (hoG t l r i s = shR t l) ∧ st = ⟨[(0, ints l), (1, i64 t), (6, .rslice 1 i fun k => [i64 (s.getD k 0)]), (7, i64 i)], ⟨[⟨1, 1, fun _ => [i64 (l.getD 0 0)], 0, true, true, true⟩], [], none, 0⟩, []⟩ ∧ mq = r,
        ⟨_, _, ⟨1, l.length - 1, [l.getD 0 0], 0, by omega, rfl, Nat.le_refl 1, (fun x hx => by rw [List.mem_singleton.1 hx]; exact ent_sml hs 0), rfl, rfl, rfl, rfl⟩, ⟨⟨.inr ⟨rfl, .inl rfl, ⟨rfl, .inl rfl, ⟨rfl, .inr (⟨rfl, rfl, fun k hk => (by have hk1 : k < 1 := hk; rw [show k = 0 by omega]; exact .inl rfl)⟩), ⟨rfl, .inl rfl, trivial⟩⟩⟩⟩, rfl, rfl, rfl⟩, ⟨⟨rfl, rfl, rfl, rfl, fun _ => rfl, fun k hk => .inl ((by have hk1 : k < 1 := hk; rw [show k = 0 by omega]; rfl))⟩, trivial⟩, trivial⟩⟩, ?_⟩
      rintro s0 m0 ⟨i, r, s, u, hi, hl, hi1, hS, hu, hH, rfl, hmeas⟩
      subst hl
      have h19 := S19x s (by omega)
      have hu14 : tri s.length ≤ 15 := by
        have : s.length = 1 ∨ s.length = 2 ∨ s.length = 3 ∨ s.length = 4 ∨ s.length = 5 := by omega
        rcases this with e | e | e | e | e <;> rw [e] <;> decide
      by_cases hr : r = 0
      · subst hr
        have hH2 : s = shR t l := hH
        conv => whnf
        conv => whnf
        refine ifB_dec (fun w2 => ?_) (fun w2 => ?_)
        · (exfalso; omega)
        · conv => whnf
          conv => whnf
          refine ⟨[], [6, 10], fun st mq => ∃ (k : Nat), (k ≤ s.length) ∧ ((eachI (fun _ x => coefE x) (s.drop k) k).2 = (eachI (fun _ x => coefE x) s 0).2) ∧ st = ⟨[(6, ints s), (10, i64 k)], ⟨[⟨1, 1, fun _ => [i64 (l.getD 0 0)], 0, true, true, true⟩], [], none, 0⟩, []⟩ ∧ mq = s.length - k,
            ⟨_, _, ⟨0, by omega, rfl, rfl, rfl⟩, ⟨⟨.inl rfl, rfl, rfl, rfl⟩, ⟨⟨rfl, rfl, rfl, rfl, fun _ => rfl, fun _ _ => .inl rfl⟩, trivial⟩, trivial⟩⟩, ?_⟩
          rintro s0 m0 ⟨k, hk, he, rfl, hmeas⟩
          by_cases hlt : k < s.length
          · have hd := eachI_drop (fun _ x => coefE x) s k hlt
            have h68k := h68c (s.getD (k : Int).toNat 0)
            conv => whnf
            conv => whnf
            conv => whnf
            refine ifB_dec (fun w3 => ?_) (fun w3 => ?_)
            · conv => whnf
              conv => whnf
              conv => whnf
              refine ⟨⟨(by omega), (by omega)⟩, ?_⟩
              conv => whnf
              conv => whnf
              conv => whnf
              refine .inl ⟨_, _, byX rfl (Sound1.pl (h68k) rfl), ?_⟩
              conv => whnf
              conv => whnf
              conv => whnf
              refine ifB_not ?_
              conv => whnf
              conv => whnf
              conv => whnf
              refine ifB_dec (fun w4 => ?_) (fun w4 => ?_)
              · conv => whnf
                conv => whnf
                conv => whnf
                refine ⟨inK64 (by omega) (by omega), ?_⟩
                have w4 : -1000 ≤ s.getD k 0 ∧ s.getD k 0 ≤ 1000 := w4
                rw [if_pos (show coefE (s.getD k 0) = 0 from if_pos w4)] at hd
                rw [hd] at he
                conv => whnf
                conv => whnf
                conv => whnf
                refine ⟨_, _, ⟨⟨k + 1, by omega, he, rfl, rfl⟩, by omega⟩, ⟨⟨.inl rfl, rfl, rfl, rfl⟩, ⟨⟨rfl, rfl, rfl, rfl, fun _ => rfl, fun _ _ => .inl rfl⟩, trivial⟩, trivial⟩⟩
              · conv => whnf
                conv => whnf
                conv => whnf
                refine ⟨?_, nofun⟩
                have w4 : ¬(-1000 ≤ s.getD k 0 ∧ s.getD k 0 ≤ 1000) := w4
                have hc : coefE (s.getD k 0) = 2 := if_neg w4
                rw [hc, if_neg (by decide)] at hd
                rw [hd] at he
                have hcs : coefsE s = 2 := he.symm
                rw [← hH2, hcs, if_pos (show (2 : Int) ≠ 0 by decide), if_neg (show ¬ (8 : Int) = 0 by decide)]
                exact ave_tup2 rfl rfl
            · (exfalso; omega)
          · have e : k = s.length := by omega
            subst e
            rw [List.drop_length] at he
            have hcs : coefsE s = 0 := he.symm
            rw [← hH2, hcs, if_neg (show ¬ (0 : Int) ≠ 0 by decide), if_pos (show (0 : Int) = 0 by decide)]
            conv => whnf
            conv => whnf
            conv => whnf
            refine ifB_dec (fun w3 => ?_) (fun w3 => ?_)
            · (exfalso; omega)
            · conv => whnf
              conv => whnf
              conv => whnf
              refine ⟨?_, nofun⟩
              exact ave_tup2 ⟨rfl, rfl, fun i hi => rfl⟩ rfl
      · obtain ⟨q, rfl⟩ : ∃ q, r = q + 1 := ⟨r - 1, by omega⟩
        have hu10 := tri_le (show s.length ≤ 4 by omega)
        conv => whnf
        conv => whnf
        refine ifB_dec (fun w2 => ?_) (fun w2 => ?_)
        · conv => whnf
          conv => whnf
          refine .inl ⟨_, _, byX rfl (h19), ?_⟩
          conv => whnf
          conv => whnf
          refine .inl ?_
          conv => whnf
          conv => whnf
          refine ⟨(by show _ * (8 + 1) ≤ _; omega), ?_⟩
          conv => whnf
          conv => whnf
          refine ⟨[], [0, 1, 6, 7, 8, 9], fun st mq => ∃ (j : Nat) (m : Nat) (c : List Int) (v : Nat) (F2 : Nat → List AV), (j + m = s.length) ∧ (c.length = s.length + 1) ∧ (Sml (1000 * 11 ^ v) c) ∧ (v = u + j) ∧ (mxG t s m j c = mxG t s s.length 0 (s ++ [0])) ∧ st = ⟨[(0, ints l), (1, i64 t), (6, ints s), (7, i64 s.length), (8, .oslice 1 0 0 (s.length + 1) none), (9, i64 j)], ⟨[⟨1, 1, fun _ => [i64 (l.getD 0 0)], 0, true, true, true⟩, ⟨1, s.length + 1, fun k => [i64 (c.getD k 0)], 0, false, true, false⟩, ⟨1, 1, F2, 0, false, true, false⟩], [], none, 0⟩, []⟩ ∧ mq = m,
            ⟨_, _, ⟨0, s.length, s ++ [0], u, _, by omega, by simp, (fun x hx => by rcases List.mem_append.1 hx with h | h; exact hS x h; rw [List.mem_singleton.1 h]; simp), rfl, rfl, rfl, rfl⟩, ⟨⟨.inl rfl, rfl, rfl, rfl⟩, ⟨⟨rfl, rfl, rfl, rfl, fun _ => rfl, fun _ _ => .inl rfl⟩, ⟨⟨rfl, rfl, rfl, rfl, fun _ => rfl, fun i hi => .inl (app_row s 0 s.length i rfl hi)⟩, ⟨⟨rfl, rfl, rfl, rfl, fun _ => rfl, fun _ _ => .inl rfl⟩, trivial⟩⟩⟩, trivial⟩⟩, ?_⟩
          rintro s0 m0 ⟨j, m, c, v, F2, hj, hc, hT, hv, hM, rfl, hmeas⟩
          by_cases hm : m = 0
          · subst hm
            have hM2 : c = mxG t s s.length 0 (s ++ [0]) := hM
            have hb := pow_sml2 (show v ≤ 13 by omega)
            have e1 : 0 + (s.length : Int).toNat = s.length := by omega
            have b1 : (c.getD s.length 0).natAbs ≤ 1000 * 11 ^ v := ent_sml hT s.length
            have b2 : (l.getD s.length 0).natAbs ≤ 1000 := ent_sml hs s.length
            have b2' : (l.getD (s.length : Int).toNat 0).natAbs ≤ 1000 := b2
            have hlo := pow_lo v
            rw [← e1] at b1
            have hn : Sml (1000 * 11 ^ (v + 1)) (c.set s.length (c.getD (0 + (s.length : Int).toNat) 0 + l.getD (s.length : Int).toNat 0)) := fun x hx => by
              rw [Nat.pow_succ]
              rcases List.mem_or_eq_of_mem_set hx with hx | hx
              · have := hT x hx; omega
              · rw [hx]; omega
            have hH3 : hoG t l q (s.length + 1) (c.set s.length (c.getD (0 + (s.length : Int).toNat) 0 + l.getD (s.length : Int).toNat 0)) = shR t l := by
              rw [e1, hM2]
              exact hH
            conv => whnf
            conv => whnf
            conv => whnf
            refine ifB_dec (fun w3 => ?_) (fun w3 => ?_)
            · (exfalso; omega)
            · conv => whnf
              conv => whnf
              conv => whnf
              refine ⟨[], by kernel_rfl, ?_⟩
              conv => whnf
              conv => whnf
              conv => whnf
              refine ⟨⟨(by omega), (by omega)⟩, ?_⟩
              conv => whnf
              conv => whnf
              conv => whnf
              refine ⟨⟨(by omega), (by omega)⟩, ?_⟩
              conv => whnf
              conv => whnf
              conv => whnf
              refine ⟨inK64 (by omega) (by omega), ?_⟩
              conv => whnf
              conv => whnf
              conv => whnf
              refine ⟨⟨(by omega), (by omega)⟩, ?_⟩
              refine ⟨_, fun i _ => rowI _ _ i _ (by first | omega | (simp only [List.length_set]; omega) | (simp only [List.length_replicate]; omega) | (simp only [List.length_set, List.length_replicate]; omega)), ?_⟩
              conv => whnf
              conv => whnf
              conv => whnf
              refine ⟨inK64 (by omega) (by omega), ?_⟩
              conv => whnf
              conv => whnf
              conv => whnf
              refine ⟨_, _, ⟨⟨s.length + 1, q, c.set s.length (c.getD (0 + (s.length : Int).toNat) 0 + l.getD (s.length : Int).toNat 0), u + s.length + 1, by omega, (by rw [List.length_set]; exact hc), by omega, (by rw [show u + s.length + 1 = v + 1 by omega]; exact hn), (by show _ = tri s.length + (s.length + 1); omega), hH3, rfl, rfl⟩, by omega⟩, ⟨⟨.inl rfl, rfl, rfl, rfl⟩, ⟨⟨rfl, rfl, rfl, rfl, fun _ => rfl, fun _ _ => .inl rfl⟩, trivial⟩, trivial⟩⟩
          · obtain ⟨w, rfl⟩ : ∃ w, m = w + 1 := ⟨m - 1, by omega⟩
            have hb := pow_sml2 (show v ≤ 13 by omega)
            have hsv : Sml (1000 * 11 ^ v) s := hS.mono (by have := Nat.pow_le_pow_right (show 0 < 11 by decide) (show u ≤ v by omega); omega)
            have e1 : 0 + ((j : Int) + 1).toNat = j + 1 := by omega
            have b1 : (c.getD (j + 1) 0).natAbs ≤ 1000 * 11 ^ v := ent_sml hT (j + 1)
            have b2 : (s.getD j 0).natAbs ≤ 1000 * 11 ^ v := ent_sml hsv j
            have b2' : (s.getD (j : Int).toNat 0).natAbs ≤ 1000 * 11 ^ v := b2
            have b3 := mul_sml hta b2'
            have hn : Sml (11 * (1000 * 11 ^ v)) (c.set ((j : Int) + 1).toNat (c.getD (0 + ((j : Int) + 1).toNat) 0 + t * s.getD (j : Int).toNat 0)) := by
              exact set_sml2 hta b2 hT _ _
            have hM3 : mxG t s w (j + 1) (c.set ((j : Int) + 1).toNat (c.getD (0 + ((j : Int) + 1).toNat) 0 + t * s.getD (j : Int).toNat 0)) = mxG t s s.length 0 (s ++ [0]) := by
              rw [e1, show ((j : Int) + 1).toNat = j + 1 by omega]
              exact hM
            rw [← e1] at b1
            conv => whnf
            conv => whnf
            conv => whnf
            refine ifB_dec (fun w3 => ?_) (fun w3 => ?_)
            · conv => whnf
              conv => whnf
              conv => whnf
              refine ⟨[], by kernel_rfl, ?_⟩
              conv => whnf
              conv => whnf
              conv => whnf
              refine ⟨inK64 (by omega) (by omega), ?_⟩
              conv => whnf
              conv => whnf
              conv => whnf
              refine ⟨inK64 (by omega) (by omega), ?_⟩
              conv => whnf
              conv => whnf
              conv => whnf
              refine ⟨⟨(by omega), (by omega)⟩, ?_⟩
              conv => whnf
              conv => whnf
              conv => whnf
              refine ⟨⟨(by omega), (by omega)⟩, ?_⟩
              conv => whnf
              conv => whnf
              conv => whnf
              refine ⟨inK64 (by omega) (by omega), ?_⟩
              conv => whnf
              conv => whnf
              conv => whnf
              refine ⟨inK64 (by omega) (by omega), ?_⟩
              conv => whnf
              conv => whnf
              conv => whnf
              refine ⟨⟨(by omega), (by omega)⟩, ?_⟩
              refine ⟨_, fun i _ => rowI _ _ i _ (by first | omega | (simp only [List.length_set]; omega) | (simp only [List.length_replicate]; omega) | (simp only [List.length_set, List.length_replicate]; omega)), ?_⟩
              conv => whnf
              conv => whnf
              conv => whnf
              refine ⟨inK64 (by omega) (by omega), ?_⟩
              conv => whnf
              conv => whnf
              conv => whnf
              refine ⟨_, _, ⟨⟨j + 1, w, c.set ((j : Int) + 1).toNat (c.getD (0 + ((j : Int) + 1).toNat) 0 + t * s.getD (j : Int).toNat 0), v + 1, _, by omega, (by rw [List.length_set]; exact hc), (by rw [Nat.pow_succ]; intro x hx; have := hn x hx; omega), by omega, hM3, rfl, rfl⟩, by omega⟩, ⟨⟨.inl rfl, rfl, rfl, rfl⟩, ⟨⟨rfl, rfl, rfl, rfl, fun _ => rfl, fun _ _ => .inl rfl⟩, ⟨⟨rfl, rfl, rfl, rfl, fun _ => rfl, fun _ _ => .inl rfl⟩, ⟨⟨rfl, rfl, rfl, rfl, fun _ => rfl, fun _ _ => .inl rfl⟩, trivial⟩⟩⟩, trivial⟩⟩
            · (exfalso; omega)
        · (exfalso; omega)
    · (exfalso; omega)
  · have hE : shE t l = 2 := if_pos ht
    rw [hE]
    refine sound (d := 2) tok2 mixed2 Tryz.func85 (by kernel_rfl) (by kernel_rfl) ?_
    conv => whnf
    refine .inl ⟨_, _, byX rfl (Sound1.pl (h68) rfl), ?_⟩
    conv => whnf
    refine ifB_not ?_
    conv => whnf
    refine ifB_dec (fun w1 => ?_) (fun w1 => ?_)
    · (exfalso; omega)
    · conv => whnf
      refine ⟨?_, nofun⟩
      exact ave_tup2 rfl rfl
end Go.Tr

/- Contracts of chapter 6: margins; the law GovernorMargins. Conditions: none. -/
namespace Go.Tr
open Go Go.Proofs
set_option maxRecDepth 20000
set_option maxHeartbeats 8000000

theorem S150 (k x : Int) : SP 150 [i64 k, i64 x] (i64 (coefE x)) false := by
  have h := S104 x
  refine sound (d := 2) tok2 mixed2 Tryz.func150 (by kernel_rfl) (by kernel_rfl) ?_
  conv => whnf
  refine .inl ⟨_, _, byX rfl (Sound1.pl (h) rfl), ?_⟩
  conv => whnf
  refine ⟨?_, nofun⟩
  rfl
/-- The error of the package's shift. -/
def shftE (t : Int) (l : List Int) : Int := if polyE l = 0 then shE t l else polyE l
theorem PolyOk.len {p : List Int} (h : PolyOk p) : p.length ≤ 1000 := by have := h.p2; omega
theorem win10 (t : Int) : win t (-10) 10 = true ↔ -10 ≤ t ∧ t ≤ 10 := by unfold win; simp
theorem S83 (l : List Int) (t : Int) (hl : l.length ≤ 1000000) : SP 83 [ints l, i64 t] (.tuple [ints (if shftE t l = 0 then shP t l else []), i64 (shftE t l)]) false := by
  have h64 := S64 l hl
  have h114 := S114 t 10 (by decide)
  unfold shftE
  by_cases h0 : polyE l = 0
  · have hp := PolyOk.of h0
    rw [if_pos h0]
    rw [h0] at h64
    by_cases ht : -10 ≤ t ∧ t ≤ 10
    · rw [(win10 t).2 ht] at h114
      have h93 : SP 93 [vb true, i64 2] (i64 0) false := S93 true 2
      have h90 : ∀ f : Nat → List AV, (f 0 = [i64 0] ∧ f 1 = [i64 0]) → SP 90 [.rslice 1 2 f] (i64 0) false := fun f h => by
        have h := S90_2 0 0 h
        rwa [first2, if_neg (by simp)] at h
      have h149 := S149 l t hp.p2 hp.ps (by omega)
      have hsl := shP_len t l
      have hpl := hp.len
      have h94 := S94 150 (fun _ x => coefE x) (shP t l) (by omega) (fun k hk => S150 k _)
      have hE : shE t l = if coefsE (shP t l) ≠ 0 then 8 else 0 := if_neg (not_not_intro ht)
      rw [hE]
      refine sound (d := 2) tok2 mixed2 Tryz.func83 (by kernel_rfl) (by kernel_rfl) ?_
      conv => whnf
      refine .inl ⟨_, _, byX rfl (Sound1.pl (h64) rfl), ?_⟩
      conv => whnf
      refine .inl ⟨_, _, byX rfl (Sound1.pl (h114) rfl), ?_⟩
      conv => whnf
      refine .inl ⟨_, _, byX rfl (Sound1.pl (h93) rfl), ?_⟩
      conv => whnf
      refine .inl ⟨_, _, byX rfl (Sound1.pl (h90 _ ⟨rfl, rfl⟩) rfl), ?_⟩
      conv => whnf
      refine .inl ⟨_, _, byX rfl (h149), ?_⟩
      conv => whnf
      refine .inl ⟨_, _, byX rfl (Sound1.pl (h94) rfl), ?_⟩
      conv => whnf
      refine ifB_bne (fun w1 => ?_) (fun w1 => ?_)
      · conv => whnf
        refine ⟨?_, nofun⟩
        rw [if_pos (show coefsE (shP t l) ≠ 0 from w1), if_neg (show ¬ (8 : Int) = 0 by decide)]
        exact ave_tup2 rfl rfl
      · conv => whnf
        refine ⟨?_, nofun⟩
        rw [if_neg (show ¬ coefsE (shP t l) ≠ 0 from not_not_intro w1), if_pos (show (0 : Int) = 0 by decide)]
        exact ave_tup2 ⟨rfl, rfl, fun i hi => rfl⟩ rfl
    · have hw : win t (-10) 10 = false := by
        cases h : win t (-10) 10 with
        | false => rfl
        | true => exact absurd ((win10 t).1 h) ht
      rw [hw] at h114
      have h93 : SP 93 [vb false, i64 2] (i64 2) false := S93 false 2
      have h90 : ∀ f : Nat → List AV, (f 0 = [i64 0] ∧ f 1 = [i64 2]) → SP 90 [.rslice 1 2 f] (i64 2) false := fun f h => by
        have h := S90_2 0 2 h
        rwa [first2, if_neg (by simp)] at h
      have hE : shE t l = 2 := if_pos ht
      rw [hE]
      refine sound (d := 2) tok2 mixed2 Tryz.func83 (by kernel_rfl) (by kernel_rfl) ?_
      conv => whnf
      refine .inl ⟨_, _, byX rfl (Sound1.pl (h64) rfl), ?_⟩
      conv => whnf
      refine .inl ⟨_, _, byX rfl (Sound1.pl (h114) rfl), ?_⟩
      conv => whnf
      refine .inl ⟨_, _, byX rfl (Sound1.pl (h93) rfl), ?_⟩
      conv => whnf
      refine .inl ⟨_, _, byX rfl (Sound1.pl (h90 _ ⟨rfl, rfl⟩) rfl), ?_⟩
      conv => whnf
      refine ⟨?_, nofun⟩
      exact ave_tup2 rfl rfl
  · rw [if_neg h0, if_neg h0]
    have h93 := fun b c => S93 b c
    have h90 : ∀ (b : Int) (f : Nat → List AV), (f 0 = [i64 (polyE l)] ∧ f 1 = [i64 b]) → SP 90 [.rslice 1 2 f] (i64 (polyE l)) false := fun b f h => by
      have h := S90_2 (polyE l) b h
      rwa [first2, if_pos h0] at h
    refine sound (d := 2) tok2 mixed2 Tryz.func83 (by kernel_rfl) (by kernel_rfl) ?_
    conv => whnf
    refine .inl ⟨_, _, byX rfl (Sound1.pl (h64) rfl), ?_⟩
    conv => whnf
    refine .inl ⟨_, _, byX rfl (Sound1.pl (h114) rfl), ?_⟩
    conv => whnf
    refine .inl ⟨_, _, byX rfl (Sound1.pl (h93 _ _) rfl), ?_⟩
    conv => whnf
    refine .inl ⟨_, _, byX rfl (Sound1.pl (h90 _ _ ⟨rfl, rfl⟩) rfl), ?_⟩
    conv => whnf
    refine ifB_bne (fun w1 => ?_) (fun w1 => ?_)
    · conv => whnf
      refine ⟨?_, nofun⟩
      exact ave_tup2 rfl rfl
    · (exfalso; omega)
/-- Shifted so far to the left a polynomial is one, and stable. -/
def okS (p : List Int) (d : Nat) : Bool := if polyE (shP (-(d : Int)) p) = 0 then stabB (shP (-(d : Int)) p) else false
def marF (p : List Int) : Nat → Nat
  | 0 => 0
  | d + 1 => if okS p (d + 1) = true then d + 1 else marF p d
theorem mar_le (p : List Int) : ∀ d, marF p d ≤ d
  | 0 => Nat.le_refl 0
  | d + 1 => by
    unfold marF
    split
    · exact Nat.le_refl _
    · exact Nat.le_succ_of_le (mar_le p d)
theorem S84 (l : List Int) (hl : l.length ≤ 1000000) : SP 84 [ints l] (.tuple [i64 (if polyE l = 0 then if stabB l = true then (marF l 10 : Nat) else 0 else 0), i64 (if polyE l = 0 then if stabB l = true then 0 else 12 else polyE l)]) false := by
  have h37 := S37 l hl
  by_cases h0 : polyE l = 0
  · have hp := PolyOk.of h0
    rw [if_pos h0, if_pos h0]
    rw [if_pos h0, h0] at h37
    cases hs : stabB l with
    | true =>
      rw [if_pos rfl, if_pos rfl]
      rw [hs] at h37
      have h93 : SP 93 [vb true, i64 12] (i64 0) false := S93 true 12
      have h90 : ∀ f : Nat → List AV, (f 0 = [i64 0] ∧ f 1 = [i64 0]) → SP 90 [.rslice 1 2 f] (i64 0) false := fun f h => by
        have h := S90_2 0 0 h
        rwa [first2, if_neg (by simp)] at h
      refine sound (d := 2) tok2 mixed2 Tryz.func84 (by kernel_rfl) (by kernel_rfl) ?_
      conv => whnf
      refine .inl ⟨_, _, byX rfl (Sound1.pl (h37) rfl), ?_⟩
      conv => whnf
      refine .inl ⟨_, _, byX rfl (Sound1.pl (h93) rfl), ?_⟩
      conv => whnf
      refine .inl ⟨_, _, byX rfl (Sound1.pl (h90 _ ⟨rfl, rfl⟩) rfl), ?_⟩
      conv => whnf
      refine ⟨[], [0, 6], fun st mq => ∃ (k : Nat) (c : Int) (F0 : Nat → List AV), (c = (k : Nat)) ∧ (k ≤ 10) ∧ (marF l k = marF l 10) ∧ st = ⟨[(0, ints l), (6, i64 c)], ⟨[⟨1, 2, F0, 0, false, true, false⟩], [], none, 0⟩, []⟩ ∧ mq = k,
        ⟨_, _, ⟨10, 10, _, rfl, by omega, rfl, rfl, rfl⟩, ⟨⟨.inl rfl, rfl, rfl, rfl⟩, ⟨⟨rfl, rfl, rfl, rfl, fun _ => rfl, fun _ _ => .inl rfl⟩, trivial⟩, trivial⟩⟩, ?_⟩
      rintro s0 m0 ⟨k, c, F0, hc, hk, hm, rfl, hmeas⟩
      subst hc
      by_cases hk0 : k = 0
      · subst hk0
        rw [← hm]
        conv => whnf
        conv => whnf
        refine ⟨?_, nofun⟩
        exact ave_tup2 rfl rfl
      · obtain ⟨d, rfl⟩ : ∃ d, k = d + 1 := ⟨k - 1, by omega⟩
        have hsl := shP_len (-((d + 1 : Nat) : Int)) l
        have hpl := hp.len
        have h149 := S149 l (-((d + 1 : Nat) : Int)) hp.p2 hp.ps (by omega)
        have h64 := S64 (shP (-((d + 1 : Nat) : Int)) l) (by omega)
        by_cases hq : polyE (shP (-((d + 1 : Nat) : Int)) l) = 0
        · have h109 := S109 _ (PolyOk.of hq)
          rw [hq] at h64
          have hok : okS l (d + 1) = stabB (shP (-((d + 1 : Nat) : Int)) l) := if_pos hq
          cases hst : stabB (shP (-((d + 1 : Nat) : Int)) l) with
          | true =>
            rw [hst] at h109
            have hm2 : marF l (d + 1) = d + 1 := if_pos (hok.trans hst)
            rw [← hm, hm2]
            conv => whnf
            conv => whnf
            refine ifB_dec (fun w1 => ?_) (fun w1 => ?_)
            · conv => whnf
              conv => whnf
              refine ⟨inK64 (by omega) (by omega), ?_⟩
              conv => whnf
              conv => whnf
              refine .inl ⟨_, _, byX rfl (h149), ?_⟩
              conv => whnf
              conv => whnf
              refine .inl ⟨_, _, byX rfl (Sound1.pl (h64) rfl), ?_⟩
              conv => whnf
              conv => whnf
              refine .inl ⟨_, _, byX rfl (Sound1.pl (h109) rfl), ?_⟩
              conv => whnf
              conv => whnf
              refine ⟨?_, nofun⟩
              exact ave_tup2 rfl rfl
            · (exfalso; omega)
          | false =>
            rw [hst] at h109
            have hm2 : marF l (d + 1) = marF l d := if_neg (by rw [hok, hst]; nofun)
            conv => whnf
            conv => whnf
            refine ifB_dec (fun w1 => ?_) (fun w1 => ?_)
            · conv => whnf
              conv => whnf
              refine ⟨inK64 (by omega) (by omega), ?_⟩
              conv => whnf
              conv => whnf
              refine .inl ⟨_, _, byX rfl (h149), ?_⟩
              conv => whnf
              conv => whnf
              refine .inl ⟨_, _, byX rfl (Sound1.pl (h64) rfl), ?_⟩
              conv => whnf
              conv => whnf
              refine .inl ⟨_, _, byX rfl (Sound1.pl (h109) rfl), ?_⟩
              conv => whnf
              conv => whnf
              refine ⟨inK64 (by omega) (by omega), ?_⟩
              conv => whnf
              conv => whnf
              refine ⟨_, _, ⟨⟨d, ((d + 1 : Nat) : Int) - 1, _, by omega, by omega, hm2.symm.trans hm, rfl, rfl⟩, by omega⟩, ⟨⟨.inl rfl, rfl, rfl, rfl⟩, ⟨⟨rfl, rfl, rfl, rfl, fun _ => rfl, fun _ _ => .inl rfl⟩, trivial⟩, trivial⟩⟩
            · (exfalso; omega)
        · have hok : okS l (d + 1) = false := if_neg hq
          have hm2 : marF l (d + 1) = marF l d := if_neg (by rw [hok]; nofun)
          conv => whnf
          conv => whnf
          refine ifB_dec (fun w1 => ?_) (fun w1 => ?_)
          · conv => whnf
            conv => whnf
            refine ⟨inK64 (by omega) (by omega), ?_⟩
            conv => whnf
            conv => whnf
            refine .inl ⟨_, _, byX rfl (h149), ?_⟩
            conv => whnf
            conv => whnf
            refine .inl ⟨_, _, byX rfl (Sound1.pl (h64) rfl), ?_⟩
            conv => whnf
            conv => whnf
            refine ifB_beq (fun w2 => ?_) (fun w2 => ?_)
            · (exfalso; omega)
            · conv => whnf
              conv => whnf
              refine ⟨inK64 (by omega) (by omega), ?_⟩
              conv => whnf
              conv => whnf
              refine ⟨_, _, ⟨⟨d, ((d + 1 : Nat) : Int) - 1, _, by omega, by omega, hm2.symm.trans hm, rfl, rfl⟩, by omega⟩, ⟨⟨.inl rfl, rfl, rfl, rfl⟩, ⟨⟨rfl, rfl, rfl, rfl, fun _ => rfl, fun _ _ => .inl rfl⟩, trivial⟩, trivial⟩⟩
          · (exfalso; omega)
    | false =>
      rw [if_neg (by nofun), if_neg (by nofun)]
      rw [hs] at h37
      have h93 : SP 93 [vb false, i64 12] (i64 12) false := S93 false 12
      have h90 : ∀ f : Nat → List AV, (f 0 = [i64 0] ∧ f 1 = [i64 12]) → SP 90 [.rslice 1 2 f] (i64 12) false := fun f h => by
        have h := S90_2 0 12 h
        rwa [first2, if_neg (by simp)] at h
      refine sound (d := 2) tok2 mixed2 Tryz.func84 (by kernel_rfl) (by kernel_rfl) ?_
      conv => whnf
      refine .inl ⟨_, _, byX rfl (Sound1.pl (h37) rfl), ?_⟩
      conv => whnf
      refine .inl ⟨_, _, byX rfl (Sound1.pl (h93) rfl), ?_⟩
      conv => whnf
      refine .inl ⟨_, _, byX rfl (Sound1.pl (h90 _ ⟨rfl, rfl⟩) rfl), ?_⟩
      conv => whnf
      refine ⟨?_, nofun⟩
      exact ave_tup2 rfl rfl
  · rw [if_neg h0, if_neg h0]
    rw [if_neg h0] at h37
    have h93 : SP 93 [vb false, i64 12] (i64 12) false := S93 false 12
    have h90 : ∀ (f : Nat → List AV), (f 0 = [i64 (polyE l)] ∧ f 1 = [i64 12]) → SP 90 [.rslice 1 2 f] (i64 (polyE l)) false := fun f h => by
      have h := S90_2 (polyE l) 12 h
      rwa [first2, if_pos h0] at h
    refine sound (d := 2) tok2 mixed2 Tryz.func84 (by kernel_rfl) (by kernel_rfl) ?_
    conv => whnf
    refine .inl ⟨_, _, byX rfl (Sound1.pl (h37) rfl), ?_⟩
    conv => whnf
    refine .inl ⟨_, _, byX rfl (Sound1.pl (h93) rfl), ?_⟩
    conv => whnf
    refine .inl ⟨_, _, byX rfl (Sound1.pl (h90 _ ⟨rfl, rfl⟩) rfl), ?_⟩
    conv => whnf
    refine ifB_bne (fun w1 => ?_) (fun w1 => ?_)
    · conv => whnf
      refine ⟨?_, nofun⟩
      exact ave_tup2 rfl rfl
    · (exfalso; omega)
end Go.Tr

/- The law GovernorMargins returns true. Conditions: none. -/
namespace Go.Tr
open Go Go.Proofs
set_option maxRecDepth 20000
set_option maxHeartbeats 8000000

theorem coefs_of {l : List Int} (h : polyE l = 0) : coefsE l = 0 := by
  unfold polyE at h
  by_cases h1 : shapeE l.length = 0
  · rw [if_neg (not_not_intro h1)] at h
    by_cases h2 : coefsE l = 0
    · exact h2
    · rw [if_pos h2] at h; exact absurd h h2
  · rw [if_pos h1] at h; exact absurd h h1
theorem shE_in {t : Int} {l : List Int} (ht : -10 ≤ t ∧ t ≤ 10) : shE t l = if coefsE (shP t l) ≠ 0 then 8 else 0 := if_neg (not_not_intro ht)
theorem S86 (l : List Int) (hp : PolyOk l) : SP 86 [ints l] (.tuple [i64 (if stabB l = true then (marF l 10 : Nat) else 0), vb (stabB l)]) false := by
  have h67 := S67 l hp
  have hpl := hp.len
  cases hs : stabB l with
  | false =>
    rw [hs] at h67
    rw [if_neg (by nofun)]
    refine sound (d := 2) tok2 mixed2 Tryz.func86 (by kernel_rfl) (by kernel_rfl) ?_
    conv => whnf
    refine .inl ⟨_, _, byX rfl (Sound1.pl (h67) rfl), ?_⟩
    conv => whnf
    refine ⟨?_, nofun⟩
    exact ave_tup2 rfl rfl
  | true =>
    rw [hs] at h67
    rw [if_pos rfl]
    refine sound (d := 2) tok2 mixed2 Tryz.func86 (by kernel_rfl) (by kernel_rfl) ?_
    conv => whnf
    refine .inl ⟨_, _, byX rfl (Sound1.pl (h67) rfl), ?_⟩
    conv => whnf
    refine ⟨[], [0, 4, 5], fun st mq => ∃ (d : Nat) (n : Nat), (d ≤ 10) ∧ (n = marF l d) ∧ st = ⟨[(0, ints l), (4, i64 n), (5, i64 (d + 1 : Nat))], ⟨[], [], none, 0⟩, []⟩ ∧ mq = 10 - d,
      ⟨_, _, ⟨0, 0, by omega, rfl, rfl, rfl⟩, ⟨⟨.inl rfl, rfl, rfl, rfl⟩, trivial, trivial⟩⟩, ?_⟩
    rintro s0 m0 ⟨d, n, hd, hn, rfl, hmeas⟩
    by_cases hlt : d < 10
    · have h85 := S85 l (-((d + 1 : Nat) : Int)) hp.p2 hp.ps
      have hE := shE_in (t := -((d + 1 : Nat) : Int)) (l := l) (by omega)
      have hsl := shP_len (-((d + 1 : Nat) : Int)) l
      by_cases hc : coefsE (shP (-((d + 1 : Nat) : Int)) l) = 0
      · rw [if_neg (not_not_intro hc)] at hE
        rw [hE, if_pos rfl] at h85
        have h21 := S21 (shP (-((d + 1 : Nat) : Int)) l) (by omega)
        by_cases hq : polyE (shP (-((d + 1 : Nat) : Int)) l) = 0
        · rw [hq] at h21
          have h67q := S67 _ (PolyOk.of hq)
          have hok : okS l (d + 1) = stabB (shP (-((d + 1 : Nat) : Int)) l) := if_pos hq
          cases hst : stabB (shP (-((d + 1 : Nat) : Int)) l) with
          | true =>
            rw [hst] at h67q
            have hm2 : marF l (d + 1) = d + 1 := if_pos (hok.trans hst)
            conv => whnf
            conv => whnf
            refine ifB_dec (fun w1 => ?_) (fun w1 => ?_)
            · conv => whnf
              conv => whnf
              refine ⟨inK64 (by omega) (by omega), ?_⟩
              conv => whnf
              conv => whnf
              refine .inl ⟨_, _, byX rfl (h85), ?_⟩
              conv => whnf
              conv => whnf
              refine .inl ⟨_, _, byX rfl (Sound1.pl (h21) rfl), ?_⟩
              conv => whnf
              conv => whnf
              refine .inl ⟨_, _, byX rfl (Sound1.pl (h67q) rfl), ?_⟩
              conv => whnf
              conv => whnf
              refine ⟨inK64 (by omega) (by omega), ?_⟩
              conv => whnf
              conv => whnf
              refine ⟨_, _, ⟨⟨d + 1, d + 1, by omega, hm2.symm, rfl, rfl⟩, by omega⟩, ⟨⟨.inl rfl, rfl, rfl, rfl⟩, trivial, trivial⟩⟩
            · (exfalso; omega)
          | false =>
            rw [hst] at h67q
            have hm2 : marF l (d + 1) = marF l d := if_neg (by rw [hok, hst]; nofun)
            conv => whnf
            conv => whnf
            refine ifB_dec (fun w1 => ?_) (fun w1 => ?_)
            · conv => whnf
              conv => whnf
              refine ⟨inK64 (by omega) (by omega), ?_⟩
              conv => whnf
              conv => whnf
              refine .inl ⟨_, _, byX rfl (h85), ?_⟩
              conv => whnf
              conv => whnf
              refine .inl ⟨_, _, byX rfl (Sound1.pl (h21) rfl), ?_⟩
              conv => whnf
              conv => whnf
              refine .inl ⟨_, _, byX rfl (Sound1.pl (h67q) rfl), ?_⟩
              conv => whnf
              conv => whnf
              refine ⟨inK64 (by omega) (by omega), ?_⟩
              conv => whnf
              conv => whnf
              refine ⟨_, _, ⟨⟨d + 1, n, by omega, hn.trans hm2.symm, rfl, rfl⟩, by omega⟩, ⟨⟨.inl rfl, rfl, rfl, rfl⟩, trivial, trivial⟩⟩
            · (exfalso; omega)
        · have hok : okS l (d + 1) = false := if_neg hq
          have hm2 : marF l (d + 1) = marF l d := if_neg (by rw [hok]; nofun)
          conv => whnf
          conv => whnf
          refine ifB_dec (fun w1 => ?_) (fun w1 => ?_)
          · conv => whnf
            conv => whnf
            refine ⟨inK64 (by omega) (by omega), ?_⟩
            conv => whnf
            conv => whnf
            refine .inl ⟨_, _, byX rfl (h85), ?_⟩
            conv => whnf
            conv => whnf
            refine .inl ⟨_, _, byX rfl (Sound1.pl (h21) rfl), ?_⟩
            conv => whnf
            conv => whnf
            refine ifB_beq (fun w2 => ?_) (fun w2 => ?_)
            · (exfalso; omega)
            · conv => whnf
              conv => whnf
              refine ⟨inK64 (by omega) (by omega), ?_⟩
              conv => whnf
              conv => whnf
              refine ⟨_, _, ⟨⟨d + 1, n, by omega, hn.trans hm2.symm, rfl, rfl⟩, by omega⟩, ⟨⟨.inl rfl, rfl, rfl, rfl⟩, trivial, trivial⟩⟩
          · (exfalso; omega)
      · rw [if_pos hc] at hE
        rw [hE, if_neg (show ¬ (8 : Int) = 0 by decide)] at h85
        have hok : okS l (d + 1) = false := if_neg (fun h => hc (coefs_of h))
        have hm2 : marF l (d + 1) = marF l d := if_neg (by rw [hok]; nofun)
        conv => whnf
        conv => whnf
        refine ifB_dec (fun w1 => ?_) (fun w1 => ?_)
        · conv => whnf
          conv => whnf
          refine ⟨inK64 (by omega) (by omega), ?_⟩
          conv => whnf
          conv => whnf
          refine .inl ⟨_, _, byX rfl (h85), ?_⟩
          conv => whnf
          conv => whnf
          refine ⟨inK64 (by omega) (by omega), ?_⟩
          conv => whnf
          conv => whnf
          refine ⟨_, _, ⟨⟨d + 1, n, by omega, hn.trans hm2.symm, rfl, rfl⟩, by omega⟩, ⟨⟨.inl rfl, rfl, rfl, rfl⟩, trivial, trivial⟩⟩
        · (exfalso; omega)
    · have e : d = 10 := by omega
      subst e
      subst hn
      conv => whnf
      conv => whnf
      refine ⟨?_, nofun⟩
      exact ave_tup2 rfl rfl
theorem S14 (l : List Int) (t : Int) (hl : l.length ≤ 9223372036854775807) : SP 14 [ints l, i64 t] (vb true) false := by
  have h17 := S17 l hl
  by_cases hls : l.length ≤ 7
  · rw [decide_eq_true hls] at h17
    have hl1 : l.length ≤ 1000000 := by omega
    have h19 := S19 l hl1
    have h83 := S83 l t hl1
    have h84 := S84 l hl1
    have h21 := S21 l hl1
    by_cases h0 : polyE l = 0
    · have hp := PolyOk.of h0
      have hE : shftE t l = shE t l := if_pos h0
      rw [hE] at h83
      rw [if_pos h0, if_pos h0] at h84
      rw [h0] at h21
      have h85 := S85 l t hp.p2 hp.ps
      have h86 := S86 l hp
      have hpl := hp.len
      have hsl : (if shE t l = 0 then shP t l else []).length ≤ 1000 := by
        split
        · rw [shP_len]; exact hpl
        · simp
      generalize (if shE t l = 0 then shP t l else []) = R at h83 h85 hsl
      have h26 := S26 R R (by omega) (by omega)
      rw [decide_eq_true rfl] at h26
      cases hs : stabB l with
      | true =>
        rw [hs, if_pos rfl, if_pos rfl] at h84
        rw [hs, if_pos rfl] at h86
        refine sound (d := 2) tok2 mixed2 Tryz.func14 (by kernel_rfl) (by kernel_rfl) ?_
        conv => whnf
        refine .inl ⟨_, _, byX rfl (Sound1.pl (S16) rfl), ?_⟩
        conv => whnf
        refine .inl ⟨_, _, byX rfl (Sound1.pl (h17) rfl), ?_⟩
        conv => whnf
        refine .inl ⟨_, _, byX rfl (h19), ?_⟩
        conv => whnf
        refine .inl ⟨_, _, byX rfl (h83), ?_⟩
        conv => whnf
        refine .inl ⟨_, _, byX rfl (h19), ?_⟩
        conv => whnf
        refine .inl ⟨_, _, byX rfl (Sound1.pl (h84) rfl), ?_⟩
        conv => whnf
        refine .inl ⟨_, _, byX rfl (Sound1.pl (h21) rfl), ?_⟩
        conv => whnf
        refine .inl ⟨_, _, byX rfl (h85), ?_⟩
        conv => whnf
        refine .inl ⟨_, _, byX rfl (Sound1.pl (h86) rfl), ?_⟩
        conv => whnf
        refine ifB_beq (fun w1 => ?_) (fun w1 => ?_)
        · conv => whnf
          refine .inl ⟨_, _, byX rfl (Sound1.pl (h26) rfl), ?_⟩
          conv => whnf
          refine ifB_beq (fun w2 => ?_) (fun w2 => ?_)
          · conv => whnf
            refine ⟨?_, nofun⟩
            (rfl)
          · (exfalso; omega)
        · (exfalso; omega)
      | false =>
        rw [hs, if_neg (by nofun), if_neg (by nofun)] at h84
        rw [hs, if_neg (by nofun)] at h86
        refine sound (d := 2) tok2 mixed2 Tryz.func14 (by kernel_rfl) (by kernel_rfl) ?_
        conv => whnf
        refine .inl ⟨_, _, byX rfl (Sound1.pl (S16) rfl), ?_⟩
        conv => whnf
        refine .inl ⟨_, _, byX rfl (Sound1.pl (h17) rfl), ?_⟩
        conv => whnf
        refine .inl ⟨_, _, byX rfl (h19), ?_⟩
        conv => whnf
        refine .inl ⟨_, _, byX rfl (h83), ?_⟩
        conv => whnf
        refine .inl ⟨_, _, byX rfl (h19), ?_⟩
        conv => whnf
        refine .inl ⟨_, _, byX rfl (Sound1.pl (h84) rfl), ?_⟩
        conv => whnf
        refine .inl ⟨_, _, byX rfl (Sound1.pl (h21) rfl), ?_⟩
        conv => whnf
        refine .inl ⟨_, _, byX rfl (h85), ?_⟩
        conv => whnf
        refine .inl ⟨_, _, byX rfl (Sound1.pl (h86) rfl), ?_⟩
        conv => whnf
        refine ifB_beq (fun w1 => ?_) (fun w1 => ?_)
        · conv => whnf
          refine .inl ⟨_, _, byX rfl (Sound1.pl (h26) rfl), ?_⟩
          conv => whnf
          refine ⟨?_, nofun⟩
          (rfl)
        · (exfalso; omega)
    · have hE : shftE t l = polyE l := if_neg h0
      rw [hE, if_neg h0] at h83
      rw [if_neg h0, if_neg h0] at h84
      refine sound (d := 2) tok2 mixed2 Tryz.func14 (by kernel_rfl) (by kernel_rfl) ?_
      conv => whnf
      refine .inl ⟨_, _, byX rfl (Sound1.pl (S16) rfl), ?_⟩
      conv => whnf
      refine .inl ⟨_, _, byX rfl (Sound1.pl (h17) rfl), ?_⟩
      conv => whnf
      refine .inl ⟨_, _, byX rfl (h19), ?_⟩
      conv => whnf
      refine .inl ⟨_, _, byX rfl (h83), ?_⟩
      conv => whnf
      refine .inl ⟨_, _, byX rfl (h19), ?_⟩
      conv => whnf
      refine .inl ⟨_, _, byX rfl (Sound1.pl (h84) rfl), ?_⟩
      conv => whnf
      refine .inl ⟨_, _, byX rfl (Sound1.pl (h21) rfl), ?_⟩
      conv => whnf
      refine ifB_bne (fun w1 => ?_) (fun w1 => ?_)
      · conv => whnf
        refine ifB_beq (fun w2 => ?_) (fun w2 => ?_)
        · conv => whnf
          refine ifB_beq (fun w3 => ?_) (fun w3 => ?_)
          · conv => whnf
            refine ⟨?_, nofun⟩
            (rfl)
          · (exfalso; omega)
        · (exfalso; omega)
      · (exfalso; omega)
  · rw [decide_eq_false hls] at h17
    refine sound (d := 2) tok2 mixed2 Tryz.func14 (by kernel_rfl) (by kernel_rfl) ?_
    conv => whnf
    refine .inl ⟨_, _, byX rfl (Sound1.pl (S16) rfl), ?_⟩
    conv => whnf
    refine .inl ⟨_, _, byX rfl (Sound1.pl (h17) rfl), ?_⟩
    conv => whnf
    refine ⟨?_, nofun⟩
    rfl
end Go.Tr

/- Plain laws: when a polynomial of degree 1 to 4 is stable. Conditions: none. -/
namespace Go.Tr
open Go Go.Proofs
set_option maxRecDepth 20000
set_option maxHeartbeats 8000000

theorem gcd_fold : ∀ (l : List Int) (g : Nat), (l.foldl (fun g x => Nat.gcd g x.natAbs) g ∣ g) ∧ ∀ x ∈ l, (l.foldl (fun g x => Nat.gcd g x.natAbs) g) ∣ x.natAbs
  | [], _ => ⟨Nat.dvd_refl _, fun _ h => absurd h (by simp)⟩
  | x :: l, g => by
    have h := gcd_fold l (Nat.gcd g x.natAbs)
    refine ⟨Nat.dvd_trans h.1 (Nat.gcd_dvd_left _ _), fun y hy => ?_⟩
    rcases List.mem_cons.1 hy with e | hy
    · rw [e]; exact Nat.dvd_trans h.1 (Nat.gcd_dvd_right _ _)
    · exact h.2 y hy
/-- A row is a positive multiple of the row divided by its greatest common divisor. -/
theorem red_pos (l : List Int) : ∃ g : Int, 0 < g ∧ ∀ i, l.getD i 0 = g * (redL l).getD i 0 := by
  unfold redL
  by_cases h : gcdR l = 0
  · rw [if_pos h]; exact ⟨1, by decide, fun i => (Int.one_mul _).symm⟩
  · rw [if_neg h]
    refine ⟨(gcdR l : Nat), by omega, fun i => ?_⟩
    by_cases hi : i < l.length
    · rw [map_getD _ l i hi]
      exact (Int.mul_tdiv_cancel' (Int.ofNat_dvd_left.2 ((gcd_fold l 0).2 _ (getD_memI hi)))).symm
    · simp [List.getD_eq_getElem?_getD, show l.length ≤ i by omega]
theorem gpos {g x : Int} (hg : 0 < g) : 0 < g * x ↔ 0 < x := by
  constructor
  · intro h
    rcases Int.lt_or_le 0 x with h1 | h1
    · exact h1
    · have := Int.mul_le_mul_of_nonneg_left h1 (Int.le_of_lt hg)
      rw [Int.mul_zero] at this
      omega
  · exact fun h => Int.mul_pos hg h
/-- So many rows more all begin above 0. -/
def stG (p : List Int) : Nat → List (List Int) → Prop
  | 0, _ => True
  | n + 1, R => 0 < (nextL p R).getD 0 0 ∧ stG p n (R ++ [nextL p R])
theorem tab_st (p : List Int) : ∀ (n : Nat) (R : List (List Int)), R.length + (n + 1) = p.length → (((tabG p (n + 1) R).length = p.length ∧ 0 < ((tabG p (n + 1) R).getD ((tabG p (n + 1) R).length - 1) []).getD 0 0) ↔ stG p (n + 1) R)
  | n, R, h => by
    have hl : (R ++ [nextL p R]).getD ((R ++ [nextL p R]).length - 1) [] = nextL p R := by simp [List.getD_eq_getElem?_getD]
    by_cases h0 : (nextL p R).getD 0 0 ≤ 0
    · have e : tabG p (n + 1) R = R ++ [nextL p R] := if_pos h0
      rw [e, hl]
      exact ⟨fun hx => absurd hx.2 (by omega), fun hx => absurd hx.1 (by omega)⟩
    · have e : tabG p (n + 1) R = tabG p n (R ++ [nextL p R]) := if_neg h0
      rw [e]
      match n, h with
      | 0, h =>
        show ((R ++ [nextL p R]).length = p.length ∧ 0 < ((R ++ [nextL p R]).getD ((R ++ [nextL p R]).length - 1) []).getD 0 0) ↔ _
        rw [hl]
        exact ⟨fun hx => ⟨hx.2, trivial⟩, fun hx => ⟨by simp; omega, hx.1⟩⟩
      | n + 1, h =>
        rw [tab_st p n (R ++ [nextL p R]) (by simp; omega)]
        exact ⟨fun hx => ⟨by omega, hx⟩, fun hx => hx.2⟩
theorem stab_iff {p : List Int} {n : Nat} (h : p.length = n + 1) : stabB p = true ↔ stG p (n + 1) [] := by
  have ht := tab_st p n [] (by simp; omega)
  rw [← ht]
  unfold stabB tabL
  rw [h, Bool.and_eq_true, decide_eq_true_eq, decide_eq_true_eq]
theorem next_of {p : List Int} {R : List (List Int)} {m k n : Nat} (hm : p.length = m) (hk : R.length = k) (hn : rowN m k = n) : nextL p R = redL ((List.range n).map (rowAt p R)) := by
  unfold nextL rawL
  rw [hm, hk, hn]
theorem st2 (a b : Int) : stabB [a, b] = true ↔ 0 < a ∧ 0 < b := by
  rw [stab_iff (n := 1) rfl]
  obtain ⟨g0, p0, h0⟩ := red_pos [a]
  obtain ⟨g1, p1, h1⟩ := red_pos [b]
  have e0 : a = g0 * (redL [a]).getD 0 0 := h0 0
  have e1 : b = g1 * (redL [b]).getD 0 0 := h1 0
  have n0 : nextL [a, b] [] = redL [a] := (next_of (m := 2) (k := 0) (n := 1) rfl rfl (by decide)).trans rfl
  have n1 : ∀ X, nextL [a, b] [X] = redL [b] := fun _ => (next_of (m := 2) (k := 1) (n := 1) rfl rfl (by decide)).trans rfl
  show (0 < (nextL [a, b] []).getD 0 0 ∧ 0 < (nextL [a, b] [nextL [a, b] []]).getD 0 0 ∧ True) ↔ _
  rw [n1, n0]
  rw [e0, e1, gpos p0, gpos p1]
  simp only [and_true, ← e0, ← e1]
theorem st3 (a b c : Int) : stabB [a, b, c] = true ↔ 0 < a ∧ 0 < b ∧ 0 < c := by
  rw [stab_iff (n := 2) rfl]
  obtain ⟨g0, p0, h0⟩ := red_pos [a, c]
  obtain ⟨g1, p1, h1⟩ := red_pos [b]
  have e0 : a = g0 * (redL [a, c]).getD 0 0 := h0 0
  have e2 : c = g0 * (redL [a, c]).getD 1 0 := h0 1
  have e1 : b = g1 * (redL [b]).getD 0 0 := h1 0
  have z1 : (redL [b]).getD 1 0 = 0 := by
    have h := h1 1
    rcases Int.mul_eq_zero.1 h.symm with h | h
    · omega
    · exact h
  have n0 : nextL [a, b, c] [] = redL [a, c] := (next_of (m := 3) (k := 0) (n := 2) rfl rfl (by decide)).trans rfl
  have n1 : ∀ X, nextL [a, b, c] [X] = redL [b] := fun _ => (next_of (m := 3) (k := 1) (n := 1) rfl rfl (by decide)).trans rfl
  have n2 : ∀ X Y : List Int, nextL [a, b, c] [X, Y] = redL [Y.getD 0 0 * X.getD 1 0 - X.getD 0 0 * Y.getD 1 0] := fun _ _ => (next_of (m := 3) (k := 2) (n := 1) rfl rfl (by decide)).trans rfl
  show (0 < (nextL [a, b, c] []).getD 0 0 ∧ 0 < (nextL [a, b, c] [nextL [a, b, c] []]).getD 0 0 ∧ 0 < (nextL [a, b, c] [nextL [a, b, c] [], nextL [a, b, c] [nextL [a, b, c] []]]).getD 0 0 ∧ True) ↔ _
  rw [n2, n1, n0]
  rw [z1, Int.mul_zero, Int.sub_zero]
  obtain ⟨g2, p2, h2⟩ := red_pos [(redL [b]).getD 0 0 * (redL [a, c]).getD 1 0]
  have e3 := h2 0
  generalize (redL [(redL [b]).getD 0 0 * (redL [a, c]).getD 1 0]).getD 0 0 = z at e3 ⊢
  generalize (redL [a, c]).getD 0 0 = x at e0 e2 e3 ⊢
  generalize (redL [a, c]).getD 1 0 = w at e0 e2 e3 ⊢
  generalize (redL [b]).getD 0 0 = y at e1 e3 ⊢
  have e3 : y * w = g2 * z := e3
  subst e0 e1 e2
  rw [gpos p0, gpos p1, gpos p0]
  constructor
  · rintro ⟨q0, q1, q2, _⟩
    exact ⟨q0, q1, (gpos q1).1 (by rw [e3]; exact (gpos p2).2 q2)⟩
  · rintro ⟨q0, q1, q2⟩
    exact ⟨q0, q1, (gpos p2).1 (by rw [← e3]; exact (gpos q1).2 q2), trivial⟩
theorem st4 (a b c d : Int) : stabB [a, b, c, d] = true ↔ 0 < a ∧ 0 < b ∧ 0 < b * c - a * d ∧ 0 < d := by
  rw [stab_iff (n := 3) rfl]
  obtain ⟨g0, p0, h0⟩ := red_pos [a, c]
  obtain ⟨g1, p1, h1⟩ := red_pos [b, d]
  have ea : a = g0 * (redL [a, c]).getD 0 0 := h0 0
  have ec : c = g0 * (redL [a, c]).getD 1 0 := h0 1
  have eb : b = g1 * (redL [b, d]).getD 0 0 := h1 0
  have ed : d = g1 * (redL [b, d]).getD 1 0 := h1 1
  have n0 : nextL [a, b, c, d] [] = redL [a, c] := (next_of (m := 4) (k := 0) (n := 2) rfl rfl (by decide)).trans rfl
  have n1 : ∀ X, nextL [a, b, c, d] [X] = redL [b, d] := fun _ => (next_of (m := 4) (k := 1) (n := 2) rfl rfl (by decide)).trans rfl
  have n2 : ∀ X Y : List Int, nextL [a, b, c, d] [X, Y] = redL [Y.getD 0 0 * X.getD 1 0 - X.getD 0 0 * Y.getD 1 0] := fun _ _ => (next_of (m := 4) (k := 2) (n := 1) rfl rfl (by decide)).trans rfl
  have n3 : ∀ X Y Z : List Int, nextL [a, b, c, d] [X, Y, Z] = redL [Z.getD 0 0 * Y.getD 1 0 - Y.getD 0 0 * Z.getD 1 0] := fun _ _ _ => (next_of (m := 4) (k := 3) (n := 1) rfl rfl (by decide)).trans rfl
  unfold stG
  rw [n0]
  unfold stG
  simp only [List.nil_append]
  rw [n1]
  unfold stG
  simp only [List.cons_append, List.nil_append]
  rw [n2]
  unfold stG
  simp only [List.cons_append, List.nil_append]
  rw [n3]
  unfold stG
  generalize (redL [a, c]).getD 0 0 = x0 at ea ⊢
  generalize (redL [a, c]).getD 1 0 = x1 at ec ⊢
  generalize (redL [b, d]).getD 0 0 = y0 at eb ⊢
  generalize (redL [b, d]).getD 1 0 = y1 at ed ⊢
  obtain ⟨g2, p2, h2⟩ := red_pos [y0 * x1 - x0 * y1]
  have e2 : y0 * x1 - x0 * y1 = g2 * (redL [y0 * x1 - x0 * y1]).getD 0 0 := h2 0
  have z2 : (redL [y0 * x1 - x0 * y1]).getD 1 0 = 0 := by
    have h := h2 1
    rcases Int.mul_eq_zero.1 h.symm with h | h
    · omega
    · exact h
  rw [z2, Int.mul_zero, Int.sub_zero]
  generalize (redL [y0 * x1 - x0 * y1]).getD 0 0 = z at e2 ⊢
  obtain ⟨g3, p3, h3⟩ := red_pos [z * y1]
  have e3 : z * y1 = g3 * (redL [z * y1]).getD 0 0 := h3 0
  generalize (redL [z * y1]).getD 0 0 = u at e3 ⊢
  subst ea eb ec ed
  have e4 : g1 * y0 * (g0 * x1) - g0 * x0 * (g1 * y1) = g0 * g1 * (g2 * z) := by rw [← e2]; grind
  rw [e4, gpos p0, gpos p1, gpos p1, gpos (Int.mul_pos p0 p1), gpos p2]
  constructor
  · rintro ⟨q0, q1, q2, q3, _⟩
    exact ⟨q0, q1, q2, (gpos q2).1 (by rw [e3]; exact (gpos p3).2 q3)⟩
  · rintro ⟨q0, q1, q2, q3⟩
    exact ⟨q0, q1, q2, (gpos p3).1 (by rw [← e3]; exact (gpos q2).2 q3), trivial⟩
theorem st5 (a b c d e : Int) : stabB [a, b, c, d, e] = true ↔ 0 < a ∧ 0 < b ∧ 0 < b * c - a * d ∧ 0 < (b * c - a * d) * d - b * b * e ∧ 0 < e := by
  rw [stab_iff (n := 4) rfl]
  obtain ⟨g0, p0, h0⟩ := red_pos [a, c, e]
  obtain ⟨g1, p1, h1⟩ := red_pos [b, d]
  have ea : a = g0 * (redL [a, c, e]).getD 0 0 := h0 0
  have ec : c = g0 * (redL [a, c, e]).getD 1 0 := h0 1
  have ee : e = g0 * (redL [a, c, e]).getD 2 0 := h0 2
  have eb : b = g1 * (redL [b, d]).getD 0 0 := h1 0
  have ed : d = g1 * (redL [b, d]).getD 1 0 := h1 1
  have z1 : (redL [b, d]).getD 2 0 = 0 := by
    have h := h1 2
    rcases Int.mul_eq_zero.1 h.symm with h | h
    · omega
    · exact h
  have n0 : nextL [a, b, c, d, e] [] = redL [a, c, e] := (next_of (m := 5) (k := 0) (n := 3) rfl rfl (by decide)).trans rfl
  have n1 : ∀ X, nextL [a, b, c, d, e] [X] = redL [b, d] := fun _ => (next_of (m := 5) (k := 1) (n := 2) rfl rfl (by decide)).trans rfl
  unfold stG
  rw [n0]
  unfold stG
  simp only [List.nil_append]
  rw [n1]
  have n2 : nextL [a, b, c, d, e] [redL [a, c, e], redL [b, d]] = redL [(redL [b, d]).getD 0 0 * (redL [a, c, e]).getD 1 0 - (redL [a, c, e]).getD 0 0 * (redL [b, d]).getD 1 0, (redL [b, d]).getD 0 0 * (redL [a, c, e]).getD 2 0 - (redL [a, c, e]).getD 0 0 * (redL [b, d]).getD 2 0] := (next_of (m := 5) (k := 2) (n := 2) rfl rfl (by decide)).trans rfl
  rw [z1, Int.mul_zero, Int.sub_zero] at n2
  unfold stG
  simp only [List.cons_append, List.nil_append]
  rw [n2]
  have n3 : ∀ X Y Z : List Int, nextL [a, b, c, d, e] [X, Y, Z] = redL [Z.getD 0 0 * Y.getD 1 0 - Y.getD 0 0 * Z.getD 1 0] := fun _ _ _ => (next_of (m := 5) (k := 3) (n := 1) rfl rfl (by decide)).trans rfl
  have n4 : ∀ X Y Z U : List Int, nextL [a, b, c, d, e] [X, Y, Z, U] = redL [U.getD 0 0 * Z.getD 1 0 - Z.getD 0 0 * U.getD 1 0] := fun _ _ _ _ => (next_of (m := 5) (k := 4) (n := 1) rfl rfl (by decide)).trans rfl
  unfold stG
  simp only [List.cons_append, List.nil_append]
  rw [n3]
  unfold stG
  simp only [List.cons_append, List.nil_append]
  rw [n4]
  generalize (redL [a, c, e]).getD 0 0 = x0 at ea ⊢
  generalize (redL [a, c, e]).getD 1 0 = x1 at ec ⊢
  generalize (redL [a, c, e]).getD 2 0 = x2 at ee ⊢
  generalize (redL [b, d]).getD 0 0 = y0 at eb ⊢
  generalize (redL [b, d]).getD 1 0 = y1 at ed ⊢
  obtain ⟨g2, p2, h2⟩ := red_pos [y0 * x1 - x0 * y1, y0 * x2]
  have e2 : y0 * x1 - x0 * y1 = g2 * (redL [y0 * x1 - x0 * y1, y0 * x2]).getD 0 0 := h2 0
  have f2 : y0 * x2 = g2 * (redL [y0 * x1 - x0 * y1, y0 * x2]).getD 1 0 := h2 1
  generalize (redL [y0 * x1 - x0 * y1, y0 * x2]).getD 0 0 = z0 at e2 ⊢
  generalize (redL [y0 * x1 - x0 * y1, y0 * x2]).getD 1 0 = zz at f2 ⊢
  obtain ⟨g3, p3, h3⟩ := red_pos [z0 * y1 - y0 * zz]
  have e3 : z0 * y1 - y0 * zz = g3 * (redL [z0 * y1 - y0 * zz]).getD 0 0 := h3 0
  have u1 : (redL [z0 * y1 - y0 * zz]).getD 1 0 = 0 := by
    have h := h3 1
    rcases Int.mul_eq_zero.1 h.symm with h | h
    · omega
    · exact h
  rw [u1, Int.mul_zero, Int.sub_zero]
  generalize (redL [z0 * y1 - y0 * zz]).getD 0 0 = u at e3 ⊢
  obtain ⟨g4, p4, h4⟩ := red_pos [u * zz]
  have e4 : u * zz = g4 * (redL [u * zz]).getD 0 0 := h4 0
  generalize (redL [u * zz]).getD 0 0 = v at e4 ⊢
  subst ea eb ec ed ee
  have q2 : g1 * y0 * (g0 * x1) - g0 * x0 * (g1 * y1) = g0 * g1 * (g2 * z0) := by rw [← e2]; grind
  have q3 : (g1 * y0 * (g0 * x1) - g0 * x0 * (g1 * y1)) * (g1 * y1) - g1 * y0 * (g1 * y0) * (g0 * x2) = g0 * g1 * (g1 * (g2 * (g3 * u))) := by rw [← e3]; grind
  rw [q3, q2, gpos p0, gpos p1, gpos p0, gpos (Int.mul_pos p0 p1), gpos p2, gpos (Int.mul_pos p0 p1), gpos p1, gpos p2, gpos p3]
  constructor
  · rintro ⟨r0, r1, r2, r3, r4, _⟩
    have s1 : 0 < zz := (gpos r3).1 (by rw [e4]; exact (gpos p4).2 r4)
    exact ⟨r0, r1, r2, r3, (gpos r1).1 (by rw [f2]; exact (gpos p2).2 s1)⟩
  · rintro ⟨r0, r1, r2, r3, r4⟩
    have s1 : 0 < zz := (gpos p2).1 (by rw [← f2]; exact (gpos r1).2 r4)
    exact ⟨r0, r1, r2, r3, (gpos p4).1 (by rw [← e4]; exact (gpos r3).2 s1), trivial⟩
end Go.Tr

/- Plain laws: a polynomial in a box whose corners are stable is stable. Conditions: none. -/
namespace Go.Tr
open Go Go.Proofs
set_option maxRecDepth 20000
set_option maxHeartbeats 8000000

theorem khar2 {a b al bl : Int} (h0 : 0 < al) (ha : al ≤ a) (hb : bl ≤ b) (k1 : stabB [al, bl] = true) : stabB [a, b] = true := by
  rw [st2] at k1 ⊢
  omega
theorem khar3 {a b c al ah bl cl : Int} (h0 : 0 < al) (ha : al ≤ a) (hb : bl ≤ b) (hc : cl ≤ c) (k1 : stabB [ah, bl, cl] = true) : stabB [a, b, c] = true := by
  rw [st3] at k1 ⊢
  omega
theorem mul_mono {a b c d : Int} (h1 : a ≤ b) (h2 : c ≤ d) (h3 : 0 ≤ c) (h4 : 0 ≤ b) : a * c ≤ b * d :=
  Int.le_trans (Int.mul_le_mul_of_nonneg_right h1 h3) (Int.mul_le_mul_of_nonneg_left h2 h4)
theorem khar4 {a b c d al ah bl bh cl dl dh : Int} (h0 : 0 < al) (ha : al ≤ a ∧ a ≤ ah) (hb : bl ≤ b) (hc : cl ≤ c) (hd : dl ≤ d ∧ d ≤ dh) (k1 : stabB [ah, bh, cl, dl] = true) (k3 : stabB [ah, bl, cl, dh] = true) : stabB [a, b, c, d] = true := by
  rw [st4] at k1 k3 ⊢
  obtain ⟨_, _, _, d0⟩ := k1
  obtain ⟨_, b0, q, _⟩ := k3
  have e1 := Int.mul_pos (show 0 < ah by omega) (show 0 < dh by omega)
  have c0 : 0 < cl := (gpos b0).1 (by omega)
  have e2 := mul_mono hb hc (by omega) (by omega)
  have e3 := mul_mono ha.2 hd.2 (by omega) (by omega)
  exact ⟨by omega, by omega, by omega, by omega⟩
theorem le_cancel {x y b : Int} (hb : 0 < b) (h : b * x ≤ b * y) : x ≤ y := Int.le_of_mul_le_mul_left h hb
theorem lt_cancel {x y b : Int} (hb : 0 < b) (h : b * x < b * y) : x < y := Int.lt_of_mul_lt_mul_left h (Int.le_of_lt hb)
/-- What is less at both ends is less between them. -/
theorem between {A C E b bl bh d dl dh : Int} (hA : 0 < A) (hE : 0 < E) (h1 : 0 < bl) (h2 : bl ≤ b) (h3 : b ≤ bh) (g1 : 0 < dl) (g2 : dl ≤ d) (g3 : d ≤ dh)
    (u : A * (dl * dl) + E * (bh * bh) < C * (bh * dl)) (v : A * (dh * dh) + E * (bl * bl) < C * (bl * dh)) : A * (d * d) + E * (b * b) < C * (b * d) := by
  have hb : 0 < b := by omega
  have hd : 0 < d := by omega
  have hbd := Int.mul_pos hb hd
  rcases Int.le_total (E * (b * b)) (A * (d * d)) with h | h
  · have f1 : 0 ≤ dh * b - bl * d := by have := mul_mono g3 h2 (by omega) (by omega); grind
    have f2 : 0 ≤ A * d * dh - E * b * bl := by
      refine le_cancel hb ?_
      have r1 := Int.mul_nonneg (Int.le_of_lt (Int.mul_pos hA hd)) f1
      have r2 := Int.mul_nonneg (show 0 ≤ A * (d * d) - E * (b * b) by omega) (Int.le_of_lt h1)
      grind
    have f3 := Int.mul_nonneg f1 f2
    have hx := Int.mul_pos h1 (show 0 < dh by omega)
    refine lt_cancel hx ?_
    have f4 := Int.mul_lt_mul_of_pos_right v hbd
    grind
  · have f1 : 0 ≤ bh * d - dl * b := by have := mul_mono g2 h3 (by omega) (by omega); grind
    have f2 : 0 ≤ E * b * bh - A * d * dl := by
      refine le_cancel hb ?_
      have r1 := Int.mul_nonneg (Int.le_of_lt (Int.mul_pos hA hd)) f1
      have r2 := Int.mul_nonneg (show 0 ≤ E * (b * b) - A * (d * d) by omega) (show 0 ≤ bh by omega)
      grind
    have f3 := Int.mul_nonneg f1 f2
    have hx := Int.mul_pos (show 0 < bh by omega) g1
    refine lt_cancel hx ?_
    have f4 := Int.mul_lt_mul_of_pos_right u hbd
    grind
theorem sq_nn' (x : Int) : 0 ≤ x * x := by
  rcases Int.le_total 0 x with h | h
  · exact Int.mul_nonneg h h
  · have := Int.mul_nonneg (show 0 ≤ -x by omega) (show 0 ≤ -x by omega)
    rwa [Int.neg_mul_neg] at this
theorem khar5 {a b c d e al ah bl bh cl ch dl dh el eh : Int} (h0 : 0 < al) (ha : al ≤ a ∧ a ≤ ah) (hb : bl ≤ b ∧ b ≤ bh) (hc : cl ≤ c) (hd : dl ≤ d ∧ d ≤ dh) (he : el ≤ e ∧ e ≤ eh)
    (k1 : stabB [al, bh, ch, dl, el] = true) (k2 : stabB [ah, bl, cl, dh, eh] = true) (k3 : stabB [ah, bh, cl, dl, eh] = true) : stabB [a, b, c, d, e] = true := by
  rw [st5] at k1 k2 k3 ⊢
  obtain ⟨_, bh0, p2, p3, e0⟩ := k1
  obtain ⟨_, b0, _, q3, _⟩ := k2
  obtain ⟨_, _, _, r3, _⟩ := k3
  have d0 : 0 < dl := by
    have := Int.mul_pos (Int.mul_pos bh0 bh0) e0
    exact (gpos p2).1 (by omega)
  have hbd := Int.mul_pos (show 0 < b by omega) (show 0 < d by omega)
  have ht := between (A := ah) (C := cl) (E := eh) (by omega) (by omega) b0 hb.1 hb.2 d0 hd.1 hd.2 (by grind) (by grind)
  have t1 := Int.mul_le_mul_of_nonneg_right ha.2 (sq_nn' d)
  have t2 := Int.mul_le_mul_of_nonneg_right he.2 (sq_nn' b)
  have t3 := Int.mul_le_mul_of_nonneg_right hc (Int.le_of_lt hbd)
  have hF : 0 < (b * c - a * d) * d - b * b * e := by grind
  have hbe := Int.mul_pos (Int.mul_pos (show 0 < b by omega) (show 0 < b by omega)) (show 0 < e by omega)
  refine ⟨by omega, by omega, (gpos (show 0 < d by omega)).1 (by rw [Int.mul_comm]; omega), hF, by omega⟩
end Go.Tr

/- The evaluator of TrEv once more, for runs whose numbers may be variables: whole numbers are not made plain. Conditions: the program's rules take any order. -/
namespace Go.Tr
open Go Go.RowKit
variable [GTab]

/-! ### Values made plain before they are used again -/

mutual
def hardY {α : Type} : Nat → AV → (AV → α) → α
  | 0, x, k => k x
  | d + 1, x, k => match x with
    | .val (.int kd n) => k (.val (.int kd n))
    | .val (.bool true) => k (.val (.bool true))
    | .val (.bool false) => k (.val (.bool false))
    | .agg l => hardLY d l fun l => k (.agg l)
    | .tuple l => hardLY d l fun l => k (.tuple l)
    | .func fn nf l => forceN nf fun nf => hardLY d l fun l => k (.func fn nf l)
    | .rptr l => hardLY d l fun l => k (.rptr l)
    | .optr b ver idx sub => forceN b fun b => forceN ver fun ver => forceN idx fun idx => forceN sub fun sub => k (.optr b ver idx sub)
    | .oslice b ver off len none => forceN b fun b => forceN ver fun ver => forceN off fun off => forceN len fun len => k (.oslice b ver off len none)
    | .oslice b ver off len (some c) => forceN b fun b => forceN ver fun ver => forceN off fun off => forceN len fun len => forceN c fun c => k (.oslice b ver off len (some c))
    | x => k x
def hardLY {α : Type} : Nat → List AV → (List AV → α) → α
  | 0, l, k => k l
  | _ + 1, [], k => k []
  | d + 1, x :: r, k => hardY d x fun x => hardLY d r fun r => k (x :: r)
end

mutual
theorem hard_eqY {α : Type} : ∀ (d : Nat) (x : AV) (k : AV → α), hardY d x k = k x
  | 0, x, k => by simp [hardY]
  | d + 1, x, k => by
    unfold hardY
    split <;> simp [forceN_eq, hardL_eqY d]
theorem hardL_eqY {α : Type} : ∀ (d : Nat) (l : List AV) (k : List AV → α), hardLY d l k = k l
  | 0, l, k => by simp [hardLY]
  | _ + 1, [], k => by simp [hardLY]
  | d + 1, x :: r, k => by simp [hardLY, hard_eqY d, hardL_eqY d]
end

/-! ### The evaluator -/

/-- A yield, a function in place, as they are run. -/
abbrev YFY := Nat → Nat → List AV → St → Option (Bool × St)
abbrev IFY := YFY → FuncId → List AV → Nat → St → Option (AV × St)
def noYFY : YFY := fun _ _ _ _ => none

def forceTmY {α : Type} : List (Nat × AV) → (List (Nat × AV) → α) → α
  | [], k => k []
  | (t, x) :: r, k => forceN t fun t => hardY 12 x fun x => forceTmY r fun r => k ((t, x) :: r)

/-- The pairs of operations of a region that draws which need a gate. -/
def glOfY (ops : Array Oper) : List (Nat × Nat) :=
  let bf := befores ops.toList []
  (List.range ops.size).flatMap fun j => (List.range j).filterMap fun i =>
    match nth? ops.toList i, nth? ops.toList j with
    | some x, some y => bif pairOk [] ops bf i j x y then none else some (i, j)
    | _, _ => none

section
variable (T : Nat → Option TI) (F : FuncId → List AV → Option (AV × Bool)) (I : IFY) (g0 : Bool)

def evOpY (Y : YFY) (n : Nat) (o : Oper) (s : St) : Option (AV × St) :=
  match opEvF T s.eval s.hp o with
  | .bad => none
  | .ok v h => some (v, { s with hp := h })
  | @Res.need p d v h => match @decide p d with | true => some (v, { s with hp := h }) | false => none
  | .upd h b k g fl => some (.top, { s with hp := h.setB b (k.wr g fl) })
  | @Res.anyB p d b h => match @decide p d with | true => some (.val (.bool b), { s with hp := h }) | false => none
  | @Res.either p d v h p' d' v' h' => match @decide p d with | true => some (v, { s with hp := h }) | false => match @decide p' d' with | true => some (v', { s with hp := h' }) | false => none
  | @Res.share p d v bs ms => match g0 with | true => (match @decide p d with | true => some (v, { s with hp := { s.hp with blocks := roB bs 0 s.hp.blocks, maps := roM ms 0 s.hp.maps } }) | false => none) | false => none
  | .ranged .. => none
  | .nextc .. => none
  | .insF .. => none
  | .call f args bs ms =>
    match o.op with
    | .call { callee := .value _, .. } =>
      match F f args with
      | some (r, true) => match adopt r s.hp.blocks.length with | (v, ks) => some (v, { s with hp := { s.hp with blocks := s.hp.blocks ++ ks } })
      | some (r, false) => some (r, { s with hp := { s.hp with blocks := roB bs 0 s.hp.blocks, maps := roM ms 0 s.hp.maps } })
      | none =>
        match I noYFY f (rawArgs o s.eval) n s with
        | some (v, s') => some (v, { s' with hp := { s'.hp with jump := s.hp.jump } })
        | none => none
    | _ => none
  | .yieldc i args =>
    match o.op with
    | .call { callee := .value _, .. } =>
      match Y i n args s with
      | some (true, s') => some (.val (.bool true), s')
      | some (false, s') => some (.val (.bool false), s')
      | none => none
    | _ => none

def evOneY (Y : YFY) (n : Nat) (st : (Operand → AV) → Option Bool) (o : Oper) (s : St) : Option St :=
  match st s.eval with
  | none => none
  | some b =>
  match slotOk n o.dst && (b || !isEff o s.eval) with
  | true => match evOpY T F I g0 Y n o s with
    | some (v, s') => hardY 12 v fun v => some (s'.put o.dst v)
    | none => none
  | false => none

def evOpsY (Y : YFY) (n : Nat) (st : Nat → (Operand → AV) → Option Bool) (ops : Array Oper) : Nat → List Oper → St → Option St
  | _, [], s => some s
  | i, o :: r, s =>
    match o.guard with
    | none => match evOneY T F I g0 Y n (st i) o s with | some s' => evOpsY Y n st ops (i + 1) r s' | none => none
    | some (j, want) =>
      match (nth? ops.toList j).bind (·.dst) with
      | none => none
      | some t =>
        match look s.tm t with
        | .val (.bool b) =>
          match b, want with
          | true, true => match evOneY T F I g0 Y n (st i) o (s.put (some t) (.val (.bool true))) with | some s' => evOpsY Y n st ops (i + 1) r s' | none => none
          | false, false => match evOneY T F I g0 Y n (st i) o (s.put (some t) (.val (.bool false))) with | some s' => evOpsY Y n st ops (i + 1) r s' | none => none
          | true, false => evOpsY Y n st ops (i + 1) r ((s.put (some t) (.val (.bool true))).put o.dst (.val undef))
          | false, true => evOpsY Y n st ops (i + 1) r ((s.put (some t) (.val (.bool false))).put o.dst (.val undef))
        | .val (.tuple _) => evOpsY Y n st ops (i + 1) r (s.put o.dst (.val undef))
        | _ => none

def evLoopY (body : St → Option (Ex × St)) (tidyY : St → St) : Nat → St → Option (Ex × St)
  | 0, _ => none
  | m + 1, s => match body s with
    | some (.normal, s') => evLoopY body tidyY m (match m % 16 with | 0 => tidyY s' | _ => s')
    | x => x

end

def noIY : IFY := fun _ _ _ _ _ => none
def gateFY (gl : List (Nat × Nat)) (ops : Array Oper) : Nat → (Operand → AV) → Option Bool :=
  match gl with
  | [] => fun j _ => some (effAt ops j)
  | _ => gateSt gl ops

/-- A round. -/
def evRoundY (assign body : St → Option (Ex × St)) (ny n : Nat) (ps : List Tmp) : YFY := fun i m args s1 =>
  bif Nat.beq i ny && Nat.beq args.length ps.length && s1.hp.jump.isNone && ps.all (fun t => Nat.blt t n) then
    forceTmY (popTm n s1.sv) fun tm => forceTmY (pushSv m s1.tm s1.sv) fun sv =>
    match assign (bindP (ps.zip args) { tm, hp := s1.hp, sv }) with
    | some (.normal, s2) =>
      match body s2 with
      | some (.normal, s3) => forceTmY (popTm m s3.sv) fun tm => forceTmY (popSv m s3.sv) fun sv => some (true, { tm, hp := { s3.hp with jump := none }, sv })
      | some (e, s3) => forceTmY (popTm m s3.sv) fun tm => forceTmY (popSv m s3.sv) fun sv => some (false, { tm, hp := { s3.hp with jump := some e }, sv })
      | none => none
    | _ => none
  else none

def evCY (T : Nat → Option TI) (F : FuncId → List AV → Option (AV × Bool)) (I : IFY) (tidyY : St → St) (n L : Nat) : Code → YFY → Bool → St → Option (Ex × St)
  | .skip, _, _, s => some (.normal, s)
  | .seq a b, Y, k, s => match evCY T F I tidyY n L a Y k s with | some (.normal, s') => evCY T F I tidyY n L b Y k s' | x => x
  | .cond x a b, Y, k, s =>
    match x, s.eval x with
    | .tmp _, .val (.bool true) => evCY T F I tidyY n L a Y k s
    | .tmp _, .val (.bool false) => evCY T F I tidyY n L b Y k s
    | .const (.bool true), _ => evCY T F I tidyY n L a Y k s
    | .const (.bool false), _ => evCY T F I tidyY n L b Y k s
    | _, _ => none
  | .block id c, Y, k, s => match evCY T F I tidyY n L c Y k s with
    | some (.exit i, s') => bif Nat.beq i id then some (.normal, s') else some (.exit i, s')
    | x => x
  | .loop c, Y, k, s => evLoopY (fun s => evCY T F I tidyY n L c Y k s) tidyY L s
  | .exit id, _, _, s => some (.exit id, s)
  | .ret, _, _, s => some (.ret, s)
  | .region _ ops draw, Y, _, s => match draw with
    | true => match glOfY ops with
      | gl => bif drawOk gl ops then (match evOpsY T F noIY false noYFY n (gateFY gl (arr gl ops)) (arr gl ops) 0 (arr gl ops).toList s with | some s' => some (.normal, s') | none => none) else none
    | false => match evOpsY T F I true Y n (fun _ _ => some true) ops 0 ops.toList s with | some s' => some (.normal, s') | none => none
  | .rangeFunc g ps assign body, _, k, s =>
    match k, s.eval g with
    | true, .func (.func f) nf cap =>
      match I (evRoundY (fun s => evCY T F I tidyY n L assign noYFY false s) (fun s => evCY T F I tidyY n L body noYFY false s) s.hp.ny n ps.toList) f (cap.take nf ++ .yld s.hp.ny :: cap.drop nf) n { s with hp := { s.hp with jump := none, ny := s.hp.ny + 1 } } with
      | some (_, s') => match s'.hp.jump with
        | none => some (.normal, { s' with hp := { s'.hp with jump := s.hp.jump } })
        | some e => some (e, { s' with hp := { s'.hp with jump := s.hp.jump } })
      | none => none
    | _, _ => none
  | _, _, _, _ => none

section
variable (T : Nat → Option TI)

def solidY : Nat → AV → AV
  | 0, x => x
  | _ + 1, .rslice es len f => hardRows ((List.range len).map f) fun l => .rslice es len fun i => (nth? l i).getD []
  | n + 1, .agg l => .agg (l.map (solidY n))
  | n + 1, .tuple l => .tuple (l.map (solidY n))
  | _ + 1, x => x
where
  hardRows {α : Type} : List (List AV) → (List (List AV) → α) → α
    | [], k => k []
    | x :: r, k => hardLY 12 x fun x => hardRows r fun r => k (x :: r)

def deepY : Nat → AV → Bool
  | 0, _ => false
  | n + 1, .agg l => l.all (deepY n)
  | n + 1, .tuple l => l.all (deepY n)
  | _ + 1, _ => true

def isValY : AV → Bool
  | .val _ => true
  | _ => false

def plainBY : List AV → Bool
  | [] => true
  | .rslice _ len g :: r => ((List.range len).all fun i => (g i).all isValY) && plainBY r
  | _ :: r => plainBY r

def evRY (fn : Func) (s : St) : Option (AV × Bool) :=
  match resAV T s fn.results.toList with
  | none => none
  | some l => bif deepY 5 (fz s.hp (oneOf l)) then
      hardY 12 (solidY 5 (fz s.hp (oneOf l))) fun z => some (z, ownB s.hp (leaves (oneOf l)) [] && plainBY (leaves z))
    else none
end

/-- Slots and blocks laid out anew. -/
def tidyTmY (n : Nat) (tm : List (Nat × AV)) : List (Nat × AV) := go n 0
where
  go : Nat → Nat → List (Nat × AV)
    | 0, _ => []
    | k + 1, t => (match look tm t with | .top => go k (t + 1) | x => (t, x) :: go k (t + 1))

def tidyBY (k : AB) : AB := bif Nat.ble k.len 64 then solidY.hardRows ((List.range k.len).map k.f) fun l => { k with f := fun i => (nth? l i).getD [] } else k

def forceBsY : List AB → (List AB → St) → St
  | [], k => k []
  | x :: r, k => match x with
    | ⟨es, len, f, ver, ro, flat, one⟩ => forceBsY r fun r => k (⟨es, len, f, ver, ro, flat, one⟩ :: r)

def tidyY (n : Nat) (s : St) : St :=
  forceTmY (tidyTmY n s.tm) fun tm => forceBsY (s.hp.blocks.map tidyBY) fun bs => { s with tm, hp := { s.hp with blocks := bs } }

/-- The body of a function, run. G: contracts that are known. -/
def evDY (P : Program) (G : FuncId → List AV → Option (AV × Bool)) (L : Nat) : Nat → YFY → FuncId → List (Nat × AV) → List AV → Hp → Option (St × Func)
  | 0, _, _, _, _, _ => none
  | d + 1, Y, f, sv, args, hp =>
    match P.funcs[f]? with
    | some fn =>
      match fn.body with
      | some c =>
        bif !(fn.name == "runtime.NumGoroutine") && Nat.ble args.length fn.ntmps then
          match evCY (TP P)
              (fun f args => match G f args with
                | some x => some x
                | none => match evDY P G L d noYFY f [] args ⟨[], [], none, 0⟩ with | some (s, fn) => evRY (TP P) fn s | none => none)
              (fun Y f args n s => forceTmY (pushSv n s.tm s.sv) fun sv => match evDY P G L d Y f sv args s.hp with
                | some (s', fn) => match resAV (TP P) s' fn.results.toList with
                  | some l => forceTmY (popTm n s'.sv) fun tm => forceTmY (popSv n s'.sv) fun sv => some (oneOf l, { tm, hp := s'.hp, sv })
                  | none => none
                | none => none)
              (tidyY fn.ntmps) fn.ntmps L c Y true { tm := start args 0, hp, sv } with
          | some (.normal, s) => some (s, fn)
          | some (.ret, s) => some (s, fn)
          | _ => none
        else none
      | none => none
    | none => none

/-- A function, run. -/
def evFY (P : Program) (G : FuncId → List AV → Option (AV × Bool)) (L d : Nat) (f : FuncId) (args : List AV) : Option (AV × Bool) :=
  match G f args with
  | some x => some x
  | none => match evDY P G L d noYFY f [] args ⟨[], [], none, 0⟩ with
    | some (s, fn) => evRY (TP P) fn s
    | none => none

/-! ### It tells the truth -/

theorem forceTm_eqY {α : Type} : ∀ (l : List (Nat × AV)) (k : List (Nat × AV) → α), forceTmY l k = k l
  | [], k => rfl
  | (t, x) :: r, k => by simp [forceTmY, forceN_eq, hard_eqY, forceTm_eqY r]

/-- What a run yield says of a yield. -/
def YRelY (Y : YFY) (YR : YT) : Prop := ∀ i m args s b s', Y i m args s = some (b, s') → ∀ K : Bool → St → Prop, K b s' → YR i m args s K
theorem noYF_relY (YR : YT) : YRelY noYFY YR := fun _ _ _ _ _ _ h => by cases h

def IRelY (I : IFY) : YT → FuncId → List AV → Nat → St → (AV → St → Prop) → Prop := fun YR f args n s K => ∃ Y, YRelY Y YR ∧ ∃ r s', I Y f args n s = some (r, s') ∧ K r s'

section
variable {P : Program} {T : Nat → Option TI} {F : FuncId → List AV → Option (AV × Bool)} {I : IFY}

/-- The environment of a run. -/
def evEnvY (F : FuncId → List AV → Option (AV × Bool)) (I : IFY) (YR : YT) (k g0 : Bool) : Env := { S := fun f args r fr => F f args = some (r, fr), I := IRelY I, Y := YR, rok := k, any := g0 }

theorem evOp_okY {Y : YFY} {YR : YT} (hY : YRelY Y YR) {k g0 : Bool} {n : Nat} {o : Oper} {s s' : St} {v : AV} (he : evOpY T F I g0 Y n o s = some (v, s')) {K : AV → St → Prop} (hK : K v s') : opW (evEnvY F I YR k g0) T n o s K := by
  unfold evOpY at he
  rw [opEvF_eq] at he
  unfold opW
  split at he
  · cases he
  · rename_i v' h' hev
    rw [hev]
    cases he
    exact hK
  · rename_i p d v' h' hev
    rw [hev]
    simp only
    split at he
    · rename_i hd
      cases he
      exact ⟨of_decide_eq_true hd, hK⟩
    · cases he
  · rename_i h0 b k g fl hev
    rw [hev]
    simp only
    cases he
    exact ⟨g, fun _ _ => rfl, hK⟩
  · rename_i p d b' h' hev
    rw [hev]
    simp only
    split at he
    · rename_i hd
      cases he
      have hp := of_decide_eq_true hd
      cases g0 with
      | true => exact fun x hx => by rw [hx hp]; exact hK
      | false => exact ⟨hp, hK⟩
    · cases he
  · rename_i p d v1 h1 p' d' v2 h2 hev
    rw [hev]
    simp only
    split at he
    · rename_i hd
      cases he
      exact .inl ⟨of_decide_eq_true hd, hK⟩
    · split at he
      · rename_i hd
        cases he
        exact .inr ⟨of_decide_eq_true hd, hK⟩
      · cases he
  · rename_i p d v1 bs ms hev
    rw [hev]
    simp only
    split at he
    · split at he
      · rename_i hd
        cases he
        exact ⟨of_decide_eq_true hd, hK⟩
      · cases he
    · cases he
  · cases he
  · cases he
  · cases he
  · rename_i f args bs ms hev
    rw [hev]
    simp only
    split at he
    · rename_i fo gs ts hop
      simp only [hop]
      split at he
      · rename_i r hr
        split at he
        rename_i v' ks hks
        cases he
        exact .inl ⟨r, true, hr, by simp only; rw [hks]; exact hK⟩
      · rename_i r hr
        cases he
        exact .inl ⟨_, false, hr, hK⟩
      · split at he
        · rename_i v' s1 hi
          cases he
          refine .inr (.inl ⟨[], ?_⟩)
          simp only [fzs]
          rw [hev]
          exact ⟨noYFY, noYF_relY _, _, _, hi, hK⟩
        · cases he
    · cases he
  · rename_i i args hev
    rw [hev]
    simp only
    split at he
    · rename_i fo gs ts hop
      simp only [hop]
      split at he
      · rename_i s1 hy
        cases he
        exact hY _ _ _ _ _ _ hy _ hK
      · rename_i s1 hy
        cases he
        exact hY _ _ _ _ _ _ hy _ hK
      · cases he
    · cases he

theorem evOne_okY {Y : YFY} {YR : YT} (hY : YRelY Y YR) {k g0 : Bool} {n : Nat} {st : (Operand → AV) → Option Bool} {o : Oper} {s s' : St} (he : evOneY T F I g0 Y n st o s = some s') {K : St → Prop} (hK : K s') : oneW (evEnvY F I YR k g0) T n st o s K := by
  unfold evOneY at he
  unfold oneW
  simp only [putF_eq]
  split at he
  · cases he
  rename_i b hb
  rw [hb]
  simp only
  split at he
  · rename_i hs
    rw [hs]
    split at he
    · rename_i v h hev
      rw [hard_eqY] at he
      cases he
      exact evOp_okY hY hev hK
    · cases he
  · cases he

theorem evOps_okY {Y : YFY} {YR : YT} (hY : YRelY Y YR) {k g0 : Bool} {n : Nat} {st : Nat → (Operand → AV) → Option Bool} {ops : Array Oper} {K : St → Prop} : ∀ (l : List Oper) (i : Nat) (s s' : St), evOpsY T F I g0 Y n st ops i l s = some s' → K s' → opsW (evEnvY F I YR k g0) T n st ops K i l s
  | [], i, s, s', he, hK => by simp only [evOpsY] at he; cases he; exact hK
  | o :: r, i, s, s', he, hK => by
    unfold evOpsY at he
    unfold opsW
    simp only [putF_eq]
    have go : ∀ s, (match evOneY T F I g0 Y n (st i) o s with | some s' => evOpsY T F I g0 Y n st ops (i + 1) r s' | none => none) = some s' → oneW (evEnvY F I YR k g0) T n (st i) o s (opsW (evEnvY F I YR k g0) T n st ops K (i + 1) r) := fun s h => by
      split at h
      · rename_i s1 h1
        exact evOne_okY hY h1 (evOps_okY hY r (i + 1) s1 s' h hK)
      · cases h
    split at he
    · rename_i hg
      simp only [hg]
      exact go s he
    · rename_i j want hg
      split at he
      · cases he
      · rename_i t ht
        split at he
        · rename_i b hl
          split at he
          · simp only [hg, ht, hl, ifB]; exact go _ he
          · simp only [hg, ht, hl, ifB]; exact go _ he
          · simp only [hg, ht, hl, ifB]; exact evOps_okY hY r (i + 1) _ s' he hK
          · simp only [hg, ht, hl, ifB]; exact evOps_okY hY r (i + 1) _ s' he hK
        · rename_i vs hl
          simp only [hg, ht, hl]
          exact evOps_okY hY r (i + 1) _ s' he hK
        · cases he

theorem SR.look_eqY {F : Fr} {w0 w : World} {q : Nat → Prop} {s s' : St} {a : Act} {c : Cx} (h : SR P F w0 q s a w c) (ht : ∀ t, look s'.tm t = look s.tm t ∨ look s'.tm t = .top) (hh : s'.hp = s.hp) (hsv : s'.sv = s.sv) : SR P F w0 q s' a w c :=
  ⟨by rw [hh, hsv]; exact h.toHS, fun t => by rcases ht t with g | g <;> rw [g]; exact h.tm t; exact .tree (.top _), h.size, h.defers⟩

theorem evLoop_okY {Fm : Fr} {w0 : World} {q : Nat → Prop} {cd : Code} {body : St → Option (Ex × St)} {tidyY : St → St} (ht : ∀ s a w c, SR P Fm w0 q s a w c → SR P Fm w0 q (tidyY s) a w c)
    (hb : ∀ e s s', body s = some (e, s') → ∀ (Q : Exit → Act → World → Prop) a w c, SR P Fm w0 q s a w c → (∀ a' w' c', SR P Fm w0 q s' a' w' c' → Q (toExit e) a' w') → cd.wpIn (FR Fm.r) 0 P Q a w)
    {m : Nat} {s s' : St} {e : Ex} (he : evLoopY body tidyY m s = some (e, s')) (Q : Exit → Act → World → Prop) (a : Act) (w : World) (c : Cx) (h : SR P Fm w0 q s a w c) (hQ : ∀ a' w' c', SR P Fm w0 q s' a' w' c' → Q (toExit e) a' w') : (Code.loop cd).wpIn (FR Fm.r) 0 P Q a w := by
  refine wp_loop_rel (fun m a w => ∃ s0 c0, evLoopY body tidyY m s0 = some (e, s') ∧ SR P Fm w0 q s0 a w c0) (m := m) ⟨s, c, he, h⟩ ?_
  rintro m a w ⟨s0, c0, h0, hs0⟩
  cases m with
  | zero => cases h0
  | succ m =>
    unfold evLoopY at h0
    split at h0
    · rename_i s1 hs1
      refine hb .normal s0 s1 hs1 _ a w c0 hs0 fun a' w' c' h' => ⟨m, by omega, _, c', h0, ?_⟩
      split
      · exact ht _ _ _ _ h'
      · exact h'
    · rename_i x hx
      refine hb e s0 s' h0 _ a w c0 hs0 fun a' w' c' h' => ?_
      have := hQ a' w' c' h'
      cases e with
      | normal => exact absurd h0 (hx s')
      | exit id => exact this
      | ret => exact this

theorem gateF_eqY (gl : List (Nat × Nat)) (ops : Array Oper) : gateFY gl ops = gateSt gl ops := by
  unfold gateFY
  cases gl with
  | nil => funext j ρ; rfl
  | cons p r => rfl

theorem evC_okY (hT : TOK P T) (hD : DrawnOk P T) (hF : ∀ f args r fr, F f args = some (r, fr) → Sound1 P f args r fr) (hI : IOk P (IRelY I)) {n L : Nat} {w0 : World} {q : Nat → Prop} {tidyY : St → St} (ht : ∀ (Fm : Fr) s a w c, SR P Fm w0 q s a w c → SR P Fm w0 q (tidyY s) a w c) :
    ∀ (cd : Code) (Fm : Fr) (_ : Fm.n = n) (Y : YFY) (YR : YT) (_ : YRelY Y YR) (_ : YR = noY ∨ (Fm.r = none ∧ YOk P Fm.X Fm.G Fm.rc w0 q YR)) (k : Bool) (_ : k = true → Fm.r = none) (e : Ex) (s s' : St), evCY T F I tidyY n L cd Y k s = some (e, s') →
    ∀ (Q : Exit → Act → World → Prop) a w c, SR P Fm w0 q s a w c → (∀ a' w' c', SR P Fm w0 q s' a' w' c' → Q (toExit e) a' w') → cd.wpIn (FR Fm.r) 0 P Q a w := by
  intro cd
  induction cd with
  | skip => intro Fm hn Y YR hY hYo k hk e s s' he Q a w c h hQ; simp only [evCY] at he; cases he; exact wpIn_skip (hQ a w c h)
  | ret => intro Fm hn Y YR hY hYo k hk e s s' he Q a w c h hQ; simp only [evCY] at he; cases he; exact wpIn_ret (hQ a w c h)
  | exit id => intro Fm hn Y YR hY hYo k hk e s s' he Q a w c h hQ; simp only [evCY] at he; cases he; exact wpIn_exit (hQ a w c h)
  | seq x y ihx ihy =>
    intro Fm hn Y YR hY hYo k hk e s s' he Q a w c h hQ
    simp only [evCY] at he
    split at he
    · rename_i s1 h1
      exact wpIn_seq (ihx Fm hn Y YR hY hYo k hk .normal s s1 h1 _ a w c h fun a' w' c' h' => ihy Fm hn Y YR hY hYo k hk e s1 s' he Q a' w' c' h' hQ)
    · rename_i hx
      refine wpIn_seq (ihx Fm hn Y YR hY hYo k hk e s s' he _ a w c h fun a' w' c' h' => ?_)
      have := hQ a' w' c' h'
      cases e with
      | normal => exact absurd he (hx s')
      | exit id => exact this
      | ret => exact this
  | cond x t e iht ihe =>
    intro Fm hn Y YR hY hYo k hk ex s s' he Q a w c h hQ
    simp only [evCY] at he
    split at he
    · rename_i t' hl
      have hv : VR P w c (look s.tm t') (a.tmps.getD t' undef) := h.tm t'
      rw [show look s.tm t' = .val (.bool true) from hl] at hv
      exact wpIn_cond_true (show a.eval (.tmp t') = .bool true from hv.val_inv) (iht Fm hn Y YR hY hYo k hk ex s s' he Q a w c h hQ)
    · rename_i t' hl
      have hv : VR P w c (look s.tm t') (a.tmps.getD t' undef) := h.tm t'
      rw [show look s.tm t' = .val (.bool false) from hl] at hv
      exact wpIn_cond_false (show a.eval (.tmp t') = .bool false from hv.val_inv) (ihe Fm hn Y YR hY hYo k hk ex s s' he Q a w c h hQ)
    · exact wpIn_cond_true rfl (iht Fm hn Y YR hY hYo k hk ex s s' he Q a w c h hQ)
    · exact wpIn_cond_false rfl (ihe Fm hn Y YR hY hYo k hk ex s s' he Q a w c h hQ)
    · cases he
  | block id x ih =>
    intro Fm hn Y YR hY hYo k hk e s s' he Q a w c h hQ
    simp only [evCY] at he
    split at he
    · rename_i i s1 h1
      refine wpIn_block (ih Fm hn Y YR hY hYo k hk (.exit i) s s1 h1 _ a w c h fun a' w' c' h' => ?_)
      cases hb : Nat.beq i id with
      | true =>
        rw [hb] at he
        cases he
        have := Nat.eq_of_beq_eq_true hb
        subst this
        simp only [toExit, Exit.inBlock, if_true]
        exact hQ a' w' c' h'
      | false =>
        rw [hb] at he
        cases he
        have hne : i ≠ id := fun e => by subst e; simp at hb
        simp only [toExit, Exit.inBlock, if_neg hne]
        exact hQ a' w' c' h'
    · rename_i hx
      refine wpIn_block (ih Fm hn Y YR hY hYo k hk e s s' he _ a w c h fun a' w' c' h' => ?_)
      have := hQ a' w' c' h'
      cases e with
      | normal => exact this
      | exit id => exact absurd he (hx id s')
      | ret => exact this
  | loop x ih =>
    intro Fm hn Y YR hY hYo k hk e s s' he Q a w c h hQ
    simp only [evCY] at he
    exact evLoop_okY (ht Fm) (fun e s s' he => ih Fm hn Y YR hY hYo k hk e s s' he) he Q a w c h hQ
  | region id ops draw =>
    intro Fm hn Y YR hY hYo k hk e s s' he Q a w c h hQ
    simp only [evCY] at he
    split at he
    · generalize hgl : glOfY ops = gl at he
      cases hd : drawOk gl ops with
      | false => rw [hd] at he; cases he
      | true =>
        rw [hd, cond_true] at he
        split at he
        · rename_i s1 h1
          cases he
          rw [gateF_eqY] at h1
          have h2 := evOps_okY (k := k) (YR := noY) (noYF_relY _) (K := fun x => x = s') (arr gl ops).toList 0 s s' h1 rfl
          rw [← hn] at h2
          have hpl : (evEnvY F noIY noY k false).plain = { evEnvY F noIY noY k false with I := fun _ _ _ _ _ _ => False, Y := noY } := rfl
          have hev : opsW (evEnvY F noIY noY k false).plain T Fm.n (gateSt gl (arr gl ops)) (arr gl ops) (fun x => x = s') 0 (arr gl ops).toList s := by
            have hI0 : (evEnvY F noIY noY k false) = (evEnvY F noIY noY k false).plain := by
              have : IRelY noIY = fun _ _ _ _ _ _ => False := by
                funext YR f args n s K
                refine propext ⟨fun ⟨Y, _, r, s', h, _⟩ => (by cases h), fun h => h.elim⟩
              unfold evEnvY Env.plain
              rw [this]
            rw [← hI0]
            exact h2
          exact hD Fm (evEnvY F noIY noY k false) w0 q id ops (fun x => x = s') Q s a w c gl hF hd (fun s2 a' w' c' h' e => hQ a' w' c' (e ▸ h')) h hev
        · cases he
    · split at he
      · rename_i s1 h1
        cases he
        refine wpIn_region ?_
        have h2 := evOps_okY (k := k) (g0 := true) hY (K := fun x => x = s') ops.toList 0 s s' h1 rfl
        rw [← hn] at h2
        have := ops_ok hT (E := evEnvY F I YR k true) ⟨hF, hI, hYo, hk, fun _ _ _ _ _ _ hf => hf.elim⟩ (Q := Q) (K := fun x => x = s') (fun s2 a' w' c' h' e => hQ a' w' c' (e ▸ h')) ops.toList 0 s a w c rfl h h2
        rwa [← List.range_eq_range', Array.length_toList] at this
      · cases he
  | rangeFunc g ps assign body iha ihb =>
    intro Fm hn Y YR hY hYo k hk e s s' he Q a w c h hQ
    simp only [evCY] at he
    split at he
    · rename_i f nf cap hg
      subst hn
      have hWA : ∀ F2 : Fr, F2.n = Fm.n → F2.rc = none → F2.r ≠ none → ∀ (Q' : Ex → St → Prop) (Q : Exit → Act → World → Prop) (s : St) (a : Act) (w : World) (c : Cx), (∀ e s' a' w' c', SR P F2 w0 q s' a' w' c' → Q' e s' → Q (toExit e) a' w') → SR P F2 w0 q s a w c → (∃ e s', evCY T F I tidyY Fm.n L assign noYFY false s = some (e, s') ∧ Q' e s') → assign.wpIn (FR F2.r) 0 P Q a w :=
        fun F2 e1 _ _ Q' Q s a w c hQ h ⟨e, s', he, hq⟩ => iha F2 e1 noYFY noY (noYF_relY _) (.inl rfl) false (fun hf => by cases hf) e s s' he Q a w c h fun a' w' c' h' => hQ e s' a' w' c' h' hq
      have hWB : ∀ F2 : Fr, F2.n = Fm.n → F2.rc = none → F2.r ≠ none → ∀ (Q' : Ex → St → Prop) (Q : Exit → Act → World → Prop) (s : St) (a : Act) (w : World) (c : Cx), (∀ e s' a' w' c', SR P F2 w0 q s' a' w' c' → Q' e s' → Q (toExit e) a' w') → SR P F2 w0 q s a w c → (∃ e s', evCY T F I tidyY Fm.n L body noYFY false s = some (e, s') ∧ Q' e s') → body.wpIn (FR F2.r) 0 P Q a w :=
        fun F2 e1 _ _ Q' Q s a w c hQ h ⟨e, s', he, hq⟩ => ihb F2 e1 noYFY noY (noYF_relY _) (.inl rfl) false (fun hf => by cases hf) e s s' he Q a w c h fun a' w' c' h' => hQ e s' a' w' c' h' hq
      refine range_ok hI (hk rfl) (WA := fun Q s => ∃ e s', evCY T F I tidyY Fm.n L assign noYFY false s = some (e, s') ∧ Q e s') (WB := fun Q s => ∃ e s', evCY T F I tidyY Fm.n L body noYFY false s = some (e, s') ∧ Q e s') hWA hWB
        (Q' := fun e2 s2 => e2 = e ∧ s2 = s') (fun e2 s2 a' w' c' h' hq => by obtain ⟨rfl, rfl⟩ := hq; exact hQ a' w' c' h') h hg ?_
      refine ⟨evRoundY (fun s => evCY T F I tidyY Fm.n L assign noYFY false s) (fun s => evCY T F I tidyY Fm.n L body noYFY false s) s.hp.ny Fm.n ps.toList, ?_, ?_⟩
      · intro i m args s1 b s2 hr K hK
        unfold evRoundY at hr
        cases hc : (Nat.beq i s.hp.ny && Nat.beq args.length ps.toList.length && s1.hp.jump.isNone && ps.toList.all (fun t => Nat.blt t Fm.n)) with
        | false => rw [hc] at hr; cases hr
        | true =>
          rw [hc, cond_true] at hr
          refine ⟨rfl, ?_⟩
          rw [forceTm_eqY, forceTm_eqY] at hr
          split at hr
          · rename_i s3 h3
            refine ⟨_, _, h3, ?_⟩
            simp only
            split at hr
            · rename_i s4 h4
              rw [forceTm_eqY, forceTm_eqY] at hr
              cases hr
              exact ⟨_, _, h4, hK⟩
            · rename_i e4 s4 hne h4
              rw [forceTm_eqY, forceTm_eqY] at hr
              cases hr
              refine ⟨_, _, h4, ?_⟩
              cases e4 with
              | normal => exact absurd rfl (hne ·)
              | exit id => exact hK
              | ret => exact hK
            · cases hr
          · cases hr
      · split at he
        · rename_i v s2 h2
          refine ⟨v, s2, h2, ?_⟩
          split at he
          · rename_i hj
            cases he
            rw [hj]
            exact ⟨rfl, rfl⟩
          · rename_i e2 hj
            cases he
            rw [hj]
            exact ⟨rfl, rfl⟩
        · cases he
    · cases he
  | _ => intro Fm hn Y YR hY hYo k hk e s s' he; simp [evCY] at he

theorem hardRows_eqY {α : Type} : ∀ (l : List (List AV)) (k : List (List AV) → α), solidY.hardRows l k = k l
  | [], k => rfl
  | x :: r, k => by simp [solidY.hardRows, hardL_eqY, hardRows_eqY r]

theorem solid_okY : ∀ (k : Nat) (x : AV), deepY k x = true → AVE k x (solidY k x)
  | 0, x, h => by simp [deepY] at h
  | k + 1, x, h => by
    have sub : ∀ (l : List AV), l.all (deepY k) = true → l.length = (l.map (solidY k)).length ∧ ∀ i x y, nth? l i = some x → nth? (l.map (solidY k)) i = some y → AVE k x y := fun l hl => by
      refine ⟨by simp, fun i x y hx hy => ?_⟩
      rw [nth?_eq] at hx hy
      rw [List.getElem?_map, hx] at hy
      cases hy
      exact solid_okY k x (List.all_eq_true.1 hl x (List.mem_of_getElem? hx))
    cases x with
    | rslice es len f =>
      simp only [solidY, hardRows_eqY, AVE]
      refine ⟨trivial, trivial, fun i hi => ?_⟩
      rw [nth?_eq]
      simp [hi]
    | agg l => simp only [solidY, AVE]; simp only [deepY] at h; exact sub l h
    | tuple l => simp only [solidY, AVE]; simp only [deepY] at h; exact sub l h
    | _ => simp [solidY, AVE]

theorem isVal_okY {x : AV} (h : isValY x = true) : ∃ v, x = .val v := by
  cases x <;> first | exact ⟨_, rfl⟩ | simp [isValY] at h

theorem plain_okY : ∀ (l : List AV), plainBY l = true → PlainR l
  | [], _ => trivial
  | x :: r, h => by
    cases x with
    | rslice es len g =>
      simp only [plainBY, Bool.and_eq_true] at h
      refine ⟨fun i hi y hy => ?_, plain_okY r h.2⟩
      have := List.all_eq_true.1 h.1 i (List.mem_range.2 hi)
      exact isVal_okY (List.all_eq_true.1 this y hy)
    | _ => simp only [plainBY] at h; simp only [PlainR]; exact plain_okY r h

theorem evR_okY {fn : Func} {s : St} {r : AV} {fr : Bool} (h : evRY T fn s = some (r, fr)) : Fin T fn r fr s := by
  unfold evRY at h
  unfold Fin
  split at h
  · cases h
  · rename_i l hl
    rw [hl]
    cases hd : deepY 5 (fz s.hp (oneOf l)) with
    | false => rw [hd] at h; cases h
    | true =>
      rw [hd, cond_true, hard_eqY] at h
      cases h
      refine ⟨solid_okY 5 _ hd, fun hf => ?_⟩
      rw [Bool.and_eq_true] at hf
      exact ⟨hf.1, plain_okY _ hf.2⟩

theorem forceBs_eqY : ∀ (l : List AB) (k : List AB → St), forceBsY l k = k l
  | [], k => rfl
  | ⟨es, len, f, ver, ro, flat, one⟩ :: r, k => by simp [forceBsY, forceBs_eqY r]

theorem look_tidyY (tm : List (Nat × AV)) : ∀ (n t0 t : Nat), look (tidyTmY.go tm n t0) t = look tm t ∨ look (tidyTmY.go tm n t0) t = .top
  | 0, t0, t => .inr rfl
  | n + 1, t0, t => by
    unfold tidyTmY.go
    split
    · exact look_tidyY tm n (t0 + 1) t
    · simp only [look]
      cases hb : Nat.beq t0 t with
      | true => have := Nat.eq_of_beq_eq_true hb; subst this; exact .inl rfl
      | false => exact look_tidyY tm n (t0 + 1) t

theorem tidyB_leY (k : AB) : (tidyBY k).es = k.es ∧ (tidyBY k).len = k.len ∧ (tidyBY k).ver = k.ver ∧ (tidyBY k).ro = k.ro ∧ ((tidyBY k).flat = true → k.flat = true) ∧ ∀ i, i < k.len → (tidyBY k).f i = k.f i := by
  unfold tidyBY
  cases Nat.ble k.len 64 with
  | false => exact ⟨rfl, rfl, rfl, rfl, id, fun _ _ => rfl⟩
  | true =>
    rw [cond_true, hardRows_eqY]
    refine ⟨rfl, rfl, rfl, rfl, fun h => h, fun i hi => ?_⟩
    simp only
    rw [nth?_eq]
    simp [hi]

theorem BLe_tidyY : ∀ (l : List AB), BLe l (l.map tidyBY)
  | [] => trivial
  | k :: r => ⟨⟨(tidyB_leY k).1, (tidyB_leY k).2.1, (tidyB_leY k).2.2.1, (tidyB_leY k).2.2.2.1, (tidyB_leY k).2.2.2.2.1, fun i hi => .inl ((tidyB_leY k).2.2.2.2.2 i hi)⟩, BLe_tidyY r⟩
theorem ItLe_reflY (it : Option (Value → Bool)) (n : Nat) : ItLe it n it n := by
  cases it with
  | none => trivial
  | some a => exact ⟨rfl, fun _ => rfl⟩
theorem MLe_reflY : ∀ (l : List AM), MLe l l
  | [] => trivial
  | _ :: r => ⟨⟨rfl, rfl, rfl, ItLe_reflY _ _, .inl rfl, fun _ => ⟨rfl, .inl rfl⟩⟩, MLe_reflY r⟩

theorem SR.tidyY {Fm : Fr} {w0 w : World} {q : Nat → Prop} {s : St} {a : Act} {c : Cx} (m : Nat) (h : SR P Fm w0 q s a w c) : SR P Fm w0 q (tidyY m s) a w c := by
  have e : Go.Tr.tidyY m s = { s with tm := tidyTmY m s.tm, hp := { s.hp with blocks := s.hp.blocks.map tidyBY } } := by
    unfold Go.Tr.tidyY
    rw [forceTm_eqY, forceBs_eqY]
  rw [e]
  refine SR.look_eqY (s := { s with hp := { s.hp with blocks := s.hp.blocks.map tidyBY } }) (h.weak ⟨⟨.inl rfl, rfl, rfl, rfl⟩, BLe_tidyY _, MLe_reflY _⟩) (fun t => look_tidyY s.tm m 0 t) rfl rfl

/-- What is known of a body's run. -/
theorem evD_okY (hm : P.follows .mixedOrders = true) {G : FuncId → List AV → Option (AV × Bool)} (hG : ∀ f args r fr, G f args = some (r, fr) → Sound1 P f args r fr) (L : Nat) : ∀ (d : Nat) (Y : YFY) (f : FuncId) (sv : List (Nat × AV)) (args : List AV) (hp : Hp) (s : St) (fn : Func), evDY P G L d Y f sv args hp = some (s, fn) →
    P.funcs[f]? = some fn ∧ ∃ cd e, fn.body = some cd ∧ (fn.name == "runtime.NumGoroutine") = false ∧ args.length ≤ fn.ntmps ∧ (e = .normal ∨ e = .ret) ∧
    ∀ (YR : YT) (X : Nat → Value) (Gs : List (Nat × Obj × Option Nat)) (rc : Option (Nat × Nat × RcT)) (w0 : World) (q : Nat → Prop), YRelY Y YR → YOk P X Gs rc w0 q YR → ∀ (Q : Exit → Act → World → Prop) a w c, SR P ⟨fn.ntmps, X, none, Gs, rc⟩ w0 q { tm := start args 0, hp, sv } a w c →
      (∀ a' w' c', SR P ⟨fn.ntmps, X, none, Gs, rc⟩ w0 q s a' w' c' → Q (toExit e) a' w') → cd.wpIn (FR none) 0 P Q a w
  | 0, _, _, _, _, _, _, _, h => by simp [evDY] at h
  | d + 1, Y, f, sv, args, hp, s, fn, h => by
    have hDr : DrawnOk P (TP P) := drawn_ok (TOK_TP P) hm
    unfold evDY at h
    split at h
    · rename_i fn' hf
      split at h
      · rename_i c hc
        cases hn : (!(fn'.name == "runtime.NumGoroutine") && Nat.ble args.length fn'.ntmps) with
        | false => rw [hn] at h; cases h
        | true =>
          rw [hn, cond_true] at h
          rw [Bool.and_eq_true] at hn
          have hFs : ∀ f args r fr, (match G f args with
                | some x => some x
                | none => match evDY P G L d noYFY f [] args ⟨[], [], none, 0⟩ with | some (s, fn) => evRY (TP P) fn s | none => none) = some (r, fr) → Sound1 P f args r fr := fun f args r fr h => by
            split at h
            · rename_i x hx; cases h; exact hG _ _ _ _ hx
            · split at h
              · rename_i s1 fn1 h1
                obtain ⟨g0, cd1, e1, g1, g2, g3, g4, g5⟩ := evD_okY hm hG L d _ _ _ _ _ _ _ h1
                refine ⟨run_enter g0 g2 g1, fun w q vs hq hgk hs hv => callsIn_wide.1 (callsIn_of_wp_marks (F := FR none) (n := 0) g0 g1 trivial (g5 noY _ _ _ w q (noYF_relY _) (noY_ok _ _ _ _ _) _ _ _ _ (sr_start g3 hq hgk hs hv) fun a' w' c' h' => gives_of_post (TOK_TP P) h' ?_))⟩
                rcases g4 with rfl | rfl
                · exact evR_okY h
                · exact evR_okY h
              · cases h
          have hIs : IOk P (IRelY fun Y f args n s => forceTmY (pushSv n s.tm s.sv) fun sv => match evDY P G L d Y f sv args s.hp with
                | some (s', fn) => match resAV (TP P) s' fn.results.toList with
                  | some l => forceTmY (popTm n s'.sv) fun tm => forceTmY (popSv n s'.sv) fun sv => some (oneOf l, { tm, hp := s'.hp, sv })
                  | none => none
                | none => none) := by
            intro YR f args n s K hI X Gs rc w0 q w c vs hHS hargs hY
            obtain ⟨Y2, hYr, r, s', he, hK⟩ := hI
            simp only [forceTm_eqY] at he
            split at he
            case h_2 => cases he
            rename_i s1 fn1 h1
            split at he
            case h_2 => cases he
            rename_i l hl
            cases he
            obtain ⟨g0, cd1, e1, g1, g2, g3, g4, g5⟩ := evD_okY hm hG L d _ _ _ _ _ _ _ h1
            refine ⟨run_enter g0 g2 g1, callsIn_of_wp_marks g0 g1 trivial ?_⟩
            have h0 : SR P ⟨fn1.ntmps, X, none, Gs, rc⟩ w0 q { tm := start args 0, hp := s.hp, sv := pushSv n s.tm s.sv } { tmps := vs ++ Array.replicate (fn1.ntmps - vs.size) undef, defers := [] } w c :=
              ⟨hHS, fun t => start_rel hargs t, (by have := hargs.1; simp; omega), [], rfl, List.nodup_nil, fun D hD => by cases hD⟩
            refine g5 YR X Gs rc w0 q hYr hY _ _ _ _ h0 fun a' w' c' h' => ?_
            obtain ⟨ds, d1, d2, d3⟩ := h'.defers
            have fin : LeavesInM (FR none) 0 P fn1 a'.tmps (fun e w' => ∃ u, e = .returned u ∧ ∃ r hp' sv' c', HS P X Gs rc w0 q hp' sv' w' c' ∧ VR P w' c' r u ∧ K r { tm := popTm n sv', hp := hp', sv := popSv n sv' }) a'.defers .returning w' := by
              rw [d1]
              refine leave_marks ds a' w' h' d1 d2 d3 fun a2 w2 h2 _ => ?_
              obtain ⟨u, p1, p2⟩ := result_val (TOK_TP P) h2 hl
              exact ⟨u, p1, u, rfl, oneOf l, s1.hp, s1.sv, c', h2.toHS, p2, hK⟩
            rcases g4 with rfl | rfl <;> exact fin
          have fin : ∀ e, (e = .normal ∨ e = .ret) → ∀ s1, evCY (TP P) _ _ (Go.Tr.tidyY fn'.ntmps) fn'.ntmps L c Y true { tm := start args 0, hp, sv } = some (e, s1) →
              (P.funcs[f]? = some fn' ∧ ∃ cd e, fn'.body = some cd ∧ (fn'.name == "runtime.NumGoroutine") = false ∧ args.length ≤ fn'.ntmps ∧ (e = .normal ∨ e = .ret) ∧
    ∀ (YR : YT) (X : Nat → Value) (Gs : List (Nat × Obj × Option Nat)) (rc : Option (Nat × Nat × RcT)) (w0 : World) (q : Nat → Prop), YRelY Y YR → YOk P X Gs rc w0 q YR → ∀ (Q : Exit → Act → World → Prop) a w c, SR P ⟨fn'.ntmps, X, none, Gs, rc⟩ w0 q { tm := start args 0, hp, sv } a w c →
      (∀ a' w' c', SR P ⟨fn'.ntmps, X, none, Gs, rc⟩ w0 q s1 a' w' c' → Q (toExit e) a' w') → cd.wpIn (FR none) 0 P Q a w) := fun e he s1 hrun =>
            ⟨hf, c, e, hc, by simpa using hn.1, Nat.le_of_ble_eq_true hn.2, he, fun YR X Gs rc w0 q hYr hY Q a w c' h0 hQ =>
              evC_okY (TOK_TP P) hDr hFs hIs (fun _ _ _ _ _ h => h.tidyY _) c ⟨fn'.ntmps, X, none, Gs, rc⟩ rfl Y YR hYr (.inr ⟨rfl, hY⟩) true (fun _ => rfl) e _ _ hrun Q a w c' h0 hQ⟩
          split at h
          · rename_i s1 hs; cases h; exact fin .normal (.inl rfl) _ hs
          · rename_i s1 hs; cases h; exact fin .ret (.inr rfl) _ hs
          · cases h
      · cases h
    · cases h

theorem evF_okY (hm : P.follows .mixedOrders = true) {G : FuncId → List AV → Option (AV × Bool)} (hG : ∀ f args r fr, G f args = some (r, fr) → Sound1 P f args r fr) (L d : Nat) (f : FuncId) (args : List AV) (r : AV) (fr : Bool) (h : evFY P G L d f args = some (r, fr)) : Sound1 P f args r fr := by
  unfold evFY at h
  split at h
  · rename_i x hx; cases h; exact hG _ _ _ _ hx
  · split at h
    · rename_i s1 fn1 h1
      obtain ⟨g0, cd1, e1, g1, g2, g3, g4, g5⟩ := evD_okY hm hG L d _ _ _ _ _ _ _ h1
      refine ⟨run_enter g0 g2 g1, fun w q vs hq hgk hs hv => callsIn_wide.1 (callsIn_of_wp_marks (F := FR none) (n := 0) g0 g1 trivial (g5 noY _ _ _ w q (noYF_relY _) (noY_ok _ _ _ _ _) _ _ _ _ (sr_start g3 hq hgk hs hv) fun a' w' c' h' => gives_of_post (TOK_TP P) h' ?_))⟩
      rcases g4 with rfl | rfl
      · exact evR_okY h
      · exact evR_okY h
    · cases h
end
end Go.Tr

/- Contracts of chapter 6: boxes, their errors and corners. Conditions: none. -/
namespace Go.Tr
open Go Go.Proofs
set_option maxRecDepth 20000
set_option maxHeartbeats 8000000

/-! ### Runs of the evaluator whose numbers are variables -/

def toI1 : List AV → Option Int
  | [.val (.int .i64 z)] => some z
  | _ => none
def seqO {α : Type} : List (Option α) → Option (List α)
  | [] => some []
  | none :: _ => none
  | some a :: r => match seqO r with
    | some l => some (a :: l)
    | none => none
def toI : AV → Option (List Int)
  | .rslice 1 n f => seqO ((List.range n).map fun i => toI1 (f i))
  | _ => none
def toL1 : List AV → Option (List Int)
  | [x] => toI x
  | _ => none
def toLL : AV → Option (List (List Int))
  | .rslice 1 n f => seqO ((List.range n).map fun i => toL1 (f i))
  | _ => none
theorem seqO_ok {α : Type} : ∀ {l : List (Option α)} {L : List α}, seqO l = some L → l = L.map some
  | [], L, h => by cases h; rfl
  | none :: r, L, h => by cases h
  | some a :: r, L, h => by
    unfold seqO at h
    split at h
    · rename_i l hl
      cases h
      rw [seqO_ok hl]
      rfl
    · cases h
theorem seqO_at {α : Type} {n : Nat} {g : Nat → Option α} {L : List α} (h : seqO ((List.range n).map g) = some L) (d : α) : n = L.length ∧ ∀ i, i < n → g i = some (L.getD i d) := by
  have e := seqO_ok h
  have hl : n = L.length := by simpa using congrArg List.length e
  refine ⟨hl, fun i hi => ?_⟩
  have h2 := congrArg (fun l : List (Option α) => l[i]?) e
  simp only [List.getElem?_map, List.getElem?_range hi, Option.map_some] at h2
  rw [List.getElem?_eq_getElem (by omega)] at h2
  simp only [Option.map_some, Option.some.injEq] at h2
  rw [h2, List.getD_eq_getElem?_getD, List.getElem?_eq_getElem (by omega)]
  rfl
theorem toI_ok {x : AV} {l : List Int} (h : toI x = some l) (k : Nat) : AVF (k + 1) x (ints l) := by
  unfold toI at h
  split at h
  · rename_i n f
    obtain ⟨hn, hi⟩ := seqO_at h 0
    refine AVF_rows hn (fun i hlt => ?_) k
    have h1 := hi i hlt
    unfold toI1 at h1
    split at h1
    · rename_i z hz
      rw [hz]
      cases h1
      rfl
    · cases h1
  · cases h
theorem toLL_ok {x : AV} {L : List (List Int)} (h : toLL x = some L) : AVF 2 x (listsA L) := by
  unfold toLL at h
  split at h
  · rename_i n f
    obtain ⟨hn, hi⟩ := seqO_at h []
    refine ⟨rfl, hn, fun i hlt => ?_⟩
    have h1 := hi i hlt
    unfold toL1 at h1
    split at h1
    · rename_i y hy
      rw [hy]
      refine ⟨rfl, fun j x y hx hy => ?_⟩
      match j, hx, hy with
      | 0, hx, hy => cases hx; cases hy; exact .inr (toI_ok h1 0)
    · cases h1
  · cases h
theorem Sound1.resF {P : Program} {f : FuncId} {xs : List AV} {r r' : AV} (h : Sound1 P f xs r false) {k : Nat} (hr : AVF k r r') : Sound1 P f xs r' false := by
  refine ⟨h.1, fun w q vs hq hg hs hv => Calls.mono (h.2 w q vs hq hg hs hv) ?_⟩
  rintro e w' ⟨u, h1, h2, h3⟩
  exact ⟨u, h1, h2, AVF_ok k hr h3⟩
def runLL (x : Option (AV × Bool)) : Option (List (List Int)) := match x with | some (r, false) => toLL r | _ => none
theorem runLL_ok {f : FuncId} {args : List AV} {L : List (List Int)} (h : runLL (evFY Tryz.prog (fun _ _ => none) 1000 60 f args) = some L) : SP f args (listsA L) false := by
  unfold runLL at h
  split at h
  · rename_i r he
    exact Sound1.resF (evF_okY mixed2 (fun f args r fr h => by cases h) 1000 60 f args r false he) (toLL_ok h)
  · cases h

/-! ### Boxes -/

abbrev Rg := Int × Int
def rgs (L : List Rg) : AV := .rslice 2 L.length fun i => [i64 (L.getD i (0, 0)).1, i64 (L.getD i (0, 0)).2]
abbrev boxA (L : List Rg) : AV := .agg [rgs L]
/-- Which coefficients of a corner have their upper ends, from the lowest one on. -/
def pats : List (List Bool) := [[false, false, true, true, false], [true, true, false, false, true], [true, false, false, true, true], [false, true, true, false, false]]
def cornerL (L : List Rg) (u : List Bool) : List Int := (List.range L.length).map fun i => if u.getD (L.length - 1 - i) false then (L.getD i (0, 0)).2 else (L.getD i (0, 0)).1
def cornersL (L : List Rg) : List (List Int) := pats.map (cornerL L)
theorem S106 (L : List Rg) (h : 2 ≤ L.length ∧ L.length ≤ 5) : SP 106 [boxA L] (listsA (cornersL L)) false := by
  match L, h with
  | [(a, a'), (b, b')], _ => exact runLL_ok (by kernel_rfl)
  | [(a, a'), (b, b'), (c, c')], _ => exact runLL_ok (by kernel_rfl)
  | [(a, a'), (b, b'), (c, c'), (d, d')], _ => exact runLL_ok (by kernel_rfl)
  | [(a, a'), (b, b'), (c, c'), (d, d'), (e, e')], _ => exact runLL_ok (by kernel_rfl)
  | [], h => simp at h
  | [_], h => simp at h
  | _ :: _ :: _ :: _ :: _ :: _ :: _, h => simp at h
theorem S33 (L : List Rg) (h : 2 ≤ L.length ∧ L.length ≤ 5) : SP 33 [boxA L] (listsA (cornersL L)) false := by
  match L, h with
  | [(a, a'), (b, b')], _ => exact runLL_ok (by kernel_rfl)
  | [(a, a'), (b, b'), (c, c')], _ => exact runLL_ok (by kernel_rfl)
  | [(a, a'), (b, b'), (c, c'), (d, d')], _ => exact runLL_ok (by kernel_rfl)
  | [(a, a'), (b, b'), (c, c'), (d, d'), (e, e')], _ => exact runLL_ok (by kernel_rfl)
  | [], h => simp at h
  | [_], h => simp at h
  | _ :: _ :: _ :: _ :: _ :: _ :: _, h => simp at h
theorem S105 (L : List Rg) (hl : L.length ≤ 1000000) : SP 105 [rgs L] (rgs L) false := by
  refine sound (d := 2) tok2 mixed2 Tryz.func105 (by kernel_rfl) (by kernel_rfl) ?_
  conv => whnf
  refine .inl ?_
  conv => whnf
  refine ⟨⟨(by omega), (by show _ * (16 + 1) ≤ _; omega)⟩, ?_⟩
  conv => whnf
  refine ⟨?_, nofun⟩
  exact ⟨rfl, Nat.zero_add _, fun i hi => rfl⟩
theorem S28 (L : List Rg) (hl : L.length ≤ 1000000) : SP 28 [boxA L] (boxA L) false := by
  have h105 := S105 L hl
  refine sound (d := 2) tok2 mixed2 Tryz.func28 (by kernel_rfl) (by kernel_rfl) ?_
  conv => whnf
  refine .inl ⟨_, _, byX rfl (h105), ?_⟩
  conv => whnf
  refine ⟨?_, nofun⟩
  refine ⟨rfl, fun i x y hx hy => ?_⟩
  match i, hx, hy with
  | 0, hx, hy => cases hx; cases hy; exact ⟨rfl, rfl, fun _ _ => rfl⟩
/-- The error of a range; of ranges. -/
def rgE (r : Rg) : Int := firstOf [coefE r.1, coefE r.2, if r.1 ≤ r.2 then 0 else 9]
def eachR (g : Rg → Int) : List Rg → Nat → Int × Int
  | [], _ => (0, 0)
  | x :: l, k => if g x = 0 then eachR g l (k + 1) else (k, g x)
theorem eachR_drop (g : Rg → Int) (l : List Rg) (k : Nat) (h : k < l.length) : eachR g (l.drop k) k = if g (l.getD k (0, 0)) = 0 then eachR g (l.drop (k + 1)) (k + 1) else ((k : Int), g (l.getD k (0, 0))) := by
  rw [List.drop_eq_getElem_cons h]
  simp [eachR, List.getD_eq_getElem?_getD, h]
theorem S103 (k : Int) (r : Rg) : SP 103 [i64 k, .agg [i64 r.1, i64 r.2]] (i64 (rgE r)) false := by
  have h1 := S104 r.1
  have h2 := S104 r.2
  have h93 := S93 (decide (r.1 ≤ r.2)) 9
  have h90 := fun a b c => @S90_3 a b c
  refine sound (d := 2) tok2 mixed2 Tryz.func103 (by kernel_rfl) (by kernel_rfl) ?_
  conv => whnf
  refine ⟨[], by kernel_rfl, ?_⟩
  conv => whnf
  refine .inl ⟨_, _, byX rfl (Sound1.pl (h1) rfl), ?_⟩
  conv => whnf
  refine .inl ⟨_, _, byX rfl (Sound1.pl (h2) rfl), ?_⟩
  conv => whnf
  refine .inl ⟨_, _, byX rfl (Sound1.pl (h93) rfl), ?_⟩
  conv => whnf
  refine .inl ⟨_, _, byX rfl (Sound1.pl (h90 _ _ _ ⟨rfl, rfl, rfl⟩) rfl), ?_⟩
  conv => whnf
  refine ⟨?_, nofun⟩
  exact endi (by unfold rgE; simp only [decide_eq_true_eq])
theorem S102 (l : List Rg) (hl : l.length ≤ 1000000000) : SP 102 [rgs l, .func (.func 103) 0 []] (.tuple [i64 (eachR rgE l 0).1, i64 (eachR rgE l 0).2]) false := by
  refine sound (d := 2) tok2 mixed2 Tryz.func102 (by kernel_rfl) (by kernel_rfl) ?_
  conv => whnf
  refine ⟨[], [1, 9, 10, 11], fun st mq => ∃ (k : Nat), (k ≤ l.length) ∧ (eachR rgE (l.drop k) k = eachR rgE l 0) ∧ st = ⟨[(1, .func (.func 103) 0 []), (9, rgs l), (10, i64 l.length), (11, i64 k)], ⟨[], [], none, 0⟩, []⟩ ∧ mq = l.length - k,
    ⟨_, _, ⟨0, by omega, rfl, rfl, rfl⟩, ⟨⟨.inl rfl, rfl, rfl, rfl⟩, trivial, trivial⟩⟩, ?_⟩
  rintro s0 m0 ⟨k, hk, he, rfl, hmeas⟩
  by_cases hlt : k < l.length
  · have hd := eachR_drop rgE l k hlt
    have hc := S103 k (l.getD k (0, 0))
    conv => whnf
    conv => whnf
    refine ifB_dec (fun w1 => ?_) (fun w1 => ?_)
    · conv => whnf
      conv => whnf
      refine ⟨⟨(by omega), (by omega)⟩, ?_⟩
      conv => whnf
      conv => whnf
      refine .inl ⟨_, _, byX rfl (Sound1.pl (hc) rfl), ?_⟩
      conv => whnf
      conv => whnf
      refine ifB_bne (fun w2 => ?_) (fun w2 => ?_)
      · conv => whnf
        conv => whnf
        refine ⟨?_, nofun⟩
        rw [if_neg w2] at hd
        exact ave_tup2 (endi (by rw [← he, hd])) (endi (by rw [← he, hd]))
      · conv => whnf
        conv => whnf
        refine ⟨inK64 (by omega) (by omega), ?_⟩
        rw [if_pos w2] at hd
        conv => whnf
        conv => whnf
        refine ⟨_, _, ⟨⟨k + 1, by omega, hd.symm.trans he, rfl, rfl⟩, by omega⟩, ⟨⟨.inl rfl, rfl, rfl, rfl⟩, trivial, trivial⟩⟩
    · (exfalso; omega)
  · have e : k = l.length := by omega
    subst e
    rw [List.drop_length] at he
    conv => whnf
    conv => whnf
    refine ifB_dec (fun w1 => ?_) (fun w1 => ?_)
    · (exfalso; omega)
    · conv => whnf
      conv => whnf
      refine ⟨?_, nofun⟩
      exact ave_tup2 (endi (by rw [← he]; rfl)) (endi (by rw [← he]; rfl))
end Go.Tr

/- Contracts of chapter 6: the shares of a load. Conditions: none. -/
namespace Go.Tr
open Go Go.Proofs
set_option maxRecDepth 20000
set_option maxHeartbeats 8000000

/-! ### Plain -/

def gcdI (a b : Int) : Int := (Nat.gcd a.natAbs b.natAbs : Nat)
def fracG (a b : Int) : Int × Int := (a.tdiv (gcdI a b), b.tdiv (gcdI a b))
def comL (l : List Int) : Int := l.foldl (fun c n => c.tdiv (gcdI c n) * n) 1
def prodI (l : List Int) : Int := l.foldl (fun c n => c * n) 1
def sumD (c : Int) (l : List Int) : Int := l.foldl (fun s n => s + c.tdiv n) 0
theorem comL_snoc (l : List Int) (x : Int) : comL (l ++ [x]) = (comL l).tdiv (gcdI (comL l) x) * x := by simp [comL]
theorem prodI_snoc (l : List Int) (x : Int) : prodI (l ++ [x]) = prodI l * x := by simp [prodI]
theorem sumD_snoc (c : Int) (l : List Int) (x : Int) : sumD c (l ++ [x]) = sumD c l + c.tdiv x := by simp [sumD]
theorem gcdI_scale {k : Int} (hk : 0 < k) (a b : Int) : gcdI (k * a) (k * b) = k * gcdI a b := by
  unfold gcdI
  rw [Int.natAbs_mul, Int.natAbs_mul, Nat.gcd_mul_left, Int.natCast_mul, show ((k.natAbs : Nat) : Int) = k by omega]
theorem frac_scale {k : Int} (hk : 0 < k) (a b : Int) : fracG (k * a) (k * b) = fracG a b := by
  unfold fracG
  rw [gcdI_scale hk, Int.mul_tdiv_mul_of_pos _ _ hk, Int.mul_tdiv_mul_of_pos _ _ hk]
theorem gcdI_pos {a b : Int} (h : 0 < b) : 0 < gcdI a b ∧ gcdI a b ≤ b ∧ gcdI a b ∣ a ∧ gcdI a b ∣ b := by
  unfold gcdI
  have h1 : 0 < b.natAbs := by omega
  have h2 := Nat.gcd_pos_of_pos_right a.natAbs h1
  have h3 := Nat.gcd_le_right a.natAbs h1
  refine ⟨by omega, by omega, ?_, ?_⟩
  · exact Int.ofNat_dvd_left.2 (Nat.gcd_dvd_left _ _)
  · exact Int.ofNat_dvd_left.2 (Nat.gcd_dvd_right _ _)
/-- What holds of the common multiple so far. -/
structure ComOk (l : List Int) : Prop where
  pos : 0 < comL l
  le : comL l ≤ 20 ^ l.length
  pr : ∃ k, 0 < k ∧ prodI l = k * comL l
  dv : ∀ n ∈ l, n ∣ comL l
theorem comOk_nil : ComOk [] := ⟨by decide, by decide, ⟨1, by decide, by decide⟩, fun _ h => absurd h (by simp)⟩
theorem ComOk.snoc {l : List Int} (h : ComOk l) {x : Int} (hx : 1 ≤ x ∧ x ≤ 20) : ComOk (l ++ [x]) := by
  obtain ⟨p1, p2, ⟨k, hk, p3⟩, p4⟩ := h
  obtain ⟨g1, g2, ⟨c, g3⟩, ⟨d, g4⟩⟩ := gcdI_pos (a := comL l) (b := x) (by omega)
  generalize hg : gcdI (comL l) x = g at g1 g2 g3 g4
  have e1 : (comL l).tdiv g = c := by rw [g3]; exact Int.mul_tdiv_cancel_left _ (by omega)
  have hc : 0 < c := by
    rw [g3] at p1
    exact (gpos g1).1 p1
  have hcl : c ≤ comL l := by
    rw [g3]
    have := Int.mul_le_mul_of_nonneg_right (show (1 : Int) ≤ g by omega) (Int.le_of_lt hc)
    omega
  have e2 : comL (l ++ [x]) = c * x := by rw [comL_snoc, hg, e1]
  refine ⟨?_, ?_, ⟨k * g, Int.mul_pos hk g1, ?_⟩, fun n hn => ?_⟩
  · rw [e2]; exact Int.mul_pos hc (by omega)
  · rw [e2, List.length_append, List.length_singleton, Int.pow_succ]
    exact Int.le_trans (Int.mul_le_mul_of_nonneg_left hx.2 (Int.le_of_lt hc)) (Int.mul_le_mul_of_nonneg_right (Int.le_trans hcl p2) (by decide))
  · rw [e2, prodI_snoc, p3, g3]; grind
  · rw [e2]
    rcases List.mem_append.1 hn with hn | hn
    · obtain ⟨e, he⟩ := p4 n hn
      refine ⟨e * d, ?_⟩
      have : c * x = comL l * d := by rw [g3]; conv => lhs; rw [g4]; skip
                                      grind
      rw [this, he]; grind
    · rw [List.mem_singleton.1 hn]
      exact ⟨c, Int.mul_comm c x⟩
def DrOk (l : List Int) : Prop := ∀ x ∈ l, 1 ≤ x ∧ x ≤ 20
theorem com_ok : ∀ {l : List Int}, DrOk l → ComOk l := fun {l} => by
  induction h : l.length generalizing l with
  | zero =>
    intro _
    rw [List.length_eq_zero_iff.1 h]
    exact comOk_nil
  | succ n ih =>
    intro hd
    obtain ⟨x, r, e⟩ : ∃ x r, l = r ++ [x] := by
      have hne : l ≠ [] := by intro e; rw [e] at h; simp at h
      exact ⟨l.getLast hne, l.dropLast, (List.dropLast_concat_getLast hne).symm⟩
    subst e
    refine (ih (by simpa using h) fun y hy => hd y (by simp [hy])).snoc (hd x (by simp))
theorem tdiv_scale {k c n : Int} (hn : 0 < n) (h : n ∣ c) : (k * c).tdiv n = k * c.tdiv n := by
  obtain ⟨e, rfl⟩ := h
  rw [Int.mul_tdiv_cancel_left _ (by omega), show k * (n * e) = n * (k * e) by grind, Int.mul_tdiv_cancel_left _ (by omega)]
theorem sumD_scale {k c : Int} : ∀ (l : List Int), (∀ n ∈ l, 0 < n ∧ n ∣ c) → ∀ s, l.foldl (fun s n => s + (k * c).tdiv n) (k * s) = k * l.foldl (fun s n => s + c.tdiv n) s
  | [], _, _ => rfl
  | x :: l, h, s => by
    have hx := h x (by simp)
    show l.foldl _ (k * s + (k * c).tdiv x) = k * l.foldl _ (s + c.tdiv x)
    rw [tdiv_scale hx.1 hx.2, ← Int.mul_add]
    exact sumD_scale l (fun n hn => h n (by simp [hn])) _
/-- The shares, and the reference's, are the same. -/
def shareL (c : Int) (load : Int) (l : List Int) : List (Int × Int) := l.map fun n => fracG (load * c.tdiv n) (sumD c l)
theorem share_eq {l : List Int} (hd : DrOk l) (load : Int) : shareL (prodI l) load l = shareL (comL l) load l := by
  have h := com_ok hd
  obtain ⟨k, hk, e⟩ := h.pr
  unfold shareL
  refine List.map_congr_left fun n hn => ?_
  have e2 : sumD (prodI l) l = k * sumD (comL l) l := by
    unfold sumD
    rw [e]
    have := sumD_scale (k := k) (c := comL l) l (fun n hn => ⟨by have := hd n hn; omega, h.dv n hn⟩) 0
    rwa [Int.mul_zero] at this
  rw [e2, e, tdiv_scale (by have := hd n hn; omega) (h.dv n hn), show load * (k * (comL l).tdiv n) = k * (load * (comL l).tdiv n) by grind, frac_scale hk]
def smB (f : Int × Int) : Bool := decide (-1000000000 ≤ f.1 ∧ f.1 ≤ 1000000000) && decide (f.2 ≤ 1000000000)
theorem prod_b {l : List Int} (hd : DrOk l) : ∀ i, i ≤ l.length → 0 < prodI (l.take i) ∧ prodI (l.take i) ≤ 20 ^ i
  | 0, _ => by simp [prodI]
  | i + 1, hi => by
    have ih := prod_b hd i (by omega)
    rw [take_snocI (show i < l.length by omega), prodI_snoc, Int.pow_succ]
    have hx := hd _ (getD_memI (show i < l.length by omega))
    exact ⟨Int.mul_pos ih.1 (by omega), Int.le_trans (Int.mul_le_mul_of_nonneg_left hx.2 (Int.le_of_lt ih.1)) (Int.mul_le_mul_of_nonneg_right ih.2 (by decide))⟩
theorem sum_b {c : Int} (hc : 0 < c) {l : List Int} (hd : DrOk l) : ∀ i, i ≤ l.length → 0 ≤ sumD c (l.take i) ∧ sumD c (l.take i) ≤ i * c
  | 0, _ => by simp [sumD]
  | i + 1, hi => by
    have ih := sum_b hc hd i (by omega)
    rw [take_snocI (show i < l.length by omega), sumD_snoc]
    have hx := hd _ (getD_memI (show i < l.length by omega))
    have h1 : 0 ≤ c.tdiv (l.getD i 0) := Int.tdiv_nonneg (by omega) (by omega)
    have h2 : c.tdiv (l.getD i 0) ≤ c := Int.tdiv_le_self _ (by omega)
    rw [show ((i + 1 : Nat) : Int) * c = i * c + c by push_cast; rw [Int.add_mul, Int.one_mul]]
    omega
end Go.Tr

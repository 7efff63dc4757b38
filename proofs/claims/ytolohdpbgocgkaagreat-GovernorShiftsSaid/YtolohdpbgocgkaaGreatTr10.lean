/- Contracts of chapter 6: the reference's shift, and margins. Conditions: none. -/
import Derived.Test.YtolohdpbgocgkaaGreatTr09
set_option linter.unusedSectionVars false
set_option linter.unnecessarySimpa false
set_option linter.unusedVariables false
set_option linter.unusedSimpArgs false

namespace Go.Tr
open Go Go.Proofs
set_option maxRecDepth 20000
set_option maxHeartbeats 8000000

/-- The reference's rounds. -/
def mxG (t : Int) (s : List Int) : Nat → Nat → List Int → List Int
  | 0, _, c => c
  | r + 1, j, c => mxG t s r (j + 1) (c.set (j + 1) (c.getD (j + 1) 0 + t * s.getD j 0))
def hoG (t : Int) (l : List Int) : Nat → Nat → List Int → List Int
  | 0, _, s => s
  | r + 1, i, s => hoG t l r (i + 1) ((mxG t s s.length 0 (s ++ [0])).set i ((mxG t s s.length 0 (s ++ [0])).getD i 0 + l.getD i 0))
def shR (t : Int) (l : List Int) : List Int := hoG t l (l.length - 1) 1 [l.getD 0 0]
theorem shR_eq (t : Int) (l : List Int) (h : 2 ≤ l.length ∧ l.length ≤ 5) : shR t l = shP t l := by
  match l, h with
  | [a, b], _ =>
    simp [shR, shP, hoG, mxG, shG, passG]
    grind
  | [a, b, c], _ =>
    simp [shR, shP, hoG, mxG, shG, passG]
    grind
  | [a, b, c, d], _ =>
    simp [shR, shP, hoG, mxG, shG, passG]
    grind
  | [a, b, c, d, e], _ =>
    simp [shR, shP, hoG, mxG, shG, passG]
    grind
  | [], h => simp at h
  | [_], h => simp at h
  | _ :: _ :: _ :: _ :: _ :: _ :: _, h => simp at h
theorem mx_len (t : Int) (s : List Int) : ∀ (r j : Nat) (c : List Int), (mxG t s r j c).length = c.length
  | 0, _, _ => rfl
  | r + 1, j, c => by unfold mxG; rw [mx_len t s r, List.length_set]
theorem S19x (l : List Int) (hl : l.length ≤ 1000000) : SP 19 [ints l] (ints l) true := by
  refine sound (d := 2) tok2 mixed2 Tryz.func19 (by kernel_rfl) (by kernel_rfl) ?_
  conv => whnf
  refine .inl ?_
  conv => whnf
  refine ⟨⟨(by omega), (by show _ * (8 + 1) ≤ _; omega)⟩, ?_⟩
  conv => whnf
  refine ⟨?_, fun _ => ⟨rfl, ?_⟩⟩
  · exact ⟨rfl, Nat.zero_add _, fun i hi => rfl⟩
  · exact ⟨fun i _ x hx => ⟨_, List.mem_singleton.1 hx⟩, trivial⟩
theorem set_sml2 {B : Nat} {X : List Int} {t y : Int} (ht : t.natAbs ≤ 10) (hy : y.natAbs ≤ B) (h : Sml B X) (k i : Nat) : Sml (11 * B) (X.set k (X.getD i 0 + t * y)) := fun x hx => by
  rcases List.mem_or_eq_of_mem_set hx with hx | hx
  · have := h x hx; omega
  · rw [hx]
    have e1 : (X.getD i 0).natAbs ≤ B := ent_sml h i
    have e2 := mul_sml ht hy
    omega
theorem pow_sml2 {s : Nat} (h : s ≤ 13) : 1000 * 11 ^ s ≤ 35000000000000000 := by
  have : 11 ^ s ≤ 11 ^ 13 := Nat.pow_le_pow_right (by decide) h
  omega
theorem pow_lo (s : Nat) : 1000 ≤ 1000 * 11 ^ s := by
  have : 1 ≤ 11 ^ s := Nat.one_le_pow _ _ (by decide)
  omega
/-- The error of a shift by a number. -/
def shE (t : Int) (l : List Int) : Int := if ¬(-10 ≤ t ∧ t ≤ 10) then 2 else if coefsE (shP t l) ≠ 0 then 8 else 0
theorem S85 (l : List Int) (t : Int) (h2 : 2 ≤ l.length ∧ l.length ≤ 5) (hs : Sml 1000 l) : SP 85 [ints l, i64 t] (.tuple [ints (if shE t l = 0 then shP t l else []), i64 (shE t l)]) false := by
  have h68 := S68 t (-10) 10
  have h68c := fun x => S68 x (-1000) 1000
  by_cases ht : -10 ≤ t ∧ t ≤ 10
  · have hta : t.natAbs ≤ 10 := by omega
    have hE : shE t l = if coefsE (shP t l) ≠ 0 then 8 else 0 := if_neg (not_not_intro ht)
    rw [hE]
    rw [← shR_eq t l h2]
    refine sound (d := 2) tok2 mixed2 Tryz.func85 (by kernel_rfl) (by kernel_rfl) ?_
    conv => whnf
    refine .inl ⟨_, _, byX rfl (Sound1.pl (h68) rfl), ?_⟩
    conv => whnf
    refine ifB_not ?_
    conv => whnf
    refine ifB_dec (fun w1 => ?_) (fun w1 => ?_)
    · conv => whnf
      refine ⟨⟨(by omega), (by omega)⟩, ?_⟩
      conv => whnf
      refine ⟨[.freeze 6], [0, 1, 6, 7], fun st mq => ∃ (i : Nat) (r : Nat) (s : List Int) (u : Nat), (i + r = l.length) ∧ (s.length = i) ∧ (1 ≤ i) ∧ (Sml (1000 * 11 ^ u) s) ∧ (u + 1 = tri i) ∧ (hoG t l r i s = shR t l) ∧ st = ⟨[(0, ints l), (1, i64 t), (6, .rslice 1 i fun k => [i64 (s.getD k 0)]), (7, i64 i)], ⟨[⟨1, 1, fun _ => [i64 (l.getD 0 0)], 0, true, true, true⟩], [], none, 0⟩, []⟩ ∧ mq = r,
        ⟨_, _, ⟨1, l.length - 1, [l.getD 0 0], 0, by omega, rfl, Nat.le_refl 1, (fun x hx => by rw [List.mem_singleton.1 hx]; exact ent_sml hs 0), rfl, rfl, rfl, rfl⟩, ⟨⟨.inr ⟨rfl, .inl rfl, ⟨rfl, .inl rfl, ⟨rfl, .inr (⟨rfl, rfl, fun k hk => (by have hk1 : k < 1 := hk; rw [show k = 0 by omega]; exact .inl rfl)⟩), ⟨rfl, .inl rfl, trivial⟩⟩⟩⟩, rfl, rfl, rfl⟩, ⟨⟨rfl, rfl, rfl, rfl, fun _ => rfl, fun k hk => .inl ((by have hk1 : k < 1 := hk; rw [show k = 0 by omega]; rfl))⟩, trivial⟩, trivial⟩⟩, ?_⟩
      rintro s0 m0 ⟨i, r, s, u, hi, hl, hi1, hS, hu, hH, rfl, hmeas⟩
      subst hl
      have h19 := S19x s (by omega)
      have hu14 : tri s.length ≤ 15 := by
        have : s.length = 1 ∨ s.length = 2 ∨ s.length = 3 ∨ s.length = 4 ∨ s.length = 5 := by omega
        rcases this with e | e | e | e | e <;> rw [e] <;> decide
      by_cases hr : r = 0
      · subst hr
        have hH2 : s = shR t l := hH
        conv => whnf
        conv => whnf
        refine ifB_dec (fun w2 => ?_) (fun w2 => ?_)
        · (exfalso; omega)
        · conv => whnf
          conv => whnf
          refine ⟨[], [6, 10], fun st mq => ∃ (k : Nat), (k ≤ s.length) ∧ ((eachI (fun _ x => coefE x) (s.drop k) k).2 = (eachI (fun _ x => coefE x) s 0).2) ∧ st = ⟨[(6, ints s), (10, i64 k)], ⟨[⟨1, 1, fun _ => [i64 (l.getD 0 0)], 0, true, true, true⟩], [], none, 0⟩, []⟩ ∧ mq = s.length - k,
            ⟨_, _, ⟨0, by omega, rfl, rfl, rfl⟩, ⟨⟨.inl rfl, rfl, rfl, rfl⟩, ⟨⟨rfl, rfl, rfl, rfl, fun _ => rfl, fun _ _ => .inl rfl⟩, trivial⟩, trivial⟩⟩, ?_⟩
          rintro s0 m0 ⟨k, hk, he, rfl, hmeas⟩
          by_cases hlt : k < s.length
          · have hd := eachI_drop (fun _ x => coefE x) s k hlt
            have h68k := h68c (s.getD (k : Int).toNat 0)
            conv => whnf
            conv => whnf
            conv => whnf
            refine ifB_dec (fun w3 => ?_) (fun w3 => ?_)
            · conv => whnf
              conv => whnf
              conv => whnf
              refine ⟨⟨(by omega), (by omega)⟩, ?_⟩
              conv => whnf
              conv => whnf
              conv => whnf
              refine .inl ⟨_, _, byX rfl (Sound1.pl (h68k) rfl), ?_⟩
              conv => whnf
              conv => whnf
              conv => whnf
              refine ifB_not ?_
              conv => whnf
              conv => whnf
              conv => whnf
              refine ifB_dec (fun w4 => ?_) (fun w4 => ?_)
              · conv => whnf
                conv => whnf
                conv => whnf
                refine ⟨inK64 (by omega) (by omega), ?_⟩
                have w4 : -1000 ≤ s.getD k 0 ∧ s.getD k 0 ≤ 1000 := w4
                rw [if_pos (show coefE (s.getD k 0) = 0 from if_pos w4)] at hd
                rw [hd] at he
                conv => whnf
                conv => whnf
                conv => whnf
                refine ⟨_, _, ⟨⟨k + 1, by omega, he, rfl, rfl⟩, by omega⟩, ⟨⟨.inl rfl, rfl, rfl, rfl⟩, ⟨⟨rfl, rfl, rfl, rfl, fun _ => rfl, fun _ _ => .inl rfl⟩, trivial⟩, trivial⟩⟩
              · conv => whnf
                conv => whnf
                conv => whnf
                refine ⟨?_, nofun⟩
                have w4 : ¬(-1000 ≤ s.getD k 0 ∧ s.getD k 0 ≤ 1000) := w4
                have hc : coefE (s.getD k 0) = 2 := if_neg w4
                rw [hc, if_neg (by decide)] at hd
                rw [hd] at he
                have hcs : coefsE s = 2 := he.symm
                rw [← hH2, hcs, if_pos (show (2 : Int) ≠ 0 by decide), if_neg (show ¬ (8 : Int) = 0 by decide)]
                exact ave_tup2 rfl rfl
            · (exfalso; omega)
          · have e : k = s.length := by omega
            subst e
            rw [List.drop_length] at he
            have hcs : coefsE s = 0 := he.symm
            rw [← hH2, hcs, if_neg (show ¬ (0 : Int) ≠ 0 by decide), if_pos (show (0 : Int) = 0 by decide)]
            conv => whnf
            conv => whnf
            conv => whnf
            refine ifB_dec (fun w3 => ?_) (fun w3 => ?_)
            · (exfalso; omega)
            · conv => whnf
              conv => whnf
              conv => whnf
              refine ⟨?_, nofun⟩
              exact ave_tup2 ⟨rfl, rfl, fun i hi => rfl⟩ rfl
      · obtain ⟨q, rfl⟩ : ∃ q, r = q + 1 := ⟨r - 1, by omega⟩
        have hu10 := tri_le (show s.length ≤ 4 by omega)
        conv => whnf
        conv => whnf
        refine ifB_dec (fun w2 => ?_) (fun w2 => ?_)
        · conv => whnf
          conv => whnf
          refine .inl ⟨_, _, byX rfl (h19), ?_⟩
          conv => whnf
          conv => whnf
          refine .inl ?_
          conv => whnf
          conv => whnf
          refine ⟨(by show _ * (8 + 1) ≤ _; omega), ?_⟩
          conv => whnf
          conv => whnf
          refine ⟨[], [0, 1, 6, 7, 8, 9], fun st mq => ∃ (j : Nat) (m : Nat) (c : List Int) (v : Nat) (F2 : Nat → List AV), (j + m = s.length) ∧ (c.length = s.length + 1) ∧ (Sml (1000 * 11 ^ v) c) ∧ (v = u + j) ∧ (mxG t s m j c = mxG t s s.length 0 (s ++ [0])) ∧ st = ⟨[(0, ints l), (1, i64 t), (6, ints s), (7, i64 s.length), (8, .oslice 1 0 0 (s.length + 1) none), (9, i64 j)], ⟨[⟨1, 1, fun _ => [i64 (l.getD 0 0)], 0, true, true, true⟩, ⟨1, s.length + 1, fun k => [i64 (c.getD k 0)], 0, false, true, false⟩, ⟨1, 1, F2, 0, false, true, false⟩], [], none, 0⟩, []⟩ ∧ mq = m,
            ⟨_, _, ⟨0, s.length, s ++ [0], u, _, by omega, by simp, (fun x hx => by rcases List.mem_append.1 hx with h | h; exact hS x h; rw [List.mem_singleton.1 h]; simp), rfl, rfl, rfl, rfl⟩, ⟨⟨.inl rfl, rfl, rfl, rfl⟩, ⟨⟨rfl, rfl, rfl, rfl, fun _ => rfl, fun _ _ => .inl rfl⟩, ⟨⟨rfl, rfl, rfl, rfl, fun _ => rfl, fun i hi => .inl (app_row s 0 s.length i rfl hi)⟩, ⟨⟨rfl, rfl, rfl, rfl, fun _ => rfl, fun _ _ => .inl rfl⟩, trivial⟩⟩⟩, trivial⟩⟩, ?_⟩
          rintro s0 m0 ⟨j, m, c, v, F2, hj, hc, hT, hv, hM, rfl, hmeas⟩
          by_cases hm : m = 0
          · subst hm
            have hM2 : c = mxG t s s.length 0 (s ++ [0]) := hM
            have hb := pow_sml2 (show v ≤ 13 by omega)
            have e1 : 0 + (s.length : Int).toNat = s.length := by omega
            have b1 : (c.getD s.length 0).natAbs ≤ 1000 * 11 ^ v := ent_sml hT s.length
            have b2 : (l.getD s.length 0).natAbs ≤ 1000 := ent_sml hs s.length
            have b2' : (l.getD (s.length : Int).toNat 0).natAbs ≤ 1000 := b2
            have hlo := pow_lo v
            rw [← e1] at b1
            have hn : Sml (1000 * 11 ^ (v + 1)) (c.set s.length (c.getD (0 + (s.length : Int).toNat) 0 + l.getD (s.length : Int).toNat 0)) := fun x hx => by
              rw [Nat.pow_succ]
              rcases List.mem_or_eq_of_mem_set hx with hx | hx
              · have := hT x hx; omega
              · rw [hx]; omega
            have hH3 : hoG t l q (s.length + 1) (c.set s.length (c.getD (0 + (s.length : Int).toNat) 0 + l.getD (s.length : Int).toNat 0)) = shR t l := by
              rw [e1, hM2]
              exact hH
            conv => whnf
            conv => whnf
            conv => whnf
            refine ifB_dec (fun w3 => ?_) (fun w3 => ?_)
            · (exfalso; omega)
            · conv => whnf
              conv => whnf
              conv => whnf
              refine ⟨[], by kernel_rfl, ?_⟩
              conv => whnf
              conv => whnf
              conv => whnf
              refine ⟨⟨(by omega), (by omega)⟩, ?_⟩
              conv => whnf
              conv => whnf
              conv => whnf
              refine ⟨⟨(by omega), (by omega)⟩, ?_⟩
              conv => whnf
              conv => whnf
              conv => whnf
              refine ⟨inK64 (by omega) (by omega), ?_⟩
              conv => whnf
              conv => whnf
              conv => whnf
              refine ⟨⟨(by omega), (by omega)⟩, ?_⟩
              refine ⟨_, fun i _ => rowI _ _ i _ (by first | omega | (simp only [List.length_set]; omega) | (simp only [List.length_replicate]; omega) | (simp only [List.length_set, List.length_replicate]; omega)), ?_⟩
              conv => whnf
              conv => whnf
              conv => whnf
              refine ⟨inK64 (by omega) (by omega), ?_⟩
              conv => whnf
              conv => whnf
              conv => whnf
              refine ⟨_, _, ⟨⟨s.length + 1, q, c.set s.length (c.getD (0 + (s.length : Int).toNat) 0 + l.getD (s.length : Int).toNat 0), u + s.length + 1, by omega, (by rw [List.length_set]; exact hc), by omega, (by rw [show u + s.length + 1 = v + 1 by omega]; exact hn), (by show _ = tri s.length + (s.length + 1); omega), hH3, rfl, rfl⟩, by omega⟩, ⟨⟨.inl rfl, rfl, rfl, rfl⟩, ⟨⟨rfl, rfl, rfl, rfl, fun _ => rfl, fun _ _ => .inl rfl⟩, trivial⟩, trivial⟩⟩
          · obtain ⟨w, rfl⟩ : ∃ w, m = w + 1 := ⟨m - 1, by omega⟩
            have hb := pow_sml2 (show v ≤ 13 by omega)
            have hsv : Sml (1000 * 11 ^ v) s := hS.mono (by have := Nat.pow_le_pow_right (show 0 < 11 by decide) (show u ≤ v by omega); omega)
            have e1 : 0 + ((j : Int) + 1).toNat = j + 1 := by omega
            have b1 : (c.getD (j + 1) 0).natAbs ≤ 1000 * 11 ^ v := ent_sml hT (j + 1)
            have b2 : (s.getD j 0).natAbs ≤ 1000 * 11 ^ v := ent_sml hsv j
            have b2' : (s.getD (j : Int).toNat 0).natAbs ≤ 1000 * 11 ^ v := b2
            have b3 := mul_sml hta b2'
            have hn : Sml (11 * (1000 * 11 ^ v)) (c.set ((j : Int) + 1).toNat (c.getD (0 + ((j : Int) + 1).toNat) 0 + t * s.getD (j : Int).toNat 0)) := by
              exact set_sml2 hta b2 hT _ _
            have hM3 : mxG t s w (j + 1) (c.set ((j : Int) + 1).toNat (c.getD (0 + ((j : Int) + 1).toNat) 0 + t * s.getD (j : Int).toNat 0)) = mxG t s s.length 0 (s ++ [0]) := by
              rw [e1, show ((j : Int) + 1).toNat = j + 1 by omega]
              exact hM
            rw [← e1] at b1
            conv => whnf
            conv => whnf
            conv => whnf
            refine ifB_dec (fun w3 => ?_) (fun w3 => ?_)
            · conv => whnf
              conv => whnf
              conv => whnf
              refine ⟨[], by kernel_rfl, ?_⟩
              conv => whnf
              conv => whnf
              conv => whnf
              refine ⟨inK64 (by omega) (by omega), ?_⟩
              conv => whnf
              conv => whnf
              conv => whnf
              refine ⟨inK64 (by omega) (by omega), ?_⟩
              conv => whnf
              conv => whnf
              conv => whnf
              refine ⟨⟨(by omega), (by omega)⟩, ?_⟩
              conv => whnf
              conv => whnf
              conv => whnf
              refine ⟨⟨(by omega), (by omega)⟩, ?_⟩
              conv => whnf
              conv => whnf
              conv => whnf
              refine ⟨inK64 (by omega) (by omega), ?_⟩
              conv => whnf
              conv => whnf
              conv => whnf
              refine ⟨inK64 (by omega) (by omega), ?_⟩
              conv => whnf
              conv => whnf
              conv => whnf
              refine ⟨⟨(by omega), (by omega)⟩, ?_⟩
              refine ⟨_, fun i _ => rowI _ _ i _ (by first | omega | (simp only [List.length_set]; omega) | (simp only [List.length_replicate]; omega) | (simp only [List.length_set, List.length_replicate]; omega)), ?_⟩
              conv => whnf
              conv => whnf
              conv => whnf
              refine ⟨inK64 (by omega) (by omega), ?_⟩
              conv => whnf
              conv => whnf
              conv => whnf
              refine ⟨_, _, ⟨⟨j + 1, w, c.set ((j : Int) + 1).toNat (c.getD (0 + ((j : Int) + 1).toNat) 0 + t * s.getD (j : Int).toNat 0), v + 1, _, by omega, (by rw [List.length_set]; exact hc), (by rw [Nat.pow_succ]; intro x hx; have := hn x hx; omega), by omega, hM3, rfl, rfl⟩, by omega⟩, ⟨⟨.inl rfl, rfl, rfl, rfl⟩, ⟨⟨rfl, rfl, rfl, rfl, fun _ => rfl, fun _ _ => .inl rfl⟩, ⟨⟨rfl, rfl, rfl, rfl, fun _ => rfl, fun _ _ => .inl rfl⟩, ⟨⟨rfl, rfl, rfl, rfl, fun _ => rfl, fun _ _ => .inl rfl⟩, trivial⟩⟩⟩, trivial⟩⟩
            · (exfalso; omega)
        · (exfalso; omega)
    · (exfalso; omega)
  · have hE : shE t l = 2 := if_pos ht
    rw [hE]
    refine sound (d := 2) tok2 mixed2 Tryz.func85 (by kernel_rfl) (by kernel_rfl) ?_
    conv => whnf
    refine .inl ⟨_, _, byX rfl (Sound1.pl (h68) rfl), ?_⟩
    conv => whnf
    refine ifB_not ?_
    conv => whnf
    refine ifB_dec (fun w1 => ?_) (fun w1 => ?_)
    · (exfalso; omega)
    · conv => whnf
      refine ⟨?_, nofun⟩
      exact ave_tup2 rfl rfl
end Go.Tr

/- Contracts of chapter 6: margins; the law GovernorMargins. Conditions: none. -/
namespace Go.Tr
open Go Go.Proofs
set_option maxRecDepth 20000
set_option maxHeartbeats 8000000

theorem S150 (k x : Int) : SP 150 [i64 k, i64 x] (i64 (coefE x)) false := by
  have h := S104 x
  refine sound (d := 2) tok2 mixed2 Tryz.func150 (by kernel_rfl) (by kernel_rfl) ?_
  conv => whnf
  refine .inl ⟨_, _, byX rfl (Sound1.pl (h) rfl), ?_⟩
  conv => whnf
  refine ⟨?_, nofun⟩
  rfl
/-- The error of the package's shift. -/
def shftE (t : Int) (l : List Int) : Int := if polyE l = 0 then shE t l else polyE l
theorem PolyOk.len {p : List Int} (h : PolyOk p) : p.length ≤ 1000 := by have := h.p2; omega
theorem win10 (t : Int) : win t (-10) 10 = true ↔ -10 ≤ t ∧ t ≤ 10 := by unfold win; simp
theorem S83 (l : List Int) (t : Int) (hl : l.length ≤ 1000000) : SP 83 [ints l, i64 t] (.tuple [ints (if shftE t l = 0 then shP t l else []), i64 (shftE t l)]) false := by
  have h64 := S64 l hl
  have h114 := S114 t 10 (by decide)
  unfold shftE
  by_cases h0 : polyE l = 0
  · have hp := PolyOk.of h0
    rw [if_pos h0]
    rw [h0] at h64
    by_cases ht : -10 ≤ t ∧ t ≤ 10
    · rw [(win10 t).2 ht] at h114
      have h93 : SP 93 [vb true, i64 2] (i64 0) false := S93 true 2
      have h90 : ∀ f : Nat → List AV, (f 0 = [i64 0] ∧ f 1 = [i64 0]) → SP 90 [.rslice 1 2 f] (i64 0) false := fun f h => by
        have h := S90_2 0 0 h
        rwa [first2, if_neg (by simp)] at h
      have h149 := S149 l t hp.p2 hp.ps (by omega)
      have hsl := shP_len t l
      have hpl := hp.len
      have h94 := S94 150 (fun _ x => coefE x) (shP t l) (by omega) (fun k hk => S150 k _)
      have hE : shE t l = if coefsE (shP t l) ≠ 0 then 8 else 0 := if_neg (not_not_intro ht)
      rw [hE]
      refine sound (d := 2) tok2 mixed2 Tryz.func83 (by kernel_rfl) (by kernel_rfl) ?_
      conv => whnf
      refine .inl ⟨_, _, byX rfl (Sound1.pl (h64) rfl), ?_⟩
      conv => whnf
      refine .inl ⟨_, _, byX rfl (Sound1.pl (h114) rfl), ?_⟩
      conv => whnf
      refine .inl ⟨_, _, byX rfl (Sound1.pl (h93) rfl), ?_⟩
      conv => whnf
      refine .inl ⟨_, _, byX rfl (Sound1.pl (h90 _ ⟨rfl, rfl⟩) rfl), ?_⟩
      conv => whnf
      refine .inl ⟨_, _, byX rfl (h149), ?_⟩
      conv => whnf
      refine .inl ⟨_, _, byX rfl (Sound1.pl (h94) rfl), ?_⟩
      conv => whnf
      refine ifB_bne (fun w1 => ?_) (fun w1 => ?_)
      · conv => whnf
        refine ⟨?_, nofun⟩
        rw [if_pos (show coefsE (shP t l) ≠ 0 from w1), if_neg (show ¬ (8 : Int) = 0 by decide)]
        exact ave_tup2 rfl rfl
      · conv => whnf
        refine ⟨?_, nofun⟩
        rw [if_neg (show ¬ coefsE (shP t l) ≠ 0 from not_not_intro w1), if_pos (show (0 : Int) = 0 by decide)]
        exact ave_tup2 ⟨rfl, rfl, fun i hi => rfl⟩ rfl
    · have hw : win t (-10) 10 = false := by
        cases h : win t (-10) 10 with
        | false => rfl
        | true => exact absurd ((win10 t).1 h) ht
      rw [hw] at h114
      have h93 : SP 93 [vb false, i64 2] (i64 2) false := S93 false 2
      have h90 : ∀ f : Nat → List AV, (f 0 = [i64 0] ∧ f 1 = [i64 2]) → SP 90 [.rslice 1 2 f] (i64 2) false := fun f h => by
        have h := S90_2 0 2 h
        rwa [first2, if_neg (by simp)] at h
      have hE : shE t l = 2 := if_pos ht
      rw [hE]
      refine sound (d := 2) tok2 mixed2 Tryz.func83 (by kernel_rfl) (by kernel_rfl) ?_
      conv => whnf
      refine .inl ⟨_, _, byX rfl (Sound1.pl (h64) rfl), ?_⟩
      conv => whnf
      refine .inl ⟨_, _, byX rfl (Sound1.pl (h114) rfl), ?_⟩
      conv => whnf
      refine .inl ⟨_, _, byX rfl (Sound1.pl (h93) rfl), ?_⟩
      conv => whnf
      refine .inl ⟨_, _, byX rfl (Sound1.pl (h90 _ ⟨rfl, rfl⟩) rfl), ?_⟩
      conv => whnf
      refine ⟨?_, nofun⟩
      exact ave_tup2 rfl rfl
  · rw [if_neg h0, if_neg h0]
    have h93 := fun b c => S93 b c
    have h90 : ∀ (b : Int) (f : Nat → List AV), (f 0 = [i64 (polyE l)] ∧ f 1 = [i64 b]) → SP 90 [.rslice 1 2 f] (i64 (polyE l)) false := fun b f h => by
      have h := S90_2 (polyE l) b h
      rwa [first2, if_pos h0] at h
    refine sound (d := 2) tok2 mixed2 Tryz.func83 (by kernel_rfl) (by kernel_rfl) ?_
    conv => whnf
    refine .inl ⟨_, _, byX rfl (Sound1.pl (h64) rfl), ?_⟩
    conv => whnf
    refine .inl ⟨_, _, byX rfl (Sound1.pl (h114) rfl), ?_⟩
    conv => whnf
    refine .inl ⟨_, _, byX rfl (Sound1.pl (h93 _ _) rfl), ?_⟩
    conv => whnf
    refine .inl ⟨_, _, byX rfl (Sound1.pl (h90 _ _ ⟨rfl, rfl⟩) rfl), ?_⟩
    conv => whnf
    refine ifB_bne (fun w1 => ?_) (fun w1 => ?_)
    · conv => whnf
      refine ⟨?_, nofun⟩
      exact ave_tup2 rfl rfl
    · (exfalso; omega)
/-- Shifted so far to the left a polynomial is one, and stable. -/
def okS (p : List Int) (d : Nat) : Bool := if polyE (shP (-(d : Int)) p) = 0 then stabB (shP (-(d : Int)) p) else false
def marF (p : List Int) : Nat → Nat
  | 0 => 0
  | d + 1 => if okS p (d + 1) = true then d + 1 else marF p d
theorem mar_le (p : List Int) : ∀ d, marF p d ≤ d
  | 0 => Nat.le_refl 0
  | d + 1 => by
    unfold marF
    split
    · exact Nat.le_refl _
    · exact Nat.le_succ_of_le (mar_le p d)
theorem S84 (l : List Int) (hl : l.length ≤ 1000000) : SP 84 [ints l] (.tuple [i64 (if polyE l = 0 then if stabB l = true then (marF l 10 : Nat) else 0 else 0), i64 (if polyE l = 0 then if stabB l = true then 0 else 12 else polyE l)]) false := by
  have h37 := S37 l hl
  by_cases h0 : polyE l = 0
  · have hp := PolyOk.of h0
    rw [if_pos h0, if_pos h0]
    rw [if_pos h0, h0] at h37
    cases hs : stabB l with
    | true =>
      rw [if_pos rfl, if_pos rfl]
      rw [hs] at h37
      have h93 : SP 93 [vb true, i64 12] (i64 0) false := S93 true 12
      have h90 : ∀ f : Nat → List AV, (f 0 = [i64 0] ∧ f 1 = [i64 0]) → SP 90 [.rslice 1 2 f] (i64 0) false := fun f h => by
        have h := S90_2 0 0 h
        rwa [first2, if_neg (by simp)] at h
      refine sound (d := 2) tok2 mixed2 Tryz.func84 (by kernel_rfl) (by kernel_rfl) ?_
      conv => whnf
      refine .inl ⟨_, _, byX rfl (Sound1.pl (h37) rfl), ?_⟩
      conv => whnf
      refine .inl ⟨_, _, byX rfl (Sound1.pl (h93) rfl), ?_⟩
      conv => whnf
      refine .inl ⟨_, _, byX rfl (Sound1.pl (h90 _ ⟨rfl, rfl⟩) rfl), ?_⟩
      conv => whnf
      refine ⟨[], [0, 6], fun st mq => ∃ (k : Nat) (c : Int) (F0 : Nat → List AV), (c = (k : Nat)) ∧ (k ≤ 10) ∧ (marF l k = marF l 10) ∧ st = ⟨[(0, ints l), (6, i64 c)], ⟨[⟨1, 2, F0, 0, false, true, false⟩], [], none, 0⟩, []⟩ ∧ mq = k,
        ⟨_, _, ⟨10, 10, _, rfl, by omega, rfl, rfl, rfl⟩, ⟨⟨.inl rfl, rfl, rfl, rfl⟩, ⟨⟨rfl, rfl, rfl, rfl, fun _ => rfl, fun _ _ => .inl rfl⟩, trivial⟩, trivial⟩⟩, ?_⟩
      rintro s0 m0 ⟨k, c, F0, hc, hk, hm, rfl, hmeas⟩
      subst hc
      by_cases hk0 : k = 0
      · subst hk0
        rw [← hm]
        conv => whnf
        conv => whnf
        refine ⟨?_, nofun⟩
        exact ave_tup2 rfl rfl
      · obtain ⟨d, rfl⟩ : ∃ d, k = d + 1 := ⟨k - 1, by omega⟩
        have hsl := shP_len (-((d + 1 : Nat) : Int)) l
        have hpl := hp.len
        have h149 := S149 l (-((d + 1 : Nat) : Int)) hp.p2 hp.ps (by omega)
        have h64 := S64 (shP (-((d + 1 : Nat) : Int)) l) (by omega)
        by_cases hq : polyE (shP (-((d + 1 : Nat) : Int)) l) = 0
        · have h109 := S109 _ (PolyOk.of hq)
          rw [hq] at h64
          have hok : okS l (d + 1) = stabB (shP (-((d + 1 : Nat) : Int)) l) := if_pos hq
          cases hst : stabB (shP (-((d + 1 : Nat) : Int)) l) with
          | true =>
            rw [hst] at h109
            have hm2 : marF l (d + 1) = d + 1 := if_pos (hok.trans hst)
            rw [← hm, hm2]
            conv => whnf
            conv => whnf
            refine ifB_dec (fun w1 => ?_) (fun w1 => ?_)
            · conv => whnf
              conv => whnf
              refine ⟨inK64 (by omega) (by omega), ?_⟩
              conv => whnf
              conv => whnf
              refine .inl ⟨_, _, byX rfl (h149), ?_⟩
              conv => whnf
              conv => whnf
              refine .inl ⟨_, _, byX rfl (Sound1.pl (h64) rfl), ?_⟩
              conv => whnf
              conv => whnf
              refine .inl ⟨_, _, byX rfl (Sound1.pl (h109) rfl), ?_⟩
              conv => whnf
              conv => whnf
              refine ⟨?_, nofun⟩
              exact ave_tup2 rfl rfl
            · (exfalso; omega)
          | false =>
            rw [hst] at h109
            have hm2 : marF l (d + 1) = marF l d := if_neg (by rw [hok, hst]; nofun)
            conv => whnf
            conv => whnf
            refine ifB_dec (fun w1 => ?_) (fun w1 => ?_)
            · conv => whnf
              conv => whnf
              refine ⟨inK64 (by omega) (by omega), ?_⟩
              conv => whnf
              conv => whnf
              refine .inl ⟨_, _, byX rfl (h149), ?_⟩
              conv => whnf
              conv => whnf
              refine .inl ⟨_, _, byX rfl (Sound1.pl (h64) rfl), ?_⟩
              conv => whnf
              conv => whnf
              refine .inl ⟨_, _, byX rfl (Sound1.pl (h109) rfl), ?_⟩
              conv => whnf
              conv => whnf
              refine ⟨inK64 (by omega) (by omega), ?_⟩
              conv => whnf
              conv => whnf
              refine ⟨_, _, ⟨⟨d, ((d + 1 : Nat) : Int) - 1, _, by omega, by omega, hm2.symm.trans hm, rfl, rfl⟩, by omega⟩, ⟨⟨.inl rfl, rfl, rfl, rfl⟩, ⟨⟨rfl, rfl, rfl, rfl, fun _ => rfl, fun _ _ => .inl rfl⟩, trivial⟩, trivial⟩⟩
            · (exfalso; omega)
        · have hok : okS l (d + 1) = false := if_neg hq
          have hm2 : marF l (d + 1) = marF l d := if_neg (by rw [hok]; nofun)
          conv => whnf
          conv => whnf
          refine ifB_dec (fun w1 => ?_) (fun w1 => ?_)
          · conv => whnf
            conv => whnf
            refine ⟨inK64 (by omega) (by omega), ?_⟩
            conv => whnf
            conv => whnf
            refine .inl ⟨_, _, byX rfl (h149), ?_⟩
            conv => whnf
            conv => whnf
            refine .inl ⟨_, _, byX rfl (Sound1.pl (h64) rfl), ?_⟩
            conv => whnf
            conv => whnf
            refine ifB_beq (fun w2 => ?_) (fun w2 => ?_)
            · (exfalso; omega)
            · conv => whnf
              conv => whnf
              refine ⟨inK64 (by omega) (by omega), ?_⟩
              conv => whnf
              conv => whnf
              refine ⟨_, _, ⟨⟨d, ((d + 1 : Nat) : Int) - 1, _, by omega, by omega, hm2.symm.trans hm, rfl, rfl⟩, by omega⟩, ⟨⟨.inl rfl, rfl, rfl, rfl⟩, ⟨⟨rfl, rfl, rfl, rfl, fun _ => rfl, fun _ _ => .inl rfl⟩, trivial⟩, trivial⟩⟩
          · (exfalso; omega)
    | false =>
      rw [if_neg (by nofun), if_neg (by nofun)]
      rw [hs] at h37
      have h93 : SP 93 [vb false, i64 12] (i64 12) false := S93 false 12
      have h90 : ∀ f : Nat → List AV, (f 0 = [i64 0] ∧ f 1 = [i64 12]) → SP 90 [.rslice 1 2 f] (i64 12) false := fun f h => by
        have h := S90_2 0 12 h
        rwa [first2, if_neg (by simp)] at h
      refine sound (d := 2) tok2 mixed2 Tryz.func84 (by kernel_rfl) (by kernel_rfl) ?_
      conv => whnf
      refine .inl ⟨_, _, byX rfl (Sound1.pl (h37) rfl), ?_⟩
      conv => whnf
      refine .inl ⟨_, _, byX rfl (Sound1.pl (h93) rfl), ?_⟩
      conv => whnf
      refine .inl ⟨_, _, byX rfl (Sound1.pl (h90 _ ⟨rfl, rfl⟩) rfl), ?_⟩
      conv => whnf
      refine ⟨?_, nofun⟩
      exact ave_tup2 rfl rfl
  · rw [if_neg h0, if_neg h0]
    rw [if_neg h0] at h37
    have h93 : SP 93 [vb false, i64 12] (i64 12) false := S93 false 12
    have h90 : ∀ (f : Nat → List AV), (f 0 = [i64 (polyE l)] ∧ f 1 = [i64 12]) → SP 90 [.rslice 1 2 f] (i64 (polyE l)) false := fun f h => by
      have h := S90_2 (polyE l) 12 h
      rwa [first2, if_pos h0] at h
    refine sound (d := 2) tok2 mixed2 Tryz.func84 (by kernel_rfl) (by kernel_rfl) ?_
    conv => whnf
    refine .inl ⟨_, _, byX rfl (Sound1.pl (h37) rfl), ?_⟩
    conv => whnf
    refine .inl ⟨_, _, byX rfl (Sound1.pl (h93) rfl), ?_⟩
    conv => whnf
    refine .inl ⟨_, _, byX rfl (Sound1.pl (h90 _ ⟨rfl, rfl⟩) rfl), ?_⟩
    conv => whnf
    refine ifB_bne (fun w1 => ?_) (fun w1 => ?_)
    · conv => whnf
      refine ⟨?_, nofun⟩
      exact ave_tup2 rfl rfl
    · (exfalso; omega)
end Go.Tr

/- The law GovernorMargins returns true. Conditions: none. -/
namespace Go.Tr
open Go Go.Proofs
set_option maxRecDepth 20000
set_option maxHeartbeats 8000000

theorem coefs_of {l : List Int} (h : polyE l = 0) : coefsE l = 0 := by
  unfold polyE at h
  by_cases h1 : shapeE l.length = 0
  · rw [if_neg (not_not_intro h1)] at h
    by_cases h2 : coefsE l = 0
    · exact h2
    · rw [if_pos h2] at h; exact absurd h h2
  · rw [if_pos h1] at h; exact absurd h h1
theorem shE_in {t : Int} {l : List Int} (ht : -10 ≤ t ∧ t ≤ 10) : shE t l = if coefsE (shP t l) ≠ 0 then 8 else 0 := if_neg (not_not_intro ht)
theorem S86 (l : List Int) (hp : PolyOk l) : SP 86 [ints l] (.tuple [i64 (if stabB l = true then (marF l 10 : Nat) else 0), vb (stabB l)]) false := by
  have h67 := S67 l hp
  have hpl := hp.len
  cases hs : stabB l with
  | false =>
    rw [hs] at h67
    rw [if_neg (by nofun)]
    refine sound (d := 2) tok2 mixed2 Tryz.func86 (by kernel_rfl) (by kernel_rfl) ?_
    conv => whnf
    refine .inl ⟨_, _, byX rfl (Sound1.pl (h67) rfl), ?_⟩
    conv => whnf
    refine ⟨?_, nofun⟩
    exact ave_tup2 rfl rfl
  | true =>
    rw [hs] at h67
    rw [if_pos rfl]
    refine sound (d := 2) tok2 mixed2 Tryz.func86 (by kernel_rfl) (by kernel_rfl) ?_
    conv => whnf
    refine .inl ⟨_, _, byX rfl (Sound1.pl (h67) rfl), ?_⟩
    conv => whnf
    refine ⟨[], [0, 4, 5], fun st mq => ∃ (d : Nat) (n : Nat), (d ≤ 10) ∧ (n = marF l d) ∧ st = ⟨[(0, ints l), (4, i64 n), (5, i64 (d + 1 : Nat))], ⟨[], [], none, 0⟩, []⟩ ∧ mq = 10 - d,
      ⟨_, _, ⟨0, 0, by omega, rfl, rfl, rfl⟩, ⟨⟨.inl rfl, rfl, rfl, rfl⟩, trivial, trivial⟩⟩, ?_⟩
    rintro s0 m0 ⟨d, n, hd, hn, rfl, hmeas⟩
    by_cases hlt : d < 10
    · have h85 := S85 l (-((d + 1 : Nat) : Int)) hp.p2 hp.ps
      have hE := shE_in (t := -((d + 1 : Nat) : Int)) (l := l) (by omega)
      have hsl := shP_len (-((d + 1 : Nat) : Int)) l
      by_cases hc : coefsE (shP (-((d + 1 : Nat) : Int)) l) = 0
      · rw [if_neg (not_not_intro hc)] at hE
        rw [hE, if_pos rfl] at h85
        have h21 := S21 (shP (-((d + 1 : Nat) : Int)) l) (by omega)
        by_cases hq : polyE (shP (-((d + 1 : Nat) : Int)) l) = 0
        · rw [hq] at h21
          have h67q := S67 _ (PolyOk.of hq)
          have hok : okS l (d + 1) = stabB (shP (-((d + 1 : Nat) : Int)) l) := if_pos hq
          cases hst : stabB (shP (-((d + 1 : Nat) : Int)) l) with
          | true =>
            rw [hst] at h67q
            have hm2 : marF l (d + 1) = d + 1 := if_pos (hok.trans hst)
            conv => whnf
            conv => whnf
            refine ifB_dec (fun w1 => ?_) (fun w1 => ?_)
            · conv => whnf
              conv => whnf
              refine ⟨inK64 (by omega) (by omega), ?_⟩
              conv => whnf
              conv => whnf
              refine .inl ⟨_, _, byX rfl (h85), ?_⟩
              conv => whnf
              conv => whnf
              refine .inl ⟨_, _, byX rfl (Sound1.pl (h21) rfl), ?_⟩
              conv => whnf
              conv => whnf
              refine .inl ⟨_, _, byX rfl (Sound1.pl (h67q) rfl), ?_⟩
              conv => whnf
              conv => whnf
              refine ⟨inK64 (by omega) (by omega), ?_⟩
              conv => whnf
              conv => whnf
              refine ⟨_, _, ⟨⟨d + 1, d + 1, by omega, hm2.symm, rfl, rfl⟩, by omega⟩, ⟨⟨.inl rfl, rfl, rfl, rfl⟩, trivial, trivial⟩⟩
            · (exfalso; omega)
          | false =>
            rw [hst] at h67q
            have hm2 : marF l (d + 1) = marF l d := if_neg (by rw [hok, hst]; nofun)
            conv => whnf
            conv => whnf
            refine ifB_dec (fun w1 => ?_) (fun w1 => ?_)
            · conv => whnf
              conv => whnf
              refine ⟨inK64 (by omega) (by omega), ?_⟩
              conv => whnf
              conv => whnf
              refine .inl ⟨_, _, byX rfl (h85), ?_⟩
              conv => whnf
              conv => whnf
              refine .inl ⟨_, _, byX rfl (Sound1.pl (h21) rfl), ?_⟩
              conv => whnf
              conv => whnf
              refine .inl ⟨_, _, byX rfl (Sound1.pl (h67q) rfl), ?_⟩
              conv => whnf
              conv => whnf
              refine ⟨inK64 (by omega) (by omega), ?_⟩
              conv => whnf
              conv => whnf
              refine ⟨_, _, ⟨⟨d + 1, n, by omega, hn.trans hm2.symm, rfl, rfl⟩, by omega⟩, ⟨⟨.inl rfl, rfl, rfl, rfl⟩, trivial, trivial⟩⟩
            · (exfalso; omega)
        · have hok : okS l (d + 1) = false := if_neg hq
          have hm2 : marF l (d + 1) = marF l d := if_neg (by rw [hok]; nofun)
          conv => whnf
          conv => whnf
          refine ifB_dec (fun w1 => ?_) (fun w1 => ?_)
          · conv => whnf
            conv => whnf
            refine ⟨inK64 (by omega) (by omega), ?_⟩
            conv => whnf
            conv => whnf
            refine .inl ⟨_, _, byX rfl (h85), ?_⟩
            conv => whnf
            conv => whnf
            refine .inl ⟨_, _, byX rfl (Sound1.pl (h21) rfl), ?_⟩
            conv => whnf
            conv => whnf
            refine ifB_beq (fun w2 => ?_) (fun w2 => ?_)
            · (exfalso; omega)
            · conv => whnf
              conv => whnf
              refine ⟨inK64 (by omega) (by omega), ?_⟩
              conv => whnf
              conv => whnf
              refine ⟨_, _, ⟨⟨d + 1, n, by omega, hn.trans hm2.symm, rfl, rfl⟩, by omega⟩, ⟨⟨.inl rfl, rfl, rfl, rfl⟩, trivial, trivial⟩⟩
          · (exfalso; omega)
      · rw [if_pos hc] at hE
        rw [hE, if_neg (show ¬ (8 : Int) = 0 by decide)] at h85
        have hok : okS l (d + 1) = false := if_neg (fun h => hc (coefs_of h))
        have hm2 : marF l (d + 1) = marF l d := if_neg (by rw [hok]; nofun)
        conv => whnf
        conv => whnf
        refine ifB_dec (fun w1 => ?_) (fun w1 => ?_)
        · conv => whnf
          conv => whnf
          refine ⟨inK64 (by omega) (by omega), ?_⟩
          conv => whnf
          conv => whnf
          refine .inl ⟨_, _, byX rfl (h85), ?_⟩
          conv => whnf
          conv => whnf
          refine ⟨inK64 (by omega) (by omega), ?_⟩
          conv => whnf
          conv => whnf
          refine ⟨_, _, ⟨⟨d + 1, n, by omega, hn.trans hm2.symm, rfl, rfl⟩, by omega⟩, ⟨⟨.inl rfl, rfl, rfl, rfl⟩, trivial, trivial⟩⟩
        · (exfalso; omega)
    · have e : d = 10 := by omega
      subst e
      subst hn
      conv => whnf
      conv => whnf
      refine ⟨?_, nofun⟩
      exact ave_tup2 rfl rfl
theorem S14 (l : List Int) (t : Int) (hl : l.length ≤ 9223372036854775807) : SP 14 [ints l, i64 t] (vb true) false := by
  have h17 := S17 l hl
  by_cases hls : l.length ≤ 7
  · rw [decide_eq_true hls] at h17
    have hl1 : l.length ≤ 1000000 := by omega
    have h19 := S19 l hl1
    have h83 := S83 l t hl1
    have h84 := S84 l hl1
    have h21 := S21 l hl1
    by_cases h0 : polyE l = 0
    · have hp := PolyOk.of h0
      have hE : shftE t l = shE t l := if_pos h0
      rw [hE] at h83
      rw [if_pos h0, if_pos h0] at h84
      rw [h0] at h21
      have h85 := S85 l t hp.p2 hp.ps
      have h86 := S86 l hp
      have hpl := hp.len
      have hsl : (if shE t l = 0 then shP t l else []).length ≤ 1000 := by
        split
        · rw [shP_len]; exact hpl
        · simp
      generalize (if shE t l = 0 then shP t l else []) = R at h83 h85 hsl
      have h26 := S26 R R (by omega) (by omega)
      rw [decide_eq_true rfl] at h26
      cases hs : stabB l with
      | true =>
        rw [hs, if_pos rfl, if_pos rfl] at h84
        rw [hs, if_pos rfl] at h86
        refine sound (d := 2) tok2 mixed2 Tryz.func14 (by kernel_rfl) (by kernel_rfl) ?_
        conv => whnf
        refine .inl ⟨_, _, byX rfl (Sound1.pl (S16) rfl), ?_⟩
        conv => whnf
        refine .inl ⟨_, _, byX rfl (Sound1.pl (h17) rfl), ?_⟩
        conv => whnf
        refine .inl ⟨_, _, byX rfl (h19), ?_⟩
        conv => whnf
        refine .inl ⟨_, _, byX rfl (h83), ?_⟩
        conv => whnf
        refine .inl ⟨_, _, byX rfl (h19), ?_⟩
        conv => whnf
        refine .inl ⟨_, _, byX rfl (Sound1.pl (h84) rfl), ?_⟩
        conv => whnf
        refine .inl ⟨_, _, byX rfl (Sound1.pl (h21) rfl), ?_⟩
        conv => whnf
        refine .inl ⟨_, _, byX rfl (h85), ?_⟩
        conv => whnf
        refine .inl ⟨_, _, byX rfl (Sound1.pl (h86) rfl), ?_⟩
        conv => whnf
        refine ifB_beq (fun w1 => ?_) (fun w1 => ?_)
        · conv => whnf
          refine .inl ⟨_, _, byX rfl (Sound1.pl (h26) rfl), ?_⟩
          conv => whnf
          refine ifB_beq (fun w2 => ?_) (fun w2 => ?_)
          · conv => whnf
            refine ⟨?_, nofun⟩
            (rfl)
          · (exfalso; omega)
        · (exfalso; omega)
      | false =>
        rw [hs, if_neg (by nofun), if_neg (by nofun)] at h84
        rw [hs, if_neg (by nofun)] at h86
        refine sound (d := 2) tok2 mixed2 Tryz.func14 (by kernel_rfl) (by kernel_rfl) ?_
        conv => whnf
        refine .inl ⟨_, _, byX rfl (Sound1.pl (S16) rfl), ?_⟩
        conv => whnf
        refine .inl ⟨_, _, byX rfl (Sound1.pl (h17) rfl), ?_⟩
        conv => whnf
        refine .inl ⟨_, _, byX rfl (h19), ?_⟩
        conv => whnf
        refine .inl ⟨_, _, byX rfl (h83), ?_⟩
        conv => whnf
        refine .inl ⟨_, _, byX rfl (h19), ?_⟩
        conv => whnf
        refine .inl ⟨_, _, byX rfl (Sound1.pl (h84) rfl), ?_⟩
        conv => whnf
        refine .inl ⟨_, _, byX rfl (Sound1.pl (h21) rfl), ?_⟩
        conv => whnf
        refine .inl ⟨_, _, byX rfl (h85), ?_⟩
        conv => whnf
        refine .inl ⟨_, _, byX rfl (Sound1.pl (h86) rfl), ?_⟩
        conv => whnf
        refine ifB_beq (fun w1 => ?_) (fun w1 => ?_)
        · conv => whnf
          refine .inl ⟨_, _, byX rfl (Sound1.pl (h26) rfl), ?_⟩
          conv => whnf
          refine ⟨?_, nofun⟩
          (rfl)
        · (exfalso; omega)
    · have hE : shftE t l = polyE l := if_neg h0
      rw [hE, if_neg h0] at h83
      rw [if_neg h0, if_neg h0] at h84
      refine sound (d := 2) tok2 mixed2 Tryz.func14 (by kernel_rfl) (by kernel_rfl) ?_
      conv => whnf
      refine .inl ⟨_, _, byX rfl (Sound1.pl (S16) rfl), ?_⟩
      conv => whnf
      refine .inl ⟨_, _, byX rfl (Sound1.pl (h17) rfl), ?_⟩
      conv => whnf
      refine .inl ⟨_, _, byX rfl (h19), ?_⟩
      conv => whnf
      refine .inl ⟨_, _, byX rfl (h83), ?_⟩
      conv => whnf
      refine .inl ⟨_, _, byX rfl (h19), ?_⟩
      conv => whnf
      refine .inl ⟨_, _, byX rfl (Sound1.pl (h84) rfl), ?_⟩
      conv => whnf
      refine .inl ⟨_, _, byX rfl (Sound1.pl (h21) rfl), ?_⟩
      conv => whnf
      refine ifB_bne (fun w1 => ?_) (fun w1 => ?_)
      · conv => whnf
        refine ifB_beq (fun w2 => ?_) (fun w2 => ?_)
        · conv => whnf
          refine ifB_beq (fun w3 => ?_) (fun w3 => ?_)
          · conv => whnf
            refine ⟨?_, nofun⟩
            (rfl)
          · (exfalso; omega)
        · (exfalso; omega)
      · (exfalso; omega)
  · rw [decide_eq_false hls] at h17
    refine sound (d := 2) tok2 mixed2 Tryz.func14 (by kernel_rfl) (by kernel_rfl) ?_
    conv => whnf
    refine .inl ⟨_, _, byX rfl (Sound1.pl (S16) rfl), ?_⟩
    conv => whnf
    refine .inl ⟨_, _, byX rfl (Sound1.pl (h17) rfl), ?_⟩
    conv => whnf
    refine ⟨?_, nofun⟩
    rfl
end Go.Tr

/- Plain laws: when a polynomial of degree 1 to 4 is stable. Conditions: none. -/
namespace Go.Tr
open Go Go.Proofs
set_option maxRecDepth 20000
set_option maxHeartbeats 8000000

theorem gcd_fold : ∀ (l : List Int) (g : Nat), (l.foldl (fun g x => Nat.gcd g x.natAbs) g ∣ g) ∧ ∀ x ∈ l, (l.foldl (fun g x => Nat.gcd g x.natAbs) g) ∣ x.natAbs
  | [], _ => ⟨Nat.dvd_refl _, fun _ h => absurd h (by simp)⟩
  | x :: l, g => by
    have h := gcd_fold l (Nat.gcd g x.natAbs)
    refine ⟨Nat.dvd_trans h.1 (Nat.gcd_dvd_left _ _), fun y hy => ?_⟩
    rcases List.mem_cons.1 hy with e | hy
    · rw [e]; exact Nat.dvd_trans h.1 (Nat.gcd_dvd_right _ _)
    · exact h.2 y hy
/-- A row is a positive multiple of the row divided by its greatest common divisor. -/
theorem red_pos (l : List Int) : ∃ g : Int, 0 < g ∧ ∀ i, l.getD i 0 = g * (redL l).getD i 0 := by
  unfold redL
  by_cases h : gcdR l = 0
  · rw [if_pos h]; exact ⟨1, by decide, fun i => (Int.one_mul _).symm⟩
  · rw [if_neg h]
    refine ⟨(gcdR l : Nat), by omega, fun i => ?_⟩
    by_cases hi : i < l.length
    · rw [map_getD _ l i hi]
      exact (Int.mul_tdiv_cancel' (Int.ofNat_dvd_left.2 ((gcd_fold l 0).2 _ (getD_memI hi)))).symm
    · simp [List.getD_eq_getElem?_getD, show l.length ≤ i by omega]
theorem gpos {g x : Int} (hg : 0 < g) : 0 < g * x ↔ 0 < x := by
  constructor
  · intro h
    rcases Int.lt_or_le 0 x with h1 | h1
    · exact h1
    · have := Int.mul_le_mul_of_nonneg_left h1 (Int.le_of_lt hg)
      rw [Int.mul_zero] at this
      omega
  · exact fun h => Int.mul_pos hg h
/-- So many rows more all begin above 0. -/
def stG (p : List Int) : Nat → List (List Int) → Prop
  | 0, _ => True
  | n + 1, R => 0 < (nextL p R).getD 0 0 ∧ stG p n (R ++ [nextL p R])
theorem tab_st (p : List Int) : ∀ (n : Nat) (R : List (List Int)), R.length + (n + 1) = p.length → (((tabG p (n + 1) R).length = p.length ∧ 0 < ((tabG p (n + 1) R).getD ((tabG p (n + 1) R).length - 1) []).getD 0 0) ↔ stG p (n + 1) R)
  | n, R, h => by
    have hl : (R ++ [nextL p R]).getD ((R ++ [nextL p R]).length - 1) [] = nextL p R := by simp [List.getD_eq_getElem?_getD]
    by_cases h0 : (nextL p R).getD 0 0 ≤ 0
    · have e : tabG p (n + 1) R = R ++ [nextL p R] := if_pos h0
      rw [e, hl]
      exact ⟨fun hx => absurd hx.2 (by omega), fun hx => absurd hx.1 (by omega)⟩
    · have e : tabG p (n + 1) R = tabG p n (R ++ [nextL p R]) := if_neg h0
      rw [e]
      match n, h with
      | 0, h =>
        show ((R ++ [nextL p R]).length = p.length ∧ 0 < ((R ++ [nextL p R]).getD ((R ++ [nextL p R]).length - 1) []).getD 0 0) ↔ _
        rw [hl]
        exact ⟨fun hx => ⟨hx.2, trivial⟩, fun hx => ⟨by simp; omega, hx.1⟩⟩
      | n + 1, h =>
        rw [tab_st p n (R ++ [nextL p R]) (by simp; omega)]
        exact ⟨fun hx => ⟨by omega, hx⟩, fun hx => hx.2⟩
theorem stab_iff {p : List Int} {n : Nat} (h : p.length = n + 1) : stabB p = true ↔ stG p (n + 1) [] := by
  have ht := tab_st p n [] (by simp; omega)
  rw [← ht]
  unfold stabB tabL
  rw [h, Bool.and_eq_true, decide_eq_true_eq, decide_eq_true_eq]
theorem next_of {p : List Int} {R : List (List Int)} {m k n : Nat} (hm : p.length = m) (hk : R.length = k) (hn : rowN m k = n) : nextL p R = redL ((List.range n).map (rowAt p R)) := by
  unfold nextL rawL
  rw [hm, hk, hn]
theorem st2 (a b : Int) : stabB [a, b] = true ↔ 0 < a ∧ 0 < b := by
  rw [stab_iff (n := 1) rfl]
  obtain ⟨g0, p0, h0⟩ := red_pos [a]
  obtain ⟨g1, p1, h1⟩ := red_pos [b]
  have e0 : a = g0 * (redL [a]).getD 0 0 := h0 0
  have e1 : b = g1 * (redL [b]).getD 0 0 := h1 0
  have n0 : nextL [a, b] [] = redL [a] := (next_of (m := 2) (k := 0) (n := 1) rfl rfl (by decide)).trans rfl
  have n1 : ∀ X, nextL [a, b] [X] = redL [b] := fun _ => (next_of (m := 2) (k := 1) (n := 1) rfl rfl (by decide)).trans rfl
  show (0 < (nextL [a, b] []).getD 0 0 ∧ 0 < (nextL [a, b] [nextL [a, b] []]).getD 0 0 ∧ True) ↔ _
  rw [n1, n0]
  rw [e0, e1, gpos p0, gpos p1]
  simp only [and_true, ← e0, ← e1]
theorem st3 (a b c : Int) : stabB [a, b, c] = true ↔ 0 < a ∧ 0 < b ∧ 0 < c := by
  rw [stab_iff (n := 2) rfl]
  obtain ⟨g0, p0, h0⟩ := red_pos [a, c]
  obtain ⟨g1, p1, h1⟩ := red_pos [b]
  have e0 : a = g0 * (redL [a, c]).getD 0 0 := h0 0
  have e2 : c = g0 * (redL [a, c]).getD 1 0 := h0 1
  have e1 : b = g1 * (redL [b]).getD 0 0 := h1 0
  have z1 : (redL [b]).getD 1 0 = 0 := by
    have h := h1 1
    rcases Int.mul_eq_zero.1 h.symm with h | h
    · omega
    · exact h
  have n0 : nextL [a, b, c] [] = redL [a, c] := (next_of (m := 3) (k := 0) (n := 2) rfl rfl (by decide)).trans rfl
  have n1 : ∀ X, nextL [a, b, c] [X] = redL [b] := fun _ => (next_of (m := 3) (k := 1) (n := 1) rfl rfl (by decide)).trans rfl
  have n2 : ∀ X Y : List Int, nextL [a, b, c] [X, Y] = redL [Y.getD 0 0 * X.getD 1 0 - X.getD 0 0 * Y.getD 1 0] := fun _ _ => (next_of (m := 3) (k := 2) (n := 1) rfl rfl (by decide)).trans rfl
  show (0 < (nextL [a, b, c] []).getD 0 0 ∧ 0 < (nextL [a, b, c] [nextL [a, b, c] []]).getD 0 0 ∧ 0 < (nextL [a, b, c] [nextL [a, b, c] [], nextL [a, b, c] [nextL [a, b, c] []]]).getD 0 0 ∧ True) ↔ _
  rw [n2, n1, n0]
  rw [z1, Int.mul_zero, Int.sub_zero]
  obtain ⟨g2, p2, h2⟩ := red_pos [(redL [b]).getD 0 0 * (redL [a, c]).getD 1 0]
  have e3 := h2 0
  generalize (redL [(redL [b]).getD 0 0 * (redL [a, c]).getD 1 0]).getD 0 0 = z at e3 ⊢
  generalize (redL [a, c]).getD 0 0 = x at e0 e2 e3 ⊢
  generalize (redL [a, c]).getD 1 0 = w at e0 e2 e3 ⊢
  generalize (redL [b]).getD 0 0 = y at e1 e3 ⊢
  have e3 : y * w = g2 * z := e3
  subst e0 e1 e2
  rw [gpos p0, gpos p1, gpos p0]
  constructor
  · rintro ⟨q0, q1, q2, _⟩
    exact ⟨q0, q1, (gpos q1).1 (by rw [e3]; exact (gpos p2).2 q2)⟩
  · rintro ⟨q0, q1, q2⟩
    exact ⟨q0, q1, (gpos p2).1 (by rw [← e3]; exact (gpos q1).2 q2), trivial⟩
theorem st4 (a b c d : Int) : stabB [a, b, c, d] = true ↔ 0 < a ∧ 0 < b ∧ 0 < b * c - a * d ∧ 0 < d := by
  rw [stab_iff (n := 3) rfl]
  obtain ⟨g0, p0, h0⟩ := red_pos [a, c]
  obtain ⟨g1, p1, h1⟩ := red_pos [b, d]
  have ea : a = g0 * (redL [a, c]).getD 0 0 := h0 0
  have ec : c = g0 * (redL [a, c]).getD 1 0 := h0 1
  have eb : b = g1 * (redL [b, d]).getD 0 0 := h1 0
  have ed : d = g1 * (redL [b, d]).getD 1 0 := h1 1
  have n0 : nextL [a, b, c, d] [] = redL [a, c] := (next_of (m := 4) (k := 0) (n := 2) rfl rfl (by decide)).trans rfl
  have n1 : ∀ X, nextL [a, b, c, d] [X] = redL [b, d] := fun _ => (next_of (m := 4) (k := 1) (n := 2) rfl rfl (by decide)).trans rfl
  have n2 : ∀ X Y : List Int, nextL [a, b, c, d] [X, Y] = redL [Y.getD 0 0 * X.getD 1 0 - X.getD 0 0 * Y.getD 1 0] := fun _ _ => (next_of (m := 4) (k := 2) (n := 1) rfl rfl (by decide)).trans rfl
  have n3 : ∀ X Y Z : List Int, nextL [a, b, c, d] [X, Y, Z] = redL [Z.getD 0 0 * Y.getD 1 0 - Y.getD 0 0 * Z.getD 1 0] := fun _ _ _ => (next_of (m := 4) (k := 3) (n := 1) rfl rfl (by decide)).trans rfl
  unfold stG
  rw [n0]
  unfold stG
  simp only [List.nil_append]
  rw [n1]
  unfold stG
  simp only [List.cons_append, List.nil_append]
  rw [n2]
  unfold stG
  simp only [List.cons_append, List.nil_append]
  rw [n3]
  unfold stG
  generalize (redL [a, c]).getD 0 0 = x0 at ea ⊢
  generalize (redL [a, c]).getD 1 0 = x1 at ec ⊢
  generalize (redL [b, d]).getD 0 0 = y0 at eb ⊢
  generalize (redL [b, d]).getD 1 0 = y1 at ed ⊢
  obtain ⟨g2, p2, h2⟩ := red_pos [y0 * x1 - x0 * y1]
  have e2 : y0 * x1 - x0 * y1 = g2 * (redL [y0 * x1 - x0 * y1]).getD 0 0 := h2 0
  have z2 : (redL [y0 * x1 - x0 * y1]).getD 1 0 = 0 := by
    have h := h2 1
    rcases Int.mul_eq_zero.1 h.symm with h | h
    · omega
    · exact h
  rw [z2, Int.mul_zero, Int.sub_zero]
  generalize (redL [y0 * x1 - x0 * y1]).getD 0 0 = z at e2 ⊢
  obtain ⟨g3, p3, h3⟩ := red_pos [z * y1]
  have e3 : z * y1 = g3 * (redL [z * y1]).getD 0 0 := h3 0
  generalize (redL [z * y1]).getD 0 0 = u at e3 ⊢
  subst ea eb ec ed
  have e4 : g1 * y0 * (g0 * x1) - g0 * x0 * (g1 * y1) = g0 * g1 * (g2 * z) := by rw [← e2]; grind
  rw [e4, gpos p0, gpos p1, gpos p1, gpos (Int.mul_pos p0 p1), gpos p2]
  constructor
  · rintro ⟨q0, q1, q2, q3, _⟩
    exact ⟨q0, q1, q2, (gpos q2).1 (by rw [e3]; exact (gpos p3).2 q3)⟩
  · rintro ⟨q0, q1, q2, q3⟩
    exact ⟨q0, q1, q2, (gpos p3).1 (by rw [← e3]; exact (gpos q2).2 q3), trivial⟩
theorem st5 (a b c d e : Int) : stabB [a, b, c, d, e] = true ↔ 0 < a ∧ 0 < b ∧ 0 < b * c - a * d ∧ 0 < (b * c - a * d) * d - b * b * e ∧ 0 < e := by
  rw [stab_iff (n := 4) rfl]
  obtain ⟨g0, p0, h0⟩ := red_pos [a, c, e]
  obtain ⟨g1, p1, h1⟩ := red_pos [b, d]
  have ea : a = g0 * (redL [a, c, e]).getD 0 0 := h0 0
  have ec : c = g0 * (redL [a, c, e]).getD 1 0 := h0 1
  have ee : e = g0 * (redL [a, c, e]).getD 2 0 := h0 2
  have eb : b = g1 * (redL [b, d]).getD 0 0 := h1 0
  have ed : d = g1 * (redL [b, d]).getD 1 0 := h1 1
  have z1 : (redL [b, d]).getD 2 0 = 0 := by
    have h := h1 2
    rcases Int.mul_eq_zero.1 h.symm with h | h
    · omega
    · exact h
  have n0 : nextL [a, b, c, d, e] [] = redL [a, c, e] := (next_of (m := 5) (k := 0) (n := 3) rfl rfl (by decide)).trans rfl
  have n1 : ∀ X, nextL [a, b, c, d, e] [X] = redL [b, d] := fun _ => (next_of (m := 5) (k := 1) (n := 2) rfl rfl (by decide)).trans rfl
  unfold stG
  rw [n0]
  unfold stG
  simp only [List.nil_append]
  rw [n1]
  have n2 : nextL [a, b, c, d, e] [redL [a, c, e], redL [b, d]] = redL [(redL [b, d]).getD 0 0 * (redL [a, c, e]).getD 1 0 - (redL [a, c, e]).getD 0 0 * (redL [b, d]).getD 1 0, (redL [b, d]).getD 0 0 * (redL [a, c, e]).getD 2 0 - (redL [a, c, e]).getD 0 0 * (redL [b, d]).getD 2 0] := (next_of (m := 5) (k := 2) (n := 2) rfl rfl (by decide)).trans rfl
  rw [z1, Int.mul_zero, Int.sub_zero] at n2
  unfold stG
  simp only [List.cons_append, List.nil_append]
  rw [n2]
  have n3 : ∀ X Y Z : List Int, nextL [a, b, c, d, e] [X, Y, Z] = redL [Z.getD 0 0 * Y.getD 1 0 - Y.getD 0 0 * Z.getD 1 0] := fun _ _ _ => (next_of (m := 5) (k := 3) (n := 1) rfl rfl (by decide)).trans rfl
  have n4 : ∀ X Y Z U : List Int, nextL [a, b, c, d, e] [X, Y, Z, U] = redL [U.getD 0 0 * Z.getD 1 0 - Z.getD 0 0 * U.getD 1 0] := fun _ _ _ _ => (next_of (m := 5) (k := 4) (n := 1) rfl rfl (by decide)).trans rfl
  unfold stG
  simp only [List.cons_append, List.nil_append]
  rw [n3]
  unfold stG
  simp only [List.cons_append, List.nil_append]
  rw [n4]
  generalize (redL [a, c, e]).getD 0 0 = x0 at ea ⊢
  generalize (redL [a, c, e]).getD 1 0 = x1 at ec ⊢
  generalize (redL [a, c, e]).getD 2 0 = x2 at ee ⊢
  generalize (redL [b, d]).getD 0 0 = y0 at eb ⊢
  generalize (redL [b, d]).getD 1 0 = y1 at ed ⊢
  obtain ⟨g2, p2, h2⟩ := red_pos [y0 * x1 - x0 * y1, y0 * x2]
  have e2 : y0 * x1 - x0 * y1 = g2 * (redL [y0 * x1 - x0 * y1, y0 * x2]).getD 0 0 := h2 0
  have f2 : y0 * x2 = g2 * (redL [y0 * x1 - x0 * y1, y0 * x2]).getD 1 0 := h2 1
  generalize (redL [y0 * x1 - x0 * y1, y0 * x2]).getD 0 0 = z0 at e2 ⊢
  generalize (redL [y0 * x1 - x0 * y1, y0 * x2]).getD 1 0 = zz at f2 ⊢
  obtain ⟨g3, p3, h3⟩ := red_pos [z0 * y1 - y0 * zz]
  have e3 : z0 * y1 - y0 * zz = g3 * (redL [z0 * y1 - y0 * zz]).getD 0 0 := h3 0
  have u1 : (redL [z0 * y1 - y0 * zz]).getD 1 0 = 0 := by
    have h := h3 1
    rcases Int.mul_eq_zero.1 h.symm with h | h
    · omega
    · exact h
  rw [u1, Int.mul_zero, Int.sub_zero]
  generalize (redL [z0 * y1 - y0 * zz]).getD 0 0 = u at e3 ⊢
  obtain ⟨g4, p4, h4⟩ := red_pos [u * zz]
  have e4 : u * zz = g4 * (redL [u * zz]).getD 0 0 := h4 0
  generalize (redL [u * zz]).getD 0 0 = v at e4 ⊢
  subst ea eb ec ed ee
  have q2 : g1 * y0 * (g0 * x1) - g0 * x0 * (g1 * y1) = g0 * g1 * (g2 * z0) := by rw [← e2]; grind
  have q3 : (g1 * y0 * (g0 * x1) - g0 * x0 * (g1 * y1)) * (g1 * y1) - g1 * y0 * (g1 * y0) * (g0 * x2) = g0 * g1 * (g1 * (g2 * (g3 * u))) := by rw [← e3]; grind
  rw [q3, q2, gpos p0, gpos p1, gpos p0, gpos (Int.mul_pos p0 p1), gpos p2, gpos (Int.mul_pos p0 p1), gpos p1, gpos p2, gpos p3]
  constructor
  · rintro ⟨r0, r1, r2, r3, r4, _⟩
    have s1 : 0 < zz := (gpos r3).1 (by rw [e4]; exact (gpos p4).2 r4)
    exact ⟨r0, r1, r2, r3, (gpos r1).1 (by rw [f2]; exact (gpos p2).2 s1)⟩
  · rintro ⟨r0, r1, r2, r3, r4⟩
    have s1 : 0 < zz := (gpos p2).1 (by rw [← f2]; exact (gpos r1).2 r4)
    exact ⟨r0, r1, r2, r3, (gpos p4).1 (by rw [← e4]; exact (gpos r3).2 s1), trivial⟩
end Go.Tr

/- Plain laws: shifted there and back; products of roots. Conditions: none. -/
namespace Go.Tr
open Go Go.Proofs
set_option maxRecDepth 20000
set_option maxHeartbeats 8000000

theorem shP_back (t : Int) (l : List Int) (h : 2 ≤ l.length ∧ l.length ≤ 5) : shP (-t) (shP t l) = l := by
  match l, h with
  | [a, b], _ =>
    simp [shP, shG, passG]
    try grind
  | [a, b, c], _ =>
    simp [shP, shG, passG]
    try grind
  | [a, b, c, d], _ =>
    simp [shP, shG, passG]
    try grind
  | [a, b, c, d, e], _ =>
    simp [shP, shG, passG]
    try grind
  | [], h => simp at h
  | [_], h => simp at h
  | _ :: _ :: _ :: _ :: _ :: _ :: _, h => simp at h
/-- Horner's value. -/
def hornL (t : Int) (l : List Int) : Int := l.foldl (fun a x => a * t + x) 0
theorem hornL_snoc (t : Int) (l : List Int) (x : Int) : hornL t (l ++ [x]) = hornL t l * t + x := by simp [hornL]
theorem shP_last (t : Int) (l : List Int) (h : 2 ≤ l.length ∧ l.length ≤ 5) : (shP t l).getD (l.length - 1) 0 = hornL t l := by
  match l, h with
  | [a, b], _ =>
    simp [shP, shG, passG, hornL]
    try grind
  | [a, b, c], _ =>
    simp [shP, shG, passG, hornL]
    try grind
  | [a, b, c, d], _ =>
    simp [shP, shG, passG, hornL]
    try grind
  | [a, b, c, d, e], _ =>
    simp [shP, shG, passG, hornL]
    try grind
  | [], h => simp at h
  | [_], h => simp at h
  | _ :: _ :: _ :: _ :: _ :: _ :: _, h => simp at h
theorem shP_first (t : Int) (l : List Int) (h : 2 ≤ l.length ∧ l.length ≤ 5) : (shP t l).getD 0 0 = l.getD 0 0 := by
  match l, h with
  | [a, b], _ => simp [shP, shG, passG]
  | [a, b, c], _ => simp [shP, shG, passG]
  | [a, b, c, d], _ => simp [shP, shG, passG]
  | [a, b, c, d, e], _ => simp [shP, shG, passG]
  | [], h => simp at h
  | [_], h => simp at h
  | _ :: _ :: _ :: _ :: _ :: _ :: _, h => simp at h
theorem poly_of {l : List Int} (h2 : 2 ≤ l.length ∧ l.length ≤ 5) (hc : coefsE l = 0) (h0 : 0 < l.getD 0 0) : polyE l = 0 := by
  unfold polyE
  have : shapeE l.length = 0 := by unfold shapeE; (repeat' split) <;> omega
  rw [if_neg (not_not_intro this), if_neg (not_not_intro hc), if_pos h0]
theorem sh_poly {t : Int} {l : List Int} (hp : PolyOk l) (h : shE t l = 0) : (-10 ≤ t ∧ t ≤ 10) ∧ polyE (shP t l) = 0 := by
  unfold shE at h
  by_cases ht : -10 ≤ t ∧ t ≤ 10
  · rw [if_neg (not_not_intro ht)] at h
    by_cases hc : coefsE (shP t l) = 0
    · refine ⟨ht, poly_of (by rw [shP_len]; exact hp.p2) hc ?_⟩
      rw [shP_first t l hp.p2]
      exact hp.p0
    · rw [if_pos hc] at h; omega
  · rw [if_pos ht] at h; omega
/-- Times x minus a root. -/
def mxS (r : Int) (s : List Int) : Nat → Nat → List Int → List Int
  | 0, _, c => c
  | n + 1, j, c => mxS r s n (j + 1) (c.set (j + 1) (c.getD (j + 1) 0 - r * s.getD j 0))
def mulR (r : Int) (P : List Int) : List Int := mxS r P P.length 0 (P ++ [0])
def prodL (L : List Int) : List Int := L.foldl (fun P r => mulR r P) [1]
def nearL (L : List Int) : Int := L.foldl max (-8)
theorem prodL_snoc (L : List Int) (r : Int) : prodL (L ++ [r]) = mulR r (prodL L) := by simp [prodL]
theorem nearL_snoc (L : List Int) (r : Int) : nearL (L ++ [r]) = max (nearL L) r := by simp [nearL]
theorem mxS_len (r : Int) (s : List Int) : ∀ (n j : Nat) (c : List Int), (mxS r s n j c).length = c.length
  | 0, _, _ => rfl
  | n + 1, j, c => by unfold mxS; rw [mxS_len r s n, List.length_set]
def chkR (L : List Int) : Bool := decide (polyE (prodL L) = 0) && stabB (prodL L) && decide ((marF (prodL L) 10 : Int) = -nearL L - 1)
def allR : Bool := (List.range 8).all fun i => chkR [-((i : Int) + 1)] && ((List.range 8).all fun j => chkR [-((i : Int) + 1), -((j : Int) + 1)] && ((List.range 8).all fun k => chkR [-((i : Int) + 1), -((j : Int) + 1), -((k : Int) + 1)]))
theorem all_chk : allR = true := by decide +kernel
theorem chk_of {L : List Int} (hn : L ≠ []) (h3 : L.length ≤ 3) (hr : ∀ x ∈ L, -8 ≤ x ∧ x ≤ -1) : chkR L = true := by
  have hx : ∀ x : Int, -8 ≤ x ∧ x ≤ -1 → ∃ i : Nat, i ∈ List.range 8 ∧ x = -((i : Int) + 1) := fun x hx => ⟨(-x - 1).toNat, List.mem_range.2 (by omega), by omega⟩
  have h1 : ∀ i : Nat, i ∈ List.range 8 → (chkR [-((i : Int) + 1)] && ((List.range 8).all fun j => chkR [-((i : Int) + 1), -((j : Int) + 1)] && ((List.range 8).all fun k => chkR [-((i : Int) + 1), -((j : Int) + 1), -((k : Int) + 1)]))) = true := fun i hi => List.all_eq_true.1 all_chk i hi
  have h2 : ∀ i j : Nat, i ∈ List.range 8 → j ∈ List.range 8 → (chkR [-((i : Int) + 1), -((j : Int) + 1)] && ((List.range 8).all fun k => chkR [-((i : Int) + 1), -((j : Int) + 1), -((k : Int) + 1)])) = true := fun i j hi hj => List.all_eq_true.1 (Bool.and_eq_true_iff.1 (h1 i hi)).2 j hj
  have h3' : ∀ i j k : Nat, i ∈ List.range 8 → j ∈ List.range 8 → k ∈ List.range 8 → chkR [-((i : Int) + 1), -((j : Int) + 1), -((k : Int) + 1)] = true := fun i j k hi hj hk => List.all_eq_true.1 (Bool.and_eq_true_iff.1 (h2 i j hi hj)).2 k hk
  match L, hn, h3 with
  | [a], _, _ =>
    obtain ⟨i, hi, rfl⟩ := hx a (hr a (by simp))
    exact (Bool.and_eq_true_iff.1 (h1 i hi)).1
  | [a, b], _, _ =>
    obtain ⟨i, hi, rfl⟩ := hx a (hr a (by simp))
    obtain ⟨j, hj, rfl⟩ := hx b (hr b (by simp))
    exact (Bool.and_eq_true_iff.1 (h2 i j hi hj)).1
  | [a, b, c], _, _ =>
    obtain ⟨i, hi, rfl⟩ := hx a (hr a (by simp))
    obtain ⟨j, hj, rfl⟩ := hx b (hr b (by simp))
    obtain ⟨k, hk, rfl⟩ := hx c (hr c (by simp))
    exact h3' i j k hi hj hk
  | [], hn, _ => exact absurd rfl hn
  | _ :: _ :: _ :: _ :: _, _, h3 => simp at h3
end Go.Tr

/- The law GovernorShifts returns true. Conditions: none. -/
namespace Go.Tr
open Go Go.Proofs
set_option maxRecDepth 20000
set_option maxHeartbeats 8000000

theorem S21w (l : List Int) (hl : l.length ≤ 9223372036854775807) : SP 21 [ints l] (i64 (polyE l)) false := by
  by_cases h : l.length ≤ 1000000
  · exact S21 l h
  · have h97 := S97 l.length
    have hs : shapeE l.length = 8 := by unfold shapeE; (repeat' split) <;> omega
    have hp : polyE l = 8 := by unfold polyE; rw [hs, if_pos (by decide)]
    rw [hs] at h97
    rw [hp]
    refine sound (d := 2) tok2 mixed2 Tryz.func21 (by kernel_rfl) (by kernel_rfl) ?_
    conv => whnf
    refine .inl ⟨_, _, byX rfl (Sound1.pl (h97) rfl), ?_⟩
    conv => whnf
    refine ⟨?_, nofun⟩
    rfl
theorem ints_n {P : List Int} {n : Nat} (h : P.length = n) : ints P = .rslice 1 n fun i => [i64 (P.getD i 0)] := by
  subst h; rfl
theorem horn_sml {t : Int} {l : List Int} (ht : t.natAbs ≤ 10) (h : Sml 1000 l) : ∀ i, i ≤ l.length → (hornL t (l.take i)).natAbs ≤ 1000 * 11 ^ i
  | 0, _ => by simp [hornL]
  | i + 1, hi => by
    rw [take_snocI (show i < l.length by omega), hornL_snoc]
    have e1 := horn_sml ht h i (by omega)
    have e2 := mul_sml e1 ht
    have e3 : (l.getD i 0).natAbs ≤ 1000 := h _ (getD_memI (by omega))
    have e4 := Nat.one_le_pow i 11 (by decide)
    rw [Nat.pow_succ]
    omega
theorem S15a (p : List Int) (t : Int) (roots : List Int) (hpl : p.length ≤ 9223372036854775807) (hrl : roots.length ≤ 9223372036854775807) (h0 : polyE p = 0) (he : shE t p = 0) : SP 15 [ints p, i64 t, ints roots] (vb true) false := by
  have hp := PolyOk.of h0
  have hpn := hp.len
  have hp1 : p.length ≤ 1000000 := by omega
  have h21 := S21w p hpl
  rw [h0] at h21
  have h19 := S19 p hp1
  have h83 := S83 p t hp1
  have hE : shftE t p = shE t p := if_pos h0
  rw [hE] at h83
  have hs := sh_poly hp he
  have hta : t.natAbs ≤ 10 := by omega
  have hq := PolyOk.of hs.2
  have hql := shP_len t p
  rw [he, if_pos rfl] at h83
  have h21q := S21w (shP t p) (by omega)
  rw [hs.2] at h21q
  refine sound (d := 2) tok2 mixed2 Tryz.func15 (by kernel_rfl) (by kernel_rfl) ?_
  conv => whnf
  refine .inl ⟨_, _, byX rfl (Sound1.pl (S16) rfl), ?_⟩
  conv => whnf
  refine .inl ⟨_, _, byX rfl (Sound1.pl (h21) rfl), ?_⟩
  conv => whnf
  refine .inl ⟨_, _, byX rfl (h19), ?_⟩
  conv => whnf
  refine .inl ⟨_, _, byX rfl (h83), ?_⟩
  conv => whnf
  refine .inl ⟨_, _, byX rfl (Sound1.pl (h21q) rfl), ?_⟩
  conv => whnf
  refine ifB_bne (fun w1 => ?_) (fun w1 => ?_)
  · (exfalso; omega)
  · · conv => whnf
      refine ⟨[], [0, 1, 2, 7, 9, 10], fun st mq => ∃ (i : Nat) (a : Int), (i ≤ p.length) ∧ (a = hornL t (p.take i)) ∧ st = ⟨[(0, ints p), (1, i64 t), (2, ints roots), (7, ints (shP t p)), (9, i64 a), (10, i64 i)], ⟨[], [], none, 0⟩, []⟩ ∧ mq = p.length - i,
        ⟨_, _, ⟨0, 0, by omega, rfl, rfl, rfl⟩, ⟨⟨.inl rfl, rfl, rfl, rfl⟩, trivial, trivial⟩⟩, ?_⟩
      rintro s0 m0 ⟨i, a, hi, ha, rfl, hmeas⟩
      have hh := horn_sml hta hp.ps i hi
      rw [← ha] at hh
      have hi11 : 1000 * 11 ^ i ≤ 161051000 := by
        have : 11 ^ i ≤ 11 ^ 5 := Nat.pow_le_pow_right (by decide) (by have := hp.p2; omega)
        omega
      by_cases hlt : i < p.length
      · have e1 := mul_sml hh hta
        have e3 : (p.getD i 0).natAbs ≤ 1000 := hp.ps _ (getD_memI hlt)
        have e3' : (p.getD (i : Int).toNat 0).natAbs ≤ 1000 := e3
        conv => whnf
        conv => whnf
        refine ifB_dec (fun w2 => ?_) (fun w2 => ?_)
        · conv => whnf
          conv => whnf
          refine ⟨inK64 (by omega) (by omega), ?_⟩
          conv => whnf
          conv => whnf
          refine ⟨⟨(by omega), (by omega)⟩, ?_⟩
          conv => whnf
          conv => whnf
          refine ⟨inK64 (by omega) (by omega), ?_⟩
          conv => whnf
          conv => whnf
          refine ⟨inK64 (by omega) (by omega), ?_⟩
          conv => whnf
          conv => whnf
          refine ⟨_, _, ⟨⟨i + 1, a * t + p.getD i 0, by omega, (by rw [take_snocI hlt, hornL_snoc, ha]), rfl, rfl⟩, by omega⟩, ⟨⟨.inl rfl, rfl, rfl, rfl⟩, trivial, trivial⟩⟩
        · (exfalso; omega)
      · have e : i = p.length := by omega
        subst e
        rw [List.take_length] at ha
        have hE2 : shE (-t) (shP t p) = 0 := by
          unfold shE
          rw [if_neg (not_not_intro (by omega)), shP_back t p hp.p2, if_neg (not_not_intro (coefs_of h0))]
        have h83b := S83 (shP t p) (-t) (by omega)
        have hE3 : shftE (-t) (shP t p) = shE (-t) (shP t p) := if_pos hs.2
        rw [hE3, hE2, if_pos rfl, shP_back t p hp.p2] at h83b
        have h19q := S19 (shP t p) (by omega)
        have h26 := S26 p p (by omega) (by omega)
        rw [decide_eq_true rfl] at h26
        have hlast := shP_last t p hp.p2
        rw [← ha] at hlast
        have hl2 : (((shP t p).length : Int) - 1).toNat = p.length - 1 := by omega
        rw [← hl2] at hlast
        have hp2 := hp.p2
        conv => whnf
        conv => whnf
        refine ifB_dec (fun w2 => ?_) (fun w2 => ?_)
        · (exfalso; omega)
        · conv => whnf
          conv => whnf
          refine .inl ⟨_, _, byX rfl (h19q), ?_⟩
          conv => whnf
          conv => whnf
          refine ⟨inK64 (by omega) (by omega), ?_⟩
          conv => whnf
          conv => whnf
          refine .inl ⟨_, _, byX rfl (h83b), ?_⟩
          conv => whnf
          conv => whnf
          refine .inl ⟨_, _, byX rfl (Sound1.pl (h26) rfl), ?_⟩
          conv => whnf
          conv => whnf
          refine ⟨inK64 (by omega) (by omega), ?_⟩
          conv => whnf
          conv => whnf
          refine ⟨⟨(by omega), (by omega)⟩, ?_⟩
          conv => whnf
          conv => whnf
          refine ifB_bne (fun w3 => ?_) (fun w3 => ?_)
          · (exfalso; omega)
          · conv => whnf
            conv => whnf
            refine ifB_beq (fun w4 => ?_) (fun w4 => ?_)
            · conv => whnf
              conv => whnf
              refine ⟨?_, nofun⟩
              (rfl)
            · conv => whnf
              conv => whnf
              refine ifB_dec (fun w5 => ?_) (fun w5 => ?_)
              · conv => whnf
                conv => whnf
                refine ⟨?_, nofun⟩
                (rfl)
              · conv => whnf
                conv => whnf
                refine ⟨[.freeze 13], [2, 13, 14, 15], fun st mq => ∃ (i : Nat) (P : List Int) (nr : Int) (u : Nat), (i ≤ roots.length) ∧ (P = prodL (roots.take i)) ∧ (nr = nearL (roots.take i)) ∧ (P.length = i + 1) ∧ (∀ x ∈ roots.take i, -8 ≤ x ∧ x ≤ -1) ∧ (Sml (9 ^ u) P) ∧ (u = tri i) ∧ st = ⟨[(2, ints roots), (13, .rslice 1 (i + 1) fun k => [i64 (P.getD k 0)]), (14, i64 nr), (15, i64 i)], ⟨[⟨1, 1, fun _ => [i64 1], 0, true, true, true⟩], [], none, 0⟩, []⟩ ∧ mq = roots.length - i,
                  ⟨_, _, ⟨0, [1], -8, 0, by omega, rfl, rfl, rfl, (fun x hx => absurd hx (by simp)), (fun x hx => by rw [List.mem_singleton.1 hx]; decide), rfl, rfl, rfl⟩, ⟨⟨.inr ⟨rfl, .inl rfl, ⟨rfl, .inr (⟨rfl, rfl, fun k hk => (by have hk1 : k < 1 := hk; rw [show k = 0 by omega]; exact .inl rfl)⟩), ⟨rfl, .inl rfl, ⟨rfl, .inl rfl, trivial⟩⟩⟩⟩, rfl, rfl, rfl⟩, ⟨⟨rfl, rfl, rfl, rfl, fun _ => rfl, fun k hk => .inl ((by have hk1 : k < 1 := hk; rw [show k = 0 by omega]; rfl))⟩, trivial⟩, trivial⟩⟩, ?_⟩
                rintro s0 m0 ⟨i, P, nr, u, hi, hP, hn, hl, hr, hS, hu, rfl, hmeas⟩
                have hu3 : tri i ≤ 6 := by
                  have : i = 0 ∨ i = 1 ∨ i = 2 ∨ i = 3 := by omega
                  rcases this with e | e | e | e <;> rw [e] <;> decide
                have hpow : 9 ^ u ≤ 531441 := Nat.pow_le_pow_right (show 0 < 9 by decide) (show u ≤ 6 by omega)
                by_cases hlt : i < roots.length
                · have h68r := S68 (roots.getD (0 + (i : Int).toNat) 0) (-8) (-1)
                  have h19r := S19x P (by omega)
                  rw [ints_n hl] at h19r
                  have htk := take_snocI hlt
                  have e0 : 0 + (i : Int).toNat = i := by omega
                  by_cases hrt : -8 ≤ roots.getD i 0 ∧ roots.getD i 0 ≤ -1
                  · have hrt' : -8 ≤ roots.getD (i : Int).toNat 0 ∧ roots.getD (i : Int).toNat 0 ≤ -1 := hrt
                    have hi3 : tri i ≤ 3 := by
                      have : i = 0 ∨ i = 1 ∨ i = 2 := by omega
                      rcases this with e | e | e <;> rw [e] <;> decide
                    conv => whnf
                    conv => whnf
                    conv => whnf
                    refine ifB_dec (fun w6 => ?_) (fun w6 => ?_)
                    · conv => whnf
                      conv => whnf
                      conv => whnf
                      refine ⟨⟨(by omega), (by omega)⟩, ?_⟩
                      conv => whnf
                      conv => whnf
                      conv => whnf
                      refine .inl ⟨_, _, byX rfl (Sound1.pl (S68 _ _ _) rfl), ?_⟩
                      conv => whnf
                      conv => whnf
                      conv => whnf
                      refine ifB_not ?_
                      conv => whnf
                      conv => whnf
                      conv => whnf
                      refine ifB_dec (fun w7 => ?_) (fun w7 => ?_)
                      · conv => whnf
                        conv => whnf
                        conv => whnf
                        refine ⟨⟨(by omega), (by omega)⟩, ?_⟩
                        conv => whnf
                        conv => whnf
                        conv => whnf
                        refine .inl ⟨_, _, byX rfl (h19r), ?_⟩
                        conv => whnf
                        conv => whnf
                        conv => whnf
                        refine .inl ?_
                        conv => whnf
                        conv => whnf
                        conv => whnf
                        refine ⟨(by show _ * (8 + 1) ≤ _; omega), ?_⟩
                        conv => whnf
                        conv => whnf
                        conv => whnf
                        refine ⟨[], [2, 13, 14, 15, 16, 17], fun st mq => ∃ (j : Nat) (m : Nat) (c : List Int) (v : Nat) (n2 : Int) (F2 : Nat → List AV), (j + m = i + 1) ∧ (c.length = i + 2) ∧ (Sml (9 ^ v) c) ∧ (v = u + j) ∧ (n2 = max nr (roots.getD i 0)) ∧ (mxS (roots.getD i 0) P m j c = mulR (roots.getD i 0) P) ∧ st = ⟨[(2, ints roots), (13, .rslice 1 (i + 1) fun k => [i64 (P.getD k 0)]), (14, i64 n2), (15, i64 i), (16, .oslice 1 0 0 (i + 1 + 1) none), (17, i64 j)], ⟨[⟨1, 1, fun _ => [i64 1], 0, true, true, true⟩, ⟨1, i + 1 + 1, fun k => [i64 (c.getD k 0)], 0, false, true, false⟩, ⟨1, 1, F2, 0, false, true, false⟩], [], none, 0⟩, []⟩ ∧ mq = m,
                          ⟨_, _, ⟨0, i + 1, P ++ [0], u, (if roots.getD (i : Int).toNat 0 > nr then roots.getD (i : Int).toNat 0 else nr), _, by omega, by simp [hl], (fun x hx => by rcases List.mem_append.1 hx with h | h; exact hS x h; rw [List.mem_singleton.1 h]; simp), rfl, (show (if roots.getD i 0 > nr then roots.getD i 0 else nr) = max nr (roots.getD i 0) by rw [Int.max_def]; (repeat' split) <;> omega), (by unfold mulR; rw [hl]), rfl, rfl⟩, ⟨⟨.inl rfl, rfl, rfl, rfl⟩, ⟨⟨rfl, rfl, rfl, rfl, fun _ => rfl, fun _ _ => .inl rfl⟩, ⟨⟨rfl, rfl, rfl, rfl, fun _ => rfl, fun k hk => .inl (app_row P 0 (i + 1) k hl hk)⟩, ⟨⟨rfl, rfl, rfl, rfl, fun _ => rfl, fun _ _ => .inl rfl⟩, trivial⟩⟩⟩, trivial⟩⟩, ?_⟩
                        rintro s0 m0 ⟨j, m, c, v, n2, F2, hj, hc, hT, hv, hn2, hM, rfl, hmeas⟩
                        by_cases hm : m = 0
                        · subst hm
                          have hM2 : c = mulR (roots.getD i 0) P := hM
                          conv => whnf
                          conv => whnf
                          conv => whnf
                          conv => whnf
                          refine ifB_dec (fun w8 => ?_) (fun w8 => ?_)
                          · (exfalso; omega)
                          · conv => whnf
                            conv => whnf
                            conv => whnf
                            conv => whnf
                            refine ⟨inK64 (by omega) (by omega), ?_⟩
                            conv => whnf
                            conv => whnf
                            conv => whnf
                            conv => whnf
                            refine ⟨_, _, ⟨⟨i + 1, c, n2, u + (i + 1), by omega, (by rw [htk, prodL_snoc, ← hP]; exact hM2), (by rw [htk, nearL_snoc, ← hn]; exact hn2), by omega, (by rw [htk]; intro x hx; rcases List.mem_append.1 hx with h | h; exact hr x h; rw [List.mem_singleton.1 h]; exact hrt), (by rw [show u + (i + 1) = v by omega]; exact hT), (by rw [hu]; rfl), rfl, rfl⟩, by omega⟩, ⟨⟨.inl rfl, rfl, rfl, rfl⟩, ⟨⟨rfl, rfl, rfl, rfl, fun _ => rfl, fun _ _ => .inl rfl⟩, trivial⟩, trivial⟩⟩
                        · obtain ⟨q, rfl⟩ : ∃ q, m = q + 1 := ⟨m - 1, by omega⟩
                          have hv6 : 9 ^ v ≤ 531441 := Nat.pow_le_pow_right (show 0 < 9 by decide) (show v ≤ 6 by omega)
                          have huv : 9 ^ u ≤ 9 ^ v := Nat.pow_le_pow_right (show 0 < 9 by decide) (show u ≤ v by omega)
                          have e1 : 0 + ((j : Int) + 1).toNat = j + 1 := by omega
                          have b1 : (c.getD (j + 1) 0).natAbs ≤ 9 ^ v := ent_sml hT (j + 1)
                          have b2 : (P.getD j 0).natAbs ≤ 9 ^ v := Nat.le_trans (ent_sml hS j) huv
                          have b0 : (roots.getD (i : Int).toNat 0).natAbs ≤ 8 := by
                            have : (roots.getD i 0).natAbs ≤ 8 := by omega
                            exact this
                          have b2' : (P.getD (j : Int).toNat 0).natAbs ≤ 9 ^ v := b2
                          have b3 := mul_sml b0 b2'
                          rw [← e1] at b1
                          have hn9 : Sml (9 ^ (v + 1)) (c.set ((j : Int) + 1).toNat (c.getD (0 + ((j : Int) + 1).toNat) 0 - roots.getD (i : Int).toNat 0 * P.getD (j : Int).toNat 0)) := fun x hx => by
                            rw [Nat.pow_succ]
                            rcases List.mem_or_eq_of_mem_set hx with hx | hx
                            · have := hT x hx; omega
                            · rw [hx]; omega
                          have hM3 : mxS (roots.getD i 0) P q (j + 1) (c.set ((j : Int) + 1).toNat (c.getD (0 + ((j : Int) + 1).toNat) 0 - roots.getD (i : Int).toNat 0 * P.getD (j : Int).toNat 0)) = mulR (roots.getD i 0) P := by
                            rw [e1, show ((j : Int) + 1).toNat = j + 1 by omega]
                            exact hM
                          conv => whnf
                          conv => whnf
                          conv => whnf
                          conv => whnf
                          refine ifB_dec (fun w8 => ?_) (fun w8 => ?_)
                          · conv => whnf
                            conv => whnf
                            conv => whnf
                            conv => whnf
                            refine ⟨[], by kernel_rfl, ?_⟩
                            conv => whnf
                            conv => whnf
                            conv => whnf
                            conv => whnf
                            refine ⟨inK64 (by omega) (by omega), ?_⟩
                            conv => whnf
                            conv => whnf
                            conv => whnf
                            conv => whnf
                            refine ⟨inK64 (by omega) (by omega), ?_⟩
                            conv => whnf
                            conv => whnf
                            conv => whnf
                            conv => whnf
                            refine ⟨⟨(by omega), (by omega)⟩, ?_⟩
                            conv => whnf
                            conv => whnf
                            conv => whnf
                            conv => whnf
                            refine ⟨⟨(by omega), (by omega)⟩, ?_⟩
                            conv => whnf
                            conv => whnf
                            conv => whnf
                            conv => whnf
                            refine ⟨⟨(by omega), (by omega)⟩, ?_⟩
                            conv => whnf
                            conv => whnf
                            conv => whnf
                            conv => whnf
                            refine ⟨inK64 (by omega) (by omega), ?_⟩
                            conv => whnf
                            conv => whnf
                            conv => whnf
                            conv => whnf
                            refine ⟨inK64 (by omega) (by omega), ?_⟩
                            conv => whnf
                            conv => whnf
                            conv => whnf
                            conv => whnf
                            refine ⟨⟨(by omega), (by omega)⟩, ?_⟩
                            refine ⟨_, fun i _ => rowI _ _ i _ (by first | omega | (simp only [List.length_set]; omega) | (simp only [List.length_replicate]; omega) | (simp only [List.length_set, List.length_replicate]; omega)), ?_⟩
                            conv => whnf
                            conv => whnf
                            conv => whnf
                            conv => whnf
                            refine ⟨inK64 (by omega) (by omega), ?_⟩
                            conv => whnf
                            conv => whnf
                            conv => whnf
                            conv => whnf
                            refine ⟨_, _, ⟨⟨j + 1, q, c.set ((j : Int) + 1).toNat (c.getD (0 + ((j : Int) + 1).toNat) 0 - roots.getD (i : Int).toNat 0 * P.getD (j : Int).toNat 0), v + 1, n2, _, by omega, (by rw [List.length_set]; exact hc), hn9, by omega, hn2, hM3, rfl, rfl⟩, by omega⟩, ⟨⟨.inl rfl, rfl, rfl, rfl⟩, ⟨⟨rfl, rfl, rfl, rfl, fun _ => rfl, fun _ _ => .inl rfl⟩, ⟨⟨rfl, rfl, rfl, rfl, fun _ => rfl, fun _ _ => .inl rfl⟩, ⟨⟨rfl, rfl, rfl, rfl, fun _ => rfl, fun _ _ => .inl rfl⟩, trivial⟩⟩⟩, trivial⟩⟩
                          · (exfalso; omega)
                      · (exfalso; omega)
                    · (exfalso; omega)
                  · have hrt' : ¬(-8 ≤ roots.getD (i : Int).toNat 0 ∧ roots.getD (i : Int).toNat 0 ≤ -1) := hrt
                    conv => whnf
                    conv => whnf
                    conv => whnf
                    refine ifB_dec (fun w6 => ?_) (fun w6 => ?_)
                    · conv => whnf
                      conv => whnf
                      conv => whnf
                      refine ⟨⟨(by omega), (by omega)⟩, ?_⟩
                      conv => whnf
                      conv => whnf
                      conv => whnf
                      refine .inl ⟨_, _, byX rfl (Sound1.pl (S68 _ _ _) rfl), ?_⟩
                      conv => whnf
                      conv => whnf
                      conv => whnf
                      refine ifB_not ?_
                      conv => whnf
                      conv => whnf
                      conv => whnf
                      refine ifB_dec (fun w7 => ?_) (fun w7 => ?_)
                      · (exfalso; omega)
                      · conv => whnf
                        conv => whnf
                        conv => whnf
                        refine ⟨?_, nofun⟩
                        (first | contradiction | rfl)
                    · (exfalso; omega)
                · have e : i = roots.length := by omega
                  subst e
                  rw [List.take_length] at hP hn hr
                  have hne : roots.length ≠ 0 := by omega
                  have hmar := mar_le P 10
                  have hck := chk_of (L := roots) (fun e => hne (by rw [e]; rfl)) (by omega) hr
                  unfold chkR at hck
                  simp only [Bool.and_eq_true, decide_eq_true_eq] at hck
                  rw [← hP, ← hn] at hck
                  obtain ⟨⟨c1, c2⟩, c3⟩ := hck
                  have h19e := S19 P (by omega)
                  have h84 := S84 P (by omega)
                  have h37 := S37 P (by omega)
                  rw [c1, c2, if_pos rfl, if_pos rfl, if_pos rfl, if_pos rfl, c3] at h84
                  rw [c1, c2, if_pos rfl] at h37
                  rw [ints_n hl] at h19e h84 h37
                  conv => whnf
                  conv => whnf
                  conv => whnf
                  refine ifB_dec (fun w6 => ?_) (fun w6 => ?_)
                  · (exfalso; omega)
                  · conv => whnf
                    conv => whnf
                    conv => whnf
                    refine .inl ⟨_, _, byX rfl (h19e), ?_⟩
                    conv => whnf
                    conv => whnf
                    conv => whnf
                    refine .inl ⟨_, _, byX rfl (Sound1.pl (h84) rfl), ?_⟩
                    conv => whnf
                    conv => whnf
                    conv => whnf
                    refine .inl ⟨_, _, byX rfl (Sound1.pl (h37) rfl), ?_⟩
                    conv => whnf
                    conv => whnf
                    conv => whnf
                    refine ⟨inK64 (by omega) (by omega), ?_⟩
                    conv => whnf
                    conv => whnf
                    conv => whnf
                    refine ⟨inK64 (by omega) (by omega), ?_⟩
                    conv => whnf
                    conv => whnf
                    conv => whnf
                    refine ⟨?_, nofun⟩
                    exact endb (beq_iff_eq.2 rfl)
theorem S15b (p : List Int) (t : Int) (roots : List Int) (hpl : p.length ≤ 9223372036854775807) (hrl : roots.length ≤ 9223372036854775807) (h0 : polyE p = 0) (he : shE t p = 2) : SP 15 [ints p, i64 t, ints roots] (vb true) false := by
  have hp := PolyOk.of h0
  have hpn := hp.len
  have hp1 : p.length ≤ 1000000 := by omega
  have h21 := S21w p hpl
  rw [h0] at h21
  have h19 := S19 p hp1
  have h83 := S83 p t hp1
  have hE : shftE t p = shE t p := if_pos h0
  rw [hE] at h83
  rw [he, if_neg (by decide)] at h83
  refine sound (d := 2) tok2 mixed2 Tryz.func15 (by kernel_rfl) (by kernel_rfl) ?_
  conv => whnf
  refine .inl ⟨_, _, byX rfl (Sound1.pl (S16) rfl), ?_⟩
  conv => whnf
  refine .inl ⟨_, _, byX rfl (Sound1.pl (h21) rfl), ?_⟩
  conv => whnf
  refine .inl ⟨_, _, byX rfl (h19), ?_⟩
  conv => whnf
  refine .inl ⟨_, _, byX rfl (h83), ?_⟩
  conv => whnf
  refine ifB_beq (fun w1 => ?_) (fun w1 => ?_)
  · conv => whnf
    refine ⟨?_, nofun⟩
    (rfl)
  · conv => whnf
    refine ifB_dec (fun w2 => ?_) (fun w2 => ?_)
    · conv => whnf
      refine ⟨?_, nofun⟩
      (rfl)
    · conv => whnf
      refine ⟨[.freeze 13], [2, 13, 14, 15], fun st mq => ∃ (i : Nat) (P : List Int) (nr : Int) (u : Nat), (i ≤ roots.length) ∧ (P = prodL (roots.take i)) ∧ (nr = nearL (roots.take i)) ∧ (P.length = i + 1) ∧ (∀ x ∈ roots.take i, -8 ≤ x ∧ x ≤ -1) ∧ (Sml (9 ^ u) P) ∧ (u = tri i) ∧ st = ⟨[(2, ints roots), (13, .rslice 1 (i + 1) fun k => [i64 (P.getD k 0)]), (14, i64 nr), (15, i64 i)], ⟨[⟨1, 1, fun _ => [i64 1], 0, true, true, true⟩], [], none, 0⟩, []⟩ ∧ mq = roots.length - i,
        ⟨_, _, ⟨0, [1], -8, 0, by omega, rfl, rfl, rfl, (fun x hx => absurd hx (by simp)), (fun x hx => by rw [List.mem_singleton.1 hx]; decide), rfl, rfl, rfl⟩, ⟨⟨.inr ⟨rfl, .inl rfl, ⟨rfl, .inr (⟨rfl, rfl, fun k hk => (by have hk1 : k < 1 := hk; rw [show k = 0 by omega]; exact .inl rfl)⟩), ⟨rfl, .inl rfl, ⟨rfl, .inl rfl, trivial⟩⟩⟩⟩, rfl, rfl, rfl⟩, ⟨⟨rfl, rfl, rfl, rfl, fun _ => rfl, fun k hk => .inl ((by have hk1 : k < 1 := hk; rw [show k = 0 by omega]; rfl))⟩, trivial⟩, trivial⟩⟩, ?_⟩
      rintro s0 m0 ⟨i, P, nr, u, hi, hP, hn, hl, hr, hS, hu, rfl, hmeas⟩
      have hu3 : tri i ≤ 6 := by
        have : i = 0 ∨ i = 1 ∨ i = 2 ∨ i = 3 := by omega
        rcases this with e | e | e | e <;> rw [e] <;> decide
      have hpow : 9 ^ u ≤ 531441 := Nat.pow_le_pow_right (show 0 < 9 by decide) (show u ≤ 6 by omega)
      by_cases hlt : i < roots.length
      · have h68r := S68 (roots.getD (0 + (i : Int).toNat) 0) (-8) (-1)
        have h19r := S19x P (by omega)
        rw [ints_n hl] at h19r
        have htk := take_snocI hlt
        have e0 : 0 + (i : Int).toNat = i := by omega
        by_cases hrt : -8 ≤ roots.getD i 0 ∧ roots.getD i 0 ≤ -1
        · have hrt' : -8 ≤ roots.getD (i : Int).toNat 0 ∧ roots.getD (i : Int).toNat 0 ≤ -1 := hrt
          have hi3 : tri i ≤ 3 := by
            have : i = 0 ∨ i = 1 ∨ i = 2 := by omega
            rcases this with e | e | e <;> rw [e] <;> decide
          conv => whnf
          conv => whnf
          refine ifB_dec (fun w3 => ?_) (fun w3 => ?_)
          · conv => whnf
            conv => whnf
            refine ⟨⟨(by omega), (by omega)⟩, ?_⟩
            conv => whnf
            conv => whnf
            refine .inl ⟨_, _, byX rfl (Sound1.pl (S68 _ _ _) rfl), ?_⟩
            conv => whnf
            conv => whnf
            refine ifB_not ?_
            conv => whnf
            conv => whnf
            refine ifB_dec (fun w4 => ?_) (fun w4 => ?_)
            · conv => whnf
              conv => whnf
              refine ⟨⟨(by omega), (by omega)⟩, ?_⟩
              conv => whnf
              conv => whnf
              refine .inl ⟨_, _, byX rfl (h19r), ?_⟩
              conv => whnf
              conv => whnf
              refine .inl ?_
              conv => whnf
              conv => whnf
              refine ⟨(by show _ * (8 + 1) ≤ _; omega), ?_⟩
              conv => whnf
              conv => whnf
              refine ⟨[], [2, 13, 14, 15, 16, 17], fun st mq => ∃ (j : Nat) (m : Nat) (c : List Int) (v : Nat) (n2 : Int) (F2 : Nat → List AV), (j + m = i + 1) ∧ (c.length = i + 2) ∧ (Sml (9 ^ v) c) ∧ (v = u + j) ∧ (n2 = max nr (roots.getD i 0)) ∧ (mxS (roots.getD i 0) P m j c = mulR (roots.getD i 0) P) ∧ st = ⟨[(2, ints roots), (13, .rslice 1 (i + 1) fun k => [i64 (P.getD k 0)]), (14, i64 n2), (15, i64 i), (16, .oslice 1 0 0 (i + 1 + 1) none), (17, i64 j)], ⟨[⟨1, 1, fun _ => [i64 1], 0, true, true, true⟩, ⟨1, i + 1 + 1, fun k => [i64 (c.getD k 0)], 0, false, true, false⟩, ⟨1, 1, F2, 0, false, true, false⟩], [], none, 0⟩, []⟩ ∧ mq = m,
                ⟨_, _, ⟨0, i + 1, P ++ [0], u, (if roots.getD (i : Int).toNat 0 > nr then roots.getD (i : Int).toNat 0 else nr), _, by omega, by simp [hl], (fun x hx => by rcases List.mem_append.1 hx with h | h; exact hS x h; rw [List.mem_singleton.1 h]; simp), rfl, (show (if roots.getD i 0 > nr then roots.getD i 0 else nr) = max nr (roots.getD i 0) by rw [Int.max_def]; (repeat' split) <;> omega), (by unfold mulR; rw [hl]), rfl, rfl⟩, ⟨⟨.inl rfl, rfl, rfl, rfl⟩, ⟨⟨rfl, rfl, rfl, rfl, fun _ => rfl, fun _ _ => .inl rfl⟩, ⟨⟨rfl, rfl, rfl, rfl, fun _ => rfl, fun k hk => .inl (app_row P 0 (i + 1) k hl hk)⟩, ⟨⟨rfl, rfl, rfl, rfl, fun _ => rfl, fun _ _ => .inl rfl⟩, trivial⟩⟩⟩, trivial⟩⟩, ?_⟩
              rintro s0 m0 ⟨j, m, c, v, n2, F2, hj, hc, hT, hv, hn2, hM, rfl, hmeas⟩
              by_cases hm : m = 0
              · subst hm
                have hM2 : c = mulR (roots.getD i 0) P := hM
                conv => whnf
                conv => whnf
                conv => whnf
                refine ifB_dec (fun w5 => ?_) (fun w5 => ?_)
                · (exfalso; omega)
                · conv => whnf
                  conv => whnf
                  conv => whnf
                  refine ⟨inK64 (by omega) (by omega), ?_⟩
                  conv => whnf
                  conv => whnf
                  conv => whnf
                  refine ⟨_, _, ⟨⟨i + 1, c, n2, u + (i + 1), by omega, (by rw [htk, prodL_snoc, ← hP]; exact hM2), (by rw [htk, nearL_snoc, ← hn]; exact hn2), by omega, (by rw [htk]; intro x hx; rcases List.mem_append.1 hx with h | h; exact hr x h; rw [List.mem_singleton.1 h]; exact hrt), (by rw [show u + (i + 1) = v by omega]; exact hT), (by rw [hu]; rfl), rfl, rfl⟩, by omega⟩, ⟨⟨.inl rfl, rfl, rfl, rfl⟩, ⟨⟨rfl, rfl, rfl, rfl, fun _ => rfl, fun _ _ => .inl rfl⟩, trivial⟩, trivial⟩⟩
              · obtain ⟨q, rfl⟩ : ∃ q, m = q + 1 := ⟨m - 1, by omega⟩
                have hv6 : 9 ^ v ≤ 531441 := Nat.pow_le_pow_right (show 0 < 9 by decide) (show v ≤ 6 by omega)
                have huv : 9 ^ u ≤ 9 ^ v := Nat.pow_le_pow_right (show 0 < 9 by decide) (show u ≤ v by omega)
                have e1 : 0 + ((j : Int) + 1).toNat = j + 1 := by omega
                have b1 : (c.getD (j + 1) 0).natAbs ≤ 9 ^ v := ent_sml hT (j + 1)
                have b2 : (P.getD j 0).natAbs ≤ 9 ^ v := Nat.le_trans (ent_sml hS j) huv
                have b0 : (roots.getD (i : Int).toNat 0).natAbs ≤ 8 := by
                  have : (roots.getD i 0).natAbs ≤ 8 := by omega
                  exact this
                have b2' : (P.getD (j : Int).toNat 0).natAbs ≤ 9 ^ v := b2
                have b3 := mul_sml b0 b2'
                rw [← e1] at b1
                have hn9 : Sml (9 ^ (v + 1)) (c.set ((j : Int) + 1).toNat (c.getD (0 + ((j : Int) + 1).toNat) 0 - roots.getD (i : Int).toNat 0 * P.getD (j : Int).toNat 0)) := fun x hx => by
                  rw [Nat.pow_succ]
                  rcases List.mem_or_eq_of_mem_set hx with hx | hx
                  · have := hT x hx; omega
                  · rw [hx]; omega
                have hM3 : mxS (roots.getD i 0) P q (j + 1) (c.set ((j : Int) + 1).toNat (c.getD (0 + ((j : Int) + 1).toNat) 0 - roots.getD (i : Int).toNat 0 * P.getD (j : Int).toNat 0)) = mulR (roots.getD i 0) P := by
                  rw [e1, show ((j : Int) + 1).toNat = j + 1 by omega]
                  exact hM
                conv => whnf
                conv => whnf
                conv => whnf
                refine ifB_dec (fun w5 => ?_) (fun w5 => ?_)
                · conv => whnf
                  conv => whnf
                  conv => whnf
                  refine ⟨[], by kernel_rfl, ?_⟩
                  conv => whnf
                  conv => whnf
                  conv => whnf
                  refine ⟨inK64 (by omega) (by omega), ?_⟩
                  conv => whnf
                  conv => whnf
                  conv => whnf
                  refine ⟨inK64 (by omega) (by omega), ?_⟩
                  conv => whnf
                  conv => whnf
                  conv => whnf
                  refine ⟨⟨(by omega), (by omega)⟩, ?_⟩
                  conv => whnf
                  conv => whnf
                  conv => whnf
                  refine ⟨⟨(by omega), (by omega)⟩, ?_⟩
                  conv => whnf
                  conv => whnf
                  conv => whnf
                  refine ⟨⟨(by omega), (by omega)⟩, ?_⟩
                  conv => whnf
                  conv => whnf
                  conv => whnf
                  refine ⟨inK64 (by omega) (by omega), ?_⟩
                  conv => whnf
                  conv => whnf
                  conv => whnf
                  refine ⟨inK64 (by omega) (by omega), ?_⟩
                  conv => whnf
                  conv => whnf
                  conv => whnf
                  refine ⟨⟨(by omega), (by omega)⟩, ?_⟩
                  refine ⟨_, fun i _ => rowI _ _ i _ (by first | omega | (simp only [List.length_set]; omega) | (simp only [List.length_replicate]; omega) | (simp only [List.length_set, List.length_replicate]; omega)), ?_⟩
                  conv => whnf
                  conv => whnf
                  conv => whnf
                  refine ⟨inK64 (by omega) (by omega), ?_⟩
                  conv => whnf
                  conv => whnf
                  conv => whnf
                  refine ⟨_, _, ⟨⟨j + 1, q, c.set ((j : Int) + 1).toNat (c.getD (0 + ((j : Int) + 1).toNat) 0 - roots.getD (i : Int).toNat 0 * P.getD (j : Int).toNat 0), v + 1, n2, _, by omega, (by rw [List.length_set]; exact hc), hn9, by omega, hn2, hM3, rfl, rfl⟩, by omega⟩, ⟨⟨.inl rfl, rfl, rfl, rfl⟩, ⟨⟨rfl, rfl, rfl, rfl, fun _ => rfl, fun _ _ => .inl rfl⟩, ⟨⟨rfl, rfl, rfl, rfl, fun _ => rfl, fun _ _ => .inl rfl⟩, ⟨⟨rfl, rfl, rfl, rfl, fun _ => rfl, fun _ _ => .inl rfl⟩, trivial⟩⟩⟩, trivial⟩⟩
                · (exfalso; omega)
            · (exfalso; omega)
          · (exfalso; omega)
        · have hrt' : ¬(-8 ≤ roots.getD (i : Int).toNat 0 ∧ roots.getD (i : Int).toNat 0 ≤ -1) := hrt
          conv => whnf
          conv => whnf
          refine ifB_dec (fun w3 => ?_) (fun w3 => ?_)
          · conv => whnf
            conv => whnf
            refine ⟨⟨(by omega), (by omega)⟩, ?_⟩
            conv => whnf
            conv => whnf
            refine .inl ⟨_, _, byX rfl (Sound1.pl (S68 _ _ _) rfl), ?_⟩
            conv => whnf
            conv => whnf
            refine ifB_not ?_
            conv => whnf
            conv => whnf
            refine ifB_dec (fun w4 => ?_) (fun w4 => ?_)
            · (exfalso; omega)
            · conv => whnf
              conv => whnf
              refine ⟨?_, nofun⟩
              (first | contradiction | rfl)
          · (exfalso; omega)
      · have e : i = roots.length := by omega
        subst e
        rw [List.take_length] at hP hn hr
        have hne : roots.length ≠ 0 := by omega
        have hmar := mar_le P 10
        have hck := chk_of (L := roots) (fun e => hne (by rw [e]; rfl)) (by omega) hr
        unfold chkR at hck
        simp only [Bool.and_eq_true, decide_eq_true_eq] at hck
        rw [← hP, ← hn] at hck
        obtain ⟨⟨c1, c2⟩, c3⟩ := hck
        have h19e := S19 P (by omega)
        have h84 := S84 P (by omega)
        have h37 := S37 P (by omega)
        rw [c1, c2, if_pos rfl, if_pos rfl, if_pos rfl, if_pos rfl, c3] at h84
        rw [c1, c2, if_pos rfl] at h37
        rw [ints_n hl] at h19e h84 h37
        conv => whnf
        conv => whnf
        refine ifB_dec (fun w3 => ?_) (fun w3 => ?_)
        · (exfalso; omega)
        · conv => whnf
          conv => whnf
          refine .inl ⟨_, _, byX rfl (h19e), ?_⟩
          conv => whnf
          conv => whnf
          refine .inl ⟨_, _, byX rfl (Sound1.pl (h84) rfl), ?_⟩
          conv => whnf
          conv => whnf
          refine .inl ⟨_, _, byX rfl (Sound1.pl (h37) rfl), ?_⟩
          conv => whnf
          conv => whnf
          refine ⟨inK64 (by omega) (by omega), ?_⟩
          conv => whnf
          conv => whnf
          refine ⟨inK64 (by omega) (by omega), ?_⟩
          conv => whnf
          conv => whnf
          refine ⟨?_, nofun⟩
          exact endb (beq_iff_eq.2 rfl)
theorem S15c (p : List Int) (t : Int) (roots : List Int) (hpl : p.length ≤ 9223372036854775807) (hrl : roots.length ≤ 9223372036854775807) (h0 : polyE p = 0) (he : shE t p = 8) : SP 15 [ints p, i64 t, ints roots] (vb true) false := by
  have hp := PolyOk.of h0
  have hpn := hp.len
  have hp1 : p.length ≤ 1000000 := by omega
  have h21 := S21w p hpl
  rw [h0] at h21
  have h19 := S19 p hp1
  have h83 := S83 p t hp1
  have hE : shftE t p = shE t p := if_pos h0
  rw [hE] at h83
  rw [he, if_neg (by decide)] at h83
  refine sound (d := 2) tok2 mixed2 Tryz.func15 (by kernel_rfl) (by kernel_rfl) ?_
  conv => whnf
  refine .inl ⟨_, _, byX rfl (Sound1.pl (S16) rfl), ?_⟩
  conv => whnf
  refine .inl ⟨_, _, byX rfl (Sound1.pl (h21) rfl), ?_⟩
  conv => whnf
  refine .inl ⟨_, _, byX rfl (h19), ?_⟩
  conv => whnf
  refine .inl ⟨_, _, byX rfl (h83), ?_⟩
  conv => whnf
  refine ifB_beq (fun w1 => ?_) (fun w1 => ?_)
  · conv => whnf
    refine ⟨?_, nofun⟩
    (rfl)
  · conv => whnf
    refine ifB_dec (fun w2 => ?_) (fun w2 => ?_)
    · conv => whnf
      refine ⟨?_, nofun⟩
      (rfl)
    · conv => whnf
      refine ⟨[.freeze 13], [2, 13, 14, 15], fun st mq => ∃ (i : Nat) (P : List Int) (nr : Int) (u : Nat), (i ≤ roots.length) ∧ (P = prodL (roots.take i)) ∧ (nr = nearL (roots.take i)) ∧ (P.length = i + 1) ∧ (∀ x ∈ roots.take i, -8 ≤ x ∧ x ≤ -1) ∧ (Sml (9 ^ u) P) ∧ (u = tri i) ∧ st = ⟨[(2, ints roots), (13, .rslice 1 (i + 1) fun k => [i64 (P.getD k 0)]), (14, i64 nr), (15, i64 i)], ⟨[⟨1, 1, fun _ => [i64 1], 0, true, true, true⟩], [], none, 0⟩, []⟩ ∧ mq = roots.length - i,
        ⟨_, _, ⟨0, [1], -8, 0, by omega, rfl, rfl, rfl, (fun x hx => absurd hx (by simp)), (fun x hx => by rw [List.mem_singleton.1 hx]; decide), rfl, rfl, rfl⟩, ⟨⟨.inr ⟨rfl, .inl rfl, ⟨rfl, .inr (⟨rfl, rfl, fun k hk => (by have hk1 : k < 1 := hk; rw [show k = 0 by omega]; exact .inl rfl)⟩), ⟨rfl, .inl rfl, ⟨rfl, .inl rfl, trivial⟩⟩⟩⟩, rfl, rfl, rfl⟩, ⟨⟨rfl, rfl, rfl, rfl, fun _ => rfl, fun k hk => .inl ((by have hk1 : k < 1 := hk; rw [show k = 0 by omega]; rfl))⟩, trivial⟩, trivial⟩⟩, ?_⟩
      rintro s0 m0 ⟨i, P, nr, u, hi, hP, hn, hl, hr, hS, hu, rfl, hmeas⟩
      have hu3 : tri i ≤ 6 := by
        have : i = 0 ∨ i = 1 ∨ i = 2 ∨ i = 3 := by omega
        rcases this with e | e | e | e <;> rw [e] <;> decide
      have hpow : 9 ^ u ≤ 531441 := Nat.pow_le_pow_right (show 0 < 9 by decide) (show u ≤ 6 by omega)
      by_cases hlt : i < roots.length
      · have h68r := S68 (roots.getD (0 + (i : Int).toNat) 0) (-8) (-1)
        have h19r := S19x P (by omega)
        rw [ints_n hl] at h19r
        have htk := take_snocI hlt
        have e0 : 0 + (i : Int).toNat = i := by omega
        by_cases hrt : -8 ≤ roots.getD i 0 ∧ roots.getD i 0 ≤ -1
        · have hrt' : -8 ≤ roots.getD (i : Int).toNat 0 ∧ roots.getD (i : Int).toNat 0 ≤ -1 := hrt
          have hi3 : tri i ≤ 3 := by
            have : i = 0 ∨ i = 1 ∨ i = 2 := by omega
            rcases this with e | e | e <;> rw [e] <;> decide
          conv => whnf
          conv => whnf
          refine ifB_dec (fun w3 => ?_) (fun w3 => ?_)
          · conv => whnf
            conv => whnf
            refine ⟨⟨(by omega), (by omega)⟩, ?_⟩
            conv => whnf
            conv => whnf
            refine .inl ⟨_, _, byX rfl (Sound1.pl (S68 _ _ _) rfl), ?_⟩
            conv => whnf
            conv => whnf
            refine ifB_not ?_
            conv => whnf
            conv => whnf
            refine ifB_dec (fun w4 => ?_) (fun w4 => ?_)
            · conv => whnf
              conv => whnf
              refine ⟨⟨(by omega), (by omega)⟩, ?_⟩
              conv => whnf
              conv => whnf
              refine .inl ⟨_, _, byX rfl (h19r), ?_⟩
              conv => whnf
              conv => whnf
              refine .inl ?_
              conv => whnf
              conv => whnf
              refine ⟨(by show _ * (8 + 1) ≤ _; omega), ?_⟩
              conv => whnf
              conv => whnf
              refine ⟨[], [2, 13, 14, 15, 16, 17], fun st mq => ∃ (j : Nat) (m : Nat) (c : List Int) (v : Nat) (n2 : Int) (F2 : Nat → List AV), (j + m = i + 1) ∧ (c.length = i + 2) ∧ (Sml (9 ^ v) c) ∧ (v = u + j) ∧ (n2 = max nr (roots.getD i 0)) ∧ (mxS (roots.getD i 0) P m j c = mulR (roots.getD i 0) P) ∧ st = ⟨[(2, ints roots), (13, .rslice 1 (i + 1) fun k => [i64 (P.getD k 0)]), (14, i64 n2), (15, i64 i), (16, .oslice 1 0 0 (i + 1 + 1) none), (17, i64 j)], ⟨[⟨1, 1, fun _ => [i64 1], 0, true, true, true⟩, ⟨1, i + 1 + 1, fun k => [i64 (c.getD k 0)], 0, false, true, false⟩, ⟨1, 1, F2, 0, false, true, false⟩], [], none, 0⟩, []⟩ ∧ mq = m,
                ⟨_, _, ⟨0, i + 1, P ++ [0], u, (if roots.getD (i : Int).toNat 0 > nr then roots.getD (i : Int).toNat 0 else nr), _, by omega, by simp [hl], (fun x hx => by rcases List.mem_append.1 hx with h | h; exact hS x h; rw [List.mem_singleton.1 h]; simp), rfl, (show (if roots.getD i 0 > nr then roots.getD i 0 else nr) = max nr (roots.getD i 0) by rw [Int.max_def]; (repeat' split) <;> omega), (by unfold mulR; rw [hl]), rfl, rfl⟩, ⟨⟨.inl rfl, rfl, rfl, rfl⟩, ⟨⟨rfl, rfl, rfl, rfl, fun _ => rfl, fun _ _ => .inl rfl⟩, ⟨⟨rfl, rfl, rfl, rfl, fun _ => rfl, fun k hk => .inl (app_row P 0 (i + 1) k hl hk)⟩, ⟨⟨rfl, rfl, rfl, rfl, fun _ => rfl, fun _ _ => .inl rfl⟩, trivial⟩⟩⟩, trivial⟩⟩, ?_⟩
              rintro s0 m0 ⟨j, m, c, v, n2, F2, hj, hc, hT, hv, hn2, hM, rfl, hmeas⟩
              by_cases hm : m = 0
              · subst hm
                have hM2 : c = mulR (roots.getD i 0) P := hM
                conv => whnf
                conv => whnf
                conv => whnf
                refine ifB_dec (fun w5 => ?_) (fun w5 => ?_)
                · (exfalso; omega)
                · conv => whnf
                  conv => whnf
                  conv => whnf
                  refine ⟨inK64 (by omega) (by omega), ?_⟩
                  conv => whnf
                  conv => whnf
                  conv => whnf
                  refine ⟨_, _, ⟨⟨i + 1, c, n2, u + (i + 1), by omega, (by rw [htk, prodL_snoc, ← hP]; exact hM2), (by rw [htk, nearL_snoc, ← hn]; exact hn2), by omega, (by rw [htk]; intro x hx; rcases List.mem_append.1 hx with h | h; exact hr x h; rw [List.mem_singleton.1 h]; exact hrt), (by rw [show u + (i + 1) = v by omega]; exact hT), (by rw [hu]; rfl), rfl, rfl⟩, by omega⟩, ⟨⟨.inl rfl, rfl, rfl, rfl⟩, ⟨⟨rfl, rfl, rfl, rfl, fun _ => rfl, fun _ _ => .inl rfl⟩, trivial⟩, trivial⟩⟩
              · obtain ⟨q, rfl⟩ : ∃ q, m = q + 1 := ⟨m - 1, by omega⟩
                have hv6 : 9 ^ v ≤ 531441 := Nat.pow_le_pow_right (show 0 < 9 by decide) (show v ≤ 6 by omega)
                have huv : 9 ^ u ≤ 9 ^ v := Nat.pow_le_pow_right (show 0 < 9 by decide) (show u ≤ v by omega)
                have e1 : 0 + ((j : Int) + 1).toNat = j + 1 := by omega
                have b1 : (c.getD (j + 1) 0).natAbs ≤ 9 ^ v := ent_sml hT (j + 1)
                have b2 : (P.getD j 0).natAbs ≤ 9 ^ v := Nat.le_trans (ent_sml hS j) huv
                have b0 : (roots.getD (i : Int).toNat 0).natAbs ≤ 8 := by
                  have : (roots.getD i 0).natAbs ≤ 8 := by omega
                  exact this
                have b2' : (P.getD (j : Int).toNat 0).natAbs ≤ 9 ^ v := b2
                have b3 := mul_sml b0 b2'
                rw [← e1] at b1
                have hn9 : Sml (9 ^ (v + 1)) (c.set ((j : Int) + 1).toNat (c.getD (0 + ((j : Int) + 1).toNat) 0 - roots.getD (i : Int).toNat 0 * P.getD (j : Int).toNat 0)) := fun x hx => by
                  rw [Nat.pow_succ]
                  rcases List.mem_or_eq_of_mem_set hx with hx | hx
                  · have := hT x hx; omega
                  · rw [hx]; omega
                have hM3 : mxS (roots.getD i 0) P q (j + 1) (c.set ((j : Int) + 1).toNat (c.getD (0 + ((j : Int) + 1).toNat) 0 - roots.getD (i : Int).toNat 0 * P.getD (j : Int).toNat 0)) = mulR (roots.getD i 0) P := by
                  rw [e1, show ((j : Int) + 1).toNat = j + 1 by omega]
                  exact hM
                conv => whnf
                conv => whnf
                conv => whnf
                refine ifB_dec (fun w5 => ?_) (fun w5 => ?_)
                · conv => whnf
                  conv => whnf
                  conv => whnf
                  refine ⟨[], by kernel_rfl, ?_⟩
                  conv => whnf
                  conv => whnf
                  conv => whnf
                  refine ⟨inK64 (by omega) (by omega), ?_⟩
                  conv => whnf
                  conv => whnf
                  conv => whnf
                  refine ⟨inK64 (by omega) (by omega), ?_⟩
                  conv => whnf
                  conv => whnf
                  conv => whnf
                  refine ⟨⟨(by omega), (by omega)⟩, ?_⟩
                  conv => whnf
                  conv => whnf
                  conv => whnf
                  refine ⟨⟨(by omega), (by omega)⟩, ?_⟩
                  conv => whnf
                  conv => whnf
                  conv => whnf
                  refine ⟨⟨(by omega), (by omega)⟩, ?_⟩
                  conv => whnf
                  conv => whnf
                  conv => whnf
                  refine ⟨inK64 (by omega) (by omega), ?_⟩
                  conv => whnf
                  conv => whnf
                  conv => whnf
                  refine ⟨inK64 (by omega) (by omega), ?_⟩
                  conv => whnf
                  conv => whnf
                  conv => whnf
                  refine ⟨⟨(by omega), (by omega)⟩, ?_⟩
                  refine ⟨_, fun i _ => rowI _ _ i _ (by first | omega | (simp only [List.length_set]; omega) | (simp only [List.length_replicate]; omega) | (simp only [List.length_set, List.length_replicate]; omega)), ?_⟩
                  conv => whnf
                  conv => whnf
                  conv => whnf
                  refine ⟨inK64 (by omega) (by omega), ?_⟩
                  conv => whnf
                  conv => whnf
                  conv => whnf
                  refine ⟨_, _, ⟨⟨j + 1, q, c.set ((j : Int) + 1).toNat (c.getD (0 + ((j : Int) + 1).toNat) 0 - roots.getD (i : Int).toNat 0 * P.getD (j : Int).toNat 0), v + 1, n2, _, by omega, (by rw [List.length_set]; exact hc), hn9, by omega, hn2, hM3, rfl, rfl⟩, by omega⟩, ⟨⟨.inl rfl, rfl, rfl, rfl⟩, ⟨⟨rfl, rfl, rfl, rfl, fun _ => rfl, fun _ _ => .inl rfl⟩, ⟨⟨rfl, rfl, rfl, rfl, fun _ => rfl, fun _ _ => .inl rfl⟩, ⟨⟨rfl, rfl, rfl, rfl, fun _ => rfl, fun _ _ => .inl rfl⟩, trivial⟩⟩⟩, trivial⟩⟩
                · (exfalso; omega)
            · (exfalso; omega)
          · (exfalso; omega)
        · have hrt' : ¬(-8 ≤ roots.getD (i : Int).toNat 0 ∧ roots.getD (i : Int).toNat 0 ≤ -1) := hrt
          conv => whnf
          conv => whnf
          refine ifB_dec (fun w3 => ?_) (fun w3 => ?_)
          · conv => whnf
            conv => whnf
            refine ⟨⟨(by omega), (by omega)⟩, ?_⟩
            conv => whnf
            conv => whnf
            refine .inl ⟨_, _, byX rfl (Sound1.pl (S68 _ _ _) rfl), ?_⟩
            conv => whnf
            conv => whnf
            refine ifB_not ?_
            conv => whnf
            conv => whnf
            refine ifB_dec (fun w4 => ?_) (fun w4 => ?_)
            · (exfalso; omega)
            · conv => whnf
              conv => whnf
              refine ⟨?_, nofun⟩
              (first | contradiction | rfl)
          · (exfalso; omega)
      · have e : i = roots.length := by omega
        subst e
        rw [List.take_length] at hP hn hr
        have hne : roots.length ≠ 0 := by omega
        have hmar := mar_le P 10
        have hck := chk_of (L := roots) (fun e => hne (by rw [e]; rfl)) (by omega) hr
        unfold chkR at hck
        simp only [Bool.and_eq_true, decide_eq_true_eq] at hck
        rw [← hP, ← hn] at hck
        obtain ⟨⟨c1, c2⟩, c3⟩ := hck
        have h19e := S19 P (by omega)
        have h84 := S84 P (by omega)
        have h37 := S37 P (by omega)
        rw [c1, c2, if_pos rfl, if_pos rfl, if_pos rfl, if_pos rfl, c3] at h84
        rw [c1, c2, if_pos rfl] at h37
        rw [ints_n hl] at h19e h84 h37
        conv => whnf
        conv => whnf
        refine ifB_dec (fun w3 => ?_) (fun w3 => ?_)
        · (exfalso; omega)
        · conv => whnf
          conv => whnf
          refine .inl ⟨_, _, byX rfl (h19e), ?_⟩
          conv => whnf
          conv => whnf
          refine .inl ⟨_, _, byX rfl (Sound1.pl (h84) rfl), ?_⟩
          conv => whnf
          conv => whnf
          refine .inl ⟨_, _, byX rfl (Sound1.pl (h37) rfl), ?_⟩
          conv => whnf
          conv => whnf
          refine ⟨inK64 (by omega) (by omega), ?_⟩
          conv => whnf
          conv => whnf
          refine ⟨inK64 (by omega) (by omega), ?_⟩
          conv => whnf
          conv => whnf
          refine ⟨?_, nofun⟩
          exact endb (beq_iff_eq.2 rfl)
theorem S15 (p : List Int) (t : Int) (roots : List Int) (hpl : p.length ≤ 9223372036854775807) (hrl : roots.length ≤ 9223372036854775807) : SP 15 [ints p, i64 t, ints roots] (vb true) false := by
  have h21 := S21w p hpl
  by_cases h0 : polyE p = 0
  · by_cases he : shE t p = 0
    · exact S15a p t roots hpl hrl h0 he
    · have hx : shE t p = 2 ∨ shE t p = 8 := by
        unfold shE at he ⊢
        (repeat' split) <;> simp_all
      rcases hx with hx | hx
      · exact S15b p t roots hpl hrl h0 hx
      · exact S15c p t roots hpl hrl h0 hx
  · refine sound (d := 2) tok2 mixed2 Tryz.func15 (by kernel_rfl) (by kernel_rfl) ?_
    conv => whnf
    refine .inl ⟨_, _, byX rfl (Sound1.pl (S16) rfl), ?_⟩
    conv => whnf
    refine .inl ⟨_, _, byX rfl (Sound1.pl (h21) rfl), ?_⟩
    conv => whnf
    refine ifB_bne (fun w1 => ?_) (fun w1 => ?_)
    · conv => whnf
      refine ⟨?_, nofun⟩
      rfl
    · (exfalso; omega)
end Go.Tr

/- Contracts of chapter 6: the reference's shift, and margins. Conditions: none. -/
import Derived.Test.YtolohdpbgocgkaaGreatTr09
set_option linter.unusedSectionVars false
set_option linter.unnecessarySimpa false
set_option linter.unusedVariables false
set_option linter.unusedSimpArgs false

namespace Go.Tr
open Go Go.Proofs
set_option maxRecDepth 20000
set_option maxHeartbeats 8000000

/-- The reference's rounds. -/
def mxG (t : Int) (s : List Int) : Nat → Nat → List Int → List Int
  | 0, _, c => c
  | r + 1, j, c => mxG t s r (j + 1) (c.set (j + 1) (c.getD (j + 1) 0 + t * s.getD j 0))
def hoG (t : Int) (l : List Int) : Nat → Nat → List Int → List Int
  | 0, _, s => s
  | r + 1, i, s => hoG t l r (i + 1) ((mxG t s s.length 0 (s ++ [0])).set i ((mxG t s s.length 0 (s ++ [0])).getD i 0 + l.getD i 0))
def shR (t : Int) (l : List Int) : List Int := hoG t l (l.length - 1) 1 [l.getD 0 0]
theorem shR_eq (t : Int) (l : List Int) (h : 2 ≤ l.length ∧ l.length ≤ 5) : shR t l = shP t l := by
  match l, h with
  | [a, b], _ =>
    simp [shR, shP, hoG, mxG, shG, passG]
    grind
  | [a, b, c], _ =>
    simp [shR, shP, hoG, mxG, shG, passG]
    grind
  | [a, b, c, d], _ =>
    simp [shR, shP, hoG, mxG, shG, passG]
    grind
  | [a, b, c, d, e], _ =>
    simp [shR, shP, hoG, mxG, shG, passG]
    grind
  | [], h => simp at h
  | [_], h => simp at h
  | _ :: _ :: _ :: _ :: _ :: _ :: _, h => simp at h
theorem mx_len (t : Int) (s : List Int) : ∀ (r j : Nat) (c : List Int), (mxG t s r j c).length = c.length
  | 0, _, _ => rfl
  | r + 1, j, c => by unfold mxG; rw [mx_len t s r, List.length_set]
theorem S19x (l : List Int) (hl : l.length ≤ 1000000) : SP 19 [ints l] (ints l) true := by
  refine sound (d := 2) tok2 mixed2 Tryz.func19 (by kernel_rfl) (by kernel_rfl) ?_
  conv => whnf
  refine .inl ?_
  conv => whnf
  refine ⟨⟨(by omega), (by show _ * (8 + 1) ≤ _; omega)⟩, ?_⟩
  conv => whnf
  refine ⟨?_, fun _ => ⟨rfl, ?_⟩⟩
  · exact ⟨rfl, Nat.zero_add _, fun i hi => rfl⟩
  · exact ⟨fun i _ x hx => ⟨_, List.mem_singleton.1 hx⟩, trivial⟩
theorem set_sml2 {B : Nat} {X : List Int} {t y : Int} (ht : t.natAbs ≤ 10) (hy : y.natAbs ≤ B) (h : Sml B X) (k i : Nat) : Sml (11 * B) (X.set k (X.getD i 0 + t * y)) := fun x hx => by
  rcases List.mem_or_eq_of_mem_set hx with hx | hx
  · have := h x hx; omega
  · rw [hx]
    have e1 : (X.getD i 0).natAbs ≤ B := ent_sml h i
    have e2 := mul_sml ht hy
    omega
theorem pow_sml2 {s : Nat} (h : s ≤ 13) : 1000 * 11 ^ s ≤ 35000000000000000 := by
  have : 11 ^ s ≤ 11 ^ 13 := Nat.pow_le_pow_right (by decide) h
  omega
theorem pow_lo (s : Nat) : 1000 ≤ 1000 * 11 ^ s := by
  have : 1 ≤ 11 ^ s := Nat.one_le_pow _ _ (by decide)
  omega
/-- The error of a shift by a number. -/
def shE (t : Int) (l : List Int) : Int := if ¬(-10 ≤ t ∧ t ≤ 10) then 2 else if coefsE (shP t l) ≠ 0 then 8 else 0
theorem S85 (l : List Int) (t : Int) (h2 : 2 ≤ l.length ∧ l.length ≤ 5) (hs : Sml 1000 l) : SP 85 [ints l, i64 t] (.tuple [ints (if shE t l = 0 then shP t l else []), i64 (shE t l)]) false := by
  have h68 := S68 t (-10) 10
  have h68c := fun x => S68 x (-1000) 1000
  by_cases ht : -10 ≤ t ∧ t ≤ 10
  · have hta : t.natAbs ≤ 10 := by omega
    have hE : shE t l = if coefsE (shP t l) ≠ 0 then 8 else 0 := if_neg (not_not_intro ht)
    rw [hE]
    rw [← shR_eq t l h2]
    refine sound (d := 2) tok2 mixed2 Tryz.func85 (by kernel_rfl) (by kernel_rfl) ?_
    conv => whnf
    refine .inl ⟨_, _, byX rfl (Sound1.pl (h68) rfl), ?_⟩
    conv => whnf
    refine ifB_not ?_
    conv => whnf
    refine ifB_dec (fun w1 => ?_) (fun w1 => ?_)
    · conv => whnf
      refine ⟨⟨(by omega), (by omega)⟩, ?_⟩
      conv => whnf
      refine ⟨[.freeze 6], [0, 1, 6, 7], fun st mq => ∃ (i : Nat) (r : Nat) (s : List Int) (u : Nat), (i + r = l.length) ∧ (s.length = i) ∧ (1 ≤ i) ∧ (Sml (1000 * 11 ^ u) s) ∧ (u + 1 = tri i) ∧ (hoG t l r i s = shR t l) ∧ st = ⟨[(0, ints l), (1, i64 t), (6, .rslice 1 i fun k => [i64 (s.getD k 0)]), (7, i64 i)], ⟨[⟨1, 1, fun _ => [i64 (l.getD 0 0)], 0, true, true, true⟩], [], none, 0⟩, []⟩ ∧ mq = r,
        ⟨_, _, ⟨1, l.length - 1, [l.getD 0 0], 0, by omega, rfl, Nat.le_refl 1, (fun x hx => by rw [List.mem_singleton.1 hx]; exact ent_sml hs 0), rfl, rfl, rfl, rfl⟩, ⟨⟨.inr ⟨rfl, .inl rfl, ⟨rfl, .inl rfl, ⟨rfl, .inr (⟨rfl, rfl, fun k hk => (by have hk1 : k < 1 := hk; rw [show k = 0 by omega]; exact .inl rfl)⟩), ⟨rfl, .inl rfl, trivial⟩⟩⟩⟩, rfl, rfl, rfl⟩, ⟨⟨rfl, rfl, rfl, rfl, fun _ => rfl, fun k hk => .inl ((by have hk1 : k < 1 := hk; rw [show k = 0 by omega]; rfl))⟩, trivial⟩, trivial⟩⟩, ?_⟩
      rintro s0 m0 ⟨i, r, s, u, hi, hl, hi1, hS, hu, hH, rfl, hmeas⟩
      subst hl
      have h19 := S19x s (by omega)
      have hu14 : tri s.length ≤ 15 := by
        have : s.length = 1 ∨ s.length = 2 ∨ s.length = 3 ∨ s.length = 4 ∨ s.length = 5 := by omega
        rcases this with e | e | e | e | e <;> rw [e] <;> decide
      by_cases hr : r = 0
      · subst hr
        have hH2 : s = shR t l := hH
        conv => whnf
        conv => whnf
        refine ifB_dec (fun w2 => ?_) (fun w2 => ?_)
        · (exfalso; omega)
        · conv => whnf
          conv => whnf
          refine ⟨[], [6, 10], fun st mq => ∃ (k : Nat), (k ≤ s.length) ∧ ((eachI (fun _ x => coefE x) (s.drop k) k).2 = (eachI (fun _ x => coefE x) s 0).2) ∧ st = ⟨[(6, ints s), (10, i64 k)], ⟨[⟨1, 1, fun _ => [i64 (l.getD 0 0)], 0, true, true, true⟩], [], none, 0⟩, []⟩ ∧ mq = s.length - k,
            ⟨_, _, ⟨0, by omega, rfl, rfl, rfl⟩, ⟨⟨.inl rfl, rfl, rfl, rfl⟩, ⟨⟨rfl, rfl, rfl, rfl, fun _ => rfl, fun _ _ => .inl rfl⟩, trivial⟩, trivial⟩⟩, ?_⟩
          rintro s0 m0 ⟨k, hk, he, rfl, hmeas⟩
          by_cases hlt : k < s.length
          · have hd := eachI_drop (fun _ x => coefE x) s k hlt
            have h68k := h68c (s.getD (k : Int).toNat 0)
            conv => whnf
            conv => whnf
            conv => whnf
            refine ifB_dec (fun w3 => ?_) (fun w3 => ?_)
            · conv => whnf
              conv => whnf
              conv => whnf
              refine ⟨⟨(by omega), (by omega)⟩, ?_⟩
              conv => whnf
              conv => whnf
              conv => whnf
              refine .inl ⟨_, _, byX rfl (Sound1.pl (h68k) rfl), ?_⟩
              conv => whnf
              conv => whnf
              conv => whnf
              refine ifB_not ?_
              conv => whnf
              conv => whnf
              conv => whnf
              refine ifB_dec (fun w4 => ?_) (fun w4 => ?_)
              · conv => whnf
                conv => whnf
                conv => whnf
                refine ⟨inK64 (by omega) (by omega), ?_⟩
                have w4 : -1000 ≤ s.getD k 0 ∧ s.getD k 0 ≤ 1000 := w4
                rw [if_pos (show coefE (s.getD k 0) = 0 from if_pos w4)] at hd
                rw [hd] at he
                conv => whnf
                conv => whnf
                conv => whnf
                refine ⟨_, _, ⟨⟨k + 1, by omega, he, rfl, rfl⟩, by omega⟩, ⟨⟨.inl rfl, rfl, rfl, rfl⟩, ⟨⟨rfl, rfl, rfl, rfl, fun _ => rfl, fun _ _ => .inl rfl⟩, trivial⟩, trivial⟩⟩
              · conv => whnf
                conv => whnf
                conv => whnf
                refine ⟨?_, nofun⟩
                have w4 : ¬(-1000 ≤ s.getD k 0 ∧ s.getD k 0 ≤ 1000) := w4
                have hc : coefE (s.getD k 0) = 2 := if_neg w4
                rw [hc, if_neg (by decide)] at hd
                rw [hd] at he
                have hcs : coefsE s = 2 := he.symm
                rw [← hH2, hcs, if_pos (show (2 : Int) ≠ 0 by decide), if_neg (show ¬ (8 : Int) = 0 by decide)]
                exact ave_tup2 rfl rfl
            · (exfalso; omega)
          · have e : k = s.length := by omega
            subst e
            rw [List.drop_length] at he
            have hcs : coefsE s = 0 := he.symm
            rw [← hH2, hcs, if_neg (show ¬ (0 : Int) ≠ 0 by decide), if_pos (show (0 : Int) = 0 by decide)]
            conv => whnf
            conv => whnf
            conv => whnf
            refine ifB_dec (fun w3 => ?_) (fun w3 => ?_)
            · (exfalso; omega)
            · conv => whnf
              conv => whnf
              conv => whnf
              refine ⟨?_, nofun⟩
              exact ave_tup2 ⟨rfl, rfl, fun i hi => rfl⟩ rfl
      · obtain ⟨q, rfl⟩ : ∃ q, r = q + 1 := ⟨r - 1, by omega⟩
        have hu10 := tri_le (show s.length ≤ 4 by omega)
        conv => whnf
        conv => whnf
        refine ifB_dec (fun w2 => ?_) (fun w2 => ?_)
        · conv => whnf
          conv => whnf
          refine .inl ⟨_, _, byX rfl (h19), ?_⟩
          conv => whnf
          conv => whnf
          refine .inl ?_
          conv => whnf
          conv => whnf
          refine ⟨(by show _ * (8 + 1) ≤ _; omega), ?_⟩
          conv => whnf
          conv => whnf
          refine ⟨[], [0, 1, 6, 7, 8, 9], fun st mq => ∃ (j : Nat) (m : Nat) (c : List Int) (v : Nat) (F2 : Nat → List AV), (j + m = s.length) ∧ (c.length = s.length + 1) ∧ (Sml (1000 * 11 ^ v) c) ∧ (v = u + j) ∧ (mxG t s m j c = mxG t s s.length 0 (s ++ [0])) ∧ st = ⟨[(0, ints l), (1, i64 t), (6, ints s), (7, i64 s.length), (8, .oslice 1 0 0 (s.length + 1) none), (9, i64 j)], ⟨[⟨1, 1, fun _ => [i64 (l.getD 0 0)], 0, true, true, true⟩, ⟨1, s.length + 1, fun k => [i64 (c.getD k 0)], 0, false, true, false⟩, ⟨1, 1, F2, 0, false, true, false⟩], [], none, 0⟩, []⟩ ∧ mq = m,
            ⟨_, _, ⟨0, s.length, s ++ [0], u, _, by omega, by simp, (fun x hx => by rcases List.mem_append.1 hx with h | h; exact hS x h; rw [List.mem_singleton.1 h]; simp), rfl, rfl, rfl, rfl⟩, ⟨⟨.inl rfl, rfl, rfl, rfl⟩, ⟨⟨rfl, rfl, rfl, rfl, fun _ => rfl, fun _ _ => .inl rfl⟩, ⟨⟨rfl, rfl, rfl, rfl, fun _ => rfl, fun i hi => .inl (app_row s 0 s.length i rfl hi)⟩, ⟨⟨rfl, rfl, rfl, rfl, fun _ => rfl, fun _ _ => .inl rfl⟩, trivial⟩⟩⟩, trivial⟩⟩, ?_⟩
          rintro s0 m0 ⟨j, m, c, v, F2, hj, hc, hT, hv, hM, rfl, hmeas⟩
          by_cases hm : m = 0
          · subst hm
            have hM2 : c = mxG t s s.length 0 (s ++ [0]) := hM
            have hb := pow_sml2 (show v ≤ 13 by omega)
            have e1 : 0 + (s.length : Int).toNat = s.length := by omega
            have b1 : (c.getD s.length 0).natAbs ≤ 1000 * 11 ^ v := ent_sml hT s.length
            have b2 : (l.getD s.length 0).natAbs ≤ 1000 := ent_sml hs s.length
            have b2' : (l.getD (s.length : Int).toNat 0).natAbs ≤ 1000 := b2
            have hlo := pow_lo v
            rw [← e1] at b1
            have hn : Sml (1000 * 11 ^ (v + 1)) (c.set s.length (c.getD (0 + (s.length : Int).toNat) 0 + l.getD (s.length : Int).toNat 0)) := fun x hx => by
              rw [Nat.pow_succ]
              rcases List.mem_or_eq_of_mem_set hx with hx | hx
              · have := hT x hx; omega
              · rw [hx]; omega
            have hH3 : hoG t l q (s.length + 1) (c.set s.length (c.getD (0 + (s.length : Int).toNat) 0 + l.getD (s.length : Int).toNat 0)) = shR t l := by
              rw [e1, hM2]
              exact hH
            conv => whnf
            conv => whnf
            conv => whnf
            refine ifB_dec (fun w3 => ?_) (fun w3 => ?_)
            · (exfalso; omega)
            · conv => whnf
              conv => whnf
              conv => whnf
              refine ⟨[], by kernel_rfl, ?_⟩
              conv => whnf
              conv => whnf
              conv => whnf
              refine ⟨⟨(by omega), (by omega)⟩, ?_⟩
              conv => whnf
              conv => whnf
              conv => whnf
              refine ⟨⟨(by omega), (by omega)⟩, ?_⟩
              conv => whnf
              conv => whnf
              conv => whnf
              refine ⟨inK64 (by omega) (by omega), ?_⟩
              conv => whnf
              conv => whnf
              conv => whnf
              refine ⟨⟨(by omega), (by omega)⟩, ?_⟩
              refine ⟨_, fun i _ => rowI _ _ i _ (by first | omega | (simp only [List.length_set]; omega) | (simp only [List.length_replicate]; omega) | (simp only [List.length_set, List.length_replicate]; omega)), ?_⟩
              conv => whnf
              conv => whnf
              conv => whnf
              refine ⟨inK64 (by omega) (by omega), ?_⟩
              conv => whnf
              conv => whnf
              conv => whnf
              refine ⟨_, _, ⟨⟨s.length + 1, q, c.set s.length (c.getD (0 + (s.length : Int).toNat) 0 + l.getD (s.length : Int).toNat 0), u + s.length + 1, by omega, (by rw [List.length_set]; exact hc), by omega, (by rw [show u + s.length + 1 = v + 1 by omega]; exact hn), (by show _ = tri s.length + (s.length + 1); omega), hH3, rfl, rfl⟩, by omega⟩, ⟨⟨.inl rfl, rfl, rfl, rfl⟩, ⟨⟨rfl, rfl, rfl, rfl, fun _ => rfl, fun _ _ => .inl rfl⟩, trivial⟩, trivial⟩⟩
          · obtain ⟨w, rfl⟩ : ∃ w, m = w + 1 := ⟨m - 1, by omega⟩
            have hb := pow_sml2 (show v ≤ 13 by omega)
            have hsv : Sml (1000 * 11 ^ v) s := hS.mono (by have := Nat.pow_le_pow_right (show 0 < 11 by decide) (show u ≤ v by omega); omega)
            have e1 : 0 + ((j : Int) + 1).toNat = j + 1 := by omega
            have b1 : (c.getD (j + 1) 0).natAbs ≤ 1000 * 11 ^ v := ent_sml hT (j + 1)
            have b2 : (s.getD j 0).natAbs ≤ 1000 * 11 ^ v := ent_sml hsv j
            have b2' : (s.getD (j : Int).toNat 0).natAbs ≤ 1000 * 11 ^ v := b2
            have b3 := mul_sml hta b2'
            have hn : Sml (11 * (1000 * 11 ^ v)) (c.set ((j : Int) + 1).toNat (c.getD (0 + ((j : Int) + 1).toNat) 0 + t * s.getD (j : Int).toNat 0)) := by
              exact set_sml2 hta b2 hT _ _
            have hM3 : mxG t s w (j + 1) (c.set ((j : Int) + 1).toNat (c.getD (0 + ((j : Int) + 1).toNat) 0 + t * s.getD (j : Int).toNat 0)) = mxG t s s.length 0 (s ++ [0]) := by
              rw [e1, show ((j : Int) + 1).toNat = j + 1 by omega]
              exact hM
            rw [← e1] at b1
            conv => whnf
            conv => whnf
            conv => whnf
            refine ifB_dec (fun w3 => ?_) (fun w3 => ?_)
            · conv => whnf
              conv => whnf
              conv => whnf
              refine ⟨[], by kernel_rfl, ?_⟩
              conv => whnf
              conv => whnf
              conv => whnf
              refine ⟨inK64 (by omega) (by omega), ?_⟩
              conv => whnf
              conv => whnf
              conv => whnf
              refine ⟨inK64 (by omega) (by omega), ?_⟩
              conv => whnf
              conv => whnf
              conv => whnf
              refine ⟨⟨(by omega), (by omega)⟩, ?_⟩
              conv => whnf
              conv => whnf
              conv => whnf
              refine ⟨⟨(by omega), (by omega)⟩, ?_⟩
              conv => whnf
              conv => whnf
              conv => whnf
              refine ⟨inK64 (by omega) (by omega), ?_⟩
              conv => whnf
              conv => whnf
              conv => whnf
              refine ⟨inK64 (by omega) (by omega), ?_⟩
              conv => whnf
              conv => whnf
              conv => whnf
              refine ⟨⟨(by omega), (by omega)⟩, ?_⟩
              refine ⟨_, fun i _ => rowI _ _ i _ (by first | omega | (simp only [List.length_set]; omega) | (simp only [List.length_replicate]; omega) | (simp only [List.length_set, List.length_replicate]; omega)), ?_⟩
              conv => whnf
              conv => whnf
              conv => whnf
              refine ⟨inK64 (by omega) (by omega), ?_⟩
              conv => whnf
              conv => whnf
              conv => whnf
              refine ⟨_, _, ⟨⟨j + 1, w, c.set ((j : Int) + 1).toNat (c.getD (0 + ((j : Int) + 1).toNat) 0 + t * s.getD (j : Int).toNat 0), v + 1, _, by omega, (by rw [List.length_set]; exact hc), (by rw [Nat.pow_succ]; intro x hx; have := hn x hx; omega), by omega, hM3, rfl, rfl⟩, by omega⟩, ⟨⟨.inl rfl, rfl, rfl, rfl⟩, ⟨⟨rfl, rfl, rfl, rfl, fun _ => rfl, fun _ _ => .inl rfl⟩, ⟨⟨rfl, rfl, rfl, rfl, fun _ => rfl, fun _ _ => .inl rfl⟩, ⟨⟨rfl, rfl, rfl, rfl, fun _ => rfl, fun _ _ => .inl rfl⟩, trivial⟩⟩⟩, trivial⟩⟩
            · (exfalso; omega)
        · (exfalso; omega)
    · (exfalso; omega)
  · have hE : shE t l = 2 := if_pos ht
    rw [hE]
    refine sound (d := 2) tok2 mixed2 Tryz.func85 (by kernel_rfl) (by kernel_rfl) ?_
    conv => whnf
    refine .inl ⟨_, _, byX rfl (Sound1.pl (h68) rfl), ?_⟩
    conv => whnf
    refine ifB_not ?_
    conv => whnf
    refine ifB_dec (fun w1 => ?_) (fun w1 => ?_)
    · (exfalso; omega)
    · conv => whnf
      refine ⟨?_, nofun⟩
      exact ave_tup2 rfl rfl
end Go.Tr

/- Contracts of chapter 6: margins; the law GovernorMargins. Conditions: none. -/
namespace Go.Tr
open Go Go.Proofs
set_option maxRecDepth 20000
set_option maxHeartbeats 8000000

theorem S150 (k x : Int) : SP 150 [i64 k, i64 x] (i64 (coefE x)) false := by
  have h := S104 x
  refine sound (d := 2) tok2 mixed2 Tryz.func150 (by kernel_rfl) (by kernel_rfl) ?_
  conv => whnf
  refine .inl ⟨_, _, byX rfl (Sound1.pl (h) rfl), ?_⟩
  conv => whnf
  refine ⟨?_, nofun⟩
  rfl
/-- The error of the package's shift. -/
def shftE (t : Int) (l : List Int) : Int := if polyE l = 0 then shE t l else polyE l
theorem PolyOk.len {p : List Int} (h : PolyOk p) : p.length ≤ 1000 := by have := h.p2; omega
theorem win10 (t : Int) : win t (-10) 10 = true ↔ -10 ≤ t ∧ t ≤ 10 := by unfold win; simp
theorem S83 (l : List Int) (t : Int) (hl : l.length ≤ 1000000) : SP 83 [ints l, i64 t] (.tuple [ints (if shftE t l = 0 then shP t l else []), i64 (shftE t l)]) false := by
  have h64 := S64 l hl
  have h114 := S114 t 10 (by decide)
  unfold shftE
  by_cases h0 : polyE l = 0
  · have hp := PolyOk.of h0
    rw [if_pos h0]
    rw [h0] at h64
    by_cases ht : -10 ≤ t ∧ t ≤ 10
    · rw [(win10 t).2 ht] at h114
      have h93 : SP 93 [vb true, i64 2] (i64 0) false := S93 true 2
      have h90 : ∀ f : Nat → List AV, (f 0 = [i64 0] ∧ f 1 = [i64 0]) → SP 90 [.rslice 1 2 f] (i64 0) false := fun f h => by
        have h := S90_2 0 0 h
        rwa [first2, if_neg (by simp)] at h
      have h149 := S149 l t hp.p2 hp.ps (by omega)
      have hsl := shP_len t l
      have hpl := hp.len
      have h94 := S94 150 (fun _ x => coefE x) (shP t l) (by omega) (fun k hk => S150 k _)
      have hE : shE t l = if coefsE (shP t l) ≠ 0 then 8 else 0 := if_neg (not_not_intro ht)
      rw [hE]
      refine sound (d := 2) tok2 mixed2 Tryz.func83 (by kernel_rfl) (by kernel_rfl) ?_
      conv => whnf
      refine .inl ⟨_, _, byX rfl (Sound1.pl (h64) rfl), ?_⟩
      conv => whnf
      refine .inl ⟨_, _, byX rfl (Sound1.pl (h114) rfl), ?_⟩
      conv => whnf
      refine .inl ⟨_, _, byX rfl (Sound1.pl (h93) rfl), ?_⟩
      conv => whnf
      refine .inl ⟨_, _, byX rfl (Sound1.pl (h90 _ ⟨rfl, rfl⟩) rfl), ?_⟩
      conv => whnf
      refine .inl ⟨_, _, byX rfl (h149), ?_⟩
      conv => whnf
      refine .inl ⟨_, _, byX rfl (Sound1.pl (h94) rfl), ?_⟩
      conv => whnf
      refine ifB_bne (fun w1 => ?_) (fun w1 => ?_)
      · conv => whnf
        refine ⟨?_, nofun⟩
        rw [if_pos (show coefsE (shP t l) ≠ 0 from w1), if_neg (show ¬ (8 : Int) = 0 by decide)]
        exact ave_tup2 rfl rfl
      · conv => whnf
        refine ⟨?_, nofun⟩
        rw [if_neg (show ¬ coefsE (shP t l) ≠ 0 from not_not_intro w1), if_pos (show (0 : Int) = 0 by decide)]
        exact ave_tup2 ⟨rfl, rfl, fun i hi => rfl⟩ rfl
    · have hw : win t (-10) 10 = false := by
        cases h : win t (-10) 10 with
        | false => rfl
        | true => exact absurd ((win10 t).1 h) ht
      rw [hw] at h114
      have h93 : SP 93 [vb false, i64 2] (i64 2) false := S93 false 2
      have h90 : ∀ f : Nat → List AV, (f 0 = [i64 0] ∧ f 1 = [i64 2]) → SP 90 [.rslice 1 2 f] (i64 2) false := fun f h => by
        have h := S90_2 0 2 h
        rwa [first2, if_neg (by simp)] at h
      have hE : shE t l = 2 := if_pos ht
      rw [hE]
      refine sound (d := 2) tok2 mixed2 Tryz.func83 (by kernel_rfl) (by kernel_rfl) ?_
      conv => whnf
      refine .inl ⟨_, _, byX rfl (Sound1.pl (h64) rfl), ?_⟩
      conv => whnf
      refine .inl ⟨_, _, byX rfl (Sound1.pl (h114) rfl), ?_⟩
      conv => whnf
      refine .inl ⟨_, _, byX rfl (Sound1.pl (h93) rfl), ?_⟩
      conv => whnf
      refine .inl ⟨_, _, byX rfl (Sound1.pl (h90 _ ⟨rfl, rfl⟩) rfl), ?_⟩
      conv => whnf
      refine ⟨?_, nofun⟩
      exact ave_tup2 rfl rfl
  · rw [if_neg h0, if_neg h0]
    have h93 := fun b c => S93 b c
    have h90 : ∀ (b : Int) (f : Nat → List AV), (f 0 = [i64 (polyE l)] ∧ f 1 = [i64 b]) → SP 90 [.rslice 1 2 f] (i64 (polyE l)) false := fun b f h => by
      have h := S90_2 (polyE l) b h
      rwa [first2, if_pos h0] at h
    refine sound (d := 2) tok2 mixed2 Tryz.func83 (by kernel_rfl) (by kernel_rfl) ?_
    conv => whnf
    refine .inl ⟨_, _, byX rfl (Sound1.pl (h64) rfl), ?_⟩
    conv => whnf
    refine .inl ⟨_, _, byX rfl (Sound1.pl (h114) rfl), ?_⟩
    conv => whnf
    refine .inl ⟨_, _, byX rfl (Sound1.pl (h93 _ _) rfl), ?_⟩
    conv => whnf
    refine .inl ⟨_, _, byX rfl (Sound1.pl (h90 _ _ ⟨rfl, rfl⟩) rfl), ?_⟩
    conv => whnf
    refine ifB_bne (fun w1 => ?_) (fun w1 => ?_)
    · conv => whnf
      refine ⟨?_, nofun⟩
      exact ave_tup2 rfl rfl
    · (exfalso; omega)
/-- Shifted so far to the left a polynomial is one, and stable. -/
def okS (p : List Int) (d : Nat) : Bool := if polyE (shP (-(d : Int)) p) = 0 then stabB (shP (-(d : Int)) p) else false
def marF (p : List Int) : Nat → Nat
  | 0 => 0
  | d + 1 => if okS p (d + 1) = true then d + 1 else marF p d
theorem mar_le (p : List Int) : ∀ d, marF p d ≤ d
  | 0 => Nat.le_refl 0
  | d + 1 => by
    unfold marF
    split
    · exact Nat.le_refl _
    · exact Nat.le_succ_of_le (mar_le p d)
theorem S84 (l : List Int) (hl : l.length ≤ 1000000) : SP 84 [ints l] (.tuple [i64 (if polyE l = 0 then if stabB l = true then (marF l 10 : Nat) else 0 else 0), i64 (if polyE l = 0 then if stabB l = true then 0 else 12 else polyE l)]) false := by
  have h37 := S37 l hl
  by_cases h0 : polyE l = 0
  · have hp := PolyOk.of h0
    rw [if_pos h0, if_pos h0]
    rw [if_pos h0, h0] at h37
    cases hs : stabB l with
    | true =>
      rw [if_pos rfl, if_pos rfl]
      rw [hs] at h37
      have h93 : SP 93 [vb true, i64 12] (i64 0) false := S93 true 12
      have h90 : ∀ f : Nat → List AV, (f 0 = [i64 0] ∧ f 1 = [i64 0]) → SP 90 [.rslice 1 2 f] (i64 0) false := fun f h => by
        have h := S90_2 0 0 h
        rwa [first2, if_neg (by simp)] at h
      refine sound (d := 2) tok2 mixed2 Tryz.func84 (by kernel_rfl) (by kernel_rfl) ?_
      conv => whnf
      refine .inl ⟨_, _, byX rfl (Sound1.pl (h37) rfl), ?_⟩
      conv => whnf
      refine .inl ⟨_, _, byX rfl (Sound1.pl (h93) rfl), ?_⟩
      conv => whnf
      refine .inl ⟨_, _, byX rfl (Sound1.pl (h90 _ ⟨rfl, rfl⟩) rfl), ?_⟩
      conv => whnf
      refine ⟨[], [0, 6], fun st mq => ∃ (k : Nat) (c : Int) (F0 : Nat → List AV), (c = (k : Nat)) ∧ (k ≤ 10) ∧ (marF l k = marF l 10) ∧ st = ⟨[(0, ints l), (6, i64 c)], ⟨[⟨1, 2, F0, 0, false, true, false⟩], [], none, 0⟩, []⟩ ∧ mq = k,
        ⟨_, _, ⟨10, 10, _, rfl, by omega, rfl, rfl, rfl⟩, ⟨⟨.inl rfl, rfl, rfl, rfl⟩, ⟨⟨rfl, rfl, rfl, rfl, fun _ => rfl, fun _ _ => .inl rfl⟩, trivial⟩, trivial⟩⟩, ?_⟩
      rintro s0 m0 ⟨k, c, F0, hc, hk, hm, rfl, hmeas⟩
      subst hc
      by_cases hk0 : k = 0
      · subst hk0
        rw [← hm]
        conv => whnf
        conv => whnf
        refine ⟨?_, nofun⟩
        exact ave_tup2 rfl rfl
      · obtain ⟨d, rfl⟩ : ∃ d, k = d + 1 := ⟨k - 1, by omega⟩
        have hsl := shP_len (-((d + 1 : Nat) : Int)) l
        have hpl := hp.len
        have h149 := S149 l (-((d + 1 : Nat) : Int)) hp.p2 hp.ps (by omega)
        have h64 := S64 (shP (-((d + 1 : Nat) : Int)) l) (by omega)
        by_cases hq : polyE (shP (-((d + 1 : Nat) : Int)) l) = 0
        · have h109 := S109 _ (PolyOk.of hq)
          rw [hq] at h64
          have hok : okS l (d + 1) = stabB (shP (-((d + 1 : Nat) : Int)) l) := if_pos hq
          cases hst : stabB (shP (-((d + 1 : Nat) : Int)) l) with
          | true =>
            rw [hst] at h109
            have hm2 : marF l (d + 1) = d + 1 := if_pos (hok.trans hst)
            rw [← hm, hm2]
            conv => whnf
            conv => whnf
            refine ifB_dec (fun w1 => ?_) (fun w1 => ?_)
            · conv => whnf
              conv => whnf
              refine ⟨inK64 (by omega) (by omega), ?_⟩
              conv => whnf
              conv => whnf
              refine .inl ⟨_, _, byX rfl (h149), ?_⟩
              conv => whnf
              conv => whnf
              refine .inl ⟨_, _, byX rfl (Sound1.pl (h64) rfl), ?_⟩
              conv => whnf
              conv => whnf
              refine .inl ⟨_, _, byX rfl (Sound1.pl (h109) rfl), ?_⟩
              conv => whnf
              conv => whnf
              refine ⟨?_, nofun⟩
              exact ave_tup2 rfl rfl
            · (exfalso; omega)
          | false =>
            rw [hst] at h109
            have hm2 : marF l (d + 1) = marF l d := if_neg (by rw [hok, hst]; nofun)
            conv => whnf
            conv => whnf
            refine ifB_dec (fun w1 => ?_) (fun w1 => ?_)
            · conv => whnf
              conv => whnf
              refine ⟨inK64 (by omega) (by omega), ?_⟩
              conv => whnf
              conv => whnf
              refine .inl ⟨_, _, byX rfl (h149), ?_⟩
              conv => whnf
              conv => whnf
              refine .inl ⟨_, _, byX rfl (Sound1.pl (h64) rfl), ?_⟩
              conv => whnf
              conv => whnf
              refine .inl ⟨_, _, byX rfl (Sound1.pl (h109) rfl), ?_⟩
              conv => whnf
              conv => whnf
              refine ⟨inK64 (by omega) (by omega), ?_⟩
              conv => whnf
              conv => whnf
              refine ⟨_, _, ⟨⟨d, ((d + 1 : Nat) : Int) - 1, _, by omega, by omega, hm2.symm.trans hm, rfl, rfl⟩, by omega⟩, ⟨⟨.inl rfl, rfl, rfl, rfl⟩, ⟨⟨rfl, rfl, rfl, rfl, fun _ => rfl, fun _ _ => .inl rfl⟩, trivial⟩, trivial⟩⟩
            · (exfalso; omega)
        · have hok : okS l (d + 1) = false := if_neg hq
          have hm2 : marF l (d + 1) = marF l d := if_neg (by rw [hok]; nofun)
          conv => whnf
          conv => whnf
          refine ifB_dec (fun w1 => ?_) (fun w1 => ?_)
          · conv => whnf
            conv => whnf
            refine ⟨inK64 (by omega) (by omega), ?_⟩
            conv => whnf
            conv => whnf
            refine .inl ⟨_, _, byX rfl (h149), ?_⟩
            conv => whnf
            conv => whnf
            refine .inl ⟨_, _, byX rfl (Sound1.pl (h64) rfl), ?_⟩
            conv => whnf
            conv => whnf
            refine ifB_beq (fun w2 => ?_) (fun w2 => ?_)
            · (exfalso; omega)
            · conv => whnf
              conv => whnf
              refine ⟨inK64 (by omega) (by omega), ?_⟩
              conv => whnf
              conv => whnf
              refine ⟨_, _, ⟨⟨d, ((d + 1 : Nat) : Int) - 1, _, by omega, by omega, hm2.symm.trans hm, rfl, rfl⟩, by omega⟩, ⟨⟨.inl rfl, rfl, rfl, rfl⟩, ⟨⟨rfl, rfl, rfl, rfl, fun _ => rfl, fun _ _ => .inl rfl⟩, trivial⟩, trivial⟩⟩
          · (exfalso; omega)
    | false =>
      rw [if_neg (by nofun), if_neg (by nofun)]
      rw [hs] at h37
      have h93 : SP 93 [vb false, i64 12] (i64 12) false := S93 false 12
      have h90 : ∀ f : Nat → List AV, (f 0 = [i64 0] ∧ f 1 = [i64 12]) → SP 90 [.rslice 1 2 f] (i64 12) false := fun f h => by
        have h := S90_2 0 12 h
        rwa [first2, if_neg (by simp)] at h
      refine sound (d := 2) tok2 mixed2 Tryz.func84 (by kernel_rfl) (by kernel_rfl) ?_
      conv => whnf
      refine .inl ⟨_, _, byX rfl (Sound1.pl (h37) rfl), ?_⟩
      conv => whnf
      refine .inl ⟨_, _, byX rfl (Sound1.pl (h93) rfl), ?_⟩
      conv => whnf
      refine .inl ⟨_, _, byX rfl (Sound1.pl (h90 _ ⟨rfl, rfl⟩) rfl), ?_⟩
      conv => whnf
      refine ⟨?_, nofun⟩
      exact ave_tup2 rfl rfl
  · rw [if_neg h0, if_neg h0]
    rw [if_neg h0] at h37
    have h93 : SP 93 [vb false, i64 12] (i64 12) false := S93 false 12
    have h90 : ∀ (f : Nat → List AV), (f 0 = [i64 (polyE l)] ∧ f 1 = [i64 12]) → SP 90 [.rslice 1 2 f] (i64 (polyE l)) false := fun f h => by
      have h := S90_2 (polyE l) 12 h
      rwa [first2, if_pos h0] at h
    refine sound (d := 2) tok2 mixed2 Tryz.func84 (by kernel_rfl) (by kernel_rfl) ?_
    conv => whnf
    refine .inl ⟨_, _, byX rfl (Sound1.pl (h37) rfl), ?_⟩
    conv => whnf
    refine .inl ⟨_, _, byX rfl (Sound1.pl (h93) rfl), ?_⟩
    conv => whnf
    refine .inl ⟨_, _, byX rfl (Sound1.pl (h90 _ ⟨rfl, rfl⟩) rfl), ?_⟩
    conv => whnf
    refine ifB_bne (fun w1 => ?_) (fun w1 => ?_)
    · conv => whnf
      refine ⟨?_, nofun⟩
      exact ave_tup2 rfl rfl
    · (exfalso; omega)
end Go.Tr

/- The law GovernorMargins returns true. Conditions: none. -/
namespace Go.Tr
open Go Go.Proofs
set_option maxRecDepth 20000
set_option maxHeartbeats 8000000

theorem coefs_of {l : List Int} (h : polyE l = 0) : coefsE l = 0 := by
  unfold polyE at h
  by_cases h1 : shapeE l.length = 0
  · rw [if_neg (not_not_intro h1)] at h
    by_cases h2 : coefsE l = 0
    · exact h2
    · rw [if_pos h2] at h; exact absurd h h2
  · rw [if_pos h1] at h; exact absurd h h1
theorem shE_in {t : Int} {l : List Int} (ht : -10 ≤ t ∧ t ≤ 10) : shE t l = if coefsE (shP t l) ≠ 0 then 8 else 0 := if_neg (not_not_intro ht)
theorem S86 (l : List Int) (hp : PolyOk l) : SP 86 [ints l] (.tuple [i64 (if stabB l = true then (marF l 10 : Nat) else 0), vb (stabB l)]) false := by
  have h67 := S67 l hp
  have hpl := hp.len
  cases hs : stabB l with
  | false =>
    rw [hs] at h67
    rw [if_neg (by nofun)]
    refine sound (d := 2) tok2 mixed2 Tryz.func86 (by kernel_rfl) (by kernel_rfl) ?_
    conv => whnf
    refine .inl ⟨_, _, byX rfl (Sound1.pl (h67) rfl), ?_⟩
    conv => whnf
    refine ⟨?_, nofun⟩
    exact ave_tup2 rfl rfl
  | true =>
    rw [hs] at h67
    rw [if_pos rfl]
    refine sound (d := 2) tok2 mixed2 Tryz.func86 (by kernel_rfl) (by kernel_rfl) ?_
    conv => whnf
    refine .inl ⟨_, _, byX rfl (Sound1.pl (h67) rfl), ?_⟩
    conv => whnf
    refine ⟨[], [0, 4, 5], fun st mq => ∃ (d : Nat) (n : Nat), (d ≤ 10) ∧ (n = marF l d) ∧ st = ⟨[(0, ints l), (4, i64 n), (5, i64 (d + 1 : Nat))], ⟨[], [], none, 0⟩, []⟩ ∧ mq = 10 - d,
      ⟨_, _, ⟨0, 0, by omega, rfl, rfl, rfl⟩, ⟨⟨.inl rfl, rfl, rfl, rfl⟩, trivial, trivial⟩⟩, ?_⟩
    rintro s0 m0 ⟨d, n, hd, hn, rfl, hmeas⟩
    by_cases hlt : d < 10
    · have h85 := S85 l (-((d + 1 : Nat) : Int)) hp.p2 hp.ps
      have hE := shE_in (t := -((d + 1 : Nat) : Int)) (l := l) (by omega)
      have hsl := shP_len (-((d + 1 : Nat) : Int)) l
      by_cases hc : coefsE (shP (-((d + 1 : Nat) : Int)) l) = 0
      · rw [if_neg (not_not_intro hc)] at hE
        rw [hE, if_pos rfl] at h85
        have h21 := S21 (shP (-((d + 1 : Nat) : Int)) l) (by omega)
        by_cases hq : polyE (shP (-((d + 1 : Nat) : Int)) l) = 0
        · rw [hq] at h21
          have h67q := S67 _ (PolyOk.of hq)
          have hok : okS l (d + 1) = stabB (shP (-((d + 1 : Nat) : Int)) l) := if_pos hq
          cases hst : stabB (shP (-((d + 1 : Nat) : Int)) l) with
          | true =>
            rw [hst] at h67q
            have hm2 : marF l (d + 1) = d + 1 := if_pos (hok.trans hst)
            conv => whnf
            conv => whnf
            refine ifB_dec (fun w1 => ?_) (fun w1 => ?_)
            · conv => whnf
              conv => whnf
              refine ⟨inK64 (by omega) (by omega), ?_⟩
              conv => whnf
              conv => whnf
              refine .inl ⟨_, _, byX rfl (h85), ?_⟩
              conv => whnf
              conv => whnf
              refine .inl ⟨_, _, byX rfl (Sound1.pl (h21) rfl), ?_⟩
              conv => whnf
              conv => whnf
              refine .inl ⟨_, _, byX rfl (Sound1.pl (h67q) rfl), ?_⟩
              conv => whnf
              conv => whnf
              refine ⟨inK64 (by omega) (by omega), ?_⟩
              conv => whnf
              conv => whnf
              refine ⟨_, _, ⟨⟨d + 1, d + 1, by omega, hm2.symm, rfl, rfl⟩, by omega⟩, ⟨⟨.inl rfl, rfl, rfl, rfl⟩, trivial, trivial⟩⟩
            · (exfalso; omega)
          | false =>
            rw [hst] at h67q
            have hm2 : marF l (d + 1) = marF l d := if_neg (by rw [hok, hst]; nofun)
            conv => whnf
            conv => whnf
            refine ifB_dec (fun w1 => ?_) (fun w1 => ?_)
            · conv => whnf
              conv => whnf
              refine ⟨inK64 (by omega) (by omega), ?_⟩
              conv => whnf
              conv => whnf
              refine .inl ⟨_, _, byX rfl (h85), ?_⟩
              conv => whnf
              conv => whnf
              refine .inl ⟨_, _, byX rfl (Sound1.pl (h21) rfl), ?_⟩
              conv => whnf
              conv => whnf
              refine .inl ⟨_, _, byX rfl (Sound1.pl (h67q) rfl), ?_⟩
              conv => whnf
              conv => whnf
              refine ⟨inK64 (by omega) (by omega), ?_⟩
              conv => whnf
              conv => whnf
              refine ⟨_, _, ⟨⟨d + 1, n, by omega, hn.trans hm2.symm, rfl, rfl⟩, by omega⟩, ⟨⟨.inl rfl, rfl, rfl, rfl⟩, trivial, trivial⟩⟩
            · (exfalso; omega)
        · have hok : okS l (d + 1) = false := if_neg hq
          have hm2 : marF l (d + 1) = marF l d := if_neg (by rw [hok]; nofun)
          conv => whnf
          conv => whnf
          refine ifB_dec (fun w1 => ?_) (fun w1 => ?_)
          · conv => whnf
            conv => whnf
            refine ⟨inK64 (by omega) (by omega), ?_⟩
            conv => whnf
            conv => whnf
            refine .inl ⟨_, _, byX rfl (h85), ?_⟩
            conv => whnf
            conv => whnf
            refine .inl ⟨_, _, byX rfl (Sound1.pl (h21) rfl), ?_⟩
            conv => whnf
            conv => whnf
            refine ifB_beq (fun w2 => ?_) (fun w2 => ?_)
            · (exfalso; omega)
            · conv => whnf
              conv => whnf
              refine ⟨inK64 (by omega) (by omega), ?_⟩
              conv => whnf
              conv => whnf
              refine ⟨_, _, ⟨⟨d + 1, n, by omega, hn.trans hm2.symm, rfl, rfl⟩, by omega⟩, ⟨⟨.inl rfl, rfl, rfl, rfl⟩, trivial, trivial⟩⟩
          · (exfalso; omega)
      · rw [if_pos hc] at hE
        rw [hE, if_neg (show ¬ (8 : Int) = 0 by decide)] at h85
        have hok : okS l (d + 1) = false := if_neg (fun h => hc (coefs_of h))
        have hm2 : marF l (d + 1) = marF l d := if_neg (by rw [hok]; nofun)
        conv => whnf
        conv => whnf
        refine ifB_dec (fun w1 => ?_) (fun w1 => ?_)
        · conv => whnf
          conv => whnf
          refine ⟨inK64 (by omega) (by omega), ?_⟩
          conv => whnf
          conv => whnf
          refine .inl ⟨_, _, byX rfl (h85), ?_⟩
          conv => whnf
          conv => whnf
          refine ⟨inK64 (by omega) (by omega), ?_⟩
          conv => whnf
          conv => whnf
          refine ⟨_, _, ⟨⟨d + 1, n, by omega, hn.trans hm2.symm, rfl, rfl⟩, by omega⟩, ⟨⟨.inl rfl, rfl, rfl, rfl⟩, trivial, trivial⟩⟩
        · (exfalso; omega)
    · have e : d = 10 := by omega
      subst e
      subst hn
      conv => whnf
      conv => whnf
      refine ⟨?_, nofun⟩
      exact ave_tup2 rfl rfl
theorem S14 (l : List Int) (t : Int) (hl : l.length ≤ 9223372036854775807) : SP 14 [ints l, i64 t] (vb true) false := by
  have h17 := S17 l hl
  by_cases hls : l.length ≤ 7
  · rw [decide_eq_true hls] at h17
    have hl1 : l.length ≤ 1000000 := by omega
    have h19 := S19 l hl1
    have h83 := S83 l t hl1
    have h84 := S84 l hl1
    have h21 := S21 l hl1
    by_cases h0 : polyE l = 0
    · have hp := PolyOk.of h0
      have hE : shftE t l = shE t l := if_pos h0
      rw [hE] at h83
      rw [if_pos h0, if_pos h0] at h84
      rw [h0] at h21
      have h85 := S85 l t hp.p2 hp.ps
      have h86 := S86 l hp
      have hpl := hp.len
      have hsl : (if shE t l = 0 then shP t l else []).length ≤ 1000 := by
        split
        · rw [shP_len]; exact hpl
        · simp
      generalize (if shE t l = 0 then shP t l else []) = R at h83 h85 hsl
      have h26 := S26 R R (by omega) (by omega)
      rw [decide_eq_true rfl] at h26
      cases hs : stabB l with
      | true =>
        rw [hs, if_pos rfl, if_pos rfl] at h84
        rw [hs, if_pos rfl] at h86
        refine sound (d := 2) tok2 mixed2 Tryz.func14 (by kernel_rfl) (by kernel_rfl) ?_
        conv => whnf
        refine .inl ⟨_, _, byX rfl (Sound1.pl (S16) rfl), ?_⟩
        conv => whnf
        refine .inl ⟨_, _, byX rfl (Sound1.pl (h17) rfl), ?_⟩
        conv => whnf
        refine .inl ⟨_, _, byX rfl (h19), ?_⟩
        conv => whnf
        refine .inl ⟨_, _, byX rfl (h83), ?_⟩
        conv => whnf
        refine .inl ⟨_, _, byX rfl (h19), ?_⟩
        conv => whnf
        refine .inl ⟨_, _, byX rfl (Sound1.pl (h84) rfl), ?_⟩
        conv => whnf
        refine .inl ⟨_, _, byX rfl (Sound1.pl (h21) rfl), ?_⟩
        conv => whnf
        refine .inl ⟨_, _, byX rfl (h85), ?_⟩
        conv => whnf
        refine .inl ⟨_, _, byX rfl (Sound1.pl (h86) rfl), ?_⟩
        conv => whnf
        refine ifB_beq (fun w1 => ?_) (fun w1 => ?_)
        · conv => whnf
          refine .inl ⟨_, _, byX rfl (Sound1.pl (h26) rfl), ?_⟩
          conv => whnf
          refine ifB_beq (fun w2 => ?_) (fun w2 => ?_)
          · conv => whnf
            refine ⟨?_, nofun⟩
            (rfl)
          · (exfalso; omega)
        · (exfalso; omega)
      | false =>
        rw [hs, if_neg (by nofun), if_neg (by nofun)] at h84
        rw [hs, if_neg (by nofun)] at h86
        refine sound (d := 2) tok2 mixed2 Tryz.func14 (by kernel_rfl) (by kernel_rfl) ?_
        conv => whnf
        refine .inl ⟨_, _, byX rfl (Sound1.pl (S16) rfl), ?_⟩
        conv => whnf
        refine .inl ⟨_, _, byX rfl (Sound1.pl (h17) rfl), ?_⟩
        conv => whnf
        refine .inl ⟨_, _, byX rfl (h19), ?_⟩
        conv => whnf
        refine .inl ⟨_, _, byX rfl (h83), ?_⟩
        conv => whnf
        refine .inl ⟨_, _, byX rfl (h19), ?_⟩
        conv => whnf
        refine .inl ⟨_, _, byX rfl (Sound1.pl (h84) rfl), ?_⟩
        conv => whnf
        refine .inl ⟨_, _, byX rfl (Sound1.pl (h21) rfl), ?_⟩
        conv => whnf
        refine .inl ⟨_, _, byX rfl (h85), ?_⟩
        conv => whnf
        refine .inl ⟨_, _, byX rfl (Sound1.pl (h86) rfl), ?_⟩
        conv => whnf
        refine ifB_beq (fun w1 => ?_) (fun w1 => ?_)
        · conv => whnf
          refine .inl ⟨_, _, byX rfl (Sound1.pl (h26) rfl), ?_⟩
          conv => whnf
          refine ⟨?_, nofun⟩
          (rfl)
        · (exfalso; omega)
    · have hE : shftE t l = polyE l := if_neg h0
      rw [hE, if_neg h0] at h83
      rw [if_neg h0, if_neg h0] at h84
      refine sound (d := 2) tok2 mixed2 Tryz.func14 (by kernel_rfl) (by kernel_rfl) ?_
      conv => whnf
      refine .inl ⟨_, _, byX rfl (Sound1.pl (S16) rfl), ?_⟩
      conv => whnf
      refine .inl ⟨_, _, byX rfl (Sound1.pl (h17) rfl), ?_⟩
      conv => whnf
      refine .inl ⟨_, _, byX rfl (h19), ?_⟩
      conv => whnf
      refine .inl ⟨_, _, byX rfl (h83), ?_⟩
      conv => whnf
      refine .inl ⟨_, _, byX rfl (h19), ?_⟩
      conv => whnf
      refine .inl ⟨_, _, byX rfl (Sound1.pl (h84) rfl), ?_⟩
      conv => whnf
      refine .inl ⟨_, _, byX rfl (Sound1.pl (h21) rfl), ?_⟩
      conv => whnf
      refine ifB_bne (fun w1 => ?_) (fun w1 => ?_)
      · conv => whnf
        refine ifB_beq (fun w2 => ?_) (fun w2 => ?_)
        · conv => whnf
          refine ifB_beq (fun w3 => ?_) (fun w3 => ?_)
          · conv => whnf
            refine ⟨?_, nofun⟩
            (rfl)
          · (exfalso; omega)
        · (exfalso; omega)
      · (exfalso; omega)
  · rw [decide_eq_false hls] at h17
    refine sound (d := 2) tok2 mixed2 Tryz.func14 (by kernel_rfl) (by kernel_rfl) ?_
    conv => whnf
    refine .inl ⟨_, _, byX rfl (Sound1.pl (S16) rfl), ?_⟩
    conv => whnf
    refine .inl ⟨_, _, byX rfl (Sound1.pl (h17) rfl), ?_⟩
    conv => whnf
    refine ⟨?_, nofun⟩
    rfl
end Go.Tr

/- Plain laws: when a polynomial of degree 1 to 4 is stable. Conditions: none. -/
namespace Go.Tr
open Go Go.Proofs
set_option maxRecDepth 20000
set_option maxHeartbeats 8000000

theorem gcd_fold : ∀ (l : List Int) (g : Nat), (l.foldl (fun g x => Nat.gcd g x.natAbs) g ∣ g) ∧ ∀ x ∈ l, (l.foldl (fun g x => Nat.gcd g x.natAbs) g) ∣ x.natAbs
  | [], _ => ⟨Nat.dvd_refl _, fun _ h => absurd h (by simp)⟩
  | x :: l, g => by
    have h := gcd_fold l (Nat.gcd g x.natAbs)
    refine ⟨Nat.dvd_trans h.1 (Nat.gcd_dvd_left _ _), fun y hy => ?_⟩
    rcases List.mem_cons.1 hy with e | hy
    · rw [e]; exact Nat.dvd_trans h.1 (Nat.gcd_dvd_right _ _)
    · exact h.2 y hy
/-- A row is a positive multiple of the row divided by its greatest common divisor. -/
theorem red_pos (l : List Int) : ∃ g : Int, 0 < g ∧ ∀ i, l.getD i 0 = g * (redL l).getD i 0 := by
  unfold redL
  by_cases h : gcdR l = 0
  · rw [if_pos h]; exact ⟨1, by decide, fun i => (Int.one_mul _).symm⟩
  · rw [if_neg h]
    refine ⟨(gcdR l : Nat), by omega, fun i => ?_⟩
    by_cases hi : i < l.length
    · rw [map_getD _ l i hi]
      exact (Int.mul_tdiv_cancel' (Int.ofNat_dvd_left.2 ((gcd_fold l 0).2 _ (getD_memI hi)))).symm
    · simp [List.getD_eq_getElem?_getD, show l.length ≤ i by omega]
theorem gpos {g x : Int} (hg : 0 < g) : 0 < g * x ↔ 0 < x := by
  constructor
  · intro h
    rcases Int.lt_or_le 0 x with h1 | h1
    · exact h1
    · have := Int.mul_le_mul_of_nonneg_left h1 (Int.le_of_lt hg)
      rw [Int.mul_zero] at this
      omega
  · exact fun h => Int.mul_pos hg h
/-- So many rows more all begin above 0. -/
def stG (p : List Int) : Nat → List (List Int) → Prop
  | 0, _ => True
  | n + 1, R => 0 < (nextL p R).getD 0 0 ∧ stG p n (R ++ [nextL p R])
theorem tab_st (p : List Int) : ∀ (n : Nat) (R : List (List Int)), R.length + (n + 1) = p.length → (((tabG p (n + 1) R).length = p.length ∧ 0 < ((tabG p (n + 1) R).getD ((tabG p (n + 1) R).length - 1) []).getD 0 0) ↔ stG p (n + 1) R)
  | n, R, h => by
    have hl : (R ++ [nextL p R]).getD ((R ++ [nextL p R]).length - 1) [] = nextL p R := by simp [List.getD_eq_getElem?_getD]
    by_cases h0 : (nextL p R).getD 0 0 ≤ 0
    · have e : tabG p (n + 1) R = R ++ [nextL p R] := if_pos h0
      rw [e, hl]
      exact ⟨fun hx => absurd hx.2 (by omega), fun hx => absurd hx.1 (by omega)⟩
    · have e : tabG p (n + 1) R = tabG p n (R ++ [nextL p R]) := if_neg h0
      rw [e]
      match n, h with
      | 0, h =>
        show ((R ++ [nextL p R]).length = p.length ∧ 0 < ((R ++ [nextL p R]).getD ((R ++ [nextL p R]).length - 1) []).getD 0 0) ↔ _
        rw [hl]
        exact ⟨fun hx => ⟨hx.2, trivial⟩, fun hx => ⟨by simp; omega, hx.1⟩⟩
      | n + 1, h =>
        rw [tab_st p n (R ++ [nextL p R]) (by simp; omega)]
        exact ⟨fun hx => ⟨by omega, hx⟩, fun hx => hx.2⟩
theorem stab_iff {p : List Int} {n : Nat} (h : p.length = n + 1) : stabB p = true ↔ stG p (n + 1) [] := by
  have ht := tab_st p n [] (by simp; omega)
  rw [← ht]
  unfold stabB tabL
  rw [h, Bool.and_eq_true, decide_eq_true_eq, decide_eq_true_eq]
theorem next_of {p : List Int} {R : List (List Int)} {m k n : Nat} (hm : p.length = m) (hk : R.length = k) (hn : rowN m k = n) : nextL p R = redL ((List.range n).map (rowAt p R)) := by
  unfold nextL rawL
  rw [hm, hk, hn]
theorem st2 (a b : Int) : stabB [a, b] = true ↔ 0 < a ∧ 0 < b := by
  rw [stab_iff (n := 1) rfl]
  obtain ⟨g0, p0, h0⟩ := red_pos [a]
  obtain ⟨g1, p1, h1⟩ := red_pos [b]
  have e0 : a = g0 * (redL [a]).getD 0 0 := h0 0
  have e1 : b = g1 * (redL [b]).getD 0 0 := h1 0
  have n0 : nextL [a, b] [] = redL [a] := (next_of (m := 2) (k := 0) (n := 1) rfl rfl (by decide)).trans rfl
  have n1 : ∀ X, nextL [a, b] [X] = redL [b] := fun _ => (next_of (m := 2) (k := 1) (n := 1) rfl rfl (by decide)).trans rfl
  show (0 < (nextL [a, b] []).getD 0 0 ∧ 0 < (nextL [a, b] [nextL [a, b] []]).getD 0 0 ∧ True) ↔ _
  rw [n1, n0]
  rw [e0, e1, gpos p0, gpos p1]
  simp only [and_true, ← e0, ← e1]
theorem st3 (a b c : Int) : stabB [a, b, c] = true ↔ 0 < a ∧ 0 < b ∧ 0 < c := by
  rw [stab_iff (n := 2) rfl]
  obtain ⟨g0, p0, h0⟩ := red_pos [a, c]
  obtain ⟨g1, p1, h1⟩ := red_pos [b]
  have e0 : a = g0 * (redL [a, c]).getD 0 0 := h0 0
  have e2 : c = g0 * (redL [a, c]).getD 1 0 := h0 1
  have e1 : b = g1 * (redL [b]).getD 0 0 := h1 0
  have z1 : (redL [b]).getD 1 0 = 0 := by
    have h := h1 1
    rcases Int.mul_eq_zero.1 h.symm with h | h
    · omega
    · exact h
  have n0 : nextL [a, b, c] [] = redL [a, c] := (next_of (m := 3) (k := 0) (n := 2) rfl rfl (by decide)).trans rfl
  have n1 : ∀ X, nextL [a, b, c] [X] = redL [b] := fun _ => (next_of (m := 3) (k := 1) (n := 1) rfl rfl (by decide)).trans rfl
  have n2 : ∀ X Y : List Int, nextL [a, b, c] [X, Y] = redL [Y.getD 0 0 * X.getD 1 0 - X.getD 0 0 * Y.getD 1 0] := fun _ _ => (next_of (m := 3) (k := 2) (n := 1) rfl rfl (by decide)).trans rfl
  show (0 < (nextL [a, b, c] []).getD 0 0 ∧ 0 < (nextL [a, b, c] [nextL [a, b, c] []]).getD 0 0 ∧ 0 < (nextL [a, b, c] [nextL [a, b, c] [], nextL [a, b, c] [nextL [a, b, c] []]]).getD 0 0 ∧ True) ↔ _
  rw [n2, n1, n0]
  rw [z1, Int.mul_zero, Int.sub_zero]
  obtain ⟨g2, p2, h2⟩ := red_pos [(redL [b]).getD 0 0 * (redL [a, c]).getD 1 0]
  have e3 := h2 0
  generalize (redL [(redL [b]).getD 0 0 * (redL [a, c]).getD 1 0]).getD 0 0 = z at e3 ⊢
  generalize (redL [a, c]).getD 0 0 = x at e0 e2 e3 ⊢
  generalize (redL [a, c]).getD 1 0 = w at e0 e2 e3 ⊢
  generalize (redL [b]).getD 0 0 = y at e1 e3 ⊢
  have e3 : y * w = g2 * z := e3
  subst e0 e1 e2
  rw [gpos p0, gpos p1, gpos p0]
  constructor
  · rintro ⟨q0, q1, q2, _⟩
    exact ⟨q0, q1, (gpos q1).1 (by rw [e3]; exact (gpos p2).2 q2)⟩
  · rintro ⟨q0, q1, q2⟩
    exact ⟨q0, q1, (gpos p2).1 (by rw [← e3]; exact (gpos q1).2 q2), trivial⟩
theorem st4 (a b c d : Int) : stabB [a, b, c, d] = true ↔ 0 < a ∧ 0 < b ∧ 0 < b * c - a * d ∧ 0 < d := by
  rw [stab_iff (n := 3) rfl]
  obtain ⟨g0, p0, h0⟩ := red_pos [a, c]
  obtain ⟨g1, p1, h1⟩ := red_pos [b, d]
  have ea : a = g0 * (redL [a, c]).getD 0 0 := h0 0
  have ec : c = g0 * (redL [a, c]).getD 1 0 := h0 1
  have eb : b = g1 * (redL [b, d]).getD 0 0 := h1 0
  have ed : d = g1 * (redL [b, d]).getD 1 0 := h1 1
  have n0 : nextL [a, b, c, d] [] = redL [a, c] := (next_of (m := 4) (k := 0) (n := 2) rfl rfl (by decide)).trans rfl
  have n1 : ∀ X, nextL [a, b, c, d] [X] = redL [b, d] := fun _ => (next_of (m := 4) (k := 1) (n := 2) rfl rfl (by decide)).trans rfl
  have n2 : ∀ X Y : List Int, nextL [a, b, c, d] [X, Y] = redL [Y.getD 0 0 * X.getD 1 0 - X.getD 0 0 * Y.getD 1 0] := fun _ _ => (next_of (m := 4) (k := 2) (n := 1) rfl rfl (by decide)).trans rfl
  have n3 : ∀ X Y Z : List Int, nextL [a, b, c, d] [X, Y, Z] = redL [Z.getD 0 0 * Y.getD 1 0 - Y.getD 0 0 * Z.getD 1 0] := fun _ _ _ => (next_of (m := 4) (k := 3) (n := 1) rfl rfl (by decide)).trans rfl
  unfold stG
  rw [n0]
  unfold stG
  simp only [List.nil_append]
  rw [n1]
  unfold stG
  simp only [List.cons_append, List.nil_append]
  rw [n2]
  unfold stG
  simp only [List.cons_append, List.nil_append]
  rw [n3]
  unfold stG
  generalize (redL [a, c]).getD 0 0 = x0 at ea ⊢
  generalize (redL [a, c]).getD 1 0 = x1 at ec ⊢
  generalize (redL [b, d]).getD 0 0 = y0 at eb ⊢
  generalize (redL [b, d]).getD 1 0 = y1 at ed ⊢
  obtain ⟨g2, p2, h2⟩ := red_pos [y0 * x1 - x0 * y1]
  have e2 : y0 * x1 - x0 * y1 = g2 * (redL [y0 * x1 - x0 * y1]).getD 0 0 := h2 0
  have z2 : (redL [y0 * x1 - x0 * y1]).getD 1 0 = 0 := by
    have h := h2 1
    rcases Int.mul_eq_zero.1 h.symm with h | h
    · omega
    · exact h
  rw [z2, Int.mul_zero, Int.sub_zero]
  generalize (redL [y0 * x1 - x0 * y1]).getD 0 0 = z at e2 ⊢
  obtain ⟨g3, p3, h3⟩ := red_pos [z * y1]
  have e3 : z * y1 = g3 * (redL [z * y1]).getD 0 0 := h3 0
  generalize (redL [z * y1]).getD 0 0 = u at e3 ⊢
  subst ea eb ec ed
  have e4 : g1 * y0 * (g0 * x1) - g0 * x0 * (g1 * y1) = g0 * g1 * (g2 * z) := by rw [← e2]; grind
  rw [e4, gpos p0, gpos p1, gpos p1, gpos (Int.mul_pos p0 p1), gpos p2]
  constructor
  · rintro ⟨q0, q1, q2, q3, _⟩
    exact ⟨q0, q1, q2, (gpos q2).1 (by rw [e3]; exact (gpos p3).2 q3)⟩
  · rintro ⟨q0, q1, q2, q3⟩
    exact ⟨q0, q1, q2, (gpos p3).1 (by rw [← e3]; exact (gpos q2).2 q3), trivial⟩
theorem st5 (a b c d e : Int) : stabB [a, b, c, d, e] = true ↔ 0 < a ∧ 0 < b ∧ 0 < b * c - a * d ∧ 0 < (b * c - a * d) * d - b * b * e ∧ 0 < e := by
  rw [stab_iff (n := 4) rfl]
  obtain ⟨g0, p0, h0⟩ := red_pos [a, c, e]
  obtain ⟨g1, p1, h1⟩ := red_pos [b, d]
  have ea : a = g0 * (redL [a, c, e]).getD 0 0 := h0 0
  have ec : c = g0 * (redL [a, c, e]).getD 1 0 := h0 1
  have ee : e = g0 * (redL [a, c, e]).getD 2 0 := h0 2
  have eb : b = g1 * (redL [b, d]).getD 0 0 := h1 0
  have ed : d = g1 * (redL [b, d]).getD 1 0 := h1 1
  have z1 : (redL [b, d]).getD 2 0 = 0 := by
    have h := h1 2
    rcases Int.mul_eq_zero.1 h.symm with h | h
    · omega
    · exact h
  have n0 : nextL [a, b, c, d, e] [] = redL [a, c, e] := (next_of (m := 5) (k := 0) (n := 3) rfl rfl (by decide)).trans rfl
  have n1 : ∀ X, nextL [a, b, c, d, e] [X] = redL [b, d] := fun _ => (next_of (m := 5) (k := 1) (n := 2) rfl rfl (by decide)).trans rfl
  unfold stG
  rw [n0]
  unfold stG
  simp only [List.nil_append]
  rw [n1]
  have n2 : nextL [a, b, c, d, e] [redL [a, c, e], redL [b, d]] = redL [(redL [b, d]).getD 0 0 * (redL [a, c, e]).getD 1 0 - (redL [a, c, e]).getD 0 0 * (redL [b, d]).getD 1 0, (redL [b, d]).getD 0 0 * (redL [a, c, e]).getD 2 0 - (redL [a, c, e]).getD 0 0 * (redL [b, d]).getD 2 0] := (next_of (m := 5) (k := 2) (n := 2) rfl rfl (by decide)).trans rfl
  rw [z1, Int.mul_zero, Int.sub_zero] at n2
  unfold stG
  simp only [List.cons_append, List.nil_append]
  rw [n2]
  have n3 : ∀ X Y Z : List Int, nextL [a, b, c, d, e] [X, Y, Z] = redL [Z.getD 0 0 * Y.getD 1 0 - Y.getD 0 0 * Z.getD 1 0] := fun _ _ _ => (next_of (m := 5) (k := 3) (n := 1) rfl rfl (by decide)).trans rfl
  have n4 : ∀ X Y Z U : List Int, nextL [a, b, c, d, e] [X, Y, Z, U] = redL [U.getD 0 0 * Z.getD 1 0 - Z.getD 0 0 * U.getD 1 0] := fun _ _ _ _ => (next_of (m := 5) (k := 4) (n := 1) rfl rfl (by decide)).trans rfl
  unfold stG
  simp only [List.cons_append, List.nil_append]
  rw [n3]
  unfold stG
  simp only [List.cons_append, List.nil_append]
  rw [n4]
  generalize (redL [a, c, e]).getD 0 0 = x0 at ea ⊢
  generalize (redL [a, c, e]).getD 1 0 = x1 at ec ⊢
  generalize (redL [a, c, e]).getD 2 0 = x2 at ee ⊢
  generalize (redL [b, d]).getD 0 0 = y0 at eb ⊢
  generalize (redL [b, d]).getD 1 0 = y1 at ed ⊢
  obtain ⟨g2, p2, h2⟩ := red_pos [y0 * x1 - x0 * y1, y0 * x2]
  have e2 : y0 * x1 - x0 * y1 = g2 * (redL [y0 * x1 - x0 * y1, y0 * x2]).getD 0 0 := h2 0
  have f2 : y0 * x2 = g2 * (redL [y0 * x1 - x0 * y1, y0 * x2]).getD 1 0 := h2 1
  generalize (redL [y0 * x1 - x0 * y1, y0 * x2]).getD 0 0 = z0 at e2 ⊢
  generalize (redL [y0 * x1 - x0 * y1, y0 * x2]).getD 1 0 = zz at f2 ⊢
  obtain ⟨g3, p3, h3⟩ := red_pos [z0 * y1 - y0 * zz]
  have e3 : z0 * y1 - y0 * zz = g3 * (redL [z0 * y1 - y0 * zz]).getD 0 0 := h3 0
  have u1 : (redL [z0 * y1 - y0 * zz]).getD 1 0 = 0 := by
    have h := h3 1
    rcases Int.mul_eq_zero.1 h.symm with h | h
    · omega
    · exact h
  rw [u1, Int.mul_zero, Int.sub_zero]
  generalize (redL [z0 * y1 - y0 * zz]).getD 0 0 = u at e3 ⊢
  obtain ⟨g4, p4, h4⟩ := red_pos [u * zz]
  have e4 : u * zz = g4 * (redL [u * zz]).getD 0 0 := h4 0
  generalize (redL [u * zz]).getD 0 0 = v at e4 ⊢
  subst ea eb ec ed ee
  have q2 : g1 * y0 * (g0 * x1) - g0 * x0 * (g1 * y1) = g0 * g1 * (g2 * z0) := by rw [← e2]; grind
  have q3 : (g1 * y0 * (g0 * x1) - g0 * x0 * (g1 * y1)) * (g1 * y1) - g1 * y0 * (g1 * y0) * (g0 * x2) = g0 * g1 * (g1 * (g2 * (g3 * u))) := by rw [← e3]; grind
  rw [q3, q2, gpos p0, gpos p1, gpos p0, gpos (Int.mul_pos p0 p1), gpos p2, gpos (Int.mul_pos p0 p1), gpos p1, gpos p2, gpos p3]
  constructor
  · rintro ⟨r0, r1, r2, r3, r4, _⟩
    have s1 : 0 < zz := (gpos r3).1 (by rw [e4]; exact (gpos p4).2 r4)
    exact ⟨r0, r1, r2, r3, (gpos r1).1 (by rw [f2]; exact (gpos p2).2 s1)⟩
  · rintro ⟨r0, r1, r2, r3, r4⟩
    have s1 : 0 < zz := (gpos p2).1 (by rw [← f2]; exact (gpos r1).2 r4)
    exact ⟨r0, r1, r2, r3, (gpos p4).1 (by rw [← e4]; exact (gpos r3).2 s1), trivial⟩
end Go.Tr

/- Plain laws: a polynomial in a box whose corners are stable is stable. Conditions: none. -/
namespace Go.Tr
open Go Go.Proofs
set_option maxRecDepth 20000
set_option maxHeartbeats 8000000

theorem khar2 {a b al bl : Int} (h0 : 0 < al) (ha : al ≤ a) (hb : bl ≤ b) (k1 : stabB [al, bl] = true) : stabB [a, b] = true := by
  rw [st2] at k1 ⊢
  omega
theorem khar3 {a b c al ah bl cl : Int} (h0 : 0 < al) (ha : al ≤ a) (hb : bl ≤ b) (hc : cl ≤ c) (k1 : stabB [ah, bl, cl] = true) : stabB [a, b, c] = true := by
  rw [st3] at k1 ⊢
  omega
theorem mul_mono {a b c d : Int} (h1 : a ≤ b) (h2 : c ≤ d) (h3 : 0 ≤ c) (h4 : 0 ≤ b) : a * c ≤ b * d :=
  Int.le_trans (Int.mul_le_mul_of_nonneg_right h1 h3) (Int.mul_le_mul_of_nonneg_left h2 h4)
theorem khar4 {a b c d al ah bl bh cl dl dh : Int} (h0 : 0 < al) (ha : al ≤ a ∧ a ≤ ah) (hb : bl ≤ b) (hc : cl ≤ c) (hd : dl ≤ d ∧ d ≤ dh) (k1 : stabB [ah, bh, cl, dl] = true) (k3 : stabB [ah, bl, cl, dh] = true) : stabB [a, b, c, d] = true := by
  rw [st4] at k1 k3 ⊢
  obtain ⟨_, _, _, d0⟩ := k1
  obtain ⟨_, b0, q, _⟩ := k3
  have e1 := Int.mul_pos (show 0 < ah by omega) (show 0 < dh by omega)
  have c0 : 0 < cl := (gpos b0).1 (by omega)
  have e2 := mul_mono hb hc (by omega) (by omega)
  have e3 := mul_mono ha.2 hd.2 (by omega) (by omega)
  exact ⟨by omega, by omega, by omega, by omega⟩
theorem le_cancel {x y b : Int} (hb : 0 < b) (h : b * x ≤ b * y) : x ≤ y := Int.le_of_mul_le_mul_left h hb
theorem lt_cancel {x y b : Int} (hb : 0 < b) (h : b * x < b * y) : x < y := Int.lt_of_mul_lt_mul_left h (Int.le_of_lt hb)
/-- What is less at both ends is less between them. -/
theorem between {A C E b bl bh d dl dh : Int} (hA : 0 < A) (hE : 0 < E) (h1 : 0 < bl) (h2 : bl ≤ b) (h3 : b ≤ bh) (g1 : 0 < dl) (g2 : dl ≤ d) (g3 : d ≤ dh)
    (u : A * (dl * dl) + E * (bh * bh) < C * (bh * dl)) (v : A * (dh * dh) + E * (bl * bl) < C * (bl * dh)) : A * (d * d) + E * (b * b) < C * (b * d) := by
  have hb : 0 < b := by omega
  have hd : 0 < d := by omega
  have hbd := Int.mul_pos hb hd
  rcases Int.le_total (E * (b * b)) (A * (d * d)) with h | h
  · have f1 : 0 ≤ dh * b - bl * d := by have := mul_mono g3 h2 (by omega) (by omega); grind
    have f2 : 0 ≤ A * d * dh - E * b * bl := by
      refine le_cancel hb ?_
      have r1 := Int.mul_nonneg (Int.le_of_lt (Int.mul_pos hA hd)) f1
      have r2 := Int.mul_nonneg (show 0 ≤ A * (d * d) - E * (b * b) by omega) (Int.le_of_lt h1)
      grind
    have f3 := Int.mul_nonneg f1 f2
    have hx := Int.mul_pos h1 (show 0 < dh by omega)
    refine lt_cancel hx ?_
    have f4 := Int.mul_lt_mul_of_pos_right v hbd
    grind
  · have f1 : 0 ≤ bh * d - dl * b := by have := mul_mono g2 h3 (by omega) (by omega); grind
    have f2 : 0 ≤ E * b * bh - A * d * dl := by
      refine le_cancel hb ?_
      have r1 := Int.mul_nonneg (Int.le_of_lt (Int.mul_pos hA hd)) f1
      have r2 := Int.mul_nonneg (show 0 ≤ E * (b * b) - A * (d * d) by omega) (show 0 ≤ bh by omega)
      grind
    have f3 := Int.mul_nonneg f1 f2
    have hx := Int.mul_pos (show 0 < bh by omega) g1
    refine lt_cancel hx ?_
    have f4 := Int.mul_lt_mul_of_pos_right u hbd
    grind
theorem sq_nn' (x : Int) : 0 ≤ x * x := by
  rcases Int.le_total 0 x with h | h
  · exact Int.mul_nonneg h h
  · have := Int.mul_nonneg (show 0 ≤ -x by omega) (show 0 ≤ -x by omega)
    rwa [Int.neg_mul_neg] at this
theorem khar5 {a b c d e al ah bl bh cl ch dl dh el eh : Int} (h0 : 0 < al) (ha : al ≤ a ∧ a ≤ ah) (hb : bl ≤ b ∧ b ≤ bh) (hc : cl ≤ c) (hd : dl ≤ d ∧ d ≤ dh) (he : el ≤ e ∧ e ≤ eh)
    (k1 : stabB [al, bh, ch, dl, el] = true) (k2 : stabB [ah, bl, cl, dh, eh] = true) (k3 : stabB [ah, bh, cl, dl, eh] = true) : stabB [a, b, c, d, e] = true := by
  rw [st5] at k1 k2 k3 ⊢
  obtain ⟨_, bh0, p2, p3, e0⟩ := k1
  obtain ⟨_, b0, _, q3, _⟩ := k2
  obtain ⟨_, _, _, r3, _⟩ := k3
  have d0 : 0 < dl := by
    have := Int.mul_pos (Int.mul_pos bh0 bh0) e0
    exact (gpos p2).1 (by omega)
  have hbd := Int.mul_pos (show 0 < b by omega) (show 0 < d by omega)
  have ht := between (A := ah) (C := cl) (E := eh) (by omega) (by omega) b0 hb.1 hb.2 d0 hd.1 hd.2 (by grind) (by grind)
  have t1 := Int.mul_le_mul_of_nonneg_right ha.2 (sq_nn' d)
  have t2 := Int.mul_le_mul_of_nonneg_right he.2 (sq_nn' b)
  have t3 := Int.mul_le_mul_of_nonneg_right hc (Int.le_of_lt hbd)
  have hF : 0 < (b * c - a * d) * d - b * b * e := by grind
  have hbe := Int.mul_pos (Int.mul_pos (show 0 < b by omega) (show 0 < b by omega)) (show 0 < e by omega)
  refine ⟨by omega, by omega, (gpos (show 0 < d by omega)).1 (by rw [Int.mul_comm]; omega), hF, by omega⟩
end Go.Tr

/- Plain laws: the quadrants of a stable polynomial's values never decrease. Conditions: none. -/
namespace Go.Tr
open Go Go.Proofs
set_option maxRecDepth 20000
set_option maxHeartbeats 8000000

/-- The value of a polynomial at a frequency (real and imaginary part); the quadrant of a number that is not 0. -/
def stepV (w : Int) (v : Int × Int) (c : Int) : Int × Int := (c - v.2 * w, v.1 * w)
def valV (p : List Int) (w : Int) : Int × Int := p.foldl (stepV w) (0, 0)
theorem valV_snoc (p : List Int) (c w : Int) : valV (p ++ [c]) w = stepV w (valV p w) c := by simp [valV]
def qdV (v : Int × Int) : Int := if v.1 > 0 ∧ v.2 ≥ 0 then 0 else if v.1 ≤ 0 ∧ v.2 > 0 then 1 else if v.1 < 0 ∧ v.2 ≤ 0 then 2 else 3
/-- What is to be shown of a stable polynomial with so many coefficients. -/
structure Turns (p : List Int) : Prop where
  nz : ∀ w, 0 ≤ w → valV p w ≠ (0, 0)
  zero : qdV (valV p 0) = 0
  hi : ∀ w, 0 ≤ w → qdV (valV p w) ≤ (p.length : Int) - 2
  mono : ∀ w v, 0 ≤ w → w < v → qdV (valV p w) ≤ qdV (valV p v)
theorem qd_nn (v : Int × Int) : 0 ≤ qdV v := by unfold qdV; (repeat' split) <;> omega
theorem sgn_mul {w x : Int} (hw : 0 < w) : (0 < x * w ↔ 0 < x) ∧ (x * w < 0 ↔ x < 0) ∧ (x * w = 0 ↔ x = 0) := by
  have h1 := gpos (x := x) hw
  have h2 := gpos (x := -x) hw
  have e : w * -x = -(w * x) := Int.mul_neg w x
  rw [Int.mul_comm x w]
  rw [e] at h2
  refine ⟨h1, by omega, ⟨fun h => by omega, fun h => by rw [h, Int.mul_zero]⟩⟩
theorem gneg' {g x : Int} (hg : g < 0) : 0 < g * x ↔ x < 0 := by
  have h := gpos (g := -g) (x := -x) (by omega)
  rw [Int.neg_mul_neg] at h
  rw [h]; omega
theorem sq_lt {w v : Int} (h0 : 0 ≤ w) (h : w < v) : w * w < v * v := by
  have h1 := Int.mul_le_mul_of_nonneg_left (Int.le_of_lt h) h0
  have h2 := Int.mul_lt_mul_of_pos_right h (show 0 < v by omega)
  omega
theorem turns2 {a b : Int} (h : stabB [a, b] = true) : Turns [a, b] := by
  rw [st2] at h
  have hv : ∀ w, valV [a, b] w = (b, a * w) := fun w => by
    simp [valV, stepV]
  have hq : ∀ w, 0 ≤ w → qdV (valV [a, b] w) = 0 := fun w hw => by
    rw [hv]
    have := Int.mul_nonneg (show 0 ≤ a by omega) hw
    exact if_pos ⟨h.2, this⟩
  refine ⟨fun w hw => ?_, hq 0 (by omega), fun w hw => by rw [hq w hw]; simp, fun w v hw hv => by rw [hq w hw, hq v (by omega)]; omega⟩
  rw [hv]
  intro h1
  have := congrArg Prod.fst h1
  simp at this
  omega
theorem turns3 {a b c : Int} (h : stabB [a, b, c] = true) : Turns [a, b, c] := by
  rw [st3] at h
  have hv : ∀ w, valV [a, b, c] w = (c - a * (w * w), b * w) := fun w => by
    simp [valV, stepV, Int.mul_assoc]
  have hq : ∀ w, 0 ≤ w → qdV (valV [a, b, c] w) = if w = 0 then 0 else if 0 < c - a * (w * w) then 0 else 1 := fun w hw => by
    rw [hv]
    unfold qdV
    by_cases h0 : w = 0
    · subst h0
      rw [if_pos rfl, if_pos (by simp; omega)]
    · have := Int.mul_pos h.2.1 (show 0 < w by omega)
      rw [if_neg h0]
      dsimp only
      (repeat' split) <;> omega
  refine ⟨fun w hw => ?_, hq 0 (by omega), fun w hw => by rw [hq w hw]; simp; (repeat' split) <;> omega, fun w v hw hv => ?_⟩
  · rw [hv]
    intro h1
    have h2 := congrArg Prod.fst h1
    have h3 := congrArg Prod.snd h1
    dsimp only at h2 h3
    rcases Int.mul_eq_zero.1 h3 with h3 | h3
    · omega
    · subst h3; simp at h2; omega
  · rw [hq w hw, hq v (by omega)]
    have e := Int.mul_lt_mul_of_pos_left (sq_lt hw hv) h.1
    (repeat' split) <;> omega
theorem qd_wj {w R J : Int} (hw : 0 < w) : qdV (R, J * w) = if 0 < R ∧ 0 ≤ J then 0 else if R ≤ 0 ∧ 0 < J then 1 else if R < 0 ∧ J ≤ 0 then 2 else 3 := by
  have h := sgn_mul (x := J) hw
  unfold qdV
  dsimp only
  (repeat' split) <;> omega
theorem turns4 {a b c d : Int} (h : stabB [a, b, c, d] = true) : Turns [a, b, c, d] := by
  rw [st4] at h
  obtain ⟨ha, hb, hD, hd⟩ := h
  have hv : ∀ w, valV [a, b, c, d] w = (d - b * (w * w), (c - a * (w * w)) * w) := fun w => by
    simp [valV, stepV, Int.mul_assoc]
  have key : ∀ u, 0 ≤ d - b * u → 0 < c - a * u := fun u hu => by
    have h1 := Int.mul_nonneg (Int.le_of_lt ha) hu
    refine (gpos hb).1 ?_
    grind
  have h0 : ∀ w, w = 0 → qdV (valV [a, b, c, d] w) = 0 := fun w hw => by
    subst hw
    rw [hv]
    exact if_pos ⟨by simp; omega, by simp⟩
  have hq : ∀ w, 0 < w → qdV (valV [a, b, c, d] w) = if 0 < d - b * (w * w) then 0 else if 0 < c - a * (w * w) then 1 else 2 := fun w hw => by
    have := key (w * w)
    rw [hv, qd_wj hw]
    (repeat' split) <;> omega
  refine ⟨fun w hw => ?_, h0 0 rfl, fun w hw => ?_, fun w v hw hv => ?_⟩
  · rw [hv]
    intro h1
    have h2 := congrArg Prod.fst h1
    have h3 := congrArg Prod.snd h1
    dsimp only at h2 h3
    have := key (w * w)
    rcases Int.mul_eq_zero.1 h3 with h3 | h3
    · omega
    · subst h3; simp at h2; omega
  · rcases (show w = 0 ∨ 0 < w by omega) with h | h
    · rw [h0 w h]; simp
    · rw [hq w h]; simp; (repeat' split) <;> omega
  · have e1 := Int.mul_lt_mul_of_pos_left (sq_lt hw hv) ha
    have e2 := Int.mul_lt_mul_of_pos_left (sq_lt hw hv) hb
    rcases (show w = 0 ∨ 0 < w by omega) with h | h
    · rw [h0 w h]; exact qd_nn _
    · have k1 := key (w * w)
      have k2 := key (v * v)
      rw [hq w h, hq v (by omega)]
      (repeat' split) <;> omega
theorem turns5 {a b c d e : Int} (h : stabB [a, b, c, d, e] = true) : Turns [a, b, c, d, e] := by
  rw [st5] at h
  obtain ⟨ha, hb, hD, hD3, he⟩ := h
  have hv : ∀ w, valV [a, b, c, d, e] w = (a * (w * w) * (w * w) - c * (w * w) + e, (d - b * (w * w)) * w) := fun w => by
    simp [valV, stepV]
    constructor <;> grind
  have hbb := Int.mul_pos hb hb
  -- the real part, times the square of b, by the imaginary one
  have hG : ∀ u, b * b * (a * u * u - c * u + e) = -((b * c - a * d) * d - b * b * e) + (d - b * u) * (c * b - 2 * (a * d) + a * (d - b * u)) := fun u => by grind
  have key : ∀ u, d - b * u = 0 → a * u * u - c * u + e < 0 := fun u hu => by
    have h1 := hG u
    rw [hu, Int.zero_mul] at h1
    have h2 : 0 < b * b * -(a * u * u - c * u + e) := by rw [Int.mul_neg, h1]; omega
    have := (gpos hbb).1 h2
    omega
  have right : ∀ u t, d - b * u > d - b * t → d - b * t > 0 → a * t * t - c * t + e > 0 → a * u * u - c * u + e > 0 := fun u t h1 h2 h3 => by
    have g1 := hG u
    have g2 := hG t
    have g3 := Int.mul_pos hbb h3
    generalize hx : d - b * u = x at h1 g1
    generalize hy : d - b * t = y at h1 h2 g2
    generalize c * b - 2 * (a * d) = k at g1 g2
    have k1 : 0 < k + a * y := (gpos h2).1 (by omega)
    have k2 := Int.mul_lt_mul_of_pos_left h1 ha
    have k3 := mul_mono (Int.le_of_lt h1) (show k + a * y ≤ k + a * x by omega) (by omega) (by omega)
    exact (gpos hbb).1 (by omega)
  have left : ∀ u t, d - b * u > d - b * t → d - b * u < 0 → a * u * u - c * u + e ≥ 0 → a * t * t - c * t + e ≥ 0 := fun u t h1 h2 h3 => by
    have g1 := hG u
    have g2 := hG t
    have g3 := Int.mul_nonneg (Int.le_of_lt hbb) h3
    generalize hx : d - b * u = x at h1 h2 g1
    generalize hy : d - b * t = y at h1 g2
    generalize c * b - 2 * (a * d) = k at g1 g2
    have k1 : k + a * x < 0 := (gneg' h2).1 (by omega)
    have k2 := Int.mul_lt_mul_of_pos_left h1 ha
    have k3 := mul_mono (show -x ≤ -y by omega) (show -(k + a * x) ≤ -(k + a * y) by omega) (by omega) (by omega)
    rw [Int.neg_mul_neg, Int.neg_mul_neg] at k3
    have k4 : 0 < b * b * (a * t * t - c * t + e) + 1 := by omega
    rcases Int.lt_or_le (a * t * t - c * t + e) 0 with h | h
    · have := Int.mul_pos hbb (show 0 < -(a * t * t - c * t + e) by omega)
      rw [Int.mul_neg] at this
      omega
    · exact h
  have h0 : ∀ w, w = 0 → qdV (valV [a, b, c, d, e] w) = 0 := fun w hw => by
    subst hw
    rw [hv]
    exact if_pos ⟨by simp; omega, by simp⟩
  refine ⟨fun w hw => ?_, h0 0 rfl, fun w hw => ?_, fun w v hw hv2 => ?_⟩
  · rw [hv]
    intro h1
    have h2 := congrArg Prod.fst h1
    have h3 := congrArg Prod.snd h1
    dsimp only at h2 h3
    have := key (w * w)
    rcases Int.mul_eq_zero.1 h3 with h3 | h3
    · omega
    · subst h3; simp at h2; omega
  · unfold qdV
    show _ ≤ (5 : Int) - 2
    (repeat' split) <;> omega
  · have e2 := Int.mul_lt_mul_of_pos_left (sq_lt hw hv2) hb
    rcases (show w = 0 ∨ 0 < w by omega) with h | h
    · rw [h0 w h]; exact qd_nn _
    · have k1 := key (w * w)
      have k2 := key (v * v)
      have r := right (w * w) (v * v) (by omega)
      have l := left (w * w) (v * v) (by omega)
      rw [hv, hv, qd_wj h, qd_wj (show 0 < v by omega)]
      (repeat' split) <;> omega
theorem turns {p : List Int} (h2 : 2 ≤ p.length ∧ p.length ≤ 5) (h : stabB p = true) : Turns p := by
  match p, h2, h with
  | [a, b], _, h => exact turns2 h
  | [a, b, c], _, h => exact turns3 h
  | [a, b, c, d], _, h => exact turns4 h
  | [a, b, c, d, e], _, h => exact turns5 h
  | [], h2, _ => simp at h2
  | [_], h2, _ => simp at h2
  | _ :: _ :: _ :: _ :: _ :: _ :: _, h2, _ => simp at h2
/-- All coefficients of a stable polynomial are above 0. -/
theorem stab_pos {p : List Int} (h2 : 2 ≤ p.length ∧ p.length ≤ 5) (h : stabB p = true) : ∀ x ∈ p, 0 < x := by
  match p, h2, h with
  | [a, b], _, h => rw [st2] at h; simp; omega
  | [a, b, c], _, h => rw [st3] at h; simp; omega
  | [a, b, c, d], _, h =>
    rw [st4] at h
    have := Int.mul_pos h.1 h.2.2.2
    have hc : 0 < c := (gpos h.2.1).1 (by omega)
    simp; omega
  | [a, b, c, d, e], _, h =>
    rw [st5] at h
    obtain ⟨h1, h2, h3, h4, h5⟩ := h
    have q1 := Int.mul_pos (Int.mul_pos h2 h2) h5
    have hd : 0 < d := (gpos h3).1 (by omega)
    have q2 := Int.mul_pos h1 hd
    have hc : 0 < c := (gpos h2).1 (by omega)
    simp; omega
  | [], h2, _ => simp at h2
  | [_], h2, _ => simp at h2
  | _ :: _ :: _ :: _ :: _ :: _ :: _, h2, _ => simp at h2
end Go.Tr

/- Contracts of chapter 6: values at a frequency, quadrants. Conditions: none. -/
namespace Go.Tr
open Go Go.Proofs
set_option maxRecDepth 20000
set_option maxHeartbeats 8000000

def bV : Nat → Nat
  | 0 => 0
  | k + 1 => 1000 * bV k + 1000
theorem bV_le {k : Nat} (h : k ≤ 5) : bV k ≤ 1001001001001000 := by
  have : k = 0 ∨ k = 1 ∨ k = 2 ∨ k = 3 ∨ k = 4 ∨ k = 5 := by omega
  rcases this with rfl | rfl | rfl | rfl | rfl | rfl <;> decide
theorem bV_lt {k : Nat} (h : k ≤ 4) : bV k ≤ 1001001001000 := by
  have : k = 0 ∨ k = 1 ∨ k = 2 ∨ k = 3 ∨ k = 4 := by omega
  rcases this with rfl | rfl | rfl | rfl | rfl <;> decide
theorem valV_b {p : List Int} (hs : Sml 1000 p) {w : Int} (hw : w.natAbs ≤ 1000) : ∀ k, k ≤ p.length → (valV (p.take k) w).1.natAbs ≤ bV k ∧ (valV (p.take k) w).2.natAbs ≤ bV k
  | 0, _ => by simp [valV, bV]
  | k + 1, hk => by
    have ih := valV_b hs hw k (by omega)
    rw [take_snocI (show k < p.length by omega), valV_snoc]
    have h1 : (p.getD k 0).natAbs ≤ 1000 := hs _ (getD_memI (by omega))
    have h2 := mul_sml ih.1 hw
    have h3 := mul_sml ih.2 hw
    unfold stepV bV
    dsimp only
    omega
theorem isZ0 : IsZ 0 0 := by
  have := IsZ.ofInt (z := 0) (by decide)
  have e : FloatKind.f64.nearest 0 = 0 := by decide +kernel
  rwa [e] at this
theorem isZ1 : IsZ 4607182418800017408 1 := by
  have := IsZ.ofInt (z := 1) (by decide)
  have e : FloatKind.f64.nearest 1 = 4607182418800017408 := by decide +kernel
  rwa [e] at this
theorem inK_small {z : Int} (h : z.natAbs ≤ 1001001001001000) : inK .i64 z := by
  constructor
  · show (-9223372036854775808 : Int) ≤ z
    omega
  · show z ≤ (9223372036854775807 : Int)
    omega
theorem S92 (p : List Int) (w : Int) (hp : PolyOk p) (hw : 0 ≤ w ∧ w ≤ 1000) : SP 92 [ints p, i64 w] (.agg [i64 (valV p w).1, i64 (valV p w).2]) false := by
  have hp2 := hp.p2
  have hwz := IsZ.ofInt (z := w) (by have : (2 : Nat) ^ 53 = 9007199254740992 := by decide
                                     omega)
  have h53 : (2 : Nat) ^ 53 = 9007199254740992 := by decide
  have hat := cmul isZ0 isZ1 hwz isZ0 (by omega) (by omega) (by omega) (by omega) (by omega) (by omega)
  have hr : IsZ ((cOp .mul 0 4607182418800017408 (FloatKind.f64.nearest w) 0).getD (0, 0)).1 0 := by
    have h := hat.2.1
    rwa [show (0 : Int) * w - 1 * 0 = 0 by omega] at h
  have hi : IsZ ((cOp .mul 0 4607182418800017408 (FloatKind.f64.nearest w) 0).getD (0, 0)).2 w := by
    have h := hat.2.2
    rwa [show (0 : Int) * 0 + 1 * w = w by omega] at h
  refine sound (d := 2) tok2 mixed2 Tryz.func92 (by kernel_rfl) (by kernel_rfl) ?_
  conv => whnf
  refine ⟨?_, ?_⟩
  · exact hat.1
  · conv => whnf
    refine ⟨[], [4, 5, 6, 13, 14, 15], fun st mq => ∃ (k : Nat) (a : Nat) (b : Nat) (re : Nat) (im : Nat), (k ≤ p.length) ∧ (IsZ a 0) ∧ (IsZ b w) ∧ (IsZ re (valV (p.take k) w).1) ∧ (IsZ im (valV (p.take k) w).2) ∧ st = ⟨[(4, .optr 0 0 0 0), (5, .val (.complex .f64 re im)), (6, .val (.complex .f64 a b)), (13, ints p), (14, i64 p.length), (15, i64 k)], ⟨[⟨2, 1, fun _ => [i64 0, i64 0], 0, false, true, true⟩], [], none, 0⟩, []⟩ ∧ mq = p.length - k,
      ⟨_, _, ⟨0, _, _, 0, 0, by omega, hr, hi, isZ0, isZ0, rfl, rfl⟩, ⟨⟨.inl rfl, rfl, rfl, rfl⟩, ⟨⟨rfl, rfl, rfl, rfl, fun _ => rfl, fun _ _ => .inl rfl⟩, trivial⟩, trivial⟩⟩, ?_⟩
    rintro s0 m0 ⟨k, a, b, re, im, hk, ha, hb, h1, h2, rfl, hmeas⟩
    have hv := valV_b hp.ps (w := w) (by omega) k hk
    by_cases hlt : k < p.length
    · have hbk := bV_lt (k := k) (by omega)
      have hc : (p.getD k 0).natAbs ≤ 1000 := hp.ps _ (getD_memI hlt)
      have hcz : IsZ (FloatKind.f64.nearest (p.getD (k : Int).toNat 0)) (p.getD k 0) := IsZ.ofInt (z := p.getD k 0) (by omega)
      have m1 := mul_sml hv.1 (show w.natAbs ≤ 1000 by omega)
      have m2 := mul_sml hv.2 (show w.natAbs ≤ 1000 by omega)
      have hm := cmul h1 h2 ha hb (by rw [Int.mul_zero]; decide) (by omega) (by omega) (by rw [Int.mul_zero]; decide) (by rw [Int.mul_zero]; omega) (by rw [Int.mul_zero]; omega)
      have hs := cadd hm.2.1 hm.2.2 hcz isZ0 (by rw [Int.mul_zero]; omega) (by rw [Int.mul_zero]; omega)
      have e1 : (valV (p.take (k + 1)) w).1 = (valV (p.take k) w).1 * 0 - (valV (p.take k) w).2 * w + p.getD k 0 := by
        rw [take_snocI hlt, valV_snoc]
        unfold stepV
        dsimp only
        omega
      have e2 : (valV (p.take (k + 1)) w).2 = (valV (p.take k) w).1 * w + (valV (p.take k) w).2 * 0 + 0 := by
        rw [take_snocI hlt, valV_snoc]
        unfold stepV
        dsimp only
        omega
      rw [← e1, ← e2] at hs
      conv => whnf
      conv => whnf
      refine ifB_dec (fun w1 => ?_) (fun w1 => ?_)
      · conv => whnf
        conv => whnf
        refine ⟨⟨(by omega), (by omega)⟩, ?_⟩
        conv => whnf
        conv => whnf
        refine ⟨?_, ?_⟩
        · exact hm.1
        · conv => whnf
          conv => whnf
          refine ⟨?_, ?_⟩
          · exact hs.1
          · conv => whnf
            conv => whnf
            refine ⟨inK64 (by omega) (by omega), ?_⟩
            conv => whnf
            conv => whnf
            refine ⟨_, _, ⟨⟨k + 1, a, b, _, _, by omega, ha, hb, hs.2.1, hs.2.2, rfl, rfl⟩, by omega⟩, ⟨⟨.inl rfl, rfl, rfl, rfl⟩, ⟨⟨rfl, rfl, rfl, rfl, fun _ => rfl, fun _ _ => .inl rfl⟩, trivial⟩, trivial⟩⟩
      · (exfalso; omega)
    · have e : k = p.length := by omega
      subst e
      rw [List.take_length] at h1 h2 hv
      have hbk := bV_le (k := p.length) (by omega)
      have t1 := h1.toInt
      have t2 := h2.toInt
      conv => whnf
      conv => whnf
      refine ifB_dec (fun w1 => ?_) (fun w1 => ?_)
      · (exfalso; omega)
      · conv => whnf
        conv => whnf
        refine ⟨?_, ?_⟩
        · rw [t1]
          exact ⟨rfl, inK_small (by show (valV p w).1.natAbs ≤ _; omega)⟩
        · conv => whnf
          conv => whnf
          refine ⟨?_, ?_⟩
          · rw [t2]
            exact ⟨rfl, inK_small (by show (valV p w).2.natAbs ≤ _; omega)⟩
          · conv => whnf
            conv => whnf
            refine ⟨?_, nofun⟩
            rw [t1, t2]
            exact ave_agg2 rfl rfl
def freqE (w : Int) : Int := if 0 ≤ w ∧ w ≤ 1000 then 0 else 2
theorem S91 (w : Int) : SP 91 [i64 w] (i64 (freqE w)) false := by
  have h := S118 w 0 1000
  have h93 := S93 (win w 0 1000) 2
  refine sound (d := 2) tok2 mixed2 Tryz.func91 (by kernel_rfl) (by kernel_rfl) ?_
  conv => whnf
  refine .inl ⟨_, _, byX rfl (Sound1.pl (h) rfl), ?_⟩
  conv => whnf
  refine .inl ⟨_, _, byX rfl (Sound1.pl (h93) rfl), ?_⟩
  conv => whnf
  refine ⟨?_, nofun⟩
  exact endi (by unfold freqE win; simp)
theorem S22 (w : Int) : SP 22 [i64 w] (i64 (freqE w)) false := by
  have h := S68 w 0 1000
  refine sound (d := 2) tok2 mixed2 Tryz.func22 (by kernel_rfl) (by kernel_rfl) ?_
  unfold freqE
  conv => whnf
  refine .inl ⟨_, _, byX rfl (Sound1.pl (h) rfl), ?_⟩
  conv => whnf
  refine ifB_not ?_
  conv => whnf
  refine ifB_dec (fun w1 => ?_) (fun w1 => ?_)
  · conv => whnf
    refine ⟨?_, nofun⟩
    rw [if_pos w1]; rfl
  · conv => whnf
    refine ⟨?_, nofun⟩
    rw [if_neg w1]; rfl
abbrev gaA (v : Int × Int) : AV := .agg [i64 v.1, i64 v.2]
theorem qd_le (v : Int × Int) : qdV v ≤ 3 := by unfold qdV; (repeat' split) <;> omega
theorem qd_turn {a b : Int} (h : ¬ (a > 0 ∧ b ≥ 0)) (h0 : a ≠ 0 ∨ b ≠ 0) : qdV (b, -a) + 1 = qdV (a, b) := by
  unfold qdV
  dsimp only
  (repeat' split) <;> omega
/-- The quadrant as the package finds it: turned until it is 0. -/
theorem S96 (v : Int × Int) (h0 : v ≠ (0, 0)) (h1 : v.1.natAbs ≤ 1001001001001000) (h2 : v.2.natAbs ≤ 1001001001001000) : SP 96 [gaA v] (i64 (qdV v)) false := by
  have hn : v.1 ≠ 0 ∨ v.2 ≠ 0 := by
    rcases v with ⟨a, b⟩
    by_cases ha : a = 0
    · by_cases hb : b = 0
      · subst ha hb; exact absurd rfl h0
      · exact .inr hb
    · exact .inl ha
  refine sound (d := 2) tok2 mixed2 Tryz.func96 (by kernel_rfl) (by kernel_rfl) ?_
  conv => whnf
  refine ⟨[], [1, 3], fun st mq => ∃ (q : Nat) (a : Int) (b : Int), ((q : Int) + qdV (a, b) = qdV v) ∧ (a ≠ 0 ∨ b ≠ 0) ∧ (a.natAbs ≤ 1001001001001000) ∧ (b.natAbs ≤ 1001001001001000) ∧ st = ⟨[(1, .optr 0 0 0 0), (3, i64 q)], ⟨[⟨2, 1, fun _ => [i64 a, i64 b], 0, false, true, true⟩], [], none, 0⟩, []⟩ ∧ mq = (qdV (a, b)).toNat,
    ⟨_, _, ⟨0, v.1, v.2, by simp, hn, h1, h2, rfl, rfl⟩, ⟨⟨.inl rfl, rfl, rfl, rfl⟩, ⟨⟨rfl, rfl, rfl, rfl, fun _ => rfl, fun _ _ => .inl rfl⟩, trivial⟩, trivial⟩⟩, ?_⟩
  rintro s0 m0 ⟨q, a, b, hq, hn2, ha, hb, rfl, hmeas⟩
  have k1 := qd_nn (a, b)
  have k2 := qd_le v
  have k3 := qd_nn (b, -a)
  by_cases hin : a > 0 ∧ b ≥ 0
  · have k4 : qdV (a, b) = 0 := if_pos hin
    conv => whnf
    conv => whnf
    refine ifB_dec (fun w1 => ?_) (fun w1 => ?_)
    · conv => whnf
      conv => whnf
      refine ifB_not ?_
      conv => whnf
      conv => whnf
      refine ifB_dec (fun w2 => ?_) (fun w2 => ?_)
      · conv => whnf
        conv => whnf
        refine ⟨?_, nofun⟩
        (first | (exfalso; omega) | exact endi (by omega))
      · (exfalso; omega)
    · (exfalso; omega)
  · have k4 := qd_turn hin hn2
    conv => whnf
    conv => whnf
    refine ifB_dec (fun w1 => ?_) (fun w1 => ?_)
    · conv => whnf
      conv => whnf
      refine ifB_not ?_
      conv => whnf
      conv => whnf
      refine ifB_dec (fun w2 => ?_) (fun w2 => ?_)
      · (exfalso; omega)
      · conv => whnf
        conv => whnf
        refine ⟨inK64 (by omega) (by omega), ?_⟩
        conv => whnf
        conv => whnf
        refine ⟨inK64 (by omega) (by omega), ?_⟩
        conv => whnf
        conv => whnf
        refine ⟨_, _, ⟨⟨q + 1, b, -a, by omega, by omega, by omega, by omega, rfl, rfl⟩, by omega⟩, ⟨⟨.inl rfl, rfl, rfl, rfl⟩, ⟨⟨rfl, rfl, rfl, rfl, fun _ => rfl, fun _ _ => .inl rfl⟩, trivial⟩, trivial⟩⟩
    · conv => whnf
      conv => whnf
      refine ⟨inK64 (by omega) (by omega), ?_⟩
      conv => whnf
      conv => whnf
      refine ⟨inK64 (by omega) (by omega), ?_⟩
      conv => whnf
      conv => whnf
      refine ⟨_, _, ⟨⟨q + 1, b, -a, by omega, by omega, by omega, by omega, rfl, rfl⟩, by omega⟩, ⟨⟨.inl rfl, rfl, rfl, rfl⟩, ⟨⟨rfl, rfl, rfl, rfl, fun _ => rfl, fun _ _ => .inl rfl⟩, trivial⟩, trivial⟩⟩
theorem gaA_eq {a b c d : Int} (h1 : a = c) (h2 : b = d) : AVE 5 (.agg [i64 a, i64 b]) (gaA (c, d)) := by
  subst h1 h2
  exact ave_agg2 rfl rfl
theorem S98 (v u : Int × Int) (h1 : v.1.natAbs ≤ 1001001001001000) (h2 : v.2.natAbs ≤ 1001001001001000) (g1 : u.1.natAbs ≤ 1001001001001000) (g2 : u.2.natAbs ≤ 1001001001001000) : SP 98 [gaA v, gaA u] (gaA (v.1 + u.1, v.2 + u.2)) false := by
  refine sound (d := 2) tok2 mixed2 Tryz.func98 (by kernel_rfl) (by kernel_rfl) ?_
  conv => whnf
  refine ⟨inK64 (by omega) (by omega), ?_⟩
  conv => whnf
  refine ⟨inK64 (by omega) (by omega), ?_⟩
  conv => whnf
  refine ⟨?_, nofun⟩
  exact gaA_eq rfl rfl
theorem S99 (v u : Int × Int) (h1 : v.1.natAbs ≤ 1001001001001) (h2 : v.2.natAbs ≤ 1001001001001) (g1 : u.1.natAbs ≤ 1000) (g2 : u.2.natAbs ≤ 1000) : SP 99 [gaA v, gaA u] (gaA (v.1 * u.1 - v.2 * u.2, v.1 * u.2 + v.2 * u.1)) false := by
  have e1 := mul_sml h1 g1
  have e2 := mul_sml h2 g2
  have e3 := mul_sml h1 g2
  have e4 := mul_sml h2 g1
  refine sound (d := 2) tok2 mixed2 Tryz.func99 (by kernel_rfl) (by kernel_rfl) ?_
  conv => whnf
  refine ⟨inK64 (by omega) (by omega), ?_⟩
  conv => whnf
  refine ⟨inK64 (by omega) (by omega), ?_⟩
  conv => whnf
  refine ⟨inK64 (by omega) (by omega), ?_⟩
  conv => whnf
  refine ⟨inK64 (by omega) (by omega), ?_⟩
  conv => whnf
  refine ⟨inK64 (by omega) (by omega), ?_⟩
  conv => whnf
  refine ⟨inK64 (by omega) (by omega), ?_⟩
  conv => whnf
  refine ⟨?_, nofun⟩
  exact gaA_eq rfl rfl
theorem S100 (v : Int × Int) : SP 100 [gaA v] (i64 (qdV v)) false := by
  unfold qdV
  refine sound (d := 2) tok2 mixed2 Tryz.func100 (by kernel_rfl) (by kernel_rfl) ?_
  conv => whnf
  refine ifB_dec (fun w1 => ?_) (fun w1 => ?_)
  · conv => whnf
    refine ifB_dec (fun w2 => ?_) (fun w2 => ?_)
    · conv => whnf
      refine ⟨?_, nofun⟩
      (exact endi (by (repeat' split) <;> omega))
    · conv => whnf
      refine ifB_dec (fun w3 => ?_) (fun w3 => ?_)
      · (exfalso; omega)
      · conv => whnf
        refine ifB_dec (fun w4 => ?_) (fun w4 => ?_)
        · (exfalso; omega)
        · conv => whnf
          refine ⟨?_, nofun⟩
          (exact endi (by (repeat' split) <;> omega))
  · conv => whnf
    refine ifB_dec (fun w2 => ?_) (fun w2 => ?_)
    · conv => whnf
      refine ifB_dec (fun w3 => ?_) (fun w3 => ?_)
      · conv => whnf
        refine ⟨?_, nofun⟩
        (exact endi (by (repeat' split) <;> omega))
      · conv => whnf
        refine ifB_dec (fun w4 => ?_) (fun w4 => ?_)
        · conv => whnf
          refine ifB_dec (fun w5 => ?_) (fun w5 => ?_)
          · conv => whnf
            refine ⟨?_, nofun⟩
            (exact endi (by (repeat' split) <;> omega))
          · (exfalso; omega)
        · conv => whnf
          refine ⟨?_, nofun⟩
          (exact endi (by (repeat' split) <;> omega))
    · (exfalso; omega)
end Go.Tr

/- Contracts of chapter 6: grids, quadrants on a grid. Conditions: none. -/
namespace Go.Tr
open Go Go.Proofs
set_option maxRecDepth 20000
set_option maxHeartbeats 8000000

theorem S23 (p : List Int) (w : Int) (hp : PolyOk p) (hw : 0 ≤ w ∧ w ≤ 1000) : SP 23 [ints p, i64 w] (gaA (valV p w)) false := by
  have hp2 := hp.p2
  refine sound (d := 2) tok2 mixed2 Tryz.func23 (by kernel_rfl) (by kernel_rfl) ?_
  conv => whnf
  refine ⟨[], [0, 1, 4, 5, 6], fun st mq => ∃ (k : Nat) (a : Int) (b : Int), (k ≤ p.length) ∧ ((a, b) = valV (p.take k) w) ∧ st = ⟨[(0, ints p), (1, i64 w), (4, .optr 0 0 0 0), (5, .optr 1 0 0 0), (6, i64 k)], ⟨[⟨2, 1, fun _ => [i64 0, i64 0], 0, false, true, true⟩, ⟨2, 1, fun _ => [i64 a, i64 b], 0, false, true, true⟩], [], none, 0⟩, []⟩ ∧ mq = p.length - k,
    ⟨_, _, ⟨0, 0, 0, by omega, rfl, rfl, rfl⟩, ⟨⟨.inl rfl, rfl, rfl, rfl⟩, ⟨⟨rfl, rfl, rfl, rfl, fun _ => rfl, fun _ _ => .inl rfl⟩, ⟨⟨rfl, rfl, rfl, rfl, fun _ => rfl, fun _ _ => .inl rfl⟩, trivial⟩⟩, trivial⟩⟩, ?_⟩
  rintro s0 m0 ⟨k, a, b, hk, h1, rfl, hmeas⟩
  have hv := valV_b hp.ps (w := w) (by omega) k hk
  by_cases hlt : k < p.length
  · have hbk := bV_lt (k := k) (by omega)
    have hc : (p.getD k 0).natAbs ≤ 1000 := hp.ps _ (getD_memI hlt)
    rw [← h1] at hv
    have m1 := mul_sml hv.1 (show w.natAbs ≤ 1000 by omega)
    have m2 := mul_sml hv.2 (show w.natAbs ≤ 1000 by omega)
    dsimp only at hv m1 m2
    have h99 := S99 (a, b) (0, w) (by dsimp only; omega) (by dsimp only; omega) (by show (0 : Int).natAbs ≤ 1000; decide) (by dsimp only; omega)
    have h98 := S98 (a * 0 - b * w, a * w + b * 0) (p.getD (k : Int).toNat 0, 0) (by dsimp only; omega) (by dsimp only; omega) (by show (p.getD k 0).natAbs ≤ _; omega) (by show (0 : Int).natAbs ≤ _; decide)
    have e : (a * 0 - b * w + p.getD k 0, a * w + b * 0 + 0) = valV (p.take (k + 1)) w := by
      rw [take_snocI hlt, valV_snoc, ← h1]
      unfold stepV
      dsimp only
      refine Prod.ext ?_ ?_
      · dsimp only; omega
      · dsimp only; omega
    conv => whnf
    conv => whnf
    refine ifB_dec (fun w1 => ?_) (fun w1 => ?_)
    · conv => whnf
      conv => whnf
      refine ⟨[], by kernel_rfl, ?_⟩
      conv => whnf
      conv => whnf
      refine .inl ⟨_, _, byX rfl (Sound1.pl (h99) rfl), ?_⟩
      conv => whnf
      conv => whnf
      refine ⟨⟨(by omega), (by omega)⟩, ?_⟩
      conv => whnf
      conv => whnf
      refine .inl ⟨_, _, byX rfl (Sound1.pl (h98) rfl), ?_⟩
      conv => whnf
      conv => whnf
      refine ⟨inK64 (by omega) (by omega), ?_⟩
      conv => whnf
      conv => whnf
      refine ⟨_, _, ⟨⟨k + 1, a * 0 - b * w + p.getD k 0, a * w + b * 0 + 0, by omega, e, rfl, rfl⟩, by omega⟩, ⟨⟨.inl rfl, rfl, rfl, rfl⟩, ⟨⟨rfl, rfl, rfl, rfl, fun _ => rfl, fun _ _ => .inl rfl⟩, ⟨⟨rfl, rfl, rfl, rfl, fun _ => rfl, fun _ _ => .inl rfl⟩, trivial⟩⟩, trivial⟩⟩
    · (exfalso; omega)
  · have e : k = p.length := by omega
    subst e
    rw [List.take_length] at h1
    rw [← h1]
    conv => whnf
    conv => whnf
    refine ifB_dec (fun w1 => ?_) (fun w1 => ?_)
    · (exfalso; omega)
    · conv => whnf
      conv => whnf
      refine ⟨?_, nofun⟩
      exact gaA_eq rfl rfl
/-- The error of a grid at a place; of a grid. -/
def grE (l : List Int) (k : Nat) (x : Int) : Int := firstOf [freqE x, if k = 0 ∨ x > l.getD (k - 1) 0 then 0 else 9]
def gridE (l : List Int) : Int := if l.length > 20 then 8 else (eachI (grE l) l 0).2
theorem freqE_cases (x : Int) : freqE x = 0 ∨ freqE x = 2 := by unfold freqE; split <;> simp
theorem S24 (l : List Int) (hl : l.length ≤ 9223372036854775807) : SP 24 [ints l] (i64 (gridE l)) false := by
  unfold gridE
  by_cases h20 : l.length > 20
  · rw [if_pos h20]
    refine sound (d := 2) tok2 mixed2 Tryz.func24 (by kernel_rfl) (by kernel_rfl) ?_
    conv => whnf
    refine ifB_dec (fun w1 => ?_) (fun w1 => ?_)
    · conv => whnf
      refine ⟨?_, nofun⟩
      rfl
    · (exfalso; omega)
  · rw [if_neg h20]
    refine sound (d := 2) tok2 mixed2 Tryz.func24 (by kernel_rfl) (by kernel_rfl) ?_
    conv => whnf
    refine ifB_dec (fun w1 => ?_) (fun w1 => ?_)
    · (exfalso; omega)
    · conv => whnf
      refine ⟨[], [0, 3], fun st mq => ∃ (k : Nat), (k ≤ l.length) ∧ (eachI (grE l) (l.drop k) k = eachI (grE l) l 0) ∧ st = ⟨[(0, ints l), (3, i64 k)], ⟨[], [], none, 0⟩, []⟩ ∧ mq = l.length - k,
        ⟨_, _, ⟨0, by omega, rfl, rfl, rfl⟩, ⟨⟨.inl rfl, rfl, rfl, rfl⟩, trivial, trivial⟩⟩, ?_⟩
      rintro s0 m0 ⟨k, hk, he, rfl, hmeas⟩
      by_cases hlt : k < l.length
      · have hd := eachI_drop (grE l) l k hlt
        have h22 := S22 (l.getD (k : Int).toNat 0)
        by_cases hf : freqE (l.getD k 0) = 0
        · have h22' : SP 22 [i64 (l.getD (k : Int).toNat 0)] (i64 0) false := by
            have h := h22
            rwa [show freqE (l.getD (k : Int).toNat 0) = 0 from hf] at h
          have hg : grE l k (l.getD k 0) = if k = 0 ∨ l.getD k 0 > l.getD (k - 1) 0 then 0 else 9 := by
            unfold grE
            rw [first2, if_neg (not_not_intro hf)]
          have ek : ((k : Int) - 1).toNat = k - 1 := by omega
          conv => whnf
          conv => whnf
          refine ifB_dec (fun w2 => ?_) (fun w2 => ?_)
          · conv => whnf
            conv => whnf
            refine ⟨⟨(by omega), (by omega)⟩, ?_⟩
            conv => whnf
            conv => whnf
            refine .inl ⟨_, _, byX rfl (Sound1.pl (h22') rfl), ?_⟩
            conv => whnf
            conv => whnf
            refine ⟨[], by kernel_rfl, ?_⟩
            conv => whnf
            conv => whnf
            refine ifB_dec (fun w3 => ?_) (fun w3 => ?_)
            · conv => whnf
              conv => whnf
              refine ⟨⟨(by omega), (by omega)⟩, ?_⟩
              conv => whnf
              conv => whnf
              refine ⟨inK64 (by omega) (by omega), ?_⟩
              conv => whnf
              conv => whnf
              refine ⟨⟨(by omega), (by omega)⟩, ?_⟩
              conv => whnf
              conv => whnf
              refine ifB_dec (fun w4 => ?_) (fun w4 => ?_)
              · conv => whnf
                conv => whnf
                refine ⟨?_, nofun⟩
                have w5 : l.getD k 0 ≤ l.getD ((k : Int) - 1).toNat 0 := w4
                rw [ek] at w5
                rw [hg.trans (if_neg (by omega)), if_neg (by decide)] at hd
                exact endi (by rw [← he, hd])
              · conv => whnf
                conv => whnf
                refine ⟨inK64 (by omega) (by omega), ?_⟩
                have w5 : ¬ l.getD k 0 ≤ l.getD ((k : Int) - 1).toNat 0 := w4
                rw [ek] at w5
                rw [hg.trans (if_pos (by omega)), if_pos rfl] at hd
                conv => whnf
                conv => whnf
                refine ⟨_, _, ⟨⟨k + 1, by omega, hd.symm.trans he, rfl, rfl⟩, by omega⟩, ⟨⟨.inl rfl, rfl, rfl, rfl⟩, trivial, trivial⟩⟩
            · conv => whnf
              conv => whnf
              refine ⟨inK64 (by omega) (by omega), ?_⟩
              rw [hg.trans (if_pos (by omega)), if_pos rfl] at hd
              conv => whnf
              conv => whnf
              refine ⟨_, _, ⟨⟨k + 1, by omega, hd.symm.trans he, rfl, rfl⟩, by omega⟩, ⟨⟨.inl rfl, rfl, rfl, rfl⟩, trivial, trivial⟩⟩
          · (exfalso; omega)
        · have hg : grE l k (l.getD k 0) = freqE (l.getD k 0) := by
            unfold grE
            rw [first2, if_pos hf]
          rw [hg, if_neg hf] at hd
          conv => whnf
          conv => whnf
          refine ifB_dec (fun w2 => ?_) (fun w2 => ?_)
          · conv => whnf
            conv => whnf
            refine ⟨⟨(by omega), (by omega)⟩, ?_⟩
            conv => whnf
            conv => whnf
            refine .inl ⟨_, _, byX rfl (Sound1.pl (h22) rfl), ?_⟩
            conv => whnf
            conv => whnf
            refine ifB_bne (fun w3 => ?_) (fun w3 => ?_)
            · conv => whnf
              conv => whnf
              refine ⟨?_, nofun⟩
              (first | (exact absurd w3 hf) | exact endi (by rw [← he, hd]; rfl))
            · conv => whnf
              conv => whnf
              refine ⟨[], by kernel_rfl, ?_⟩
              conv => whnf
              conv => whnf
              refine ifB_dec (fun w4 => ?_) (fun w4 => ?_)
              · conv => whnf
                conv => whnf
                refine ⟨⟨(by omega), (by omega)⟩, ?_⟩
                conv => whnf
                conv => whnf
                refine ⟨inK64 (by omega) (by omega), ?_⟩
                conv => whnf
                conv => whnf
                refine ⟨⟨(by omega), (by omega)⟩, ?_⟩
                conv => whnf
                conv => whnf
                refine ifB_dec (fun w5 => ?_) (fun w5 => ?_)
                · conv => whnf
                  conv => whnf
                  refine ⟨?_, nofun⟩
                  (first | (exact absurd w3 hf) | exact endi (by rw [← he, hd]; rfl))
                · conv => whnf
                  conv => whnf
                  refine ⟨inK64 (by omega) (by omega), ?_⟩
                  (first | (exact absurd w3 hf) | exact endi (by rw [← he, hd]; rfl))
              · conv => whnf
                conv => whnf
                refine ⟨inK64 (by omega) (by omega), ?_⟩
                (first | (exact absurd w3 hf) | exact endi (by rw [← he, hd]; rfl))
          · (exfalso; omega)
          all_goals exact absurd w3 hf
      · have e : k = l.length := by omega
        subst e
        rw [List.drop_length] at he
        conv => whnf
        conv => whnf
        refine ifB_dec (fun w2 => ?_) (fun w2 => ?_)
        · (exfalso; omega)
        · conv => whnf
          conv => whnf
          refine ⟨?_, nofun⟩
          exact endi (by rw [← he]; rfl)
def quadL (p l : List Int) : List Int := l.map fun w => qdV (valV p w)
def quadB (p l : List Int) : Bool := l.all fun w => decide (valV p w ≠ (0, 0))
theorem S94c (f : Nat) (X : List AV) (g : Nat → Int → Int) (l : List Int) (hl : l.length ≤ 1000000000) (hf : ∀ k : Nat, k < l.length → SP f [i64 k, i64 (l.getD k 0), .rptr X] (i64 (g k (l.getD k 0))) false) : SP 94 [ints l, .func (.func f) 0 [.rptr X]] (.tuple [i64 (eachI g l 0).1, i64 (eachI g l 0).2]) false := by
  refine sound (d := 2) tok2 mixed2 Tryz.func94 (by kernel_rfl) (by kernel_rfl) ?_
  conv => whnf
  refine ⟨[], [1, 9, 10, 11], fun st mq => ∃ (k : Nat), (k ≤ l.length) ∧ (eachI g (l.drop k) k = eachI g l 0) ∧ st = ⟨[(1, .func (.func f) 0 [.rptr X]), (9, ints l), (10, i64 l.length), (11, i64 k)], ⟨[], [], none, 0⟩, []⟩ ∧ mq = l.length - k,
    ⟨_, _, ⟨0, by omega, rfl, rfl, rfl⟩, ⟨⟨.inl rfl, rfl, rfl, rfl⟩, trivial, trivial⟩⟩, ?_⟩
  rintro s0 m0 ⟨k, hk, he, rfl, hmeas⟩
  by_cases hlt : k < l.length
  · have hd := eachI_drop g l k hlt
    have hc := hf k hlt
    conv => whnf
    conv => whnf
    refine ifB_dec (fun w1 => ?_) (fun w1 => ?_)
    · conv => whnf
      conv => whnf
      refine ⟨⟨(by omega), (by omega)⟩, ?_⟩
      conv => whnf
      conv => whnf
      refine .inl ⟨_, _, byX rfl (Sound1.pl (hc) rfl), ?_⟩
      conv => whnf
      conv => whnf
      refine ifB_bne (fun w2 => ?_) (fun w2 => ?_)
      · conv => whnf
        conv => whnf
        refine ⟨?_, nofun⟩
        rw [if_neg w2] at hd
        exact ave_tup2 (endi (by rw [← he, hd])) (endi (by rw [← he, hd]))
      · conv => whnf
        conv => whnf
        refine ⟨inK64 (by omega) (by omega), ?_⟩
        rw [if_pos w2] at hd
        conv => whnf
        conv => whnf
        refine ⟨_, _, ⟨⟨k + 1, by omega, hd.symm.trans he, rfl, rfl⟩, by omega⟩, ⟨⟨.inl rfl, rfl, rfl, rfl⟩, trivial, trivial⟩⟩
    · (exfalso; omega)
  · have e : k = l.length := by omega
    subst e
    rw [List.drop_length] at he
    conv => whnf
    conv => whnf
    refine ifB_dec (fun w1 => ?_) (fun w1 => ?_)
    · (exfalso; omega)
    · conv => whnf
      conv => whnf
      refine ⟨?_, nofun⟩
      exact ave_tup2 (endi (by rw [← he]; rfl)) (endi (by rw [← he]; rfl))
theorem S95 (l : List Int) (hl : l.length ≤ 1000000) (k : Nat) (hk : k < l.length) (x : Int) : SP 95 [i64 k, i64 x, .rptr [ints l]] (i64 (grE l k x)) false := by
  have h91 := S91 x
  have h93 := fun b c => S93 b c
  have h90 := fun a b => @S90_2 a b
  refine sound (d := 2) tok2 mixed2 Tryz.func95 (by kernel_rfl) (by kernel_rfl) ?_
  conv => whnf
  refine .inl ⟨_, _, byX rfl (Sound1.pl (h91) rfl), ?_⟩
  conv => whnf
  refine ifB_beq (fun w1 => ?_) (fun w1 => ?_)
  · conv => whnf
    refine .inl ⟨_, _, byX rfl (Sound1.pl (h93 _ _) rfl), ?_⟩
    conv => whnf
    refine .inl ⟨_, _, byX rfl (Sound1.pl (h90 _ _ ⟨rfl, rfl⟩) rfl), ?_⟩
    conv => whnf
    refine ⟨?_, nofun⟩
    have hk0 : k = 0 := by omega
    exact endi (by unfold grE; simp [hk0])
  · conv => whnf
    refine ⟨inK64 (by omega) (by omega), ?_⟩
    conv => whnf
    refine ⟨⟨(by omega), (by omega)⟩, ?_⟩
    conv => whnf
    refine .inl ⟨_, _, byX rfl (Sound1.pl (h93 _ _) rfl), ?_⟩
    conv => whnf
    refine .inl ⟨_, _, byX rfl (Sound1.pl (h90 _ _ ⟨rfl, rfl⟩) rfl), ?_⟩
    conv => whnf
    refine ⟨?_, nofun⟩
    have hk0 : k ≠ 0 := by omega
    have ek : (if (k : Int) - 1 > 0 then (k : Int) - 1 else 0).toNat = k - 1 := by split <;> omega
    rw [ek]
    exact endi (by unfold grE; simp [hk0])
end Go.Tr

/- Contracts of chapter 6: quadrants on a grid; the law GovernorValues. Conditions: none. -/
namespace Go.Tr
open Go Go.Proofs
set_option maxRecDepth 20000
set_option maxHeartbeats 8000000

theorem eachI_all (g : Nat → Int → Int) : ∀ (l : List Int) (k : Nat), (eachI g l k).2 = 0 → ∀ i, i < l.length → g (k + i) (l.getD i 0) = 0
  | [], _, _, i, hi => absurd hi (Nat.not_lt_zero i)
  | y :: l, k, h, i, hi => by
    unfold eachI at h
    by_cases hy : g k y = 0
    · rw [if_pos hy] at h
      match i, hi with
      | 0, _ => exact hy
      | i + 1, hi =>
        have := eachI_all g l (k + 1) h i (by simpa using hi)
        rw [show k + (i + 1) = k + 1 + i by omega]
        exact this
    · rw [if_neg hy] at h; exact absurd h hy
structure GridOk (l : List Int) : Prop where
  n : l.length ≤ 20
  rg : ∀ i, i < l.length → 0 ≤ l.getD i 0 ∧ l.getD i 0 ≤ 1000
  up : ∀ i, i + 1 < l.length → l.getD i 0 < l.getD (i + 1) 0
theorem GridOk.of {l : List Int} (h : gridE l = 0) : GridOk l := by
  unfold gridE at h
  by_cases h20 : l.length > 20
  · rw [if_pos h20] at h; exact absurd h (by decide)
  · rw [if_neg h20] at h
    have ha := eachI_all (grE l) l 0 h
    have hb : ∀ i, i < l.length → freqE (l.getD i 0) = 0 ∧ (i = 0 ∨ l.getD i 0 > l.getD (i - 1) 0) := fun i hi => by
      have h1 := ha i hi
      rw [Nat.zero_add] at h1
      unfold grE at h1
      rw [first2] at h1
      by_cases hf : freqE (l.getD i 0) = 0
      · rw [if_neg (not_not_intro hf)] at h1
        refine ⟨hf, ?_⟩
        by_cases hc : i = 0 ∨ l.getD i 0 > l.getD (i - 1) 0
        · exact hc
        · rw [if_neg hc] at h1; exact absurd h1 (by decide)
      · rw [if_pos hf] at h1; exact absurd h1 hf
    refine ⟨by omega, fun i hi => ?_, fun i hi => ?_⟩
    · have h1 := (hb i hi).1
      unfold freqE at h1
      split at h1
      · assumption
      · exact absurd h1 (by decide)
    · have h1 := (hb (i + 1) hi).2
      simp only [Nat.add_sub_cancel] at h1
      omega
theorem quadB_snoc (p l : List Int) (x : Int) : quadB p (l ++ [x]) = (quadB p l && decide (valV p x ≠ (0, 0))) := by simp [quadB]
theorem quadL_snoc (p l : List Int) (x : Int) : quadL p (l ++ [x]) = quadL p l ++ [qdV (valV p x)] := by simp [quadL]
theorem quadB_no {p l : List Int} {k : Nat} (hk : k < l.length) (h : valV p (l.getD k 0) = (0, 0)) : quadB p l = false := by
  unfold quadB
  rw [List.all_eq_false]
  refine ⟨l.getD k 0, getD_memI hk, ?_⟩
  rw [h]; simp
theorem S25 (p l : List Int) (hp : PolyOk p) (hg : GridOk l) : SP 25 [ints p, ints l] (.tuple [ints (if quadB p l = true then quadL p l else []), vb (quadB p l)]) false := by
  have hn := hg.n
  refine sound (d := 2) tok2 mixed2 Tryz.func25 (by kernel_rfl) (by kernel_rfl) ?_
  conv => whnf
  refine ⟨[.slot 6 1], [0, 1, 6, 7], fun st mq => ∃ (k : Nat) (O : List Int), (k ≤ l.length) ∧ (O = quadL p (l.take k)) ∧ (quadB p (l.take k) = true) ∧ st = ⟨[(0, ints p), (1, ints l), (6, .oslice 0 0 0 k none), (7, i64 k)], ⟨[⟨1, k, fun i => [i64 (O.getD i 0)], 0, false, true, false⟩], [], none, 0⟩, []⟩ ∧ mq = l.length - k,
    ⟨_, _, ⟨0, [], by omega, rfl, rfl, rfl, rfl⟩, ⟨⟨.inl rfl, rfl, rfl, rfl⟩, ⟨⟨rfl, rfl, rfl, rfl, fun _ => rfl, fun i h => .inl (absurd h (Nat.not_lt_zero i))⟩, trivial⟩, trivial⟩⟩, ?_⟩
  rintro s0 m0 ⟨k, O, hk, hO, hz, rfl, hmeas⟩
  by_cases hlt : k < l.length
  · have hr := hg.rg k hlt
    have h23 := S23 p (l.getD (k : Int).toNat 0) hp hr
    have hOl : O.length = k := by rw [hO]; simp [quadL]; omega
    have h100 := S100 (valV p (l.getD (k : Int).toNat 0))
    by_cases h0 : valV p (l.getD k 0) = (0, 0)
    · rw [quadB_no hlt h0]
      have h0' : valV p (l.getD (k : Int).toNat 0) = (0, 0) := h0
      rw [h0'] at h23
      conv => whnf
      conv => whnf
      refine ifB_dec (fun w1 => ?_) (fun w1 => ?_)
      · conv => whnf
        conv => whnf
        refine ⟨⟨(by omega), (by omega)⟩, ?_⟩
        conv => whnf
        conv => whnf
        refine .inl ⟨_, _, byX rfl (Sound1.pl (h23) rfl), ?_⟩
        conv => whnf
        conv => whnf
        refine ⟨?_, nofun⟩
        exact ave_tup2 rfl rfl
      · (exfalso; omega)
    · conv => whnf
      conv => whnf
      refine ifB_dec (fun w1 => ?_) (fun w1 => ?_)
      · conv => whnf
        conv => whnf
        refine ⟨⟨(by omega), (by omega)⟩, ?_⟩
        conv => whnf
        conv => whnf
        refine .inl ⟨_, _, byX rfl (Sound1.pl (h23) rfl), ?_⟩
        conv => whnf
        conv => whnf
        refine ifB_veq2 (fun w2 => ?_) (fun w2 => ?_)
        · conv => whnf
          conv => whnf
          refine ⟨?_, nofun⟩
          exact absurd (Prod.ext w2.1 w2.2) h0
        · conv => whnf
          conv => whnf
          refine .inl ⟨_, _, byX rfl (Sound1.pl (h100) rfl), ?_⟩
          conv => whnf
          conv => whnf
          refine .inl ?_
          conv => whnf
          conv => whnf
          refine ⟨(by show _ * (8 + 1) ≤ _; omega), ?_⟩
          conv => whnf
          conv => whnf
          refine ⟨inK64 (by omega) (by omega), ?_⟩
          conv => whnf
          conv => whnf
          refine ⟨_, _, ⟨⟨k + 1, O ++ [qdV (valV p (l.getD k 0))], by omega, (by rw [take_snocI hlt, quadL_snoc, hO]), (by rw [take_snocI hlt, quadB_snoc, hz, decide_eq_true h0]; rfl), rfl, rfl⟩, by omega⟩, ⟨⟨.inl rfl, rfl, rfl, rfl⟩, ⟨⟨rfl, rfl, rfl, rfl, fun _ => rfl, fun i hi => .inl (app_row O _ k i hOl hi)⟩, trivial⟩, trivial⟩⟩
      · (exfalso; omega)
  · have e : k = l.length := by omega
    subst e
    rw [List.take_length] at hO hz
    rw [hz, if_pos rfl, ← hO]
    have hOl : O.length = l.length := by rw [hO]; simp [quadL]
    conv => whnf
    conv => whnf
    refine ifB_dec (fun w1 => ?_) (fun w1 => ?_)
    · (exfalso; omega)
    · conv => whnf
      conv => whnf
      refine ⟨?_, nofun⟩
      exact ave_tup2 ⟨rfl, hOl.symm, fun i hi => rfl⟩ rfl
/-- The error of quadrants. -/
def quadE (p l : List Int) : Int := if polyE p ≠ 0 then polyE p else if gridE l ≠ 0 then gridE l else if quadB p l = true then 0 else 11
theorem S20 (p l : List Int) (hpl : p.length ≤ 1000000) (hl : l.length ≤ 1000000) : SP 20 [ints p, ints l] (.tuple [ints (if quadE p l = 0 then quadL p l else []), i64 (quadE p l)]) false := by
  have h64 := S64 p hpl
  by_cases h0 : polyE p = 0
  · have hp := PolyOk.of h0
    rw [h0] at h64
    by_cases h20 : l.length > 20
    · have hgE : gridE l = 8 := if_pos h20
      have hE : quadE p l = 8 := by unfold quadE; rw [if_neg (not_not_intro h0), hgE, if_pos (by decide)]
      rw [hE, if_neg (by decide)]
      have h93 : SP 93 [vb (decide ((l.length : Int) ≤ 20)), i64 8] (i64 8) false := by
        have h := S93 (decide ((l.length : Int) ≤ 20)) 8
        rwa [if_neg (by simp only [decide_eq_true_eq]; omega)] at h
      have h90 : ∀ f : Nat → List AV, (f 0 = [i64 0] ∧ f 1 = [i64 8]) → SP 90 [.rslice 1 2 f] (i64 8) false := fun f h => by
        have h := S90_2 0 8 h
        rwa [first2, if_neg (by simp)] at h
      refine sound (d := 2) tok2 mixed2 Tryz.func20 (by kernel_rfl) (by kernel_rfl) ?_
      conv => whnf
      refine ⟨[], by kernel_rfl, ?_⟩
      conv => whnf
      refine .inl ⟨_, _, byX rfl (Sound1.pl (h64) rfl), ?_⟩
      conv => whnf
      refine .inl ⟨_, _, byX rfl (Sound1.pl (h93) rfl), ?_⟩
      conv => whnf
      refine .inl ⟨_, _, byX rfl (Sound1.pl (h90 _ ⟨rfl, rfl⟩) rfl), ?_⟩
      conv => whnf
      refine ⟨?_, nofun⟩
      exact ave_tup2 rfl rfl
    · have hgE : gridE l = (eachI (grE l) l 0).2 := if_neg h20
      have h93 : SP 93 [vb (decide ((l.length : Int) ≤ 20)), i64 8] (i64 0) false := by
        have h := S93 (decide ((l.length : Int) ≤ 20)) 8
        rwa [if_pos (by simp only [decide_eq_true_eq]; omega)] at h
      have h90 : ∀ f : Nat → List AV, (f 0 = [i64 0] ∧ f 1 = [i64 0]) → SP 90 [.rslice 1 2 f] (i64 0) false := fun f h => by
        have h := S90_2 0 0 h
        rwa [first2, if_neg (by simp)] at h
      have h94 := S94c 95 [ints l] (grE l) l (by omega) fun k hk => S95 l hl k hk (l.getD k 0)
      rw [← hgE] at h94
      by_cases hg0 : gridE l = 0
      · have hg := GridOk.of hg0
        rw [hg0] at h94
        refine sound (d := 2) tok2 mixed2 Tryz.func20 (by kernel_rfl) (by kernel_rfl) ?_
        conv => whnf
        refine ⟨[], by kernel_rfl, ?_⟩
        conv => whnf
        refine .inl ⟨_, _, byX rfl (Sound1.pl (h64) rfl), ?_⟩
        conv => whnf
        refine .inl ⟨_, _, byX rfl (Sound1.pl (h93) rfl), ?_⟩
        conv => whnf
        refine .inl ⟨_, _, byX rfl (Sound1.pl (h90 _ ⟨rfl, rfl⟩) rfl), ?_⟩
        conv => whnf
        refine .inl ⟨_, _, byX rfl (Sound1.pl (h94) rfl), ?_⟩
        conv => whnf
        refine ⟨[.slot 7 1], [0, 7, 30, 31, 32], fun st mq => ∃ (k : Nat) (O : List Int) (F0 : Nat → List AV) (F1 : Nat → List AV), (k ≤ l.length) ∧ (O = quadL p (l.take k)) ∧ (quadB p (l.take k) = true) ∧ st = ⟨[(0, ints p), (7, .oslice 2 0 0 k none), (30, ints l), (31, i64 l.length), (32, i64 k)], ⟨[⟨1, 1, F0, 0, false, true, false⟩, ⟨1, 2, F1, 0, false, true, false⟩, ⟨1, k, fun i => [i64 (O.getD i 0)], 0, false, true, false⟩], [], none, 0⟩, []⟩ ∧ mq = l.length - k,
          ⟨_, _, ⟨0, [], _, _, by omega, rfl, rfl, rfl, rfl⟩, ⟨⟨.inl rfl, rfl, rfl, rfl⟩, ⟨⟨rfl, rfl, rfl, rfl, fun _ => rfl, fun _ _ => .inl rfl⟩, ⟨⟨rfl, rfl, rfl, rfl, fun _ => rfl, fun _ _ => .inl rfl⟩, ⟨⟨rfl, rfl, rfl, rfl, fun _ => rfl, fun i h => .inl (absurd h (Nat.not_lt_zero i))⟩, trivial⟩⟩⟩, trivial⟩⟩, ?_⟩
        rintro s0 m0 ⟨k, O, F0, F1, hk, hO, hz, rfl, hmeas⟩
        have hE : quadE p l = if quadB p l = true then 0 else 11 := by
          unfold quadE
          rw [if_neg (not_not_intro h0), if_neg (not_not_intro hg0)]
        by_cases hlt : k < l.length
        · have hr := hg.rg k hlt
          have h92 := S92 p (l.getD (k : Int).toNat 0) hp hr
          have hOl : O.length = k := by rw [hO]; simp [quadL]; omega
          by_cases h0 : valV p (l.getD k 0) = (0, 0)
          · rw [quadB_no hlt h0, if_neg (by nofun)] at hE
            rw [hE, if_neg (by decide)]
            have h0' : valV p (l.getD (k : Int).toNat 0) = (0, 0) := h0
            rw [h0'] at h92
            conv => whnf
            conv => whnf
            refine ifB_dec (fun w1 => ?_) (fun w1 => ?_)
            · conv => whnf
              conv => whnf
              refine ⟨⟨(by omega), (by omega)⟩, ?_⟩
              conv => whnf
              conv => whnf
              refine .inl ⟨_, _, byX rfl (Sound1.pl (h92) rfl), ?_⟩
              conv => whnf
              conv => whnf
              refine ⟨?_, nofun⟩
              exact ave_tup2 rfl rfl
            · (exfalso; omega)
          · have hv := valV_b hp.ps (w := l.getD k 0) (by omega) p.length (Nat.le_refl _)
            have hbk := bV_le (k := p.length) (by have := hp.p2; omega)
            rw [List.take_length] at hv
            have h96 := S96 (valV p (l.getD (k : Int).toNat 0)) h0 (by show (valV p (l.getD k 0)).1.natAbs ≤ _; omega) (by show (valV p (l.getD k 0)).2.natAbs ≤ _; omega)
            conv => whnf
            conv => whnf
            refine ifB_dec (fun w1 => ?_) (fun w1 => ?_)
            · conv => whnf
              conv => whnf
              refine ⟨⟨(by omega), (by omega)⟩, ?_⟩
              conv => whnf
              conv => whnf
              refine .inl ⟨_, _, byX rfl (Sound1.pl (h92) rfl), ?_⟩
              conv => whnf
              conv => whnf
              refine ifB_veq2 (fun w2 => ?_) (fun w2 => ?_)
              · conv => whnf
                conv => whnf
                refine ⟨?_, nofun⟩
                exact absurd (Prod.ext w2.1 w2.2) h0
              · conv => whnf
                conv => whnf
                refine .inl ⟨_, _, byX rfl (Sound1.pl (h96) rfl), ?_⟩
                conv => whnf
                conv => whnf
                refine .inl ?_
                conv => whnf
                conv => whnf
                refine ⟨(by show _ * (8 + 1) ≤ _; omega), ?_⟩
                conv => whnf
                conv => whnf
                refine ⟨inK64 (by omega) (by omega), ?_⟩
                conv => whnf
                conv => whnf
                refine ⟨_, _, ⟨⟨k + 1, O ++ [qdV (valV p (l.getD k 0))], _, _, by omega, (by rw [take_snocI hlt, quadL_snoc, hO]), (by rw [take_snocI hlt, quadB_snoc, hz, decide_eq_true h0]; rfl), rfl, rfl⟩, by omega⟩, ⟨⟨.inl rfl, rfl, rfl, rfl⟩, ⟨⟨rfl, rfl, rfl, rfl, fun _ => rfl, fun _ _ => .inl rfl⟩, ⟨⟨rfl, rfl, rfl, rfl, fun _ => rfl, fun _ _ => .inl rfl⟩, ⟨⟨rfl, rfl, rfl, rfl, fun _ => rfl, fun i hi => .inl (app_row O _ k i hOl hi)⟩, trivial⟩⟩⟩, trivial⟩⟩
            · (exfalso; omega)
        · have e : k = l.length := by omega
          subst e
          rw [List.take_length] at hO hz
          rw [hz, if_pos rfl] at hE
          rw [hE, if_pos rfl, ← hO]
          have hOl : O.length = l.length := by rw [hO]; simp [quadL]
          conv => whnf
          conv => whnf
          refine ifB_dec (fun w1 => ?_) (fun w1 => ?_)
          · (exfalso; omega)
          · conv => whnf
            conv => whnf
            refine ⟨?_, nofun⟩
            exact ave_tup2 ⟨rfl, hOl.symm, fun i hi => rfl⟩ rfl
      · have hE : quadE p l = gridE l := by unfold quadE; rw [if_neg (not_not_intro h0), if_pos hg0]
        rw [hE, if_neg hg0]
        refine sound (d := 2) tok2 mixed2 Tryz.func20 (by kernel_rfl) (by kernel_rfl) ?_
        conv => whnf
        refine ⟨[], by kernel_rfl, ?_⟩
        conv => whnf
        refine .inl ⟨_, _, byX rfl (Sound1.pl (h64) rfl), ?_⟩
        conv => whnf
        refine .inl ⟨_, _, byX rfl (Sound1.pl (h93) rfl), ?_⟩
        conv => whnf
        refine .inl ⟨_, _, byX rfl (Sound1.pl (h90 _ ⟨rfl, rfl⟩) rfl), ?_⟩
        conv => whnf
        refine .inl ⟨_, _, byX rfl (Sound1.pl (h94) rfl), ?_⟩
        conv => whnf
        refine ifB_bne (fun w1 => ?_) (fun w1 => ?_)
        · conv => whnf
          refine ⟨?_, nofun⟩
          exact ave_tup2 rfl rfl
        · (exfalso; omega)
  · have hE : quadE p l = polyE p := if_pos h0
    rw [hE, if_neg h0]
    have h93 := fun b c => S93 b c
    have h90 : ∀ (b : Int) (f : Nat → List AV), (f 0 = [i64 (polyE p)] ∧ f 1 = [i64 b]) → SP 90 [.rslice 1 2 f] (i64 (polyE p)) false := fun b f h => by
      have h := S90_2 (polyE p) b h
      rwa [first2, if_pos h0] at h
    refine sound (d := 2) tok2 mixed2 Tryz.func20 (by kernel_rfl) (by kernel_rfl) ?_
    conv => whnf
    refine ⟨[], by kernel_rfl, ?_⟩
    conv => whnf
    refine .inl ⟨_, _, byX rfl (Sound1.pl (h64) rfl), ?_⟩
    conv => whnf
    refine .inl ⟨_, _, byX rfl (Sound1.pl (h93 _ _) rfl), ?_⟩
    conv => whnf
    refine .inl ⟨_, _, byX rfl (Sound1.pl (h90 _ _ ⟨rfl, rfl⟩) rfl), ?_⟩
    conv => whnf
    refine ifB_beq (fun w1 => ?_) (fun w1 => ?_)
    · (exfalso; omega)
    · conv => whnf
      refine ifB_bne (fun w2 => ?_) (fun w2 => ?_)
      · conv => whnf
        refine ⟨?_, nofun⟩
        (first | contradiction | exact ave_tup2 rfl rfl)
      · (exfalso; omega)
def valE (p : List Int) (w : Int) : Int := if polyE p ≠ 0 then polyE p else freqE w
theorem S18 (p : List Int) (w : Int) (hpl : p.length ≤ 1000000) : SP 18 [ints p, i64 w] (.tuple [gaA (if valE p w = 0 then valV p w else (0, 0)), i64 (valE p w)]) false := by
  have h64 := S64 p hpl
  have h91 := S91 w
  have h90 : ∀ f : Nat → List AV, (f 0 = [i64 (polyE p)] ∧ f 1 = [i64 (freqE w)]) → SP 90 [.rslice 1 2 f] (i64 (valE p w)) false := fun f h => by
    have h := S90_2 (polyE p) (freqE w) h
    rwa [first2] at h
  by_cases hE : valE p w = 0
  · have h0 : polyE p = 0 := by
      by_cases h0 : polyE p = 0
      · exact h0
      · unfold valE at hE; rw [if_pos h0] at hE; exact absurd hE h0
    have hw : 0 ≤ w ∧ w ≤ 1000 := by
      unfold valE at hE
      rw [if_neg (not_not_intro h0)] at hE
      unfold freqE at hE
      split at hE
      · assumption
      · exact absurd hE (by decide)
    have h92 := S92 p w (PolyOk.of h0) hw
    rw [if_pos hE]
    rw [hE] at h90 ⊢
    refine sound (d := 2) tok2 mixed2 Tryz.func18 (by kernel_rfl) (by kernel_rfl) ?_
    conv => whnf
    refine .inl ⟨_, _, byX rfl (Sound1.pl (h64) rfl), ?_⟩
    conv => whnf
    refine .inl ⟨_, _, byX rfl (Sound1.pl (h91) rfl), ?_⟩
    conv => whnf
    refine .inl ⟨_, _, byX rfl (Sound1.pl (h90 _ ⟨rfl, rfl⟩) rfl), ?_⟩
    conv => whnf
    refine .inl ⟨_, _, byX rfl (Sound1.pl (h92) rfl), ?_⟩
    conv => whnf
    refine ⟨?_, nofun⟩
    exact ave_tup2 (ave_agg2 rfl rfl) rfl
  · rw [if_neg hE]
    refine sound (d := 2) tok2 mixed2 Tryz.func18 (by kernel_rfl) (by kernel_rfl) ?_
    conv => whnf
    refine .inl ⟨_, _, byX rfl (Sound1.pl (h64) rfl), ?_⟩
    conv => whnf
    refine .inl ⟨_, _, byX rfl (Sound1.pl (h91) rfl), ?_⟩
    conv => whnf
    refine .inl ⟨_, _, byX rfl (Sound1.pl (h90 _ ⟨rfl, rfl⟩) rfl), ?_⟩
    conv => whnf
    refine ifB_bne (fun w1 => ?_) (fun w1 => ?_)
    · conv => whnf
      refine ⟨?_, nofun⟩
      exact ave_tup2 (ave_agg2 rfl rfl) rfl
    · (exfalso; omega)
end Go.Tr

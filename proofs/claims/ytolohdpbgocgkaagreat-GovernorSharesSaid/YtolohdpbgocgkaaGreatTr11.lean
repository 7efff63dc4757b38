/- Contracts of chapter 6: the shares of a load. Conditions: none. -/
import Derived.Test.YtolohdpbgocgkaaGreatTr10
set_option linter.unusedSectionVars false
set_option linter.unnecessarySimpa false
set_option linter.unusedVariables false
set_option linter.unusedSimpArgs false

namespace Go.Tr
open Go Go.Proofs
set_option maxRecDepth 20000
set_option maxHeartbeats 8000000

abbrev gaF (f : Int × Int) : AV := .agg [i64 f.1, i64 f.2]
theorem S136 (a b : Int) (ha : -9223372036854775807 ≤ a ∧ a ≤ 9223372036854775807) (hb : -9223372036854775807 ≤ b ∧ b ≤ 9223372036854775807) : SP 136 [i64 a, i64 b] (i64 (gcdI a b)) false := by
  unfold gcdI
  refine sound (d := 2) tok2 mixed2 Tryz.func136 (by kernel_rfl) (by kernel_rfl) ?_
  conv => whnf
  refine ⟨[], [0, 1], fun st mq => ∃ (x : Int) (y : Int), (-9223372036854775807 ≤ x ∧ x ≤ 9223372036854775807) ∧ (-9223372036854775807 ≤ y ∧ y ≤ 9223372036854775807) ∧ (Nat.gcd x.natAbs y.natAbs = Nat.gcd a.natAbs b.natAbs) ∧ st = ⟨[(0, i64 x), (1, i64 y)], ⟨[], [], none, 0⟩, []⟩ ∧ mq = y.natAbs,
    ⟨_, _, ⟨a, b, ha, hb, rfl, rfl, rfl⟩, ⟨⟨.inl rfl, rfl, rfl, rfl⟩, trivial, trivial⟩⟩, ?_⟩
  rintro s0 m0 ⟨x, y, hx, hy, hg, rfl, hmeas⟩
  by_cases h0 : y = 0
  · have h115 := S115 x hx
    subst h0
    conv => whnf
    conv => whnf
    refine .inl ⟨_, _, byX rfl (Sound1.pl (h115) rfl), ?_⟩
    conv => whnf
    conv => whnf
    refine ⟨?_, nofun⟩
    exact endi (by rw [← hg]; simp; unfold siz; split <;> omega)
  · have ht := tmod_lt (a := x) h0
    conv => whnf
    conv => whnf
    refine ifB_bne (fun w1 => ?_) (fun w1 => ?_)
    · conv => whnf
      conv => whnf
      refine ⟨[], by kernel_rfl, ?_⟩
      conv => whnf
      conv => whnf
      refine ⟨(by omega), ?_⟩
      conv => whnf
      conv => whnf
      refine ⟨_, _, ⟨⟨y, x.tmod y, hy, by omega, (by rw [← hg, Int.natAbs_tmod, Nat.gcd_comm x.natAbs, Nat.gcd_rec y.natAbs x.natAbs, Nat.gcd_comm]), rfl, rfl⟩, by omega⟩, ⟨⟨.inl rfl, rfl, rfl, rfl⟩, trivial, trivial⟩⟩
    · (exfalso; omega)
theorem S141 (a b : Int) (ha : a.natAbs ≤ 1000000000000000) (hb : 0 < b ∧ b ≤ 1000000000000000) : SP 141 [i64 a, i64 b] (gaF (fracG a b)) false := by
  have h143 := S143 a b (by omega) (by omega)
  have hg := gcdI_pos (a := a) hb.1
  have h1 : ((a.tdiv (gcdI a b)).natAbs) ≤ a.natAbs := Int.natAbs_tdiv_le_natAbs _ _
  have h2 : ((b.tdiv (gcdI a b)).natAbs) ≤ b.natAbs := Int.natAbs_tdiv_le_natAbs _ _
  change SP 143 _ (i64 (gcdI a b)) false at h143
  unfold fracG
  generalize gcdI a b = g at h143 hg h1 h2 ⊢
  refine sound (d := 2) tok2 mixed2 Tryz.func141 (by kernel_rfl) (by kernel_rfl) ?_
  conv => whnf
  refine .inl ⟨_, _, byX rfl (Sound1.pl (h143) rfl), ?_⟩
  conv => whnf
  refine ifB_dec (fun w1 => ?_) (fun w1 => ?_)
  · (exfalso; omega)
  · conv => whnf
    refine ⟨[], by kernel_rfl, ?_⟩
    conv => whnf
    refine ⟨⟨(by omega), inK64 (by omega) (by omega)⟩, ?_⟩
    conv => whnf
    refine ⟨⟨(by omega), inK64 (by omega) (by omega)⟩, ?_⟩
    conv => whnf
    refine ⟨?_, nofun⟩
    exact ave_agg2 rfl rfl
theorem S77 (f : Int × Int) (h : 1 ≤ f.2) : SP 77 [gaF f] (vb (smB f)) false := by
  have h1 := S68 f.1 (-1000000000) 1000000000
  have h2 := S68 f.2 1 1000000000
  unfold smB
  refine sound (d := 2) tok2 mixed2 Tryz.func77 (by kernel_rfl) (by kernel_rfl) ?_
  conv => whnf
  refine .inl ⟨_, _, byX rfl (Sound1.pl (h1) rfl), ?_⟩
  conv => whnf
  refine ifB_dec (fun w1 => ?_) (fun w1 => ?_)
  · conv => whnf
    refine .inl ⟨_, _, byX rfl (Sound1.pl (h2) rfl), ?_⟩
    conv => whnf
    refine ⟨?_, nofun⟩
    rw [decide_eq_true w1, Bool.true_and]
    exact endb (decide_eq_decide.2 ⟨fun h => h.2, fun h' => ⟨h, h'⟩⟩)
  · conv => whnf
    refine ⟨?_, nofun⟩
    rw [decide_eq_false w1, Bool.false_and]
    rfl
theorem S74 (A : List (Int × Int)) (hA : A.length ≤ 1000000) : SP 74 [rgs A, rgs A] (vb true) false := by
  refine sound (d := 2) tok2 mixed2 Tryz.func74 (by kernel_rfl) (by kernel_rfl) ?_
  conv => whnf
  refine ifB_bne (fun w1 => ?_) (fun w1 => ?_)
  · (exfalso; omega)
  · conv => whnf
    refine ⟨[], [0, 1, 5], fun st mq => ∃ (k : Nat), (k ≤ A.length) ∧ st = ⟨[(0, rgs A), (1, rgs A), (5, i64 k)], ⟨[], [], none, 0⟩, []⟩ ∧ mq = A.length - k,
      ⟨_, _, ⟨0, by omega, rfl, rfl⟩, ⟨⟨.inl rfl, rfl, rfl, rfl⟩, trivial, trivial⟩⟩, ?_⟩
    rintro s0 m0 ⟨k, hk, rfl, hmeas⟩
    by_cases hlt : k < A.length
    · conv => whnf
      conv => whnf
      refine ifB_dec (fun w2 => ?_) (fun w2 => ?_)
      · conv => whnf
        conv => whnf
        refine ⟨[], by kernel_rfl, ?_⟩
        conv => whnf
        conv => whnf
        refine ⟨⟨(by omega), (by omega)⟩, ?_⟩
        conv => whnf
        conv => whnf
        refine ⟨⟨(by omega), (by omega)⟩, ?_⟩
        conv => whnf
        conv => whnf
        refine ifB_not ?_
        conv => whnf
        conv => whnf
        refine ifB_veq2 (fun w3 => ?_) (fun w3 => ?_)
        · conv => whnf
          conv => whnf
          refine ⟨inK64 (by omega) (by omega), ?_⟩
          conv => whnf
          conv => whnf
          refine ⟨_, _, ⟨⟨k + 1, by omega, rfl, rfl⟩, by omega⟩, ⟨⟨.inl rfl, rfl, rfl, rfl⟩, trivial, trivial⟩⟩
        · (exfalso; omega)
      · (exfalso; omega)
    · conv => whnf
      conv => whnf
      refine ifB_dec (fun w2 => ?_) (fun w2 => ?_)
      · (exfalso; omega)
      · conv => whnf
        conv => whnf
        refine ⟨?_, nofun⟩
        rfl
theorem S135 (k x : Int) : SP 135 [i64 k, i64 x] (i64 (if 1 ≤ x ∧ x ≤ 20 then 0 else 2)) false := by
  have h := S118 x 1 20
  have h93 := S93 (win x 1 20) 2
  refine sound (d := 2) tok2 mixed2 Tryz.func135 (by kernel_rfl) (by kernel_rfl) ?_
  conv => whnf
  refine .inl ⟨_, _, byX rfl (Sound1.pl (h) rfl), ?_⟩
  conv => whnf
  refine .inl ⟨_, _, byX rfl (Sound1.pl (h93) rfl), ?_⟩
  conv => whnf
  refine ⟨?_, nofun⟩
  exact endi (by unfold win; simp)
/-- The error of shares. -/
def drE (l : List Int) : Int := (eachI (fun _ x => if 1 ≤ x ∧ x ≤ 20 then 0 else 2) l 0).2
def shaE (l : List Int) (load : Int) : Int := if l.length = 0 then 10 else if l.length > 6 then 8 else if drE l ≠ 0 then drE l else if -100000 ≤ load ∧ load ≤ 100000 then 0 else 2
theorem S72 (l : List Int) (load : Int) (hl : l.length ≤ 9223372036854775807) : SP 72 [ints l, i64 load] (i64 (shaE l load)) false := by
  have h68 := fun x => S68 x 1 20
  have h68b := S68 load (-100000) 100000
  unfold shaE
  by_cases h0 : l.length = 0
  · rw [if_pos h0]
    refine sound (d := 2) tok2 mixed2 Tryz.func72 (by kernel_rfl) (by kernel_rfl) ?_
    conv => whnf
    refine ifB_beq (fun w1 => ?_) (fun w1 => ?_)
    · conv => whnf
      refine ⟨?_, nofun⟩
      rfl
    · (exfalso; omega)
  · rw [if_neg h0]
    by_cases h6 : l.length > 6
    · rw [if_pos h6]
      refine sound (d := 2) tok2 mixed2 Tryz.func72 (by kernel_rfl) (by kernel_rfl) ?_
      conv => whnf
      refine ifB_beq (fun w1 => ?_) (fun w1 => ?_)
      · (exfalso; omega)
      · conv => whnf
        refine ifB_dec (fun w2 => ?_) (fun w2 => ?_)
        · conv => whnf
          refine ⟨?_, nofun⟩
          rfl
        · (exfalso; omega)
    · rw [if_neg h6]
      refine sound (d := 2) tok2 mixed2 Tryz.func72 (by kernel_rfl) (by kernel_rfl) ?_
      conv => whnf
      refine ifB_beq (fun w1 => ?_) (fun w1 => ?_)
      · (exfalso; omega)
      · conv => whnf
        refine ifB_dec (fun w2 => ?_) (fun w2 => ?_)
        · (exfalso; omega)
        · conv => whnf
          refine ⟨[], [0, 1, 5], fun st mq => ∃ (k : Nat), (k ≤ l.length) ∧ ((eachI (fun _ x => if 1 ≤ x ∧ x ≤ 20 then 0 else 2) (l.drop k) k).2 = drE l) ∧ st = ⟨[(0, ints l), (1, i64 load), (5, i64 k)], ⟨[], [], none, 0⟩, []⟩ ∧ mq = l.length - k,
            ⟨_, _, ⟨0, by omega, rfl, rfl, rfl⟩, ⟨⟨.inl rfl, rfl, rfl, rfl⟩, trivial, trivial⟩⟩, ?_⟩
          rintro s0 m0 ⟨k, hk, he, rfl, hmeas⟩
          by_cases hlt : k < l.length
          · have hd := eachI_drop (fun _ x => if 1 ≤ x ∧ x ≤ 20 then 0 else 2) l k hlt
            have h68k := h68 (l.getD (k : Int).toNat 0)
            by_cases hx : 1 ≤ l.getD k 0 ∧ l.getD k 0 ≤ 20
            · rw [if_pos (if_pos hx)] at hd
              rw [hd] at he
              have hx' : 1 ≤ l.getD (k : Int).toNat 0 ∧ l.getD (k : Int).toNat 0 ≤ 20 := hx
              conv => whnf
              conv => whnf
              refine ifB_dec (fun w3 => ?_) (fun w3 => ?_)
              · conv => whnf
                conv => whnf
                refine ⟨⟨(by omega), (by omega)⟩, ?_⟩
                conv => whnf
                conv => whnf
                refine .inl ⟨_, _, byX rfl (Sound1.pl (h68k) rfl), ?_⟩
                conv => whnf
                conv => whnf
                refine ifB_not ?_
                conv => whnf
                conv => whnf
                refine ifB_dec (fun w4 => ?_) (fun w4 => ?_)
                · conv => whnf
                  conv => whnf
                  refine ⟨inK64 (by omega) (by omega), ?_⟩
                  conv => whnf
                  conv => whnf
                  refine ⟨_, _, ⟨⟨k + 1, by omega, he, rfl, rfl⟩, by omega⟩, ⟨⟨.inl rfl, rfl, rfl, rfl⟩, trivial, trivial⟩⟩
                · (exfalso; omega)
              · (exfalso; omega)
            · have e2 : (if 1 ≤ l.getD k 0 ∧ l.getD k 0 ≤ 20 then (0 : Int) else 2) = 2 := if_neg hx
              rw [e2, if_neg (by decide)] at hd
              rw [hd] at he
              have he : drE l = 2 := he.symm
              rw [he, if_pos (by decide)]
              have hx' : ¬ (1 ≤ l.getD (k : Int).toNat 0 ∧ l.getD (k : Int).toNat 0 ≤ 20) := hx
              conv => whnf
              conv => whnf
              refine ifB_dec (fun w3 => ?_) (fun w3 => ?_)
              · conv => whnf
                conv => whnf
                refine ⟨⟨(by omega), (by omega)⟩, ?_⟩
                conv => whnf
                conv => whnf
                refine .inl ⟨_, _, byX rfl (Sound1.pl (h68k) rfl), ?_⟩
                conv => whnf
                conv => whnf
                refine ifB_not ?_
                conv => whnf
                conv => whnf
                refine ifB_dec (fun w4 => ?_) (fun w4 => ?_)
                · (exfalso; omega)
                · conv => whnf
                  conv => whnf
                  refine ⟨?_, nofun⟩
                  (first | contradiction | rfl)
              · (exfalso; omega)
          · have e : k = l.length := by omega
            subst e
            rw [List.drop_length] at he
            have he : drE l = 0 := he.symm
            rw [he, if_neg (by decide)]
            conv => whnf
            conv => whnf
            refine ifB_dec (fun w3 => ?_) (fun w3 => ?_)
            · (exfalso; omega)
            · conv => whnf
              conv => whnf
              refine .inl ⟨_, _, byX rfl (Sound1.pl (h68b) rfl), ?_⟩
              conv => whnf
              conv => whnf
              refine ifB_not ?_
              conv => whnf
              conv => whnf
              refine ifB_dec (fun w4 => ?_) (fun w4 => ?_)
              · conv => whnf
                conv => whnf
                refine ⟨?_, nofun⟩
                rw [if_pos w4]; rfl
              · conv => whnf
                conv => whnf
                refine ⟨?_, nofun⟩
                rw [if_neg w4]; rfl
theorem drOk_of : ∀ (l : List Int) (k : Nat), (eachI (fun _ x => if 1 ≤ x ∧ x ≤ 20 then 0 else 2) l k).2 = 0 → DrOk l
  | [], _, _, x, hx => by cases hx
  | y :: l, k, h, x, hx => by
    unfold eachI at h
    by_cases hy : 1 ≤ y ∧ y ≤ 20
    · rw [if_pos (if_pos hy)] at h
      rcases List.mem_cons.1 hx with e | hx
      · rw [e]; exact hy
      · exact drOk_of l (k + 1) h x hx
    · have e2 : (if 1 ≤ y ∧ y ≤ 20 then (0 : Int) else 2) = 2 := if_neg hy
      rw [e2, if_neg (show ¬ (2 : Int) = 0 by decide)] at h
      exact absurd h (by show ¬ (2 : Int) = 0; decide)
structure ShOk (l : List Int) (load : Int) : Prop where
  n : 1 ≤ l.length ∧ l.length ≤ 6
  dr : DrOk l
  ld : -100000 ≤ load ∧ load ≤ 100000
theorem ShOk.of {l : List Int} {load : Int} (h : shaE l load = 0) : ShOk l load := by
  unfold shaE at h
  by_cases h0 : l.length = 0
  · rw [if_pos h0] at h; exact absurd h (by decide)
  · rw [if_neg h0] at h
    by_cases h6 : l.length > 6
    · rw [if_pos h6] at h; exact absurd h (by decide)
    · rw [if_neg h6] at h
      by_cases hd : drE l = 0
      · rw [if_neg (not_not_intro hd)] at h
        by_cases hl : -100000 ≤ load ∧ load ≤ 100000
        · exact ⟨by omega, drOk_of l 0 hd, hl⟩
        · rw [if_neg hl] at h; exact absurd h (by decide)
      · rw [if_pos hd] at h; exact absurd h hd
theorem share_snoc (c load S : Int) (l : List Int) (x : Int) : (l ++ [x]).map (fun n => fracG (load * c.tdiv n) S) = l.map (fun n => fracG (load * c.tdiv n) S) ++ [fracG (load * c.tdiv x) S] := by simp
theorem pw20 {i : Nat} (h : i ≤ 6) : (20 : Int) ^ i ≤ 64000000 := by
  have : i = 0 ∨ i = 1 ∨ i = 2 ∨ i = 3 ∨ i = 4 ∨ i = 5 ∨ i = 6 := by omega
  rcases this with rfl | rfl | rfl | rfl | rfl | rfl | rfl <;> decide
theorem mul6 {i : Nat} {c : Int} (h : i ≤ 6) (hc : 0 < c ∧ c ≤ 64000000) : (i : Int) * c ≤ 384000000 := by
  have h1 := Int.mul_le_mul_of_nonneg_right (show (i : Int) ≤ 6 by omega) (Int.le_of_lt hc.1)
  omega
theorem sum_pos {c : Int} (hc : 0 < c) {l : List Int} (hd : DrOk l) (hv : ∀ n ∈ l, n ∣ c) (hn : 1 ≤ l.length) : 0 < sumD c l := by
  obtain ⟨x, r, rfl⟩ : ∃ x r, l = r ++ [x] := by
    have hne : l ≠ [] := by intro e; rw [e] at hn; simp at hn
    exact ⟨l.getLast hne, l.dropLast, (List.dropLast_concat_getLast hne).symm⟩
  rw [sumD_snoc]
  have h1 := (sum_b hc (l := r ++ [x]) hd r.length (by simp)).1
  rw [List.take_left] at h1
  obtain ⟨e, he⟩ := hv x (by simp)
  have hx := hd x (by simp)
  have : 0 < e := by rw [he] at hc; exact (gpos (by omega)).1 hc
  rw [he, Int.mul_tdiv_cancel_left _ (by omega)]
  rw [he] at h1
  omega
/-- One share of the load. -/
theorem share_b {c load : Int} (hc : 0 < c ∧ c ≤ 64000000) (hl : -100000 ≤ load ∧ load ≤ 100000) {x : Int} (hx : 1 ≤ x ∧ x ≤ 20) : (0 ≤ c.tdiv x ∧ c.tdiv x ≤ 64000000) ∧ (load * c.tdiv x).natAbs ≤ 6400000000000 := by
  have h1 : 0 ≤ c.tdiv x := Int.tdiv_nonneg (by omega) (by omega)
  have h2 : c.tdiv x ≤ c := Int.tdiv_le_self _ (by omega)
  have h3 := mul_sml (show load.natAbs ≤ 100000 by omega) (show (c.tdiv x).natAbs ≤ 64000000 by omega)
  exact ⟨⟨h1, by omega⟩, h3⟩
theorem rgs_len {P : List Rg} {n : Nat} (h : P.length = n) : rgs P = .rslice 2 n fun i => [i64 (P.getD i (0, 0)).1, i64 (P.getD i (0, 0)).2] := by
  subst h; rfl
theorem app_rg (O : List Rg) (v : Rg) (k i : Nat) (hO : O.length = k) (hi : i < k + 1) : [i64 ((O ++ [v]).getD i (0, 0)).1, i64 ((O ++ [v]).getD i (0, 0)).2] = if i < k then [i64 (O.getD (0 + i) (0, 0)).1, i64 (O.getD (0 + i) (0, 0)).2] else List.take 2 (List.drop ((i - k) * 2) [i64 v.1, i64 v.2]) := by
  subst hO
  rw [Nat.zero_add]
  by_cases h : i < O.length
  · rw [if_pos h]; simp [List.getD_eq_getElem?_getD, List.getElem?_append_left h]
  · rw [if_neg h, show i = O.length by omega]; simp [List.getD_eq_getElem?_getD]
theorem frac_den {a b : Int} (hb : 0 < b) : 1 ≤ (fracG a b).2 := by
  obtain ⟨g1, _, _, ⟨e, he⟩⟩ := gcdI_pos (a := a) hb
  show 1 ≤ b.tdiv (gcdI a b)
  generalize gcdI a b = g at g1 he
  rw [he, Int.mul_tdiv_cancel_left _ (by omega)]
  rw [he] at hb
  have := (gpos g1).1 hb
  omega
theorem S73 (l : List Int) (load : Int) (h : ShOk l load) : SP 73 [ints l, i64 load] (.tuple [rgs (if (shareL (comL l) load l).all smB = true then shareL (comL l) load l else []), vb ((shareL (comL l) load l).all smB)]) false := by
  have hn := h.n
  have hd := h.dr
  have hco := com_ok hd
  have hse := share_eq hd load
  rw [← hse]
  have hP := prod_b hd l.length (Nat.le_refl _)
  rw [List.take_length] at hP
  have hp6 := pw20 (i := l.length) (by omega)
  have hPd : ∀ n ∈ l, n ∣ prodI l := fun n hm => by
    obtain ⟨k, _, e⟩ := hco.pr
    obtain ⟨q, hq⟩ := hco.dv n hm
    exact ⟨k * q, by rw [e, hq]; grind⟩
  have hSp := sum_pos hP.1 hd hPd hn.1
  refine sound (d := 2) tok2 mixed2 Tryz.func73 (by kernel_rfl) (by kernel_rfl) ?_
  conv => whnf
  refine ⟨[], [0, 1, 6, 7], fun st mq => ∃ (i : Nat) (c : Int), (i ≤ l.length) ∧ (c = prodI (l.take i)) ∧ st = ⟨[(0, ints l), (1, i64 load), (6, i64 c), (7, i64 i)], ⟨[], [], none, 0⟩, []⟩ ∧ mq = l.length - i,
    ⟨_, _, ⟨0, 1, by omega, rfl, rfl, rfl⟩, ⟨⟨.inl rfl, rfl, rfl, rfl⟩, trivial, trivial⟩⟩, ?_⟩
  rintro s0 m0 ⟨i, c, hi, hc, rfl, hmeas⟩
  have hpb := prod_b hd i hi
  rw [← hc] at hpb
  have hp20 := pw20 (i := i) (by omega)
  by_cases hlt : i < l.length
  · have hx := hd _ (getD_memI hlt)
    have hp21 := pw20 (i := i + 1) (by omega)
    have hpb2 := prod_b hd (i + 1) (by omega)
    rw [take_snocI hlt, prodI_snoc, ← hc] at hpb2
    have hpb3 : 0 < c * l.getD (i : Int).toNat 0 ∧ c * l.getD (i : Int).toNat 0 ≤ 20 ^ (i + 1) := hpb2
    conv => whnf
    conv => whnf
    refine ifB_dec (fun w1 => ?_) (fun w1 => ?_)
    · conv => whnf
      conv => whnf
      refine ⟨⟨(by omega), (by omega)⟩, ?_⟩
      conv => whnf
      conv => whnf
      refine ⟨inK64 (by omega) (by omega), ?_⟩
      conv => whnf
      conv => whnf
      refine ⟨inK64 (by omega) (by omega), ?_⟩
      conv => whnf
      conv => whnf
      refine ⟨_, _, ⟨⟨i + 1, c * l.getD i 0, by omega, (by rw [take_snocI hlt, prodI_snoc, hc]), rfl, rfl⟩, by omega⟩, ⟨⟨.inl rfl, rfl, rfl, rfl⟩, trivial, trivial⟩⟩
    · (exfalso; omega)
  · have e : i = l.length := by omega
    subst e
    rw [List.take_length] at hc
    subst hc
    generalize hPP : prodI l = P at hP hPd hSp hpb ⊢
    conv => whnf
    conv => whnf
    refine ifB_dec (fun w1 => ?_) (fun w1 => ?_)
    · (exfalso; omega)
    · conv => whnf
      conv => whnf
      refine ⟨[], [0, 1, 6, 8, 9], fun st mq => ∃ (i : Nat) (s : Int), (i ≤ l.length) ∧ (s = sumD P (l.take i)) ∧ st = ⟨[(0, ints l), (1, i64 load), (6, i64 P), (8, i64 s), (9, i64 i)], ⟨[], [], none, 0⟩, []⟩ ∧ mq = l.length - i,
        ⟨_, _, ⟨0, 0, by omega, rfl, rfl, rfl⟩, ⟨⟨.inl rfl, rfl, rfl, rfl⟩, trivial, trivial⟩⟩, ?_⟩
      rintro s0 m0 ⟨i, s, hi, hs, rfl, hmeas⟩
      have hsb := sum_b hP.1 hd i hi
      have hm6 := mul6 (i := i) (c := P) (by omega) (by omega)
      rw [← hs] at hsb
      by_cases hlt : i < l.length
      · have hx := hd _ (getD_memI hlt)
        have hx' : 1 ≤ l.getD (i : Int).toNat 0 ∧ l.getD (i : Int).toNat 0 ≤ 20 := hx
        have hb := (share_b (c := P) (load := 0) (by omega) (by omega) hx').1
        conv => whnf
        conv => whnf
        conv => whnf
        refine ifB_dec (fun w2 => ?_) (fun w2 => ?_)
        · conv => whnf
          conv => whnf
          conv => whnf
          refine ⟨⟨(by omega), (by omega)⟩, ?_⟩
          conv => whnf
          conv => whnf
          conv => whnf
          refine ⟨⟨(by omega), inK64 (by omega) (by omega)⟩, ?_⟩
          conv => whnf
          conv => whnf
          conv => whnf
          refine ⟨inK64 (by omega) (by omega), ?_⟩
          conv => whnf
          conv => whnf
          conv => whnf
          refine ⟨inK64 (by omega) (by omega), ?_⟩
          conv => whnf
          conv => whnf
          conv => whnf
          refine ⟨_, _, ⟨⟨i + 1, s + P.tdiv (l.getD i 0), by omega, (by rw [take_snocI hlt, sumD_snoc, hs]), rfl, rfl⟩, by omega⟩, ⟨⟨.inl rfl, rfl, rfl, rfl⟩, trivial, trivial⟩⟩
        · (exfalso; omega)
      · have e : i = l.length := by omega
        subst e
        rw [List.take_length] at hs
        subst hs
        unfold shareL
        generalize sumD P l = S at hSp hsb ⊢
        conv => whnf
        conv => whnf
        conv => whnf
        refine ifB_dec (fun w2 => ?_) (fun w2 => ?_)
        · (exfalso; omega)
        · conv => whnf
          conv => whnf
          conv => whnf
          refine ⟨[.slot 10 2], [0, 1, 6, 8, 10, 11], fun st mq => ∃ (i : Nat) (O : List Rg), (i ≤ l.length) ∧ (O = (l.take i).map fun n => fracG (load * P.tdiv n) S) ∧ (O.all smB = true) ∧ st = ⟨[(0, ints l), (1, i64 load), (6, i64 P), (8, i64 S), (10, .oslice 0 0 0 i none), (11, i64 i)], ⟨[⟨2, i, fun j => [i64 (O.getD j (0, 0)).1, i64 (O.getD j (0, 0)).2], 0, false, true, false⟩], [], none, 0⟩, []⟩ ∧ mq = l.length - i,
            ⟨_, _, ⟨0, [], by omega, rfl, rfl, rfl, rfl⟩, ⟨⟨.inl rfl, rfl, rfl, rfl⟩, ⟨⟨rfl, rfl, rfl, rfl, fun _ => rfl, fun i h => .inl (absurd h (Nat.not_lt_zero i))⟩, trivial⟩, trivial⟩⟩, ?_⟩
          rintro s0 m0 ⟨i, O, hi, hO, hz, rfl, hmeas⟩
          by_cases hlt : i < l.length
          · have hx := hd _ (getD_memI hlt)
            have hx' : 1 ≤ l.getD (i : Int).toNat 0 ∧ l.getD (i : Int).toNat 0 ≤ 20 := hx
            have hb := share_b (c := P) (load := load) (by omega) h.ld hx'
            have h141 := S141 (load * P.tdiv (l.getD (i : Int).toNat 0)) S (by omega) (by omega)
            have hden := frac_den (a := load * P.tdiv (l.getD (i : Int).toNat 0)) hSp
            have h77 := S77 (fracG (load * P.tdiv (l.getD (i : Int).toNat 0)) S) hden
            have hOl : O.length = i := by rw [hO]; simp; omega
            cases hsm : smB (fracG (load * P.tdiv (l.getD (i : Int).toNat 0)) S) with
            | true =>
              rw [hsm] at h77
              conv => whnf
              conv => whnf
              conv => whnf
              conv => whnf
              refine ifB_dec (fun w3 => ?_) (fun w3 => ?_)
              · conv => whnf
                conv => whnf
                conv => whnf
                conv => whnf
                refine ⟨⟨(by omega), (by omega)⟩, ?_⟩
                conv => whnf
                conv => whnf
                conv => whnf
                conv => whnf
                refine ⟨⟨(by omega), inK64 (by omega) (by omega)⟩, ?_⟩
                conv => whnf
                conv => whnf
                conv => whnf
                conv => whnf
                refine ⟨inK64 (by omega) (by omega), ?_⟩
                conv => whnf
                conv => whnf
                conv => whnf
                conv => whnf
                refine .inl ⟨_, _, byX rfl (Sound1.pl (h141) rfl), ?_⟩
                conv => whnf
                conv => whnf
                conv => whnf
                conv => whnf
                refine .inl ⟨_, _, byX rfl (Sound1.pl (h77) rfl), ?_⟩
                conv => whnf
                conv => whnf
                conv => whnf
                conv => whnf
                refine .inl ?_
                conv => whnf
                conv => whnf
                conv => whnf
                conv => whnf
                refine ⟨(by show _ * (16 + 1) ≤ _; omega), ?_⟩
                conv => whnf
                conv => whnf
                conv => whnf
                conv => whnf
                refine ⟨inK64 (by omega) (by omega), ?_⟩
                conv => whnf
                conv => whnf
                conv => whnf
                conv => whnf
                refine ⟨_, _, ⟨⟨i + 1, O ++ [fracG (load * P.tdiv (l.getD (i : Int).toNat 0)) S], by omega, (by rw [take_snocI hlt, share_snoc, hO]; rfl), (by rw [List.all_append, hz]; simpa using hsm), rfl, rfl⟩, by omega⟩, ⟨⟨.inl rfl, rfl, rfl, rfl⟩, ⟨⟨rfl, rfl, rfl, rfl, fun _ => rfl, fun j hj => .inl (app_rg O _ i j hOl hj)⟩, trivial⟩, trivial⟩⟩
              · (exfalso; omega)
            | false =>
              rw [hsm] at h77
              have hall : (l.map fun n => fracG (load * P.tdiv n) S).all smB = false := by
                rw [List.all_eq_false]
                exact ⟨_, List.mem_map.2 ⟨_, getD_memI hlt, rfl⟩, by rw [show smB (fracG (load * P.tdiv (l.getD i 0)) S) = false from hsm]; simp⟩
              rw [hall]
              conv => whnf
              conv => whnf
              conv => whnf
              conv => whnf
              refine ifB_dec (fun w3 => ?_) (fun w3 => ?_)
              · conv => whnf
                conv => whnf
                conv => whnf
                conv => whnf
                refine ⟨⟨(by omega), (by omega)⟩, ?_⟩
                conv => whnf
                conv => whnf
                conv => whnf
                conv => whnf
                refine ⟨⟨(by omega), inK64 (by omega) (by omega)⟩, ?_⟩
                conv => whnf
                conv => whnf
                conv => whnf
                conv => whnf
                refine ⟨inK64 (by omega) (by omega), ?_⟩
                conv => whnf
                conv => whnf
                conv => whnf
                conv => whnf
                refine .inl ⟨_, _, byX rfl (Sound1.pl (h141) rfl), ?_⟩
                conv => whnf
                conv => whnf
                conv => whnf
                conv => whnf
                refine .inl ⟨_, _, byX rfl (Sound1.pl (h77) rfl), ?_⟩
                conv => whnf
                conv => whnf
                conv => whnf
                conv => whnf
                refine ⟨?_, nofun⟩
                exact ave_tup2 rfl rfl
              · (exfalso; omega)
          · have e : i = l.length := by omega
            subst e
            rw [List.take_length] at hO
            rw [← hO, hz, if_pos rfl]
            have hOl : O.length = l.length := by rw [hO]; simp
            conv => whnf
            conv => whnf
            conv => whnf
            conv => whnf
            refine ifB_dec (fun w3 => ?_) (fun w3 => ?_)
            · (exfalso; omega)
            · conv => whnf
              conv => whnf
              conv => whnf
              conv => whnf
              refine ⟨?_, nofun⟩
              exact ave_tup2 ⟨rfl, hOl.symm, fun i hi => rfl⟩ rfl
/-- All shares, or the error. -/
def shaF (l : List Int) (load : Int) : List Rg := shareL (comL l) load l
theorem S69 (l : List Int) (load : Int) (hl : l.length ≤ 1000000) : SP 69 [ints l, i64 load] (.tuple [rgs (if shaE l load = 0 ∧ (shaF l load).all smB = true then shaF l load else []), i64 (if shaE l load ≠ 0 then shaE l load else if (shaF l load).all smB = true then 0 else 8)]) false := by
  have h94 := S94 135 (fun _ x => if 1 ≤ x ∧ x ≤ 20 then 0 else 2) l (by omega) (fun k hk => S135 k _)
  have h114 := S114 load 100000 (by decide)
  have h93a := S93 (decide ((l.length : Int) > 0)) 10
  have h93b := S93 (decide ((l.length : Int) ≤ 6)) 8
  have h93c := S93 (win load (-100000) 100000) 2
  by_cases h06 : l.length = 0 ∨ l.length > 6
  · have hE : shaE l load = if l.length = 0 then 10 else 8 := by
      unfold shaE
      by_cases h0 : l.length = 0
      · rw [if_pos h0, if_pos h0]
      · rw [if_neg h0, if_neg h0, if_pos (by omega)]
    have hne : shaE l load ≠ 0 := by rw [hE]; split <;> decide
    rw [if_neg (fun h => hne h.1), if_pos hne, hE]
    have h90 : ∀ f : Nat → List AV, (f 0 = [i64 (if decide ((l.length : Int) > 0) = true then 0 else 10)] ∧ f 1 = [i64 (if decide ((l.length : Int) ≤ 6) = true then 0 else 8)]) → SP 90 [.rslice 1 2 f] (i64 (if l.length = 0 then 10 else 8)) false := fun f h => by
      have h := S90_2 _ _ h
      have e : firstOf [if decide ((l.length : Int) > 0) = true then 0 else 10, if decide ((l.length : Int) ≤ 6) = true then (0 : Int) else 8] = if l.length = 0 then 10 else 8 := by
        rw [first2]
        simp only [decide_eq_true_eq]
        (repeat' split) <;> omega
      rwa [e] at h
    have h90' : ∀ (b : Int) (f : Nat → List AV), (f 0 = [i64 (if l.length = 0 then 10 else 8)] ∧ f 1 = [i64 b]) → SP 90 [.rslice 1 2 f] (i64 (if l.length = 0 then 10 else 8)) false := fun b f h => by
      have h := S90_2 _ b h
      have e : firstOf [if l.length = 0 then (10 : Int) else 8, b] = if l.length = 0 then 10 else 8 := by
        rw [first2, if_pos (by split <;> decide)]
      rwa [e] at h
    have h8 : (if l.length = 0 then (10 : Int) else 8) ≠ 0 := by split <;> decide
    generalize (if l.length = 0 then (10 : Int) else 8) = E at h90 h90' h8 ⊢
    refine sound (d := 2) tok2 mixed2 Tryz.func69 (by kernel_rfl) (by kernel_rfl) ?_
    conv => whnf
    refine .inl ⟨_, _, byX rfl (Sound1.pl (h93a) rfl), ?_⟩
    conv => whnf
    refine .inl ⟨_, _, byX rfl (Sound1.pl (h93b) rfl), ?_⟩
    conv => whnf
    refine .inl ⟨_, _, byX rfl (Sound1.pl (h90 _ ⟨rfl, rfl⟩) rfl), ?_⟩
    conv => whnf
    refine ifB_beq (fun w1 => ?_) (fun w1 => ?_)
    · (exfalso; omega)
    · conv => whnf
      refine .inl ⟨_, _, byX rfl (Sound1.pl (h114) rfl), ?_⟩
      conv => whnf
      refine .inl ⟨_, _, byX rfl (Sound1.pl (h93c) rfl), ?_⟩
      conv => whnf
      refine .inl ⟨_, _, byX rfl (Sound1.pl (h90' _ _ ⟨rfl, rfl⟩) rfl), ?_⟩
      conv => whnf
      refine ifB_bne (fun w2 => ?_) (fun w2 => ?_)
      · conv => whnf
        refine ⟨?_, nofun⟩
        exact ave_tup2 rfl rfl
      · (exfalso; omega)
  · have hE : shaE l load = if drE l ≠ 0 then drE l else if -100000 ≤ load ∧ load ≤ 100000 then 0 else 2 := by
      unfold shaE
      rw [if_neg (by omega), if_neg (by omega)]
    have h93a' : SP 93 [vb (decide ((l.length : Int) > 0)), i64 10] (i64 0) false := by rwa [if_pos (by simp only [decide_eq_true_eq]; omega)] at h93a
    have h93b' : SP 93 [vb (decide ((l.length : Int) ≤ 6)), i64 8] (i64 0) false := by rwa [if_pos (by simp only [decide_eq_true_eq]; omega)] at h93b
    have h90 : ∀ f : Nat → List AV, (f 0 = [i64 0] ∧ f 1 = [i64 0]) → SP 90 [.rslice 1 2 f] (i64 0) false := fun f h => by
      have h := S90_2 0 0 h
      rwa [first2, if_neg (by simp)] at h
    have h90' : ∀ f : Nat → List AV, (f 0 = [i64 (drE l)] ∧ f 1 = [i64 (if win load (-100000) 100000 = true then 0 else 2)]) → SP 90 [.rslice 1 2 f] (i64 (shaE l load)) false := fun f h => by
      have h := S90_2 _ _ h
      have e : firstOf [drE l, if win load (-100000) 100000 = true then (0 : Int) else 2] = shaE l load := by
        rw [first2, hE]
        unfold win
        simp only [decide_eq_true_eq]
      rwa [e] at h
    change SP 94 _ (.tuple [i64 (eachI (fun _ x => if 1 ≤ x ∧ x ≤ 20 then 0 else 2) l 0).1, i64 (drE l)]) false at h94
    by_cases hz : shaE l load = 0
    · have hsh := ShOk.of hz
      have hn := hsh.n
      have hd := hsh.dr
      have hco := com_ok hd
      rw [hz] at h90'
      rw [if_neg (not_not_intro hz)]
      have hif : (if shaE l load = 0 ∧ (shaF l load).all smB = true then shaF l load else []) = if (shaF l load).all smB = true then shaF l load else [] := by
        by_cases ha : (shaF l load).all smB = true
        · rw [if_pos ⟨hz, ha⟩, if_pos ha]
        · rw [if_neg (fun h => ha h.2), if_neg ha]
      rw [hif]
      refine sound (d := 2) tok2 mixed2 Tryz.func69 (by kernel_rfl) (by kernel_rfl) ?_
      conv => whnf
      refine .inl ⟨_, _, byX rfl (Sound1.pl (h93a') rfl), ?_⟩
      conv => whnf
      refine .inl ⟨_, _, byX rfl (Sound1.pl (h93b') rfl), ?_⟩
      conv => whnf
      refine .inl ⟨_, _, byX rfl (Sound1.pl (h90 _ ⟨rfl, rfl⟩) rfl), ?_⟩
      conv => whnf
      refine .inl ⟨_, _, byX rfl (Sound1.pl (h94) rfl), ?_⟩
      conv => whnf
      refine .inl ⟨_, _, byX rfl (Sound1.pl (h114) rfl), ?_⟩
      conv => whnf
      refine .inl ⟨_, _, byX rfl (Sound1.pl (h93c) rfl), ?_⟩
      conv => whnf
      refine .inl ⟨_, _, byX rfl (Sound1.pl (h90' _ ⟨rfl, rfl⟩) rfl), ?_⟩
      conv => whnf
      refine ⟨[], [0, 1, 7, 45, 46, 47], fun st mq => ∃ (i : Nat) (c : Int) (F0 : Nat → List AV) (F1 : Nat → List AV), (i ≤ l.length) ∧ (c = comL (l.take i)) ∧ st = ⟨[(0, ints l), (1, i64 load), (7, i64 c), (45, ints l), (46, i64 l.length), (47, i64 i)], ⟨[⟨1, 2, F0, 0, false, true, false⟩, ⟨1, 2, F1, 0, false, true, false⟩], [], none, 0⟩, []⟩ ∧ mq = l.length - i,
        ⟨_, _, ⟨0, 1, _, _, by omega, rfl, rfl, rfl⟩, ⟨⟨.inl rfl, rfl, rfl, rfl⟩, ⟨⟨rfl, rfl, rfl, rfl, fun _ => rfl, fun _ _ => .inl rfl⟩, ⟨⟨rfl, rfl, rfl, rfl, fun _ => rfl, fun _ _ => .inl rfl⟩, trivial⟩⟩, trivial⟩⟩, ?_⟩
      rintro s0 m0 ⟨i, c, F0, F1, hi, hc, rfl, hmeas⟩
      have hdi : DrOk (l.take i) := fun x hx => hd x (List.mem_of_mem_take hx)
      have hci := com_ok hdi
      have hcp := hci.pos
      have hcl := hci.le
      rw [List.length_take, Nat.min_eq_left hi] at hcl
      rw [← hc] at hcp hcl
      have hp20 := pw20 (i := i) (by omega)
      by_cases hlt : i < l.length
      · have hx := hd _ (getD_memI hlt)
        have hx' : 1 ≤ l.getD (i : Int).toNat 0 ∧ l.getD (i : Int).toNat 0 ≤ 20 := hx
        have h136 := S136 c (l.getD (i : Int).toNat 0) (by omega) (by omega)
        have hg := gcdI_pos (a := c) (b := l.getD (i : Int).toNat 0) (by omega)
        have hq1 : 0 ≤ c.tdiv (gcdI c (l.getD (i : Int).toNat 0)) := Int.tdiv_nonneg (by omega) (by omega)
        have hq2 : c.tdiv (gcdI c (l.getD (i : Int).toNat 0)) ≤ c := Int.tdiv_le_self _ (by omega)
        have hq3 := mul_sml (show (c.tdiv (gcdI c (l.getD (i : Int).toNat 0))).natAbs ≤ 64000000 by omega) (show (l.getD (i : Int).toNat 0).natAbs ≤ 20 by omega)
        conv => whnf
        conv => whnf
        refine ifB_dec (fun w1 => ?_) (fun w1 => ?_)
        · conv => whnf
          conv => whnf
          refine ⟨⟨(by omega), (by omega)⟩, ?_⟩
          conv => whnf
          conv => whnf
          refine .inl ⟨_, _, byX rfl (Sound1.pl (h136) rfl), ?_⟩
          conv => whnf
          conv => whnf
          refine ⟨⟨(by omega), inK64 (by omega) (by omega)⟩, ?_⟩
          conv => whnf
          conv => whnf
          refine ⟨inK64 (by omega) (by omega), ?_⟩
          conv => whnf
          conv => whnf
          refine ⟨inK64 (by omega) (by omega), ?_⟩
          conv => whnf
          conv => whnf
          refine ⟨_, _, ⟨⟨i + 1, c.tdiv (gcdI c (l.getD i 0)) * l.getD i 0, _, _, by omega, (by rw [take_snocI hlt, comL_snoc, hc]), rfl, rfl⟩, by omega⟩, ⟨⟨.inl rfl, rfl, rfl, rfl⟩, ⟨⟨rfl, rfl, rfl, rfl, fun _ => rfl, fun _ _ => .inl rfl⟩, ⟨⟨rfl, rfl, rfl, rfl, fun _ => rfl, fun _ _ => .inl rfl⟩, trivial⟩⟩, trivial⟩⟩
        · (exfalso; omega)
      · have e : i = l.length := by omega
        subst e
        rw [List.take_length] at hc
        unfold shaF
        have hdv := hco.dv
        rw [← hc] at hdv ⊢
        have hSp := sum_pos hcp hd hdv hn.1
        conv => whnf
        conv => whnf
        refine ifB_dec (fun w1 => ?_) (fun w1 => ?_)
        · (exfalso; omega)
        · conv => whnf
          conv => whnf
          refine ⟨[], [0, 1, 7, 10, 59, 60, 61], fun st mq => ∃ (i : Nat) (t : Int) (F0 : Nat → List AV) (F1 : Nat → List AV), (i ≤ l.length) ∧ (t = sumD c (l.take i)) ∧ st = ⟨[(0, ints l), (1, i64 load), (7, i64 c), (10, i64 t), (59, ints l), (60, i64 l.length), (61, i64 i)], ⟨[⟨1, 2, F0, 0, false, true, false⟩, ⟨1, 2, F1, 0, false, true, false⟩], [], none, 0⟩, []⟩ ∧ mq = l.length - i,
            ⟨_, _, ⟨0, 0, _, _, by omega, rfl, rfl, rfl⟩, ⟨⟨.inl rfl, rfl, rfl, rfl⟩, ⟨⟨rfl, rfl, rfl, rfl, fun _ => rfl, fun _ _ => .inl rfl⟩, ⟨⟨rfl, rfl, rfl, rfl, fun _ => rfl, fun _ _ => .inl rfl⟩, trivial⟩⟩, trivial⟩⟩, ?_⟩
          rintro s0 m0 ⟨i, t, F0, F1, hi, hs, rfl, hmeas⟩
          have hsb := sum_b hcp hd i hi
          have hm6 := mul6 (i := i) (c := c) (by omega) (by omega)
          rw [← hs] at hsb
          by_cases hlt : i < l.length
          · have hx := hd _ (getD_memI hlt)
            have hx' : 1 ≤ l.getD (i : Int).toNat 0 ∧ l.getD (i : Int).toNat 0 ≤ 20 := hx
            have hb := (share_b (c := c) (load := 0) (by omega) (by omega) hx').1
            conv => whnf
            conv => whnf
            conv => whnf
            refine ifB_dec (fun w2 => ?_) (fun w2 => ?_)
            · conv => whnf
              conv => whnf
              conv => whnf
              refine ⟨⟨(by omega), (by omega)⟩, ?_⟩
              conv => whnf
              conv => whnf
              conv => whnf
              refine ⟨⟨(by omega), inK64 (by omega) (by omega)⟩, ?_⟩
              conv => whnf
              conv => whnf
              conv => whnf
              refine ⟨inK64 (by omega) (by omega), ?_⟩
              conv => whnf
              conv => whnf
              conv => whnf
              refine ⟨inK64 (by omega) (by omega), ?_⟩
              conv => whnf
              conv => whnf
              conv => whnf
              refine ⟨_, _, ⟨⟨i + 1, t + c.tdiv (l.getD i 0), _, _, by omega, (by rw [take_snocI hlt, sumD_snoc, hs]), rfl, rfl⟩, by omega⟩, ⟨⟨.inl rfl, rfl, rfl, rfl⟩, ⟨⟨rfl, rfl, rfl, rfl, fun _ => rfl, fun _ _ => .inl rfl⟩, ⟨⟨rfl, rfl, rfl, rfl, fun _ => rfl, fun _ _ => .inl rfl⟩, trivial⟩⟩, trivial⟩⟩
            · (exfalso; omega)
          · have e : i = l.length := by omega
            subst e
            rw [List.take_length] at hs
            subst hs
            unfold shareL
            generalize sumD c l = S at hSp hsb ⊢
            conv => whnf
            conv => whnf
            conv => whnf
            refine ifB_dec (fun w2 => ?_) (fun w2 => ?_)
            · (exfalso; omega)
            · conv => whnf
              conv => whnf
              conv => whnf
              refine ⟨[.slot 13 2], [0, 1, 7, 10, 13, 71, 72, 73], fun st mq => ∃ (i : Nat) (O : List Rg) (F0 : Nat → List AV) (F1 : Nat → List AV), (i ≤ l.length) ∧ (O = (l.take i).map fun n => fracG (load * c.tdiv n) S) ∧ (O.all smB = true) ∧ st = ⟨[(0, ints l), (1, i64 load), (7, i64 c), (10, i64 S), (13, .oslice 2 0 0 i none), (71, ints l), (72, i64 l.length), (73, i64 i)], ⟨[⟨1, 2, F0, 0, false, true, false⟩, ⟨1, 2, F1, 0, false, true, false⟩, ⟨2, i, fun j => [i64 (O.getD j (0, 0)).1, i64 (O.getD j (0, 0)).2], 0, false, true, false⟩], [], none, 0⟩, []⟩ ∧ mq = l.length - i,
                ⟨_, _, ⟨0, [], _, _, by omega, rfl, rfl, rfl, rfl⟩, ⟨⟨.inl rfl, rfl, rfl, rfl⟩, ⟨⟨rfl, rfl, rfl, rfl, fun _ => rfl, fun _ _ => .inl rfl⟩, ⟨⟨rfl, rfl, rfl, rfl, fun _ => rfl, fun _ _ => .inl rfl⟩, ⟨⟨rfl, rfl, rfl, rfl, fun _ => rfl, fun i h => .inl (absurd h (Nat.not_lt_zero i))⟩, trivial⟩⟩⟩, trivial⟩⟩, ?_⟩
              rintro s0 m0 ⟨i, O, F0, F1, hi, hO, hz, rfl, hmeas⟩
              by_cases hlt : i < l.length
              · have hx := hd _ (getD_memI hlt)
                have hx' : 1 ≤ l.getD (i : Int).toNat 0 ∧ l.getD (i : Int).toNat 0 ≤ 20 := hx
                have hb := share_b (c := c) (load := load) (by omega) hsh.ld hx'
                have h136 := S136 (load * c.tdiv (l.getD (i : Int).toNat 0)) S (by omega) (by omega)
                have hg := gcdI_pos (a := load * c.tdiv (l.getD (i : Int).toNat 0)) hSp
                have hden := frac_den (a := load * c.tdiv (l.getD (i : Int).toNat 0)) hSp
                have hOl : O.length = i := by rw [hO]; simp; omega
                have hdef : fracG (load * c.tdiv (l.getD (i : Int).toNat 0)) S = ((load * c.tdiv (l.getD (i : Int).toNat 0)).tdiv (gcdI (load * c.tdiv (l.getD (i : Int).toNat 0)) S), S.tdiv (gcdI (load * c.tdiv (l.getD (i : Int).toNat 0)) S)) := rfl
                have hn1 : ((load * c.tdiv (l.getD (i : Int).toNat 0)).tdiv (gcdI (load * c.tdiv (l.getD (i : Int).toNat 0)) S)).natAbs ≤ (load * c.tdiv (l.getD (i : Int).toNat 0)).natAbs := Int.natAbs_tdiv_le_natAbs _ _
                have hn2 : (S.tdiv (gcdI (load * c.tdiv (l.getD (i : Int).toNat 0)) S)).natAbs ≤ S.natAbs := Int.natAbs_tdiv_le_natAbs _ _
                generalize hG : gcdI (load * c.tdiv (l.getD (i : Int).toNat 0)) S = g at h136 hg hdef hn1 hn2
                have h114b := S114 ((load * c.tdiv (l.getD (i : Int).toNat 0)).tdiv g) 1000000000 (by decide)
                have hbad : smB ((load * c.tdiv (l.getD (i : Int).toNat 0)).tdiv g, S.tdiv g) = false → (l.map fun n => fracG (load * c.tdiv n) S).all smB = false := fun hf => by
                  rw [List.all_eq_false]
                  exact ⟨_, List.mem_map.2 ⟨_, getD_memI hlt, rfl⟩, by rw [show fracG (load * c.tdiv (l.getD i 0)) S = _ from hdef, hf]; simp⟩
                by_cases hA : -1000000000 ≤ (load * c.tdiv (l.getD (i : Int).toNat 0)).tdiv g ∧ (load * c.tdiv (l.getD (i : Int).toNat 0)).tdiv g ≤ 1000000000
                · by_cases hB : S.tdiv g ≤ 1000000000
                  · have hsm : smB ((load * c.tdiv (l.getD (i : Int).toNat 0)).tdiv g, S.tdiv g) = true := by
                      unfold smB
                      rw [decide_eq_true hA, decide_eq_true hB]; rfl
                    conv => whnf
                    conv => whnf
                    conv => whnf
                    conv => whnf
                    refine ifB_dec (fun w3 => ?_) (fun w3 => ?_)
                    · conv => whnf
                      conv => whnf
                      conv => whnf
                      conv => whnf
                      refine ⟨⟨(by omega), (by omega)⟩, ?_⟩
                      conv => whnf
                      conv => whnf
                      conv => whnf
                      conv => whnf
                      refine ⟨⟨(by omega), inK64 (by omega) (by omega)⟩, ?_⟩
                      conv => whnf
                      conv => whnf
                      conv => whnf
                      conv => whnf
                      refine ⟨inK64 (by omega) (by omega), ?_⟩
                      conv => whnf
                      conv => whnf
                      conv => whnf
                      conv => whnf
                      refine .inl ⟨_, _, byX rfl (Sound1.pl (h136) rfl), ?_⟩
                      conv => whnf
                      conv => whnf
                      conv => whnf
                      conv => whnf
                      refine ⟨[], by kernel_rfl, ?_⟩
                      conv => whnf
                      conv => whnf
                      conv => whnf
                      conv => whnf
                      refine ⟨⟨(by omega), inK64 (by omega) (by omega)⟩, ?_⟩
                      conv => whnf
                      conv => whnf
                      conv => whnf
                      conv => whnf
                      refine ⟨⟨(by omega), inK64 (by omega) (by omega)⟩, ?_⟩
                      conv => whnf
                      conv => whnf
                      conv => whnf
                      conv => whnf
                      refine .inl ⟨_, _, byX rfl (Sound1.pl (h114b) rfl), ?_⟩
                      conv => whnf
                      conv => whnf
                      conv => whnf
                      conv => whnf
                      refine ifB_not ?_
                      conv => whnf
                      conv => whnf
                      conv => whnf
                      conv => whnf
                      refine ifB_dec (fun w4 => ?_) (fun w4 => ?_)
                      · conv => whnf
                        conv => whnf
                        conv => whnf
                        conv => whnf
                        refine ifB_dec (fun w5 => ?_) (fun w5 => ?_)
                        · (exfalso; omega)
                        · conv => whnf
                          conv => whnf
                          conv => whnf
                          conv => whnf
                          refine .inl ?_
                          conv => whnf
                          conv => whnf
                          conv => whnf
                          conv => whnf
                          refine ⟨(by show _ * (16 + 1) ≤ _; omega), ?_⟩
                          conv => whnf
                          conv => whnf
                          conv => whnf
                          conv => whnf
                          refine ⟨inK64 (by omega) (by omega), ?_⟩
                          conv => whnf
                          conv => whnf
                          conv => whnf
                          conv => whnf
                          refine ⟨_, _, ⟨⟨i + 1, O ++ [((load * c.tdiv (l.getD (i : Int).toNat 0)).tdiv g, S.tdiv g)], _, _, by omega, (by rw [take_snocI hlt, share_snoc, hO, show fracG (load * c.tdiv (l.getD i 0)) S = _ from hdef]), (by rw [List.all_append, hz]; simpa using hsm), rfl, rfl⟩, by omega⟩, ⟨⟨.inl rfl, rfl, rfl, rfl⟩, ⟨⟨rfl, rfl, rfl, rfl, fun _ => rfl, fun _ _ => .inl rfl⟩, ⟨⟨rfl, rfl, rfl, rfl, fun _ => rfl, fun _ _ => .inl rfl⟩, ⟨⟨rfl, rfl, rfl, rfl, fun _ => rfl, fun j hj => .inl (app_rg O _ i j hOl hj)⟩, trivial⟩⟩⟩, trivial⟩⟩
                      · (exfalso; omega)
                    · (exfalso; omega)
                  · have hsm : smB ((load * c.tdiv (l.getD (i : Int).toNat 0)).tdiv g, S.tdiv g) = false := by
                      unfold smB
                      rw [decide_eq_false hB, Bool.and_false]
                    rw [hbad hsm]
                    conv => whnf
                    conv => whnf
                    conv => whnf
                    conv => whnf
                    refine ifB_dec (fun w3 => ?_) (fun w3 => ?_)
                    · (exfalso; omega)
                    · (exfalso; omega)
                · have hsm : smB ((load * c.tdiv (l.getD (i : Int).toNat 0)).tdiv g, S.tdiv g) = false := by
                    unfold smB
                    rw [decide_eq_false hA, Bool.false_and]
                  rw [hbad hsm]
                  conv => whnf
                  conv => whnf
                  conv => whnf
                  conv => whnf
                  refine ifB_dec (fun w3 => ?_) (fun w3 => ?_)
                  · conv => whnf
                    conv => whnf
                    conv => whnf
                    conv => whnf
                    refine ⟨⟨(by omega), (by omega)⟩, ?_⟩
                    conv => whnf
                    conv => whnf
                    conv => whnf
                    conv => whnf
                    refine ⟨⟨(by omega), inK64 (by omega) (by omega)⟩, ?_⟩
                    conv => whnf
                    conv => whnf
                    conv => whnf
                    conv => whnf
                    refine ⟨inK64 (by omega) (by omega), ?_⟩
                    conv => whnf
                    conv => whnf
                    conv => whnf
                    conv => whnf
                    refine .inl ⟨_, _, byX rfl (Sound1.pl (h136) rfl), ?_⟩
                    conv => whnf
                    conv => whnf
                    conv => whnf
                    conv => whnf
                    refine ⟨[], by kernel_rfl, ?_⟩
                    conv => whnf
                    conv => whnf
                    conv => whnf
                    conv => whnf
                    refine ⟨⟨(by omega), inK64 (by omega) (by omega)⟩, ?_⟩
                    conv => whnf
                    conv => whnf
                    conv => whnf
                    conv => whnf
                    refine ⟨⟨(by omega), inK64 (by omega) (by omega)⟩, ?_⟩
                    conv => whnf
                    conv => whnf
                    conv => whnf
                    conv => whnf
                    refine .inl ⟨_, _, byX rfl (Sound1.pl (h114b) rfl), ?_⟩
                    conv => whnf
                    conv => whnf
                    conv => whnf
                    conv => whnf
                    refine ifB_not ?_
                    conv => whnf
                    conv => whnf
                    conv => whnf
                    conv => whnf
                    refine ifB_dec (fun w4 => ?_) (fun w4 => ?_)
                    · (exfalso; omega)
                    · conv => whnf
                      conv => whnf
                      conv => whnf
                      conv => whnf
                      refine ⟨?_, nofun⟩
                      (first | contradiction | exact ave_tup2 rfl rfl)
                  · (exfalso; omega)
              · have e : i = l.length := by omega
                subst e
                rw [List.take_length] at hO
                rw [← hO, hz, if_pos rfl]
                have hOl : O.length = l.length := by rw [hO]; simp
                conv => whnf
                conv => whnf
                conv => whnf
                conv => whnf
                refine ifB_dec (fun w3 => ?_) (fun w3 => ?_)
                · (exfalso; omega)
                · conv => whnf
                  conv => whnf
                  conv => whnf
                  conv => whnf
                  refine ⟨?_, nofun⟩
                  exact ave_tup2 ⟨rfl, hOl.symm, fun i hi => rfl⟩ rfl
    · rw [if_neg (fun h => hz h.1), if_pos hz]
      refine sound (d := 2) tok2 mixed2 Tryz.func69 (by kernel_rfl) (by kernel_rfl) ?_
      conv => whnf
      refine .inl ⟨_, _, byX rfl (Sound1.pl (h93a') rfl), ?_⟩
      conv => whnf
      refine .inl ⟨_, _, byX rfl (Sound1.pl (h93b') rfl), ?_⟩
      conv => whnf
      refine .inl ⟨_, _, byX rfl (Sound1.pl (h90 _ ⟨rfl, rfl⟩) rfl), ?_⟩
      conv => whnf
      refine .inl ⟨_, _, byX rfl (Sound1.pl (h94) rfl), ?_⟩
      conv => whnf
      refine .inl ⟨_, _, byX rfl (Sound1.pl (h114) rfl), ?_⟩
      conv => whnf
      refine .inl ⟨_, _, byX rfl (Sound1.pl (h93c) rfl), ?_⟩
      conv => whnf
      refine .inl ⟨_, _, byX rfl (Sound1.pl (h90' _ ⟨rfl, rfl⟩) rfl), ?_⟩
      conv => whnf
      refine ifB_bne (fun w1 => ?_) (fun w1 => ?_)
      · conv => whnf
        refine ⟨?_, nofun⟩
        exact ave_tup2 rfl rfl
      · (exfalso; omega)
end Go.Tr

/- Plain laws: sorting by insertion, votes. Conditions: none. -/
namespace Go.Tr
open Go Go.Proofs
set_option maxRecDepth 20000
set_option maxHeartbeats 8000000

/-- In order, as far as a place. -/
def SortTo (a : List Int) (n : Nat) : Prop := ∀ p q, p < q → q < n → a.getD p 0 ≤ a.getD q 0
/-- In order but for one that sinks. -/
structure Sink (a : List Int) (j n : Nat) : Prop where
  lo : ∀ p q, p < q → q < j → a.getD p 0 ≤ a.getD q 0
  hi : ∀ p q, j ≤ p → p < q → q < n → a.getD p 0 ≤ a.getD q 0
  cr : ∀ p q, p < j → j < q → q < n → a.getD p 0 ≤ a.getD q 0
def swapL (a : List Int) (j : Nat) : List Int := (a.set j (a.getD (j - 1) 0)).set (j - 1) (a.getD j 0)
theorem swapL_perm {a : List Int} {j : Nat} (h : j < a.length) : (swapL a j).Perm a := by
  have h1 : j - 1 < a.length := by omega
  have e1 : a.getD (j - 1) 0 = a[j - 1] := by simp [List.getD_eq_getElem?_getD, h1]
  have e2 : a.getD j 0 = a[j] := by simp [List.getD_eq_getElem?_getD, h]
  unfold swapL
  rw [e1, e2]
  exact List.set_set_perm h h1
theorem swapL_get {a : List Int} {j : Nat} (h0 : 0 < j) (h : j < a.length) (i : Nat) : (swapL a j).getD i 0 = if i = j - 1 then a.getD j 0 else if i = j then a.getD (j - 1) 0 else a.getD i 0 := by
  unfold swapL
  rw [getD_setI, getD_setI]
  by_cases h1 : i = j - 1
  · rw [if_pos ⟨h1, by rw [List.length_set]; omega⟩, if_pos h1]
  · rw [if_neg (fun e => h1 e.1), if_neg h1]
    by_cases h2 : i = j
    · rw [if_pos ⟨h2, h⟩, if_pos h2]
    · rw [if_neg (fun e => h2 e.1), if_neg h2]
theorem sink_swap {a : List Int} {j n : Nat} (h0 : 0 < j) (h : j < a.length) (hs : Sink a j n) (hlt : a.getD j 0 < a.getD (j - 1) 0) : Sink (swapL a j) (j - 1) n := by
  have g := swapL_get h0 h
  refine ⟨fun p q h1 h2 => ?_, fun p q h1 h2 h3 => ?_, fun p q h1 h2 h3 => ?_⟩
  · rw [g, g, if_neg (by omega), if_neg (by omega), if_neg (by omega), if_neg (by omega)]
    exact hs.lo p q h1 (by omega)
  · rw [g, g]
    by_cases e1 : p = j - 1
    · rw [if_pos e1, if_neg (show ¬ q = j - 1 by omega)]
      by_cases e2 : q = j
      · rw [if_pos e2]; omega
      · rw [if_neg e2]
        exact hs.hi j q (Nat.le_refl _) (by omega) h3
    · rw [if_neg e1, if_neg (show ¬ q = j - 1 by omega)]
      by_cases e2 : p = j
      · rw [if_pos e2, if_neg (by omega)]
        exact hs.cr (j - 1) q (by omega) (by omega) h3
      · rw [if_neg e2, if_neg (by omega)]
        exact hs.hi p q (by omega) h2 h3
  · rw [g, g, if_neg (show ¬ p = j - 1 by omega), if_neg (show ¬ p = j by omega), if_neg (show ¬ q = j - 1 by omega)]
    by_cases e2 : q = j
    · rw [if_pos e2]; exact hs.lo p (j - 1) (by omega) (by omega)
    · rw [if_neg e2]; exact hs.cr p q (by omega) (by omega) h3
theorem sink_end {a : List Int} {j n : Nat} (hs : Sink a j n) (h : j = 0 ∨ a.getD (j - 1) 0 ≤ a.getD j 0) : SortTo a n := fun p q h1 h2 => by
  by_cases e1 : q < j
  · exact hs.lo p q h1 e1
  · by_cases e2 : j ≤ p
    · exact hs.hi p q e2 h1 h2
    · by_cases e3 : q = j
      · subst e3
        rcases h with h | h
        · omega
        · by_cases e4 : p = q - 1
          · rw [e4]; exact h
          · exact Int.le_trans (hs.lo p (q - 1) (by omega) (by omega)) h
      · exact hs.cr p q (by omega) (by omega) h2
theorem sink_start {a : List Int} {i : Nat} (h : SortTo a i) : Sink a i (i + 1) :=
  ⟨h, fun p q h1 h2 h3 => by omega, fun p q h1 h2 h3 => by omega⟩

theorem perm2 {x y u v : Int} (h : [x, y].Perm [u, v]) : (x = u ∧ y = v) ∨ (x = v ∧ y = u) := by
  have hx : x ∈ [u, v] := h.subset (by simp)
  rcases List.mem_cons.1 hx with e | hx
  · subst e
    have := (List.perm_cons x).1 h
    have := List.perm_singleton.1 this
    simp at this
    exact .inl ⟨rfl, this⟩
  · have e := List.mem_singleton.1 hx
    subst e
    have h2 := h.trans (List.Perm.swap x u [])
    have := (List.perm_cons x).1 h2
    have := List.perm_singleton.1 this
    simp at this
    exact .inr ⟨rfl, this⟩
/-- The one in the middle of three. -/
def midI (u v w : Int) : Int := max (min u v) (min (max u v) w)
theorem perm3 {x y z u v w : Int} (h : [x, y, z].Perm [u, v, w]) (h1 : x ≤ y) (h2 : y ≤ z) : y = midI u v w := by
  unfold midI
  have hx : x ∈ [u, v, w] := h.subset (by simp)
  rcases List.mem_cons.1 hx with e | hx
  · subst e
    have h3 := perm2 ((List.perm_cons x).1 h)
    omega
  · rcases List.mem_cons.1 hx with e | hx
    · subst e
      have h3 := perm2 ((List.perm_cons x).1 (h.trans (List.Perm.swap x u [w])))
      omega
    · have e := List.mem_singleton.1 hx
      subst e
      have h4 : [u, v, x].Perm [x, u, v] := by
        exact (List.perm_append_comm (l₁ := [u, v]) (l₂ := [x]))
      have h3 := perm2 ((List.perm_cons x).1 (h.trans h4))
      omega
abbrev Rd := Int × Bool
def rdE (r : Rd) : Int := if r.2 = true then (if r.1 = 0 then 0 else 3) else (if -1000000 ≤ r.1 ∧ r.1 ≤ 1000000 then 0 else 2)
def presL (R : List Rd) : List Int := R.filterMap fun r => if r.2 = true then none else some r.1
theorem presL_snoc (R : List Rd) (r : Rd) : presL (R ++ [r]) = if r.2 = true then presL R else presL R ++ [r.1] := by
  unfold presL
  rw [List.filterMap_append]
  by_cases h : r.2 = true
  · rw [if_pos h]; simp [h]
  · rw [if_neg h]; simp [h]
end Go.Tr

/- Contracts of chapter 6: the vote of three channels. Conditions: none. -/
namespace Go.Tr
open Go Go.Proofs
set_option maxRecDepth 20000
set_option maxHeartbeats 8000000

theorem S138 (k : Int) (r : Rd) : SP 138 [i64 k, .agg [i64 r.1, vb r.2]] (i64 (rdE r)) false := by
  obtain ⟨v, m⟩ := r
  have h93a := S93 (v == 0) 3
  have h114 := S114 v 1000000 (by decide)
  have h93b := S93 (win v (-1000000) 1000000) 2
  unfold rdE
  cases m with
  | true =>
    refine sound (d := 2) tok2 mixed2 Tryz.func138 (by kernel_rfl) (by kernel_rfl) ?_
    conv => whnf
    refine .inl ⟨_, _, byX rfl (Sound1.pl (h93a) rfl), ?_⟩
    conv => whnf
    refine ⟨?_, nofun⟩
    exact endi (by simp)
  | false =>
    refine sound (d := 2) tok2 mixed2 Tryz.func138 (by kernel_rfl) (by kernel_rfl) ?_
    conv => whnf
    refine .inl ⟨_, _, byX rfl (Sound1.pl (h114) rfl), ?_⟩
    conv => whnf
    refine .inl ⟨_, _, byX rfl (Sound1.pl (h93b) rfl), ?_⟩
    conv => whnf
    refine ⟨?_, nofun⟩
    exact endi (by unfold win; simp)
theorem S140 (n : Int) (h : n.natAbs ≤ 1000000000) : SP 140 [i64 n, i64 2] (i64 (n.fdiv 2)) false := by
  have h1 := Int.tmod_add_mul_tdiv n 2
  have h2 := Int.tmod_lt_of_pos n (show (0 : Int) < 2 by decide)
  have h3 := Int.lt_tmod_of_pos n (show (0 : Int) < 2 by decide)
  have e : n.fdiv 2 = n / 2 := Int.fdiv_eq_ediv_of_nonneg n (by decide)
  rw [e]
  have h4 : ((n.tdiv 2).natAbs) ≤ n.natAbs := Int.natAbs_tdiv_le_natAbs _ _
  have hs : n < 0 → n.tmod 2 ≤ 0 := fun h => by
    have := Int.tmod_nonneg (a := -n) 2 (by omega)
    rw [Int.neg_tmod] at this
    omega
  have hs2 : 0 ≤ n → 0 ≤ n.tmod 2 := fun h => Int.tmod_nonneg _ h
  refine sound (d := 2) tok2 mixed2 Tryz.func140 (by kernel_rfl) (by kernel_rfl) ?_
  conv => whnf
  refine ⟨⟨(by omega), inK64 (by omega) (by omega)⟩, ?_⟩
  conv => whnf
  refine ⟨(by omega), ?_⟩
  conv => whnf
  refine ifB_dec (fun w1 => ?_) (fun w1 => ?_)
  · conv => whnf
    refine ⟨inK64 (by omega) (by omega), ?_⟩
    conv => whnf
    refine ⟨?_, nofun⟩
    exact endi (by omega)
  · conv => whnf
    refine ⟨?_, nofun⟩
    exact endi (by omega)
theorem S161 (n : Nat) (h : n ≤ 3) : ∃ r, SP 161 [.val (.int .u64 n)] (i64 r) false := by
  have : n = 0 ∨ n = 1 ∨ n = 2 ∨ n = 3 := by omega
  rcases this with rfl | rfl | rfl | rfl
  · exact ⟨_, run_ok mixed2 (l := []) (by simp) 1000 60 (y := i64 0) (by kernel_rfl)⟩
  · exact ⟨_, run_ok mixed2 (l := []) (by simp) 1000 60 (y := i64 1) (by kernel_rfl)⟩
  · exact ⟨_, run_ok mixed2 (l := []) (by simp) 1000 60 (y := i64 2) (by kernel_rfl)⟩
  · exact ⟨_, run_ok mixed2 (l := []) (by simp) 1000 60 (y := i64 2) (by kernel_rfl)⟩
def eachD : List Rd → Nat → Int × Int
  | [], _ => (0, 0)
  | x :: l, k => if rdE x = 0 then eachD l (k + 1) else (k, rdE x)
theorem eachD_drop (l : List Rd) (k : Nat) (h : k < l.length) : eachD (l.drop k) k = if rdE (l.getD k (0, false)) = 0 then eachD (l.drop (k + 1)) (k + 1) else ((k : Int), rdE (l.getD k (0, false))) := by
  rw [List.drop_eq_getElem_cons h]
  simp [eachD, List.getD_eq_getElem?_getD, h]
def rds (L : List Rd) : AV := .rslice 2 L.length fun i => [i64 (L.getD i (0, false)).1, vb (L.getD i (0, false)).2]
theorem S137 (l : List Rd) (hl : l.length ≤ 1000000000) : SP 137 [rds l, .func (.func 138) 0 []] (.tuple [i64 (eachD l 0).1, i64 (eachD l 0).2]) false := by
  refine sound (d := 2) tok2 mixed2 Tryz.func137 (by kernel_rfl) (by kernel_rfl) ?_
  conv => whnf
  refine ⟨[], [1, 9, 10, 11], fun st mq => ∃ (k : Nat), (k ≤ l.length) ∧ (eachD (l.drop k) k = eachD l 0) ∧ st = ⟨[(1, .func (.func 138) 0 []), (9, rds l), (10, i64 l.length), (11, i64 k)], ⟨[], [], none, 0⟩, []⟩ ∧ mq = l.length - k,
    ⟨_, _, ⟨0, by omega, rfl, rfl, rfl⟩, ⟨⟨.inl rfl, rfl, rfl, rfl⟩, trivial, trivial⟩⟩, ?_⟩
  rintro s0 m0 ⟨k, hk, he, rfl, hmeas⟩
  by_cases hlt : k < l.length
  · have hd := eachD_drop l k hlt
    have hc := S138 k (l.getD k (0, false))
    conv => whnf
    conv => whnf
    refine ifB_dec (fun w1 => ?_) (fun w1 => ?_)
    · conv => whnf
      conv => whnf
      refine ⟨⟨(by omega), (by omega)⟩, ?_⟩
      conv => whnf
      conv => whnf
      refine .inl ⟨_, _, byX rfl (Sound1.pl (hc) rfl), ?_⟩
      conv => whnf
      conv => whnf
      refine ifB_bne (fun w2 => ?_) (fun w2 => ?_)
      · conv => whnf
        conv => whnf
        refine ⟨?_, nofun⟩
        rw [if_neg w2] at hd
        exact ave_tup2 (endi (by rw [← he, hd])) (endi (by rw [← he, hd]))
      · conv => whnf
        conv => whnf
        refine ⟨inK64 (by omega) (by omega), ?_⟩
        rw [if_pos w2] at hd
        conv => whnf
        conv => whnf
        refine ⟨_, _, ⟨⟨k + 1, by omega, hd.symm.trans he, rfl, rfl⟩, by omega⟩, ⟨⟨.inl rfl, rfl, rfl, rfl⟩, trivial, trivial⟩⟩
    · (exfalso; omega)
  · have e : k = l.length := by omega
    subst e
    rw [List.drop_length] at he
    conv => whnf
    conv => whnf
    refine ifB_dec (fun w1 => ?_) (fun w1 => ?_)
    · (exfalso; omega)
    · conv => whnf
      conv => whnf
      refine ⟨?_, nofun⟩
      exact ave_tup2 (endi (by rw [← he]; rfl)) (endi (by rw [← he]; rfl))
/-- Three readings. -/
structure R3 where
  a : Rd
  b : Rd
  c : Rd
def R3.l (x : R3) : List Rd := [x.a, x.b, x.c]
abbrev xA (x : R3) : AV := .agg [i64 x.a.1, vb x.a.2, i64 x.b.1, vb x.b.2, i64 x.c.1, vb x.c.2]
def rdsE (x : R3) : Int := (eachD x.l 0).2
theorem S137x (x : R3) (f : Nat → List AV) (h : f 0 = [i64 x.a.1, vb x.a.2] ∧ f 1 = [i64 x.b.1, vb x.b.2] ∧ f 2 = [i64 x.c.1, vb x.c.2]) : SP 137 [.rslice 2 3 f, .func (.func 138) 0 []] (.tuple [i64 (eachD x.l 0).1, i64 (rdsE x)]) false := by
  refine (S137 x.l (by show 3 ≤ 1000000000; decide)).argsD rfl fun i y z hy hz => ?_
  match i, hy, hz with
  | 0, hy, hz =>
    cases hy; cases hz
    refine .inr ⟨1, AVF_rows rfl (fun i hi => ?_) 0⟩
    match i, hi with
    | 0, _ => exact h.1
    | 1, _ => exact h.2.1
    | 2, _ => exact h.2.2
  | 1, hy, hz => cases hy; cases hz; exact .inl rfl
def tolE (t : Int) : Int := if 0 ≤ t ∧ t ≤ 1000000 then 0 else 2
/-- The error of a vote, but for channels that differ. -/
def votE (x : R3) (t : Int) : Int := firstOf [rdsE x, tolE t, if (presL x.l).length ≥ 2 then 0 else 14]
theorem S181 (a b : Int) : SP 181 [i64 a, i64 b] (vb (decide (a < b))) false := by
  have h : ∀ x : Int, SP 197 [i64 x] (vb false) false := fun x => by
    refine sound (d := 2) tok2 mixed2 Tryz.func197 (by kernel_rfl) (by kernel_rfl) ?_
    conv => whnf
    refine ⟨?_, nofun⟩
    exact endb (by simp)
  refine sound (d := 2) tok2 mixed2 Tryz.func181 (by kernel_rfl) (by kernel_rfl) ?_
  conv => whnf
  refine .inl ⟨_, _, byX rfl (Sound1.pl (h _) rfl), ?_⟩
  conv => whnf
  refine ⟨?_, nofun⟩
  exact endb rfl
def two (u v t : Int) : Int × Int := if ((u - v).natAbs : Int) > t then (0, 13) else ((u + v).fdiv 2, 0)
def oddB (m t z : Int) : Bool := decide (((z - m).natAbs : Int) > t)
def b01 (b : Bool) : Int := if b = true then 1 else 0
abbrev Vt := Int × Bool × Bool × Bool
abbrev vtA (v : Vt) : AV := .agg [i64 v.1, vb v.2.1, vb v.2.2.1, vb v.2.2.2]
def vt0 : Vt := (0, false, false, false)
/-- The vote. -/
def voteG (x : R3) (t : Int) : Vt × Int :=
  if votE x t ≠ 0 then (vt0, votE x t)
  else if (presL x.l).length = 2 then (((two ((presL x.l).getD 0 0) ((presL x.l).getD 1 0) t).1, false, false, false), (two ((presL x.l).getD 0 0) ((presL x.l).getD 1 0) t).2)
  else if b01 (oddB (midI x.a.1 x.b.1 x.c.1) t x.a.1) + b01 (oddB (midI x.a.1 x.b.1 x.c.1) t x.b.1) + b01 (oddB (midI x.a.1 x.b.1 x.c.1) t x.c.1) > 1 then (vt0, 13)
  else ((midI x.a.1 x.b.1 x.c.1, oddB (midI x.a.1 x.b.1 x.c.1) t x.a.1, oddB (midI x.a.1 x.b.1 x.c.1) t x.b.1, oddB (midI x.a.1 x.b.1 x.c.1) t x.c.1), 0)
theorem siz_abs (z : Int) : siz z = (z.natAbs : Nat) := by unfold siz; split <;> omega
theorem vot_in {x : R3} {t : Int} (h : votE x t = 0) : (∀ v ∈ presL x.l, v.natAbs ≤ 1000000) ∧ 0 ≤ t ∧ t ≤ 1000000 := by
  unfold votE at h
  rw [first3] at h
  by_cases h1 : rdsE x = 0
  · rw [if_neg (not_not_intro h1)] at h
    by_cases h2 : tolE t = 0
    · refine ⟨fun v hv => ?_, ?_⟩
      · have hall : ∀ (l : List Rd) (k : Nat), (eachD l k).2 = 0 → ∀ r ∈ l, rdE r = 0 := fun l => by
          induction l with
          | nil => intro _ _ r hr; cases hr
          | cons y l ih =>
            intro k h r hr
            unfold eachD at h
            by_cases hy : rdE y = 0
            · rw [if_pos hy] at h
              rcases List.mem_cons.1 hr with e | hr
              · rw [e]; exact hy
              · exact ih (k + 1) h r hr
            · rw [if_neg hy] at h; exact absurd h hy
        obtain ⟨r, hr, he⟩ := List.mem_filterMap.1 hv
        have h3 := hall x.l 0 h1 r hr
        unfold rdE at h3
        by_cases hm : r.2 = true
        · rw [if_pos hm] at he; exact absurd he (by simp)
        · rw [if_neg hm] at h3 he
          cases he
          split at h3
          · omega
          · exact absurd h3 (by decide)
      · unfold tolE at h2
        split at h2
        · assumption
        · exact absurd h2 (by decide)
    · rw [if_pos h2] at h; exact absurd h h2
  · rw [if_pos h1] at h; exact absurd h h1
theorem pres3 {x : R3} (h : (presL x.l).length = 3) : presL x.l = [x.a.1, x.b.1, x.c.1] := by
  obtain ⟨⟨a, ma⟩, ⟨b, mb⟩, ⟨c, mc⟩⟩ := x
  unfold presL R3.l at h ⊢
  cases ma <;> cases mb <;> cases mc <;> simp at h ⊢
theorem sorted2 {a O : List Int} (hp : a.Perm O) (hs : SortTo a 2) (hl : a.length = 2) (hO : O.length = 2) : (a.getD 1 0 - a.getD 0 0 = ((O.getD 0 0 - O.getD 1 0).natAbs : Nat)) ∧ a.getD 0 0 + a.getD 1 0 = O.getD 0 0 + O.getD 1 0 := by
  have h01 := hs 0 1 (by omega) (by omega)
  match a, O, hl, hO with
  | [p, q], [u, v], _, _ =>
    have h := perm2 hp
    have h01 : p ≤ q := h01
    show q - p = ((u - v).natAbs : Nat) ∧ p + q = u + v
    omega
theorem sorted3 {a : List Int} {u v w : Int} (hp : a.Perm [u, v, w]) (hs : SortTo a 3) (hl : a.length = 3) : a.getD 1 0 = midI u v w := by
  have h01 := hs 0 1 (by omega) (by omega)
  have h12 := hs 1 2 (by omega) (by omega)
  match a, hl with
  | [p, q, r], _ => exact perm3 hp h01 h12
theorem vot_len {x : R3} {t : Int} (h : votE x t = 0) : 2 ≤ (presL x.l).length ∧ (presL x.l).length ≤ 3 := by
  refine ⟨?_, Nat.le_trans (List.length_filterMap_le ..) (Nat.le_refl 3)⟩
  by_cases h2 : (presL x.l).length ≥ 2
  · exact h2
  · exfalso
    unfold votE at h
    rw [first3, if_neg h2] at h
    (repeat' split at h) <;> first | contradiction | omega
set_option maxHeartbeats 4000000 in
theorem S70 (x : R3) (t : Int) : SP 70 [xA x, i64 t] (.tuple [vtA (voteG x t).1, i64 (voteG x t).2]) false := by
  have h137 := S137x x
  have h118 := S118 t 0 1000000
  have h93t := S93 (win t 0 1000000) 2
  have h90 := fun a b c => @S90_3 a b c
  refine sound (d := 5) tok2 mixed2 Tryz.func70 (by kernel_rfl) (by kernel_rfl) ?_
  conv => whnf
  refine ⟨⟨(by omega), ⟨(by omega), (by omega)⟩⟩, ?_⟩
  conv => whnf
  refine .inl ⟨_, _, byX rfl (Sound1.pl (h137 _ ⟨rfl, rfl, rfl⟩) rfl), ?_⟩
  conv => whnf
  refine ⟨[.slot 8 1], [1, 2, 4, 7, 8, 20, 21], fun st mq => ∃ (k : Nat) (O : List Int) (n : Nat), (k ≤ 3) ∧ (O = presL (x.l.take k)) ∧ (O.length = n) ∧ st = ⟨[(1, i64 t), (2, .optr 0 0 0 0), (4, .optr 1 0 0 0), (7, i64 (rdsE x)), (8, .oslice 2 0 0 n none), (20, xA x), (21, i64 k)], ⟨[⟨6, 1, fun _ => [i64 x.a.1, vb x.a.2, i64 x.b.1, vb x.b.2, i64 x.c.1, vb x.c.2], 0, true, true, true⟩, ⟨4, 1, fun _ => [i64 0, vb false, vb false, vb false], 0, false, true, true⟩, ⟨1, n, fun i => [i64 (O.getD i 0)], 0, false, true, false⟩], [], none, 0⟩, []⟩ ∧ mq = 3 - k,
    ⟨_, _, ⟨0, [], 0, by omega, rfl, rfl, rfl, rfl⟩, ⟨⟨.inl rfl, rfl, rfl, rfl⟩, ⟨⟨rfl, rfl, rfl, rfl, fun _ => rfl, fun _ _ => .inl rfl⟩, ⟨⟨rfl, rfl, rfl, rfl, fun _ => rfl, fun _ _ => .inl rfl⟩, ⟨⟨rfl, rfl, rfl, rfl, fun _ => rfl, fun i h => .inl (absurd h (Nat.not_lt_zero i))⟩, trivial⟩⟩⟩, trivial⟩⟩, ?_⟩
  rintro s0 m0 ⟨k, O, n, hk, hO, hn, rfl, hmeas⟩
  have hn3 : n ≤ 3 := by
    rw [← hn, hO]
    exact Nat.le_trans (List.length_filterMap_le ..) (by rw [List.length_take]; exact Nat.min_le_right _ _)
  have hc : k = 0 ∨ k = 1 ∨ k = 2 ∨ k = 3 := by omega
  rcases hc with rfl | rfl | rfl | rfl
  · have et : x.l.take 1 = x.l.take 0 ++ [x.a] := rfl
    conv => whnf
    conv => whnf
    refine ⟨⟨(by omega), (by omega)⟩, ?_⟩
    conv => whnf
    conv => whnf
    refine ifB_not ?_
    conv => whnf
    conv => whnf
    refine ifB_intro (fun w1 => ?_) (fun w1 => ?_)
    · conv => whnf
      conv => whnf
      refine ⟨inK64 (by omega) (by omega), ?_⟩
      conv => whnf
      conv => whnf
      refine ⟨_, _, ⟨⟨1, O, n, by omega, (by rw [et, presL_snoc, if_pos w1, hO]), hn, rfl, rfl⟩, by omega⟩, ⟨⟨.inl rfl, rfl, rfl, rfl⟩, ⟨⟨rfl, rfl, rfl, rfl, fun _ => rfl, fun _ _ => .inl rfl⟩, ⟨⟨rfl, rfl, rfl, rfl, fun _ => rfl, fun _ _ => .inl rfl⟩, ⟨⟨rfl, rfl, rfl, rfl, fun _ => rfl, fun _ _ => .inl rfl⟩, trivial⟩⟩⟩, trivial⟩⟩
    · conv => whnf
      conv => whnf
      refine .inl ?_
      conv => whnf
      conv => whnf
      refine ⟨(by show _ * (8 + 1) ≤ _; omega), ?_⟩
      conv => whnf
      conv => whnf
      refine ⟨inK64 (by omega) (by omega), ?_⟩
      conv => whnf
      conv => whnf
      refine ⟨_, _, ⟨⟨1, O ++ [x.a.1], n + 1, by omega, (by rw [et, presL_snoc, if_neg (by rw [w1]; nofun), hO]), (by rw [List.length_append, hn]; rfl), rfl, rfl⟩, by omega⟩, ⟨⟨.inl rfl, rfl, rfl, rfl⟩, ⟨⟨rfl, rfl, rfl, rfl, fun _ => rfl, fun _ _ => .inl rfl⟩, ⟨⟨rfl, rfl, rfl, rfl, fun _ => rfl, fun _ _ => .inl rfl⟩, ⟨⟨rfl, rfl, rfl, rfl, fun _ => rfl, fun i hi => .inl (app_row O _ n i hn hi)⟩, trivial⟩⟩⟩, trivial⟩⟩
  · have et : x.l.take 2 = x.l.take 1 ++ [x.b] := rfl
    conv => whnf
    conv => whnf
    refine ⟨⟨(by omega), (by omega)⟩, ?_⟩
    conv => whnf
    conv => whnf
    refine ifB_not ?_
    conv => whnf
    conv => whnf
    refine ifB_intro (fun w1 => ?_) (fun w1 => ?_)
    · conv => whnf
      conv => whnf
      refine ⟨inK64 (by omega) (by omega), ?_⟩
      conv => whnf
      conv => whnf
      refine ⟨_, _, ⟨⟨2, O, n, by omega, (by rw [et, presL_snoc, if_pos w1, hO]), hn, rfl, rfl⟩, by omega⟩, ⟨⟨.inl rfl, rfl, rfl, rfl⟩, ⟨⟨rfl, rfl, rfl, rfl, fun _ => rfl, fun _ _ => .inl rfl⟩, ⟨⟨rfl, rfl, rfl, rfl, fun _ => rfl, fun _ _ => .inl rfl⟩, ⟨⟨rfl, rfl, rfl, rfl, fun _ => rfl, fun _ _ => .inl rfl⟩, trivial⟩⟩⟩, trivial⟩⟩
    · conv => whnf
      conv => whnf
      refine .inl ?_
      conv => whnf
      conv => whnf
      refine ⟨(by show _ * (8 + 1) ≤ _; omega), ?_⟩
      conv => whnf
      conv => whnf
      refine ⟨inK64 (by omega) (by omega), ?_⟩
      conv => whnf
      conv => whnf
      refine ⟨_, _, ⟨⟨2, O ++ [x.b.1], n + 1, by omega, (by rw [et, presL_snoc, if_neg (by rw [w1]; nofun), hO]), (by rw [List.length_append, hn]; rfl), rfl, rfl⟩, by omega⟩, ⟨⟨.inl rfl, rfl, rfl, rfl⟩, ⟨⟨rfl, rfl, rfl, rfl, fun _ => rfl, fun _ _ => .inl rfl⟩, ⟨⟨rfl, rfl, rfl, rfl, fun _ => rfl, fun _ _ => .inl rfl⟩, ⟨⟨rfl, rfl, rfl, rfl, fun _ => rfl, fun i hi => .inl (app_row O _ n i hn hi)⟩, trivial⟩⟩⟩, trivial⟩⟩
  · have et : x.l.take 3 = x.l.take 2 ++ [x.c] := rfl
    conv => whnf
    conv => whnf
    refine ⟨⟨(by omega), (by omega)⟩, ?_⟩
    conv => whnf
    conv => whnf
    refine ifB_not ?_
    conv => whnf
    conv => whnf
    refine ifB_intro (fun w1 => ?_) (fun w1 => ?_)
    · conv => whnf
      conv => whnf
      refine ⟨inK64 (by omega) (by omega), ?_⟩
      conv => whnf
      conv => whnf
      refine ⟨_, _, ⟨⟨3, O, n, by omega, (by rw [et, presL_snoc, if_pos w1, hO]), hn, rfl, rfl⟩, by omega⟩, ⟨⟨.inl rfl, rfl, rfl, rfl⟩, ⟨⟨rfl, rfl, rfl, rfl, fun _ => rfl, fun _ _ => .inl rfl⟩, ⟨⟨rfl, rfl, rfl, rfl, fun _ => rfl, fun _ _ => .inl rfl⟩, ⟨⟨rfl, rfl, rfl, rfl, fun _ => rfl, fun _ _ => .inl rfl⟩, trivial⟩⟩⟩, trivial⟩⟩
    · conv => whnf
      conv => whnf
      refine .inl ?_
      conv => whnf
      conv => whnf
      refine ⟨(by show _ * (8 + 1) ≤ _; omega), ?_⟩
      conv => whnf
      conv => whnf
      refine ⟨inK64 (by omega) (by omega), ?_⟩
      conv => whnf
      conv => whnf
      refine ⟨_, _, ⟨⟨3, O ++ [x.c.1], n + 1, by omega, (by rw [et, presL_snoc, if_neg (by rw [w1]; nofun), hO]), (by rw [List.length_append, hn]; rfl), rfl, rfl⟩, by omega⟩, ⟨⟨.inl rfl, rfl, rfl, rfl⟩, ⟨⟨rfl, rfl, rfl, rfl, fun _ => rfl, fun _ _ => .inl rfl⟩, ⟨⟨rfl, rfl, rfl, rfl, fun _ => rfl, fun _ _ => .inl rfl⟩, ⟨⟨rfl, rfl, rfl, rfl, fun _ => rfl, fun i hi => .inl (app_row O _ n i hn hi)⟩, trivial⟩⟩⟩, trivial⟩⟩
  · have hO : O = presL x.l := hO
    have h93n := S93 (decide ((n : Int) ≥ 2)) 14
    have hE : firstOf [rdsE x, if win t 0 1000000 = true then 0 else 2, if decide ((n : Int) ≥ 2) = true then (0 : Int) else 14] = votE x t := by
      unfold votE tolE win
      rw [← hO, hn]
      simp only [decide_eq_true_eq]
      congr 4
      by_cases h : n ≥ 2
      · rw [if_pos h, if_pos (by omega)]
      · rw [if_neg h, if_neg (by omega)]
    have h90' : ∀ f : Nat → List AV, (f 0 = [i64 (rdsE x)] ∧ f 1 = [i64 (if win t 0 1000000 = true then 0 else 2)] ∧ f 2 = [i64 (if decide ((n : Int) ≥ 2) = true then 0 else 14)]) → SP 90 [.rslice 1 3 f] (i64 (votE x t)) false := fun f h => by
      have h := S90_3 _ _ _ h
      rwa [hE] at h
    by_cases hv : votE x t = 0
    · have hn2 : 2 ≤ n := by
        by_cases h2 : n ≥ 2
        · exact h2
        · exfalso
          rw [← hE, first3, if_neg (show ¬ decide ((n : Int) ≥ 2) = true by simp; omega)] at hv
          (repeat' split at hv) <;> first | contradiction | omega
      rw [hv] at h90'
      obtain ⟨rl, h161⟩ := S161 n (by omega)
      have h181 := S181
      have hu : inK .u64 (n : Int) := ⟨by
        have : IntKind.min .u64 = 0 := by decide
        omega, by
        have : IntKind.max .u64 = 18446744073709551615 := by decide
        omega⟩
      conv => whnf
      conv => whnf
      refine .inl ⟨_, _, byX rfl (Sound1.pl (h118) rfl), ?_⟩
      conv => whnf
      conv => whnf
      refine .inl ⟨_, _, byX rfl (Sound1.pl (h93t) rfl), ?_⟩
      conv => whnf
      conv => whnf
      refine .inl ⟨_, _, byX rfl (Sound1.pl (h93n) rfl), ?_⟩
      conv => whnf
      conv => whnf
      refine .inl ⟨_, _, byX rfl (Sound1.pl (h90' _ ⟨rfl, rfl, rfl⟩) rfl), ?_⟩
      conv => whnf
      conv => whnf
      refine .inr (.inl ⟨[], ?_⟩)
      conv => whnf
      conv => whnf
      refine ⟨by assumption, ?_⟩
      conv => whnf
      conv => whnf
      refine .inl ⟨_, _, byX rfl (Sound1.pl (h161) rfl), ?_⟩
      conv => whnf
      conv => whnf
      refine .inr (.inl ⟨[], ?_⟩)
      conv => whnf
      conv => whnf
      refine ⟨[.forget [0, 2, 3, 4, 5, 6, 7, 8, 9, 58, 55, 54, 53, 52, 51, 50, 49, 48, 47, 46, 45, 44, 33, 18, 31, 32]], [0, 1, 2, 3], fun st mq => ∃ (F3 : Nat → List AV), st = ⟨[(0, .oslice 2 0 0 n none), (1, i64 0), (2, i64 n), (3, i64 rl)], ⟨[⟨6, 1, fun _ => [i64 x.a.1, vb x.a.2, i64 x.b.1, vb x.b.2, i64 x.c.1, vb x.c.2], 0, true, true, true⟩, ⟨4, 1, fun _ => [i64 0, vb false, vb false, vb false], 0, false, true, true⟩, ⟨1, n, fun i => [i64 (O.getD i 0)], 0, false, true, false⟩, ⟨1, 3, F3, 0, false, true, false⟩], [], none, 0⟩, [(12, i64 t), (13, .optr 0 0 0 0), (15, .optr 1 0 0 0), (19, .oslice 2 0 0 n none)]⟩ ∧ mq = 0,
        ⟨_, _, ⟨_, rfl, rfl⟩, ⟨⟨.inl rfl, rfl, rfl, rfl⟩, ⟨⟨rfl, rfl, rfl, rfl, fun _ => rfl, fun _ _ => .inl rfl⟩, ⟨⟨rfl, rfl, rfl, rfl, fun _ => rfl, fun _ _ => .inl rfl⟩, ⟨⟨rfl, rfl, rfl, rfl, fun _ => rfl, fun _ _ => .inl rfl⟩, ⟨⟨rfl, rfl, rfl, rfl, fun _ => rfl, fun _ _ => .inl rfl⟩, trivial⟩⟩⟩⟩, trivial⟩⟩, ?_⟩
      rintro s0 m0 ⟨F3, rfl, hmeas⟩
      conv => whnf
      conv => whnf
      conv => whnf
      refine ⟨inK64 (by omega) (by omega), ?_⟩
      conv => whnf
      conv => whnf
      conv => whnf
      refine ifB_dec (fun w1 => ?_) (fun w1 => ?_)
      · conv => whnf
        conv => whnf
        conv => whnf
        refine .inr (.inl ⟨[], ?_⟩)
        conv => whnf
        conv => whnf
        conv => whnf
        refine ⟨inK64 (by omega) (by omega), ?_⟩
        conv => whnf
        conv => whnf
        conv => whnf
        refine ⟨[.forget [0, 1, 2, 3, 10, 19, 20, 21, 22, 23, 24, 25, 26]], [0, 1, 2, 6], fun st mq => ∃ (i : Nat) (a : List Int) (F3 : Nat → List AV), (1 ≤ i) ∧ (i ≤ n ∨ i = 1) ∧ (a.length = n) ∧ (a.Perm O) ∧ (SortTo a i) ∧ st = ⟨[(0, .oslice 2 0 0 n none), (1, i64 0), (2, i64 n), (6, i64 i)], ⟨[⟨6, 1, fun _ => [i64 x.a.1, vb x.a.2, i64 x.b.1, vb x.b.2, i64 x.c.1, vb x.c.2], 0, true, true, true⟩, ⟨4, 1, fun _ => [i64 0, vb false, vb false, vb false], 0, false, true, true⟩, ⟨1, n, fun i => [i64 (a.getD i 0)], 0, false, true, false⟩, ⟨1, 3, F3, 0, false, true, false⟩], [], none, 0⟩, [(146, i64 t), (147, .optr 0 0 0 0), (149, .optr 1 0 0 0), (153, .oslice 2 0 0 n none)]⟩ ∧ mq = n - i,
          ⟨_, _, ⟨1, O, _, by omega, by omega, hn, List.Perm.refl _, fun p q h1 h2 => by omega, rfl, rfl⟩, ⟨⟨.inl rfl, rfl, rfl, rfl⟩, ⟨⟨rfl, rfl, rfl, rfl, fun _ => rfl, fun _ _ => .inl rfl⟩, ⟨⟨rfl, rfl, rfl, rfl, fun _ => rfl, fun _ _ => .inl rfl⟩, ⟨⟨rfl, rfl, rfl, rfl, fun _ => rfl, fun _ _ => .inl rfl⟩, ⟨⟨rfl, rfl, rfl, rfl, fun _ => rfl, fun _ _ => .inl rfl⟩, trivial⟩⟩⟩⟩, trivial⟩⟩, ?_⟩
        rintro s0 m0 ⟨i, a, F3, hi1, hi2, hal, hp, hs, rfl, hmeas⟩
        by_cases hil : i < n
        · conv => whnf
          conv => whnf
          conv => whnf
          conv => whnf
          refine ifB_dec (fun w2 => ?_) (fun w2 => ?_)
          · conv => whnf
            conv => whnf
            conv => whnf
            conv => whnf
            refine ⟨[], [0, 1, 2, 6, 7], fun st mq => ∃ (j : Nat) (z : Int) (b : List Int) (F3 : Nat → List AV), (z = (j : Int)) ∧ (j ≤ i) ∧ (b.length = n) ∧ (b.Perm O) ∧ (Sink b j (i + 1)) ∧ st = ⟨[(0, .oslice 2 0 0 n none), (1, i64 0), (2, i64 n), (6, i64 i), (7, i64 z)], ⟨[⟨6, 1, fun _ => [i64 x.a.1, vb x.a.2, i64 x.b.1, vb x.b.2, i64 x.c.1, vb x.c.2], 0, true, true, true⟩, ⟨4, 1, fun _ => [i64 0, vb false, vb false, vb false], 0, false, true, true⟩, ⟨1, n, fun i => [i64 (b.getD i 0)], 0, false, true, false⟩, ⟨1, 3, F3, 0, false, true, false⟩], [], none, 0⟩, [(146, i64 t), (147, .optr 0 0 0 0), (149, .optr 1 0 0 0), (153, .oslice 2 0 0 n none)]⟩ ∧ mq = j,
              ⟨_, _, ⟨i, (i : Int), a, _, rfl, by omega, hal, hp, sink_start hs, rfl, rfl⟩, ⟨⟨.inl rfl, rfl, rfl, rfl⟩, ⟨⟨rfl, rfl, rfl, rfl, fun _ => rfl, fun _ _ => .inl rfl⟩, ⟨⟨rfl, rfl, rfl, rfl, fun _ => rfl, fun _ _ => .inl rfl⟩, ⟨⟨rfl, rfl, rfl, rfl, fun _ => rfl, fun _ _ => .inl rfl⟩, ⟨⟨rfl, rfl, rfl, rfl, fun _ => rfl, fun _ _ => .inl rfl⟩, trivial⟩⟩⟩⟩, trivial⟩⟩, ?_⟩
            rintro s0 m0 ⟨j, z, b, F3, hz, hj, hbl, hpb, hsb, rfl, hmeas⟩
            subst hz
            by_cases hj0 : j = 0
            · subst hj0
              conv => whnf
              conv => whnf
              conv => whnf
              conv => whnf
              conv => whnf
              refine ⟨[], by kernel_rfl, ?_⟩
              conv => whnf
              conv => whnf
              conv => whnf
              conv => whnf
              conv => whnf
              refine ⟨inK64 (by omega) (by omega), ?_⟩
              conv => whnf
              conv => whnf
              conv => whnf
              conv => whnf
              conv => whnf
              refine ⟨_, _, ⟨⟨i + 1, b, _, by omega, by omega, hbl, hpb, sink_end hsb (.inl rfl), rfl, rfl⟩, by omega⟩, ⟨⟨.inl rfl, rfl, rfl, rfl⟩, ⟨⟨rfl, rfl, rfl, rfl, fun _ => rfl, fun _ _ => .inl rfl⟩, ⟨⟨rfl, rfl, rfl, rfl, fun _ => rfl, fun _ _ => .inl rfl⟩, ⟨⟨rfl, rfl, rfl, rfl, fun _ => rfl, fun _ _ => .inl rfl⟩, ⟨⟨rfl, rfl, rfl, rfl, fun _ => rfl, fun _ _ => .inl rfl⟩, trivial⟩⟩⟩⟩, trivial⟩⟩
            · obtain ⟨j, rfl⟩ : ∃ k, j = k + 1 := ⟨j - 1, by omega⟩
              have e1 : (((j + 1 : Nat) : Int) - 1).toNat = j := by omega
              have hsw : ∀ x, [i64 ((swapL b (j + 1)).getD x 0)] = [i64 (((b.set ((j + 1 : Nat) : Int).toNat (b.getD (0 + (((j + 1 : Nat) : Int) - 1).toNat) 0)).set (((j + 1 : Nat) : Int) - 1).toNat (b.getD (0 + ((j + 1 : Nat) : Int).toNat) 0)).getD x 0)] := fun x => by
                rw [e1, Nat.zero_add, Nat.zero_add]; rfl
              conv => whnf
              conv => whnf
              conv => whnf
              conv => whnf
              conv => whnf
              refine ⟨[], by kernel_rfl, ?_⟩
              conv => whnf
              conv => whnf
              conv => whnf
              conv => whnf
              conv => whnf
              refine ifB_dec (fun w3 => ?_) (fun w3 => ?_)
              · conv => whnf
                conv => whnf
                conv => whnf
                conv => whnf
                conv => whnf
                refine ⟨⟨(by omega), (by omega)⟩, ?_⟩
                conv => whnf
                conv => whnf
                conv => whnf
                conv => whnf
                conv => whnf
                refine ⟨inK64 (by omega) (by omega), ?_⟩
                conv => whnf
                conv => whnf
                conv => whnf
                conv => whnf
                conv => whnf
                refine ⟨⟨(by omega), (by omega)⟩, ?_⟩
                conv => whnf
                conv => whnf
                conv => whnf
                conv => whnf
                conv => whnf
                refine .inl ⟨_, _, byX rfl (Sound1.pl (h181 _ _) rfl), ?_⟩
                conv => whnf
                conv => whnf
                conv => whnf
                conv => whnf
                conv => whnf
                refine ifB_dec (fun w4 => ?_) (fun w4 => ?_)
                · conv => whnf
                  conv => whnf
                  conv => whnf
                  conv => whnf
                  conv => whnf
                  refine ⟨[], by kernel_rfl, ?_⟩
                  conv => whnf
                  conv => whnf
                  conv => whnf
                  conv => whnf
                  conv => whnf
                  refine ⟨inK64 (by omega) (by omega), ?_⟩
                  conv => whnf
                  conv => whnf
                  conv => whnf
                  conv => whnf
                  conv => whnf
                  refine ⟨inK64 (by omega) (by omega), ?_⟩
                  conv => whnf
                  conv => whnf
                  conv => whnf
                  conv => whnf
                  conv => whnf
                  refine ⟨⟨(by omega), (by omega)⟩, ?_⟩
                  conv => whnf
                  conv => whnf
                  conv => whnf
                  conv => whnf
                  conv => whnf
                  refine ⟨⟨(by omega), (by omega)⟩, ?_⟩
                  conv => whnf
                  conv => whnf
                  conv => whnf
                  conv => whnf
                  conv => whnf
                  refine ⟨⟨(by omega), (by omega)⟩, ?_⟩
                  refine ⟨_, fun i _ => rowI _ _ i _ (by first | omega | (simp only [List.length_set]; omega) | (simp only [List.length_replicate]; omega) | (simp only [List.length_set, List.length_replicate]; omega)), ?_⟩
                  conv => whnf
                  conv => whnf
                  conv => whnf
                  conv => whnf
                  conv => whnf
                  refine ⟨⟨(by omega), (by omega)⟩, ?_⟩
                  refine ⟨_, fun i _ => rowI _ _ i _ (by first | omega | (simp only [List.length_set]; omega) | (simp only [List.length_replicate]; omega) | (simp only [List.length_set, List.length_replicate]; omega)), ?_⟩
                  conv => whnf
                  conv => whnf
                  conv => whnf
                  conv => whnf
                  conv => whnf
                  refine ⟨inK64 (by omega) (by omega), ?_⟩
                  have hlt : b.getD (j + 1) 0 < b.getD (j + 1 - 1) 0 := by
                    have e : b.getD (0 + ((j + 1 : Nat) : Int).toNat) 0 < b.getD (0 + (((j + 1 : Nat) : Int) - 1).toNat) 0 := by assumption
                    rw [e1, Nat.zero_add, Nat.zero_add] at e
                    exact e
                  conv => whnf
                  conv => whnf
                  conv => whnf
                  conv => whnf
                  conv => whnf
                  refine ⟨_, _, ⟨⟨j, ((j + 1 : Nat) : Int) - 1, swapL b (j + 1), _, by omega, by omega, by simpa [swapL] using hbl, (swapL_perm (by omega)).trans hpb, sink_swap (by omega) (by omega) hsb hlt, rfl, rfl⟩, by omega⟩, ⟨⟨.inl rfl, rfl, rfl, rfl⟩, ⟨⟨rfl, rfl, rfl, rfl, fun _ => rfl, fun _ _ => .inl rfl⟩, ⟨⟨rfl, rfl, rfl, rfl, fun _ => rfl, fun _ _ => .inl rfl⟩, ⟨⟨rfl, rfl, rfl, rfl, fun _ => rfl, fun x _ => .inl (hsw x)⟩, ⟨⟨rfl, rfl, rfl, rfl, fun _ => rfl, fun _ _ => .inl rfl⟩, trivial⟩⟩⟩⟩, trivial⟩⟩
                · conv => whnf
                  conv => whnf
                  conv => whnf
                  conv => whnf
                  conv => whnf
                  refine ⟨inK64 (by omega) (by omega), ?_⟩
                  have hlt : b.getD (j + 1 - 1) 0 ≤ b.getD (j + 1) 0 := by
                    have e : ¬ b.getD (0 + ((j + 1 : Nat) : Int).toNat) 0 < b.getD (0 + (((j + 1 : Nat) : Int) - 1).toNat) 0 := by assumption
                    rw [e1, Nat.zero_add, Nat.zero_add] at e
                    exact Int.not_lt.1 e
                  conv => whnf
                  conv => whnf
                  conv => whnf
                  conv => whnf
                  conv => whnf
                  refine ⟨_, _, ⟨⟨i + 1, b, _, by omega, by omega, hbl, hpb, sink_end hsb (.inr hlt), rfl, rfl⟩, by omega⟩, ⟨⟨.inl rfl, rfl, rfl, rfl⟩, ⟨⟨rfl, rfl, rfl, rfl, fun _ => rfl, fun _ _ => .inl rfl⟩, ⟨⟨rfl, rfl, rfl, rfl, fun _ => rfl, fun _ _ => .inl rfl⟩, ⟨⟨rfl, rfl, rfl, rfl, fun _ => rfl, fun _ _ => .inl rfl⟩, ⟨⟨rfl, rfl, rfl, rfl, fun _ => rfl, fun _ _ => .inl rfl⟩, trivial⟩⟩⟩⟩, trivial⟩⟩
              · (exfalso; omega)
          · (exfalso; omega)
        · have hsa : SortTo a n := fun p q h1 h2 => hs p q h1 (by omega)
          have hvi := vot_in hv
          rw [← hO] at hvi
          have hab : ∀ i, i < n → (a.getD i 0).natAbs ≤ 1000000 := fun i hi => hvi.1 _ (hp.subset (getD_memI (by omega)))
          have hb0 : (a.getD (0 + Int.toNat 0) 0).natAbs ≤ 1000000 := hab 0 (by omega)
          have hb1 : (a.getD (0 + Int.toNat 1) 0).natAbs ≤ 1000000 := hab 1 (by omega)
          by_cases h2 : n = 2
          · subst h2
            have h2s := sorted2 hp hsa hal hn
            have h2a : a.getD (0 + Int.toNat 1) 0 - a.getD (0 + Int.toNat 0) 0 = ((O.getD 0 0 - O.getD 1 0).natAbs : Nat) := h2s.1
            have hg : voteG x t = (((two (O.getD 0 0) (O.getD 1 0) t).1, false, false, false), (two (O.getD 0 0) (O.getD 1 0) t).2) := by
              unfold voteG
              rw [if_neg (not_not_intro hv), ← hO, if_pos hn]
            by_cases hd : ((O.getD 0 0 - O.getD 1 0).natAbs : Int) > t
            · have e : two (O.getD 0 0) (O.getD 1 0) t = (0, 13) := if_pos hd
              rw [hg, e]
              conv => whnf
              conv => whnf
              conv => whnf
              conv => whnf
              refine ifB_dec (fun w2 => ?_) (fun w2 => ?_)
              · (exfalso; omega)
              · conv => whnf
                conv => whnf
                conv => whnf
                conv => whnf
                refine ⟨[], by kernel_rfl, ?_⟩
                conv => whnf
                conv => whnf
                conv => whnf
                conv => whnf
                refine ⟨⟨(by omega), (by omega)⟩, ?_⟩
                conv => whnf
                conv => whnf
                conv => whnf
                conv => whnf
                refine ⟨⟨(by omega), (by omega)⟩, ?_⟩
                conv => whnf
                conv => whnf
                conv => whnf
                conv => whnf
                refine ⟨inK64 (by omega) (by omega), ?_⟩
                conv => whnf
                conv => whnf
                conv => whnf
                conv => whnf
                refine ifB_dec (fun w3 => ?_) (fun w3 => ?_)
                · conv => whnf
                  conv => whnf
                  conv => whnf
                  conv => whnf
                  refine ⟨?_, nofun⟩
                  exact ave_tup2 (ave_agg4 rfl rfl rfl rfl) rfl
                · (exfalso; omega)
            · have e : two (O.getD 0 0) (O.getD 1 0) t = ((O.getD 0 0 + O.getD 1 0).fdiv 2, 0) := if_neg hd
              rw [hg, e]
              conv => whnf
              conv => whnf
              conv => whnf
              conv => whnf
              refine ifB_dec (fun w2 => ?_) (fun w2 => ?_)
              · (exfalso; omega)
              · conv => whnf
                conv => whnf
                conv => whnf
                conv => whnf
                refine ⟨[], by kernel_rfl, ?_⟩
                conv => whnf
                conv => whnf
                conv => whnf
                conv => whnf
                refine ⟨⟨(by omega), (by omega)⟩, ?_⟩
                conv => whnf
                conv => whnf
                conv => whnf
                conv => whnf
                refine ⟨⟨(by omega), (by omega)⟩, ?_⟩
                conv => whnf
                conv => whnf
                conv => whnf
                conv => whnf
                refine ⟨inK64 (by omega) (by omega), ?_⟩
                conv => whnf
                conv => whnf
                conv => whnf
                conv => whnf
                refine ifB_dec (fun w3 => ?_) (fun w3 => ?_)
                · (exfalso; omega)
                · conv => whnf
                  conv => whnf
                  conv => whnf
                  conv => whnf
                  refine ⟨[], by kernel_rfl, ?_⟩
                  conv => whnf
                  conv => whnf
                  conv => whnf
                  conv => whnf
                  refine ⟨⟨(by omega), (by omega)⟩, ?_⟩
                  conv => whnf
                  conv => whnf
                  conv => whnf
                  conv => whnf
                  refine ⟨⟨(by omega), (by omega)⟩, ?_⟩
                  conv => whnf
                  conv => whnf
                  conv => whnf
                  conv => whnf
                  refine ⟨inK64 (by omega) (by omega), ?_⟩
                  conv => whnf
                  conv => whnf
                  conv => whnf
                  conv => whnf
                  refine ⟨(by omega), ?_⟩
                  conv => whnf
                  conv => whnf
                  conv => whnf
                  conv => whnf
                  refine ⟨?_, nofun⟩
                  refine ave_tup2 (ave_agg4 (endi ?_) rfl rfl rfl) rfl
                  show (a.getD 0 0 + a.getD 1 0).fdiv (2 ^ 1) = _
                  rw [h2s.2]
                  rfl
          · have h3 : n = 3 := by omega
            subst h3
            have hO3 := pres3 (hO ▸ hn)
            rw [hO3] at hO
            rw [hO] at hp hvi
            have hm := sorted3 hp hsa hal
            have hg : voteG x t = if b01 (oddB (midI x.a.1 x.b.1 x.c.1) t x.a.1) + b01 (oddB (midI x.a.1 x.b.1 x.c.1) t x.b.1) + b01 (oddB (midI x.a.1 x.b.1 x.c.1) t x.c.1) > 1 then (vt0, 13) else ((midI x.a.1 x.b.1 x.c.1, oddB (midI x.a.1 x.b.1 x.c.1) t x.a.1, oddB (midI x.a.1 x.b.1 x.c.1) t x.b.1, oddB (midI x.a.1 x.b.1 x.c.1) t x.c.1), 0) := by
              unfold voteG
              rw [if_neg (not_not_intro hv), hO3, if_neg (by show ¬ (3 : Nat) = 2; decide)]
            rw [hg, ← hm]
            have hb1' : (a.getD 1 0).natAbs ≤ 1000000 := hb1
            have hm1 : a.getD (0 + Int.toNat 1) 0 = a.getD 1 0 := rfl
            conv => whnf
            conv => whnf
            conv => whnf
            conv => whnf
            refine ifB_dec (fun w2 => ?_) (fun w2 => ?_)
            · (exfalso; omega)
            · conv => whnf
              conv => whnf
              conv => whnf
              conv => whnf
              refine ⟨⟨(by omega), (by omega)⟩, ?_⟩
              conv => whnf
              conv => whnf
              conv => whnf
              conv => whnf
              refine ⟨[], [1, 2, 4, 11, 12, 75, 76], fun st mq => ∃ (k : Nat) (b0 : Bool) (b1 : Bool) (b2 : Bool) (q : Int) (F2 : Nat → List AV) (F3 : Nat → List AV), (k ≤ 3) ∧ (b0 = (decide (0 < k) && oddB (a.getD 1 0) t x.a.1)) ∧ (b1 = (decide (1 < k) && oddB (a.getD 1 0) t x.b.1)) ∧ (b2 = (decide (2 < k) && oddB (a.getD 1 0) t x.c.1)) ∧ (q = b01 b0 + b01 b1 + b01 b2) ∧ st = ⟨[(1, i64 t), (2, .optr 0 0 0 0), (4, .optr 1 0 0 0), (11, .optr 4 0 0 0), (12, i64 q), (75, xA x), (76, i64 k)], ⟨[⟨6, 1, fun _ => [i64 x.a.1, vb x.a.2, i64 x.b.1, vb x.b.2, i64 x.c.1, vb x.c.2], 0, true, true, true⟩, ⟨4, 1, fun _ => [i64 0, vb false, vb false, vb false], 0, false, true, true⟩, ⟨1, 3, F2, 0, false, true, false⟩, ⟨1, 3, F3, 0, false, true, false⟩, ⟨4, 1, fun _ => [i64 (a.getD 1 0), vb b0, vb b1, vb b2], 0, false, true, true⟩], [], none, 0⟩, []⟩ ∧ mq = 3 - k,
                ⟨_, _, ⟨0, false, false, false, 0, _, _, by omega, rfl, rfl, rfl, rfl, rfl, rfl⟩, ⟨⟨.inl rfl, rfl, rfl, rfl⟩, ⟨⟨rfl, rfl, rfl, rfl, fun _ => rfl, fun _ _ => .inl rfl⟩, ⟨⟨rfl, rfl, rfl, rfl, fun _ => rfl, fun _ _ => .inl rfl⟩, ⟨⟨rfl, rfl, rfl, rfl, fun _ => rfl, fun _ _ => .inl rfl⟩, ⟨⟨rfl, rfl, rfl, rfl, fun _ => rfl, fun _ _ => .inl rfl⟩, ⟨⟨rfl, rfl, rfl, rfl, fun _ => rfl, fun _ _ => .inl rfl⟩, trivial⟩⟩⟩⟩⟩, trivial⟩⟩, ?_⟩
              rintro s0 m0 ⟨k, b0, b1, b2, q, F2, F3, hk, hq0, hq1, hq2, hq, rfl, hmeas⟩
              have hc3 : k = 0 ∨ k = 1 ∨ k = 2 ∨ k = 3 := by omega
              have hqb : 0 ≤ q ∧ q ≤ 3 := by
                rw [hq]
                unfold b01
                (repeat' split) <;> omega
              rcases hc3 with rfl | rfl | rfl | rfl
              · have ho : oddB (a.getD 1 0) t x.a.1 = decide (siz (x.a.1 - a.getD 1 0) > t) := by rw [siz_abs]; rfl
                have hxb : x.a.1.natAbs ≤ 1000000 := hvi.1 _ (by simp)
                have h115 := S115 (x.a.1 - a.getD 1 0) (by omega)
                have hz : b01 b0 = 0 := by rw [show b0 = false from hq0]; rfl
                have ht1 : b01 true = 1 := rfl
                conv => whnf
                conv => whnf
                conv => whnf
                conv => whnf
                conv => whnf
                refine ⟨⟨(by omega), (by omega)⟩, ?_⟩
                conv => whnf
                conv => whnf
                conv => whnf
                conv => whnf
                conv => whnf
                refine ⟨inK64 (by omega) (by omega), ?_⟩
                conv => whnf
                conv => whnf
                conv => whnf
                conv => whnf
                conv => whnf
                refine .inl ⟨_, _, byX rfl (Sound1.pl (h115) rfl), ?_⟩
                conv => whnf
                conv => whnf
                conv => whnf
                conv => whnf
                conv => whnf
                refine ifB_dec (fun w3 => ?_) (fun w3 => ?_)
                · conv => whnf
                  conv => whnf
                  conv => whnf
                  conv => whnf
                  conv => whnf
                  refine ⟨⟨(by omega), (by omega)⟩, ?_⟩
                  conv => whnf
                  conv => whnf
                  conv => whnf
                  conv => whnf
                  conv => whnf
                  refine ⟨inK64 (by omega) (by omega), ?_⟩
                  conv => whnf
                  conv => whnf
                  conv => whnf
                  conv => whnf
                  conv => whnf
                  refine ⟨inK64 (by omega) (by omega), ?_⟩
                  conv => whnf
                  conv => whnf
                  conv => whnf
                  conv => whnf
                  conv => whnf
                  refine ⟨_, _, ⟨⟨1, true, b1, b2, q + 1, _, _, by omega, (by rw [ho, decide_eq_true w3]; rfl), hq1, hq2, (by omega), rfl, rfl⟩, by omega⟩, ⟨⟨.inl rfl, rfl, rfl, rfl⟩, ⟨⟨rfl, rfl, rfl, rfl, fun _ => rfl, fun _ _ => .inl rfl⟩, ⟨⟨rfl, rfl, rfl, rfl, fun _ => rfl, fun _ _ => .inl rfl⟩, ⟨⟨rfl, rfl, rfl, rfl, fun _ => rfl, fun _ _ => .inl rfl⟩, ⟨⟨rfl, rfl, rfl, rfl, fun _ => rfl, fun _ _ => .inl rfl⟩, ⟨⟨rfl, rfl, rfl, rfl, fun _ => rfl, fun _ _ => .inl rfl⟩, trivial⟩⟩⟩⟩⟩, trivial⟩⟩
                · conv => whnf
                  conv => whnf
                  conv => whnf
                  conv => whnf
                  conv => whnf
                  refine ⟨inK64 (by omega) (by omega), ?_⟩
                  conv => whnf
                  conv => whnf
                  conv => whnf
                  conv => whnf
                  conv => whnf
                  refine ⟨_, _, ⟨⟨1, b0, b1, b2, q, _, _, by omega, (by rw [show b0 = false from hq0, ho, decide_eq_false w3]; rfl), hq1, hq2, hq, rfl, rfl⟩, by omega⟩, ⟨⟨.inl rfl, rfl, rfl, rfl⟩, ⟨⟨rfl, rfl, rfl, rfl, fun _ => rfl, fun _ _ => .inl rfl⟩, ⟨⟨rfl, rfl, rfl, rfl, fun _ => rfl, fun _ _ => .inl rfl⟩, ⟨⟨rfl, rfl, rfl, rfl, fun _ => rfl, fun _ _ => .inl rfl⟩, ⟨⟨rfl, rfl, rfl, rfl, fun _ => rfl, fun _ _ => .inl rfl⟩, ⟨⟨rfl, rfl, rfl, rfl, fun _ => rfl, fun _ _ => .inl rfl⟩, trivial⟩⟩⟩⟩⟩, trivial⟩⟩
              · have ho : oddB (a.getD 1 0) t x.b.1 = decide (siz (x.b.1 - a.getD 1 0) > t) := by rw [siz_abs]; rfl
                have hxb : x.b.1.natAbs ≤ 1000000 := hvi.1 _ (by simp)
                have h115 := S115 (x.b.1 - a.getD 1 0) (by omega)
                have hz : b01 b1 = 0 := by rw [show b1 = false from hq1]; rfl
                have ht1 : b01 true = 1 := rfl
                conv => whnf
                conv => whnf
                conv => whnf
                conv => whnf
                conv => whnf
                refine ⟨⟨(by omega), (by omega)⟩, ?_⟩
                conv => whnf
                conv => whnf
                conv => whnf
                conv => whnf
                conv => whnf
                refine ⟨inK64 (by omega) (by omega), ?_⟩
                conv => whnf
                conv => whnf
                conv => whnf
                conv => whnf
                conv => whnf
                refine .inl ⟨_, _, byX rfl (Sound1.pl (h115) rfl), ?_⟩
                conv => whnf
                conv => whnf
                conv => whnf
                conv => whnf
                conv => whnf
                refine ifB_dec (fun w3 => ?_) (fun w3 => ?_)
                · conv => whnf
                  conv => whnf
                  conv => whnf
                  conv => whnf
                  conv => whnf
                  refine ⟨⟨(by omega), (by omega)⟩, ?_⟩
                  conv => whnf
                  conv => whnf
                  conv => whnf
                  conv => whnf
                  conv => whnf
                  refine ⟨inK64 (by omega) (by omega), ?_⟩
                  conv => whnf
                  conv => whnf
                  conv => whnf
                  conv => whnf
                  conv => whnf
                  refine ⟨inK64 (by omega) (by omega), ?_⟩
                  conv => whnf
                  conv => whnf
                  conv => whnf
                  conv => whnf
                  conv => whnf
                  refine ⟨_, _, ⟨⟨2, b0, true, b2, q + 1, _, _, by omega, hq0, (by rw [ho, decide_eq_true w3]; rfl), hq2, (by omega), rfl, rfl⟩, by omega⟩, ⟨⟨.inl rfl, rfl, rfl, rfl⟩, ⟨⟨rfl, rfl, rfl, rfl, fun _ => rfl, fun _ _ => .inl rfl⟩, ⟨⟨rfl, rfl, rfl, rfl, fun _ => rfl, fun _ _ => .inl rfl⟩, ⟨⟨rfl, rfl, rfl, rfl, fun _ => rfl, fun _ _ => .inl rfl⟩, ⟨⟨rfl, rfl, rfl, rfl, fun _ => rfl, fun _ _ => .inl rfl⟩, ⟨⟨rfl, rfl, rfl, rfl, fun _ => rfl, fun _ _ => .inl rfl⟩, trivial⟩⟩⟩⟩⟩, trivial⟩⟩
                · conv => whnf
                  conv => whnf
                  conv => whnf
                  conv => whnf
                  conv => whnf
                  refine ⟨inK64 (by omega) (by omega), ?_⟩
                  conv => whnf
                  conv => whnf
                  conv => whnf
                  conv => whnf
                  conv => whnf
                  refine ⟨_, _, ⟨⟨2, b0, b1, b2, q, _, _, by omega, hq0, (by rw [show b1 = false from hq1, ho, decide_eq_false w3]; rfl), hq2, hq, rfl, rfl⟩, by omega⟩, ⟨⟨.inl rfl, rfl, rfl, rfl⟩, ⟨⟨rfl, rfl, rfl, rfl, fun _ => rfl, fun _ _ => .inl rfl⟩, ⟨⟨rfl, rfl, rfl, rfl, fun _ => rfl, fun _ _ => .inl rfl⟩, ⟨⟨rfl, rfl, rfl, rfl, fun _ => rfl, fun _ _ => .inl rfl⟩, ⟨⟨rfl, rfl, rfl, rfl, fun _ => rfl, fun _ _ => .inl rfl⟩, ⟨⟨rfl, rfl, rfl, rfl, fun _ => rfl, fun _ _ => .inl rfl⟩, trivial⟩⟩⟩⟩⟩, trivial⟩⟩
              · have ho : oddB (a.getD 1 0) t x.c.1 = decide (siz (x.c.1 - a.getD 1 0) > t) := by rw [siz_abs]; rfl
                have hxb : x.c.1.natAbs ≤ 1000000 := hvi.1 _ (by simp)
                have h115 := S115 (x.c.1 - a.getD 1 0) (by omega)
                have hz : b01 b2 = 0 := by rw [show b2 = false from hq2]; rfl
                have ht1 : b01 true = 1 := rfl
                conv => whnf
                conv => whnf
                conv => whnf
                conv => whnf
                conv => whnf
                refine ⟨⟨(by omega), (by omega)⟩, ?_⟩
                conv => whnf
                conv => whnf
                conv => whnf
                conv => whnf
                conv => whnf
                refine ⟨inK64 (by omega) (by omega), ?_⟩
                conv => whnf
                conv => whnf
                conv => whnf
                conv => whnf
                conv => whnf
                refine .inl ⟨_, _, byX rfl (Sound1.pl (h115) rfl), ?_⟩
                conv => whnf
                conv => whnf
                conv => whnf
                conv => whnf
                conv => whnf
                refine ifB_dec (fun w3 => ?_) (fun w3 => ?_)
                · conv => whnf
                  conv => whnf
                  conv => whnf
                  conv => whnf
                  conv => whnf
                  refine ⟨⟨(by omega), (by omega)⟩, ?_⟩
                  conv => whnf
                  conv => whnf
                  conv => whnf
                  conv => whnf
                  conv => whnf
                  refine ⟨inK64 (by omega) (by omega), ?_⟩
                  conv => whnf
                  conv => whnf
                  conv => whnf
                  conv => whnf
                  conv => whnf
                  refine ⟨inK64 (by omega) (by omega), ?_⟩
                  conv => whnf
                  conv => whnf
                  conv => whnf
                  conv => whnf
                  conv => whnf
                  refine ⟨_, _, ⟨⟨3, b0, b1, true, q + 1, _, _, by omega, hq0, hq1, (by rw [ho, decide_eq_true w3]; rfl), (by omega), rfl, rfl⟩, by omega⟩, ⟨⟨.inl rfl, rfl, rfl, rfl⟩, ⟨⟨rfl, rfl, rfl, rfl, fun _ => rfl, fun _ _ => .inl rfl⟩, ⟨⟨rfl, rfl, rfl, rfl, fun _ => rfl, fun _ _ => .inl rfl⟩, ⟨⟨rfl, rfl, rfl, rfl, fun _ => rfl, fun _ _ => .inl rfl⟩, ⟨⟨rfl, rfl, rfl, rfl, fun _ => rfl, fun _ _ => .inl rfl⟩, ⟨⟨rfl, rfl, rfl, rfl, fun _ => rfl, fun _ _ => .inl rfl⟩, trivial⟩⟩⟩⟩⟩, trivial⟩⟩
                · conv => whnf
                  conv => whnf
                  conv => whnf
                  conv => whnf
                  conv => whnf
                  refine ⟨inK64 (by omega) (by omega), ?_⟩
                  conv => whnf
                  conv => whnf
                  conv => whnf
                  conv => whnf
                  conv => whnf
                  refine ⟨_, _, ⟨⟨3, b0, b1, b2, q, _, _, by omega, hq0, hq1, (by rw [show b2 = false from hq2, ho, decide_eq_false w3]; rfl), hq, rfl, rfl⟩, by omega⟩, ⟨⟨.inl rfl, rfl, rfl, rfl⟩, ⟨⟨rfl, rfl, rfl, rfl, fun _ => rfl, fun _ _ => .inl rfl⟩, ⟨⟨rfl, rfl, rfl, rfl, fun _ => rfl, fun _ _ => .inl rfl⟩, ⟨⟨rfl, rfl, rfl, rfl, fun _ => rfl, fun _ _ => .inl rfl⟩, ⟨⟨rfl, rfl, rfl, rfl, fun _ => rfl, fun _ _ => .inl rfl⟩, ⟨⟨rfl, rfl, rfl, rfl, fun _ => rfl, fun _ _ => .inl rfl⟩, trivial⟩⟩⟩⟩⟩, trivial⟩⟩
              · have e0 : b0 = oddB (a.getD 1 0) t x.a.1 := hq0
                have e1 : b1 = oddB (a.getD 1 0) t x.b.1 := hq1
                have e2 : b2 = oddB (a.getD 1 0) t x.c.1 := hq2
                rw [← e0, ← e1, ← e2, ← hq]
                conv => whnf
                conv => whnf
                conv => whnf
                conv => whnf
                conv => whnf
                refine ifB_dec (fun w3 => ?_) (fun w3 => ?_)
                · conv => whnf
                  conv => whnf
                  conv => whnf
                  conv => whnf
                  conv => whnf
                  refine ⟨?_, nofun⟩
                  rw [if_pos w3]
                  exact ave_tup2 (ave_agg4 rfl rfl rfl rfl) rfl
                · conv => whnf
                  conv => whnf
                  conv => whnf
                  conv => whnf
                  conv => whnf
                  refine ⟨?_, nofun⟩
                  rw [if_neg w3]
                  exact ave_tup2 (ave_agg4 rfl rfl rfl rfl) rfl
      · (exfalso; omega)
    · have hg : voteG x t = (vt0, votE x t) := if_pos hv
      rw [hg]
      conv => whnf
      conv => whnf
      refine .inl ⟨_, _, byX rfl (Sound1.pl (h118) rfl), ?_⟩
      conv => whnf
      conv => whnf
      refine .inl ⟨_, _, byX rfl (Sound1.pl (h93t) rfl), ?_⟩
      conv => whnf
      conv => whnf
      refine .inl ⟨_, _, byX rfl (Sound1.pl (h93n) rfl), ?_⟩
      conv => whnf
      conv => whnf
      refine .inl ⟨_, _, byX rfl (Sound1.pl (h90' _ ⟨rfl, rfl, rfl⟩) rfl), ?_⟩
      conv => whnf
      conv => whnf
      refine ifB_bne (fun w1 => ?_) (fun w1 => ?_)
      · conv => whnf
        conv => whnf
        refine ⟨?_, nofun⟩
        exact ave_tup2 (ave_agg4 rfl rfl rfl rfl) rfl
      · (exfalso; omega)
end Go.Tr

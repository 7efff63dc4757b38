/- Contracts of chapter 6: valid boxes, robust boxes. Conditions: none. -/
import Derived.Test.YtolohdpbgocgkaaGreatTr10
import Derived.Test.YtolohdpbgocgkaaGreatTr06
import Derived.ProofKit
set_option linter.unusedSectionVars false
set_option linter.unnecessarySimpa false
set_option linter.unusedVariables false
set_option linter.unusedSimpArgs false

namespace Go.Tr
open Go Go.Proofs
set_option maxRecDepth 20000
set_option maxHeartbeats 8000000

/-- The index and the error of a box. -/
def boxC (L : List Rg) : Int × Int := if shapeE L.length ≠ 0 then (0, shapeE L.length) else if (eachR rgE L 0).2 ≠ 0 then eachR rgE L 0 else (0, if (L.getD 0 (0, 0)).1 > 0 then 0 else 3)
theorem S27 (L : List Rg) (hl : L.length ≤ 9223372036854775807) : SP 27 [boxA L] (.tuple [i64 (boxC L).1, i64 (boxC L).2]) false := by
  have h101 := S101 L.length
  unfold boxC
  by_cases hs : shapeE L.length = 0
  · have hn := shape_ok hs
    rw [if_neg (not_not_intro hs)]
    rw [hs] at h101
    have h102 := S102 L (by omega)
    by_cases he : (eachR rgE L 0).2 = 0
    · rw [if_neg (not_not_intro he)]
      rw [he] at h102
      have h93 := S93 (decide ((L.getD 0 (0, 0)).1 > 0)) 3
      refine sound (d := 2) tok2 mixed2 Tryz.func27 (by kernel_rfl) (by kernel_rfl) ?_
      conv => whnf
      refine .inl ⟨_, _, byX rfl (Sound1.pl (h101) rfl), ?_⟩
      conv => whnf
      refine .inl ⟨_, _, byX rfl (Sound1.pl (h102) rfl), ?_⟩
      conv => whnf
      refine ⟨⟨(by omega), (by omega)⟩, ?_⟩
      conv => whnf
      refine .inl ⟨_, _, byX rfl (Sound1.pl (h93) rfl), ?_⟩
      conv => whnf
      refine ⟨?_, nofun⟩
      exact ave_tup2 rfl (endi (by simp only [decide_eq_true_eq]))
    · rw [if_pos he]
      refine sound (d := 2) tok2 mixed2 Tryz.func27 (by kernel_rfl) (by kernel_rfl) ?_
      conv => whnf
      refine .inl ⟨_, _, byX rfl (Sound1.pl (h101) rfl), ?_⟩
      conv => whnf
      refine .inl ⟨_, _, byX rfl (Sound1.pl (h102) rfl), ?_⟩
      conv => whnf
      refine ifB_bne (fun w1 => ?_) (fun w1 => ?_)
      · conv => whnf
        refine ⟨?_, nofun⟩
        exact ave_tup2 rfl rfl
      · (exfalso; omega)
  · rw [if_pos hs]
    refine sound (d := 2) tok2 mixed2 Tryz.func27 (by kernel_rfl) (by kernel_rfl) ?_
    conv => whnf
    refine .inl ⟨_, _, byX rfl (Sound1.pl (h101) rfl), ?_⟩
    conv => whnf
    refine ifB_bne (fun w1 => ?_) (fun w1 => ?_)
    · conv => whnf
      refine ⟨?_, nofun⟩
      exact ave_tup2 rfl rfl
    · (exfalso; omega)
theorem rgE_eq (r : Rg) : rgE r = if -1000 ≤ r.1 ∧ r.1 ≤ 1000 then if -1000 ≤ r.2 ∧ r.2 ≤ 1000 then if r.1 ≤ r.2 then 0 else 9 else 2 else 2 := by
  unfold rgE coefE
  rw [first3]
  (repeat' split) <;> simp_all
theorem S31 (L : List Rg) (hl : L.length ≤ 9223372036854775807) : SP 31 [boxA L] (.tuple [i64 (boxC L).1, i64 (boxC L).2]) false := by
  have h97 := S97 L.length
  unfold boxC
  by_cases hs : shapeE L.length = 0
  · have hn := shape_ok hs
    rw [if_neg (not_not_intro hs)]
    rw [hs] at h97
    have h68 := fun x => S68 x (-1000) 1000
    refine sound (d := 2) tok2 mixed2 Tryz.func31 (by kernel_rfl) (by kernel_rfl) ?_
    conv => whnf
    refine .inl ⟨_, _, byX rfl (Sound1.pl (h97) rfl), ?_⟩
    conv => whnf
    refine ⟨[], [1, 5], fun st mq => ∃ (k : Nat), (k ≤ L.length) ∧ (eachR rgE (L.drop k) k = eachR rgE L 0) ∧ st = ⟨[(1, .optr 0 0 0 0), (5, i64 k)], ⟨[⟨1, 1, fun _ => [rgs L], 0, false, false, true⟩], [], none, 0⟩, []⟩ ∧ mq = L.length - k,
      ⟨_, _, ⟨0, by omega, rfl, rfl, rfl⟩, ⟨⟨.inl rfl, rfl, rfl, rfl⟩, ⟨⟨rfl, rfl, rfl, rfl, nofun, fun _ _ => .inl rfl⟩, trivial⟩, trivial⟩⟩, ?_⟩
    rintro s0 m0 ⟨k, hk, he, rfl, hmeas⟩
    by_cases hlt : k < L.length
    · have hd := eachR_drop rgE L k hlt
      have h1 := h68 (L.getD k (0, 0)).1
      have h2 := h68 (L.getD k (0, 0)).2
      have hr := rgE_eq (L.getD k (0, 0))
      conv => whnf
      conv => whnf
      refine ifB_dec (fun w1 => ?_) (fun w1 => ?_)
      · conv => whnf
        conv => whnf
        refine ⟨⟨(by omega), (by omega)⟩, ?_⟩
        conv => whnf
        conv => whnf
        refine .inl ⟨_, _, byX rfl (Sound1.pl (h1) rfl), ?_⟩
        conv => whnf
        conv => whnf
        refine ifB_not ?_
        conv => whnf
        conv => whnf
        refine ifB_dec (fun w2 => ?_) (fun w2 => ?_)
        · conv => whnf
          conv => whnf
          refine .inl ⟨_, _, byX rfl (Sound1.pl (h2) rfl), ?_⟩
          conv => whnf
          conv => whnf
          refine ifB_not ?_
          conv => whnf
          conv => whnf
          refine ifB_dec (fun w3 => ?_) (fun w3 => ?_)
          · conv => whnf
            conv => whnf
            refine ifB_dec (fun w4 => ?_) (fun w4 => ?_)
            · conv => whnf
              conv => whnf
              refine ⟨?_, nofun⟩
              have w : -1000 ≤ (L.getD k (0, 0)).1 ∧ (L.getD k (0, 0)).1 ≤ 1000 := w2
              have w' : -1000 ≤ (L.getD k (0, 0)).2 ∧ (L.getD k (0, 0)).2 ≤ 1000 := w3
              have w'' : (L.getD k (0, 0)).1 > (L.getD k (0, 0)).2 := w4
              rw [if_pos w, if_pos w', if_neg (by omega)] at hr
              rw [hr, if_neg (by decide)] at hd
              rw [← he, hd]
              exact ave_tup2 rfl rfl
            · conv => whnf
              conv => whnf
              refine ⟨inK64 (by omega) (by omega), ?_⟩
              have w : -1000 ≤ (L.getD k (0, 0)).1 ∧ (L.getD k (0, 0)).1 ≤ 1000 := w2
              have w' : -1000 ≤ (L.getD k (0, 0)).2 ∧ (L.getD k (0, 0)).2 ≤ 1000 := w3
              have w'' : ¬ (L.getD k (0, 0)).1 > (L.getD k (0, 0)).2 := w4
              rw [if_pos w, if_pos w', if_pos (by omega)] at hr
              rw [hr, if_pos rfl] at hd
              conv => whnf
              conv => whnf
              refine ⟨_, _, ⟨⟨k + 1, by omega, hd.symm.trans he, rfl, rfl⟩, by omega⟩, ⟨⟨.inl rfl, rfl, rfl, rfl⟩, ⟨⟨rfl, rfl, rfl, rfl, nofun, fun _ _ => .inl rfl⟩, trivial⟩, trivial⟩⟩
          · conv => whnf
            conv => whnf
            refine ⟨?_, nofun⟩
            have w : -1000 ≤ (L.getD k (0, 0)).1 ∧ (L.getD k (0, 0)).1 ≤ 1000 := w2
            have w' : ¬ (-1000 ≤ (L.getD k (0, 0)).2 ∧ (L.getD k (0, 0)).2 ≤ 1000) := w3
            rw [if_pos w, if_neg w'] at hr
            rw [hr, if_neg (by decide)] at hd
            rw [← he, hd]
            exact ave_tup2 rfl rfl
        · conv => whnf
          conv => whnf
          refine ⟨?_, nofun⟩
          have w : ¬ (-1000 ≤ (L.getD k (0, 0)).1 ∧ (L.getD k (0, 0)).1 ≤ 1000) := w2
          rw [if_neg w] at hr
          rw [hr, if_neg (by decide)] at hd
          rw [← he, hd]
          exact ave_tup2 rfl rfl
      · (exfalso; omega)
    · have e : k = L.length := by omega
      subst e
      rw [List.drop_length] at he
      rw [← he]
      conv => whnf
      conv => whnf
      refine ifB_dec (fun w1 => ?_) (fun w1 => ?_)
      · (exfalso; omega)
      · conv => whnf
        conv => whnf
        refine ⟨⟨(by omega), (by omega)⟩, ?_⟩
        conv => whnf
        conv => whnf
        refine ifB_dec (fun w2 => ?_) (fun w2 => ?_)
        · conv => whnf
          conv => whnf
          refine ⟨?_, nofun⟩
          have w : (L.getD 0 (0, 0)).1 < 1 := w2
          rw [if_neg (show ¬ (L.getD 0 (0, 0)).1 > 0 by omega)]
          exact ave_tup2 rfl rfl
        · conv => whnf
          conv => whnf
          refine ⟨?_, nofun⟩
          have w : ¬ (L.getD 0 (0, 0)).1 < 1 := w2
          rw [if_pos (show (L.getD 0 (0, 0)).1 > 0 by omega)]
          exact ave_tup2 rfl rfl
  · rw [if_pos hs]
    refine sound (d := 2) tok2 mixed2 Tryz.func31 (by kernel_rfl) (by kernel_rfl) ?_
    conv => whnf
    refine .inl ⟨_, _, byX rfl (Sound1.pl (h97) rfl), ?_⟩
    conv => whnf
    refine ifB_bne (fun w1 => ?_) (fun w1 => ?_)
    · conv => whnf
      refine ⟨?_, nofun⟩
      exact ave_tup2 rfl rfl
    · (exfalso; omega)
theorem S108 (p : List Int) (hp : PolyOk p) : SP 108 [ints p] (vb (!stabB p)) false := by
  have h := S109 p hp
  refine sound (d := 2) tok2 mixed2 Tryz.func108 (by kernel_rfl) (by kernel_rfl) ?_
  conv => whnf
  refine .inl ⟨_, _, byX rfl (Sound1.pl (h) rfl), ?_⟩
  conv => whnf
  refine ⟨?_, nofun⟩
  rfl
/-- Where the first one is; -1: there is none. -/
def idxG (g : List Int → Bool) : List (List Int) → Nat → Int
  | [], _ => -1
  | x :: l, k => if g x = true then k else idxG g l (k + 1)
theorem idxG_drop (g : List Int → Bool) (l : List (List Int)) (k : Nat) (h : k < l.length) : idxG g (l.drop k) k = if g (l.getD k []) = true then (k : Int) else idxG g (l.drop (k + 1)) (k + 1) := by
  rw [List.drop_eq_getElem_cons h]
  simp [idxG, List.getD_eq_getElem?_getD, h]
theorem idxG_any (g : List Int → Bool) : ∀ (l : List (List Int)) (k : Nat), decide (idxG g l k ≥ 0) = l.any g
  | [], _ => rfl
  | x :: l, k => by
    unfold idxG
    rw [List.any_cons]
    cases h : g x with
    | true => rw [if_pos rfl, Bool.true_or]; exact decide_eq_true (by omega)
    | false => rw [if_neg (by simp), Bool.false_or]; exact idxG_any g l (k + 1)
theorem S151 (f : Nat) (g : List Int → Bool) (L : List (List Int)) (hl : L.length ≤ 1000000) (hf : ∀ k : Nat, k < L.length → SP f [ints (L.getD k [])] (vb (g (L.getD k []))) false) : SP 151 [listsA L, .func (.func f) 0 []] (i64 (idxG g L 0)) false := by
  refine sound (d := 2) tok2 mixed2 Tryz.func151 (by kernel_rfl) (by kernel_rfl) ?_
  conv => whnf
  refine ⟨[], [0, 1, 7, 8], fun st mq => ∃ (k : Nat), (k ≤ L.length) ∧ (idxG g (L.drop k) k = idxG g L 0) ∧ st = ⟨[(0, listsA L), (1, .func (.func f) 0 []), (7, i64 L.length), (8, i64 k)], ⟨[], [], none, 0⟩, []⟩ ∧ mq = L.length - k,
    ⟨_, _, ⟨0, by omega, rfl, rfl, rfl⟩, ⟨⟨.inl rfl, rfl, rfl, rfl⟩, trivial, trivial⟩⟩, ?_⟩
  rintro s0 m0 ⟨k, hk, he, rfl, hmeas⟩
  by_cases hlt : k < L.length
  · have hd := idxG_drop g L k hlt
    have hc := hf k hlt
    conv => whnf
    conv => whnf
    refine ifB_dec (fun w1 => ?_) (fun w1 => ?_)
    · conv => whnf
      conv => whnf
      refine ⟨⟨(by omega), (by omega)⟩, ?_⟩
      conv => whnf
      conv => whnf
      refine .inl ⟨_, _, byX rfl (Sound1.pl (hc) rfl), ?_⟩
      conv => whnf
      conv => whnf
      refine ifB_intro (fun w2 => ?_) (fun w2 => ?_)
      · conv => whnf
        conv => whnf
        refine ⟨?_, nofun⟩
        rw [if_pos w2] at hd
        exact endi (by rw [← he, hd])
      · conv => whnf
        conv => whnf
        refine ⟨inK64 (by omega) (by omega), ?_⟩
        rw [if_neg (by rw [w2]; nofun)] at hd
        conv => whnf
        conv => whnf
        refine ⟨_, _, ⟨⟨k + 1, by omega, hd.symm.trans he, rfl, rfl⟩, by omega⟩, ⟨⟨.inl rfl, rfl, rfl, rfl⟩, trivial, trivial⟩⟩
    · (exfalso; omega)
  · have e : k = L.length := by omega
    subst e
    rw [List.drop_length] at he
    conv => whnf
    conv => whnf
    refine ifB_dec (fun w1 => ?_) (fun w1 => ?_)
    · (exfalso; omega)
    · conv => whnf
      conv => whnf
      refine ⟨?_, nofun⟩
      exact endi (by rw [← he]; rfl)
theorem S107 (f : Nat) (g : List Int → Bool) (L : List (List Int)) (hl : L.length ≤ 1000000) (hf : ∀ k : Nat, k < L.length → SP f [ints (L.getD k [])] (vb (g (L.getD k []))) false) : SP 107 [listsA L, .func (.func f) 0 []] (vb (L.any g)) false := by
  have h := S151 f g L hl hf
  refine sound (d := 2) tok2 mixed2 Tryz.func107 (by kernel_rfl) (by kernel_rfl) ?_
  conv => whnf
  refine .inl ⟨_, _, byX rfl (Sound1.pl (h) rfl), ?_⟩
  conv => whnf
  refine ⟨?_, nofun⟩
  exact endb (idxG_any g L 0)
def robB (L : List Rg) : Bool := (cornersL L).all stabB
/-! ### What a valid box says -/

structure BoxOk (L : List Rg) : Prop where
  n2 : 2 ≤ L.length ∧ L.length ≤ 5
  rg : ∀ i, i < L.length → -1000 ≤ (L.getD i (0, 0)).1 ∧ (L.getD i (0, 0)).1 ≤ (L.getD i (0, 0)).2 ∧ (L.getD i (0, 0)).2 ≤ 1000
  p0 : 0 < (L.getD 0 (0, 0)).1
theorem eachR_all : ∀ (l : List Rg) (k : Nat), (eachR rgE l k).2 = 0 → ∀ x ∈ l, rgE x = 0
  | [], _, _, x, hx => by cases hx
  | y :: l, k, h, x, hx => by
    unfold eachR at h
    by_cases hy : rgE y = 0
    · rw [if_pos hy] at h
      rcases List.mem_cons.1 hx with e | hx
      · rw [e]; exact hy
      · exact eachR_all l (k + 1) h x hx
    · rw [if_neg hy] at h; exact absurd h hy
theorem BoxOk.of {L : List Rg} (h : (boxC L).2 = 0) : BoxOk L := by
  unfold boxC at h
  by_cases hs : shapeE L.length = 0
  · rw [if_neg (not_not_intro hs)] at h
    by_cases he : (eachR rgE L 0).2 = 0
    · rw [if_neg (not_not_intro he)] at h
      refine ⟨shape_ok hs, fun i hi => ?_, ?_⟩
      · have hm : L.getD i (0, 0) ∈ L := by simp [List.getD_eq_getElem?_getD, hi]
        have h1 := eachR_all L 0 he _ hm
        rw [rgE_eq] at h1
        (repeat' split at h1) <;> omega
      · by_cases h0 : (L.getD 0 (0, 0)).1 > 0
        · exact h0
        · rw [if_neg h0] at h; exact absurd h (by decide)
    · rw [if_pos he] at h; exact absurd h he
  · rw [if_pos hs] at h; exact absurd h hs
theorem boxC_ix {L : List Rg} (h : (boxC L).2 = 0) : boxC L = (0, 0) := by
  unfold boxC at h ⊢
  by_cases hs : shapeE L.length = 0
  · rw [if_neg (not_not_intro hs)] at h ⊢
    by_cases he : (eachR rgE L 0).2 = 0
    · rw [if_neg (not_not_intro he)] at h ⊢
      exact Prod.ext rfl h
    · rw [if_pos he] at h; exact absurd h he
  · rw [if_pos hs] at h; exact absurd h hs
/-- A list of numbers, one in each range, that begins above 0. -/
theorem poly_in {L : List Rg} (h : BoxOk L) {p : List Int} (hl : p.length = L.length) (hi : ∀ i, i < L.length → (L.getD i (0, 0)).1 ≤ p.getD i 0 ∧ p.getD i 0 ≤ (L.getD i (0, 0)).2) : PolyOk p := by
  have h2 := h.n2
  refine ⟨by omega, fun x hx => ?_, ?_⟩
  · obtain ⟨i, hlt, rfl⟩ := List.getElem_of_mem hx
    have h1 := hi i (by omega)
    have h3 := h.rg i (by omega)
    rw [show p.getD i 0 = p[i] by simp [List.getD_eq_getElem?_getD, hlt]] at h1
    omega
  · have h1 := hi 0 (by omega)
    have := h.p0
    omega
theorem corner_at (L : List Rg) (u : List Bool) (i : Nat) (hi : i < L.length) : (cornerL L u).getD i 0 = if u.getD (L.length - 1 - i) false then (L.getD i (0, 0)).2 else (L.getD i (0, 0)).1 := by
  unfold cornerL
  rw [List.getD_eq_getElem?_getD]
  simp [hi]
theorem corner_len (L : List Rg) (u : List Bool) : (cornerL L u).length = L.length := by simp [cornerL]
theorem corner_ok {L : List Rg} (h : BoxOk L) (u : List Bool) : PolyOk (cornerL L u) := by
  refine poly_in h (corner_len L u) fun i hi => ?_
  have h1 := h.rg i hi
  rw [corner_at L u i hi]
  split <;> omega
theorem corners_ok {L : List Rg} (h : BoxOk L) (k : Nat) (hk : k < (cornersL L).length) : PolyOk ((cornersL L).getD k []) := by
  have hm : (cornersL L).getD k [] ∈ cornersL L := getD_memL hk
  obtain ⟨u, _, e⟩ := List.mem_map.1 hm
  rw [← e]
  exact corner_ok h u
theorem S29 (L : List Rg) (hl : L.length ≤ 9223372036854775807) : SP 29 [boxA L] (.tuple [listsA (if (boxC L).2 = 0 then cornersL L else []), i64 (boxC L).2]) false := by
  have h27 := S27 L hl
  by_cases h0 : (boxC L).2 = 0
  · have hb := BoxOk.of h0
    have h106 := S106 L hb.n2
    rw [if_pos h0]
    rw [boxC_ix h0] at h27 ⊢
    refine sound (d := 2) tok2 mixed2 Tryz.func29 (by kernel_rfl) (by kernel_rfl) ?_
    conv => whnf
    refine .inl ⟨_, _, byX rfl (Sound1.pl (h27) rfl), ?_⟩
    conv => whnf
    refine .inl ⟨_, _, byX rfl (h106), ?_⟩
    conv => whnf
    refine ⟨?_, nofun⟩
    exact ave_tup2 ⟨rfl, rfl, fun i hi => rfl⟩ rfl
  · rw [if_neg h0]
    refine sound (d := 2) tok2 mixed2 Tryz.func29 (by kernel_rfl) (by kernel_rfl) ?_
    conv => whnf
    refine .inl ⟨_, _, byX rfl (Sound1.pl (h27) rfl), ?_⟩
    conv => whnf
    refine ifB_bne (fun w1 => ?_) (fun w1 => ?_)
    · conv => whnf
      refine ⟨?_, nofun⟩
      exact ave_tup2 rfl rfl
    · (exfalso; omega)
theorem S30 (L : List Rg) (hl : L.length ≤ 9223372036854775807) : SP 30 [boxA L] (.tuple [vb (if (boxC L).2 = 0 then robB L else false), i64 (boxC L).2]) false := by
  have h27 := S27 L hl
  by_cases h0 : (boxC L).2 = 0
  · have hb := BoxOk.of h0
    have h106 := S106 L hb.n2
    have h107 := S107 108 (fun p => !stabB p) (cornersL L) (by simp [cornersL, pats]) fun k hk => S108 _ (corners_ok hb k hk)
    rw [if_pos h0]
    rw [boxC_ix h0] at h27 ⊢
    refine sound (d := 2) tok2 mixed2 Tryz.func30 (by kernel_rfl) (by kernel_rfl) ?_
    conv => whnf
    refine .inl ⟨_, _, byX rfl (Sound1.pl (h27) rfl), ?_⟩
    conv => whnf
    refine .inl ⟨_, _, byX rfl (h106), ?_⟩
    conv => whnf
    refine .inl ⟨_, _, byX rfl (Sound1.pl (h107) rfl), ?_⟩
    conv => whnf
    refine ⟨?_, nofun⟩
    exact ave_tup2 (endb (by unfold robB; rw [List.any_eq_not_all_not, Bool.not_not]; simp)) rfl
  · rw [if_neg h0]
    refine sound (d := 2) tok2 mixed2 Tryz.func30 (by kernel_rfl) (by kernel_rfl) ?_
    conv => whnf
    refine .inl ⟨_, _, byX rfl (Sound1.pl (h27) rfl), ?_⟩
    conv => whnf
    refine ifB_bne (fun w1 => ?_) (fun w1 => ?_)
    · conv => whnf
      refine ⟨?_, nofun⟩
      exact ave_tup2 rfl rfl
    · (exfalso; omega)
theorem S34 (L : List Rg) (hb : BoxOk L) : SP 34 [boxA L] (vb (robB L)) false := by
  have h33 := S33 L hb.n2
  have hlen : (cornersL L).length = 4 := by simp [cornersL, pats]
  refine sound (d := 2) tok2 mixed2 Tryz.func34 (by kernel_rfl) (by kernel_rfl) ?_
  conv => whnf
  refine .inl ⟨_, _, byX rfl (h33), ?_⟩
  conv => whnf
  refine ⟨[], [3, 4], fun st mq => ∃ (k : Nat) (F0 : Nat → List AV), (k ≤ (cornersL L).length) ∧ (((cornersL L).drop k).all stabB = robB L) ∧ st = ⟨[(3, listsA (cornersL L)), (4, i64 k)], ⟨[⟨1, 1, F0, 0, false, true, false⟩], [], none, 0⟩, []⟩ ∧ mq = (cornersL L).length - k,
    ⟨_, _, ⟨0, _, by omega, rfl, rfl, rfl⟩, ⟨⟨.inl rfl, rfl, rfl, rfl⟩, ⟨⟨rfl, rfl, rfl, rfl, fun _ => rfl, fun _ _ => .inl rfl⟩, trivial⟩, trivial⟩⟩, ?_⟩
  rintro s0 m0 ⟨k, F0, hk, h, rfl, hmeas⟩
  by_cases hlt : k < (cornersL L).length
  · have hd : ((cornersL L).drop k).all stabB = (stabB ((cornersL L).getD k []) && ((cornersL L).drop (k + 1)).all stabB) := by
      have e : (cornersL L).getD k [] = (cornersL L)[k] := by simp [List.getD_eq_getElem?_getD, hlt]
      rw [List.drop_eq_getElem_cons hlt, e]
      rfl
    have h67 := S67 _ (corners_ok hb k hlt)
    conv => whnf
    conv => whnf
    refine ifB_dec (fun w1 => ?_) (fun w1 => ?_)
    · conv => whnf
      conv => whnf
      refine ⟨⟨(by omega), (by omega)⟩, ?_⟩
      conv => whnf
      conv => whnf
      refine .inl ⟨_, _, byX rfl (Sound1.pl (h67) rfl), ?_⟩
      conv => whnf
      conv => whnf
      refine ifB_not ?_
      conv => whnf
      conv => whnf
      refine ifB_intro (fun w2 => ?_) (fun w2 => ?_)
      · conv => whnf
        conv => whnf
        refine ⟨inK64 (by omega) (by omega), ?_⟩
        rw [w2, Bool.true_and] at hd
        conv => whnf
        conv => whnf
        refine ⟨_, _, ⟨⟨k + 1, _, by omega, hd.symm.trans h, rfl, rfl⟩, by omega⟩, ⟨⟨.inl rfl, rfl, rfl, rfl⟩, ⟨⟨rfl, rfl, rfl, rfl, fun _ => rfl, fun _ _ => .inl rfl⟩, trivial⟩, trivial⟩⟩
      · conv => whnf
        conv => whnf
        refine ⟨?_, nofun⟩
        rw [w2, Bool.false_and] at hd
        exact endb (by rw [← h, hd])
    · (exfalso; omega)
  · have e : k = (cornersL L).length := by omega
    subst e
    rw [List.drop_length] at h
    conv => whnf
    conv => whnf
    refine ⟨?_, nofun⟩
    exact endb (by rw [← h]; rfl)
theorem corners_small {L : List Rg} (hb : BoxOk L) : (cornersL L).length ≤ 1000 ∧ ∀ l ∈ cornersL L, l.length ≤ 1000 := by
  refine ⟨by simp [cornersL, pats], fun l hl => ?_⟩
  obtain ⟨u, _, rfl⟩ := List.mem_map.1 hl
  rw [corner_len]
  have := hb.n2
  omega
theorem S4 (L : List Rg) (hl : L.length ≤ 9223372036854775807) : SP 4 [boxA L] (vb true) false := by
  by_cases h7 : L.length ≤ 7
  · have h28 := S28 L (by omega)
    have h27 := S27 L hl
    have h29 := S29 L hl
    have h30 := S30 L hl
    have h31 := S31 L hl
    by_cases h0 : (boxC L).2 = 0
    · have hb := BoxOk.of h0
      have hc := corners_small hb
      have h33 := S33 L hb.n2
      have h34 := S34 L hb
      have h32 := S32 (cornersL L) (cornersL L) (by omega) (by omega) hc.2 hc.2
      rw [decide_eq_true rfl] at h32
      rw [if_pos h0, h0] at h29 h30
      rw [boxC_ix h0] at h27 h31
      refine sound (d := 2) tok2 mixed2 Tryz.func4 (by kernel_rfl) (by kernel_rfl) ?_
      conv => whnf
      refine .inl ⟨_, _, byX rfl (Sound1.pl (S16) rfl), ?_⟩
      conv => whnf
      refine ifB_dec (fun w1 => ?_) (fun w1 => ?_)
      · (exfalso; omega)
      · conv => whnf
        refine .inl ⟨_, _, byX rfl (h28), ?_⟩
        conv => whnf
        refine .inl ⟨_, _, byX rfl (Sound1.pl (h27) rfl), ?_⟩
        conv => whnf
        refine .inl ⟨_, _, byX rfl (h28), ?_⟩
        conv => whnf
        refine .inl ⟨_, _, byX rfl (h29), ?_⟩
        conv => whnf
        refine .inl ⟨_, _, byX rfl (h28), ?_⟩
        conv => whnf
        refine .inl ⟨_, _, byX rfl (Sound1.pl (h30) rfl), ?_⟩
        conv => whnf
        refine .inl ⟨_, _, byX rfl (Sound1.pl (h31) rfl), ?_⟩
        conv => whnf
        refine .inl ⟨_, _, byX rfl (h33), ?_⟩
        conv => whnf
        refine .inl ⟨_, _, byX rfl (Sound1.pl (h32) rfl), ?_⟩
        conv => whnf
        refine .inl ⟨_, _, byX rfl (Sound1.pl (h34) rfl), ?_⟩
        conv => whnf
        refine ⟨?_, nofun⟩
        (first | rfl | exact endb (beq_iff_eq.2 rfl) | exact endb (by simp))
    · rw [if_neg h0] at h29 h30
      refine sound (d := 2) tok2 mixed2 Tryz.func4 (by kernel_rfl) (by kernel_rfl) ?_
      conv => whnf
      refine .inl ⟨_, _, byX rfl (Sound1.pl (S16) rfl), ?_⟩
      conv => whnf
      refine ifB_dec (fun w1 => ?_) (fun w1 => ?_)
      · (exfalso; omega)
      · conv => whnf
        refine .inl ⟨_, _, byX rfl (h28), ?_⟩
        conv => whnf
        refine .inl ⟨_, _, byX rfl (Sound1.pl (h27) rfl), ?_⟩
        conv => whnf
        refine .inl ⟨_, _, byX rfl (h28), ?_⟩
        conv => whnf
        refine .inl ⟨_, _, byX rfl (h29), ?_⟩
        conv => whnf
        refine .inl ⟨_, _, byX rfl (h28), ?_⟩
        conv => whnf
        refine .inl ⟨_, _, byX rfl (Sound1.pl (h30) rfl), ?_⟩
        conv => whnf
        refine .inl ⟨_, _, byX rfl (Sound1.pl (h31) rfl), ?_⟩
        conv => whnf
        refine ifB_bne (fun w2 => ?_) (fun w2 => ?_)
        · (exfalso; omega)
        · conv => whnf
          refine ifB_bne (fun w3 => ?_) (fun w3 => ?_)
          · (exfalso; omega)
          · conv => whnf
            refine ifB_bne (fun w4 => ?_) (fun w4 => ?_)
            · conv => whnf
              refine ifB_beq (fun w5 => ?_) (fun w5 => ?_)
              · conv => whnf
                refine ifB_beq (fun w6 => ?_) (fun w6 => ?_)
                · conv => whnf
                  refine ⟨?_, nofun⟩
                  (first | rfl | exact endb (beq_iff_eq.2 rfl) | exact endb (by simp))
                · (exfalso; omega)
              · (exfalso; omega)
            · (exfalso; omega)
  · refine sound (d := 2) tok2 mixed2 Tryz.func4 (by kernel_rfl) (by kernel_rfl) ?_
    conv => whnf
    refine .inl ⟨_, _, byX rfl (Sound1.pl (S16) rfl), ?_⟩
    conv => whnf
    refine ifB_dec (fun w1 => ?_) (fun w1 => ?_)
    · conv => whnf
      refine ⟨?_, nofun⟩
      rfl
    · (exfalso; omega)
end Go.Tr

/- The law GovernorWhole returns true. Conditions: none. -/
namespace Go.Tr
open Go Go.Proofs
set_option maxRecDepth 20000
set_option maxHeartbeats 8000000

theorem S36 (n b : Int) (hb : 0 < b ∧ b ≤ 1000000) : SP 36 [i64 n, i64 b] (i64 (n % b)) false := by
  have h1 := Int.tmod_lt_of_pos n hb.1
  have h2 := Int.lt_tmod_of_pos n hb.1
  have h3 := Int.emod_nonneg n (show b ≠ 0 by omega)
  have h4 := Int.emod_lt_of_pos n hb.1
  have h5 := Int.emod_add_mul_ediv n b
  have h6 := Int.tmod_add_mul_tdiv n b
  have h7 : n % b = if n.tmod b < 0 then n.tmod b + b else n.tmod b := by
    rcases Int.lt_or_le n 0 with h | h
    · have e := Int.tmod_eq_emod (a := n) (b := b)
      rw [e]
      split <;> split <;> omega
    · rw [Int.tmod_eq_emod_of_nonneg h, if_neg (by omega)]
  rw [h7]
  refine sound (d := 2) tok2 mixed2 Tryz.func36 (by kernel_rfl) (by kernel_rfl) ?_
  conv => whnf
  refine ⟨(by omega), ?_⟩
  conv => whnf
  refine ifB_dec (fun w1 => ?_) (fun w1 => ?_)
  · conv => whnf
    refine ⟨inK64 (by omega) (by omega), ?_⟩
    conv => whnf
    refine ⟨?_, nofun⟩
    rw [if_pos w1]
    rfl
  · conv => whnf
    refine ⟨?_, nofun⟩
    rw [if_neg w1]
    rfl
theorem S35 (L : List Rg) (hl : L.length ≤ 9223372036854775807) : SP 35 [boxA L] (i64 (boxC L).2) false := by
  have h := S31 L hl
  refine sound (d := 2) tok2 mixed2 Tryz.func35 (by kernel_rfl) (by kernel_rfl) ?_
  conv => whnf
  refine .inl ⟨_, _, byX rfl (Sound1.pl (h) rfl), ?_⟩
  conv => whnf
  refine ⟨?_, nofun⟩
  rfl
/-! ### Whole boxes -/

theorem cor2 (al ah bl bh : Int) : cornersL [(al, ah), (bl, bh)] = [[al, bl], [ah, bh], [al, bh], [ah, bl]] := by kernel_rfl
theorem kharL2 {al ah bl bh a b : Int} (h : robB [(al, ah), (bl, bh)] = true) (h0 : 0 < al) (q0 : al ≤ a ∧ a ≤ ah) (q1 : bl ≤ b ∧ b ≤ bh) : stabB [a, b] = true := by
  unfold robB at h
  rw [cor2] at h
  simp only [List.all_cons, List.all_nil, Bool.and_eq_true] at h
  exact khar2 h0 q0.1 q1.1 h.1
theorem cor3 (al ah bl bh cl ch : Int) : cornersL [(al, ah), (bl, bh), (cl, ch)] = [[ah, bl, cl], [al, bh, ch], [al, bl, ch], [ah, bh, cl]] := by kernel_rfl
theorem kharL3 {al ah bl bh cl ch a b c : Int} (h : robB [(al, ah), (bl, bh), (cl, ch)] = true) (h0 : 0 < al) (q0 : al ≤ a ∧ a ≤ ah) (q1 : bl ≤ b ∧ b ≤ bh) (q2 : cl ≤ c ∧ c ≤ ch) : stabB [a, b, c] = true := by
  unfold robB at h
  rw [cor3] at h
  simp only [List.all_cons, List.all_nil, Bool.and_eq_true] at h
  exact khar3 h0 q0.1 q1.1 q2.1 h.1
theorem cor4 (al ah bl bh cl ch dl dh : Int) : cornersL [(al, ah), (bl, bh), (cl, ch), (dl, dh)] = [[ah, bh, cl, dl], [al, bl, ch, dh], [ah, bl, cl, dh], [al, bh, ch, dl]] := by kernel_rfl
theorem kharL4 {al ah bl bh cl ch dl dh a b c d : Int} (h : robB [(al, ah), (bl, bh), (cl, ch), (dl, dh)] = true) (h0 : 0 < al) (q0 : al ≤ a ∧ a ≤ ah) (q1 : bl ≤ b ∧ b ≤ bh) (q2 : cl ≤ c ∧ c ≤ ch) (q3 : dl ≤ d ∧ d ≤ dh) : stabB [a, b, c, d] = true := by
  unfold robB at h
  rw [cor4] at h
  simp only [List.all_cons, List.all_nil, Bool.and_eq_true] at h
  exact khar4 h0 q0 q1.1 q2.1 q3 h.1 h.2.2.1
theorem cor5 (al ah bl bh cl ch dl dh el eh : Int) : cornersL [(al, ah), (bl, bh), (cl, ch), (dl, dh), (el, eh)] = [[al, bh, ch, dl, el], [ah, bl, cl, dh, eh], [ah, bh, cl, dl, eh], [al, bl, ch, dh, el]] := by kernel_rfl
theorem kharL5 {al ah bl bh cl ch dl dh el eh a b c d e : Int} (h : robB [(al, ah), (bl, bh), (cl, ch), (dl, dh), (el, eh)] = true) (h0 : 0 < al) (q0 : al ≤ a ∧ a ≤ ah) (q1 : bl ≤ b ∧ b ≤ bh) (q2 : cl ≤ c ∧ c ≤ ch) (q3 : dl ≤ d ∧ d ≤ dh) (q4 : el ≤ e ∧ e ≤ eh) : stabB [a, b, c, d, e] = true := by
  unfold robB at h
  rw [cor5] at h
  simp only [List.all_cons, List.all_nil, Bool.and_eq_true] at h
  exact khar5 h0 q0 q1 q2.1 q3 q4 h.1 h.2.1 h.2.2.1
theorem len2 {α : Type} {l : List α} (h : l.length = 2) : ∃ x0 x1, l = [x0, x1] := by
  match l, h with
  | [x0, x1], _ => exact ⟨x0, x1, rfl⟩
theorem kharN2 {L : List Rg} {p : List Int} (hL : L.length = 2) (h : robB L = true) (hl : p.length = 2) (h0 : 0 < (L.getD 0 (0, 0)).1) (hi : ∀ i, i < 2 → (L.getD i (0, 0)).1 ≤ p.getD i 0 ∧ p.getD i 0 ≤ (L.getD i (0, 0)).2) : stabB p = true := by
  obtain ⟨x0, x1, rfl⟩ := len2 hL
  obtain ⟨y0, y1, rfl⟩ := len2 hl
  have q0 : x0.1 ≤ y0 ∧ y0 ≤ x0.2 := hi 0 (by decide)
  have q1 : x1.1 ≤ y1 ∧ y1 ≤ x1.2 := hi 1 (by decide)
  have h0 : 0 < x0.1 := h0
  clear hi hL hl
  obtain ⟨l0, u0⟩ := x0
  obtain ⟨l1, u1⟩ := x1
  exact kharL2 h h0 q0 q1
theorem len3 {α : Type} {l : List α} (h : l.length = 3) : ∃ x0 x1 x2, l = [x0, x1, x2] := by
  match l, h with
  | [x0, x1, x2], _ => exact ⟨x0, x1, x2, rfl⟩
theorem kharN3 {L : List Rg} {p : List Int} (hL : L.length = 3) (h : robB L = true) (hl : p.length = 3) (h0 : 0 < (L.getD 0 (0, 0)).1) (hi : ∀ i, i < 3 → (L.getD i (0, 0)).1 ≤ p.getD i 0 ∧ p.getD i 0 ≤ (L.getD i (0, 0)).2) : stabB p = true := by
  obtain ⟨x0, x1, x2, rfl⟩ := len3 hL
  obtain ⟨y0, y1, y2, rfl⟩ := len3 hl
  have q0 : x0.1 ≤ y0 ∧ y0 ≤ x0.2 := hi 0 (by decide)
  have q1 : x1.1 ≤ y1 ∧ y1 ≤ x1.2 := hi 1 (by decide)
  have q2 : x2.1 ≤ y2 ∧ y2 ≤ x2.2 := hi 2 (by decide)
  have h0 : 0 < x0.1 := h0
  clear hi hL hl
  obtain ⟨l0, u0⟩ := x0
  obtain ⟨l1, u1⟩ := x1
  obtain ⟨l2, u2⟩ := x2
  exact kharL3 h h0 q0 q1 q2
theorem len4 {α : Type} {l : List α} (h : l.length = 4) : ∃ x0 x1 x2 x3, l = [x0, x1, x2, x3] := by
  match l, h with
  | [x0, x1, x2, x3], _ => exact ⟨x0, x1, x2, x3, rfl⟩
theorem kharN4 {L : List Rg} {p : List Int} (hL : L.length = 4) (h : robB L = true) (hl : p.length = 4) (h0 : 0 < (L.getD 0 (0, 0)).1) (hi : ∀ i, i < 4 → (L.getD i (0, 0)).1 ≤ p.getD i 0 ∧ p.getD i 0 ≤ (L.getD i (0, 0)).2) : stabB p = true := by
  obtain ⟨x0, x1, x2, x3, rfl⟩ := len4 hL
  obtain ⟨y0, y1, y2, y3, rfl⟩ := len4 hl
  have q0 : x0.1 ≤ y0 ∧ y0 ≤ x0.2 := hi 0 (by decide)
  have q1 : x1.1 ≤ y1 ∧ y1 ≤ x1.2 := hi 1 (by decide)
  have q2 : x2.1 ≤ y2 ∧ y2 ≤ x2.2 := hi 2 (by decide)
  have q3 : x3.1 ≤ y3 ∧ y3 ≤ x3.2 := hi 3 (by decide)
  have h0 : 0 < x0.1 := h0
  clear hi hL hl
  obtain ⟨l0, u0⟩ := x0
  obtain ⟨l1, u1⟩ := x1
  obtain ⟨l2, u2⟩ := x2
  obtain ⟨l3, u3⟩ := x3
  exact kharL4 h h0 q0 q1 q2 q3
theorem len5 {α : Type} {l : List α} (h : l.length = 5) : ∃ x0 x1 x2 x3 x4, l = [x0, x1, x2, x3, x4] := by
  match l, h with
  | [x0, x1, x2, x3, x4], _ => exact ⟨x0, x1, x2, x3, x4, rfl⟩
theorem kharN5 {L : List Rg} {p : List Int} (hL : L.length = 5) (h : robB L = true) (hl : p.length = 5) (h0 : 0 < (L.getD 0 (0, 0)).1) (hi : ∀ i, i < 5 → (L.getD i (0, 0)).1 ≤ p.getD i 0 ∧ p.getD i 0 ≤ (L.getD i (0, 0)).2) : stabB p = true := by
  obtain ⟨x0, x1, x2, x3, x4, rfl⟩ := len5 hL
  obtain ⟨y0, y1, y2, y3, y4, rfl⟩ := len5 hl
  have q0 : x0.1 ≤ y0 ∧ y0 ≤ x0.2 := hi 0 (by decide)
  have q1 : x1.1 ≤ y1 ∧ y1 ≤ x1.2 := hi 1 (by decide)
  have q2 : x2.1 ≤ y2 ∧ y2 ≤ x2.2 := hi 2 (by decide)
  have q3 : x3.1 ≤ y3 ∧ y3 ≤ x3.2 := hi 3 (by decide)
  have q4 : x4.1 ≤ y4 ∧ y4 ≤ x4.2 := hi 4 (by decide)
  have h0 : 0 < x0.1 := h0
  clear hi hL hl
  obtain ⟨l0, u0⟩ := x0
  obtain ⟨l1, u1⟩ := x1
  obtain ⟨l2, u2⟩ := x2
  obtain ⟨l3, u3⟩ := x3
  obtain ⟨l4, u4⟩ := x4
  exact kharL5 h h0 q0 q1 q2 q3 q4
theorem khar {L : List Rg} (hb : BoxOk L) (h : robB L = true) {p : List Int} (hl : p.length = L.length) (hi : ∀ i, i < L.length → (L.getD i (0, 0)).1 ≤ p.getD i 0 ∧ p.getD i 0 ≤ (L.getD i (0, 0)).2) : stabB p = true := by
  have h0 := hb.p0
  have h2 := hb.n2
  have hx : L.length = 2 ∨ L.length = 3 ∨ L.length = 4 ∨ L.length = 5 := by omega
  rcases hx with e | e | e | e
  · exact kharN2 e h (hl.trans e) h0 fun i h => hi i (by omega)
  · exact kharN3 e h (hl.trans e) h0 fun i h => hi i (by omega)
  · exact kharN4 e h (hl.trans e) h0 fun i h => hi i (by omega)
  · exact kharN5 e h (hl.trans e) h0 fun i h => hi i (by omega)
theorem box_of {L : List Rg} (hb : BoxOk L) : (boxC L).2 = 0 := by
  have h2 := hb.n2
  have hs : shapeE L.length = 0 := by unfold shapeE; (repeat' split) <;> omega
  have hz : ∀ (l : List Rg) (k : Nat), (∀ x ∈ l, rgE x = 0) → eachR rgE l k = (0, 0) := fun l => by
    induction l with
    | nil => intro k _; rfl
    | cons x l ih =>
      intro k h
      unfold eachR
      rw [if_pos (h x (by simp))]
      exact ih _ fun y hy => h y (by simp [hy])
  have he : eachR rgE L 0 = (0, 0) := hz L 0 fun x hx => by
    obtain ⟨i, hi, rfl⟩ := List.getElem_of_mem hx
    have := hb.rg i hi
    rw [show L.getD i (0, 0) = L[i] by simp [List.getD_eq_getElem?_getD, hi]] at this
    rw [rgE_eq]
    (repeat' split) <;> omega
  unfold boxC
  rw [if_neg (not_not_intro hs), he, if_neg (by simp), if_pos hb.p0]
/-- The place in a range that a number names; the polynomial, the box of it alone, the box within. -/
def qAt (L : List Rg) (X : List Int) (i : Nat) : Int := (L.getD i (0, 0)).1 + X.getD i 0 % ((L.getD i (0, 0)).2 - (L.getD i (0, 0)).1 + 1)
def hAt (L : List Rg) (X : List Int) (i : Nat) : Int := qAt L X i + X.getD (L.length + i) 0 % ((L.getD i (0, 0)).2 - qAt L X i + 1)
def pL (L : List Rg) (X : List Int) (n : Nat) : List Int := (List.range n).map (qAt L X)
def ptL (L : List Rg) (X : List Int) (n : Nat) : List Rg := (List.range n).map fun i => (qAt L X i, qAt L X i)
def inL (L : List Rg) (X : List Int) (n : Nat) : List Rg := (List.range n).map fun i => (qAt L X i, hAt L X i)
theorem getD_mapR {α : Type} (f : Nat → α) (n i : Nat) (d : α) (hi : i < n) : ((List.range n).map f).getD i d = f i := by
  rw [List.getD_eq_getElem?_getD]
  simp [hi]
theorem qAt_in {L : List Rg} (hb : BoxOk L) (X : List Int) {i : Nat} (hi : i < L.length) : (L.getD i (0, 0)).1 ≤ qAt L X i ∧ qAt L X i ≤ (L.getD i (0, 0)).2 := by
  have h := hb.rg i hi
  have h1 := Int.emod_nonneg (X.getD i 0) (show (L.getD i (0, 0)).2 - (L.getD i (0, 0)).1 + 1 ≠ 0 by omega)
  have h2 := Int.emod_lt_of_pos (X.getD i 0) (show 0 < (L.getD i (0, 0)).2 - (L.getD i (0, 0)).1 + 1 by omega)
  unfold qAt
  omega
theorem hAt_in {L : List Rg} (hb : BoxOk L) (X : List Int) {i : Nat} (hi : i < L.length) : qAt L X i ≤ hAt L X i ∧ hAt L X i ≤ (L.getD i (0, 0)).2 := by
  have h := qAt_in hb X hi
  have h1 := Int.emod_nonneg (X.getD (L.length + i) 0) (show (L.getD i (0, 0)).2 - qAt L X i + 1 ≠ 0 by omega)
  have h2 := Int.emod_lt_of_pos (X.getD (L.length + i) 0) (show 0 < (L.getD i (0, 0)).2 - qAt L X i + 1 by omega)
  unfold hAt
  omega
theorem pt_ok {L : List Rg} (hb : BoxOk L) (X : List Int) : BoxOk (ptL L X L.length) := by
  have h2 := hb.n2
  have hl : (ptL L X L.length).length = L.length := by simp [ptL]
  refine ⟨by omega, fun i hi => ?_, ?_⟩
  · have h := qAt_in hb X (show i < L.length by omega)
    have h1 := hb.rg i (by omega)
    unfold ptL
    rw [getD_mapR _ _ _ _ (by omega)]
    dsimp only
    omega
  · have h := qAt_in hb X (show 0 < L.length by omega)
    have := hb.p0
    unfold ptL
    rw [getD_mapR _ _ _ _ (by omega)]
    dsimp only
    omega
theorem in_ok {L : List Rg} (hb : BoxOk L) (X : List Int) : BoxOk (inL L X L.length) := by
  have h2 := hb.n2
  have hl : (inL L X L.length).length = L.length := by simp [inL]
  refine ⟨by omega, fun i hi => ?_, ?_⟩
  · have h := qAt_in hb X (show i < L.length by omega)
    have h' := hAt_in hb X (show i < L.length by omega)
    have h1 := hb.rg i (by omega)
    unfold inL
    rw [getD_mapR _ _ _ _ (by omega)]
    dsimp only
    omega
  · have h := qAt_in hb X (show 0 < L.length by omega)
    have := hb.p0
    unfold inL
    rw [getD_mapR _ _ _ _ (by omega)]
    dsimp only
    omega
theorem w_all {L : List Rg} (hb : BoxOk L) (X : List Int) (h : robB L = true) : stabB (pL L X L.length) = true := by
  refine khar hb h (by simp [pL]) fun i hi => ?_
  unfold pL
  rw [getD_mapR _ _ _ _ hi]
  exact qAt_in hb X hi
theorem w_in {L : List Rg} (hb : BoxOk L) (X : List Int) (h : robB L = true) : robB (inL L X L.length) = true := by
  refine List.all_eq_true.2 fun c hc => ?_
  obtain ⟨u, _, rfl⟩ := List.mem_map.1 hc
  have hl : (inL L X L.length).length = L.length := by simp [inL]
  refine khar hb h ((corner_len _ u).trans hl) fun i hi => ?_
  rw [corner_at _ u i (by omega)]
  have h1 := qAt_in hb X hi
  have h2 := hAt_in hb X hi
  unfold inL
  rw [getD_mapR _ _ _ _ hi]
  dsimp only
  split <;> omega
theorem w_of_in {L : List Rg} (hb : BoxOk L) (X : List Int) (h : robB (inL L X L.length) = true) : stabB (pL L X L.length) = true := by
  refine khar (in_ok hb X) h (by simp [pL, inL]) fun i hi => ?_
  have hi2 : i < L.length := by simpa [inL] using hi
  have h2 := hAt_in hb X hi2
  unfold inL pL
  rw [getD_mapR _ _ _ _ hi2, getD_mapR _ _ _ _ hi2]
  dsimp only
  omega
theorem w_pt {L : List Rg} (X : List Int) : robB (ptL L X L.length) = stabB (pL L X L.length) := by
  have hc : ∀ u, cornerL (ptL L X L.length) u = pL L X L.length := fun u => by
    refine List.ext_getElem (by simp [cornerL, ptL, pL]) fun i h1 h2 => ?_
    have hi : i < L.length := by simpa [pL] using h2
    have hi' : i < (ptL L X L.length).length := by simpa [ptL] using hi
    have e := corner_at (ptL L X L.length) u i hi'
    rw [List.getD_eq_getElem?_getD, List.getElem?_eq_getElem h1] at e
    have e2 : (pL L X L.length)[i] = qAt L X i := by simp [pL]
    rw [e2]
    have e3 : (ptL L X L.length).getD i (0, 0) = (qAt L X i, qAt L X i) := getD_mapR _ _ _ _ hi
    rw [e3] at e
    simpa using e
  unfold robB cornersL pats
  simp [hc]
theorem rg_row {f : Nat → Rg} (n i : Nat) (v : Rg) (hv : v = f n) (hi : i < n + 1) : [i64 (((List.range (n + 1)).map f).getD i (0, 0)).1, i64 (((List.range (n + 1)).map f).getD i (0, 0)).2] = if i < n then [i64 (((List.range n).map f).getD (0 + i) (0, 0)).1, i64 (((List.range n).map f).getD (0 + i) (0, 0)).2] else List.take 2 (List.drop ((i - n) * 2) [i64 v.1, i64 v.2]) := by
  subst hv
  rw [Nat.zero_add]
  by_cases h : i < n
  · rw [if_pos h]; simp [List.getD_eq_getElem?_getD, h, hi]
  · rw [if_neg h, show i = n by omega]; simp [List.getD_eq_getElem?_getD]
theorem ints_k {P : List Int} {n : Nat} (h : P.length = n) : ints P = .rslice 1 n fun i => [i64 (P.getD i 0)] := by
  subst h; rfl
theorem rgs_n {P : List Rg} {n : Nat} (h : P.length = n) : rgs P = .rslice 2 n fun i => [i64 (P.getD i (0, 0)).1, i64 (P.getD i (0, 0)).2] := by
  subst h; rfl
theorem poly_ok {p : List Int} (h : PolyOk p) : polyE p = 0 := by
  have h2 := h.p2
  have hs : shapeE p.length = 0 := by unfold shapeE; (repeat' split) <;> omega
  have hz : ∀ (l : List Int) (k : Nat), Sml 1000 l → eachI (fun _ x => coefE x) l k = (0, 0) := fun l => by
    induction l with
    | nil => intro k _; rfl
    | cons x l ih =>
      intro k h
      have hx := h x (by simp)
      have : coefE x = 0 := if_pos (by omega)
      unfold eachI
      rw [if_pos this]
      exact ih _ fun y hy => h y (by simp [hy])
  unfold polyE coefsE
  rw [if_neg (not_not_intro hs), hz p 0 h.ps, if_neg (by simp), if_pos h.p0]
theorem S5 (L : List Rg) (X : List Int) (hl : L.length ≤ 9223372036854775807) (hX : X.length ≤ 9223372036854775807) : SP 5 [boxA L, ints X] (vb true) false := by
  have h35 := S35 L hl
  by_cases h0 : (boxC L).2 = 0
  · have hb := BoxOk.of h0
    have h2 := hb.n2
    have h28 := S28 L (by omega)
    have h30 := S30 L hl
    rw [if_pos h0, h0] at h30
    rw [h0] at h35
    by_cases hlen : 2 * L.length ≤ X.length ∧ X.length ≤ 10
    · refine sound (d := 2) tok2 mixed2 Tryz.func5 (by kernel_rfl) (by kernel_rfl) ?_
      conv => whnf
      refine .inl ⟨_, _, byX rfl (Sound1.pl (S16) rfl), ?_⟩
      conv => whnf
      refine .inl ⟨_, _, byX rfl (Sound1.pl (h35) rfl), ?_⟩
      conv => whnf
      refine ⟨inK64 (by omega) (by omega), ?_⟩
      conv => whnf
      refine ifB_dec (fun w1 => ?_) (fun w1 => ?_)
      · (exfalso; omega)
      · conv => whnf
        refine ifB_dec (fun w2 => ?_) (fun w2 => ?_)
        · (exfalso; omega)
        · conv => whnf
          refine .inl ⟨_, _, byX rfl (h28), ?_⟩
          conv => whnf
          refine .inl ⟨_, _, byX rfl (Sound1.pl (h30) rfl), ?_⟩
          conv => whnf
          refine ⟨[.slot 7 1, .cell 1 0 2, .cell 2 0 2], [1, 2, 5, 7, 8, 9, 10], fun st mq => ∃ (k : Nat), (k ≤ L.length) ∧ st = ⟨[(1, ints X), (2, .optr 0 0 0 0), (5, vb (robB L)), (7, .oslice 3 0 0 k none), (8, .optr 1 0 0 0), (9, .optr 2 0 0 0), (10, i64 k)], ⟨[⟨1, 1, fun _ => [rgs L], 0, false, true, true⟩, ⟨1, 1, fun _ => [.oslice 4 0 0 k none], 0, false, false, true⟩, ⟨1, 1, fun _ => [.oslice 5 0 0 k none], 0, false, false, true⟩, ⟨1, k, fun i => [i64 ((pL L X k).getD i 0)], 0, false, true, false⟩, ⟨2, k, fun i => [i64 ((ptL L X k).getD i (0, 0)).1, i64 ((ptL L X k).getD i (0, 0)).2], 0, false, true, false⟩, ⟨2, k, fun i => [i64 ((inL L X k).getD i (0, 0)).1, i64 ((inL L X k).getD i (0, 0)).2], 0, false, true, false⟩], [], none, 0⟩, []⟩ ∧ mq = L.length - k,
            ⟨_, _, ⟨0, by omega, rfl, rfl⟩, ⟨⟨.inl rfl, rfl, rfl, rfl⟩, ⟨⟨rfl, rfl, rfl, rfl, fun _ => rfl, fun _ _ => .inl rfl⟩, ⟨⟨rfl, rfl, rfl, rfl, nofun, fun _ _ => .inl rfl⟩, ⟨⟨rfl, rfl, rfl, rfl, nofun, fun _ _ => .inl rfl⟩, ⟨⟨rfl, rfl, rfl, rfl, fun _ => rfl, fun i h => .inl (absurd h (Nat.not_lt_zero i))⟩, ⟨⟨rfl, rfl, rfl, rfl, fun _ => rfl, fun i h => .inl (absurd h (Nat.not_lt_zero i))⟩, ⟨⟨rfl, rfl, rfl, rfl, fun _ => rfl, fun i h => .inl (absurd h (Nat.not_lt_zero i))⟩, trivial⟩⟩⟩⟩⟩⟩, trivial⟩⟩, ?_⟩
          rintro s0 m0 ⟨k, hk, rfl, hmeas⟩
          by_cases hlt : k < L.length
          · have hr := hb.rg k hlt
            have hq := qAt_in hb X hlt
            have hh := hAt_in hb X hlt
            have h36a := S36 (X.getD (k : Int).toNat 0) ((L.getD (k : Int).toNat (0, 0)).2 - (L.getD (k : Int).toNat (0, 0)).1 + 1) (by show 0 < (L.getD k (0, 0)).2 - (L.getD k (0, 0)).1 + 1 ∧ (L.getD k (0, 0)).2 - (L.getD k (0, 0)).1 + 1 ≤ 1000000; omega)
            have h36b := S36 (X.getD ((L.length : Int) + k).toNat 0) ((L.getD (k : Int).toNat (0, 0)).2 - qAt L X k + 1) (by show 0 < (L.getD k (0, 0)).2 - qAt L X k + 1 ∧ (L.getD k (0, 0)).2 - qAt L X k + 1 ≤ 1000000; omega)
            have hr' : -1000 ≤ (L.getD (k : Int).toNat (0, 0)).1 ∧ (L.getD (k : Int).toNat (0, 0)).1 ≤ (L.getD (k : Int).toNat (0, 0)).2 ∧ (L.getD (k : Int).toNat (0, 0)).2 ≤ 1000 := hr
            have hq' : (L.getD (k : Int).toNat (0, 0)).1 ≤ (L.getD (k : Int).toNat (0, 0)).1 + X.getD (k : Int).toNat 0 % ((L.getD (k : Int).toNat (0, 0)).2 - (L.getD (k : Int).toNat (0, 0)).1 + 1) ∧ (L.getD (k : Int).toNat (0, 0)).1 + X.getD (k : Int).toNat 0 % ((L.getD (k : Int).toNat (0, 0)).2 - (L.getD (k : Int).toNat (0, 0)).1 + 1) ≤ (L.getD (k : Int).toNat (0, 0)).2 := hq
            have hh' : (L.getD (k : Int).toNat (0, 0)).1 + X.getD (k : Int).toNat 0 % ((L.getD (k : Int).toNat (0, 0)).2 - (L.getD (k : Int).toNat (0, 0)).1 + 1) ≤ (L.getD (k : Int).toNat (0, 0)).1 + X.getD (k : Int).toNat 0 % ((L.getD (k : Int).toNat (0, 0)).2 - (L.getD (k : Int).toNat (0, 0)).1 + 1) + X.getD ((L.length : Int) + k).toNat 0 % ((L.getD (k : Int).toNat (0, 0)).2 - qAt L X k + 1) ∧ (L.getD (k : Int).toNat (0, 0)).1 + X.getD (k : Int).toNat 0 % ((L.getD (k : Int).toNat (0, 0)).2 - (L.getD (k : Int).toNat (0, 0)).1 + 1) + X.getD ((L.length : Int) + k).toNat 0 % ((L.getD (k : Int).toNat (0, 0)).2 - qAt L X k + 1) ≤ (L.getD (k : Int).toNat (0, 0)).2 := hh
            conv => whnf
            conv => whnf
            refine ifB_dec (fun w3 => ?_) (fun w3 => ?_)
            · conv => whnf
              conv => whnf
              refine ⟨⟨(by omega), (by omega)⟩, ?_⟩
              conv => whnf
              conv => whnf
              refine ⟨[], by kernel_rfl, ?_⟩
              conv => whnf
              conv => whnf
              refine ⟨⟨(by omega), (by omega)⟩, ?_⟩
              conv => whnf
              conv => whnf
              refine ⟨inK64 (by omega) (by omega), ?_⟩
              conv => whnf
              conv => whnf
              refine ⟨inK64 (by omega) (by omega), ?_⟩
              conv => whnf
              conv => whnf
              refine .inl ⟨_, _, byX rfl (Sound1.pl (h36a) rfl), ?_⟩
              conv => whnf
              conv => whnf
              refine ⟨inK64 (by omega) (by omega), ?_⟩
              conv => whnf
              conv => whnf
              refine .inl ?_
              conv => whnf
              conv => whnf
              refine ⟨(by show _ * (8 + 1) ≤ _; omega), ?_⟩
              conv => whnf
              conv => whnf
              refine .inl ?_
              conv => whnf
              conv => whnf
              refine ⟨(by show _ * (16 + 1) ≤ _; omega), ?_⟩
              conv => whnf
              conv => whnf
              refine ⟨[], by kernel_rfl, ?_⟩
              conv => whnf
              conv => whnf
              refine ⟨inK64 (by omega) (by omega), ?_⟩
              conv => whnf
              conv => whnf
              refine ⟨⟨(by omega), (by omega)⟩, ?_⟩
              conv => whnf
              conv => whnf
              refine ⟨inK64 (by omega) (by omega), ?_⟩
              conv => whnf
              conv => whnf
              refine ⟨inK64 (by omega) (by omega), ?_⟩
              conv => whnf
              conv => whnf
              refine .inl ⟨_, _, byX rfl (Sound1.pl (h36b) rfl), ?_⟩
              conv => whnf
              conv => whnf
              refine ⟨inK64 (by omega) (by omega), ?_⟩
              conv => whnf
              conv => whnf
              refine .inl ?_
              conv => whnf
              conv => whnf
              refine ⟨(by show _ * (16 + 1) ≤ _; omega), ?_⟩
              conv => whnf
              conv => whnf
              refine ⟨inK64 (by omega) (by omega), ?_⟩
              conv => whnf
              conv => whnf
              refine ⟨_, _, ⟨⟨k + 1, by omega, rfl, rfl⟩, by omega⟩, ⟨⟨.inl rfl, rfl, rfl, rfl⟩, ⟨⟨rfl, rfl, rfl, rfl, fun _ => rfl, fun _ _ => .inl rfl⟩, ⟨⟨rfl, rfl, rfl, rfl, nofun, fun _ _ => .inl rfl⟩, ⟨⟨rfl, rfl, rfl, rfl, nofun, fun _ _ => .inl rfl⟩, ⟨⟨rfl, rfl, rfl, rfl, fun _ => rfl, fun i hi => .inl (range_row (f := qAt L X) k i _ rfl hi)⟩, ⟨⟨rfl, rfl, rfl, rfl, fun _ => rfl, fun i hi => .inl (rg_row (f := fun i => (qAt L X i, qAt L X i)) k i _ rfl hi)⟩, ⟨⟨rfl, rfl, rfl, rfl, fun _ => rfl, fun i hi => .inl (rg_row (f := fun i => (qAt L X i, hAt L X i)) k i _ rfl hi)⟩, trivial⟩⟩⟩⟩⟩⟩, trivial⟩⟩
            · (exfalso; omega)
          · have e : k = L.length := by omega
            subst e
            have hlp : (pL L X L.length).length = L.length := by simp [pL]
            have hlq : (ptL L X L.length).length = L.length := by simp [ptL]
            have hli : (inL L X L.length).length = L.length := by simp [inL]
            have hpo : PolyOk (pL L X L.length) := poly_in hb hlp fun i hi => by unfold pL; rw [getD_mapR _ _ _ _ hi]; exact qAt_in hb X hi
            have hpe : polyE (pL L X L.length) = 0 := poly_ok hpo
            have h37 := S37 (pL L X L.length) (by omega)
            have h30p := S30 (ptL L X L.length) (by omega)
            have h30i := S30 (inL L X L.length) (by omega)
            rw [hpe, if_pos rfl, ints_k hlp] at h37
            rw [if_pos (box_of (pt_ok hb X)), box_of (pt_ok hb X), w_pt, boxA, rgs_n hlq] at h30p
            rw [if_pos (box_of (in_ok hb X)), box_of (in_ok hb X), boxA, rgs_n hli] at h30i
            have f1 := w_all hb X
            have f2 := w_in hb X
            have f3 := w_of_in hb X
            generalize robB L = r1 at f1 f2
            conv => whnf
            conv => whnf
            refine ifB_dec (fun w3 => ?_) (fun w3 => ?_)
            · (exfalso; omega)
            · conv => whnf
              conv => whnf
              refine .inl ⟨_, _, byX rfl (Sound1.pl (h37) rfl), ?_⟩
              conv => whnf
              conv => whnf
              refine .inl ⟨_, _, byX rfl (Sound1.pl (h30p) rfl), ?_⟩
              conv => whnf
              conv => whnf
              refine .inl ⟨_, _, byX rfl (Sound1.pl (h30i) rfl), ?_⟩
              conv => whnf
              conv => whnf
              refine ifB_beqB (fun w4 => ?_) (fun w4 => ?_)
              · conv => whnf
                conv => whnf
                refine ifB_not ?_
                conv => whnf
                conv => whnf
                refine ifB_intro (fun w5 => ?_) (fun w5 => ?_)
                · conv => whnf
                  conv => whnf
                  refine ifB_intro (fun w6 => ?_) (fun w6 => ?_)
                  · conv => whnf
                    conv => whnf
                    refine ifB_intro (fun w7 => ?_) (fun w7 => ?_)
                    · conv => whnf
                      conv => whnf
                      refine ifB_not ?_
                      conv => whnf
                      conv => whnf
                      refine ifB_intro (fun w8 => ?_) (fun w8 => ?_)
                      · conv => whnf
                        conv => whnf
                        refine ⟨?_, nofun⟩
                        (first | rfl | exact endb (by cases e2 : robB (inL L X L.length) <;> cases e3 : stabB (pL L X L.length) <;> simp_all))
                      · exact absurd (w7.symm.trans w8) nofun
                    · conv => whnf
                      conv => whnf
                      refine ⟨?_, nofun⟩
                      (first | rfl | exact endb (by cases e2 : robB (inL L X L.length) <;> cases e3 : stabB (pL L X L.length) <;> simp_all))
                  · conv => whnf
                    conv => whnf
                    refine ⟨?_, nofun⟩
                    (first | rfl | exact endb (by cases e2 : robB (inL L X L.length) <;> cases e3 : stabB (pL L X L.length) <;> simp_all))
                · conv => whnf
                  conv => whnf
                  refine ifB_not ?_
                  conv => whnf
                  conv => whnf
                  refine ifB_intro (fun w6 => ?_) (fun w6 => ?_)
                  · conv => whnf
                    conv => whnf
                    refine ⟨?_, nofun⟩
                    (first | rfl | exact endb (by cases e2 : robB (inL L X L.length) <;> cases e3 : stabB (pL L X L.length) <;> simp_all))
                  · conv => whnf
                    conv => whnf
                    refine ⟨?_, nofun⟩
                    (first | rfl | exact endb (by cases e2 : robB (inL L X L.length) <;> cases e3 : stabB (pL L X L.length) <;> simp_all))
              · exact absurd rfl w4
    · refine sound (d := 2) tok2 mixed2 Tryz.func5 (by kernel_rfl) (by kernel_rfl) ?_
      conv => whnf
      refine .inl ⟨_, _, byX rfl (Sound1.pl (S16) rfl), ?_⟩
      conv => whnf
      refine .inl ⟨_, _, byX rfl (Sound1.pl (h35) rfl), ?_⟩
      conv => whnf
      refine ⟨inK64 (by omega) (by omega), ?_⟩
      conv => whnf
      refine ifB_dec (fun w1 => ?_) (fun w1 => ?_)
      · conv => whnf
        refine ⟨?_, nofun⟩
        (rfl)
      · conv => whnf
        refine ifB_dec (fun w2 => ?_) (fun w2 => ?_)
        · conv => whnf
          refine ⟨?_, nofun⟩
          (rfl)
        · (exfalso; omega)
  · refine sound (d := 2) tok2 mixed2 Tryz.func5 (by kernel_rfl) (by kernel_rfl) ?_
    conv => whnf
    refine .inl ⟨_, _, byX rfl (Sound1.pl (S16) rfl), ?_⟩
    conv => whnf
    refine .inl ⟨_, _, byX rfl (Sound1.pl (h35) rfl), ?_⟩
    conv => whnf
    refine ifB_bne (fun w1 => ?_) (fun w1 => ?_)
    · conv => whnf
      refine ⟨?_, nofun⟩
      rfl
    · (exfalso; omega)
end Go.Tr

/- The opening of a law: what an argument reads as, as abstract values, with its shape. Conditions: types of numbers, truth values, strings, slices, structs and arrays. -/
namespace Go.Tr
open Go Go.RowKit

def V2 (P : Program) (w : World) (q : Nat → Prop) : List AV → List Value → Prop
  | [], [] => True
  | x :: xs, v :: vs => (VT P w q x v ∧ v.oneCell' = true) ∧ V2 P w q xs vs
  | _, _ => False

def All2 {α β : Type} (p : α → β → Prop) : List α → List β → Prop
  | [], [] => True
  | x :: xs, y :: ys => p x y ∧ All2 p xs ys
  | _, _ => False

/-- The shape of what a type's cells read as. -/
def TyC (P : Program) : Nat → TypeId → List AV → Prop
  | 0, _, _ => True
  | m + 1, t, xs => match P.underlying t with
    | some .bool => ∃ b, xs = [.val (.bool b)]
    | some (.int k) => ∃ n, xs = [.val (.int k n)] ∧ inK k n
    | some .string => ∃ s : ByteArray, xs = [.val (.string s)] ∧ s.size ≤ 9223372036854775807
    | some (.slice e) => ∃ len f, xs = [.rslice (P.cellsOf e) len f] ∧ len ≤ 9223372036854775807 ∧ ∀ i, i < len → TyC P m e (f i)
    | some (.struct fs) => ∃ ps : List (List AV), xs = ps.flatten ∧ All2 (fun f p => TyC P m f.type p) fs.toList ps
    | some (.array n e) => ∃ ps : List (List AV), xs = ps.flatten ∧ ps.length = n ∧ ∀ p ∈ ps, TyC P m e p
    | _ => False

def layF (P : Program) (g : TypeId → Bool) : List Field → Nat → Nat → Bool
  | [], off, tot => Nat.beq off tot
  | f :: r, off, tot => Nat.beq f.offset off && g f.type && layF P g r (off + P.cellsOf f.type) tot

/-- Types that are covered, laid out part behind part. -/
def lay (P : Program) : Nat → TypeId → Bool
  | 0, _ => false
  | m + 1, t => match P.underlying t with
    | some .bool | some (.int _) | some .string => true
    | some (.slice e) => Nat.blt 0 (P.cellsOf e) && lay P m e
    | some (.struct fs) => layF P (lay P m) fs.toList 0 (P.cellsOf t)
    | some (.array n e) => Nat.beq (P.cellsOf t) (n * P.cellsOf e) && lay P m e
    | _ => false

section
variable {H : Type} {enc : TypeId × Value → H} {P : Program} {w : World} {spare : Nat → Bool} {held : Bool} {q : Nat → Prop}

theorem V2_len : ∀ {xs : List AV} {vs : List Value}, V2 P w q xs vs → xs.length = vs.length
  | [], [], _ => rfl
  | x :: xs, v :: vs, h => by simp [V2_len h.2]
  | [], _ :: _, h => h.elim
  | _ :: _, [], h => h.elim

theorem V2_append : ∀ {xs : List AV} {vs : List Value} {ys : List AV} {us : List Value}, V2 P w q xs vs → V2 P w q ys us → V2 P w q (xs ++ ys) (vs ++ us)
  | [], [], _, _, _, h => h
  | _ :: _, _ :: _, _, _, h, h' => ⟨h.1, V2_append h.2 h'⟩
  | [], _ :: _, _, _, h, _ => h.elim
  | _ :: _, [], _, _, h, _ => h.elim

theorem V2_get : ∀ {xs : List AV} {vs : List Value}, V2 P w q xs vs → ∀ (i : Nat) x, xs[i]? = some x → VT P w q x (vs.getD i undef) ∧ (vs.getD i undef).oneCell' = true
  | [], [], _, i, x, hx => by simp at hx
  | y :: ys, v :: vs, h, 0, x, hx => by
    simp at hx
    subst hx
    simpa using h.1
  | y :: ys, v :: vs, h, i + 1, x, hx => by
    have := V2_get h.2 i x (by simpa using hx)
    simpa using this
  | [], _ :: _, h, _, _, _ => h.elim
  | _ :: _, [], h, _, _, _ => h.elim

theorem mapM_cons_some {α β : Type} {f : α → Option β} {a : α} {l : List α} {r : List β} (h : (a :: l).mapM f = some r) : ∃ b bs, f a = some b ∧ l.mapM f = some bs ∧ r = b :: bs := by
  rw [List.mapM_cons] at h
  cases ha : f a with
  | none => simp [ha] at h
  | some b =>
    cases hl : l.mapM f with
    | none => simp [ha, hl] at h
    | some bs => simp [ha, hl] at h; exact ⟨b, bs, rfl, rfl, h.symm⟩

theorem mapM_get {α β : Type} {f : α → Option β} : ∀ {l : List α} {r : List β}, l.mapM f = some r → r.length = l.length ∧ ∀ (i : Nat) x, l[i]? = some x → ∃ y, f x = some y ∧ r[i]? = some y
  | [], r, h => by simp at h; subst h; exact ⟨rfl, fun i x hx => by simp at hx⟩
  | a :: l, r, h => by
    obtain ⟨b, bs, h1, h2, rfl⟩ := mapM_cons_some h
    obtain ⟨g1, g2⟩ := mapM_get h2
    refine ⟨by simp [g1], fun i x hx => ?_⟩
    cases i with
    | zero => simp at hx; subst hx; exact ⟨b, h1, rfl⟩
    | succ i => simpa using g2 i x (by simpa using hx)

theorem cells_some {a : Addr} {n : Nat} {cs : List Value} (h : w.cells? 0 a n = some cs) : cs.length = n ∧ ∀ j, j < n → w.cell? (a.add j) = some (cs.getD j undef) := by
  unfold World.cells? at h
  rw [if_pos (Nat.zero_le _)] at h
  obtain ⟨h1, h2⟩ := mapM_get h
  refine ⟨by simpa using h1, fun j hj => ?_⟩
  obtain ⟨y, h3, h4⟩ := h2 j j (by simp [hj])
  rw [h3, List.getD_eq_getElem?_getD, h4]
  rfl

theorem cell_spot {a : Addr} {v : Value} (h : w.cell? a = some v) : a.spot = none ∧ a.block < w.heap.size := by
  unfold World.cell? at h
  split at h
  · rename_i c t fr hb
    refine ⟨?_, ?_⟩
    · cases hs : a.spot with
      | none => rfl
      | some s => simp [hs] at h
    · exact (Array.getElem?_eq_some_iff.1 hb).1
  · cases h

theorem addr_add2 (blk off u j : Nat) : ((⟨blk, off, none⟩ : Addr).add u).add j = ⟨blk, off + (u + j), none⟩ := by
  unfold Addr.add
  by_cases h1 : u = 0
  · subst h1
    by_cases h2 : j = 0
    · subst h2; rfl
    · simp [h2]
  · by_cases h2 : j = 0
    · subst h2; simp [h1]
    · simp [h1, h2, Nat.add_assoc]

theorem fields_av {g : TypeId → List Value → Option (DataW H × List MemPlace)} {T : TypeId → List AV → Prop} {ly : TypeId → Bool}
    (ih : ∀ t, ly t = true → ∀ cs x, g t cs = some x → ∃ xs, V2 P w q xs cs ∧ T t xs) (cs : List Value) : ∀ (fs : List Field) (off : Nat) (r : List (DataW H × List MemPlace)), layF P ly fs off cs.length = true →
    (fs.mapM fun f => g f.type ((cs.drop f.offset).take (P.cellsOf f.type))) = some r → ∃ ps : List (List AV), V2 P w q ps.flatten (cs.drop off) ∧ All2 (fun f p => T f.type p) fs ps
  | [], off, r, hl, h => by
    have := Nat.eq_of_beq_eq_true hl
    subst this
    exact ⟨[], by simp [V2], trivial⟩
  | f :: fs, off, r, hl, h => by
    simp only [layF, Bool.and_eq_true] at hl
    obtain ⟨⟨h1, h2⟩, h3⟩ := hl
    have e := Nat.eq_of_beq_eq_true h1
    obtain ⟨b, bs, g1, g2, rfl⟩ := mapM_cons_some h
    obtain ⟨p, p1, p2⟩ := ih _ h2 _ _ g1
    obtain ⟨ps, r1, r2⟩ := fields_av ih cs fs _ _ h3 g2
    refine ⟨p :: ps, ?_, p2, r2⟩
    rw [List.flatten_cons]
    have : cs.drop off = (cs.drop f.offset).take (P.cellsOf f.type) ++ cs.drop (off + P.cellsOf f.type) := by
      rw [e, ← List.drop_drop]
      exact (List.take_append_drop _ _).symm
    rw [this]
    exact V2_append p1 r1

theorem items_av {g : List Value → Option (DataW H × List MemPlace)} {T : List AV → Prop} (ih : ∀ cs x, g cs = some x → ∃ xs, V2 P w q xs cs ∧ T xs) (cs : List Value) (s n : Nat) (hn : cs.length = n * s)
    (h : ∀ i, i < n → ∃ x, g ((cs.drop (i * s)).take s) = some x) : ∀ (k i : Nat), i + k = n → ∃ ps : List (List AV), V2 P w q ps.flatten (cs.drop (i * s)) ∧ ps.length = k ∧ ∀ p ∈ ps, T p
  | 0, i, hi => by
    have : i = n := by omega
    subst this
    refine ⟨[], ?_, rfl, nofun⟩
    rw [List.drop_eq_nil_of_le (by omega)]
    exact trivial
  | k + 1, i, hi => by
    obtain ⟨x, hx⟩ := h i (by omega)
    obtain ⟨p, p1, p2⟩ := ih _ _ hx
    obtain ⟨ps, r1, r2, r3⟩ := items_av ih cs s n hn h k (i + 1) (by omega)
    refine ⟨p :: ps, ?_, by simp [r2], fun y hy => ?_⟩
    · rw [List.flatten_cons]
      have : cs.drop (i * s) = (cs.drop (i * s)).take s ++ cs.drop ((i + 1) * s) := by
        rw [Nat.succ_mul, ← List.drop_drop]
        exact (List.take_append_drop _ _).symm
      rw [this]
      exact V2_append p1 r1
    · rcases List.mem_cons.1 hy with rfl | hy
      · exact p2
      · exact r3 y hy

theorem trod_av (hq : ∀ b, b < w.heap.size → q b) : ∀ (m : Nat) (t : TypeId), lay P m t = true → ∀ (fuel : Nat) (cs : List Value) (x : DataW H × List MemPlace), DataW.trod enc P w 0 spare held fuel t cs = some x → ∃ xs, V2 P w q xs cs ∧ TyC P m t xs
  | 0, t, hl, _, _, _, _ => by simp [lay] at hl
  | m + 1, t, hl, 0, cs, x, h => by simp [DataW.trod] at h
  | m + 1, t, hl, fuel + 1, cs, x, h => by
    unfold lay at hl
    unfold TyC
    unfold DataW.trod at h
    cases hu : P.underlying t with
    | none => simp [hu] at hl
    | some d =>
      simp only [hu] at hl h ⊢
      cases d with
      | bool =>
        split at h <;> first | (cases h; done) | (rename_i e; cases e; done) | skip
        cases h
        exact ⟨[.val (.bool _)], ⟨⟨.val _, rfl⟩, trivial⟩, _, rfl⟩
      | int k =>
        split at h <;> first | (cases h; done) | (rename_i e; cases e; done) | skip
        rename_i e
        cases e
        split at h
        · rename_i hk
          obtain ⟨rfl, hw⟩ := hk
          simp only [Lit.wf, Bool.and_eq_true, decide_eq_true_eq] at hw
          exact ⟨[.val (.int _ _)], ⟨⟨.val _, rfl⟩, trivial⟩, _, rfl, hw⟩
        · cases h
      | string =>
        split at h <;> first | (cases h; done) | (rename_i e; cases e; done) | skip
        split at h
        · rename_i hs
          exact ⟨[.val (.string _)], ⟨⟨.val _, rfl⟩, trivial⟩, _, rfl, hs⟩
        · cases h
      | slice e =>
        simp only [Bool.and_eq_true] at hl
        split at h <;> first | (cases h; done) | (rename_i e; cases e; done) | skip
        · exact ⟨[.rslice (P.cellsOf e) 0 fun _ => []], ⟨⟨.rslice0 _ _ _ _, rfl⟩, trivial⟩, _, _, rfl, by omega, fun i hi => absurd hi (Nat.not_lt_zero i)⟩
        · rename_i e0 a len cap e1
          cases e1
          split at h
          case isFalse => cases h
          rename_i hb
          have hes : 0 < P.cellsOf e := Nat.le_of_ble_eq_true hl.1
          cases hM : (List.range len).mapM fun i => (w.cells? 0 (a.add (i * P.cellsOf e)) (P.cellsOf e)).bind (DataW.trod enc P w 0 spare held fuel e) with
          | none => rw [hM] at h; cases h
          | some elems =>
            obtain ⟨_, g2⟩ := mapM_get hM
            have hx : ∀ i, ∃ xs : List AV, i < len → ∃ cs, (cs.length = P.cellsOf e ∧ ∀ j, j < P.cellsOf e → w.cell? ((a.add (i * P.cellsOf e)).add j) = some (cs.getD j undef)) ∧ V2 P w q xs cs ∧ TyC P m e xs := fun i => by
              by_cases hi : i < len
              · obtain ⟨y, y1, _⟩ := g2 i i (by simp [hi])
                cases hc : w.cells? 0 (a.add (i * P.cellsOf e)) (P.cellsOf e) with
                | none => rw [hc] at y1; cases y1
                | some cs1 =>
                  rw [hc] at y1
                  obtain ⟨xs, x1, x2⟩ := trod_av hq m e hl.2 _ _ _ y1
                  exact ⟨xs, fun _ => ⟨cs1, cells_some hc, x1, x2⟩⟩
              · exact ⟨[], fun h => absurd h hi⟩
            have hf := fun i => (Classical.choose_spec (hx i))
            generalize hF : (fun i => Classical.choose (hx i)) = F
            have hf : ∀ i, i < len → ∃ cs, (cs.length = P.cellsOf e ∧ ∀ j, j < P.cellsOf e → w.cell? ((a.add (i * P.cellsOf e)).add j) = some (cs.getD j undef)) ∧ V2 P w q (F i) cs ∧ TyC P m e (F i) := fun i hi => by
              have := Classical.choose_spec (hx i) hi
              rw [← hF]
              exact this
            refine ⟨[.rslice (P.cellsOf e) len F], ⟨⟨?_, rfl⟩, trivial⟩, len, F, rfl, ?_, fun i hi => ?_⟩
            · rcases Nat.eq_zero_or_pos len with rfl | hp
              · exact .rslice0 _ _ _ _
              · obtain ⟨cs0, c1, _, _⟩ := hf 0 hp
                have hc0 := c1.2 0 hes
                have e0 : ((a.add (0 * P.cellsOf e)).add 0) = a := by simp [Addr.add]
                rw [e0] at hc0
                obtain ⟨s1, s2⟩ := cell_spot hc0
                obtain ⟨blk, off, spot⟩ := a
                simp only at s1 s2
                subst s1
                have hG : ∀ i, ∃ cs : List Value, i < len → (cs.length = P.cellsOf e ∧ ∀ j, j < P.cellsOf e → w.cell? (((⟨blk, off, none⟩ : Addr).add (i * P.cellsOf e)).add j) = some (cs.getD j undef)) ∧ V2 P w q (F i) cs := fun i => by
                  by_cases hi : i < len
                  · obtain ⟨cs, c1, c2, _⟩ := hf i hi
                    exact ⟨cs, fun _ => ⟨c1, c2⟩⟩
                  · exact ⟨[], fun h => absurd h hi⟩
                refine .rslice _ _ _ blk off cap (fun i j => (Classical.choose (hG i)).getD j undef) hb.2.1 (hq _ s2) (fun i hi => ?_) (fun i j hi hj => ?_) (fun i j x hi hx => ?_)
                · obtain ⟨c1, c2⟩ := Classical.choose_spec (hG i) hi
                  rw [V2_len c2, c1.1]
                · obtain ⟨c1, c2⟩ := Classical.choose_spec (hG i) hi
                  have hc := c1.2 j hj
                  have ea : ((⟨blk, off, none⟩ : Addr).add (i * P.cellsOf e)).add j = ⟨blk, off + (i * P.cellsOf e + j), none⟩ := by
                    exact addr_add2 blk off _ j
                  rw [ea] at hc
                  refine ⟨hc, ?_⟩
                  have hlt : j < (F i).length := by rw [V2_len c2, c1.1]; exact hj
                  exact (V2_get c2 j _ (List.getElem?_eq_getElem hlt)).2
                · obtain ⟨c1, c2⟩ := Classical.choose_spec (hG i) hi
                  exact (V2_get c2 j x hx).1
            · have := hb.2.2
              unfold maxLen at this
              omega
            · obtain ⟨_, _, _, h3⟩ := hf i hi
              exact h3
      | struct fs =>
        replace h : (if cs.length = P.cellsOf t then (fs.toList.mapM fun f => DataW.trod enc P w 0 spare held fuel f.type ((cs.drop f.offset).take (P.cellsOf f.type))).map fun xs => (.agg (xs.map (·.1)), xs.flatMap (·.2)) else none) = some x := h
        split at h
        case isFalse => cases h
        rename_i hc
        cases hM : fs.toList.mapM fun f => DataW.trod enc P w 0 spare held fuel f.type ((cs.drop f.offset).take (P.cellsOf f.type)) with
        | none => rw [hM] at h; cases h
        | some r =>
          obtain ⟨ps, p1, p2⟩ := fields_av (T := TyC P m) (ly := lay P m) (fun t ht cs x hx => trod_av hq m t ht fuel cs x hx) cs fs.toList 0 r (by rw [hc]; exact hl) hM
          exact ⟨ps.flatten, by simpa using p1, ps, rfl, p2⟩
      | array n e =>
        simp only [Bool.and_eq_true] at hl
        replace h : (if cs.length = P.cellsOf t then ((List.range n).mapM fun i => DataW.trod enc P w 0 spare held fuel e ((cs.drop (i * P.cellsOf e)).take (P.cellsOf e))).map fun xs => (.agg (xs.map (·.1)), xs.flatMap (·.2)) else none) = some x := h
        split at h
        case isFalse => cases h
        rename_i hc
        cases hM : (List.range n).mapM fun i => DataW.trod enc P w 0 spare held fuel e ((cs.drop (i * P.cellsOf e)).take (P.cellsOf e)) with
        | none => rw [hM] at h; cases h
        | some r =>
          obtain ⟨_, g2⟩ := mapM_get hM
          obtain ⟨ps, p1, p2, p3⟩ := items_av (T := TyC P m e) (fun cs x hx => trod_av hq m e hl.2 fuel cs x hx) cs (P.cellsOf e) n (by rw [hc]; exact Nat.eq_of_beq_eq_true hl.1)
            (fun i hi => by obtain ⟨y, y1, _⟩ := g2 i i (by simp [hi]); exact ⟨y, y1⟩) n 0 (by omega)
          exact ⟨ps.flatten, by simpa using p1, ps, rfl, p2, p3⟩
      | _ => simp at hl

/-- The shape of an argument. -/
def TyA (P : Program) (m : Nat) (t : TypeId) (x : AV) : Prop :=
  match P.underlying t with
  | some (.struct _) | some (.array _ _) => ∃ xs, x = .agg xs ∧ TyC P m t xs
  | _ => TyC P m t [x]

/-- An argument of a law, as an abstract value. -/
theorem open_av {r : Reach} {b0 : Nat} {t : TypeId} {v : Value} {d : DataW H} {ps : List MemPlace} {m : Nat} (hl : lay P m t = true) (hq : ∀ b, b < w.heap.size → q b)
    (hv : Value.okWide P w r b0 t v) (hd : DataW.Trod enc P w 0 spare held t v d ps) : ∃ x, VT P w q x v ∧ TyA P m t x := by
  obtain ⟨fuel, hf⟩ := hd
  obtain ⟨xs, h1, h2⟩ := trod_av hq m t hl fuel _ _ hf
  have agg : ∀ cs, v = .agg cs → VT P w q (.agg xs) v := by
    rintro cs rfl
    have hlen := V2_len h1
    refine .agg xs cs (by rw [hlen]; simp [Value.cells]) (fun u hu => ?_) (fun i x hx => ?_)
    · obtain ⟨i, hi, rfl⟩ := List.getElem_of_mem hu
      have hx : i < xs.length := by rw [hlen]; simpa [Value.cells] using hi
      have := (V2_get h1 i _ (List.getElem?_eq_getElem hx)).2
      have hi' : i < cs.size := by simpa using hi
      simpa [Value.cells, List.getD_eq_getElem?_getD, hi'] using this
    · have := (V2_get h1 i x hx).1
      simpa [Value.cells, List.getD_eq_getElem?_getD, Array.getD_eq_getD_getElem?] using this
  have one : ∀ u, v.cells.toList = [u] → v = u → ∃ x, VT P w q x v ∧ TyC P m t [x] := by
    rintro u e rfl
    rw [e] at h1
    match xs, h1, h2 with
    | [x], h1, h2 => exact ⟨x, h1.1.1, h2⟩
  unfold TyA
  unfold Value.okWide at hv
  split
  · rename_i fs hu
    simp only [hu] at hv
    obtain ⟨cs, e, _, _⟩ := hv
    exact ⟨_, agg cs e, xs, rfl, h2⟩
  · rename_i n e hu
    simp only [hu] at hv
    obtain ⟨cs, e, _, _⟩ := hv
    exact ⟨_, agg cs e, xs, rfl, h2⟩
  · rename_i n1 n2
    have hc : Cell.okWide P w r b0 t v := by
      split at hv
      · rename_i hu; exact absurd hu (n1 _)
      · rename_i hu; exact absurd hu (n2 _ _)
      · exact hv
    cases v with
    | agg cs =>
      simp only [Cell.okWide] at hc
      split at hc <;> first | (rename_i e _; cases e; done) | (rename_i e; cases e; done) | (simp [Cell.ok] at hc)
    | tuple cs =>
      simp only [Cell.okWide] at hc
      split at hc <;> first | (rename_i e _; cases e; done) | (rename_i e; cases e; done) | (simp [Cell.ok] at hc)
    | _ => exact one _ rfl rfl
end
end Go.Tr

/- Contracts of chapter 2: the drop for a flow. Conditions: none. -/
import Derived.Test.YtkomdfgffgkphaaGreatTr05
import Derived.Test.YtkomdfgffgkphaaGreatTr08

namespace Go.Tr
open Go Go.Proofs
set_option maxRecDepth 20000
set_option maxHeartbeats 8000000

theorem S45 (l : List Int) (hl : l.length ≤ 1000) (hr : ∀ r ∈ l, 0 ≤ r ∧ r ≤ 1000000) (fl d : Int) : SP 45 [i64 d, .rptr [ints l], .rptr [i64 fl]] (vb (decide (hiS d l ≥ fl))) false := by
  have h82 := S46 l hl hr d
  refine sound (d := 2) tok2 mixed2 Tryz.func45 (by kernel_rfl) (by kernel_rfl) ?_
  conv => whnf
  refine ⟨[], by kernel_rfl, ?_⟩
  conv => whnf
  refine .inl ⟨_, _, byX rfl (Sound1.pl (h82) rfl), ?_⟩
  conv => whnf
  refine ⟨?_, nofun⟩
  (rfl)
theorem S47 (l : List Int) (hl : l.length ≤ 1000) (hr : ∀ r ∈ l, 0 ≤ r ∧ r ≤ 1000000) (fl d : Int) : SP 47 [i64 d, .rptr [ints l], .rptr [i64 fl]] (vb (decide (loS d l ≥ fl))) false := by
  have h82 := S46 l hl hr d
  refine sound (d := 2) tok2 mixed2 Tryz.func47 (by kernel_rfl) (by kernel_rfl) ?_
  conv => whnf
  refine ⟨[], by kernel_rfl, ?_⟩
  conv => whnf
  refine .inl ⟨_, _, byX rfl (Sound1.pl (h82) rfl), ?_⟩
  conv => whnf
  refine ⟨?_, nofun⟩
  (rfl)

def dropLo (l : List Int) (fl : Int) : Int := leastF (fun d => decide (hiS d l ≥ fl)) 30 0 1000000001
def dropHi (l : List Int) (fl : Int) : Int := leastF (fun d => decide (loS d l ≥ fl)) 30 (dropLo l fl) 1000000001
def fE (fl : Int) : Int := if 0 ≤ fl ∧ fl ≤ 10000 then 0 else 2
def dropE (l : List Int) (fl : Int) : Int := if rsE l = 0 then fE fl else rsE l
def dropF (l : List Int) (fl : Int) : (Int × Int) × Int :=
  if dropE l fl = 0 then (if dropHi l fl > 1000000000 then ((0, 0), 12) else ((dropLo l fl, dropHi l fl), 0)) else ((0, 0), dropE l fl)
theorem dropE_eq (l : List Int) (fl : Int) : firstOf [rsE l, fE fl] = dropE l fl := by
  rw [firstOf2]; unfold dropE; split
  · split <;> simp_all
  · rfl
theorem fE_eq (fl : Int) : (if decide (0 ≤ fl ∧ fl ≤ 10000) = true then (0 : Int) else 2) = fE fl := by unfold fE; simp only [decide_eq_true_eq]
theorem dropE_ok {l : List Int} {fl : Int} (h : dropE l fl = 0) : (0 < l.length ∧ l.length ≤ 8 ∧ ∀ r ∈ l, 1 ≤ r ∧ r ≤ 1000) ∧ 0 ≤ fl ∧ fl ≤ 10000 := by
  unfold dropE at h
  split at h
  · refine ⟨rsE_ok (by assumption), ?_⟩
    unfold fE at h
    split at h
    · assumption
    · cases h
  · contradiction

theorem dropLo_mem (l : List Int) (fl : Int) : 0 ≤ dropLo l fl ∧ dropLo l fl ≤ 1000000001 := leastF_mem _ 30 0 1000000001 (by omega)
theorem dropHi_mem (l : List Int) (fl : Int) : dropLo l fl ≤ dropHi l fl ∧ dropHi l fl ≤ 1000000001 := leastF_mem _ 30 _ 1000000001 (dropLo_mem l fl).2
theorem S22 (l : List Int) (hl : l.length ≤ 1000000000) (fl : Int) : SP 22 [ints l, i64 fl] (rngE (dropF l fl)) false := by
  generalize hR : dropF l fl = R
  unfold dropF at hR
  rw [← dropE_eq, ← fE_eq] at hR
  have h80 := S42 l hl
  have m1 := dropLo_mem l fl
  have m2 := dropHi_mem l fl
  by_cases hE : firstOf [rsE l, if decide (0 ≤ fl ∧ fl ≤ 10000) = true then 0 else 2] = 0
  · rw [if_pos hE] at hR
    have hk := dropE_ok ((dropE_eq l fl).symm.trans ((by rw [fE_eq] at hE; exact hE)))
    have hr : ∀ r ∈ l, 0 ≤ r ∧ r ≤ 1000000 := fun r hr => by have := hk.1.2.2 r hr; omega
    have c1 : SP 44 [i64 0, i64 1000000001, .func (.func 45) 0 [.rptr [ints l], .rptr [i64 fl]]] (i64 (dropLo l fl)) false :=
      S44 45 [ints l] [i64 fl] _ 0 1000000001 30 (by omega) (by omega) (by decide) fun x _ _ => S45 l (by omega) hr fl x
    have hn : (1000000001 - dropLo l fl).toNat < 2 ^ 30 := by
      have : (2 : Nat) ^ 30 = 1073741824 := by decide
      omega
    have c2 : SP 44 [i64 (dropLo l fl), i64 1000000001, .func (.func 47) 0 [.rptr [ints l], .rptr [i64 fl]]] (i64 (dropHi l fl)) false :=
      S44 47 [ints l] [i64 fl] _ (dropLo l fl) 1000000001 30 (by omega) (by omega) hn fun x _ _ => S47 l (by omega) hr fl x
    refine sound (d := 2) tok2 mixed2 Tryz.func22 (by kernel_rfl) (by kernel_rfl) ?_
    conv => whnf
    refine ⟨[], by kernel_rfl, ?_⟩
    conv => whnf
    refine .inl ⟨_, _, byX rfl (Sound1.pl (h80) rfl), ?_⟩
    conv => whnf
    refine .inl ⟨_, _, byX rfl (Sound1.pl (S43 _ _ _) rfl), ?_⟩
    conv => whnf
    refine .inl ⟨_, _, byX rfl (Sound1.pl (S33 _ _) rfl), ?_⟩
    conv => whnf
    refine .inl ⟨_, _, byX rfl (Sound1.pl (S31_2 _ _ _ ⟨rfl, rfl⟩) rfl), ?_⟩
    conv => whnf
    refine ifB_bne (fun w1 => ?_) (fun w1 => ?_)
    · (exfalso; omega)
    · conv => whnf
      refine .inl ⟨_, _, byX rfl (Sound1.pl (c1) rfl), ?_⟩
      conv => whnf
      refine .inl ⟨_, _, byX rfl (Sound1.pl (c2) rfl), ?_⟩
      conv => whnf
      refine ifB_dec (fun w2 => ?_) (fun w2 => ?_)
      · conv => whnf
        refine ⟨?_, nofun⟩
        rw [if_pos w2] at hR
        exact ave_rngE _ _ _ _ hR.symm
      · conv => whnf
        refine ⟨?_, nofun⟩
        rw [if_neg w2] at hR
        exact ave_rngE _ _ _ _ hR.symm
  · rw [if_neg hE] at hR
    refine sound (d := 2) tok2 mixed2 Tryz.func22 (by kernel_rfl) (by kernel_rfl) ?_
    conv => whnf
    refine ⟨[], by kernel_rfl, ?_⟩
    conv => whnf
    refine .inl ⟨_, _, byX rfl (Sound1.pl (h80) rfl), ?_⟩
    conv => whnf
    refine .inl ⟨_, _, byX rfl (Sound1.pl (S43 _ _ _) rfl), ?_⟩
    conv => whnf
    refine .inl ⟨_, _, byX rfl (Sound1.pl (S33 _ _) rfl), ?_⟩
    conv => whnf
    refine .inl ⟨_, _, byX rfl (Sound1.pl (S31_2 _ _ _ ⟨rfl, rfl⟩) rfl), ?_⟩
    conv => whnf
    refine ifB_bne (fun w1 => ?_) (fun w1 => ?_)
    · conv => whnf
      refine ⟨?_, nofun⟩
      exact ave_rngE _ _ _ _ hR.symm
    · (exfalso; omega)
end Go.Tr

/- Plain laws of chapter 2: flows of parallel conduits, drops. Conditions: none. -/
namespace Go.Tr
open Go Go.Proofs
set_option maxRecDepth 20000
set_option maxHeartbeats 8000000

theorem leastF_least (p : Int → Bool) (A B : Int) (hp : ∀ x y, A ≤ x → x ≤ y → y < B → p x = true → p y = true) : ∀ (n : Nat) (a b : Int), A ≤ a → a ≤ b → b ≤ B → (b - a).toNat < 2 ^ n →
    (∀ x, a ≤ x → x < leastF p n a b → p x = false) ∧ (leastF p n a b < b → p (leastF p n a b) = true)
  | 0, a, b, hA, hab, hB, hn => by
    have : b = a := by simp at hn; omega
    subst this
    exact ⟨fun x h1 h2 => by unfold leastF at h2; omega, fun h => by unfold leastF at h; omega⟩
  | n + 1, a, b, hA, hab, hB, hn => by
    unfold leastF
    by_cases h : a < b
    · rw [if_pos h]
      have hs : (b - a).toNat < 2 ^ n * 2 := by rw [← Nat.pow_succ]; exact hn
      generalize hm : a + (b - a) / 2 = m
      cases hpm : p m with
      | true =>
        rw [cond_true]
        obtain ⟨h1, h2⟩ := leastF_least p A B hp n a m hA (by omega) (by omega) (by omega)
        have h3 := leastF_mem p n a m (by omega)
        refine ⟨h1, fun _ => ?_⟩
        by_cases h4 : leastF p n a m < m
        · exact h2 h4
        · rw [show leastF p n a m = m by omega]; exact hpm
      | false =>
        rw [cond_false]
        obtain ⟨h1, h2⟩ := leastF_least p A B hp n (m + 1) b (by omega) (by omega) (by omega) (by omega)
        refine ⟨fun x h3 h4 => ?_, h2⟩
        by_cases h5 : m + 1 ≤ x
        · exact h1 x h5 h4
        · cases h6 : p x with
          | false => rfl
          | true => rw [hp x m (by omega) (by omega) (by omega) h6] at hpm; cases hpm
    · rw [if_neg h]
      exact ⟨fun x h1 h2 => by omega, fun h' => absurd h' h⟩

theorem sq_mono {r x y : Int} (hr : 0 ≤ r) (hx : 0 ≤ x) (h : x ≤ y) : r * x * x ≤ r * y * y :=
  Int.mul_le_mul (Int.mul_le_mul_of_nonneg_left h hr) h hx (Int.mul_nonneg hr (by omega))

theorem hiF_spec {r d : Int} (hr : 1 ≤ r) (hd : d ≤ 1000000001) : d ≤ r * hiF r d * hiF r d ∧ ∀ x, 0 ≤ x → x < hiF r d → r * x * x < d := by
  have hm := hiF_mem r d
  have hl := leastF_least (fun x => decide (r * x * x ≥ d)) 0 31623 (fun x y h1 h2 _ h => by
    have := sq_mono (r := r) (by omega) h1 h2
    simp only [decide_eq_true_eq] at h ⊢
    omega) 15 0 31623 (by omega) (by omega) (by omega) (by decide)
  change (∀ x, 0 ≤ x → x < hiF r d → _) ∧ (hiF r d < 31623 → decide (r * hiF r d * hiF r d ≥ d) = true) at hl
  refine ⟨?_, fun x h1 h2 => ?_⟩
  · by_cases h : hiF r d < 31623
    · exact of_decide_eq_true (hl.2 h)
    · rw [show hiF r d = 31623 by omega]; omega
  · have := of_decide_eq_false (hl.1 x h1 h2)
    omega

theorem loF_spec {r d : Int} (hr : 1 ≤ r) (h0 : 0 ≤ d) (hd : d ≤ 1000000001) : 0 ≤ loF r d ∧ loF r d ≤ hiF r d ∧ hiF r d ≤ loF r d + 1 ∧ r * loF r d * loF r d ≤ d ∧ d < r * (loF r d + 1) * (loF r d + 1) := by
  have hm := hiF_mem r d
  obtain ⟨s1, s2⟩ := hiF_spec hr hd
  unfold loF loOf
  generalize hiF r d = H at *
  split
  · rename_i h
    have h1 : H ≠ 0 := fun e => by subst e; simp at h; omega
    have := s2 (H - 1) (by omega) (by omega)
    refine ⟨by omega, by omega, by omega, by omega, ?_⟩
    rw [show H - 1 + 1 = H by omega]
    exact h
  · rename_i h
    refine ⟨by omega, by omega, by omega, by omega, ?_⟩
    have e : r * (H + 1) * (H + 1) = r * H * H + (r * H + r * H + r) := by
      simp only [Int.mul_add, Int.add_mul, Int.mul_one]
      omega
    have : 0 ≤ r * H := Int.mul_nonneg (by omega) hm.1
    omega

theorem hiF_mono {r d d' : Int} (hr : 1 ≤ r) (h : d ≤ d') (hd : d' ≤ 1000000001) : hiF r d ≤ hiF r d' := by
  have h1 := (hiF_spec (r := r) (d := d) hr (by omega)).2 (hiF r d')
  have h2 := (hiF_spec (r := r) (d := d') hr hd).1
  have h3 := hiF_mem r d'
  rcases Int.lt_or_le (hiF r d') (hiF r d) with h4 | h4
  · have := h1 h3.1 h4; omega
  · exact h4
theorem loF_mono {r d d' : Int} (hr : 1 ≤ r) (h0 : 0 ≤ d) (h : d ≤ d') (hd : d' ≤ 1000000001) : loF r d ≤ loF r d' := by
  obtain ⟨a1, a2, a3, a4, a5⟩ := loF_spec (r := r) (d := d) hr h0 (by omega)
  obtain ⟨b1, b2, b3, b4, b5⟩ := loF_spec (r := r) (d := d') hr (by omega) hd
  rcases Int.lt_or_le (loF r d') (loF r d) with h4 | h4
  · have := sq_mono (r := r) (x := loF r d' + 1) (y := loF r d) (by omega) (by omega) (by omega); omega
  · exact h4

theorem sums {l : List Int} (hr : ∀ r ∈ l, 1 ≤ r ∧ r ≤ 1000) {d : Int} (h0 : 0 ≤ d) (hd : d ≤ 1000000001) : 0 ≤ loS d l ∧ loS d l ≤ hiS d l ∧ hiS d l ≤ loS d l + l.length := by
  induction l with
  | nil => simp [loS, hiS]
  | cons r l ih =>
    have := loF_spec (hr r (by simp)).1 h0 hd
    have := ih fun x hx => hr x (by simp [hx])
    simp only [loS, hiS, List.length_cons]
    omega
theorem sums_mono {l : List Int} (hr : ∀ r ∈ l, 1 ≤ r ∧ r ≤ 1000) {d d' : Int} (h0 : 0 ≤ d) (h : d ≤ d') (hd : d' ≤ 1000000001) : loS d l ≤ loS d' l ∧ hiS d l ≤ hiS d' l := by
  induction l with
  | nil => simp [loS, hiS]
  | cons r l ih =>
    have h1 := loF_mono (hr r (by simp)).1 h0 h hd
    have h2 := hiF_mono (hr r (by simp)).1 h hd
    have := ih fun x hx => hr x (by simp [hx])
    simp only [loS, hiS]
    omega

/-- What a drop for a flow says. -/
theorem drop_spec {l : List Int} (hr : ∀ r ∈ l, 1 ≤ r ∧ r ≤ 1000) {fl : Int} (h : dropHi l fl ≤ 1000000000) : fl ≤ hiS (dropLo l fl) l ∧ fl ≤ loS (dropHi l fl) l := by
  have m1 := dropLo_mem l fl
  have m2 := dropHi_mem l fl
  have a := leastF_least (fun d => decide (hiS d l ≥ fl)) 0 1000000001 (fun x y h1 h2 h3 h => by
    have := sums_mono hr h1 h2 (by omega)
    simp only [decide_eq_true_eq] at h ⊢
    omega) 30 0 1000000001 (by omega) (by omega) (by omega) (by decide)
  have b := leastF_least (fun d => decide (loS d l ≥ fl)) 0 1000000001 (fun x y h1 h2 h3 h => by
    have := sums_mono hr h1 h2 (by omega)
    simp only [decide_eq_true_eq] at h ⊢
    omega) 30 (dropLo l fl) 1000000001 (by omega) (by omega) (by omega) (by
      have : (2 : Nat) ^ 30 = 1073741824 := by decide
      omega)
  exact ⟨of_decide_eq_true (a.2 (show dropLo l fl < _ by omega)), of_decide_eq_true (b.2 (show dropHi l fl < _ by omega))⟩

theorem sums_one {l : List Int} (hr : ∀ r ∈ l, 1 ≤ r ∧ r ≤ 1000) {d : Int} (h0 : 0 ≤ d) (hd : d ≤ 1000000001) (hl : 0 < l.length) : loS d [l.getD 0 0] ≤ loS d l ∧ hiS d [l.getD 0 0] ≤ hiS d l := by
  match l, hl with
  | r :: l, _ =>
    have := sums (l := l) (fun x hx => hr x (by simp [hx])) h0 hd
    simp only [loS, hiS, List.getD_cons_zero]
    omega
end Go.Tr

/- Plain: the gap of a net is a sum of losses at shifted flows, less a constant. Conditions: none. -/
namespace Go.Tr
open Go Go.Proofs
set_option maxRecDepth 20000
set_option maxHeartbeats 8000000

section
variable {n : Nat} {cs : List Cn}
/-- Where one comes out who climbs from a node until the branches of a list are behind. -/
def rootN (cs : List Cn) : List (Int × Int) → Nat → Nat
  | [], u => u
  | b :: r, u => if rootN cs r u = b.2.toNat then (otherN (cs.getD b.1.toNat cn0) b.2).toNat else rootN cs r u
theorem dl_step (u v o P : Nat) (h : u ≠ v) : dl u (if P = v then o else P) = dl u P + (if u = o then dl v P else 0) := by
  unfold dl
  by_cases h1 : P = v
  · rw [if_pos h1]
    by_cases h2 : u = o
    · rw [if_pos h2, if_pos h2, if_neg (by omega), if_pos h1.symm]; rfl
    · rw [if_neg h2, if_neg h2, if_neg (by omega)]; rfl
  · rw [if_neg h1]
    have h3 : (if v = P then (1 : Int) else 0) = 0 := if_neg (fun e => h1 e.symm)
    rw [h3]
    split <;> omega
theorem mark_self {m : List Bool} {v : Nat} (h : v < m.length) : (m.set v true).getD v false = true := by
  rw [getD_set, if_pos ⟨rfl, h⟩]
theorem br_ne {m : List Bool} {b : Int × Int} (hB : BrOk n cs m b) : (otherN (cs.getD b.1.toNat cn0) b.2).toNat ≠ b.2.toNat := fun e => by
  have := hB.new
  rw [← e, hB.old] at this
  cases this
/-- Two walks whose draws differ at two nodes. -/
theorem back_diff {D : Int} {P0 R0 : Nat} : ∀ (l : List (Int × Int)) (m : List Bool) (s s' : List Int × List Int), m.length = n → s.2.length = n → s'.2.length = n → TreeOk n cs m l →
    (∀ u : Nat, s'.2.getD u 0 = s.2.getD u 0 + D * (dl u P0 - dl u R0)) →
    ∀ u : Nat, m.getD u false = true → (backL cs l s').2.getD u 0 = (backL cs l s).2.getD u 0 + D * (dl u (rootN cs l P0) - dl u (rootN cs l R0))
  | [], m, s, s', _, _, _, _, hs, u, _ => hs u
  | b :: r, m, s, s', hm, a3, a4, ht, hs, u, hu => by
    obtain ⟨hB, ht2⟩ := ht
    have v0 := hB.v0; have v1 := hB.v1; have o0 := hB.o0; have o1 := hB.o1
    have ih := back_diff r (m.set b.2.toNat true) s s' (by simpa using hm) a3 a4 ht2 hs
    have gu := ih u (mark_mono hu)
    have gv := ih b.2.toNat (mark_self (by omega))
    have hl1 : (backL cs r s).2.length = n := by rw [(backL_len cs r s).2, a3]
    have hl2 : (backL cs r s').2.length = n := by rw [(backL_len cs r s').2, a4]
    have huv : u ≠ b.2.toNat := fun e => by
      have := hB.new
      rw [← e, hu] at this
      cases this
    rw [rootN, rootN, dl_step _ _ _ _ huv, dl_step _ _ _ _ huv]
    show ((backL cs r s').2.set _ _).getD u 0 = ((backL cs r s).2.set _ _).getD u 0 + _
    rw [getD_setI, getD_setI]
    by_cases huo : u = (otherN (cs.getD b.1.toNat cn0) b.2).toNat
    · rw [if_pos ⟨huo, by omega⟩, if_pos ⟨huo, by omega⟩, if_pos huo, if_pos huo, ← huo, gu, gv]
      simp only [Int.mul_sub, Int.mul_add]
      omega
    · rw [if_neg (fun h => huo h.1), if_neg (fun h => huo h.1), if_neg huo, if_neg huo, gu]
      simp only [Int.add_zero]
theorem dl_cases (u p q : Nat) : dl u p - dl u q = 0 ∧ (u = p ↔ u = q) ∨ dl u p - dl u q = 1 ∧ u = p ∧ u ≠ q ∨ dl u p - dl u q = -1 ∧ u ≠ p ∧ u = q := by
  unfold dl
  by_cases h1 : u = p <;> by_cases h2 : u = q
  · rw [if_pos h1, if_pos h2]; exact .inl ⟨rfl, fun _ => h2, fun _ => h1⟩
  · rw [if_pos h1, if_neg h2]; exact .inr (.inl ⟨rfl, h1, h2⟩)
  · rw [if_neg h1, if_pos h2]; exact .inr (.inr ⟨rfl, h1, h2⟩)
  · rw [if_neg h1, if_neg h2]; exact .inl ⟨rfl, fun h => absurd h h1, fun h => absurd h h2⟩
/-- All flows differ by no more than the draws do. -/
theorem flow_diff {D : Int} {P0 R0 : Nat} (hD : 0 ≤ D) : ∀ (l : List (Int × Int)) (m : List Bool) (s s' : List Int × List Int), m.length = n → s.2.length = n → s'.2.length = n → s'.1.length = s.1.length → TreeOk n cs m l →
    (∀ u : Nat, s'.2.getD u 0 = s.2.getD u 0 + D * (dl u P0 - dl u R0)) → (∀ i : Nat, -D ≤ s'.1.getD i 0 - s.1.getD i 0 ∧ s'.1.getD i 0 - s.1.getD i 0 ≤ D) →
    ∀ i : Nat, -D ≤ (backL cs l s').1.getD i 0 - (backL cs l s).1.getD i 0 ∧ (backL cs l s').1.getD i 0 - (backL cs l s).1.getD i 0 ≤ D
  | [], m, s, s', _, _, _, _, _, _, hf, i => hf i
  | b :: r, m, s, s', hm, a3, a4, a5, ht, hs, hf, i => by
    obtain ⟨hB, ht2⟩ := ht
    have v0 := hB.v0; have v1 := hB.v1
    have hm' : (m.set b.2.toNat true).length = n := by simpa using hm
    have ih := flow_diff hD r _ s s' hm' a3 a4 a5 ht2 hs hf i
    have gv := back_diff r _ s s' hm' a3 a4 ht2 hs b.2.toNat (mark_self (by omega))
    show -D ≤ ((backL cs r s').1.set _ _).getD i 0 - ((backL cs r s).1.set _ _).getD i 0 ∧ ((backL cs r s').1.set _ _).getD i 0 - ((backL cs r s).1.set _ _).getD i 0 ≤ D
    rw [getD_setI, getD_setI, (backL_len cs r s).1, (backL_len cs r s').1, a5]
    split
    · have hd : -D ≤ (backL cs r s').2.getD b.2.toNat 0 - (backL cs r s).2.getD b.2.toNat 0 ∧ (backL cs r s').2.getD b.2.toNat 0 - (backL cs r s).2.getD b.2.toNat 0 ≤ D := by
        rw [gv]
        rcases dl_cases b.2.toNat (rootN cs r P0) (rootN cs r R0) with ⟨e, _⟩ | ⟨e, _⟩ | ⟨e, _⟩
        · rw [e, Int.mul_zero]; omega
        · rw [e, Int.mul_one]; omega
        · rw [e, Int.mul_neg, Int.mul_one]; omega
      unfold signN
      split <;> omega
    · exact ih

/-- What is lost on the way up. -/
def climb (cs : List Cn) (F : List Int) : List (Int × Int) → Nat → Int
  | [], _ => 0
  | b :: r, P => climb cs F r P + (if rootN cs r P = b.2.toNat then lossF (cs.getD b.1.toNat cn0).res (signN (cs.getD b.1.toNat cn0) b.2 * F.getD b.1.toNat 0) else 0)
theorem fore_climb {F : List Int} {P : Nat} : ∀ (l : List (Int × Int)) (m : List Bool) (h : List Int), h.length = n → TreeOk n cs m l → (foreL cs F l h).getD P 0 = h.getD (rootN cs l P) 0 - climb cs F l P
  | [], m, h, _, _ => by rw [foreL, rootN, climb, Int.sub_zero]
  | b :: r, m, h, hh, ht => by
    obtain ⟨hB, ht2⟩ := ht
    have v0 := hB.v0; have v1 := hB.v1
    have ih := fore_climb r _ (stepH cs F b h) (by simpa [stepH] using hh) ht2 (P := P) (F := F)
    rw [foreL, ih, rootN, climb]
    by_cases e : rootN cs r P = b.2.toNat
    · rw [if_pos e, if_pos e, e]
      unfold stepH
      rw [getD_setI, if_pos ⟨rfl, by omega⟩]
      omega
    · rw [if_neg e, if_neg e]
      unfold stepH
      rw [getD_setI, if_neg (fun h => e h.1)]
      omega
/-- Losses at flows that are all shifted by the same number. -/
def gsum : List (Int × Int) → Int → Int
  | [], _ => 0
  | x :: r, q => lossF x.1 (q + x.2) + gsum r q
/-- The conduits of the loop, with what they carry in its direction. -/
def cyc (cs : List Cn) (s : List Int × List Int) (P R : Nat) : List (Int × Int) → List (Int × Int)
  | [] => []
  | b :: r => ((if dl b.2.toNat (rootN cs r P) - dl b.2.toNat (rootN cs r R) = 0 then 0 else (cs.getD b.1.toNat cn0).res), (dl b.2.toNat (rootN cs r P) - dl b.2.toNat (rootN cs r R)) * (backL cs r s).2.getD b.2.toNat 0) :: cyc cs s P R r
theorem sgn_sgn (c : Cn) (v x : Int) : signN c v * (signN c v * x) = x := by unfold signN; split <;> omega
theorem loss_zero (f : Int) : lossF 0 f = 0 := by unfold lossF; rw [Int.zero_mul, Int.zero_mul]
theorem climb_cyc {D : Int} {P R : Nat} (hr : inR n cs) : ∀ (l : List (Int × Int)) (m : List Bool) (s s' : List Int × List Int) (F : List Int), m.length = n → s'.1.length = cs.length → s.2.length = n → s'.2.length = n → TreeOk n cs m l →
    (∀ u : Nat, s'.2.getD u 0 = s.2.getD u 0 + D * (dl u P - dl u R)) → (∀ x ∈ l, F.getD x.1.toNat 0 = (backL cs l s').1.getD x.1.toNat 0) →
    climb cs F l P - climb cs F l R = gsum (cyc cs s P R l) D
  | [], m, s, s', F, _, _, _, _, _, _, _ => by simp [climb, cyc, gsum]
  | b :: r, m, s, s', F, hm, a1, a3, a4, ht, hs, hF => by
    have hd := tree_dist hm hr ht
    have hrg := tree_range r _ ht.2
    have fb := back_flow_at a1 ht
    obtain ⟨hB, ht2⟩ := ht
    have v0 := hB.v0; have v1 := hB.v1; have i0 := hB.i0
    have hm' : (m.set b.2.toNat true).length = n := by simpa using hm
    have hFr : ∀ x ∈ r, F.getD x.1.toNat 0 = (backL cs r s').1.getD x.1.toNat 0 := fun x hx => by
      rw [hF x (by simp [hx])]
      show ((backL cs r s').1.set _ _).getD _ 0 = _
      rw [getD_setI, if_neg]
      rintro ⟨e, _⟩
      have := (hrg x hx).1
      exact hd x hx (by omega)
    have ih := climb_cyc hr r _ s s' F hm' a1 a3 a4 ht2 hs hFr
    have gv := back_diff r _ s s' hm' a3 a4 ht2 hs b.2.toNat (mark_self (by omega))
    rw [climb, climb, cyc, gsum, ← ih, hF b (by simp), fb, sgn_sgn, gv]
    rcases dl_cases b.2.toNat (rootN cs r P) (rootN cs r R) with ⟨e, h⟩ | ⟨e, h1, h2⟩ | ⟨e, h1, h2⟩
    · rw [e, if_pos rfl, loss_zero]
      by_cases h3 : b.2.toNat = rootN cs r P
      · rw [if_pos h3.symm, if_pos (h.1 h3).symm]; omega
      · rw [if_neg (fun h4 => h3 h4.symm), if_neg (fun h4 => h3 (h.2 h4.symm))]; omega
    · rw [e, if_pos h1.symm, if_neg (fun h4 => h2 h4.symm), Int.mul_one]
      show _ = lossF (cs.getD b.1.toNat cn0).res (D + 1 * (backL cs r s).2.getD b.2.toNat 0) + _
      rw [Int.one_mul, Int.add_comm D]; omega
    · rw [e, if_neg (fun h4 => h1 h4.symm), if_pos h2.symm]
      have h5 := loss_neg (cs.getD b.1.toNat cn0).res ((backL cs r s).2.getD b.2.toNat 0 + D * -1)
      show _ = lossF (cs.getD b.1.toNat cn0).res (D + -1 * (backL cs r s).2.getD b.2.toNat 0) + _
      rw [show D + -1 * (backL cs r s).2.getD b.2.toNat 0 = -((backL cs r s).2.getD b.2.toNat 0 + D * -1) by omega, h5]
      omega
theorem cyc_bd {s : List Int × List Int} {P R : Nat} {S : Int} (hcs : ∀ c ∈ cs, 0 ≤ c.res) (hs : s.2.length = n) (hS : sumA s.2 ≤ S) : ∀ (l : List (Int × Int)) (m : List Bool), m.length = n → TreeOk n cs m l →
    ∀ x ∈ cyc cs s P R l, 0 ≤ x.1 ∧ -S ≤ x.2 ∧ x.2 ≤ S
  | [], m, _, _, x, hx => by simp [cyc] at hx
  | b :: r, m, hm, ht, x, hx => by
    obtain ⟨hB, ht2⟩ := ht
    have v0 := hB.v0; have v1 := hB.v1; have i0 := hB.i0; have i1 := hB.i1
    have hm' : (m.set b.2.toNat true).length = n := by simpa using hm
    rcases List.mem_cons.1 hx with rfl | hx
    · have h1 := back_sum r _ s hm' hs ht2
      have h2 := sumM_mem _ (backL cs r s).2 b.2.toNat (by rw [(backL_len cs r s).2]; omega) (by omega) (mark_self (m := m) (v := b.2.toNat) (by omega))
      have h3 := absI_le (Int.le_trans h2 (Int.le_trans h1 hS))
      have h4 := hcs (cs.getD b.1.toNat cn0) (mem_getD (by omega))
      refine ⟨?_, ?_⟩
      · show 0 ≤ (if _ then (0 : Int) else _)
        split <;> omega
      · show -S ≤ _ * _ ∧ _ * _ ≤ S
        rcases dl_cases b.2.toNat (rootN cs r P) (rootN cs r R) with ⟨e, _⟩ | ⟨e, _⟩ | ⟨e, _⟩ <;> rw [e] <;> omega
    · exact cyc_bd hcs hs hS r _ hm' ht2 x hx
end

theorem gsum_mono : ∀ (L : List (Int × Int)) {q q' : Int}, (∀ x ∈ L, 0 ≤ x.1) → q ≤ q' → gsum L q ≤ gsum L q'
  | [], q, q', _, _ => Int.le_refl _
  | x :: r, q, q', h, hq => by
    have ih := gsum_mono r (fun y hy => h y (by simp [hy])) hq
    have := loss_mono (h x (by simp)) (show q + x.2 ≤ q' + x.2 by omega)
    rw [gsum, gsum]; omega
theorem loss_ge {r f B : Int} (hr : 1 ≤ r) (hB : 0 ≤ B) (h : B ≤ f) : B * B ≤ lossF r f := by
  have e : sizeF f = f := by unfold sizeF; split <;> omega
  unfold lossF
  rw [e]
  have h1 : B * B ≤ f * f := Int.mul_le_mul h h hB (by omega)
  have h2 : 1 * (f * f) ≤ r * (f * f) := Int.mul_le_mul_of_nonneg_right hr (Int.mul_nonneg (by omega) (by omega))
  rw [Int.mul_assoc]; omega
theorem sq_size_strict {f g : Int} (h : f < g) : f * sizeF f < g * sizeF g := by
  have a := sq_size_mono (show f ≤ g - 1 by omega)
  have b : (g - 1) * sizeF (g - 1) < g * sizeF g := by
    by_cases hg : 1 ≤ g
    · have e1 : sizeF (g - 1) = g - 1 := by unfold sizeF; split <;> omega
      have e2 : sizeF g = g := by unfold sizeF; split <;> omega
      rw [e1, e2]
      have : (g - 1) * (g - 1) ≤ (g - 1) * g := Int.mul_le_mul_of_nonneg_left (by omega) (by omega)
      rw [Int.sub_mul (g) 1 g] at this
      omega
    · have e1 : sizeF (g - 1) = -(g - 1) := by unfold sizeF; split <;> omega
      have e2 : sizeF g = -g := by unfold sizeF; split <;> omega
      rw [e1, e2, Int.mul_neg, Int.mul_neg]
      have h1 : g * g = (-g) * (-g) := (Int.neg_mul_neg g g).symm
      have h2 : (g - 1) * (g - 1) = (-g + 1) * (-g + 1) := by
        rw [show g - 1 = -(-g + 1) by omega, Int.neg_mul_neg]
      have h3 : (-g) * (-g) ≤ (-g + 1) * (-g) := Int.mul_le_mul_of_nonneg_right (by omega) (by omega)
      have h4 : (-g + 1) * (-g) + (-g + 1) = (-g + 1) * (-g + 1) := by rw [Int.mul_add, Int.mul_one]
      omega
  omega
theorem loss_strict {r f g : Int} (hr : 1 ≤ r) (h : f < g) : lossF r f < lossF r g := by
  unfold lossF
  rw [Int.mul_assoc, Int.mul_assoc]
  exact Int.mul_lt_mul_of_pos_left (sq_size_strict h) (by omega)
/-- Either the sum is 0 at all flows, or it grows strictly, and far. -/
theorem gsum_two : ∀ (L : List (Int × Int)), (∀ x ∈ L, 0 ≤ x.1 ∧ -100000 ≤ x.2 ∧ x.2 ≤ 100000) →
    (∀ q, gsum L q = 0) ∨ ((∀ q q', q < q' → gsum L q < gsum L q') ∧ 10000000000 ≤ gsum L 200000 ∧ gsum L (-200000) ≤ -10000000000)
  | [], _ => .inl fun _ => rfl
  | x :: r, h => by
    have hx := h x (by simp)
    have hr : ∀ y ∈ r, 0 ≤ y.1 ∧ -100000 ≤ y.2 ∧ y.2 ≤ 100000 := fun y hy => h y (by simp [hy])
    have ih := gsum_two r hr
    by_cases e : x.1 = 0
    · have e2 : ∀ q, gsum (x :: r) q = gsum r q := fun q => by rw [gsum, e, loss_zero, Int.zero_add]
      rcases ih with ih | ⟨a, b, c⟩
      · exact .inl fun q => by rw [e2, ih]
      · exact .inr ⟨fun q q' hq => by rw [e2, e2]; exact a q q' hq, by rw [e2]; exact b, by rw [e2]; exact c⟩
    · have m := fun q q' (hq : q ≤ q') => gsum_mono r (fun y hy => (hr y hy).1) hq
      have p := loss_ge (r := x.1) (f := 200000 + x.2) (B := 100000) (by omega) (by omega) (by omega)
      have n := loss_ge (r := x.1) (f := -(-200000 + x.2)) (B := 100000) (by omega) (by omega) (by omega)
      rw [loss_neg] at n
      have m1 : 0 ≤ gsum r 200000 := by rcases ih with ih | ⟨_, b, _⟩; rw [ih]; exact Int.le_refl _; omega
      have m2 : gsum r (-200000) ≤ 0 := by rcases ih with ih | ⟨_, _, b⟩; rw [ih]; exact Int.le_refl _; omega
      refine .inr ⟨fun q q' hq => ?_, ?_, ?_⟩
      · have := loss_strict (r := x.1) (by omega) (show q + x.2 < q' + x.2 by omega)
        have := m q q' (by omega)
        rw [gsum, gsum]; omega
      · rw [gsum]; omega
      · rw [gsum]; omega

theorem st0_sum0 {N : Net} {b : List (Int × Int)} {c : Int} (hS : StOk N b c) : sumA (st0 N c 0).2 ≤ 100000 := by
  have h := sumA_le (B := 10000) (drawsL N) fun i => absI_of (drawsL_bd hS.dr i)
  rw [drawsL_len] at h
  have := hS.n1
  unfold st0
  split
  · show sumA (drawsL N) ≤ _
    omega
  · have h1 := sumA_set (drawsL N) (N.cs.getD c.toNat cn0).fr.toNat 0
    have h2 := sumA_set ((drawsL N).set (N.cs.getD c.toNat cn0).fr.toNat ((drawsL N).getD (N.cs.getD c.toNat cn0).fr.toNat 0 + 0)) (N.cs.getD c.toNat cn0).to.toNat 0
    have e : absI 0 = 0 := rfl
    show sumA (((drawsL N).set _ _).set _ (_ - 0)) ≤ _
    rw [Int.sub_zero]
    rw [Int.add_zero (List.getD _ (N.cs.getD c.toNat cn0).to.toNat 0)] at h2
    omega
/-- The gap, as a sum. -/
theorem gap_form {N : Net} {b : List (Int × Int)} {c : Int} (hS : StOk N b c) (hc : 0 ≤ c) (hne : (N.cs.getD c.toNat cn0).fr ≠ (N.cs.getD c.toNat cn0).to) :
    ∃ (L : List (Int × Int)) (K : Int), (∀ x ∈ L, 0 ≤ x.1 ∧ -100000 ≤ x.2 ∧ x.2 ≤ 100000) ∧ -1000000000 ≤ K ∧ K ≤ 1000000000 ∧ ∀ q, gapF N b c q = gsum L q - K := by
  have hcl := hS.cl
  have hb := headsL_bd hS.hd
  have hcs : ∀ c ∈ N.cs, 0 ≤ c.res := fun c hc => (hS.res c hc).1
  obtain ⟨P, hP⟩ : ∃ P, P = (N.cs.getD c.toNat cn0).fr.toNat := ⟨_, rfl⟩
  obtain ⟨R, hR⟩ : ∃ R, R = (N.cs.getD c.toNat cn0).to.toNat := ⟨_, rfl⟩
  refine ⟨((N.cs.getD c.toNat cn0).res, 0) :: cyc N.cs (st0 N c 0) P R b, (headsL N).getD (rootN N.cs b P) 0 - (headsL N).getD (rootN N.cs b R) 0, ?_, ?_, ?_, fun q => ?_⟩
  · intro x hx
    rcases List.mem_cons.1 hx with rfl | hx
    · exact ⟨hcs _ (mem_getD (by omega)), by show (-100000 : Int) ≤ 0; decide, by show (0 : Int) ≤ 100000; decide⟩
    · exact cyc_bd hcs (st0_len1 N c 0) (st0_sum0 hS) b _ (lakesB_len N) hS.tr x hx
  · have hh : ∀ n ∈ N.ns, 0 ≤ n.head := fun n hn => (hS.hd n hn).1
    have h0 : ∀ i, 0 ≤ (headsL N).getD i 0 ∧ (headsL N).getD i 0 ≤ 1000000000 := fun i =>
      getD_bdI (fun x hx => by obtain ⟨n, hn, rfl⟩ := List.mem_map.1 hx; have := hS.hd n hn; omega) (by omega) (by omega) i
    have h1 := h0 (rootN N.cs b P)
    have h2 := h0 (rootN N.cs b R)
    omega
  · have h0 : ∀ i, 0 ≤ (headsL N).getD i 0 ∧ (headsL N).getD i 0 ≤ 1000000000 := fun i =>
      getD_bdI (fun x hx => by obtain ⟨n, hn, rfl⟩ := List.mem_map.1 hx; have := hS.hd n hn; omega) (by omega) (by omega) i
    have h1 := h0 (rootN N.cs b P)
    have h2 := h0 (rootN N.cs b R)
    omega
  · have hd := fun u => st0_diff (q := 0) (q' := q) hS.ends hc hcl hne u
    simp only [Int.sub_zero, ← hP, ← hR] at hd
    have h1 := climb_cyc hS.ends b _ (st0 N c 0) (st0 N c q) (backL N.cs b (st0 N c q)).1 (lakesB_len N) (st0_len0 N c q) (st0_len1 N c 0) (st0_len1 N c q) hS.tr hd (fun _ _ => rfl)
    have h2 := fore_climb (F := (backL N.cs b (st0 N c q)).1) (P := P) b _ (headsL N) (headsL_len N) hS.tr
    have h3 := fore_climb (F := (backL N.cs b (st0 N c q)).1) (P := R) b _ (headsL N) (headsL_len N) hS.tr
    unfold gapF stateF
    rw [← hP, ← hR]
    show lossF _ q - ((foreL _ _ _ _).getD P 0 - (foreL _ _ _ _).getD R 0) = _
    rw [h2, h3, gsum]
    show _ = lossF (N.cs.getD c.toNat cn0).res (q + 0) + gsum (cyc N.cs (st0 N c 0) P R b) q - _
    rw [← h1, Int.add_zero]
    omega

/-- Is the gap the same everywhere? -/
def flatB (N : Net) (b : List (Int × Int)) (c : Int) : Bool := decide (gapF N b c (-200000) = gapF N b c 200000)
theorem gap_flat {N : Net} {b : List (Int × Int)} {c : Int} (hS : StOk N b c) (hc : 0 ≤ c) (hne : (N.cs.getD c.toNat cn0).fr ≠ (N.cs.getD c.toNat cn0).to) (h : flatB N b c = false) :
    (∀ q q', q < q' → gapF N b c q < gapF N b c q') ∧ 0 < gapF N b c 200000 ∧ gapF N b c (-200000) < 0 := by
  obtain ⟨L, K, h1, h2, h3, h4⟩ := gap_form hS hc hne
  have hf := of_decide_eq_false h
  rw [h4, h4] at hf
  rcases gsum_two L h1 with g | ⟨a, b, c⟩
  · rw [g, g] at hf; exact absurd rfl hf
  · refine ⟨fun q q' hq => ?_, ?_, ?_⟩
    · rw [h4, h4]; have := a q q' hq; omega
    · rw [h4]; omega
    · rw [h4]; omega
/-- The circulation. -/
def circHi (N : Net) (b : List (Int × Int)) (c : Int) : Int := leastF (fun q => decide (gapF N b c q ≥ 0)) 19 (-200000) 200000
def circF (N : Net) (b : List (Int × Int)) (c : Int) : Int × Int :=
  if c < 0 then (0, 0) else if gapF N b c (circHi N b c) = 0 then (circHi N b c, circHi N b c) else (circHi N b c - 1, circHi N b c)
theorem circ_spec {N : Net} {b : List (Int × Int)} {c : Int} (hS : StOk N b c) (hc : 0 ≤ c) (hne : (N.cs.getD c.toNat cn0).fr ≠ (N.cs.getD c.toNat cn0).to) (h : flatB N b c = false) :
    -200000 < circHi N b c ∧ circHi N b c ≤ 200000 ∧ 0 ≤ gapF N b c (circHi N b c) ∧ gapF N b c (circHi N b c - 1) < 0 := by
  obtain ⟨g1, g2, g3⟩ := gap_flat hS hc hne h
  have hm := leastF_mem (fun q => decide (gapF N b c q ≥ 0)) 19 (-200000) 200000 (by omega)
  have hl := leastF_least (fun q => decide (gapF N b c q ≥ 0)) (-200000) 200000 (fun x y _ h1 _ h2 => by
    have h2 := of_decide_eq_true h2
    have := gap_mono hS hc hne h1
    exact decide_eq_true (by omega)) 19 (-200000) 200000 (by omega) (by omega) (by omega) (by decide)
  change -200000 ≤ circHi N b c ∧ circHi N b c ≤ 200000 at hm
  change (∀ x, -200000 ≤ x → x < circHi N b c → _) ∧ (circHi N b c < 200000 → decide (gapF N b c (circHi N b c) ≥ 0) = true) at hl
  have h1 : 0 ≤ gapF N b c (circHi N b c) := by
    by_cases e : circHi N b c < 200000
    · exact of_decide_eq_true (hl.2 e)
    · rw [show circHi N b c = 200000 by omega]; omega
  have h2 : -200000 < circHi N b c := by
    rcases Int.lt_or_le (-200000) (circHi N b c) with h | h
    · exact h
    · rw [show circHi N b c = -200000 by omega] at h1; omega
  refine ⟨h2, hm.2, h1, ?_⟩
  have := of_decide_eq_false (hl.1 (circHi N b c - 1) (by omega) (by omega))
  omega
/-- By two signs alone. -/
def provesB (N : Net) (b : List (Int × Int)) (c : Int) (x : Int × Int) : Bool :=
  if c < 0 then decide (x = (0, 0)) else if x.1 = x.2 then decide (gapF N b c x.1 = 0) else decide (x.2 = x.1 + 1 ∧ gapF N b c x.1 < 0 ∧ gapF N b c x.2 > 0)
theorem proves_iff {N : Net} {b : List (Int × Int)} {c : Int} (hS : StOk N b c) (hne : 0 ≤ c → (N.cs.getD c.toNat cn0).fr ≠ (N.cs.getD c.toNat cn0).to) (h : 0 ≤ c → flatB N b c = false) (x : Int × Int) :
    provesB N b c x = true ↔ x = circF N b c := by
  unfold provesB circF
  by_cases hc : c < 0
  · rw [if_pos hc, if_pos hc]; exact decide_eq_true_iff
  · have hc0 : 0 ≤ c := by omega
    rw [if_neg hc, if_neg hc]
    obtain ⟨g1, g2, g3⟩ := gap_flat hS hc0 (hne hc0) (h hc0)
    obtain ⟨c1, c2, c3, c4⟩ := circ_spec hS hc0 (hne hc0) (h hc0)
    have inj : ∀ q q', gapF N b c q = gapF N b c q' → q = q' := fun q q' e => by
      rcases Int.lt_trichotomy q q' with h | h | h
      · have := g1 q q' h; omega
      · exact h
      · have := g1 q' q h; omega
    have lt : ∀ q q', gapF N b c q < gapF N b c q' → q < q' := fun q q' e => by
      rcases Int.lt_or_le q q' with h | h
      · exact h
      · have := gap_mono hS hc0 (hne hc0) h; omega
    obtain ⟨lo, hi⟩ := x
    simp only
    by_cases hz : gapF N b c (circHi N b c) = 0
    · rw [if_pos hz]
      by_cases e : lo = hi
      · rw [if_pos e, decide_eq_true_iff]
        subst e
        constructor
        · intro h1
          have := inj lo (circHi N b c) (by omega)
          rw [this]
        · intro h1
          injection h1 with h1 h2
          rw [h1]; exact hz
      · rw [if_neg e, decide_eq_true_iff]
        constructor
        · rintro ⟨h1, h2, h3⟩
          have := lt lo (circHi N b c) (by omega)
          have := lt (circHi N b c) hi (by omega)
          omega
        · intro h1
          injection h1 with h1 h2
          omega
    · rw [if_neg hz]
      by_cases e : lo = hi
      · rw [if_pos e, decide_eq_true_iff]
        subst e
        constructor
        · intro h1
          have := lt lo (circHi N b c) (by omega)
          have := lt (circHi N b c - 1) lo (by omega)
          omega
        · intro h1
          injection h1 with h1 h2
          omega
      · rw [if_neg e, decide_eq_true_iff]
        constructor
        · rintro ⟨h1, h2, h3⟩
          have a := lt lo (circHi N b c) (by omega)
          have d := lt (circHi N b c - 1) hi (by omega)
          rw [Prod.mk.injEq]; omega
        · intro h1
          injection h1 with h1 h2
          subst h1 h2
          exact ⟨by omega, c4, by omega⟩
end Go.Tr

/- Contracts of chapter 2: circulation, steady state. Conditions: none. -/
namespace Go.Tr
open Go Go.Proofs
set_option maxRecDepth 20000
set_option maxHeartbeats 8000000

/-- The search by halves, from any number on, over a closure with one part. -/
theorem S44c (g : FuncId) (l1 : List AV) (p : Int → Bool) (a b : Int) (n : Nat) (ha : -4000000000000000000 ≤ a) (hb : b ≤ 4000000000000000000) (hn : (b - a).toNat < 2 ^ n)
    (hp : ∀ x, a ≤ x → x < b → SP g [i64 x, .rptr l1] (vb (p x)) false) : SP 44 [i64 a, i64 b, .func (.func g) 0 [.rptr l1]] (i64 (leastF p n a b)) false := by
  refine sound (d := 2) tok2 mixed2 Tryz.func44 (by kernel_rfl) (by kernel_rfl) ?_
  refine ⟨[], [0, 1, 2], fun s m => ∃ (n' : Nat) (a' b' : Int), a ≤ a' ∧ b' ≤ b ∧ (b' - a').toNat < 2 ^ n' ∧ leastF p n' a' b' = leastF p n a b ∧ s = ⟨[(0, i64 a'), (1, i64 b'), (2, .func (.func g) 0 [.rptr l1])], ⟨[], [], none, 0⟩, []⟩ ∧ m = n',
    ⟨_, _, ⟨n, a, b, by omega, by omega, hn, rfl, rfl, rfl⟩, ⟨⟨rfl, rfl, rfl, rfl⟩, trivial, trivial⟩⟩, ?_⟩
  rintro s0 m0 ⟨n', a', b', h1, h2, h3, h4, rfl, hm0⟩
  refine ifB_intro (fun hc => ?_) (fun hc => ?_)
  · have hlt : a' < b' := of_decide_eq_true hc
    obtain ⟨k, rfl⟩ : ∃ k, n' = k + 1 := by
      cases n' with
      | zero => simp at h3; omega
      | succ k => exact ⟨k, rfl⟩
    have ht : (b' - a').tdiv 2 = (b' - a') / 2 := Int.tdiv_eq_ediv_of_nonneg (by omega)
    have hs : (b' - a').toNat < 2 ^ k * 2 := by rw [← Nat.pow_succ]; exact h3
    refine ⟨inK64 (by omega) (by omega), ?_⟩
    refine ⟨⟨by omega, inK64 (by omega) (by omega)⟩, ?_⟩
    refine ⟨inK64 (by omega) (by omega), ?_⟩
    refine .inl ⟨_, _, byS (d := 2) (hp (a' + (b' - a').tdiv 2) (by omega) (by omega)), ?_⟩
    rw [leastF, if_pos hlt] at h4
    rw [← ht] at h4
    refine ifB_intro (fun hx => ?_) (fun hx => ?_)
    · rw [hx, cond_true] at h4
      refine ⟨_, _, ⟨⟨k, a', a' + (b' - a').tdiv 2, by omega, by omega, by omega, h4, rfl, rfl⟩, by omega⟩, ⟨⟨rfl, rfl, rfl, rfl⟩, trivial, trivial⟩⟩
    · rw [hx, cond_false] at h4
      refine ⟨inK64 (by omega) (by omega), ?_⟩
      refine ⟨_, _, ⟨⟨k, a' + (b' - a').tdiv 2 + 1, b', by omega, by omega, by omega, h4, rfl, rfl⟩, by omega⟩, ⟨⟨rfl, rfl, rfl, rfl⟩, trivial, trivial⟩⟩
  · have hlt : ¬ a' < b' := of_decide_eq_false hc
    have h5 : leastF p n' a' b' = a' := by cases n' <;> simp [leastF, hlt]
    refine ⟨?_, nofun⟩
    show i64 _ = i64 _
    rw [← h4, h5]

theorem S31_4 (a b c d : Int) (f : Nat → List AV) (h : f 0 = [i64 a] ∧ f 1 = [i64 b] ∧ f 2 = [i64 c] ∧ f 3 = [i64 d]) : SP 31 [.rslice 1 4 f] (i64 (firstOf [a, b, c, d])) false :=
  S31f [a, b, c, d] f (Nat.le_of_ble_eq_true rfl) fun i hi => match i, hi with | 0, _ => h.1 | 1, _ => h.2.1 | 2, _ => h.2.2.1 | 3, _ => h.2.2.2

theorem vbE {k : Nat} {a b : Bool} (h : a = b) : AVE (k + 1) (.val (.bool a)) (vb b) := by subst h; rfl
/-- A net with a closing conduit and no circulation. -/
def flatQ (N : Net) (b : List (Int × Int)) (c : Int) : Bool := if 0 ≤ c then flatB N b c else false
theorem S70 (N : Net) (b : List (Int × Int)) (c : Int) (hS : StOk N b c) : SP 70 [treeA N b c] (vb (flatQ N b c)) false := by
  unfold flatQ
  by_cases hc : 0 ≤ c
  · rw [if_pos hc]
    have h1 := S35 N b c (-200000) hS (by omega) hc
    have h2 := S35 N b c 200000 hS (by omega) hc
    refine sound (d := 2) tok2 mixed2 Tryz.func70 (by kernel_rfl) (by kernel_rfl) ?_
    conv => whnf
    refine ⟨[], by kernel_rfl, ?_⟩
    conv => whnf
    refine ifB_dec (fun w1 => ?_) (fun w1 => ?_)
    · conv => whnf
      refine .inl ⟨_, _, byX rfl (Sound1.pl (h1) rfl), ?_⟩
      conv => whnf
      refine .inl ⟨_, _, byX rfl (Sound1.pl (h2) rfl), ?_⟩
      conv => whnf
      refine ⟨?_, nofun⟩
      show vb _ = vb _
      rfl
    · (exfalso; omega)
  · rw [if_neg hc]
    refine sound (d := 2) tok2 mixed2 Tryz.func70 (by kernel_rfl) (by kernel_rfl) ?_
    conv => whnf
    refine ⟨[], by kernel_rfl, ?_⟩
    conv => whnf
    refine ifB_dec (fun w1 => ?_) (fun w1 => ?_)
    · (exfalso; omega)
    · conv => whnf
      refine ⟨?_, nofun⟩
      rfl
theorem S71 (N : Net) (b : List (Int × Int)) (c q : Int) (hS : StOk N b c) (hq : -200000 ≤ q ∧ q ≤ 200000) (hc : 0 ≤ c) : SP 71 [i64 q, .rptr [listA 4 ndC nd0 N.ns, listA 6 cnC cn0 N.cs, brA b, i64 c]] (vb (decide (gapF N b c q ≥ 0))) false := by
  have h1 := S35 N b c q hS hq hc
  refine sound (d := 2) tok2 mixed2 Tryz.func71 (by kernel_rfl) (by kernel_rfl) ?_
  conv => whnf
  refine .inl ⟨_, _, byX rfl (Sound1.pl (h1) rfl), ?_⟩
  conv => whnf
  refine ⟨?_, nofun⟩
  rfl
theorem circHi_mem (N : Net) (b : List (Int × Int)) (c : Int) : -200000 ≤ circHi N b c ∧ circHi N b c ≤ 200000 := leastF_mem _ 19 (-200000) 200000 (by omega)
theorem S41 (N : Net) (b : List (Int × Int)) (c : Int) (hS : StOk N b c) : SP 41 [treeA N b c] (rngA (circF N b c)) false := by
  unfold circF
  by_cases hc : c < 0
  · rw [if_pos hc]
    refine sound (d := 2) tok2 mixed2 Tryz.func41 (by kernel_rfl) (by kernel_rfl) ?_
    conv => whnf
    refine ifB_dec (fun w1 => ?_) (fun w1 => ?_)
    · conv => whnf
      refine ⟨?_, nofun⟩
      exact ave2 _ _
    · (exfalso; omega)
  · rw [if_neg hc]
    have hm := circHi_mem N b c
    have h1 : SP 44 [i64 (-200000), i64 200000, .func (.func 71) 0 [.rptr [listA 4 ndC nd0 N.ns, listA 6 cnC cn0 N.cs, brA b, i64 c]]] (i64 (circHi N b c)) false :=
      S44c 71 _ _ (-200000) 200000 19 (by omega) (by omega) (by decide) fun x h1 h2 => S71 N b c x hS (by omega) (by omega)
    have h2 := S35 N b c (circHi N b c) hS hm (by omega)
    refine sound (d := 2) tok2 mixed2 Tryz.func41 (by kernel_rfl) (by kernel_rfl) ?_
    conv => whnf
    refine ifB_dec (fun w1 => ?_) (fun w1 => ?_)
    · (exfalso; omega)
    · conv => whnf
      refine .inl ⟨_, _, byX rfl (Sound1.pl (h1) rfl), ?_⟩
      conv => whnf
      refine .inl ⟨_, _, byX rfl (Sound1.pl (h2) rfl), ?_⟩
      conv => whnf
      refine ifB_beq (fun w2 => ?_) (fun w2 => ?_)
      · conv => whnf
        refine ⟨?_, nofun⟩
        rw [if_pos w2]; exact ave2 _ _
      · conv => whnf
        refine ⟨inK64 (by omega) (by omega), ?_⟩
        conv => whnf
        refine ⟨?_, nofun⟩
        rw [if_neg w2]; exact ave2 _ _
/-- What the opening of a net with a circulation gives. -/
def flowE (N : Net) : Int := if formE N = 0 then (if flatQ N (brF N) (clF N).1 then 11 else 0) else formE N
theorem S40 (N : Net) (hN : N.In) : SP 40 [netV N] (.tuple [treeT N, i64 (flowE N)]) false := by
  unfold treeT flowE formE
  by_cases hn : netE N = 0
  · simp only [if_pos hn]
    have h99 := S30ok N hN hn
    have h108 := S70 N (brF N) (clF N).1 (stOk (net_ok hn))
    by_cases hF : (clF N).2 = 0
    · rw [if_pos hF]
      rw [hF] at h99
      refine sound (d := 2) tok2 mixed2 Tryz.func40 (by kernel_rfl) (by kernel_rfl) ?_
      conv => whnf
      refine .inl ⟨_, _, byX rfl (h99), ?_⟩
      conv => whnf
      refine ⟨[], by kernel_rfl, ?_⟩
      conv => whnf
      refine .inl ⟨_, _, byX rfl (Sound1.pl (h108) rfl), ?_⟩
      conv => whnf
      refine .inl ⟨_, _, byX rfl (Sound1.pl (S33 _ _) rfl), ?_⟩
      conv => whnf
      refine ⟨?_, nofun⟩
      refine ave_tup2 (k := 4) (ave_agg4 (k := 3) (a := .rslice 4 N.ns.length _) (b := .rslice 6 N.cs.length _) (c := .rslice 2 (brF N).length _) (d := i64 (clF N).1) ⟨rfl, rfl, fun _ _ => rfl⟩ ⟨rfl, rfl, fun _ _ => rfl⟩ ⟨rfl, rfl, fun _ _ => rfl⟩ rfl) ?_
      show i64 _ = i64 _
      cases flatQ N (brF N) (clF N).1 <;> rfl
    · rw [if_neg hF]
      refine sound (d := 2) tok2 mixed2 Tryz.func40 (by kernel_rfl) (by kernel_rfl) ?_
      conv => whnf
      refine .inl ⟨_, _, byX rfl (h99), ?_⟩
      conv => whnf
      refine ifB_bne (fun w1 => ?_) (fun w1 => ?_)
      · conv => whnf
        refine ⟨?_, nofun⟩
        refine ave_tup2 (k := 4) (ave_agg4 (k := 3) (a := .rslice 4 N.ns.length _) (b := .rslice 6 N.cs.length _) (c := .rslice 2 (brF N).length _) (d := i64 (clF N).1) ⟨rfl, rfl, fun _ _ => rfl⟩ ⟨rfl, rfl, fun _ _ => rfl⟩ ⟨rfl, rfl, fun _ _ => rfl⟩ rfl) ?_
        rfl
      · (exfalso; omega)
  · simp only [if_neg hn]
    have h99 := S30err N hN hn
    refine sound (d := 2) tok2 mixed2 Tryz.func40 (by kernel_rfl) (by kernel_rfl) ?_
    conv => whnf
    refine .inl ⟨_, _, byX rfl (h99), ?_⟩
    conv => whnf
    refine ifB_bne (fun w1 => ?_) (fun w1 => ?_)
    · conv => whnf
      refine ⟨?_, nofun⟩
      refine ave_tup2 (k := 4) (ave_agg4 (k := 3) rfl rfl rfl rfl) ?_
      rfl
    · (exfalso; omega)
theorem flowE_ok {N : Net} (h : flowE N = 0) : formE N = 0 ∧ flatQ N (brF N) (clF N).1 = false := by
  unfold flowE at h
  split at h
  · split at h
    · cases h
    · exact ⟨by assumption, Bool.eq_false_iff.2 (by assumption)⟩
  · contradiction
theorem S20 (N : Net) (hN : N.In) : SP 20 [netV N] (rngE (if flowE N = 0 then circF N (brF N) (clF N).1 else (0, 0), flowE N)) false := by
  have h106 := S40 N hN
  by_cases hE : flowE N = 0
  · rw [if_pos hE]
    have hn := formE_ok (flowE_ok hE).1
    have h107 := S41 N (brF N) (clF N).1 (stOk (net_ok hn.1))
    unfold treeT at h106
    rw [if_pos hn.1] at h106
    refine sound (d := 2) tok2 mixed2 Tryz.func20 (by kernel_rfl) (by kernel_rfl) ?_
    conv => whnf
    refine .inl ⟨_, _, byX rfl (h106), ?_⟩
    conv => whnf
    refine ifB_bne (fun w1 => ?_) (fun w1 => ?_)
    · (exfalso; omega)
    · conv => whnf
      refine .inl ⟨_, _, byX rfl (Sound1.pl (h107) rfl), ?_⟩
      conv => whnf
      refine ⟨?_, nofun⟩
      exact ave_tup2 (k := 4) (ave_agg2 (k := 3) rfl rfl) (by show i64 _ = i64 _; rw [hE])
  · rw [if_neg hE]
    unfold treeT at h106
    by_cases hn : netE N = 0
    · rw [if_pos hn] at h106
      refine sound (d := 2) tok2 mixed2 Tryz.func20 (by kernel_rfl) (by kernel_rfl) ?_
      conv => whnf
      refine .inl ⟨_, _, byX rfl (h106), ?_⟩
      conv => whnf
      refine ifB_bne (fun w1 => ?_) (fun w1 => ?_)
      · conv => whnf
        refine ⟨?_, nofun⟩
        exact ave_tup2 (k := 4) (ave_agg2 (k := 3) rfl rfl) rfl
      · (exfalso; omega)
    · rw [if_neg hn] at h106
      refine sound (d := 2) tok2 mixed2 Tryz.func20 (by kernel_rfl) (by kernel_rfl) ?_
      conv => whnf
      refine .inl ⟨_, _, byX rfl (h106), ?_⟩
      conv => whnf
      refine ifB_bne (fun w1 => ?_) (fun w1 => ?_)
      · conv => whnf
        refine ⟨?_, nofun⟩
        exact ave_tup2 (k := 4) (ave_agg2 (k := 3) rfl rfl) rfl
      · (exfalso; omega)

/-- From the smaller to the greater one of two numbers each. -/
def rngL (a b : List Int) : List (Int × Int) := List.zipWith (fun x y => (if y < x then y else x, if y > x then y else x)) a b
theorem rngL_len {a b : List Int} {n : Nat} (ha : a.length = n) (hb : b.length = n) : (rngL a b).length = n := by simp [rngL, ha, hb]
theorem rngL_getD {a b : List Int} {n : Nat} (ha : a.length = n) (hb : b.length = n) {i : Nat} (h : i < n) : (rngL a b).getD i (0, 0) = (if b.getD i 0 < a.getD i 0 then b.getD i 0 else a.getD i 0, if b.getD i 0 > a.getD i 0 then b.getD i 0 else a.getD i 0) := by
  simp [rngL, List.getD_eq_getElem?_getD, List.getElem?_zipWith, List.getElem?_eq_getElem (show i < a.length by omega), List.getElem?_eq_getElem (show i < b.length by omega)]
/-- A row is appended to those that stand there. -/
theorem ext_row {α : Type} {L : List α} {d : α} {g : α → List AV} {k i es : Nat} {r : List AV} (h : g (L.getD k d) = r) (hr : r.length = es) (hi : i < k + 1) : g (L.getD i d) = if i < k then g (L.getD (0 + i) d) else List.take es (List.drop ((i - k) * es) r) := by
  rw [Nat.zero_add]
  by_cases e : i < k
  · rw [if_pos e]
  · rw [if_neg e, show i = k by omega, Nat.sub_self, Nat.zero_mul, List.drop_zero, ← hr, List.take_length]; exact h
/-- The steady state. -/
def steadyF (N : Net) (b : List (Int × Int)) (c : Int) : List (Int × Int) × List (Int × Int) :=
  (rngL (stateF N b c (circF N b c).1).1 (stateF N b c (circF N b c).2).1, rngL (stateF N b c (circF N b c).1).2 (stateF N b c (circF N b c).2).2)
def sdA (s : List (Int × Int) × List (Int × Int)) : AV := .agg [brA s.1, brA s.2]
theorem ave_br {k n : Nat} {f : Nat → List AV} {l : List (Int × Int)} (hn : n = l.length) (hf : ∀ i, i < l.length → f i = brC (l.getD i (0, 0))) : AVE (k + 1) (.rslice 2 n f) (brA l) :=
  ⟨rfl, hn, fun i hi => hf i (by omega)⟩
theorem flatQ_of {N : Net} {b : List (Int × Int)} {c : Int} (h : flatQ N b c = false) (hc : 0 ≤ c) : flatB N b c = false := by
  unfold flatQ at h; rwa [if_pos hc] at h
/-- Where the circulation lies. -/
theorem circ_bd {N : Net} {b : List (Int × Int)} {c : Int} (hS : StOk N b c) (hne : 0 ≤ c → (N.cs.getD c.toNat cn0).fr ≠ (N.cs.getD c.toNat cn0).to) (h : flatQ N b c = false) :
    (-200000 ≤ (circF N b c).1 ∧ (circF N b c).1 ≤ 200000) ∧ (-200000 ≤ (circF N b c).2 ∧ (circF N b c).2 ≤ 200000) ∧ (circF N b c).1 ≤ (circF N b c).2 ∧ (circF N b c).2 ≤ (circF N b c).1 + 1 := by
  unfold circF
  by_cases hc : c < 0
  · rw [if_pos hc]; simp only; omega
  · rw [if_neg hc]
    have := circ_spec hS (by omega) (hne (by omega)) (flatQ_of h (by omega))
    split <;> simp only <;> omega
theorem net_ne {N : Net} (hok : N.Ok) {c : Int} (h : c < N.cs.length) (h0 : 0 ≤ c) : (N.cs.getD c.toNat cn0).fr ≠ (N.cs.getD c.toNat cn0).to :=
  (hok.con _ (mem_getD (by omega))).1
theorem ave_sdE (s : List (Int × Int) × List (Int × Int)) (e : Int) : AVE 5 (.tuple [sdA s, i64 e]) (.tuple [sdA s, i64 e]) :=
  ave_tup2 (k := 4) (ave_agg2 (k := 3) (ave_br rfl fun _ _ => rfl) (ave_br rfl fun _ _ => rfl)) rfl
/-- What is first wrong of a circulation; the error of a circulation. -/
def chk0 (N : Net) (x : Int × Int) : Int := firstOf [formE N, crE x.1, crE x.2, if decide (x.1 ≤ x.2) = true then 0 else 9]
def chkE (N : Net) (x : Int × Int) : Int :=
  if chk0 N x = 0 then (if flatQ N (brF N) (clF N).1 then 11 else if provesB N (brF N) (clF N).1 x then 0 else 19) else chk0 N x
theorem firstOf4 (a b c d : Int) : firstOf [a, b, c, d] = if a = 0 then (if b = 0 then (if c = 0 then (if d = 0 then 0 else d) else c) else b) else a := rfl
theorem chk0_ok {N : Net} {x : Int × Int} (h : chk0 N x = 0) : formE N = 0 ∧ crE x.1 = 0 ∧ crE x.2 = 0 ∧ x.1 ≤ x.2 := by
  unfold chk0 at h
  rw [firstOf4] at h
  split at h
  · split at h
    · split at h
      · split at h
        · rename_i a b c d
          exact ⟨a, b, c, of_decide_eq_true d⟩
        · contradiction
      · contradiction
    · contradiction
  · contradiction
end Go.Tr

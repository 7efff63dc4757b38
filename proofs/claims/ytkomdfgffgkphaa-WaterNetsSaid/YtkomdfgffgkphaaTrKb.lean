/- Contracts of chapter 2: the least number, the flow through a conduit. Conditions: none. -/
import Derived.Test.YtkomdfgffgkphaaTrKa
namespace Go.Tr
open Go Go.Proofs
set_option maxRecDepth 20000

/-- The least number from a on, below b, of which p holds (b: none), by halves. -/
def leastF (p : Int → Bool) : Nat → Int → Int → Int
  | 0, a, _ => a
  | n + 1, a, b => if a < b then (bif p (a + (b - a) / 2) then leastF p n a (a + (b - a) / 2) else leastF p n (a + (b - a) / 2 + 1) b) else a

theorem S84 (g : FuncId) (l1 l2 : List AV) (p : Int → Bool) (a b : Int) (n : Nat) (ha : 0 ≤ a) (hb : b ≤ 4000000000000000000) (hn : (b - a).toNat < 2 ^ n)
    (hp : ∀ x, a ≤ x → x < b → SP g [i64 x, .rptr l1, .rptr l2] (vb (p x)) false) : SP 84 [i64 a, i64 b, .func (.func g) 0 [.rptr l1, .rptr l2]] (i64 (leastF p n a b)) false := by
  refine sound (d := 2) mixed2 Try.func84 (by kernel_rfl) (by kernel_rfl) ?_
  refine ⟨[], [0, 1, 2], fun s m => ∃ (n' : Nat) (a' b' : Int), a ≤ a' ∧ b' ≤ b ∧ (b' - a').toNat < 2 ^ n' ∧ leastF p n' a' b' = leastF p n a b ∧ s = ⟨[(0, i64 a'), (1, i64 b'), (2, .func (.func g) 0 [.rptr l1, .rptr l2])], ⟨[], [], none, 0⟩, []⟩ ∧ m = n',
    ⟨_, _, ⟨n, a, b, by omega, by omega, hn, rfl, rfl, rfl⟩, ⟨⟨rfl, rfl, rfl, rfl⟩, trivial, trivial⟩⟩, ?_⟩
  rintro s0 m0 ⟨n', a', b', h1, h2, h3, h4, rfl, hm0⟩
  refine ifB_intro (fun hc => ?_) (fun hc => ?_)
  · have hlt : a' < b' := of_decide_eq_true hc
    obtain ⟨k, rfl⟩ : ∃ k, n' = k + 1 := by
      cases n' with
      | zero => simp at h3; omega
      | succ k => exact ⟨k, rfl⟩
    have ht : (b' - a').tdiv 2 = (b' - a') / 2 := Int.tdiv_eq_ediv_of_nonneg (by omega)
    have hs : (b' - a').toNat < 2 ^ k * 2 := by rw [← Nat.pow_succ]; exact h3
    refine ⟨inK64 (by omega) (by omega), ?_⟩
    refine ⟨⟨by omega, inK64 (by omega) (by omega)⟩, ?_⟩
    refine ⟨inK64 (by omega) (by omega), ?_⟩
    refine .inl ⟨_, _, byS (d := 2) (hp (a' + (b' - a').tdiv 2) (by omega) (by omega)), ?_⟩
    rw [leastF, if_pos hlt] at h4
    rw [← ht] at h4
    refine ifB_intro (fun hx => ?_) (fun hx => ?_)
    · rw [hx, cond_true] at h4
      refine ⟨_, _, ⟨⟨k, a', a' + (b' - a').tdiv 2, by omega, by omega, by omega, h4, rfl, rfl⟩, by omega⟩, ⟨⟨rfl, rfl, rfl, rfl⟩, trivial, trivial⟩⟩
    · rw [hx, cond_false] at h4
      refine ⟨inK64 (by omega) (by omega), ?_⟩
      refine ⟨_, _, ⟨⟨k, a' + (b' - a').tdiv 2 + 1, b', by omega, by omega, by omega, h4, rfl, rfl⟩, by omega⟩, ⟨⟨rfl, rfl, rfl, rfl⟩, trivial, trivial⟩⟩
  · have hlt : ¬ a' < b' := of_decide_eq_false hc
    have h5 : leastF p n' a' b' = a' := by cases n' <;> simp [leastF, hlt]
    refine ⟨?_, nofun⟩
    show i64 _ = i64 _
    rw [← h4, h5]

theorem S134 (x r d : Int) (hx : 0 ≤ x) (hx2 : x ≤ 1000000) (hr : 0 ≤ r) (hr2 : r ≤ 1000000) : SP 134 [i64 x, .rptr [i64 r], .rptr [i64 d]] (vb (decide (r * x * x ≥ d))) false := by
  have h0 : 0 ≤ r * x := Int.mul_nonneg hr hx
  have h1 : r * x ≤ 1000000 * 1000000 := Int.mul_le_mul hr2 hx2 hx (by omega)
  have h2 : 0 ≤ r * x * x := Int.mul_nonneg h0 hx
  have h3 : r * x * x ≤ 1000000000000 * 1000000 := Int.mul_le_mul (by omega) hx2 hx (by omega)
  refine sound (d := 2) mixed2 Try.func134 (by kernel_rfl) (by kernel_rfl) ?_
  refine ⟨inK64 (by omega) (by omega), ?_⟩
  refine ⟨inK64 (by omega) (by omega), ?_⟩
  refine ⟨?_, nofun⟩
  rfl

/-- The flow through a conduit at a drop: rounded down and up. -/
def hiF (r d : Int) : Int := leastF (fun x => decide (r * x * x ≥ d)) 15 0 31623
def loOf (r d h : Int) : Int := if r * h * h > d then h - 1 else h
def loF (r d : Int) : Int := loOf r d (hiF r d)

theorem ave2 (a b : Int) : AVE 5 (.agg [i64 a, i64 b]) (.agg [i64 a, i64 b]) := by
  refine ⟨rfl, fun i x y h1 h2 => ?_⟩
  match i, h1, h2 with
  | 0, h1, h2 => cases h1; cases h2; rfl
  | 1, h1, h2 => cases h1; cases h2; rfl

theorem leastF_mem (p : Int → Bool) : ∀ (n : Nat) (a b : Int), a ≤ b → a ≤ leastF p n a b ∧ leastF p n a b ≤ b
  | 0, a, b, h => ⟨Int.le_refl _, h⟩
  | n + 1, a, b, h => by
    unfold leastF
    split
    · rename_i hlt
      cases p (a + (b - a) / 2) with
      | true => have := leastF_mem p n a (a + (b - a) / 2) (by omega); simp only [cond_true]; omega
      | false => have := leastF_mem p n (a + (b - a) / 2 + 1) b (by omega); simp only [cond_false]; omega
    · omega

theorem S83 (r d : Int) (hr : 0 ≤ r) (hr2 : r ≤ 1000000) : SP 83 [i64 r, i64 d] (.agg [i64 (loF r d), i64 (hiF r d)]) false := by
  have hm := leastF_mem (fun x => decide (r * x * x ≥ d)) 15 0 31623 (by omega)
  have hm1 : 0 ≤ hiF r d := hm.1
  have hm2 : hiF r d ≤ 31623 := hm.2
  have hS : SP 84 [i64 0, i64 31623, .func (.func 134) 0 [.rptr [i64 r], .rptr [i64 d]]] (i64 (hiF r d)) false :=
    S84 134 [i64 r] [i64 d] (fun x => decide (r * x * x ≥ d)) 0 31623 15 (by omega) (by omega) (by decide) (fun x h1 h2 => S134 x r d h1 (by omega) hr hr2)
  have hlo : loF r d = loOf r d (hiF r d) := rfl
  rw [hlo]
  clear hm hlo
  generalize hiF r d = H at *
  have h0 : 0 ≤ r * H := Int.mul_nonneg hr hm1
  have h1 : r * H ≤ 1000000 * 1000000 := Int.mul_le_mul hr2 (by omega) hm1 (by omega)
  have h2 : 0 ≤ r * H * H := Int.mul_nonneg h0 hm1
  have h3 : r * H * H ≤ 1000000000000 * 1000000 := Int.mul_le_mul (by omega) (by omega) hm1 (by omega)
  refine sound (d := 2) mixed2 Try.func83 (by kernel_rfl) (by kernel_rfl) ?_
  refine .inl ⟨_, _, byS (d := 2) (hS), ?_⟩
  refine ⟨inK64 (by omega) (by omega), ?_⟩
  refine ⟨inK64 (by omega) (by omega), ?_⟩
  refine ifB_intro (fun h => ?_) (fun h => ?_)
  · have h' : r * H * H > d := of_decide_eq_true h
    refine ⟨inK64 (by omega) (by omega), ?_⟩
    refine ⟨?_, nofun⟩
    show AVE 5 (.agg [i64 (H - 1), i64 H]) _
    have e : loOf r d H = H - 1 := if_pos h'
    rw [e]
    exact ave2 _ _
  · have h' : ¬ r * H * H > d := of_decide_eq_false h
    refine ⟨?_, nofun⟩
    show AVE 5 (.agg [i64 H, i64 H]) _
    have e : loOf r d H = H := if_neg h'
    rw [e]
    exact ave2 _ _
end Go.Tr

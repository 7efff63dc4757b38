/- Contracts of chapter 2: names. Conditions: none. -/
import Derived.Test.YtkomdfgffgkphaaGreatTr05

namespace Go.Tr
open Go Go.Proofs
set_option maxRecDepth 20000
set_option maxHeartbeats 8000000

def byteAt (s : ByteArray) (i : Nat) : Int := ((s.data.toList.getD i 0).toNat : Nat)
abbrev u8 (n : Int) : AV := .val (.int .u8 n)
def isLetter (c : Int) : Bool := decide (97 ≤ c ∧ c ≤ 122) || decide (65 ≤ c ∧ c ≤ 90)
def nameAt (i : Nat) (c : Int) : Bool := isLetter c || (!(decide (i = 0)) && (decide (c = 45) || decide (48 ≤ c ∧ c ≤ 57)))
def nameB (s : ByteArray) : Bool := decide (1 ≤ s.size ∧ s.size ≤ 12) && (List.range s.size).all fun i => nameAt i (byteAt s i)

theorem nameB_false {s : ByteArray} {k : Nat} (hk : k < s.size) (h : nameAt k (byteAt s k) = false) : nameB s = false := by
  unfold nameB
  rw [Bool.and_eq_false_iff]
  refine .inr ?_
  rw [List.all_eq_false]
  exact ⟨k, List.mem_range.2 hk, by rw [h]; exact Bool.false_ne_true⟩
theorem nameB_all {s : ByteArray} (h : ∀ j, j < s.size → nameAt j (byteAt s j) = true) : nameB s = decide (1 ≤ (s.size : Int) ∧ (s.size : Int) ≤ 12) := by
  unfold nameB
  have : (List.range s.size).all (fun i => nameAt i (byteAt s i)) = true := List.all_eq_true.2 fun i hi => h i (List.mem_range.1 hi)
  rw [this, Bool.and_true]
  exact decide_eq_decide.2 (by omega)
theorem byteAt_lt (s : ByteArray) (i : Nat) : 0 ≤ byteAt s i ∧ byteAt s i ≤ 255 := by
  unfold byteAt
  have := (s.data.toList.getD i 0).toNat_lt
  omega

theorem not_t {b : Bool} (h : (!b) = true) : b = false := by cases b <;> simp_all
theorem not_f {b : Bool} (h : (!b) = false) : b = true := by cases b <;> simp_all

theorem S84 (s : ByteArray) (hs : s.size ≤ 9223372036854775807) : SP 84 [sv s] (vb (nameB s)) false := by
  generalize hR : nameB s = R
  refine sound (d := 2) tok2 mixed2 Tryz.func84 (by kernel_rfl) (by kernel_rfl) ?_
  refine ⟨[], [0, 7, 8, 9], fun st m => ∃ k : Nat, k ≤ s.size ∧ (∀ j, j < k → nameAt j (byteAt s j) = true) ∧
      st = ⟨[(0, sv s), (7, .rslice 1 s.size fun i => [u8 (byteAt s i)]), (8, i64 s.size), (9, i64 k)], ⟨[], [], none, 0⟩, []⟩ ∧ m = s.size - k,
    ⟨_, _, ⟨0, by omega, fun j hj => absurd hj (Nat.not_lt_zero j), rfl, rfl⟩, ⟨⟨rfl, rfl, rfl, rfl⟩, trivial, trivial⟩⟩, ?_⟩
  rintro s0 m0 ⟨k, hk, hf, rfl, rfl⟩
  have hc := byteAt_lt s k
  have hI : inK .i64 (byteAt s k) := inK64 (by omega) (by omega)
  have hk1 : inK .i64 ((k : Int) + 1) ∨ ¬ k < s.size := by
    by_cases h : k < s.size
    · exact .inl (inK64 (by omega) (by omega))
    · exact .inr h
  have bad : nameAt k (byteAt s k) = false → k < s.size → vb false = vb R := fun h hlt => by rw [← hR, nameB_false hlt h]
  have good : nameAt k (byteAt s k) = true → ∀ j, j < k + 1 → nameAt j (byteAt s j) = true := fun h j hj => by
    rcases Nat.lt_succ_iff_lt_or_eq.1 hj with h' | rfl
    · exact hf j h'
    · exact h
  unfold nameAt isLetter at bad good
  refine ifB_intro (fun h1 => ?_) (fun h1 => ?_)
  · have hlt : k < s.size := by have := of_decide_eq_true h1; omega
    refine ⟨⟨by omega, by omega⟩, ?_⟩
    refine ⟨hI, ?_⟩
    refine .inl ⟨_, _, byS (d := 2) (S43 (byteAt s k) 97 122), ?_⟩
    refine ifB_intro (fun h2 => ?_) (fun h2 => ?_)
    · refine ⟨inK64 (by omega) (by omega), ?_⟩
      refine ⟨_, _, ⟨⟨k + 1, by omega, good (by rw [h2]; rfl), rfl, rfl⟩, by omega⟩, ⟨⟨rfl, rfl, rfl, rfl⟩, trivial, trivial⟩⟩
    · refine ⟨hI, ?_⟩
      refine .inl ⟨_, _, byS (d := 2) (S43 (byteAt s k) 65 90), ?_⟩
      refine ifB_intro (fun h3 => ?_) (fun h3 => ?_)
      · have h3' : decide (65 ≤ byteAt s k ∧ byteAt s k ≤ 90) = false := not_t h3
        rw [h2, h3'] at bad good
        refine ifB_intro (fun h4 => ?_) (fun h4 => ?_)
        · have h4' : k = 0 := by have := eq_of_beq h4; omega
          refine ⟨?_, nofun⟩
          exact bad (by simp [h4']) hlt
        · have h4' : ¬ k = 0 := by have := ne_of_beq_false h4; omega
          refine ifB_intro (fun h5 => ?_) (fun h5 => ?_)
          · have h5' : ¬ byteAt s k = 45 := bne_iff_ne.1 h5
            refine ⟨hI, ?_⟩
            refine .inl ⟨_, _, byS (d := 2) (S43 (byteAt s k) 48 57), ?_⟩
            refine ifB_intro (fun h6 => ?_) (fun h6 => ?_)
            · have h6' : decide (48 ≤ byteAt s k ∧ byteAt s k ≤ 57) = false := not_t h6
              refine ⟨?_, nofun⟩
              exact bad (by rw [h6']; simp [h5']) hlt
            · have h6' : decide (48 ≤ byteAt s k ∧ byteAt s k ≤ 57) = true := not_f h6
              refine ⟨inK64 (by omega) (by omega), ?_⟩
              refine ⟨_, _, ⟨⟨k + 1, by omega, good (by rw [h6']; simp [h4']), rfl, rfl⟩, by omega⟩, ⟨⟨rfl, rfl, rfl, rfl⟩, trivial, trivial⟩⟩
          · have h5' : byteAt s k = 45 := bne_eq_false_iff_eq.1 h5
            refine ⟨inK64 (by omega) (by omega), ?_⟩
            refine ⟨_, _, ⟨⟨k + 1, by omega, good (by simp [h4', h5']), rfl, rfl⟩, by omega⟩, ⟨⟨rfl, rfl, rfl, rfl⟩, trivial, trivial⟩⟩
      · have h3' : decide (65 ≤ byteAt s k ∧ byteAt s k ≤ 90) = true := not_f h3
        refine ⟨inK64 (by omega) (by omega), ?_⟩
        refine ⟨_, _, ⟨⟨k + 1, by omega, good (by rw [h3']; simp), rfl, rfl⟩, by omega⟩, ⟨⟨rfl, rfl, rfl, rfl⟩, trivial, trivial⟩⟩
  · have hlt : k = s.size := by have := of_decide_eq_false h1; omega
    refine .inl ⟨_, _, byS (d := 2) (S43 (s.size) 1 12), ?_⟩
    refine ⟨?_, nofun⟩
    show vb _ = vb R
    subst hlt
    rw [← hR, nameB_all hf]

theorem nameB_len {s : ByteArray} (h : ¬ (1 ≤ s.size ∧ s.size ≤ 12)) : nameB s = false := by
  unfold nameB
  rw [decide_eq_false h, Bool.false_and]

theorem S101 (s : ByteArray) (hs : s.size ≤ 9223372036854775807) : SP 101 [sv s] (vb (nameB s)) false := by
  generalize hR : nameB s = R
  refine sound (d := 2) tok2 mixed2 Tryz.func101 (by kernel_rfl) (by kernel_rfl) ?_
  refine ifB_intro (fun h0 => ?_) (fun h0 => ?_)
  · have h0' : (s.size : Int) < 1 := of_decide_eq_true h0
    refine ⟨?_, nofun⟩
    show vb false = vb R
    rw [← hR, nameB_len (by omega)]
  · have h0' : ¬ (s.size : Int) < 1 := of_decide_eq_false h0
    refine ifB_intro (fun hb => ?_) (fun hb => ?_)
    · have hb' : (s.size : Int) > 12 := of_decide_eq_true hb
      refine ⟨?_, nofun⟩
      show vb false = vb R
      rw [← hR, nameB_len (by omega)]
    · have hb' : ¬ (s.size : Int) > 12 := of_decide_eq_false hb
      refine ⟨[], [0, 3], fun st m => ∃ k : Nat, k ≤ s.size ∧ (∀ j, j < k → nameAt j (byteAt s j) = true) ∧ st = ⟨[(0, sv s), (3, i64 k)], ⟨[], [], none, 0⟩, []⟩ ∧ m = s.size - k,
        ⟨_, _, ⟨0, by omega, fun j hj => absurd hj (Nat.not_lt_zero j), rfl, rfl⟩, ⟨⟨rfl, rfl, rfl, rfl⟩, trivial, trivial⟩⟩, ?_⟩
      rintro s0 m0 ⟨k, hk, hf, rfl, rfl⟩
      have hc := byteAt_lt s k
      have bad : nameAt k (byteAt s k) = false → k < s.size → vb false = vb R := fun h hlt => by rw [← hR, nameB_false hlt h]
      have good : nameAt k (byteAt s k) = true → ∀ j, j < k + 1 → nameAt j (byteAt s j) = true := fun h j hj => by
        rcases Nat.lt_succ_iff_lt_or_eq.1 hj with h' | rfl
        · exact hf j h'
        · exact h
      unfold nameAt isLetter at bad good
      refine ifB_intro (fun h1 => ?_) (fun h1 => ?_)
      · have hlt : k < s.size := by have := of_decide_eq_true h1; omega
        refine ⟨⟨by omega, by omega⟩, ?_⟩
        refine ifB_intro (fun ha => ?_) (fun ha => ?_)
        · have ha' : 97 ≤ byteAt s k := of_decide_eq_true ha
          refine ifB_intro (fun hz => ?_) (fun hz => ?_)
          · have hz' : byteAt s k ≤ 122 := of_decide_eq_true hz
            refine ⟨inK64 (by omega) (by omega), ?_⟩
            refine ⟨_, _, ⟨⟨k + 1, by omega, good (by simp; omega), rfl, rfl⟩, by omega⟩, ⟨⟨rfl, rfl, rfl, rfl⟩, trivial, trivial⟩⟩
          · have hz' : ¬ (byteAt s k ≤ 122) := of_decide_eq_false hz
            refine ifB_intro (fun hl => ?_) (fun hl => ?_)
            · have hl' : 65 ≤ byteAt s k := of_decide_eq_true hl
              refine ifB_intro (fun hl9 => ?_) (fun hl9 => ?_)
              · have hl9' : ¬ byteAt s k ≤ 90 := of_decide_eq_false (not_t hl9)
                refine ifB_intro (fun h4 => ?_) (fun h4 => ?_)
                · have h4' : (k : Int) = 0 := eq_of_beq h4
                  refine ⟨?_, nofun⟩
                  exact bad (by simp; omega) hlt
                · have h4' : ¬ ((k : Int) = 0) := ne_of_beq_false h4
                  refine ifB_intro (fun h5 => ?_) (fun h5 => ?_)
                  · have h5' : ¬ byteAt s k = 45 := bne_iff_ne.1 h5
                    refine ifB_intro (fun h6 => ?_) (fun h6 => ?_)
                    · have h6' : byteAt s k < 48 := of_decide_eq_true h6
                      refine ⟨?_, nofun⟩
                      exact bad (by simp; omega) hlt
                    · have h6' : ¬ (byteAt s k < 48) := of_decide_eq_false h6
                      refine ifB_intro (fun h7 => ?_) (fun h7 => ?_)
                      · have h7' : byteAt s k > 57 := of_decide_eq_true h7
                        refine ⟨?_, nofun⟩
                        exact bad (by simp; omega) hlt
                      · have h7' : ¬ (byteAt s k > 57) := of_decide_eq_false h7
                        refine ⟨inK64 (by omega) (by omega), ?_⟩
                        refine ⟨_, _, ⟨⟨k + 1, by omega, good (by simp; omega), rfl, rfl⟩, by omega⟩, ⟨⟨rfl, rfl, rfl, rfl⟩, trivial, trivial⟩⟩
                  · have h5' : ¬ (¬ byteAt s k = 45) := not_not_intro <| bne_eq_false_iff_eq.1 h5
                    refine ⟨inK64 (by omega) (by omega), ?_⟩
                    refine ⟨_, _, ⟨⟨k + 1, by omega, good (by simp; omega), rfl, rfl⟩, by omega⟩, ⟨⟨rfl, rfl, rfl, rfl⟩, trivial, trivial⟩⟩
              · have hl9' : byteAt s k ≤ 90 := of_decide_eq_true (not_f hl9)
                refine ⟨inK64 (by omega) (by omega), ?_⟩
                refine ⟨_, _, ⟨⟨k + 1, by omega, good (by simp; omega), rfl, rfl⟩, by omega⟩, ⟨⟨rfl, rfl, rfl, rfl⟩, trivial, trivial⟩⟩
            · have hl' : ¬ (65 ≤ byteAt s k) := of_decide_eq_false hl
              refine ifB_intro (fun h4 => ?_) (fun h4 => ?_)
              · have h4' : (k : Int) = 0 := eq_of_beq h4
                refine ⟨?_, nofun⟩
                exact bad (by simp; omega) hlt
              · have h4' : ¬ ((k : Int) = 0) := ne_of_beq_false h4
                refine ifB_intro (fun h5 => ?_) (fun h5 => ?_)
                · have h5' : ¬ byteAt s k = 45 := bne_iff_ne.1 h5
                  refine ifB_intro (fun h6 => ?_) (fun h6 => ?_)
                  · have h6' : byteAt s k < 48 := of_decide_eq_true h6
                    refine ⟨?_, nofun⟩
                    exact bad (by simp; omega) hlt
                  · have h6' : ¬ (byteAt s k < 48) := of_decide_eq_false h6
                    refine ifB_intro (fun h7 => ?_) (fun h7 => ?_)
                    · have h7' : byteAt s k > 57 := of_decide_eq_true h7
                      refine ⟨?_, nofun⟩
                      exact bad (by simp; omega) hlt
                    · have h7' : ¬ (byteAt s k > 57) := of_decide_eq_false h7
                      refine ⟨inK64 (by omega) (by omega), ?_⟩
                      refine ⟨_, _, ⟨⟨k + 1, by omega, good (by simp; omega), rfl, rfl⟩, by omega⟩, ⟨⟨rfl, rfl, rfl, rfl⟩, trivial, trivial⟩⟩
                · have h5' : ¬ (¬ byteAt s k = 45) := not_not_intro <| bne_eq_false_iff_eq.1 h5
                  refine ⟨inK64 (by omega) (by omega), ?_⟩
                  refine ⟨_, _, ⟨⟨k + 1, by omega, good (by simp; omega), rfl, rfl⟩, by omega⟩, ⟨⟨rfl, rfl, rfl, rfl⟩, trivial, trivial⟩⟩
        · have ha' : ¬ (97 ≤ byteAt s k) := of_decide_eq_false ha
          refine ifB_intro (fun hm => ?_) (fun hm => ?_)
          · have hm' : 65 ≤ byteAt s k := of_decide_eq_true hm
            refine ifB_intro (fun hm9 => ?_) (fun hm9 => ?_)
            · have hm9' : ¬ byteAt s k ≤ 90 := of_decide_eq_false (not_t hm9)
              refine ifB_intro (fun h4 => ?_) (fun h4 => ?_)
              · have h4' : (k : Int) = 0 := eq_of_beq h4
                refine ⟨?_, nofun⟩
                exact bad (by simp; omega) hlt
              · have h4' : ¬ ((k : Int) = 0) := ne_of_beq_false h4
                refine ifB_intro (fun h5 => ?_) (fun h5 => ?_)
                · have h5' : ¬ byteAt s k = 45 := bne_iff_ne.1 h5
                  refine ifB_intro (fun h6 => ?_) (fun h6 => ?_)
                  · have h6' : byteAt s k < 48 := of_decide_eq_true h6
                    refine ⟨?_, nofun⟩
                    exact bad (by simp; omega) hlt
                  · have h6' : ¬ (byteAt s k < 48) := of_decide_eq_false h6
                    refine ifB_intro (fun h7 => ?_) (fun h7 => ?_)
                    · have h7' : byteAt s k > 57 := of_decide_eq_true h7
                      refine ⟨?_, nofun⟩
                      exact bad (by simp; omega) hlt
                    · have h7' : ¬ (byteAt s k > 57) := of_decide_eq_false h7
                      refine ⟨inK64 (by omega) (by omega), ?_⟩
                      refine ⟨_, _, ⟨⟨k + 1, by omega, good (by simp; omega), rfl, rfl⟩, by omega⟩, ⟨⟨rfl, rfl, rfl, rfl⟩, trivial, trivial⟩⟩
                · have h5' : ¬ (¬ byteAt s k = 45) := not_not_intro <| bne_eq_false_iff_eq.1 h5
                  refine ⟨inK64 (by omega) (by omega), ?_⟩
                  refine ⟨_, _, ⟨⟨k + 1, by omega, good (by simp; omega), rfl, rfl⟩, by omega⟩, ⟨⟨rfl, rfl, rfl, rfl⟩, trivial, trivial⟩⟩
            · have hm9' : byteAt s k ≤ 90 := of_decide_eq_true (not_f hm9)
              refine ⟨inK64 (by omega) (by omega), ?_⟩
              refine ⟨_, _, ⟨⟨k + 1, by omega, good (by simp; omega), rfl, rfl⟩, by omega⟩, ⟨⟨rfl, rfl, rfl, rfl⟩, trivial, trivial⟩⟩
          · have hm' : ¬ (65 ≤ byteAt s k) := of_decide_eq_false hm
            refine ifB_intro (fun h4 => ?_) (fun h4 => ?_)
            · have h4' : (k : Int) = 0 := eq_of_beq h4
              refine ⟨?_, nofun⟩
              exact bad (by simp; omega) hlt
            · have h4' : ¬ ((k : Int) = 0) := ne_of_beq_false h4
              refine ifB_intro (fun h5 => ?_) (fun h5 => ?_)
              · have h5' : ¬ byteAt s k = 45 := bne_iff_ne.1 h5
                refine ifB_intro (fun h6 => ?_) (fun h6 => ?_)
                · have h6' : byteAt s k < 48 := of_decide_eq_true h6
                  refine ⟨?_, nofun⟩
                  exact bad (by simp; omega) hlt
                · have h6' : ¬ (byteAt s k < 48) := of_decide_eq_false h6
                  refine ifB_intro (fun h7 => ?_) (fun h7 => ?_)
                  · have h7' : byteAt s k > 57 := of_decide_eq_true h7
                    refine ⟨?_, nofun⟩
                    exact bad (by simp; omega) hlt
                  · have h7' : ¬ (byteAt s k > 57) := of_decide_eq_false h7
                    refine ⟨inK64 (by omega) (by omega), ?_⟩
                    refine ⟨_, _, ⟨⟨k + 1, by omega, good (by simp; omega), rfl, rfl⟩, by omega⟩, ⟨⟨rfl, rfl, rfl, rfl⟩, trivial, trivial⟩⟩
              · have h5' : ¬ (¬ byteAt s k = 45) := not_not_intro <| bne_eq_false_iff_eq.1 h5
                refine ⟨inK64 (by omega) (by omega), ?_⟩
                refine ⟨_, _, ⟨⟨k + 1, by omega, good (by simp; omega), rfl, rfl⟩, by omega⟩, ⟨⟨rfl, rfl, rfl, rfl⟩, trivial, trivial⟩⟩
      · have hlt : k = s.size := by have := of_decide_eq_false h1; omega
        subst hlt
        refine ⟨?_, nofun⟩
        show vb true = vb R
        rw [← hR, nameB_all hf, decide_eq_true (by omega)]
end Go.Tr

/- Contracts of chapter 2: losses, texts. Conditions: none. -/
namespace Go.Tr
open Go Go.Proofs
set_option maxRecDepth 20000
set_option maxHeartbeats 8000000

theorem ave2t (a b : Int) : AVE 5 (.tuple [i64 a, i64 b]) (.tuple [i64 a, i64 b]) := by
  refine ⟨rfl, fun i x y h1 h2 => ?_⟩
  match i, h1, h2 with
  | 0, h1, h2 => cases h1; cases h2; rfl
  | 1, h1, h2 => cases h1; cases h2; rfl

theorem mul_bound {a b A B : Int} (ha : -A ≤ a) (ha2 : a ≤ A) (hb : -B ≤ b) (hb2 : b ≤ B) (hA : 0 ≤ A) (hB : 0 ≤ B) : -(A * B) ≤ a * b ∧ a * b ≤ A * B := by
  have h1 : a.natAbs ≤ A.toNat := by omega
  have h2 : b.natAbs ≤ B.toNat := by omega
  have h3 : (a * b).natAbs ≤ A.toNat * B.toNat := by rw [Int.natAbs_mul]; exact Nat.mul_le_mul h1 h2
  have h4 : ((A.toNat * B.toNat : Nat) : Int) = A * B := by rw [Int.natCast_mul]; rw [Int.toNat_of_nonneg hA, Int.toNat_of_nonneg hB]
  omega

def sizeF (f : Int) : Int := if -f > f then -f else f
theorem sizeF_le {f B : Int} (h : -B ≤ f) (h2 : f ≤ B) : -B ≤ sizeF f ∧ sizeF f ≤ B := by unfold sizeF; split <;> omega
def lossF (r f : Int) : Int := r * f * sizeF f
theorem loss_bound {r f : Int} (hr : 0 ≤ r) (hr2 : r ≤ 1000) (hf : -200000 ≤ f) (hf2 : f ≤ 200000) : inK .i64 (r * f) ∧ inK .i64 (r * f * sizeF f) := by
  have h1 := mul_bound (A := 1000) (B := 200000) (by omega) hr2 hf hf2 (by omega) (by omega)
  have h2 := mul_bound (a := r * f) (b := sizeF f) (A := 200000000) (B := 200000) (by omega) (by omega) (sizeF_le hf hf2).1 (sizeF_le hf hf2).2 (by omega) (by omega)
  exact ⟨inK64 (by omega) (by omega), inK64 (by omega) (by omega)⟩

theorem S65 (r f : Int) (hr : 0 ≤ r) (hr2 : r ≤ 1000) (hf : -200000 ≤ f) (hf2 : f ≤ 200000) : SP 65 [i64 r, i64 f] (i64 (lossF r f)) false := by
  obtain ⟨h1, h2⟩ := loss_bound hr hr2 hf hf2
  refine sound (d := 2) tok2 mixed2 Tryz.func65 (by kernel_rfl) (by kernel_rfl) ?_
  refine ⟨h1, ?_⟩
  refine ⟨inK64 (by omega) (by omega), ?_⟩
  refine ⟨h2, ?_⟩
  refine ⟨?_, nofun⟩
  rfl

theorem S69 (f : Int) (hf : -200000 ≤ f) (hf2 : f ≤ 200000) : SP 69 [i64 f] (i64 (sizeF f)) false := by
  refine sound (d := 2) tok2 mixed2 Tryz.func69 (by kernel_rfl) (by kernel_rfl) ?_
  refine ⟨inK64 (by omega) (by omega), ?_⟩
  refine ⟨?_, nofun⟩
  rfl

theorem S39 (r f : Int) (hr : 0 ≤ r) (hr2 : r ≤ 1000) (hf : -200000 ≤ f) (hf2 : f ≤ 200000) : SP 39 [i64 r, i64 f] (i64 (lossF r f)) false := by
  obtain ⟨h1, h2⟩ := loss_bound hr hr2 hf hf2
  refine sound (d := 2) tok2 mixed2 Tryz.func39 (by kernel_rfl) (by kernel_rfl) ?_
  refine ⟨h1, ?_⟩
  refine .inl ⟨_, _, byS (d := 2) (S69 f hf hf2), ?_⟩
  refine ⟨h2, ?_⟩
  refine ⟨?_, nofun⟩
  rfl

theorem S17 (f : Int) : SP 17 [i64 f] (i64 (if -200000 ≤ f ∧ f ≤ 200000 then 0 else 2)) false := by
  generalize hR : (if -200000 ≤ f ∧ f ≤ 200000 then (0 : Int) else 2) = R
  refine sound (d := 2) tok2 mixed2 Tryz.func17 (by kernel_rfl) (by kernel_rfl) ?_
  refine .inl ⟨_, _, byS (d := 2) (S37 f (-200000) 200000), ?_⟩
  refine ifB_intro (fun h => ?_) (fun h => ?_)
  · have h' := of_decide_eq_false (not_t h)
    refine ⟨?_, nofun⟩
    rw [if_neg h'] at hR
    subst hR
    rfl
  · have h' := of_decide_eq_true (not_f h)
    refine ⟨?_, nofun⟩
    rw [if_pos h'] at hR
    subst hR
    rfl

def listS (l : List ByteArray) : AV := .rslice 1 l.length fun i => [sv (l.getD i ByteArray.empty)]
def hasS (l : List ByteArray) (s : ByteArray) : Bool := l.any fun x => x.toList == s.toList
theorem hasS_drop {l : List ByteArray} {k : Nat} (h : k < l.length) (s : ByteArray) : hasS (l.drop k) s = ((l.getD k ByteArray.empty).toList == s.toList || hasS (l.drop (k + 1)) s) := by
  have e : l.getD k ByteArray.empty = l[k] := by simp [List.getD_eq_getElem?_getD, h]
  unfold hasS
  rw [List.drop_eq_getElem_cons h, List.any_cons, e]

theorem S102 (l : List ByteArray) (s : ByteArray) (hl : l.length ≤ 1000000000) : SP 102 [listS l, sv s] (vb (hasS l s)) false := by
  generalize hR : hasS l s = R
  refine sound (d := 2) tok2 mixed2 Tryz.func102 (by kernel_rfl) (by kernel_rfl) ?_
  refine ⟨[], [0, 1, 5], fun st m => ∃ k : Nat, k ≤ l.length ∧ hasS (l.drop k) s = R ∧ st = ⟨[(0, listS l), (1, sv s), (5, i64 k)], ⟨[], [], none, 0⟩, []⟩ ∧ m = l.length - k,
    ⟨_, _, ⟨0, by omega, hR, rfl, rfl⟩, ⟨⟨rfl, rfl, rfl, rfl⟩, trivial, trivial⟩⟩, ?_⟩
  rintro s0 m0 ⟨k, hk, hf, rfl, rfl⟩
  refine ifB_intro (fun h1 => ?_) (fun h1 => ?_)
  · have hlt : k < l.length := by have := of_decide_eq_true h1; omega
    rw [hasS_drop hlt] at hf
    refine ⟨⟨by omega, by omega⟩, ?_⟩
    refine ifB_intro (fun h2 => ?_) (fun h2 => ?_)
    · have h2' : ((l.getD k ByteArray.empty).toList == s.toList) = true := h2
      rw [h2'] at hf
      refine ⟨?_, nofun⟩
      show vb true = vb R
      rw [← hf]; rfl
    · have h2' : ((l.getD k ByteArray.empty).toList == s.toList) = false := h2
      rw [h2', Bool.false_or] at hf
      refine ⟨inK64 (by omega) (by omega), ?_⟩
      refine ⟨_, _, ⟨⟨k + 1, by omega, hf, rfl, rfl⟩, by omega⟩, ⟨⟨rfl, rfl, rfl, rfl⟩, trivial, trivial⟩⟩
  · have hlt : k = l.length := by have := of_decide_eq_false h1; omega
    subst hlt
    refine ⟨?_, nofun⟩
    show vb false = vb R
    rw [← hf, List.drop_length]; rfl
end Go.Tr

/- Contracts of chapter 2: small nets. Conditions: none. -/
namespace Go.Tr
open Go Go.Proofs
set_option maxRecDepth 20000
set_option maxHeartbeats 8000000

def fewB (N : Net) : Bool := decide (N.ns.length ≤ 12 ∧ N.cs.length ≤ 16) && (N.ns.all fun n => decide (n.name.size ≤ 20)) && N.cs.all fun c => decide (c.name.size ≤ 20)

/-- The block of a boxed net. -/
abbrev netBlk (N : Net) : AB := ⟨2, 1, fun _ => [listA 4 ndC nd0 N.ns, listA 6 cnC cn0 N.cs], 0, false, true, true⟩

theorem all_drop {α : Type} {p : α → Bool} {l : List α} {k : Nat} (h : k < l.length) (d : α) : (l.drop k).all p = (p (l.getD k d) && (l.drop (k + 1)).all p) := by
  have e : l.getD k d = l[k] := by simp [List.getD_eq_getElem?_getD, h]
  rw [List.drop_eq_getElem_cons h, List.all_cons, e]

theorem S5 (N : Net) (hN : N.In) : SP 5 [netV N] (vb (fewB N)) false := by
  have hl1 := hN.nl
  have hl2 := hN.cl
  generalize hR : fewB N = R
  refine sound (d := 2) tok2 mixed2 Tryz.func5 (by kernel_rfl) (by kernel_rfl) ?_
  have no : ¬ (N.ns.length ≤ 12 ∧ N.cs.length ≤ 16) → vb false = vb R := fun h => by
    rw [← hR]; unfold fewB; rw [decide_eq_false h]; rfl
  refine ifB_intro (fun h1 => ?_) (fun h1 => ?_)
  · have h1' : (N.ns.length : Int) > 12 := of_decide_eq_true h1
    refine ⟨?_, nofun⟩
    exact no (by omega)
  · have h1' : ¬ (N.ns.length : Int) > 12 := of_decide_eq_false h1
    refine ifB_intro (fun h2 => ?_) (fun h2 => ?_)
    · have h2' : (N.cs.length : Int) > 16 := of_decide_eq_true h2
      refine ⟨?_, nofun⟩
      exact no (by omega)
    · have h2' : ¬ (N.cs.length : Int) > 16 := of_decide_eq_false h2
      have hR1 : ((N.ns.all fun n => decide (n.name.size ≤ 20)) && N.cs.all fun c => decide (c.name.size ≤ 20)) = R := by
        rw [← hR]; unfold fewB; rw [decide_eq_true (by omega), Bool.true_and]
      refine ⟨[], [1, 3], fun st m => ∃ k : Nat, k ≤ N.ns.length ∧ (((N.ns.drop k).all fun n => decide (n.name.size ≤ 20)) && N.cs.all fun c => decide (c.name.size ≤ 20)) = R ∧
          st = ⟨[(1, .optr 0 0 0 0), (3, i64 k)], ⟨[netBlk N], [], none, 0⟩, []⟩ ∧ m = N.ns.length - k,
        ⟨_, _, ⟨0, by omega, hR1, rfl, rfl⟩, ⟨⟨rfl, rfl, rfl, rfl⟩, ⟨⟨rfl, rfl, rfl, rfl, fun _ => rfl, fun _ _ => rfl⟩, trivial⟩, trivial⟩⟩, ?_⟩
      rintro s0 m0 ⟨k, hk, hf, rfl, rfl⟩
      refine ifB_intro (fun h3 => ?_) (fun h3 => ?_)
      · have hlt : k < N.ns.length := by have := of_decide_eq_true h3; omega
        have hnm : (N.ns.getD k nd0).In := hN.ns _ (by simp [List.getD_eq_getElem?_getD, hlt])
        have hs := hnm.name
        rw [all_drop hlt nd0] at hf
        refine ⟨⟨by omega, by omega⟩, ?_⟩
        refine ifB_intro (fun h4 => ?_) (fun h4 => ?_)
        · have h4' : ((N.ns.getD k nd0).name.size : Int) > 20 := of_decide_eq_true h4
          refine ⟨?_, nofun⟩
          show vb false = vb R
          rw [← hf, decide_eq_false (by omega)]; rfl
        · have h4' : ¬ ((N.ns.getD k nd0).name.size : Int) > 20 := of_decide_eq_false h4
          rw [decide_eq_true (by omega), Bool.true_and] at hf
          refine ⟨inK64 (by omega) (by omega), ?_⟩
          refine ⟨_, _, ⟨⟨k + 1, by omega, hf, rfl, rfl⟩, by omega⟩, ⟨⟨rfl, rfl, rfl, rfl⟩, ⟨⟨rfl, rfl, rfl, rfl, fun _ => rfl, fun _ _ => rfl⟩, trivial⟩, trivial⟩⟩
      · have hlt : k = N.ns.length := by have := of_decide_eq_false h3; omega
        subst hlt
        rw [List.drop_length, List.all_nil, Bool.true_and] at hf
        refine ⟨[], [1, 4], fun st m => ∃ k : Nat, k ≤ N.cs.length ∧ ((N.cs.drop k).all fun c => decide (c.name.size ≤ 20)) = R ∧
            st = ⟨[(1, .optr 0 0 0 0), (4, i64 k)], ⟨[netBlk N], [], none, 0⟩, []⟩ ∧ m = N.cs.length - k,
          ⟨_, _, ⟨0, by omega, hf, rfl, rfl⟩, ⟨⟨rfl, rfl, rfl, rfl⟩, ⟨⟨rfl, rfl, rfl, rfl, fun _ => rfl, fun _ _ => rfl⟩, trivial⟩, trivial⟩⟩, ?_⟩
        rintro s0 m0 ⟨k, hk, hf, rfl, rfl⟩
        refine ifB_intro (fun h3 => ?_) (fun h3 => ?_)
        · have hlt : k < N.cs.length := by have := of_decide_eq_true h3; omega
          have hnm : (N.cs.getD k cn0).In := hN.cs _ (by simp [List.getD_eq_getElem?_getD, hlt])
          have hs := hnm.name
          rw [all_drop hlt cn0] at hf
          refine ⟨⟨by omega, by omega⟩, ?_⟩
          refine ifB_intro (fun h4 => ?_) (fun h4 => ?_)
          · have h4' : ((N.cs.getD k cn0).name.size : Int) > 20 := of_decide_eq_true h4
            refine ⟨?_, nofun⟩
            show vb false = vb R
            rw [← hf, decide_eq_false (by omega)]; rfl
          · have h4' : ¬ ((N.cs.getD k cn0).name.size : Int) > 20 := of_decide_eq_false h4
            rw [decide_eq_true (by omega), Bool.true_and] at hf
            refine ⟨inK64 (by omega) (by omega), ?_⟩
            refine ⟨_, _, ⟨⟨k + 1, by omega, hf, rfl, rfl⟩, by omega⟩, ⟨⟨rfl, rfl, rfl, rfl⟩, ⟨⟨rfl, rfl, rfl, rfl, fun _ => rfl, fun _ _ => rfl⟩, trivial⟩, trivial⟩⟩
        · have hlt : k = N.cs.length := by have := of_decide_eq_false h3; omega
          subst hlt
          refine ⟨?_, nofun⟩
          show vb true = vb R
          rw [← hf, List.drop_length]; rfl
end Go.Tr

/- Contracts of chapter 2: a net copied, errors of nodes and conduits (reference). Conditions: none. -/
namespace Go.Tr
open Go Go.Proofs
set_option maxRecDepth 20000
set_option maxHeartbeats 8000000

theorem ave_agg2 {k : Nat} {a b a' b' : AV} (ha : AVE k a a') (hb : AVE k b b') : AVE (k + 1) (.agg [a, b]) (.agg [a', b']) := by
  refine ⟨rfl, fun i x y h1 h2 => ?_⟩
  match i, h1, h2 with
  | 0, h1, h2 => cases h1; cases h2; exact ha
  | 1, h1, h2 => cases h1; cases h2; exact hb

theorem S7 (N : Net) (h1 : N.ns.length ≤ 1000) (h2 : N.cs.length ≤ 1000) : SP 7 [netV N] (netV N) false := by
  refine sound (d := 2) tok2 mixed2 Tryz.func7 (by kernel_rfl) (by kernel_rfl) ?_
  refine ⟨[], by kernel_rfl, ?_⟩
  refine ⟨⟨by omega, show (0 + N.ns.length) * (40 + 1) ≤ 1000000000000 by omega⟩, ?_⟩
  refine ⟨⟨by omega, show (0 + N.cs.length) * (48 + 1) ≤ 1000000000000 by omega⟩, ?_⟩
  refine ⟨?_, nofun⟩
  refine ave_agg2 (k := 4) (a := .rslice 4 (0 + N.ns.length) _) (b := .rslice 6 (0 + N.cs.length) _) ⟨rfl, Nat.zero_add _, fun i _ => ?_⟩ ⟨rfl, Nat.zero_add _, fun i _ => ?_⟩
  · show ndC (N.ns.getD (i - 0) nd0) = _
    rw [Nat.sub_zero]
  · show cnC (N.cs.getD (i - 0) cn0) = _
    rw [Nat.sub_zero]

def un (c : Bool) (e : Int) : Int := if c then 0 else e
def nodeRight (n : Nd) : Bool := if n.lake then decide (0 ≤ n.head ∧ n.head ≤ 1000000) else decide (-10000 ≤ n.draw ∧ n.draw ≤ 10000)
def nodeOther (n : Nd) : Int := if n.lake then n.draw else n.head
def nodeE (seen : List ByteArray) (n : Nd) : Int := firstOf [un (nameB n.name) 4, un (!hasS seen n.name) 5, un (nodeRight n) 2, un (nodeOther n == 0) 3]

theorem S66 (n : Nd) (hn : n.In) (seen : List ByteArray) (hl : seen.length ≤ 1000) : SP 66 [.agg (ndC n), listS seen] (i64 (nodeE seen n)) false := by
  generalize hR : nodeE seen n = R
  unfold nodeE at hR
  have hnm := hn.name
  refine sound (d := 2) tok2 mixed2 Tryz.func66 (by kernel_rfl) (by kernel_rfl) ?_
  refine .inl ⟨_, _, byS (d := 2) (S101 n.name hn.name), ?_⟩
  refine ifB_intro (fun h1 => ?_) (fun h1 => ?_)
  · rw [not_t h1] at hR
    refine ⟨?_, nofun⟩
    show i64 4 = i64 R
    rw [← hR]; rfl
  · rw [not_f h1] at hR
    refine .inl ⟨_, _, byS (d := 2) (S102 seen n.name (by omega)), ?_⟩
    refine ifB_intro (fun h2 => ?_) (fun h2 => ?_)
    · rw [h2] at hR
      refine ⟨?_, nofun⟩
      show i64 5 = i64 R
      rw [← hR]; rfl
    · rw [h2] at hR
      refine ifB_intro (fun h3 => ?_) (fun h3 => ?_)
      · have h3' : n.lake = true := h3
        unfold nodeRight nodeOther at hR
        rw [h3'] at hR
        refine .inl ⟨_, _, byS (d := 2) (S37 n.head 0 1000000), ?_⟩
        refine ifB_intro (fun h4 => ?_) (fun h4 => ?_)
        · simp only [if_pos, not_t h4] at hR
          refine ⟨?_, nofun⟩
          show i64 2 = i64 R
          rw [← hR]; rfl
        · simp only [if_pos, not_f h4] at hR
          refine ifB_intro (fun h5 => ?_) (fun h5 => ?_)
          · have h5' : (n.draw == 0) = false := by have : (n.draw != 0) = true := h5; simpa using this
            rw [h5'] at hR
            refine ⟨?_, nofun⟩
            show i64 3 = i64 R
            rw [← hR]; rfl
          · have h5' : (n.draw == 0) = true := by have : (n.draw != 0) = false := h5; simpa using this
            rw [h5'] at hR
            refine ⟨?_, nofun⟩
            show i64 0 = i64 R
            rw [← hR]; rfl
      · have h3' : n.lake = false := h3
        unfold nodeRight nodeOther at hR
        rw [h3'] at hR
        refine .inl ⟨_, _, byS (d := 2) (S37 n.draw (-10000) 10000), ?_⟩
        refine ifB_intro (fun h4 => ?_) (fun h4 => ?_)
        · simp only [Bool.false_eq_true, if_false, not_t h4] at hR
          refine ⟨?_, nofun⟩
          show i64 2 = i64 R
          rw [← hR]; rfl
        · simp only [Bool.false_eq_true, if_false, not_f h4] at hR
          refine ifB_intro (fun h5 => ?_) (fun h5 => ?_)
          · have h5' : (n.head == 0) = false := by have : (n.head != 0) = true := h5; simpa using this
            rw [h5'] at hR
            refine ⟨?_, nofun⟩
            show i64 3 = i64 R
            rw [← hR]; rfl
          · have h5' : (n.head == 0) = true := by have : (n.head != 0) = false := h5; simpa using this
            rw [h5'] at hR
            refine ⟨?_, nofun⟩
            show i64 0 = i64 R
            rw [← hR]; rfl
end Go.Tr

/- Contracts of chapter 2: errors of conduits (reference). Conditions: none. -/
namespace Go.Tr
open Go Go.Proofs
set_option maxRecDepth 20000
set_option maxHeartbeats 8000000

def isN (nn : Nat) (k : Int) : Bool := decide (0 ≤ k ∧ k ≤ (nn : Int) - 1)
def conE (nn : Nat) (seen : List ByteArray) (c : Cn) : Int :=
  firstOf [un (nameB c.name) 4, un (!hasS seen c.name) 5, un (isN nn c.fr && isN nn c.to) 6, un (!(c.fr == c.to)) 13, un (decide (0 ≤ c.res ∧ c.res ≤ 1000)) 2, un (c.valve || c.opn) 3]

theorem S67 (N : Net) (hN : N.ns.length ≤ 1000) (c : Cn) (hc : c.In) (seen : List ByteArray) (hl : seen.length ≤ 1000) : SP 67 [netV N, .agg (cnC c), listS seen] (i64 (conE N.ns.length seen c)) false := by
  generalize hR : conE N.ns.length seen c = R
  unfold conE isN at hR
  refine sound (d := 2) tok2 mixed2 Tryz.func67 (by kernel_rfl) (by kernel_rfl) ?_
  refine .inl ⟨_, _, byS (d := 2) (S101 c.name hc.name), ?_⟩
  refine ifB_intro (fun h1 => ?_) (fun h1 => ?_)
  · rw [not_t h1] at hR
    refine ⟨?_, nofun⟩
    show i64 4 = i64 R
    rw [← hR]; rfl
  · rw [not_f h1] at hR
    refine .inl ⟨_, _, byS (d := 2) (S102 seen c.name (by omega)), ?_⟩
    refine ifB_intro (fun h2 => ?_) (fun h2 => ?_)
    · rw [h2] at hR
      refine ⟨?_, nofun⟩
      show i64 5 = i64 R
      rw [← hR]; rfl
    · rw [h2] at hR
      refine ⟨inK64 (by omega) (by omega), ?_⟩
      refine .inl ⟨_, _, byS (d := 2) (S37 c.fr 0 (N.ns.length - 1)), ?_⟩
      refine ifB_intro (fun h3 => ?_) (fun h3 => ?_)
      · rw [not_t h3] at hR
        refine ⟨?_, nofun⟩
        show i64 6 = i64 R
        rw [← hR]; rfl
      · rw [not_f h3] at hR
        refine ⟨inK64 (by omega) (by omega), ?_⟩
        refine .inl ⟨_, _, byS (d := 2) (S37 c.to 0 (N.ns.length - 1)), ?_⟩
        refine ifB_intro (fun h4 => ?_) (fun h4 => ?_)
        · rw [not_t h4] at hR
          refine ⟨?_, nofun⟩
          show i64 6 = i64 R
          rw [← hR]; rfl
        · rw [not_f h4] at hR
          refine ifB_intro (fun h5 => ?_) (fun h5 => ?_)
          · have h5' : (c.fr == c.to) = true := h5
            rw [h5'] at hR
            refine ⟨?_, nofun⟩
            show i64 13 = i64 R
            rw [← hR]; rfl
          · have h5' : (c.fr == c.to) = false := h5
            rw [h5'] at hR
            refine .inl ⟨_, _, byS (d := 2) (S37 c.res 0 1000), ?_⟩
            refine ifB_intro (fun h6 => ?_) (fun h6 => ?_)
            · rw [not_t h6] at hR
              refine ⟨?_, nofun⟩
              show i64 2 = i64 R
              rw [← hR]; rfl
            · rw [not_f h6] at hR
              refine ifB_intro (fun h7 => ?_) (fun h7 => ?_)
              · have h7' : c.valve = false := not_t h7
                rw [h7'] at hR
                refine ifB_intro (fun h8 => ?_) (fun h8 => ?_)
                · have h8' : c.opn = false := not_t h8
                  rw [h8'] at hR
                  refine ⟨?_, nofun⟩
                  show i64 3 = i64 R
                  rw [← hR]; rfl
                · have h8' : c.opn = true := not_f h8
                  rw [h8'] at hR
                  refine ⟨?_, nofun⟩
                  show i64 0 = i64 R
                  rw [← hR]; rfl
              · have h7' : c.valve = true := not_f h7
                rw [h7'] at hR
                refine ⟨?_, nofun⟩
                show i64 0 = i64 R
                rw [← hR]; rfl
end Go.Tr

/- Contracts of chapter 2: which nets are valid (reference). Conditions: none. -/
namespace Go.Tr
open Go Go.Proofs
set_option maxRecDepth 20000
set_option maxHeartbeats 8000000

/-- The first that has an error, with its index. -/
def scan {α : Type} (e : List ByteArray → α → Int) (nm : α → ByteArray) : Nat → List ByteArray → List α → Option (Nat × Int)
  | _, _, [] => none
  | k, seen, x :: r => if e seen x = 0 then scan e nm (k + 1) (seen ++ [nm x]) r else some (k, e seen x)

theorem scan_drop {α : Type} {e : List ByteArray → α → Int} {nm : α → ByteArray} {l : List α} {k : Nat} (h : k < l.length) (d : α) (seen : List ByteArray) :
    scan e nm k seen (l.drop k) = if e seen (l.getD k d) = 0 then scan e nm (k + 1) (seen ++ [nm (l.getD k d)]) (l.drop (k + 1)) else some (k, e seen (l.getD k d)) := by
  have e : l.getD k d = l[k] := by simp [List.getD_eq_getElem?_getD, h]
  rw [List.drop_eq_getElem_cons h, scan, e]

def tailN (N : Net) : Int × Int := match scan (conE N.ns.length) Cn.name 0 [] N.cs with
  | some (k, e) => (k, e)
  | none => (0, 0)
def midN (N : Net) : Int × Int := match scan nodeE Nd.name 0 [] N.ns with
  | some (k, e) => (k, e)
  | none => tailN N
def checkN (N : Net) : Int × Int :=
  if N.ns.length = 0 ∨ N.cs.length = 0 then (0, 10) else if 10 < N.ns.length ∨ 14 < N.cs.length then (0, 8) else midN N
def pairA (p : Int × Int) : AV := .tuple [i64 p.1, i64 p.2]

theorem getD_append (seen : List ByteArray) (x : ByteArray) (i : Nat) (h : i < seen.length + 1) : (seen ++ [x]).getD i ByteArray.empty = if i < seen.length then seen.getD i ByteArray.empty else x := by
  by_cases hi : i < seen.length
  · simp [List.getD_eq_getElem?_getD, hi, List.getElem?_append_left hi]
  · have : i = seen.length := by omega
    subst this
    simp [List.getD_eq_getElem?_getD]

abbrev seenBlk (seen : List ByteArray) (fl : Bool) : AB := ⟨1, seen.length, fun i => [sv (seen.getD i ByteArray.empty)], 0, false, fl, false⟩
theorem listS_eq (seen : List ByteArray) : listS seen = .rslice 1 seen.length fun i => [sv (seen.getD i ByteArray.empty)] := by
  unfold listS
  simp
theorem seen_next (seen : List ByteArray) (x : ByteArray) (i : Nat) (h : i < seen.length + 1) : [sv ((seen ++ [x]).getD i ByteArray.empty)] = if i < seen.length then [sv (seen.getD (0 + i) ByteArray.empty)] else List.take 1 (List.drop ((i - seen.length) * 1) [sv x]) := by
  rw [getD_append seen x i h, Nat.zero_add]
  by_cases hi : i < seen.length
  · rw [if_pos hi, if_pos hi]
  · rw [if_neg hi, if_neg hi]
    have : i - seen.length = 0 := by omega
    rw [this]
    rfl
theorem S66a (n : Nd) (hn : n.In) (seen : List ByteArray) (hl : seen.length ≤ 1000) : SP 66 [.agg (ndC n), .rslice 1 seen.length fun i => [sv (seen.getD i ByteArray.empty)]] (i64 (nodeE seen n)) true := by
  rw [← listS_eq]
  exact (S66 n hn seen hl).pl rfl
theorem S67a (N : Net) (hN : N.ns.length ≤ 1000) (c : Cn) (hc : c.In) (seen : List ByteArray) (hl : seen.length ≤ 1000) : SP 67 [netV N, .agg (cnC c), .rslice 1 seen.length fun i => [sv (seen.getD i ByteArray.empty)]] (i64 (conE N.ns.length seen c)) true := by
  rw [← listS_eq]
  exact (S67 N hN c hc seen hl).pl rfl

theorem S36 (N : Net) (hN : N.In) : SP 36 [netV N] (pairA (checkN N)) false := by
  have hl1 := hN.nl
  have hl2 := hN.cl
  generalize hR : checkN N = R
  obtain ⟨R1, R2⟩ := R
  unfold checkN at hR
  refine sound (d := 2) tok2 mixed2 Tryz.func36 (by kernel_rfl) (by kernel_rfl) ?_
  have res : ∀ a b : Int, (a, b) = (R1, R2) → AVE 5 (.tuple [i64 a, i64 b]) (.tuple [i64 R1, i64 R2]) := fun a b h => by cases h; exact ave2t _ _
  refine ifB_intro (fun h1 => ?_) (fun h1 => ?_)
  · have h1' : (N.ns.length : Int) = 0 := eq_of_beq h1
    refine ⟨?_, nofun⟩
    rw [if_pos (by omega)] at hR
    exact res 0 10 hR
  · have h1' : ¬ (N.ns.length : Int) = 0 := ne_of_beq_false h1
    refine ifB_intro (fun h2 => ?_) (fun h2 => ?_)
    · have h2' : (N.cs.length : Int) = 0 := eq_of_beq h2
      refine ⟨?_, nofun⟩
      rw [if_pos (by omega)] at hR
      exact res 0 10 hR
    · have h2' : ¬ (N.cs.length : Int) = 0 := ne_of_beq_false h2
      rw [if_neg (by omega)] at hR
      refine ifB_intro (fun h3 => ?_) (fun h3 => ?_)
      · have h3' : (N.ns.length : Int) > 10 := of_decide_eq_true h3
        refine ⟨?_, nofun⟩
        rw [if_pos (by omega)] at hR
        exact res 0 8 hR
      · have h3' : ¬ (N.ns.length : Int) > 10 := of_decide_eq_false h3
        refine ifB_intro (fun h4 => ?_) (fun h4 => ?_)
        · have h4' : (N.cs.length : Int) > 14 := of_decide_eq_true h4
          refine ⟨?_, nofun⟩
          rw [if_pos (by omega)] at hR
          exact res 0 8 hR
        · have h4' : ¬ (N.cs.length : Int) > 14 := of_decide_eq_false h4
          rw [if_neg (by omega)] at hR
          refine ⟨[.slot 4 1], [1, 4, 5], fun st m => ∃ (k : Nat) (seen : List ByteArray), seen.length = k ∧ k ≤ N.ns.length ∧ (match scan nodeE Nd.name k seen (N.ns.drop k) with | some (k, e) => ((k : Int), e) | none => tailN N) = (R1, R2) ∧
              st = ⟨[(1, .optr 0 0 0 0), (4, .oslice 1 0 0 k none), (5, i64 k)], ⟨[netBlk N, ⟨1, k, fun i => [sv (seen.getD i ByteArray.empty)], 0, false, true, false⟩], [], none, 0⟩, []⟩ ∧ m = N.ns.length - k,
            ⟨_, _, ⟨0, [], rfl, by omega, hR, rfl, rfl⟩, ⟨⟨rfl, rfl, rfl, rfl⟩, ⟨⟨rfl, rfl, rfl, rfl, fun _ => rfl, fun _ _ => rfl⟩, ⟨rfl, rfl, rfl, rfl, fun _ => rfl, fun i h => absurd h (Nat.not_lt_zero i)⟩, trivial⟩, trivial⟩⟩, ?_⟩
          rintro s0 m0 ⟨k, seen, hk0, hk, hf, rfl, rfl⟩
          refine ifB_intro (fun h5 => ?_) (fun h5 => ?_)
          · have hlt : k < N.ns.length := by have := of_decide_eq_true h5; omega
            have hnm : (N.ns.getD k nd0).In := hN.ns _ (by simp [List.getD_eq_getElem?_getD, hlt])
            rw [scan_drop hlt nd0] at hf
            refine ⟨⟨by omega, by omega⟩, ?_⟩
            subst hk0
            refine .inl ⟨_, _, byS (d := 2) (S66a (N.ns.getD seen.length nd0) hnm seen (by omega)), ?_⟩
            refine ifB_intro (fun h6 => ?_) (fun h6 => ?_)
            · have h6' : ¬ nodeE seen (N.ns.getD seen.length nd0) = 0 := bne_iff_ne.1 h6
              rw [if_neg h6'] at hf
              refine ⟨?_, nofun⟩
              exact res _ _ hf
            · have h6' : nodeE seen (N.ns.getD seen.length nd0) = 0 := bne_eq_false_iff_eq.1 h6
              rw [if_pos h6'] at hf
              refine ⟨⟨by omega, by omega⟩, ?_⟩
              refine ⟨show (seen.length + 1) * (16 + 1) ≤ 1000000000000 by omega, ?_⟩
              refine ⟨inK64 (by omega) (by omega), ?_⟩
              refine ⟨_, _, ⟨⟨seen.length + 1, seen ++ [(N.ns.getD seen.length nd0).name], by simp, by omega, hf, rfl, rfl⟩, by omega⟩,
                ⟨⟨rfl, rfl, rfl, rfl⟩, ⟨⟨rfl, rfl, rfl, rfl, fun _ => rfl, fun _ _ => rfl⟩, ⟨rfl, rfl, rfl, rfl, fun _ => rfl, fun i h => ?_⟩, trivial⟩, trivial⟩⟩
              exact seen_next seen _ i h
          · have hlt : k = N.ns.length := by have := of_decide_eq_false h5; omega
            rw [hlt, List.drop_length, scan] at hf
            unfold tailN at hf
            clear hR hlt
            refine ⟨[.slot 4 1], [1, 4, 7], fun st m => ∃ (j : Nat) (se : List ByteArray), se.length = j ∧ j ≤ N.cs.length ∧ (match scan (conE N.ns.length) Cn.name j se (N.cs.drop j) with | some (k, e) => ((k : Int), e) | none => (0, 0)) = (R1, R2) ∧
                st = ⟨[(1, .optr 0 0 0 0), (4, .oslice 2 0 0 j none), (7, i64 j)], ⟨[netBlk N, ⟨1, k, fun i => [sv (seen.getD i ByteArray.empty)], 0, false, true, false⟩, ⟨1, j, fun i => [sv (se.getD i ByteArray.empty)], 0, false, true, false⟩], [], none, 0⟩, []⟩ ∧ m = N.cs.length - j,
              ⟨_, _, ⟨0, [], rfl, by omega, hf, rfl, rfl⟩, ⟨⟨rfl, rfl, rfl, rfl⟩, ⟨⟨rfl, rfl, rfl, rfl, fun _ => rfl, fun _ _ => rfl⟩, ⟨rfl, rfl, rfl, rfl, fun _ => rfl, fun _ _ => rfl⟩, ⟨rfl, rfl, rfl, rfl, fun _ => rfl, fun i h => absurd h (Nat.not_lt_zero i)⟩, trivial⟩, trivial⟩⟩, ?_⟩
            rintro s0 m0 ⟨j, se, hj0, hj, hf, rfl, rfl⟩
            refine ifB_intro (fun h5 => ?_) (fun h5 => ?_)
            · have hlt : j < N.cs.length := by have := of_decide_eq_true h5; omega
              have hnm : (N.cs.getD j cn0).In := hN.cs _ (by simp [List.getD_eq_getElem?_getD, hlt])
              rw [scan_drop hlt cn0] at hf
              refine ⟨[], by kernel_rfl, ?_⟩
              refine ⟨⟨by omega, by omega⟩, ?_⟩
              subst hj0
              refine .inl ⟨_, _, byP (d := 2) (S67a N (by omega) (N.cs.getD se.length cn0) hnm se (by omega)), ?_⟩
              refine ifB_intro (fun h6 => ?_) (fun h6 => ?_)
              · have h6' : ¬ conE N.ns.length se (N.cs.getD se.length cn0) = 0 := bne_iff_ne.1 h6
                rw [if_neg h6'] at hf
                refine ⟨?_, nofun⟩
                exact res _ _ hf
              · have h6' : conE N.ns.length se (N.cs.getD se.length cn0) = 0 := bne_eq_false_iff_eq.1 h6
                rw [if_pos h6'] at hf
                refine ⟨⟨by omega, by omega⟩, ?_⟩
                refine ⟨show (se.length + 1) * (16 + 1) ≤ 1000000000000 by omega, ?_⟩
                refine ⟨inK64 (by omega) (by omega), ?_⟩
                refine ⟨_, _, ⟨⟨se.length + 1, se ++ [(N.cs.getD se.length cn0).name], by simp, by omega, hf, rfl, rfl⟩, by omega⟩,
                  ⟨⟨rfl, rfl, rfl, rfl⟩, ⟨⟨rfl, rfl, rfl, rfl, fun _ => rfl, fun _ _ => rfl⟩, ⟨rfl, rfl, rfl, rfl, fun _ => rfl, fun _ _ => rfl⟩, ⟨rfl, rfl, rfl, rfl, fun _ => rfl, fun i h => ?_⟩, trivial⟩, trivial⟩⟩
                exact seen_next se _ i h
            · have hlt : j = N.cs.length := by have := of_decide_eq_false h5; omega
              rw [hlt, List.drop_length, scan] at hf
              refine ⟨?_, nofun⟩
              exact res 0 0 hf
end Go.Tr

/- Contracts of chapter 2: what is reached. Conditions: none. -/
namespace Go.Tr
open Go Go.Proofs
set_option maxRecDepth 20000
set_option maxHeartbeats 8000000

def bools (l : List Bool) : AV := .rslice 1 l.length fun i => [vb (l.getD i false)]
theorem ave_bools {k n : Nat} {f : Nat → List AV} {l : List Bool} (hn : n = l.length) (hf : ∀ i, i < l.length → f i = [vb (l.getD i false)]) : AVE (k + 1) (.rslice 1 n f) (bools l) :=
  ⟨rfl, hn, fun i hi => hf i (hn ▸ hi)⟩
theorem plain_bools (l : List Bool) : PlainR (leaves (bools l)) :=
  ⟨fun i _ x hx => by rw [List.mem_singleton] at hx; exact ⟨_, hx⟩, trivial⟩

theorem S77 (N : Net) (i : Nat) (hi : i < N.cs.length) : SP 77 [netV N, i64 i] (vb (N.cs.getD i cn0).opn) false := by
  refine sound (d := 2) tok2 mixed2 Tryz.func77 (by kernel_rfl) (by kernel_rfl) ?_
  conv => whnf
  refine ⟨⟨(by omega), (by omega)⟩, ?_⟩
  conv => whnf
  refine ⟨?_, nofun⟩
  rfl

theorem touch_ne {m : List Bool} {a b : Nat} (h : ¬ m.getD a false = m.getD b false) : touch m a b = (m.set a true).set b true := by
  unfold touch; rw [if_pos]; simpa using h
theorem touch_eq {m : List Bool} {a b : Nat} (h : m.getD a false = m.getD b false) : touch m a b = m := by
  unfold touch; rw [if_neg]; simpa using h
def marks (n : Nat) (l : List Int) : List Bool := l.foldl (fun m k => m.set k.toNat true) (List.replicate n false)
theorem rep_row (n i : Nat) : [vb ((List.replicate n false).getD i false)] = [vb false] := by
  simp only [List.getD_eq_getElem?_getD, List.getElem?_replicate]
  split <;> rfl
theorem S76 (N : Net) (g : FuncId) (N' : Net) (use : Nat → Bool) (fm : List Int) (hn : N.ns.length ≤ 1000) (hc : N.cs.length ≤ 1000) (hr : inR N.ns.length N.cs) (hf : ∀ x ∈ fm, 0 ≤ x ∧ x < N.ns.length) (hl : fm.length ≤ 1000)
    (hg : ∀ i : Nat, i < N.cs.length → SP g [netV N', i64 i] (vb (use i)) true) : SP 76 [netV N, ints fm, .func (.func g) 1 [netV N']] (bools (clo use N.cs (marks N.ns.length fm))) true := by
  generalize hR : clo use N.cs (marks N.ns.length fm) = R
  refine sound (d := 2) tok2 mixed2 Tryz.func76 (by kernel_rfl) (by kernel_rfl) ?_
  conv => whnf
  refine ⟨⟨(by omega), ⟨(by omega), ⟨(by omega), (by show _ * ((1 : Nat) : Int) ≤ _; omega)⟩⟩⟩, ?_⟩
  conv => whnf
  refine ⟨[], [2, 3, 7, 18, 19, 20], fun st mq => ∃ (k : Nat) (x : List Bool), (k ≤ fm.length) ∧ (x.length = N.ns.length) ∧ ((fm.drop k).foldl (fun m k => m.set k.toNat true) x = marks N.ns.length fm) ∧ st = ⟨[(2, .func (.func g) 1 [netV N']), (3, .optr 0 0 0 0), (7, .oslice 1 0 0 N.ns.length (some N.ns.length)), (18, ints fm), (19, i64 fm.length), (20, i64 k)], ⟨[netBlk N, ⟨1, N.ns.length, fun i => [vb (x.getD i false)], 0, false, true, false⟩], [], none, 0⟩, []⟩ ∧ mq = fm.length - k,
    ⟨_, _, ⟨0, List.replicate N.ns.length false, by omega, by simp, rfl, rfl, rfl⟩, ⟨⟨rfl, rfl, rfl, rfl⟩, ⟨⟨rfl, rfl, rfl, rfl, fun _ => rfl, fun _ _ => rfl⟩, ⟨⟨rfl, rfl, rfl, rfl, fun _ => rfl, fun i _ => rep_row _ i⟩, trivial⟩⟩, trivial⟩⟩, ?_⟩
  rintro s0 m0 ⟨k, x, hk, hm, hf1, rfl, hmeas⟩
  by_cases hkl : k < fm.length
  · have hq := hf (fm.getD (k : Int).toNat 0) (by simp [List.getD_eq_getElem?_getD, hkl])
    have e := List.drop_eq_getElem_cons (l := fm) (i := k) hkl
    have e2 : fm.getD (k : Int).toNat 0 = fm[k] := by simp [List.getD_eq_getElem?_getD, hkl]
    rw [e, List.foldl_cons, ← e2] at hf1
    conv => whnf
    conv => whnf
    refine ifB_dec (fun w1 => ?_) (fun w1 => ?_)
    · conv => whnf
      conv => whnf
      refine ⟨⟨(by omega), (by omega)⟩, ?_⟩
      conv => whnf
      conv => whnf
      refine ⟨⟨(by omega), (by omega)⟩, ?_⟩
      refine ⟨_, fun i _ => row1 _ _ i _ (by first | omega | (simp only [List.length_set]; omega) | (simp only [List.length_replicate]; omega) | (simp only [List.length_set, List.length_replicate]; omega)), ?_⟩
      conv => whnf
      conv => whnf
      refine ⟨inK64 (by omega) (by omega), ?_⟩
      conv => whnf
      conv => whnf
      refine ⟨_, _, ⟨⟨k + 1, _, by omega, by (rw [List.length_set]; exact hm), hf1, rfl, rfl⟩, by omega⟩, ⟨⟨rfl, rfl, rfl, rfl⟩, ⟨⟨rfl, rfl, rfl, rfl, fun _ => rfl, fun _ _ => rfl⟩, ⟨⟨rfl, rfl, rfl, rfl, fun _ => rfl, fun _ _ => rfl⟩, trivial⟩⟩, trivial⟩⟩
    · (exfalso; omega)
  · have e : k = fm.length := by omega
    subst e
    rw [List.drop_length, List.foldl_nil] at hf1
    rw [← hf1] at hR
    conv => whnf
    conv => whnf
    refine ifB_dec (fun w1 => ?_) (fun w1 => ?_)
    · (exfalso; omega)
    · clear hk hkl hmeas hf1 w1
      conv => whnf
      conv => whnf
      refine ⟨[], [2, 3, 7, 10], fun st mq => ∃ (x : List Bool) (c : Bool), (x.length = N.ns.length) ∧ (clo use N.cs x = R) ∧ (c = false → sweep use 0 N.cs x = x) ∧ st = ⟨[(2, .func (.func g) 1 [netV N']), (3, .optr 0 0 0 0), (7, .oslice 1 0 0 N.ns.length (some N.ns.length)), (10, vb c)], ⟨[netBlk N, ⟨1, N.ns.length, fun i => [vb (x.getD i false)], 0, false, true, false⟩], [], none, 0⟩, []⟩ ∧ mq = nF x + c.toNat,
        ⟨_, _, ⟨x, true, hm, hR, nofun, rfl, rfl⟩, ⟨⟨rfl, rfl, rfl, rfl⟩, ⟨⟨rfl, rfl, rfl, rfl, fun _ => rfl, fun _ _ => rfl⟩, ⟨⟨rfl, rfl, rfl, rfl, fun _ => rfl, fun _ _ => rfl⟩, trivial⟩⟩, trivial⟩⟩, ?_⟩
      rintro s0 m0 ⟨x, c, hm, hR, hch, rfl, hmeas⟩
      cases c with
      | false =>
        have e : x = R := (clo_fix (hch rfl)).symm.trans hR
        conv => whnf
        conv => whnf
        conv => whnf
        refine ⟨?_, fun _ => ⟨rfl, ?_⟩⟩
        · subst e
          exact ave_bools hm.symm fun _ _ => rfl
        · exact plain_bools R
      | true =>
        have hr' : inR x.length N.cs := by rw [hm]; exact hr
        conv => whnf
        conv => whnf
        conv => whnf
        refine ⟨[], [2, 3, 7, 10, 31, 32, 33], fun st mq => ∃ (k : Nat) (y : List Bool) (c : Bool), (k ≤ N.cs.length) ∧ (y.length = N.ns.length) ∧ (sweep use k (N.cs.drop k) y = sweep use 0 N.cs x) ∧ ((c || sweepC use k (N.cs.drop k) y) = sweepC use 0 N.cs x) ∧ st = ⟨[(2, .func (.func g) 1 [netV N']), (3, .optr 0 0 0 0), (7, .oslice 1 0 0 N.ns.length (some N.ns.length)), (10, vb c), (31, listA 6 cnC cn0 N.cs), (32, i64 N.cs.length), (33, i64 k)], ⟨[netBlk N, ⟨1, N.ns.length, fun i => [vb (y.getD i false)], 0, false, true, false⟩], [], none, 0⟩, []⟩ ∧ mq = N.cs.length - k,
          ⟨_, _, ⟨0, x, false, by omega, hm, rfl, rfl, rfl, rfl⟩, ⟨⟨rfl, rfl, rfl, rfl⟩, ⟨⟨rfl, rfl, rfl, rfl, fun _ => rfl, fun _ _ => rfl⟩, ⟨⟨rfl, rfl, rfl, rfl, fun _ => rfl, fun _ _ => rfl⟩, trivial⟩⟩, trivial⟩⟩, ?_⟩
        rintro s0 m0 ⟨k, y, c, hk, hy, h1, h2, rfl, hmeas⟩
        by_cases hkl : k < N.cs.length
        · have hq := hr (N.cs.getD (k : Int).toNat cn0) (by simp [List.getD_eq_getElem?_getD, hkl])
          rw [sweep_drop y hkl] at h1
          rw [sweepC_drop y hkl] at h2
          have hg' := hg k hkl
          conv => whnf
          conv => whnf
          conv => whnf
          conv => whnf
          refine ifB_dec (fun w1 => ?_) (fun w1 => ?_)
          · conv => whnf
            conv => whnf
            conv => whnf
            conv => whnf
            refine ⟨⟨(by omega), (by omega)⟩, ?_⟩
            conv => whnf
            conv => whnf
            conv => whnf
            conv => whnf
            refine ⟨[], by kernel_rfl, ?_⟩
            conv => whnf
            conv => whnf
            conv => whnf
            conv => whnf
            refine .inl ⟨_, _, byX rfl (hg'), ?_⟩
            conv => whnf
            conv => whnf
            conv => whnf
            conv => whnf
            refine ifB_intro (fun w2 => ?_) (fun w2 => ?_)
            · conv => whnf
              conv => whnf
              conv => whnf
              conv => whnf
              refine ⟨⟨(by omega), (by omega)⟩, ?_⟩
              conv => whnf
              conv => whnf
              conv => whnf
              conv => whnf
              refine ⟨⟨(by omega), (by omega)⟩, ?_⟩
              conv => whnf
              conv => whnf
              conv => whnf
              conv => whnf
              refine ifB_not ?_
              conv => whnf
              conv => whnf
              conv => whnf
              conv => whnf
              refine ifB_beqB (fun w3 => ?_) (fun w3 => ?_)
              · conv => whnf
                conv => whnf
                conv => whnf
                conv => whnf
                refine ⟨inK64 (by omega) (by omega), ?_⟩
                have e : y.getD (N.cs.getD k cn0).fr.toNat false = y.getD (N.cs.getD k cn0).to.toNat false := by simpa using w3
                rw [touch_eq e] at h1 h2
                rw [e] at h2
                conv => whnf
                conv => whnf
                conv => whnf
                conv => whnf
                refine ⟨_, _, ⟨⟨k + 1, y, c, by omega, hy, by simpa using h1, by simpa using h2, rfl, rfl⟩, by omega⟩, ⟨⟨rfl, rfl, rfl, rfl⟩, ⟨⟨rfl, rfl, rfl, rfl, fun _ => rfl, fun _ _ => rfl⟩, ⟨⟨rfl, rfl, rfl, rfl, fun _ => rfl, fun _ _ => rfl⟩, trivial⟩⟩, trivial⟩⟩
              · conv => whnf
                conv => whnf
                conv => whnf
                conv => whnf
                refine ⟨[(5, 7)], by kernel_rfl, ?_⟩
                conv => whnf
                conv => whnf
                conv => whnf
                conv => whnf
                refine ⟨⟨(by omega), (by omega)⟩, ?_⟩
                refine ⟨_, fun i _ => row1 _ _ i _ (by first | omega | (simp only [List.length_set]; omega) | (simp only [List.length_replicate]; omega) | (simp only [List.length_set, List.length_replicate]; omega)), ?_⟩
                conv => whnf
                conv => whnf
                conv => whnf
                conv => whnf
                refine ⟨⟨(by omega), (by omega)⟩, ?_⟩
                refine ⟨_, fun i _ => row1 _ _ i _ (by first | omega | (simp only [List.length_set]; omega) | (simp only [List.length_replicate]; omega) | (simp only [List.length_set, List.length_replicate]; omega)), ?_⟩
                conv => whnf
                conv => whnf
                conv => whnf
                conv => whnf
                refine ⟨inK64 (by omega) (by omega), ?_⟩
                have e : ¬ y.getD (N.cs.getD k cn0).fr.toNat false = y.getD (N.cs.getD k cn0).to.toNat false := by simpa using w3
                rw [touch_ne e, if_pos w2] at h1 h2
                have e2 : (y.getD (N.cs.getD k cn0).fr.toNat false != y.getD (N.cs.getD k cn0).to.toNat false) = true := by simpa using e
                rw [e2, w2] at h2
                conv => whnf
                conv => whnf
                conv => whnf
                conv => whnf
                refine ⟨_, _, ⟨⟨k + 1, (y.set (N.cs.getD (k : Int).toNat cn0).fr.toNat true).set (N.cs.getD (k : Int).toNat cn0).to.toNat true, true, by omega, by simpa using hy, h1, by simpa using h2, rfl, rfl⟩, by omega⟩, ⟨⟨rfl, rfl, rfl, rfl⟩, ⟨⟨rfl, rfl, rfl, rfl, fun _ => rfl, fun _ _ => rfl⟩, ⟨⟨rfl, rfl, rfl, rfl, fun _ => rfl, fun _ _ => rfl⟩, trivial⟩⟩, trivial⟩⟩
            · conv => whnf
              conv => whnf
              conv => whnf
              conv => whnf
              refine ⟨inK64 (by omega) (by omega), ?_⟩
              rw [w2] at h1 h2
              conv => whnf
              conv => whnf
              conv => whnf
              conv => whnf
              refine ⟨_, _, ⟨⟨k + 1, y, c, by omega, hy, h1, by simpa using h2, rfl, rfl⟩, by omega⟩, ⟨⟨rfl, rfl, rfl, rfl⟩, ⟨⟨rfl, rfl, rfl, rfl, fun _ => rfl, fun _ _ => rfl⟩, ⟨⟨rfl, rfl, rfl, rfl, fun _ => rfl, fun _ _ => rfl⟩, trivial⟩⟩, trivial⟩⟩
          · (exfalso; omega)
        · have e : k = N.cs.length := by omega
          subst e
          rw [List.drop_length] at h1 h2
          have h1' : y = sweep use 0 N.cs x := h1
          have h2' : c = sweepC use 0 N.cs x := by rw [← h2]; simp [sweepC]
          have hs := sweep_nF use N.cs 0 x hr'
          conv => whnf
          conv => whnf
          conv => whnf
          conv => whnf
          refine ifB_dec (fun w1 => ?_) (fun w1 => ?_)
          · (exfalso; omega)
          · conv => whnf
            conv => whnf
            conv => whnf
            conv => whnf
            refine ⟨_, _, ⟨⟨y, c, hy, by rw [h1', clo_sweep hr']; exact hR, fun hc => ?_, rfl, rfl⟩, ?_⟩, ⟨⟨rfl, rfl, rfl, rfl⟩, ⟨⟨rfl, rfl, rfl, rfl, fun _ => rfl, fun _ _ => rfl⟩, ⟨⟨rfl, rfl, rfl, rfl, fun _ => rfl, fun _ _ => rfl⟩, trivial⟩⟩, trivial⟩⟩
            · have := hs.2 (h2'.symm.trans hc)
              rw [h1', this, this]
            · have := hs.1
              rw [← h2', ← h1'] at this
              cases c with
              | true => rw [if_pos rfl] at this; have t1 : true.toNat = 1 := rfl; omega
              | false => rw [if_neg nofun] at this; have t1 : true.toNat = 1 := rfl; have t0 : false.toNat = 0 := rfl; omega
end Go.Tr

/- Contracts of chapter 2: which nets are valid (the program). Conditions: none. -/
namespace Go.Tr
open Go Go.Proofs
set_option maxRecDepth 20000
set_option maxHeartbeats 8000000

theorem toList_loop (b : ByteArray) : ∀ (n i : Nat) (r : List UInt8), b.size - i = n → ByteArray.toList.loop b i r = r.reverse ++ b.data.toList.drop i
  | 0, i, r, h => by
    unfold ByteArray.toList.loop
    have hs : b.data.toList.length = b.size := Array.length_toList
    rw [if_neg (by omega), List.drop_eq_nil_of_le (by omega), List.append_nil]
  | n + 1, i, r, h => by
    unfold ByteArray.toList.loop
    have hi : i < b.size := by omega
    have hs : i < b.data.toList.length := by rw [Array.length_toList]; exact hi
    rw [if_pos hi, toList_loop b n (i + 1) _ (by omega), List.drop_eq_getElem_cons hs]
    have : b.get! i = b.data.toList[i] := by
      have hi' : i < b.data.size := hi
      show b.data[i]! = _
      rw [getElem!_pos b.data i hi', Array.getElem_toList]
    rw [this]
    simp
theorem toList_data (b : ByteArray) : b.toList = b.data.toList := by
  unfold ByteArray.toList
  rw [toList_loop b b.size 0 [] rfl]
  simp
theorem toList_beq (a b : ByteArray) : (a == b) = (b.toList == a.toList) := by
  rw [toList_data, toList_data]
  show (a.data == b.data) = _
  by_cases h : a = b
  · subst h; simp
  · have h1 : ¬ a.data = b.data := fun e => h (ByteArray.ext e)
    have h2 : ¬ b.data.toList = a.data.toList := fun e => h (ByteArray.ext (Array.ext' e.symm))
    rw [beq_eq_false_iff_ne.2 h1, beq_eq_false_iff_ne.2 h2]

theorem hasS_snoc (seen : List ByteArray) (x s : ByteArray) : hasS (seen ++ [x]) s = (hasS seen s || (s == x)) := by
  rw [toList_beq]
  simp [hasS]

theorem S31g (l : List Int) (f : Nat → List AV) (hl : l.length ≤ 1000) (h : ∀ i, i < l.length → f i = [i64 (l.getD i 0)]) : SP 31 [.rslice 1 l.length f] (i64 (firstOf l)) true := by
  refine Sound1.pl ((S31 l (by omega)).args rfl fun i y x hy hx => ?_) rfl
  match i, hy, hx with
  | 0, hy, hx => cases hy; cases hx; exact ⟨rfl, rfl, h⟩

theorem S85 (N : Net) (hN : N.ns.length ≤ 1000) (k : Int) : SP 85 [i64 k, .rptr [listA 4 ndC nd0 N.ns, listA 6 cnC cn0 N.cs]] (vb (isN N.ns.length k)) true := by
  refine Sound1.pl ?_ rfl
  refine sound (d := 2) tok2 mixed2 Tryz.func85 (by kernel_rfl) (by kernel_rfl) ?_
  refine ⟨inK64 (by omega) (by omega), ?_⟩
  refine .inl ⟨_, _, byS (d := 2) (S43 k 0 (N.ns.length - 1)), ?_⟩
  refine ⟨?_, nofun⟩
  rfl

theorem unA (c : Bool) (e : Int) : SP 33 [vb c, i64 e] (i64 (un c e)) false := by
  have := S33 c e
  unfold un
  exact this

theorem map_next (hs : Value → Bool) (key k : Value) : vb (hs k || opEv.keyEq k key) = bif opEv.keyEq k key then vb true else vb (hs k) := by
  cases opEv.keyEq k key <;> simp
theorem node_first (hs : Value → Bool) (seen : List ByteArray) (n : Nd) (h : hs (.string n.name) = hasS seen n.name) : firstOf [un (nameB n.name) 4, un (!hs (.string n.name)) 5, un (nodeRight n) 2, un (nodeOther n == 0) 3] = nodeE seen n := by
  rw [h]; rfl
theorem hs_next {hs : Value → Bool} {seen : List ByteArray} {x : ByteArray} (h : ∀ s, hs (.string s) = hasS seen s) (s : ByteArray) : (hs (.string s) || opEv.keyEq (.string s) (.string x)) = hasS (seen ++ [x]) s := by
  rw [hasS_snoc, h s]; rfl

set_option maxHeartbeats 4000000 in
theorem S54 (N : Net) (hN : N.In) : SP 54 [netV N] (pairA (checkN N)) false := by
  have hl1 := hN.nl
  have hl2 := hN.cl
  generalize hR : checkN N = R
  obtain ⟨R1, R2⟩ := R
  unfold checkN at hR
  have res : ∀ a b : Int, (a, b) = (R1, R2) → AVE 5 (.tuple [i64 a, i64 b]) (.tuple [i64 R1, i64 R2]) := fun a b h => by cases h; exact ave2t _ _
  by_cases hA : N.ns.length = 0 ∨ N.cs.length = 0
  · rw [if_pos hA] at hR
    refine sound (d := 2) tok2 mixed2 Tryz.func54 (by kernel_rfl) (by kernel_rfl) ?_
    refine ifB_intro (fun h1 => ?_) (fun h1 => ?_)
    · have h1' : (N.ns.length : Int) > 0 := of_decide_eq_true h1
      refine ifB_intro (fun h2 => ?_) (fun h2 => ?_)
      · have h2' : (N.ns.length : Int) ≤ 10 := of_decide_eq_true h2
        have e : firstOf [un (decide ((N.cs.length : Int) > 0)) 10, un (decide ((N.cs.length : Int) ≤ 14)) 8] = 10 := by rw [decide_eq_false (by omega)]; rfl
        refine .inl ⟨_, _, byS (d := 2) (unA (decide ((N.cs.length : Int) > 0)) 10), ?_⟩
        refine .inl ⟨_, _, byS (d := 2) (unA (decide ((N.cs.length : Int) ≤ 14)) 8), ?_⟩
        refine .inl ⟨_, _, byS (d := 2) (S31g [un (decide ((N.cs.length : Int) > 0)) 10, un (decide ((N.cs.length : Int) ≤ 14)) 8] _ (Nat.le_of_ble_eq_true rfl) (fun i hi => match i, hi with | 0, _ => rfl | 1, _ => rfl)), ?_⟩
        refine ifB_intro (fun h3 => ?_) (fun h3 => ?_)
        · refine ⟨?_, nofun⟩
          exact res 0 _ (by rw [e]; exact hR)
        · exact absurd (bne_eq_false_iff_eq.1 h3) (by rw [e]; decide)
      · have h2' : ¬ (N.ns.length : Int) ≤ 10 := of_decide_eq_false h2
        have e : firstOf [un (decide ((N.cs.length : Int) > 0)) 10, un (false) 8] = 10 := by rw [decide_eq_false (by omega)]; rfl
        refine .inl ⟨_, _, byS (d := 2) (unA (decide ((N.cs.length : Int) > 0)) 10), ?_⟩
        refine .inl ⟨_, _, byS (d := 2) (unA (false) 8), ?_⟩
        refine .inl ⟨_, _, byS (d := 2) (S31g [un (decide ((N.cs.length : Int) > 0)) 10, un (false) 8] _ (Nat.le_of_ble_eq_true rfl) (fun i hi => match i, hi with | 0, _ => rfl | 1, _ => rfl)), ?_⟩
        refine ifB_intro (fun h3 => ?_) (fun h3 => ?_)
        · refine ⟨?_, nofun⟩
          exact res 0 _ (by rw [e]; exact hR)
        · exact absurd (bne_eq_false_iff_eq.1 h3) (by rw [e]; decide)
    · have h1' : ¬ (N.ns.length : Int) > 0 := of_decide_eq_false h1
      refine ifB_intro (fun h2 => ?_) (fun h2 => ?_)
      · have h2' : (N.ns.length : Int) ≤ 10 := of_decide_eq_true h2
        refine .inl ⟨_, _, byS (d := 2) (unA (false) 10), ?_⟩
        refine .inl ⟨_, _, byS (d := 2) (unA (decide ((N.cs.length : Int) ≤ 14)) 8), ?_⟩
        refine .inl ⟨_, _, byS (d := 2) (S31g [un (false) 10, un (decide ((N.cs.length : Int) ≤ 14)) 8] _ (Nat.le_of_ble_eq_true rfl) (fun i hi => match i, hi with | 0, _ => rfl | 1, _ => rfl)), ?_⟩
        refine ⟨?_, nofun⟩
        exact res 0 10 hR
      · have h2' : ¬ (N.ns.length : Int) ≤ 10 := of_decide_eq_false h2
        refine .inl ⟨_, _, byS (d := 2) (unA (false) 10), ?_⟩
        refine .inl ⟨_, _, byS (d := 2) (unA (false) 8), ?_⟩
        refine .inl ⟨_, _, byS (d := 2) (S31g [un (false) 10, un (false) 8] _ (Nat.le_of_ble_eq_true rfl) (fun i hi => match i, hi with | 0, _ => rfl | 1, _ => rfl)), ?_⟩
        refine ⟨?_, nofun⟩
        exact res 0 10 hR
  · rw [if_neg hA] at hR
    by_cases hB : 10 < N.ns.length ∨ 14 < N.cs.length
    · rw [if_pos hB] at hR
      refine sound (d := 2) tok2 mixed2 Tryz.func54 (by kernel_rfl) (by kernel_rfl) ?_
      refine ifB_intro (fun h1 => ?_) (fun h1 => ?_)
      · have h1' : (N.ns.length : Int) > 0 := of_decide_eq_true h1
        refine ifB_intro (fun h2 => ?_) (fun h2 => ?_)
        · have h2' : (N.ns.length : Int) ≤ 10 := of_decide_eq_true h2
          have e : firstOf [un (decide ((N.cs.length : Int) > 0)) 10, un (decide ((N.cs.length : Int) ≤ 14)) 8] = 8 := by rw [decide_eq_true (by omega), decide_eq_false (by omega)]; rfl
          refine .inl ⟨_, _, byS (d := 2) (unA (decide ((N.cs.length : Int) > 0)) 10), ?_⟩
          refine .inl ⟨_, _, byS (d := 2) (unA (decide ((N.cs.length : Int) ≤ 14)) 8), ?_⟩
          refine .inl ⟨_, _, byS (d := 2) (S31g [un (decide ((N.cs.length : Int) > 0)) 10, un (decide ((N.cs.length : Int) ≤ 14)) 8] _ (Nat.le_of_ble_eq_true rfl) (fun i hi => match i, hi with | 0, _ => rfl | 1, _ => rfl)), ?_⟩
          refine ifB_intro (fun h3 => ?_) (fun h3 => ?_)
          · refine ⟨?_, nofun⟩
            exact res 0 _ (by rw [e]; exact hR)
          · exact absurd (bne_eq_false_iff_eq.1 h3) (by rw [e]; decide)
        · have h2' : ¬ (N.ns.length : Int) ≤ 10 := of_decide_eq_false h2
          have e : firstOf [un (decide ((N.cs.length : Int) > 0)) 10, un (false) 8] = 8 := by rw [decide_eq_true (by omega)]; rfl
          refine .inl ⟨_, _, byS (d := 2) (unA (decide ((N.cs.length : Int) > 0)) 10), ?_⟩
          refine .inl ⟨_, _, byS (d := 2) (unA (false) 8), ?_⟩
          refine .inl ⟨_, _, byS (d := 2) (S31g [un (decide ((N.cs.length : Int) > 0)) 10, un (false) 8] _ (Nat.le_of_ble_eq_true rfl) (fun i hi => match i, hi with | 0, _ => rfl | 1, _ => rfl)), ?_⟩
          refine ifB_intro (fun h3 => ?_) (fun h3 => ?_)
          · refine ⟨?_, nofun⟩
            exact res 0 _ (by rw [e]; exact hR)
          · exact absurd (bne_eq_false_iff_eq.1 h3) (by rw [e]; decide)
      · have h1' : ¬ (N.ns.length : Int) > 0 := of_decide_eq_false h1
        refine ifB_intro (fun h2 => ?_) (fun h2 => ?_)
        · have h2' : (N.ns.length : Int) ≤ 10 := of_decide_eq_true h2
          omega
        · have h2' : ¬ (N.ns.length : Int) ≤ 10 := of_decide_eq_false h2
          omega
    · rw [if_neg hB] at hR
      refine sound (d := 2) tok2 mixed2 Tryz.func54 (by kernel_rfl) (by kernel_rfl) ?_
      refine ifB_intro (fun h1 => ?_) (fun h1 => ?_)
      · have h1' : (N.ns.length : Int) > 0 := of_decide_eq_true h1
        refine ifB_intro (fun h2 => ?_) (fun h2 => ?_)
        · have h2' : (N.ns.length : Int) ≤ 10 := of_decide_eq_true h2
          have e : firstOf [un (decide ((N.cs.length : Int) > 0)) 10, un (decide ((N.cs.length : Int) ≤ 14)) 8] = 0 := by rw [decide_eq_true (by omega), decide_eq_true (by omega)]; rfl
          refine .inl ⟨_, _, byS (d := 2) (unA (decide ((N.cs.length : Int) > 0)) 10), ?_⟩
          refine .inl ⟨_, _, byS (d := 2) (unA (decide ((N.cs.length : Int) ≤ 14)) 8), ?_⟩
          refine .inl ⟨_, _, byS (d := 2) (S31g [un (decide ((N.cs.length : Int) > 0)) 10, un (decide ((N.cs.length : Int) ≤ 14)) 8] _ (Nat.le_of_ble_eq_true rfl) (fun i hi => match i, hi with | 0, _ => rfl | 1, _ => rfl)), ?_⟩
          refine ifB_intro (fun h3 => ?_) (fun h3 => ?_)
          · exact absurd e (bne_iff_ne.1 h3)
          · clear h3
            refine ⟨[], [1, 7, 49, 50, 51], fun st m => ∃ (k : Nat) (seen : List ByteArray) (hs : Value → Bool) (F : Nat → List AV), k ≤ N.ns.length ∧ seen.length = k ∧ (∀ s, hs (.string s) = hasS seen s) ∧
                (match scan nodeE Nd.name k seen (N.ns.drop k) with | some (k, e) => ((k : Int), e) | none => tailN N) = (R1, R2) ∧
                st = ⟨[(1, .optr 0 0 0 0), (7, .omap 0), (49, listA 4 ndC nd0 N.ns), (50, i64 N.ns.length), (51, i64 k)], ⟨[netBlk N, ⟨1, 2, F, 0, false, true, false⟩], [⟨none, 4, hs, fun k => vb (hs k), false⟩], none, 0⟩, []⟩ ∧ m = N.ns.length - k,
              ⟨_, _, ⟨0, [], fun _ => false, _, by omega, rfl, fun _ => rfl, hR, rfl, rfl⟩, ⟨⟨rfl, rfl, rfl, rfl⟩, ⟨⟨rfl, rfl, rfl, rfl, fun _ => rfl, fun _ _ => rfl⟩, ⟨rfl, rfl, rfl, rfl, fun _ => rfl, fun _ _ => rfl⟩, trivial⟩, ⟨rfl, rfl, rfl, fun _ => ⟨rfl, rfl⟩⟩, trivial⟩⟩, ?_⟩
            rintro s0 m0 ⟨k, seen, hs, F, hk, hk0, hhs, hf, rfl, rfl⟩
            refine ifB_intro (fun h5 => ?_) (fun h5 => ?_)
            · have hlt : k < N.ns.length := by have := of_decide_eq_true h5; omega
              have hnm : (N.ns.getD k nd0).In := hN.ns _ (by simp [List.getD_eq_getElem?_getD, hlt])
              rw [scan_drop hlt nd0] at hf
              refine ⟨⟨by omega, by omega⟩, ?_⟩
              refine ⟨[], by kernel_rfl, ?_⟩
              refine .inl ⟨_, _, byP (d := 2) (S62 (N.ns.getD k nd0).draw 10000 (by omega) (by omega)), ?_⟩
              refine ifB_intro (fun h6 => ?_) (fun h6 => ?_)
              · have h6' : (N.ns.getD k nd0).lake = true := h6
                refine ⟨[], by kernel_rfl, ?_⟩
                refine .inl ⟨_, _, byP (d := 2) (S43 (N.ns.getD k nd0).head 0 1000000), ?_⟩
                refine ⟨[], by kernel_rfl, ?_⟩
                refine .inl ⟨_, _, byP (d := 2) (S84 (N.ns.getD k nd0).name hnm.name), ?_⟩
                refine .inl ⟨_, _, byP (d := 2) (unA (nameB (N.ns.getD k nd0).name) 4), ?_⟩
                refine .inl ⟨_, _, byP (d := 2) (unA (!hs (.string (N.ns.getD k nd0).name)) 5), ?_⟩
                refine .inl ⟨_, _, byP (d := 2) (unA (decide (0 ≤ (N.ns.getD k nd0).head ∧ (N.ns.getD k nd0).head ≤ 1000000)) 2), ?_⟩
                refine .inl ⟨_, _, byP (d := 2) (unA ((N.ns.getD k nd0).draw == 0) 3), ?_⟩
                refine .inl ⟨_, _, byP (d := 2) (S31g [un (nameB (N.ns.getD k nd0).name) 4, un (!hs (.string (N.ns.getD k nd0).name)) 5, un (decide (0 ≤ (N.ns.getD k nd0).head ∧ (N.ns.getD k nd0).head ≤ 1000000)) 2, un ((N.ns.getD k nd0).draw == 0) 3] _ (Nat.le_of_ble_eq_true rfl)
                  (fun i hi => match i, hi with | 0, _ => rfl | 1, _ => rfl | 2, _ => rfl | 3, _ => rfl)), ?_⟩
                have e : firstOf [un (nameB (N.ns.getD k nd0).name) 4, un (!hs (.string (N.ns.getD k nd0).name)) 5, un (decide (0 ≤ (N.ns.getD k nd0).head ∧ (N.ns.getD k nd0).head ≤ 1000000)) 2, un ((N.ns.getD k nd0).draw == 0) 3] = nodeE seen (N.ns.getD k nd0) := by
                  rw [← node_first hs seen (N.ns.getD k nd0) (hhs _)]
                  unfold nodeRight nodeOther
                  rw [h6']
                  rfl
                refine ifB_intro (fun h7 => ?_) (fun h7 => ?_)
                · have h7' : ¬ nodeE seen (N.ns.getD k nd0) = 0 := by rw [← e]; exact bne_iff_ne.1 h7
                  rw [if_neg h7', ← e] at hf
                  refine ⟨?_, nofun⟩
                  exact res _ _ hf
                · have h7' : nodeE seen (N.ns.getD k nd0) = 0 := by rw [← e]; exact bne_eq_false_iff_eq.1 h7
                  rw [if_pos h7'] at hf
                  refine ⟨inK64 (by omega) (by omega), ?_⟩
                  refine ⟨_, _, ⟨⟨k + 1, seen ++ [(N.ns.getD k nd0).name], fun x => hs x || opEv.keyEq x (.string (N.ns.getD k nd0).name), F, by omega, by simp [hk0], fun s => hs_next hhs s, hf, rfl, rfl⟩, by omega⟩,
                    ⟨⟨rfl, rfl, rfl, rfl⟩, ⟨⟨rfl, rfl, rfl, rfl, fun _ => rfl, fun _ _ => rfl⟩, ⟨rfl, rfl, rfl, rfl, fun _ => rfl, fun _ _ => rfl⟩, trivial⟩, ⟨rfl, rfl, rfl, fun x => ⟨rfl, map_next hs _ x⟩⟩, trivial⟩⟩
              · have h6' : (N.ns.getD k nd0).lake = false := h6
                refine ⟨[], by kernel_rfl, ?_⟩
                refine .inl ⟨_, _, byP (d := 2) (S84 (N.ns.getD k nd0).name hnm.name), ?_⟩
                refine .inl ⟨_, _, byP (d := 2) (unA (nameB (N.ns.getD k nd0).name) 4), ?_⟩
                refine .inl ⟨_, _, byP (d := 2) (unA (!hs (.string (N.ns.getD k nd0).name)) 5), ?_⟩
                refine .inl ⟨_, _, byP (d := 2) (unA (decide (-10000 ≤ (N.ns.getD k nd0).draw ∧ (N.ns.getD k nd0).draw ≤ 10000)) 2), ?_⟩
                refine .inl ⟨_, _, byP (d := 2) (unA ((N.ns.getD k nd0).head == 0) 3), ?_⟩
                refine .inl ⟨_, _, byP (d := 2) (S31g [un (nameB (N.ns.getD k nd0).name) 4, un (!hs (.string (N.ns.getD k nd0).name)) 5, un (decide (-10000 ≤ (N.ns.getD k nd0).draw ∧ (N.ns.getD k nd0).draw ≤ 10000)) 2, un ((N.ns.getD k nd0).head == 0) 3] _ (Nat.le_of_ble_eq_true rfl)
                  (fun i hi => match i, hi with | 0, _ => rfl | 1, _ => rfl | 2, _ => rfl | 3, _ => rfl)), ?_⟩
                have e : firstOf [un (nameB (N.ns.getD k nd0).name) 4, un (!hs (.string (N.ns.getD k nd0).name)) 5, un (decide (-10000 ≤ (N.ns.getD k nd0).draw ∧ (N.ns.getD k nd0).draw ≤ 10000)) 2, un ((N.ns.getD k nd0).head == 0) 3] = nodeE seen (N.ns.getD k nd0) := by
                  rw [← node_first hs seen (N.ns.getD k nd0) (hhs _)]
                  unfold nodeRight nodeOther
                  rw [h6']
                  rfl
                refine ifB_intro (fun h7 => ?_) (fun h7 => ?_)
                · have h7' : ¬ nodeE seen (N.ns.getD k nd0) = 0 := by rw [← e]; exact bne_iff_ne.1 h7
                  rw [if_neg h7', ← e] at hf
                  refine ⟨?_, nofun⟩
                  exact res _ _ hf
                · have h7' : nodeE seen (N.ns.getD k nd0) = 0 := by rw [← e]; exact bne_eq_false_iff_eq.1 h7
                  rw [if_pos h7'] at hf
                  refine ⟨inK64 (by omega) (by omega), ?_⟩
                  refine ⟨_, _, ⟨⟨k + 1, seen ++ [(N.ns.getD k nd0).name], fun x => hs x || opEv.keyEq x (.string (N.ns.getD k nd0).name), F, by omega, by simp [hk0], fun s => hs_next hhs s, hf, rfl, rfl⟩, by omega⟩,
                    ⟨⟨rfl, rfl, rfl, rfl⟩, ⟨⟨rfl, rfl, rfl, rfl, fun _ => rfl, fun _ _ => rfl⟩, ⟨rfl, rfl, rfl, rfl, fun _ => rfl, fun _ _ => rfl⟩, trivial⟩, ⟨rfl, rfl, rfl, fun x => ⟨rfl, map_next hs _ x⟩⟩, trivial⟩⟩
            · have hlt : k = N.ns.length := by have := of_decide_eq_false h5; omega
              rw [hlt, List.drop_length, scan] at hf
              unfold tailN at hf
              clear hR hlt
              refine ⟨[], [1, 13, 14, 96, 97, 98], fun st m => ∃ (j : Nat) (se : List ByteArray) (hs2 : Value → Bool), j ≤ N.cs.length ∧ se.length = j ∧ (∀ s, hs2 (.string s) = hasS se s) ∧
                  (match scan (conE N.ns.length) Cn.name j se (N.cs.drop j) with | some (k, e) => ((k : Int), e) | none => (0, 0)) = (R1, R2) ∧
                  st = ⟨[(1, .optr 0 0 0 0), (13, .func (.func 85) 0 [.optr 0 0 0 0]), (14, .omap 1), (96, listA 6 cnC cn0 N.cs), (97, i64 N.cs.length), (98, i64 j)], ⟨[netBlk N, ⟨1, 2, F, 0, false, true, false⟩], [⟨none, 4, hs, fun k => vb (hs k), false⟩, ⟨none, 4, hs2, fun k => vb (hs2 k), false⟩], none, 0⟩, []⟩ ∧ m = N.cs.length - j,
                ⟨_, _, ⟨0, [], fun _ => false, by omega, rfl, fun _ => rfl, hf, rfl, rfl⟩, ⟨⟨rfl, rfl, rfl, rfl⟩, ⟨⟨rfl, rfl, rfl, rfl, fun _ => rfl, fun _ _ => rfl⟩, ⟨rfl, rfl, rfl, rfl, fun _ => rfl, fun _ _ => rfl⟩, trivial⟩, ⟨rfl, rfl, rfl, fun _ => ⟨rfl, rfl⟩⟩, ⟨rfl, rfl, rfl, fun _ => ⟨rfl, rfl⟩⟩, trivial⟩⟩, ?_⟩
              rintro s0 m0 ⟨j, se, hs2, hj, hj0, hhs2, hf, rfl, rfl⟩
              refine ifB_intro (fun h5 => ?_) (fun h5 => ?_)
              · have hlt : j < N.cs.length := by have := of_decide_eq_true h5; omega
                have hnm : (N.cs.getD j cn0).In := hN.cs _ (by simp [List.getD_eq_getElem?_getD, hlt])
                rw [scan_drop hlt cn0] at hf
                refine ⟨⟨by omega, by omega⟩, ?_⟩
                refine ⟨[], by kernel_rfl, ?_⟩
                refine .inl ⟨_, _, byP (d := 2) (S84 (N.cs.getD j cn0).name hnm.name), ?_⟩
                refine .inl ⟨_, _, byP (d := 2) (unA (nameB (N.cs.getD j cn0).name) 4), ?_⟩
                refine .inl ⟨_, _, byP (d := 2) (unA (!hs2 (.string (N.cs.getD j cn0).name)) 5), ?_⟩
                refine .inl ⟨_, _, byP (d := 2) (S85 N (by omega) (N.cs.getD j cn0).fr), ?_⟩
                refine ifB_intro (fun g1 => ?_) (fun g1 => ?_)
                · have g1' : isN N.ns.length (N.cs.getD j cn0).fr = true := g1
                  refine .inl ⟨_, _, byP (d := 2) (S85 N (by omega) (N.cs.getD j cn0).to), ?_⟩
                  refine .inl ⟨_, _, byP (d := 2) (unA (isN N.ns.length (N.cs.getD j cn0).to) 6), ?_⟩
                  refine .inl ⟨_, _, byP (d := 2) (unA ((N.cs.getD j cn0).fr != (N.cs.getD j cn0).to) 13), ?_⟩
                  refine .inl ⟨_, _, byP (d := 2) (S43 (N.cs.getD j cn0).res 0 1000), ?_⟩
                  refine .inl ⟨_, _, byP (d := 2) (unA (decide (0 ≤ (N.cs.getD j cn0).res ∧ (N.cs.getD j cn0).res ≤ 1000)) 2), ?_⟩
                  refine ifB_intro (fun g2 => ?_) (fun g2 => ?_)
                  · have g2' : (N.cs.getD j cn0).valve = true := g2
                    refine .inl ⟨_, _, byP (d := 2) (unA (true) 3), ?_⟩
                    refine .inl ⟨_, _, byP (d := 2) (S31g [un (nameB (N.cs.getD j cn0).name) 4, un (!hs2 (.string (N.cs.getD j cn0).name)) 5, un (isN N.ns.length (N.cs.getD j cn0).to) 6, un ((N.cs.getD j cn0).fr != (N.cs.getD j cn0).to) 13, un (decide (0 ≤ (N.cs.getD j cn0).res ∧ (N.cs.getD j cn0).res ≤ 1000)) 2, un (true) 3] _ (Nat.le_of_ble_eq_true rfl)
                      (fun i hi => match i, hi with | 0, _ => rfl | 1, _ => rfl | 2, _ => rfl | 3, _ => rfl | 4, _ => rfl | 5, _ => rfl)), ?_⟩
                    have e : firstOf [un (nameB (N.cs.getD j cn0).name) 4, un (!hs2 (.string (N.cs.getD j cn0).name)) 5, un (isN N.ns.length (N.cs.getD j cn0).to) 6, un ((N.cs.getD j cn0).fr != (N.cs.getD j cn0).to) 13, un (decide (0 ≤ (N.cs.getD j cn0).res ∧ (N.cs.getD j cn0).res ≤ 1000)) 2, un (true) 3] = conE N.ns.length se (N.cs.getD j cn0) := by
                      unfold conE
                      rw [g1', g2', hhs2]
                      rfl
                    refine ifB_intro (fun h7 => ?_) (fun h7 => ?_)
                    · have h7' : ¬ conE N.ns.length se (N.cs.getD j cn0) = 0 := by rw [← e]; exact bne_iff_ne.1 h7
                      rw [if_neg h7', ← e] at hf
                      refine ⟨?_, nofun⟩
                      exact res _ _ hf
                    · have h7' : conE N.ns.length se (N.cs.getD j cn0) = 0 := by rw [← e]; exact bne_eq_false_iff_eq.1 h7
                      rw [if_pos h7'] at hf
                      refine ⟨inK64 (by omega) (by omega), ?_⟩
                      refine ⟨_, _, ⟨⟨j + 1, se ++ [(N.cs.getD j cn0).name], fun x => hs2 x || opEv.keyEq x (.string (N.cs.getD j cn0).name), by omega, by simp [hj0], fun s => hs_next hhs2 s, hf, rfl, rfl⟩, by omega⟩,
                        ⟨⟨rfl, rfl, rfl, rfl⟩, ⟨⟨rfl, rfl, rfl, rfl, fun _ => rfl, fun _ _ => rfl⟩, ⟨rfl, rfl, rfl, rfl, fun _ => rfl, fun _ _ => rfl⟩, trivial⟩, ⟨rfl, rfl, rfl, fun _ => ⟨rfl, rfl⟩⟩, ⟨rfl, rfl, rfl, fun x => ⟨rfl, map_next hs2 _ x⟩⟩, trivial⟩⟩
                  · have g2' : (N.cs.getD j cn0).valve = false := g2
                    refine .inl ⟨_, _, byP (d := 2) (unA ((N.cs.getD j cn0).opn) 3), ?_⟩
                    refine .inl ⟨_, _, byP (d := 2) (S31g [un (nameB (N.cs.getD j cn0).name) 4, un (!hs2 (.string (N.cs.getD j cn0).name)) 5, un (isN N.ns.length (N.cs.getD j cn0).to) 6, un ((N.cs.getD j cn0).fr != (N.cs.getD j cn0).to) 13, un (decide (0 ≤ (N.cs.getD j cn0).res ∧ (N.cs.getD j cn0).res ≤ 1000)) 2, un ((N.cs.getD j cn0).opn) 3] _ (Nat.le_of_ble_eq_true rfl)
                      (fun i hi => match i, hi with | 0, _ => rfl | 1, _ => rfl | 2, _ => rfl | 3, _ => rfl | 4, _ => rfl | 5, _ => rfl)), ?_⟩
                    have e : firstOf [un (nameB (N.cs.getD j cn0).name) 4, un (!hs2 (.string (N.cs.getD j cn0).name)) 5, un (isN N.ns.length (N.cs.getD j cn0).to) 6, un ((N.cs.getD j cn0).fr != (N.cs.getD j cn0).to) 13, un (decide (0 ≤ (N.cs.getD j cn0).res ∧ (N.cs.getD j cn0).res ≤ 1000)) 2, un ((N.cs.getD j cn0).opn) 3] = conE N.ns.length se (N.cs.getD j cn0) := by
                      unfold conE
                      rw [g1', g2', hhs2]
                      rfl
                    refine ifB_intro (fun h7 => ?_) (fun h7 => ?_)
                    · have h7' : ¬ conE N.ns.length se (N.cs.getD j cn0) = 0 := by rw [← e]; exact bne_iff_ne.1 h7
                      rw [if_neg h7', ← e] at hf
                      refine ⟨?_, nofun⟩
                      exact res _ _ hf
                    · have h7' : conE N.ns.length se (N.cs.getD j cn0) = 0 := by rw [← e]; exact bne_eq_false_iff_eq.1 h7
                      rw [if_pos h7'] at hf
                      refine ⟨inK64 (by omega) (by omega), ?_⟩
                      refine ⟨_, _, ⟨⟨j + 1, se ++ [(N.cs.getD j cn0).name], fun x => hs2 x || opEv.keyEq x (.string (N.cs.getD j cn0).name), by omega, by simp [hj0], fun s => hs_next hhs2 s, hf, rfl, rfl⟩, by omega⟩,
                        ⟨⟨rfl, rfl, rfl, rfl⟩, ⟨⟨rfl, rfl, rfl, rfl, fun _ => rfl, fun _ _ => rfl⟩, ⟨rfl, rfl, rfl, rfl, fun _ => rfl, fun _ _ => rfl⟩, trivial⟩, ⟨rfl, rfl, rfl, fun _ => ⟨rfl, rfl⟩⟩, ⟨rfl, rfl, rfl, fun x => ⟨rfl, map_next hs2 _ x⟩⟩, trivial⟩⟩
                · have g1' : isN N.ns.length (N.cs.getD j cn0).fr = false := g1
                  refine .inl ⟨_, _, byP (d := 2) (unA (false) 6), ?_⟩
                  refine .inl ⟨_, _, byP (d := 2) (unA ((N.cs.getD j cn0).fr != (N.cs.getD j cn0).to) 13), ?_⟩
                  refine .inl ⟨_, _, byP (d := 2) (S43 (N.cs.getD j cn0).res 0 1000), ?_⟩
                  refine .inl ⟨_, _, byP (d := 2) (unA (decide (0 ≤ (N.cs.getD j cn0).res ∧ (N.cs.getD j cn0).res ≤ 1000)) 2), ?_⟩
                  refine ifB_intro (fun g2 => ?_) (fun g2 => ?_)
                  · have g2' : (N.cs.getD j cn0).valve = true := g2
                    refine .inl ⟨_, _, byP (d := 2) (unA (true) 3), ?_⟩
                    refine .inl ⟨_, _, byP (d := 2) (S31g [un (nameB (N.cs.getD j cn0).name) 4, un (!hs2 (.string (N.cs.getD j cn0).name)) 5, un (false) 6, un ((N.cs.getD j cn0).fr != (N.cs.getD j cn0).to) 13, un (decide (0 ≤ (N.cs.getD j cn0).res ∧ (N.cs.getD j cn0).res ≤ 1000)) 2, un (true) 3] _ (Nat.le_of_ble_eq_true rfl)
                      (fun i hi => match i, hi with | 0, _ => rfl | 1, _ => rfl | 2, _ => rfl | 3, _ => rfl | 4, _ => rfl | 5, _ => rfl)), ?_⟩
                    have e : firstOf [un (nameB (N.cs.getD j cn0).name) 4, un (!hs2 (.string (N.cs.getD j cn0).name)) 5, un (false) 6, un ((N.cs.getD j cn0).fr != (N.cs.getD j cn0).to) 13, un (decide (0 ≤ (N.cs.getD j cn0).res ∧ (N.cs.getD j cn0).res ≤ 1000)) 2, un (true) 3] = conE N.ns.length se (N.cs.getD j cn0) := by
                      unfold conE
                      rw [g1', g2', hhs2]
                      rfl
                    refine ifB_intro (fun h7 => ?_) (fun h7 => ?_)
                    · have h7' : ¬ conE N.ns.length se (N.cs.getD j cn0) = 0 := by rw [← e]; exact bne_iff_ne.1 h7
                      rw [if_neg h7', ← e] at hf
                      refine ⟨?_, nofun⟩
                      exact res _ _ hf
                    · have h7' : conE N.ns.length se (N.cs.getD j cn0) = 0 := by rw [← e]; exact bne_eq_false_iff_eq.1 h7
                      rw [if_pos h7'] at hf
                      refine ⟨inK64 (by omega) (by omega), ?_⟩
                      refine ⟨_, _, ⟨⟨j + 1, se ++ [(N.cs.getD j cn0).name], fun x => hs2 x || opEv.keyEq x (.string (N.cs.getD j cn0).name), by omega, by simp [hj0], fun s => hs_next hhs2 s, hf, rfl, rfl⟩, by omega⟩,
                        ⟨⟨rfl, rfl, rfl, rfl⟩, ⟨⟨rfl, rfl, rfl, rfl, fun _ => rfl, fun _ _ => rfl⟩, ⟨rfl, rfl, rfl, rfl, fun _ => rfl, fun _ _ => rfl⟩, trivial⟩, ⟨rfl, rfl, rfl, fun _ => ⟨rfl, rfl⟩⟩, ⟨rfl, rfl, rfl, fun x => ⟨rfl, map_next hs2 _ x⟩⟩, trivial⟩⟩
                  · have g2' : (N.cs.getD j cn0).valve = false := g2
                    refine .inl ⟨_, _, byP (d := 2) (unA ((N.cs.getD j cn0).opn) 3), ?_⟩
                    refine .inl ⟨_, _, byP (d := 2) (S31g [un (nameB (N.cs.getD j cn0).name) 4, un (!hs2 (.string (N.cs.getD j cn0).name)) 5, un (false) 6, un ((N.cs.getD j cn0).fr != (N.cs.getD j cn0).to) 13, un (decide (0 ≤ (N.cs.getD j cn0).res ∧ (N.cs.getD j cn0).res ≤ 1000)) 2, un ((N.cs.getD j cn0).opn) 3] _ (Nat.le_of_ble_eq_true rfl)
                      (fun i hi => match i, hi with | 0, _ => rfl | 1, _ => rfl | 2, _ => rfl | 3, _ => rfl | 4, _ => rfl | 5, _ => rfl)), ?_⟩
                    have e : firstOf [un (nameB (N.cs.getD j cn0).name) 4, un (!hs2 (.string (N.cs.getD j cn0).name)) 5, un (false) 6, un ((N.cs.getD j cn0).fr != (N.cs.getD j cn0).to) 13, un (decide (0 ≤ (N.cs.getD j cn0).res ∧ (N.cs.getD j cn0).res ≤ 1000)) 2, un ((N.cs.getD j cn0).opn) 3] = conE N.ns.length se (N.cs.getD j cn0) := by
                      unfold conE
                      rw [g1', g2', hhs2]
                      rfl
                    refine ifB_intro (fun h7 => ?_) (fun h7 => ?_)
                    · have h7' : ¬ conE N.ns.length se (N.cs.getD j cn0) = 0 := by rw [← e]; exact bne_iff_ne.1 h7
                      rw [if_neg h7', ← e] at hf
                      refine ⟨?_, nofun⟩
                      exact res _ _ hf
                    · have h7' : conE N.ns.length se (N.cs.getD j cn0) = 0 := by rw [← e]; exact bne_eq_false_iff_eq.1 h7
                      rw [if_pos h7'] at hf
                      refine ⟨inK64 (by omega) (by omega), ?_⟩
                      refine ⟨_, _, ⟨⟨j + 1, se ++ [(N.cs.getD j cn0).name], fun x => hs2 x || opEv.keyEq x (.string (N.cs.getD j cn0).name), by omega, by simp [hj0], fun s => hs_next hhs2 s, hf, rfl, rfl⟩, by omega⟩,
                        ⟨⟨rfl, rfl, rfl, rfl⟩, ⟨⟨rfl, rfl, rfl, rfl, fun _ => rfl, fun _ _ => rfl⟩, ⟨rfl, rfl, rfl, rfl, fun _ => rfl, fun _ _ => rfl⟩, trivial⟩, ⟨rfl, rfl, rfl, fun _ => ⟨rfl, rfl⟩⟩, ⟨rfl, rfl, rfl, fun x => ⟨rfl, map_next hs2 _ x⟩⟩, trivial⟩⟩
              · have hlt : j = N.cs.length := by have := of_decide_eq_false h5; omega
                rw [hlt, List.drop_length, scan] at hf
                refine ⟨?_, nofun⟩
                exact res 0 0 hf
        · have h2' : ¬ (N.ns.length : Int) ≤ 10 := of_decide_eq_false h2
          omega
      · have h1' : ¬ (N.ns.length : Int) > 0 := of_decide_eq_false h1
        refine ifB_intro (fun h2 => ?_) (fun h2 => ?_)
        · have h2' : (N.ns.length : Int) ≤ 10 := of_decide_eq_true h2
          omega
        · have h2' : ¬ (N.ns.length : Int) ≤ 10 := of_decide_eq_false h2
          omega
end Go.Tr

/- Contracts of chapter 2: valid nets, indexes, lakes. Conditions: none. -/
namespace Go.Tr
open Go Go.Proofs
set_option maxRecDepth 20000
set_option maxHeartbeats 8000000

/-- What is known of a valid net. -/
structure Net.Ok (N : Net) : Prop where
  n0 : 0 < N.ns.length
  n1 : N.ns.length ≤ 10
  c0 : 0 < N.cs.length
  c1 : N.cs.length ≤ 14
  ends : inR N.ns.length N.cs
  con : ∀ c ∈ N.cs, c.fr ≠ c.to ∧ 0 ≤ c.res ∧ c.res ≤ 1000 ∧ (c.valve = true ∨ c.opn = true)
  node : ∀ n ∈ N.ns, nodeRight n = true ∧ nodeOther n = 0

theorem firstOf_zero {l : List Int} (h : firstOf l = 0) : ∀ x ∈ l, x = 0 := by
  induction l with
  | nil => simp
  | cons y r ih =>
    unfold firstOf at h
    split at h
    · intro x hx
      rcases List.mem_cons.1 hx with rfl | hx
      · assumption
      · exact ih h x hx
    · contradiction
theorem un_zero {c : Bool} {e : Int} (he : e ≠ 0) (h : un c e = 0) : c = true := by
  unfold un at h
  cases c with
  | true => rfl
  | false => exact absurd h he
theorem scan_all {α : Type} {e : List ByteArray → α → Int} {nm : α → ByteArray} : ∀ {l : List α} {k : Nat} {seen : List ByteArray}, scan e nm k seen l = none → ∀ x ∈ l, ∃ s, e s x = 0
  | [], k, seen, _, x, hx => by simp at hx
  | y :: r, k, seen, h, x, hx => by
    unfold scan at h
    split at h
    · rcases List.mem_cons.1 hx with rfl | hx
      · exact ⟨seen, by assumption⟩
      · exact scan_all h x hx
    · cases h
theorem scan_ne {α : Type} {e : List ByteArray → α → Int} {nm : α → ByteArray} : ∀ {l : List α} {k : Nat} {seen : List ByteArray} {i : Nat} {x : Int}, scan e nm k seen l = some (i, x) → x ≠ 0
  | [], k, seen, i, x, h => by cases h
  | y :: r, k, seen, i, x, h => by
    unfold scan at h
    split at h
    · exact scan_ne h
    · cases h; assumption

theorem net_ok {N : Net} (h : (checkN N).2 = 0) : N.Ok := by
  unfold checkN at h
  split at h
  · cases h
  · split at h
    · cases h
    · rename_i h1 h2
      unfold midN at h
      split at h
      · rename_i k e hs; exact absurd h (scan_ne hs)
      · rename_i hs
        unfold tailN at h
        split at h
        · rename_i k e hs; exact absurd h (scan_ne hs)
        · rename_i hs2
          have hcs := scan_all hs2
          have hns := scan_all hs
          refine ⟨by omega, by omega, by omega, by omega, fun c hc => ?_, fun c hc => ?_, fun n hn => ?_⟩
          · obtain ⟨s, e⟩ := hcs c hc
            have := un_zero (by decide) (firstOf_zero e _ (by simp : un (isN N.ns.length c.fr && isN N.ns.length c.to) 6 ∈ _))
            simp only [isN, Bool.and_eq_true, decide_eq_true_eq] at this
            omega
          · obtain ⟨s, e⟩ := hcs c hc
            have a := un_zero (by decide) (firstOf_zero e _ (by simp : un (!(c.fr == c.to)) 13 ∈ _))
            have b := un_zero (by decide) (firstOf_zero e _ (by simp : un (decide (0 ≤ c.res ∧ c.res ≤ 1000)) 2 ∈ _))
            have d := un_zero (by decide) (firstOf_zero e _ (by simp : un (c.valve || c.opn) 3 ∈ _))
            simp only [decide_eq_true_eq] at b
            refine ⟨by simpa using a, b.1, b.2, by simpa using d⟩
          · obtain ⟨s, e⟩ := hns n hn
            have a := un_zero (by decide) (firstOf_zero e _ (by simp : un (nodeRight n) 2 ∈ _))
            have b := un_zero (by decide) (firstOf_zero e _ (by simp : un (nodeOther n == 0) 3 ∈ _))
            exact ⟨a, by simpa using b⟩

/-- The error of a net. -/
def netE (N : Net) : Int := (checkN N).2
theorem ave_pairNE (k : Nat) (N : Net) (e : Int) : AVE (k + 4) (.tuple [netV N, i64 e]) (.tuple [netV N, i64 e]) := by
  refine ⟨rfl, fun i x y h1 h2 => ?_⟩
  match i, h1, h2 with
  | 0, h1, h2 =>
    cases h1; cases h2
    refine ⟨rfl, fun i x y h1 h2 => ?_⟩
    match i, h1, h2 with
    | 0, h1, h2 => cases h1; cases h2; exact ⟨rfl, rfl, fun _ _ => rfl⟩
    | 1, h1, h2 => cases h1; cases h2; exact ⟨rfl, rfl, fun _ _ => rfl⟩
  | 1, h1, h2 => cases h1; cases h2; rfl

theorem S26 (N : Net) (hN : N.In) : SP 26 [netV N] (.tuple [netV N, i64 (netE N)]) false := by
  have h16 := S54 N hN
  unfold pairA at h16
  unfold netE
  generalize checkN N = p at *
  refine sound (d := 2) tok2 mixed2 Tryz.func26 (by kernel_rfl) (by kernel_rfl) ?_
  conv => whnf
  refine .inl ⟨_, _, byX rfl (Sound1.pl (h16) rfl), ?_⟩
  conv => whnf
  refine ⟨?_, nofun⟩
  exact ave_pairNE 1 N _
theorem S11 (N : Net) (hN : N.In) : SP 11 [netV N] (i64 (netE N)) false := by
  have h19 := S36 N hN
  unfold pairA at h19
  unfold netE
  generalize checkN N = p at *
  refine sound (d := 2) tok2 mixed2 Tryz.func11 (by kernel_rfl) (by kernel_rfl) ?_
  conv => whnf
  refine .inl ⟨_, _, byX rfl (Sound1.pl (h19) rfl), ?_⟩
  conv => whnf
  refine ⟨?_, nofun⟩
  rfl
def ndE (N : Net) (k : Int) : Int := if 0 ≤ k ∧ k ≤ (N.ns.length : Int) - 1 then 0 else 6
theorem S78 (N : Net) (hn : N.ns.length ≤ 9223372036854775807) (k : Int) : SP 78 [netV N, i64 k] (i64 (ndE N k)) false := by
  refine sound (d := 2) tok2 mixed2 Tryz.func78 (by kernel_rfl) (by kernel_rfl) ?_
  conv => whnf
  refine ⟨inK64 (by omega) (by omega), ?_⟩
  conv => whnf
  refine .inl ⟨_, _, byX rfl (Sound1.pl (S43 _ _ _) rfl), ?_⟩
  conv => whnf
  refine .inl ⟨_, _, byX rfl (Sound1.pl (S33 _ _) rfl), ?_⟩
  conv => whnf
  refine ⟨?_, nofun⟩
  show i64 _ = i64 _
  unfold ndE
  simp only [decide_eq_true_eq]

def whereF : Nat → List Bool → List Int
  | _, [] => []
  | k, b :: r => if b then (k : Int) :: whereF (k + 1) r else whereF (k + 1) r
theorem whereF_drop {l : List Bool} {k : Nat} (h : k < l.length) : whereF k (l.drop k) = if l.getD k false then (k : Int) :: whereF (k + 1) (l.drop (k + 1)) else whereF (k + 1) (l.drop (k + 1)) := by
  rw [List.drop_eq_getElem_cons h, whereF]; simp [List.getD_eq_getElem?_getD, h]
theorem app_row {acc : List Int} {n : Nat} (hn : acc.length = n) (x : Int) (i : Nat) (h : i < n + 1) : [i64 ((acc ++ [x]).getD i 0)] = if i < n then [i64 (acc.getD (0 + i) 0)] else List.take 1 (List.drop ((i - n) * 1) [i64 x]) := by
  subst hn
  rw [Nat.zero_add]
  by_cases hi : i < acc.length
  · rw [if_pos hi]; simp [List.getD_eq_getElem?_getD, hi, List.getElem?_append_left hi]
  · have : i = acc.length := by omega
    subst this
    rw [if_neg hi]; simp [List.getD_eq_getElem?_getD]

theorem S50 (l : List Bool) (hl : l.length ≤ 1000) : SP 50 [bools l] (ints (whereF 0 l)) false := by
  generalize hR : whereF 0 l = R
  refine sound (d := 2) tok2 mixed2 Tryz.func50 (by kernel_rfl) (by kernel_rfl) ?_
  conv => whnf
  refine ⟨[.slot 3 1], [3, 6, 7, 8], fun st mq => ∃ (k : Nat) (n : Nat) (a : List Int), (a.length = n) ∧ (k ≤ l.length) ∧ (n ≤ k) ∧ (a ++ whereF k (l.drop k) = R) ∧ st = ⟨[(3, .oslice 0 0 0 n none), (6, bools l), (7, i64 l.length), (8, i64 k)], ⟨[⟨1, n, fun i => [i64 (a.getD i 0)], 0, false, true, false⟩], [], none, 0⟩, []⟩ ∧ mq = l.length - k,
    ⟨_, _, ⟨0, 0, [], rfl, by omega, by omega, hR, rfl, rfl⟩, ⟨⟨rfl, rfl, rfl, rfl⟩, ⟨⟨rfl, rfl, rfl, rfl, fun _ => rfl, fun i h => absurd h (Nat.not_lt_zero i)⟩, trivial⟩, trivial⟩⟩, ?_⟩
  rintro s0 m0 ⟨k, n, a, hn, hk, ha, h1, rfl, hmeas⟩
  by_cases hkl : k < l.length
  · rw [whereF_drop hkl] at h1
    conv => whnf
    conv => whnf
    refine ifB_dec (fun w1 => ?_) (fun w1 => ?_)
    · conv => whnf
      conv => whnf
      refine ⟨⟨(by omega), (by omega)⟩, ?_⟩
      conv => whnf
      conv => whnf
      refine ifB_intro (fun w2 => ?_) (fun w2 => ?_)
      · conv => whnf
        conv => whnf
        refine ⟨(by show _ * (8 + 1) ≤ _; omega), ?_⟩
        conv => whnf
        conv => whnf
        refine ⟨inK64 (by omega) (by omega), ?_⟩
        have w : l.getD k false = true := w2
        rw [if_pos w] at h1
        conv => whnf
        conv => whnf
        refine ⟨_, _, ⟨⟨k + 1, n + 1, a ++ [(k : Int)], by simpa using hn, by omega, by omega, by simpa using h1, rfl, rfl⟩, by omega⟩, ⟨⟨rfl, rfl, rfl, rfl⟩, ⟨⟨rfl, rfl, rfl, rfl, fun _ => rfl, fun i h => app_row hn _ i h⟩, trivial⟩, trivial⟩⟩
      · conv => whnf
        conv => whnf
        refine ⟨inK64 (by omega) (by omega), ?_⟩
        have w : l.getD k false = false := w2
        rw [w] at h1
        conv => whnf
        conv => whnf
        refine ⟨_, _, ⟨⟨k + 1, n, a, hn, by omega, by omega, by simpa using h1, rfl, rfl⟩, by omega⟩, ⟨⟨rfl, rfl, rfl, rfl⟩, ⟨⟨rfl, rfl, rfl, rfl, fun _ => rfl, fun _ _ => rfl⟩, trivial⟩, trivial⟩⟩
    · (exfalso; omega)
  · have e : k = l.length := by omega
    subst e
    rw [List.drop_length] at h1
    conv => whnf
    conv => whnf
    refine ifB_dec (fun w1 => ?_) (fun w1 => ?_)
    · (exfalso; omega)
    · conv => whnf
      conv => whnf
      refine ⟨?_, nofun⟩
      have e2 : a = R := by simpa [whereF] using h1
      subst e2
      exact ave_ints hn.symm fun _ _ => rfl

/-- The lakes. -/
def lakesB (N : Net) : List Bool := N.ns.map Nd.lake
theorem lakesB_getD (N : Net) (k : Nat) (h : k < N.ns.length) : (lakesB N).getD k false = (N.ns.getD k nd0).lake := by
  simp [lakesB, List.getD_eq_getElem?_getD, h]
theorem S55 (N : Net) (hN : N.ns.length ≤ 1000) : SP 55 [netV N] (ints (whereF 0 (lakesB N))) false := by
  have hl : (lakesB N).length = N.ns.length := by simp [lakesB]
  generalize hR : whereF 0 (lakesB N) = R
  refine sound (d := 2) tok2 mixed2 Tryz.func55 (by kernel_rfl) (by kernel_rfl) ?_
  conv => whnf
  refine ⟨[.slot 3 1], [3, 8, 9, 10], fun st mq => ∃ (k : Nat) (n : Nat) (a : List Int), (a.length = n) ∧ (k ≤ N.ns.length) ∧ (n ≤ k) ∧ (a ++ whereF k ((lakesB N).drop k) = R) ∧ st = ⟨[(3, .oslice 1 0 0 n none), (8, listA 4 ndC nd0 N.ns), (9, i64 N.ns.length), (10, i64 k)], ⟨[netBlk N, ⟨1, n, fun i => [i64 (a.getD i 0)], 0, false, true, false⟩], [], none, 0⟩, []⟩ ∧ mq = N.ns.length - k,
    ⟨_, _, ⟨0, 0, [], rfl, by omega, by omega, hR, rfl, rfl⟩, ⟨⟨rfl, rfl, rfl, rfl⟩, ⟨⟨rfl, rfl, rfl, rfl, fun _ => rfl, fun _ _ => rfl⟩, ⟨⟨rfl, rfl, rfl, rfl, fun _ => rfl, fun i h => absurd h (Nat.not_lt_zero i)⟩, trivial⟩⟩, trivial⟩⟩, ?_⟩
  rintro s0 m0 ⟨k, n, a, hn, hk, ha, h1, rfl, hmeas⟩
  by_cases hkl : k < N.ns.length
  · rw [whereF_drop (by omega), lakesB_getD N k hkl] at h1
    conv => whnf
    conv => whnf
    refine ifB_dec (fun w1 => ?_) (fun w1 => ?_)
    · conv => whnf
      conv => whnf
      refine ⟨⟨(by omega), (by omega)⟩, ?_⟩
      conv => whnf
      conv => whnf
      refine ifB_intro (fun w2 => ?_) (fun w2 => ?_)
      · conv => whnf
        conv => whnf
        refine ⟨(by show _ * (8 + 1) ≤ _; omega), ?_⟩
        conv => whnf
        conv => whnf
        refine ⟨inK64 (by omega) (by omega), ?_⟩
        have w : (N.ns.getD k nd0).lake = true := w2
        rw [if_pos w] at h1
        conv => whnf
        conv => whnf
        refine ⟨_, _, ⟨⟨k + 1, n + 1, a ++ [(k : Int)], by simpa using hn, by omega, by omega, by simpa using h1, rfl, rfl⟩, by omega⟩, ⟨⟨rfl, rfl, rfl, rfl⟩, ⟨⟨rfl, rfl, rfl, rfl, fun _ => rfl, fun _ _ => rfl⟩, ⟨⟨rfl, rfl, rfl, rfl, fun _ => rfl, fun i h => app_row hn _ i h⟩, trivial⟩⟩, trivial⟩⟩
      · conv => whnf
        conv => whnf
        refine ⟨inK64 (by omega) (by omega), ?_⟩
        have w : (N.ns.getD k nd0).lake = false := w2
        rw [w] at h1
        conv => whnf
        conv => whnf
        refine ⟨_, _, ⟨⟨k + 1, n, a, hn, by omega, by omega, by simpa using h1, rfl, rfl⟩, by omega⟩, ⟨⟨rfl, rfl, rfl, rfl⟩, ⟨⟨rfl, rfl, rfl, rfl, fun _ => rfl, fun _ _ => rfl⟩, ⟨⟨rfl, rfl, rfl, rfl, fun _ => rfl, fun _ _ => rfl⟩, trivial⟩⟩, trivial⟩⟩
    · (exfalso; omega)
  · have e : k = N.ns.length := by omega
    subst e
    rw [← hl, List.drop_length] at h1
    conv => whnf
    conv => whnf
    refine ifB_dec (fun w1 => ?_) (fun w1 => ?_)
    · (exfalso; omega)
    · conv => whnf
      conv => whnf
      refine ⟨?_, nofun⟩
      have e2 : a = R := by simpa [whereF] using h1
      subst e2
      exact ave_ints hn.symm fun _ _ => rfl

theorem whereF_mem {l : List Bool} : ∀ {k : Nat} {x : Int}, x ∈ whereF k l → k ≤ x ∧ x < k + l.length := by
  induction l with
  | nil => intro k x h; simp [whereF] at h
  | cons b r ih =>
    intro k x h
    rw [whereF] at h
    have : x = k ∨ x ∈ whereF (k + 1) r := by
      cases b with
      | true => simpa using h
      | false => exact .inr (by simpa using h)
    rcases this with rfl | h
    · simp; omega
    · have := ih h
      simp only [List.length_cons]
      omega
theorem whereF_len : ∀ (l : List Bool) (k : Nat), (whereF k l).length ≤ l.length
  | [], k => by simp [whereF]
  | b :: r, k => by
    have := whereF_len r (k + 1)
    rw [whereF]
    split <;> simp <;> omega
/-- Marks at the indexes of a list of truth values are this list. -/
theorem marks_where_aux : ∀ (l : List Bool) (k : Nat) (m : List Bool), m.length = k + l.length → (∀ i, k ≤ i → m.getD i false = false) →
    ∀ i, ((whereF k l).foldl (fun m j => m.set j.toNat true) m).getD i false = if i < k then m.getD i false else l.getD (i - k) false
  | [], k, m, hm, h0, i => by
    simp only [whereF, List.foldl_nil]
    split
    · rfl
    · rw [h0 i (by omega)]; rfl
  | b :: r, k, m, hm, h0, i => by
    have hm' : m.length = k + 1 + r.length := by rw [hm]; simp; omega
    cases b with
    | true =>
      rw [whereF, if_pos rfl, List.foldl_cons]
      rw [marks_where_aux r (k + 1) (m.set (k : Int).toNat true) (by simp; omega) (fun j hj => by rw [getD_set, if_neg (fun e => by have := e.1; simp at this; omega)]; exact h0 j (by omega))]
      rw [getD_set]
      by_cases hi : i < k
      · rw [if_pos (by omega), if_pos hi, if_neg (fun e => by have := e.1; simp at this; omega)]
      · by_cases hi2 : i = k
        · subst hi2
          rw [if_pos (by omega), if_neg hi, if_pos ⟨by simp, by simp; omega⟩]; simp
        · rw [if_neg (by omega), if_neg hi, show i - k = i - (k + 1) + 1 by omega]; rfl
    | false =>
      rw [whereF, if_neg (by decide)]
      rw [marks_where_aux r (k + 1) m hm' (fun j hj => h0 j (by omega))]
      by_cases hi : i < k
      · rw [if_pos (by omega), if_pos hi]
      · by_cases hi2 : i = k
        · subst hi2
          rw [if_pos (by omega), if_neg hi, h0 i (by omega)]; simp
        · rw [if_neg (by omega), if_neg hi, show i - k = i - (k + 1) + 1 by omega]; rfl
theorem list_ext_getD {l m : List Bool} (h : l.length = m.length) (e : ∀ i, l.getD i false = m.getD i false) : l = m := by
  apply List.ext_getElem h
  intro i h1 h2
  have := e i
  simpa [List.getD_eq_getElem?_getD, h1, h2] using this
theorem foldl_set_len (l : List Int) : ∀ (m : List Bool), (l.foldl (fun m j => m.set j.toNat true) m).length = m.length := by
  induction l with
  | nil => intro m; rfl
  | cons x r ih => intro m; rw [List.foldl_cons, ih]; simp
theorem marks_where (l : List Bool) : marks l.length (whereF 0 l) = l := by
  apply list_ext_getD
  · unfold marks; rw [foldl_set_len]; simp
  · intro i
    unfold marks
    rw [marks_where_aux l 0 _ (by simp) (fun j _ => by simp only [List.getD_eq_getElem?_getD, List.getElem?_replicate]; split <;> rfl)]
    rw [if_neg (by omega)]; rfl
end Go.Tr

/- Contracts of chapter 2: wet conduits. Conditions: none. -/
namespace Go.Tr
open Go Go.Proofs
set_option maxRecDepth 20000
set_option maxHeartbeats 8000000

theorem bools_n {l : List Bool} {n : Nat} (h : l.length = n) : bools l = .rslice 1 n fun i => [vb (l.getD i false)] := by
  unfold bools; rw [h]
def opnU (N : Net) (k : Nat) : Bool := (N.cs.getD k cn0).opn
theorem set_inv {y W : List Bool} {k : Nat} {v : Bool} (h : ∀ i, i < k → y.getD i false = W.getD i false) (hk : k < y.length) (hv : v = W.getD k false) : ∀ i, i < k + 1 → (y.set k v).getD i false = W.getD i false := fun i hi => by
  rw [getD_set]
  by_cases e : i = k
  · subst e; rw [if_pos ⟨rfl, hk⟩]; exact hv
  · rw [if_neg (fun h => e h.1)]; exact h i (by omega)
theorem app_inv {y W : List Bool} {k : Nat} {v : Bool} (h : ∀ i, i < k → y.getD i false = W.getD i false) (hk : y.length = k) (hv : v = W.getD k false) : ∀ i, i < k + 1 → (y ++ [v]).getD i false = W.getD i false := fun i hi => by
  subst hk
  by_cases e : i < y.length
  · rw [← h i e]; simp [List.getD_eq_getElem?_getD, List.getElem?_append_left e]
  · have : i = y.length := by omega
    subst this
    rw [← hv]; simp [List.getD_eq_getElem?_getD]
theorem ext_inv {y W : List Bool} {n : Nat} (h1 : y.length = n) (h2 : W.length = n) (h : ∀ i, i < n → y.getD i false = W.getD i false) : y = W :=
  list_ext_getD (h1.trans h2.symm) fun i => by
    by_cases hi : i < n
    · exact h i hi
    · rw [List.getD_eq_getElem?_getD, List.getD_eq_getElem?_getD, List.getElem?_eq_none (by omega), List.getElem?_eq_none (by omega)]

/-- The nodes that are reached from lakes; the wet conduits. -/
def lakeR (N : Net) : List Bool := clo (opnU N) N.cs (lakesB N)
def wetC (N : Net) (c : Cn) : Bool := (lakeR N).getD c.to.toNat false || (c.opn && (lakeR N).getD c.fr.toNat false)
def wetB (N : Net) : List Bool := N.cs.map (wetC N)
theorem lakesB_len (N : Net) : (lakesB N).length = N.ns.length := by simp [lakesB]
theorem lakeR_len (N : Net) : (lakeR N).length = N.ns.length := by unfold lakeR; rw [clo_len, lakesB_len]
theorem wetB_len (N : Net) : (wetB N).length = N.cs.length := by simp [wetB]
theorem wetB_getD (N : Net) (k : Nat) (h : k < N.cs.length) : (wetB N).getD k false = wetC N (N.cs.getD k cn0) := by
  simp [wetB, List.getD_eq_getElem?_getD, h]

theorem app_rowB {acc : List Bool} {n : Nat} (hn : acc.length = n) (x : Bool) (i : Nat) (h : i < n + 1) : [vb ((acc ++ [x]).getD i false)] = if i < n then [vb (acc.getD (0 + i) false)] else List.take 1 (List.drop ((i - n) * 1) [vb x]) := by
  subst hn
  rw [Nat.zero_add]
  by_cases hi : i < acc.length
  · rw [if_pos hi]; simp [List.getD_eq_getElem?_getD, hi, List.getElem?_append_left hi]
  · have : i = acc.length := by omega
    subst this
    rw [if_neg hi]; simp [List.getD_eq_getElem?_getD]
theorem S77p (N : Net) (i : Nat) (hi : i < N.cs.length) : SP 77 [netV N, i64 i] (vb (opnU N i)) true := (S77 N i hi).pl rfl

theorem S49 (N : Net) (hn : N.ns.length ≤ 1000) (hc : N.cs.length ≤ 1000) (hr : inR N.ns.length N.cs) : SP 49 [netV N] (bools (wetB N)) true := by
  have h135 := S55 N hn
  have hw : ∀ x ∈ whereF 0 (lakesB N), 0 ≤ x ∧ x < N.ns.length := fun x hx => by
    have := whereF_mem hx
    rw [lakesB_len] at this
    omega
  have hwl := whereF_len (lakesB N) 0
  rw [lakesB_len] at hwl
  have h90 := S76 N 77 N (opnU N) (whereF 0 (lakesB N)) hn hc hr hw (by omega) (S77p N)
  have hm := marks_where (lakesB N)
  rw [lakesB_len] at hm
  rw [hm] at h90
  change SP 76 _ (bools (lakeR N)) true at h90
  have hR := lakeR_len N
  refine sound (d := 2) tok2 mixed2 Tryz.func49 (by kernel_rfl) (by kernel_rfl) ?_
  conv => whnf
  refine ⟨[], by kernel_rfl, ?_⟩
  conv => whnf
  refine .inl ⟨_, _, byX rfl (h135), ?_⟩
  conv => whnf
  refine .inl ⟨_, _, byX rfl (h90), ?_⟩
  conv => whnf
  refine ⟨[.slot 4 1], [1, 3, 4, 15, 16, 17], fun st mq => ∃ (k : Nat) (n : Nat) (a : List Bool), (a.length = n) ∧ (k ≤ N.cs.length) ∧ (n = k) ∧ (∀ i, i < k → a.getD i false = (wetB N).getD i false) ∧ st = ⟨[(1, .optr 0 0 0 0), (3, .oslice 1 0 0 (lakeR N).length none), (4, .oslice 2 0 0 n none), (15, listA 6 cnC cn0 N.cs), (16, i64 N.cs.length), (17, i64 k)], ⟨[netBlk N, ⟨1, (lakeR N).length, fun i => [vb ((lakeR N).getD i false)], 0, false, true, false⟩, ⟨1, n, fun i => [vb (a.getD i false)], 0, false, true, false⟩], [], none, 0⟩, []⟩ ∧ mq = N.cs.length - k,
    ⟨_, _, ⟨0, 0, [], rfl, by omega, rfl, fun i h => absurd h (Nat.not_lt_zero i), rfl, rfl⟩, ⟨⟨rfl, rfl, rfl, rfl⟩, ⟨⟨rfl, rfl, rfl, rfl, fun _ => rfl, fun _ _ => rfl⟩, ⟨⟨rfl, rfl, rfl, rfl, fun _ => rfl, fun _ _ => rfl⟩, ⟨⟨rfl, rfl, rfl, rfl, fun _ => rfl, fun i h => absurd h (Nat.not_lt_zero i)⟩, trivial⟩⟩⟩, trivial⟩⟩, ?_⟩
  rintro s0 m0 ⟨k, n, a, hn1, hk, ha, h1, rfl, hmeas⟩
  by_cases hkl : k < N.cs.length
  · have hq := hr (N.cs.getD (k : Int).toNat cn0) (by simp [List.getD_eq_getElem?_getD, hkl])
    have hW := wetB_getD N k hkl
    unfold wetC at hW
    subst ha
    conv => whnf
    conv => whnf
    refine ifB_dec (fun w1 => ?_) (fun w1 => ?_)
    · conv => whnf
      conv => whnf
      refine ⟨⟨(by omega), (by omega)⟩, ?_⟩
      conv => whnf
      conv => whnf
      refine ⟨⟨(by omega), (by omega)⟩, ?_⟩
      conv => whnf
      conv => whnf
      refine ifB_intro (fun w2 => ?_) (fun w2 => ?_)
      · conv => whnf
        conv => whnf
        refine ⟨(by show _ * (1 + 1) ≤ _; omega), ?_⟩
        conv => whnf
        conv => whnf
        refine ⟨inK64 (by omega) (by omega), ?_⟩
        have e : (lakeR N).getD (N.cs.getD n cn0).to.toNat false = true := by simpa using w2
        have hs := app_inv (v := true) h1 hn1 (by rw [hW, e]; rfl)
        conv => whnf
        conv => whnf
        refine ⟨_, _, ⟨⟨n + 1, n + 1, a ++ [true], by simpa using hn1, by omega, rfl, hs, rfl, rfl⟩, by omega⟩, ⟨⟨rfl, rfl, rfl, rfl⟩, ⟨⟨rfl, rfl, rfl, rfl, fun _ => rfl, fun _ _ => rfl⟩, ⟨⟨rfl, rfl, rfl, rfl, fun _ => rfl, fun _ _ => rfl⟩, ⟨⟨rfl, rfl, rfl, rfl, fun _ => rfl, fun i h => app_rowB hn1 _ i h⟩, trivial⟩⟩⟩, trivial⟩⟩
      · conv => whnf
        conv => whnf
        refine ifB_intro (fun w3 => ?_) (fun w3 => ?_)
        · conv => whnf
          conv => whnf
          refine ⟨⟨(by omega), (by omega)⟩, ?_⟩
          conv => whnf
          conv => whnf
          refine ⟨(by show _ * (1 + 1) ≤ _; omega), ?_⟩
          conv => whnf
          conv => whnf
          refine ⟨inK64 (by omega) (by omega), ?_⟩
          have e : (lakeR N).getD (N.cs.getD n cn0).to.toNat false = false := by simpa using w2
          have e2 : (N.cs.getD n cn0).opn = true := by simpa using w3
          have hs := app_inv (v := (lakeR N).getD (0 + (N.cs.getD (n : Int).toNat cn0).fr.toNat) false) h1 hn1 (by rw [hW, e, e2]; simp)
          conv => whnf
          conv => whnf
          refine ⟨_, _, ⟨⟨n + 1, n + 1, a ++ [(lakeR N).getD (0 + (N.cs.getD (n : Int).toNat cn0).fr.toNat) false], by simpa using hn1, by omega, rfl, hs, rfl, rfl⟩, by omega⟩, ⟨⟨rfl, rfl, rfl, rfl⟩, ⟨⟨rfl, rfl, rfl, rfl, fun _ => rfl, fun _ _ => rfl⟩, ⟨⟨rfl, rfl, rfl, rfl, fun _ => rfl, fun _ _ => rfl⟩, ⟨⟨rfl, rfl, rfl, rfl, fun _ => rfl, fun i h => app_rowB hn1 _ i h⟩, trivial⟩⟩⟩, trivial⟩⟩
        · conv => whnf
          conv => whnf
          refine ⟨(by show _ * (1 + 1) ≤ _; omega), ?_⟩
          conv => whnf
          conv => whnf
          refine ⟨inK64 (by omega) (by omega), ?_⟩
          have e : (lakeR N).getD (N.cs.getD n cn0).to.toNat false = false := by simpa using w2
          have e2 : (N.cs.getD n cn0).opn = false := by simpa using w3
          have hs := app_inv (v := false) h1 hn1 (by rw [hW, e, e2]; rfl)
          conv => whnf
          conv => whnf
          refine ⟨_, _, ⟨⟨n + 1, n + 1, a ++ [false], by simpa using hn1, by omega, rfl, hs, rfl, rfl⟩, by omega⟩, ⟨⟨rfl, rfl, rfl, rfl⟩, ⟨⟨rfl, rfl, rfl, rfl, fun _ => rfl, fun _ _ => rfl⟩, ⟨⟨rfl, rfl, rfl, rfl, fun _ => rfl, fun _ _ => rfl⟩, ⟨⟨rfl, rfl, rfl, rfl, fun _ => rfl, fun i h => app_rowB hn1 _ i h⟩, trivial⟩⟩⟩, trivial⟩⟩
    · (exfalso; omega)
  · have e : k = N.cs.length := by omega
    subst e
    have e : a = wetB N := ext_inv (hn1.trans ha) (wetB_len N) h1
    subst e
    conv => whnf
    conv => whnf
    refine ifB_dec (fun w1 => ?_) (fun w1 => ?_)
    · (exfalso; omega)
    · conv => whnf
      conv => whnf
      refine ⟨?_, fun _ => ⟨rfl, ?_⟩⟩
      · exact ave_bools hn1.symm fun _ _ => rfl
      · exact plain_bools _
end Go.Tr

/- Contracts of chapter 2: what a valve fills. Conditions: none. -/
namespace Go.Tr
open Go Go.Proofs
set_option maxRecDepth 20000
set_option maxHeartbeats 8000000

theorem plain_cons (cs : List Cn) : PlainR (leaves (listA 6 cnC cn0 cs)) := by
  refine ⟨fun i _ x hx => ?_, trivial⟩
  simp only [cnC, List.mem_cons, List.not_mem_nil, or_false] at hx
  rcases hx with rfl | rfl | rfl | rfl | rfl | rfl <;> exact ⟨_, rfl⟩
theorem S75 (cs : List Cn) (h0 : 0 < cs.length) (h1 : cs.length ≤ 1000) : SP 75 [listA 6 cnC cn0 cs] (listA 6 cnC cn0 cs) true := by
  refine sound (d := 2) tok2 mixed2 Tryz.func75 (by kernel_rfl) (by kernel_rfl) ?_
  rintro (_ | _) w1
  · conv => whnf
    refine ⟨⟨(by omega), (by show _ * (48 + 1) ≤ _; omega)⟩, ?_⟩
    conv => whnf
    refine ⟨?_, fun _ => ⟨rfl, ?_⟩⟩
    · refine ⟨rfl, Nat.zero_add _, fun i _ => ?_⟩
      show cnC (cs.getD (i - 0) cn0) = _
      rw [Nat.sub_zero]
    · exact plain_cons cs
  · (exact absurd (w1 (by omega)) nofun)

def setOpen (N : Net) (k : Nat) (b : Bool) : Net := ⟨N.ns, N.cs.set k { N.cs.getD k cn0 with opn := b }⟩
theorem con_row (cs : List Cn) (k j : Nat) (b : Bool) (hk : k < cs.length) : cnC ((cs.set k { cs.getD k cn0 with opn := b }).getD j cn0) = bif Nat.beq j (0 + k) then splice (cnC (cs.getD j cn0)) 5 [vb b] else cnC (cs.getD j cn0) := by
  rw [Nat.zero_add]
  cases e : Nat.beq j k with
  | true => cases Nat.eq_of_beq_eq_true e; simp [List.getD_eq_getElem?_getD, hk, cnC, splice]
  | false => have := Nat.ne_of_beq_eq_false e; simp [List.getD_eq_getElem?_getD, Ne.symm this]

theorem S48 (N : Net) (k : Nat) (b : Bool) (hk : k < N.cs.length) (h1 : N.cs.length ≤ 1000) : SP 48 [netV N, i64 k, vb b] (netV (setOpen N k b)) false := by
  have h136 := S75 N.cs (by omega) h1
  refine sound (d := 2) tok2 mixed2 Tryz.func48 (by kernel_rfl) (by kernel_rfl) ?_
  conv => whnf
  refine ⟨[], by kernel_rfl, ?_⟩
  conv => whnf
  refine .inl ⟨_, _, byX rfl (h136), ?_⟩
  conv => whnf
  refine ⟨⟨(by omega), (by omega)⟩, ?_⟩
  refine ⟨_, fun _ _ => rfl, ?_⟩
  conv => whnf
  refine ⟨?_, nofun⟩
  exact ave_agg2 (k := 4) (a := .rslice 4 N.ns.length _) (b := .rslice 6 N.cs.length _) ⟨rfl, rfl, fun _ _ => rfl⟩ ⟨rfl, by simp [setOpen], fun j _ => (con_row N.cs k j b hk).symm⟩
theorem plain_net (N : Net) : PlainR (leaves (netV N)) := by
  refine ⟨fun i _ x hx => ?_, fun i _ x hx => ?_, trivial⟩
  · simp only [ndC, List.mem_cons, List.not_mem_nil, or_false] at hx
    rcases hx with rfl | rfl | rfl | rfl <;> exact ⟨_, rfl⟩
  · simp only [cnC, List.mem_cons, List.not_mem_nil, or_false] at hx
    rcases hx with rfl | rfl | rfl | rfl | rfl | rfl <;> exact ⟨_, rfl⟩
theorem S7o (N : Net) (h1 : N.ns.length ≤ 1000) (h2 : N.cs.length ≤ 1000) : SP 7 [netV N] (netV N) true := by
  refine sound (d := 2) tok2 mixed2 Tryz.func7 (by kernel_rfl) (by kernel_rfl) ?_
  conv => whnf
  refine ⟨[], by kernel_rfl, ?_⟩
  conv => whnf
  refine ⟨⟨(by omega), (by show _ * (40 + 1) ≤ _; omega)⟩, ?_⟩
  conv => whnf
  refine ⟨⟨(by omega), (by show _ * (48 + 1) ≤ _; omega)⟩, ?_⟩
  conv => whnf
  refine ⟨?_, fun _ => ⟨rfl, ?_⟩⟩
  · refine ave_agg2 (k := 4) (a := .rslice 4 (0 + N.ns.length) _) (b := .rslice 6 (0 + N.cs.length) _) ⟨rfl, Nat.zero_add _, fun i _ => ?_⟩ ⟨rfl, Nat.zero_add _, fun i _ => ?_⟩
    · show ndC (N.ns.getD (i - 0) nd0) = _
      rw [Nat.sub_zero]
    · show cnC (N.cs.getD (i - 0) cn0) = _
      rw [Nat.sub_zero]
  · exact plain_net N

theorem inR_setOpen {N : Net} {k : Nat} {b : Bool} (hk : k < N.cs.length) (h : inR N.ns.length N.cs) : inR (setOpen N k b).ns.length (setOpen N k b).cs := by
  intro c hc
  rcases List.mem_or_eq_of_mem_set hc with h1 | rfl
  · exact h c h1
  · exact h (N.cs.getD k cn0) (by simp [List.getD_eq_getElem?_getD, hk])
theorem setOpen_len (N : Net) (k : Nat) (b : Bool) : (setOpen N k b).cs.length = N.cs.length := by simp [setOpen]

/-- What a valve fills. -/
def fillB (N : Net) (k : Nat) : List Bool := List.zipWith (fun a b => a && !b) (wetB (setOpen N k true)) (wetB (setOpen N k false))
theorem wetSO_len (N : Net) (k : Nat) (b : Bool) : (wetB (setOpen N k b)).length = N.cs.length := by rw [wetB_len, setOpen_len]
theorem fillB_len (N : Net) (k : Nat) : (fillB N k).length = N.cs.length := by simp [fillB, wetSO_len]
theorem fillB_getD (N : Net) (k i : Nat) (h : i < N.cs.length) : (fillB N k).getD i false = ((wetB (setOpen N k true)).getD i false && !(wetB (setOpen N k false)).getD i false) := by
  have h1 := wetSO_len N k true
  have h2 := wetSO_len N k false
  simp [fillB, List.getD_eq_getElem?_getD, h1, h2, h]

theorem wet_args {N : Net} {k : Nat} {b : Bool} (hk : k < N.cs.length) {f : Nat → List AV} (hf : ∀ j, f j = bif Nat.beq j (0 + k) then splice (cnC (N.cs.getD j cn0)) 5 [vb b] else cnC (N.cs.getD j cn0)) : AVE 5 (.agg [listA 4 ndC nd0 N.ns, .rslice 6 N.cs.length f]) (netV (setOpen N k b)) :=
  ave_agg2 (k := 4) (a := .rslice 4 N.ns.length _) (b := .rslice 6 N.cs.length _) ⟨rfl, rfl, fun _ _ => rfl⟩ ⟨rfl, (setOpen_len N k b).symm, fun j _ => by rw [hf]; exact (con_row N.cs k j b hk).symm⟩
end Go.Tr

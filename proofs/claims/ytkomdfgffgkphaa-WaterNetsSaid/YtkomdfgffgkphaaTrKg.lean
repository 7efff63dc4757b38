/- Contracts of chapter 2: names. Conditions: none. -/
import Derived.Test.YtkomdfgffgkphaaTrNet
namespace Go.Tr
open Go Go.Proofs
set_option maxRecDepth 20000

def byteAt (s : ByteArray) (i : Nat) : Int := ((s.data.toList.getD i 0).toNat : Nat)
abbrev u8 (n : Int) : AV := .val (.int .u8 n)
def isLetter (c : Int) : Bool := decide (97 ≤ c ∧ c ≤ 122) || decide (65 ≤ c ∧ c ≤ 90)
def nameAt (i : Nat) (c : Int) : Bool := isLetter c || (!(decide (i = 0)) && (decide (c = 45) || decide (48 ≤ c ∧ c ≤ 57)))
def nameB (s : ByteArray) : Bool := decide (1 ≤ s.size ∧ s.size ≤ 12) && (List.range s.size).all fun i => nameAt i (byteAt s i)

theorem nameB_false {s : ByteArray} {k : Nat} (hk : k < s.size) (h : nameAt k (byteAt s k) = false) : nameB s = false := by
  unfold nameB
  rw [Bool.and_eq_false_iff]
  refine .inr ?_
  rw [List.all_eq_false]
  exact ⟨k, List.mem_range.2 hk, by rw [h]; exact Bool.false_ne_true⟩
theorem nameB_all {s : ByteArray} (h : ∀ j, j < s.size → nameAt j (byteAt s j) = true) : nameB s = decide (1 ≤ (s.size : Int) ∧ (s.size : Int) ≤ 12) := by
  unfold nameB
  have : (List.range s.size).all (fun i => nameAt i (byteAt s i)) = true := List.all_eq_true.2 fun i hi => h i (List.mem_range.1 hi)
  rw [this, Bool.and_true]
  exact decide_eq_decide.2 (by omega)
theorem byteAt_lt (s : ByteArray) (i : Nat) : 0 ≤ byteAt s i ∧ byteAt s i ≤ 255 := by
  unfold byteAt
  have := (s.data.toList.getD i 0).toNat_lt
  omega

theorem not_t {b : Bool} (h : (!b) = true) : b = false := by cases b <;> simp_all
theorem not_f {b : Bool} (h : (!b) = false) : b = true := by cases b <;> simp_all

theorem S75 (s : ByteArray) (hs : s.size ≤ 9223372036854775807) : SP 75 [sv s] (vb (nameB s)) false := by
  generalize hR : nameB s = R
  refine sound (d := 2) mixed2 Try.func75 (by kernel_rfl) (by kernel_rfl) ?_
  refine ⟨[], [0, 7, 8, 9], fun st m => ∃ k : Nat, k ≤ s.size ∧ (∀ j, j < k → nameAt j (byteAt s j) = true) ∧
      st = ⟨[(0, sv s), (7, .rslice 1 s.size fun i => [u8 (byteAt s i)]), (8, i64 s.size), (9, i64 k)], ⟨[], [], none, 0⟩, []⟩ ∧ m = s.size - k,
    ⟨_, _, ⟨0, by omega, fun j hj => absurd hj (Nat.not_lt_zero j), rfl, rfl⟩, ⟨⟨rfl, rfl, rfl, rfl⟩, trivial, trivial⟩⟩, ?_⟩
  rintro s0 m0 ⟨k, hk, hf, rfl, rfl⟩
  have hc := byteAt_lt s k
  have hI : inK .i64 (byteAt s k) := inK64 (by omega) (by omega)
  have hk1 : inK .i64 ((k : Int) + 1) ∨ ¬ k < s.size := by
    by_cases h : k < s.size
    · exact .inl (inK64 (by omega) (by omega))
    · exact .inr h
  have bad : nameAt k (byteAt s k) = false → k < s.size → vb false = vb R := fun h hlt => by rw [← hR, nameB_false hlt h]
  have good : nameAt k (byteAt s k) = true → ∀ j, j < k + 1 → nameAt j (byteAt s j) = true := fun h j hj => by
    rcases Nat.lt_succ_iff_lt_or_eq.1 hj with h' | rfl
    · exact hf j h'
    · exact h
  unfold nameAt isLetter at bad good
  refine ifB_intro (fun h1 => ?_) (fun h1 => ?_)
  · have hlt : k < s.size := by have := of_decide_eq_true h1; omega
    refine ⟨⟨by omega, by omega⟩, ?_⟩
    refine ⟨hI, ?_⟩
    refine .inl ⟨_, _, byS (d := 2) (S74 (byteAt s k) 97 122), ?_⟩
    refine ifB_intro (fun h2 => ?_) (fun h2 => ?_)
    · refine ⟨inK64 (by omega) (by omega), ?_⟩
      refine ⟨_, _, ⟨⟨k + 1, by omega, good (by rw [h2]; rfl), rfl, rfl⟩, by omega⟩, ⟨⟨rfl, rfl, rfl, rfl⟩, trivial, trivial⟩⟩
    · refine ⟨hI, ?_⟩
      refine .inl ⟨_, _, byS (d := 2) (S74 (byteAt s k) 65 90), ?_⟩
      refine ifB_intro (fun h3 => ?_) (fun h3 => ?_)
      · have h3' : decide (65 ≤ byteAt s k ∧ byteAt s k ≤ 90) = false := not_t h3
        rw [h2, h3'] at bad good
        refine ifB_intro (fun h4 => ?_) (fun h4 => ?_)
        · have h4' : k = 0 := by have := eq_of_beq h4; omega
          refine ⟨?_, nofun⟩
          exact bad (by simp [h4']) hlt
        · have h4' : ¬ k = 0 := by have := ne_of_beq_false h4; omega
          refine ifB_intro (fun h5 => ?_) (fun h5 => ?_)
          · have h5' : ¬ byteAt s k = 45 := bne_iff_ne.1 h5
            refine ⟨hI, ?_⟩
            refine .inl ⟨_, _, byS (d := 2) (S74 (byteAt s k) 48 57), ?_⟩
            refine ifB_intro (fun h6 => ?_) (fun h6 => ?_)
            · have h6' : decide (48 ≤ byteAt s k ∧ byteAt s k ≤ 57) = false := not_t h6
              refine ⟨?_, nofun⟩
              exact bad (by rw [h6']; simp [h5']) hlt
            · have h6' : decide (48 ≤ byteAt s k ∧ byteAt s k ≤ 57) = true := not_f h6
              refine ⟨inK64 (by omega) (by omega), ?_⟩
              refine ⟨_, _, ⟨⟨k + 1, by omega, good (by rw [h6']; simp [h4']), rfl, rfl⟩, by omega⟩, ⟨⟨rfl, rfl, rfl, rfl⟩, trivial, trivial⟩⟩
          · have h5' : byteAt s k = 45 := bne_eq_false_iff_eq.1 h5
            refine ⟨inK64 (by omega) (by omega), ?_⟩
            refine ⟨_, _, ⟨⟨k + 1, by omega, good (by simp [h4', h5']), rfl, rfl⟩, by omega⟩, ⟨⟨rfl, rfl, rfl, rfl⟩, trivial, trivial⟩⟩
      · have h3' : decide (65 ≤ byteAt s k ∧ byteAt s k ≤ 90) = true := not_f h3
        refine ⟨inK64 (by omega) (by omega), ?_⟩
        refine ⟨_, _, ⟨⟨k + 1, by omega, good (by rw [h3']; simp), rfl, rfl⟩, by omega⟩, ⟨⟨rfl, rfl, rfl, rfl⟩, trivial, trivial⟩⟩
  · have hlt : k = s.size := by have := of_decide_eq_false h1; omega
    refine .inl ⟨_, _, byS (d := 2) (S74 (s.size) 1 12), ?_⟩
    refine ⟨?_, nofun⟩
    show vb _ = vb R
    subst hlt
    rw [← hR, nameB_all hf]

theorem nameB_len {s : ByteArray} (h : ¬ (1 ≤ s.size ∧ s.size ≤ 12)) : nameB s = false := by
  unfold nameB
  rw [decide_eq_false h, Bool.false_and]

theorem S131 (s : ByteArray) (hs : s.size ≤ 9223372036854775807) : SP 131 [sv s] (vb (nameB s)) false := by
  generalize hR : nameB s = R
  refine sound (d := 2) mixed2 Try.func131 (by kernel_rfl) (by kernel_rfl) ?_
  refine ifB_intro (fun h0 => ?_) (fun h0 => ?_)
  · have h0' : (s.size : Int) < 1 := of_decide_eq_true h0
    refine ⟨?_, nofun⟩
    show vb false = vb R
    rw [← hR, nameB_len (by omega)]
  · have h0' : ¬ (s.size : Int) < 1 := of_decide_eq_false h0
    refine ifB_intro (fun hb => ?_) (fun hb => ?_)
    · have hb' : (s.size : Int) > 12 := of_decide_eq_true hb
      refine ⟨?_, nofun⟩
      show vb false = vb R
      rw [← hR, nameB_len (by omega)]
    · have hb' : ¬ (s.size : Int) > 12 := of_decide_eq_false hb
      refine ⟨[], [0, 3], fun st m => ∃ k : Nat, k ≤ s.size ∧ (∀ j, j < k → nameAt j (byteAt s j) = true) ∧ st = ⟨[(0, sv s), (3, i64 k)], ⟨[], [], none, 0⟩, []⟩ ∧ m = s.size - k,
        ⟨_, _, ⟨0, by omega, fun j hj => absurd hj (Nat.not_lt_zero j), rfl, rfl⟩, ⟨⟨rfl, rfl, rfl, rfl⟩, trivial, trivial⟩⟩, ?_⟩
      rintro s0 m0 ⟨k, hk, hf, rfl, rfl⟩
      have hc := byteAt_lt s k
      have bad : nameAt k (byteAt s k) = false → k < s.size → vb false = vb R := fun h hlt => by rw [← hR, nameB_false hlt h]
      have good : nameAt k (byteAt s k) = true → ∀ j, j < k + 1 → nameAt j (byteAt s j) = true := fun h j hj => by
        rcases Nat.lt_succ_iff_lt_or_eq.1 hj with h' | rfl
        · exact hf j h'
        · exact h
      unfold nameAt isLetter at bad good
      refine ifB_intro (fun h1 => ?_) (fun h1 => ?_)
      · have hlt : k < s.size := by have := of_decide_eq_true h1; omega
        refine ⟨⟨by omega, by omega⟩, ?_⟩
        refine ifB_intro (fun ha => ?_) (fun ha => ?_)
        · have ha' : 97 ≤ byteAt s k := of_decide_eq_true ha
          refine ifB_intro (fun hz => ?_) (fun hz => ?_)
          · have hz' : byteAt s k ≤ 122 := of_decide_eq_true hz
            refine ⟨inK64 (by omega) (by omega), ?_⟩
            refine ⟨_, _, ⟨⟨k + 1, by omega, good (by simp; omega), rfl, rfl⟩, by omega⟩, ⟨⟨rfl, rfl, rfl, rfl⟩, trivial, trivial⟩⟩
          · have hz' : ¬ (byteAt s k ≤ 122) := of_decide_eq_false hz
            refine ifB_intro (fun hl => ?_) (fun hl => ?_)
            · have hl' : 65 ≤ byteAt s k := of_decide_eq_true hl
              refine ifB_intro (fun hl9 => ?_) (fun hl9 => ?_)
              · have hl9' : ¬ byteAt s k ≤ 90 := of_decide_eq_false (not_t hl9)
                refine ifB_intro (fun h4 => ?_) (fun h4 => ?_)
                · have h4' : (k : Int) = 0 := eq_of_beq h4
                  refine ⟨?_, nofun⟩
                  exact bad (by simp; omega) hlt
                · have h4' : ¬ ((k : Int) = 0) := ne_of_beq_false h4
                  refine ifB_intro (fun h5 => ?_) (fun h5 => ?_)
                  · have h5' : ¬ byteAt s k = 45 := bne_iff_ne.1 h5
                    refine ifB_intro (fun h6 => ?_) (fun h6 => ?_)
                    · have h6' : byteAt s k < 48 := of_decide_eq_true h6
                      refine ⟨?_, nofun⟩
                      exact bad (by simp; omega) hlt
                    · have h6' : ¬ (byteAt s k < 48) := of_decide_eq_false h6
                      refine ifB_intro (fun h7 => ?_) (fun h7 => ?_)
                      · have h7' : byteAt s k > 57 := of_decide_eq_true h7
                        refine ⟨?_, nofun⟩
                        exact bad (by simp; omega) hlt
                      · have h7' : ¬ (byteAt s k > 57) := of_decide_eq_false h7
                        refine ⟨inK64 (by omega) (by omega), ?_⟩
                        refine ⟨_, _, ⟨⟨k + 1, by omega, good (by simp; omega), rfl, rfl⟩, by omega⟩, ⟨⟨rfl, rfl, rfl, rfl⟩, trivial, trivial⟩⟩
                  · have h5' : ¬ (¬ byteAt s k = 45) := not_not_intro <| bne_eq_false_iff_eq.1 h5
                    refine ⟨inK64 (by omega) (by omega), ?_⟩
                    refine ⟨_, _, ⟨⟨k + 1, by omega, good (by simp; omega), rfl, rfl⟩, by omega⟩, ⟨⟨rfl, rfl, rfl, rfl⟩, trivial, trivial⟩⟩
              · have hl9' : byteAt s k ≤ 90 := of_decide_eq_true (not_f hl9)
                refine ⟨inK64 (by omega) (by omega), ?_⟩
                refine ⟨_, _, ⟨⟨k + 1, by omega, good (by simp; omega), rfl, rfl⟩, by omega⟩, ⟨⟨rfl, rfl, rfl, rfl⟩, trivial, trivial⟩⟩
            · have hl' : ¬ (65 ≤ byteAt s k) := of_decide_eq_false hl
              refine ifB_intro (fun h4 => ?_) (fun h4 => ?_)
              · have h4' : (k : Int) = 0 := eq_of_beq h4
                refine ⟨?_, nofun⟩
                exact bad (by simp; omega) hlt
              · have h4' : ¬ ((k : Int) = 0) := ne_of_beq_false h4
                refine ifB_intro (fun h5 => ?_) (fun h5 => ?_)
                · have h5' : ¬ byteAt s k = 45 := bne_iff_ne.1 h5
                  refine ifB_intro (fun h6 => ?_) (fun h6 => ?_)
                  · have h6' : byteAt s k < 48 := of_decide_eq_true h6
                    refine ⟨?_, nofun⟩
                    exact bad (by simp; omega) hlt
                  · have h6' : ¬ (byteAt s k < 48) := of_decide_eq_false h6
                    refine ifB_intro (fun h7 => ?_) (fun h7 => ?_)
                    · have h7' : byteAt s k > 57 := of_decide_eq_true h7
                      refine ⟨?_, nofun⟩
                      exact bad (by simp; omega) hlt
                    · have h7' : ¬ (byteAt s k > 57) := of_decide_eq_false h7
                      refine ⟨inK64 (by omega) (by omega), ?_⟩
                      refine ⟨_, _, ⟨⟨k + 1, by omega, good (by simp; omega), rfl, rfl⟩, by omega⟩, ⟨⟨rfl, rfl, rfl, rfl⟩, trivial, trivial⟩⟩
                · have h5' : ¬ (¬ byteAt s k = 45) := not_not_intro <| bne_eq_false_iff_eq.1 h5
                  refine ⟨inK64 (by omega) (by omega), ?_⟩
                  refine ⟨_, _, ⟨⟨k + 1, by omega, good (by simp; omega), rfl, rfl⟩, by omega⟩, ⟨⟨rfl, rfl, rfl, rfl⟩, trivial, trivial⟩⟩
        · have ha' : ¬ (97 ≤ byteAt s k) := of_decide_eq_false ha
          refine ifB_intro (fun hm => ?_) (fun hm => ?_)
          · have hm' : 65 ≤ byteAt s k := of_decide_eq_true hm
            refine ifB_intro (fun hm9 => ?_) (fun hm9 => ?_)
            · have hm9' : ¬ byteAt s k ≤ 90 := of_decide_eq_false (not_t hm9)
              refine ifB_intro (fun h4 => ?_) (fun h4 => ?_)
              · have h4' : (k : Int) = 0 := eq_of_beq h4
                refine ⟨?_, nofun⟩
                exact bad (by simp; omega) hlt
              · have h4' : ¬ ((k : Int) = 0) := ne_of_beq_false h4
                refine ifB_intro (fun h5 => ?_) (fun h5 => ?_)
                · have h5' : ¬ byteAt s k = 45 := bne_iff_ne.1 h5
                  refine ifB_intro (fun h6 => ?_) (fun h6 => ?_)
                  · have h6' : byteAt s k < 48 := of_decide_eq_true h6
                    refine ⟨?_, nofun⟩
                    exact bad (by simp; omega) hlt
                  · have h6' : ¬ (byteAt s k < 48) := of_decide_eq_false h6
                    refine ifB_intro (fun h7 => ?_) (fun h7 => ?_)
                    · have h7' : byteAt s k > 57 := of_decide_eq_true h7
                      refine ⟨?_, nofun⟩
                      exact bad (by simp; omega) hlt
                    · have h7' : ¬ (byteAt s k > 57) := of_decide_eq_false h7
                      refine ⟨inK64 (by omega) (by omega), ?_⟩
                      refine ⟨_, _, ⟨⟨k + 1, by omega, good (by simp; omega), rfl, rfl⟩, by omega⟩, ⟨⟨rfl, rfl, rfl, rfl⟩, trivial, trivial⟩⟩
                · have h5' : ¬ (¬ byteAt s k = 45) := not_not_intro <| bne_eq_false_iff_eq.1 h5
                  refine ⟨inK64 (by omega) (by omega), ?_⟩
                  refine ⟨_, _, ⟨⟨k + 1, by omega, good (by simp; omega), rfl, rfl⟩, by omega⟩, ⟨⟨rfl, rfl, rfl, rfl⟩, trivial, trivial⟩⟩
            · have hm9' : byteAt s k ≤ 90 := of_decide_eq_true (not_f hm9)
              refine ⟨inK64 (by omega) (by omega), ?_⟩
              refine ⟨_, _, ⟨⟨k + 1, by omega, good (by simp; omega), rfl, rfl⟩, by omega⟩, ⟨⟨rfl, rfl, rfl, rfl⟩, trivial, trivial⟩⟩
          · have hm' : ¬ (65 ≤ byteAt s k) := of_decide_eq_false hm
            refine ifB_intro (fun h4 => ?_) (fun h4 => ?_)
            · have h4' : (k : Int) = 0 := eq_of_beq h4
              refine ⟨?_, nofun⟩
              exact bad (by simp; omega) hlt
            · have h4' : ¬ ((k : Int) = 0) := ne_of_beq_false h4
              refine ifB_intro (fun h5 => ?_) (fun h5 => ?_)
              · have h5' : ¬ byteAt s k = 45 := bne_iff_ne.1 h5
                refine ifB_intro (fun h6 => ?_) (fun h6 => ?_)
                · have h6' : byteAt s k < 48 := of_decide_eq_true h6
                  refine ⟨?_, nofun⟩
                  exact bad (by simp; omega) hlt
                · have h6' : ¬ (byteAt s k < 48) := of_decide_eq_false h6
                  refine ifB_intro (fun h7 => ?_) (fun h7 => ?_)
                  · have h7' : byteAt s k > 57 := of_decide_eq_true h7
                    refine ⟨?_, nofun⟩
                    exact bad (by simp; omega) hlt
                  · have h7' : ¬ (byteAt s k > 57) := of_decide_eq_false h7
                    refine ⟨inK64 (by omega) (by omega), ?_⟩
                    refine ⟨_, _, ⟨⟨k + 1, by omega, good (by simp; omega), rfl, rfl⟩, by omega⟩, ⟨⟨rfl, rfl, rfl, rfl⟩, trivial, trivial⟩⟩
              · have h5' : ¬ (¬ byteAt s k = 45) := not_not_intro <| bne_eq_false_iff_eq.1 h5
                refine ⟨inK64 (by omega) (by omega), ?_⟩
                refine ⟨_, _, ⟨⟨k + 1, by omega, good (by simp; omega), rfl, rfl⟩, by omega⟩, ⟨⟨rfl, rfl, rfl, rfl⟩, trivial, trivial⟩⟩
      · have hlt : k = s.size := by have := of_decide_eq_false h1; omega
        subst hlt
        refine ⟨?_, nofun⟩
        show vb true = vb R
        rw [← hR, nameB_all hf, decide_eq_true (by omega)]
end Go.Tr

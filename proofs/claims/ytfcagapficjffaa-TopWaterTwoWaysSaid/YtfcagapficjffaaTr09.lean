/- The law TopWaterTwoWays returns true. Conditions: none. -/
import Derived.Test.YtfcagapficjffaaTr08
import Derived.Test.YtfcagapficjffaaTr07
import Derived.Test.YtfcagapficjffaaRows
import Derived.Test.YtfcagapficjffaaTr05
import Derived.ProofKit

namespace Go.Tr
open Go Go.Proofs
set_option maxRecDepth 20000
set_option maxHeartbeats 8000000
-- seat Ytfcagapficjffaa

theorem S4 : SP 4 [] (vb true) false := run_ok mixed2 runs2_ok 1000 60 (y := vb true) (by kernel_rfl)
theorem row22 {f : Nat → List AV} {g : Nat → List AV} (h0 : f 0 = g 0) (h1 : f 1 = g 1) : ∀ i, i < 2 → f i = g i := fun i hi => by
  rcases (show i = 0 ∨ i = 1 by omega) with rfl | rfl
  · exact h0
  · exact h1
theorem row33 {f : Nat → List AV} {g : Nat → List AV} (h0 : f 0 = g 0) (h1 : f 1 = g 1) (h2 : f 2 = g 2) : ∀ i, i < 3 → f i = g i := fun i hi => by
  rcases (show i = 0 ∨ i = 1 ∨ i = 2 by omega) with rfl | rfl | rfl
  · exact h0
  · exact h1
  · exact h2
theorem row11 {f : Nat → List AV} {g : Nat → List AV} (h0 : f 0 = g 0) : ∀ i, i < 1 → f i = g i := fun i hi => by
  rcases (show i = 0 by omega) with rfl
  exact h0
theorem S7n {F : FuncId} {r : AV} {s j x y : ByteArray} {H D a b : Int} (h7 : SP F [netV (loop2 s j x y H D a b)] r false) (f g : Nat → List AV)
    (h : f 0 = [sv s, vb true, i64 H, i64 0] ∧ f 1 = [sv j, vb false, i64 0, i64 D] ∧ g 0 = [sv x, i64 0, i64 1, i64 a, vb false, vb true] ∧ g 1 = [sv y, i64 0, i64 1, i64 b, vb false, vb true]) :
    SP F [.agg [.rslice 4 2 f, .rslice 6 2 g]] r false :=
  h7.args rfl fun i y x hy hx => by
    match i, hy, hx with
    | 0, hy, hx => cases hy; cases hx; exact ave_agg2 (k := 4) ⟨rfl, rfl, row22 h.1 h.2.1⟩ ⟨rfl, rfl, row22 h.2.2.1 h.2.2.2⟩
theorem S11s {F : FuncId} {r : AV} {s j m x y : ByteArray} {H D a b : Int} (h7 : SP F [netV (ser2 s j m x y H D a b), i64 0] r false) (f g : Nat → List AV)
    (h : f 0 = [sv s, vb true, i64 H, i64 0] ∧ f 1 = [sv j, vb false, i64 0, i64 D] ∧ f 2 = [sv m, vb false, i64 0, i64 0] ∧ g 0 = [sv x, i64 0, i64 2, i64 a, vb false, vb true] ∧ g 1 = [sv y, i64 2, i64 1, i64 b, vb false, vb true]) :
    SP F [.agg [.rslice 4 3 f, .rslice 6 2 g], i64 0] r false :=
  h7.args rfl fun i y x hy hx => by
    match i, hy, hx with
    | 0, hy, hx => cases hy; cases hx; exact ave_agg2 (k := 4) ⟨rfl, rfl, row33 h.1 h.2.1 h.2.2.1⟩ ⟨rfl, rfl, row22 h.2.2.2.1 h.2.2.2.2⟩
    | 1, hy, hx => cases hy; cases hx; rfl
theorem S11o {F : FuncId} {r : AV} {s j x : ByteArray} {H D a : Int} (h7 : SP F [netV (one1 s j x H D a), i64 0] r false) (f g : Nat → List AV)
    (h : f 0 = [sv s, vb true, i64 H, i64 0] ∧ f 1 = [sv j, vb false, i64 0, i64 D] ∧ g 0 = [sv x, i64 0, i64 1, i64 a, vb false, vb true]) :
    SP F [.agg [.rslice 4 2 f, .rslice 6 1 g], i64 0] r false :=
  h7.args rfl fun i y x hy hx => by
    match i, hy, hx with
    | 0, hy, hx => cases hy; cases hx; exact ave_agg2 (k := 4) ⟨rfl, rfl, row22 h.1 h.2.1⟩ ⟨rfl, rfl, row11 h.2.2⟩
    | 1, hy, hx => cases hy; cases hx; rfl
theorem ints2 {F : FuncId} {r : AV} {a b : Int} {A : List AV} (h7 : SP F (ints [a, b] :: A) r false) (hA : A = [] ∨ ∃ v, A = [i64 v]) (f : Nat → List AV) (h : f 0 = [i64 a] ∧ f 1 = [i64 b]) : SP F (.rslice 1 2 f :: A) r false := by
  rcases hA with rfl | ⟨v, rfl⟩
  · exact h7.args rfl fun i y x hy hx => by
      match i, hy, hx with
      | 0, hy, hx => cases hy; cases hx; exact ⟨rfl, rfl, row22 h.1 h.2⟩
  · exact h7.args rfl fun i y x hy hx => by
      match i, hy, hx with
      | 0, hy, hx => cases hy; cases hx; exact ⟨rfl, rfl, row22 h.1 h.2⟩
      | 1, hy, hx => cases hy; cases hx; rfl
theorem nd_in {s : ByteArray} {l : Bool} {x y : Int} (hs : s.size ≤ 100) (h1 : 0 ≤ x ∧ x ≤ 1000000) (h2 : 0 ≤ y ∧ y ≤ 1000000) : Nd.In ⟨s, l, x, y⟩ :=
  ⟨by show s.size ≤ _; omega, inK64 (by show _ ≤ x; omega) (by show x ≤ _; omega), inK64 (by show _ ≤ y; omega) (by show y ≤ _; omega)⟩
theorem cn_in {s : ByteArray} {l o : Bool} {x y z : Int} (hs : s.size ≤ 100) (h1 : 0 ≤ x ∧ x ≤ 1000000) (h2 : 0 ≤ y ∧ y ≤ 1000000) (h3 : 0 ≤ z ∧ z ≤ 1000000) : Cn.In ⟨s, x, y, z, l, o⟩ :=
  ⟨by show s.size ≤ _; omega, inK64 (by show _ ≤ x; omega) (by show x ≤ _; omega), inK64 (by show _ ≤ y; omega) (by show y ≤ _; omega), inK64 (by show _ ≤ z; omega) (by show z ≤ _; omega)⟩
theorem loop2_in {H D a b : Int} (hH : 0 ≤ H ∧ H ≤ 1000000) (hD : 0 ≤ D ∧ D ≤ 10000) (ha : 1 ≤ a ∧ a ≤ 1000) (hb : 1 ≤ b ∧ b ≤ 1000) : (loop2 nmS nmJ nmA nmB H D a b).In :=
  ⟨by show (_ : Nat) ≤ _; simp [loop2], by show (_ : Nat) ≤ _; simp [loop2], fun n hn => by
    rcases List.mem_cons.1 hn with rfl | hn
    · exact nd_in (by decide) hH (by omega)
    · rw [List.mem_singleton.1 hn]; exact nd_in (by decide) (by omega) (by omega), fun c hc => by
    rcases List.mem_cons.1 hc with rfl | hc
    · exact cn_in (by decide) (by omega) (by omega) (by omega)
    · rw [List.mem_singleton.1 hc]; exact cn_in (by decide) (by omega) (by omega) (by omega)⟩
theorem ser2_in {H D a b : Int} (hH : 0 ≤ H ∧ H ≤ 1000000) (hD : 0 ≤ D ∧ D ≤ 10000) (ha : 1 ≤ a ∧ a ≤ 1000) (hb : 1 ≤ b ∧ b ≤ 1000) : (ser2 nmS nmJ nmM nmA nmB H D a b).In :=
  ⟨by show (_ : Nat) ≤ _; simp [ser2], by show (_ : Nat) ≤ _; simp [ser2], fun n hn => by
    rcases List.mem_cons.1 hn with rfl | hn
    · exact nd_in (by decide) hH (by omega)
    · rcases List.mem_cons.1 hn with rfl | hn
      · exact nd_in (by decide) (by omega) (by omega)
      · rw [List.mem_singleton.1 hn]; exact nd_in (by decide) (by omega) (by omega), fun c hc => by
    rcases List.mem_cons.1 hc with rfl | hc
    · exact cn_in (by decide) (by omega) (by omega) (by omega)
    · rw [List.mem_singleton.1 hc]; exact cn_in (by decide) (by omega) (by omega) (by omega)⟩
theorem one1_in {H D a : Int} (hH : 0 ≤ H ∧ H ≤ 1000000) (hD : 0 ≤ D ∧ D ≤ 10000) (ha : 1 ≤ a ∧ a ≤ 1000) : (one1 nmS nmJ nmA H D a).In :=
  ⟨by show (_ : Nat) ≤ _; simp [one1], by show (_ : Nat) ≤ _; simp [one1], fun n hn => by
    rcases List.mem_cons.1 hn with rfl | hn
    · exact nd_in (by decide) hH (by omega)
    · rw [List.mem_singleton.1 hn]; exact nd_in (by decide) (by omega) (by omega), fun c hc => by
    rw [List.mem_singleton.1 hc]; exact cn_in (by decide) (by omega) (by omega) (by omega)⟩
set_option maxHeartbeats 0 in
theorem S3ok (H a b D : Int) (hH : 0 ≤ H ∧ H ≤ 1000000) (ha : 1 ≤ a ∧ a ≤ 1000) (hb : 1 ≤ b ∧ b ≤ 1000) (hD : 0 ≤ D ∧ D ≤ 10000) : SP 3 [.agg [i64 H, i64 a, i64 b, i64 D]] (vb true) false := by
    have h4 := S4
    have e5H := S5 H 0 1000000
    have e5D := S5 D 0 10000
    rw [decide_eq_true hH] at e5H
    rw [decide_eq_true hD] at e5D
    have e6a := S6 a
    have e6b := S6 b
    unfold rE at e6a e6b
    rw [if_pos ha] at e6a
    rw [if_pos hb] at e6b
    have hok := net_ok (loop2_ok hH hD (a := a) (b := b) (by omega) (by omega))
    have hS := stOk hok
    obtain ⟨q, h1, h2, q1, q2, l1, hst⟩ := loop2_steady nmS nmJ nmA nmB H D a b hS ha.1 hb.1 hD.1
    have hfl : flowE (loop2 nmS nmJ nmA nmB H D a b) = 0 := by
      unfold flowE flatQ
      rw [if_pos (loop2_form hH hD (by omega) (by omega)), loop2_br, loop2_cl, if_pos (show (0 : Int) ≤ 1 by decide), loop2_flat _ _ _ _ H D a b ha.1 hb.1]
      rfl
    obtain ⟨b1, b2, b3⟩ := two_bounds ha hb hD h1 h2
    obtain ⟨d1, d2, d3, d4⟩ := two_drop ha hb hD h1 h2
    have h7 := S7 _ (loop2_in hH hD ha hb)
    rw [hfl, if_pos rfl] at h7
    change SP 7 _ (.tuple [sdA (steadyF (loop2 nmS nmJ nmA nmB H D a b) [(0, 1)] 1), _]) _ at h7
    generalize steadyF (loop2 nmS nmJ nmA nmB H D a b) [(0, 1)] 1 = sd at *
    obtain ⟨sf, sh⟩ := sd
    simp only at l1 hst
    change SP 7 _ (.tuple [.agg [brA sf, brA sh], i64 0]) _ at h7
    have l2 : sh.length = 2 := by rw [hst]; rfl
    have k1 : (sh.getD (1 : Int).toNat (0, 0)).1 = 1000 * H - highD a b D q := by rw [hst]; rfl
    have k2 : (sh.getD (1 : Int).toNat (0, 0)).2 = 1000 * H - lossF a (D - q) := by rw [hst]; rfl
    clear hst
    have h7' := S7n h7
    have h8 := ints2 (S8 [a, b] (by simp) D) (.inr ⟨_, rfl⟩)
    have h10 := ints2 (S10 [a, b] (by simp)) (.inl rfl)
    have er : rsE [a, b] = 0 := by
      unfold dropE at d1
      split at d1
      · assumption
      · exact d1
    rw [if_pos er, er, show [a, b].sum = a + b by simp] at h10
    have h5 := S5
    have m1 := dropLo_mem [a, b] D
    have m2 := dropHi_mem [a, b] D
    generalize hX : 1000 * H - lossF a D - lossF b D = X
    have hs : a + b ≤ 1000 → (∃ p : List Int × List Int, p.2.length = 3 ∧ p.2.getD (1 : Int).toNat 0 = X ∧ SP 11 [netV (ser2 nmS nmJ nmM nmA nmB H D a b), i64 0] (.tuple [stA p, i64 0]) false) ∧
        ∃ p : List Int × List Int, p.2.length = 2 ∧ p.2.getD (1 : Int).toNat 0 = X ∧ SP 11 [netV (one1 nmS nmJ nmA H D (a + b)), i64 0] (.tuple [stA p, i64 0]) false := fun hs => by
      have x1 := S11 _ (ser2_in hH hD ha hb) 0
      have x2 := S11 _ (one1_in hH hD (a := a + b) (by omega)) 0
      have n1 := ser2_ok hH hD (a := a) (b := b) (by omega) (by omega)
      have n2 := one1_ok hH hD (a := a + b) (by omega)
      have f1 : stateE (ser2 nmS nmJ nmM nmA nmB H D a b) 0 = 0 := by
        unfold stateE formE
        rw [if_pos n1, ser2_cl]; rfl
      have f2 : stateE (one1 nmS nmJ nmA H D (a + b)) 0 = 0 := by
        unfold stateE formE
        rw [if_pos n2, one1_cl]; rfl
      rw [f1, if_pos rfl] at x1
      rw [f2, if_pos rfl] at x2
      change SP 11 _ (.tuple [stA (stateF _ [(0, 2), (1, 1)] (-1) 0), _]) _ at x1
      change SP 11 _ (.tuple [stA (stateF _ [(0, 1)] (-1) 0), _]) _ at x2
      refine ⟨⟨_, ?_, ?_, x1⟩, ⟨_, ?_, ?_, x2⟩⟩
      · rw [ser2_state]; rfl
      · rw [ser2_state]; exact hX
      · rw [one1_state]; rfl
      · rw [one1_state, ← hX, loss_add _ _ _ hD.1]
        show 1000 * H - (lossF a D + lossF b D) = _
        omega
    by_cases hd : dropHi [a, b] D ≤ 1000000000
    · obtain ⟨y1, y2⟩ := d3 hd
      have ef : dropF [a, b] D = ((dropLo [a, b] D, dropHi [a, b] D), 0) := by unfold dropF; rw [if_pos d1, if_neg (by omega)]
      simp only [ef] at h8
      change ∀ f : Nat → List AV, _ → SP 8 _ (.tuple [.agg [i64 (dropLo [a, b] D), i64 (dropHi [a, b] D)], i64 0]) _ at h8
      have t1 : thrF a (dropHi [a, b] D) = ((loF a (dropHi [a, b] D), hiF a (dropHi [a, b] D)), 0) := by
        unfold thrF thrE rE dE; rw [if_pos ha, if_pos rfl, if_pos (by omega)]
      have t2 : thrF b (dropHi [a, b] D) = ((loF b (dropHi [a, b] D), hiF b (dropHi [a, b] D)), 0) := by
        unfold thrF thrE rE dE; rw [if_pos hb, if_pos rfl, if_pos (by omega)]
      have e9a := S9 a (dropHi [a, b] D)
      have e9b := S9 b (dropHi [a, b] D)
      rw [t1] at e9a
      rw [t2] at e9b
      change SP 9 _ (.tuple [.agg [i64 (loF a (dropHi [a, b] D)), i64 (hiF a (dropHi [a, b] D))], i64 0]) _ at e9a
      change SP 9 _ (.tuple [.agg [i64 (loF b (dropHi [a, b] D)), i64 (hiF b (dropHi [a, b] D))], i64 0]) _ at e9b
      have z1 := (loF_spec ha.1 (d := dropHi [a, b] D) (by omega) (by omega)).1
      have z2 := (loF_spec hb.1 (d := dropHi [a, b] D) (by omega) (by omega)).1
      have z3 := (loF_mem a (dropHi [a, b] D)).2
      have z4 := (loF_mem b (dropHi [a, b] D)).2
      generalize dropHi [a, b] D = dh at *
      generalize dropLo [a, b] D = dl at *
      by_cases hab : a + b ≤ 1000
      · obtain ⟨⟨p, p1, p2, p3⟩, ⟨o, o1, o2, o3⟩⟩ := hs hab
        have p3' := S11s p3
        have o3' := S11o o3
        refine sound (d := 2) tok2 mixed2 Try.func3 (by kernel_rfl) (by kernel_rfl) ?_
        conv => whnf
        refine .inl ⟨_, _, byX rfl (Sound1.pl (h4) rfl), ?_⟩
        conv => whnf
        refine .inl ⟨_, _, byX rfl (Sound1.pl (h5 _ _ _) rfl), ?_⟩
        conv => whnf
        refine ifB_not ?_
        conv => whnf
        refine ifB_dec (fun w1 => ?_) (fun w1 => ?_)
        · conv => whnf
          refine .inl ⟨_, _, byX rfl (Sound1.pl (e6a) rfl), ?_⟩
          conv => whnf
          refine .inl ⟨_, _, byX rfl (Sound1.pl (e6b) rfl), ?_⟩
          conv => whnf
          refine .inl ⟨_, _, byX rfl (Sound1.pl (h5 _ _ _) rfl), ?_⟩
          conv => whnf
          refine ifB_not ?_
          conv => whnf
          refine ifB_dec (fun w2 => ?_) (fun w2 => ?_)
          · conv => whnf
            refine ⟨[(4, 8)], by kernel_rfl, ?_⟩
            conv => whnf
            refine .inl ⟨_, _, byX rfl (h7' _ _ ⟨rfl, rfl, rfl, rfl⟩), ?_⟩
            conv => whnf
            refine ⟨[], by kernel_rfl, ?_⟩
            conv => whnf
            refine ifB_bne (fun w3 => ?_) (fun w3 => ?_)
            · (exfalso; omega)
            · conv => whnf
              refine ifB_bne (fun w4 => ?_) (fun w4 => ?_)
              · (exfalso; omega)
              · conv => whnf
                refine ⟨⟨(by omega), (by omega)⟩, ?_⟩
                conv => whnf
                refine ⟨⟨(by omega), (by omega)⟩, ?_⟩
                conv => whnf
                refine .inl ⟨_, _, byX rfl (Sound1.pl (h5 _ _ _) rfl), ?_⟩
                conv => whnf
                refine ifB_not ?_
                conv => whnf
                refine ifB_dec (fun w5 => ?_) (fun w5 => ?_)
                · conv => whnf
                  refine ⟨⟨(by omega), (by omega)⟩, ?_⟩
                  conv => whnf
                  refine ifB_dec (fun w6 => ?_) (fun w6 => ?_)
                  · (exfalso; omega)
                  · conv => whnf
                    refine ⟨inK64 (by omega) (by omega), ?_⟩
                    conv => whnf
                    refine ⟨[], by kernel_rfl, ?_⟩
                    conv => whnf
                    refine ⟨⟨(by omega), (by omega)⟩, ?_⟩
                    conv => whnf
                    refine ⟨inK64 (by omega) (by omega), ?_⟩
                    conv => whnf
                    refine ⟨⟨(by omega), (by omega)⟩, ?_⟩
                    conv => whnf
                    refine ⟨inK64 (by omega) (by omega), ?_⟩
                    conv => whnf
                    refine .inl ⟨_, _, byX rfl (Sound1.pl (h8 _ ⟨rfl, rfl⟩) rfl), ?_⟩
                    conv => whnf
                    refine .inl ⟨_, _, byX rfl (Sound1.pl (h5 _ _ _) rfl), ?_⟩
                    conv => whnf
                    refine ifB_not ?_
                    conv => whnf
                    refine ifB_dec (fun w7 => ?_) (fun w7 => ?_)
                    · conv => whnf
                      refine ifB_dec (fun w8 => ?_) (fun w8 => ?_)
                      · (exfalso; omega)
                      · conv => whnf
                        refine ifB_dec (fun w9 => ?_) (fun w9 => ?_)
                        · (exfalso; omega)
                        · conv => whnf
                          refine ifB_dec (fun w10 => ?_) (fun w10 => ?_)
                          · (exfalso; omega)
                          · conv => whnf
                            refine .inl ⟨_, _, byX rfl (Sound1.pl (e9a) rfl), ?_⟩
                            conv => whnf
                            refine .inl ⟨_, _, byX rfl (Sound1.pl (e9b) rfl), ?_⟩
                            conv => whnf
                            refine .inl ⟨_, _, byX rfl (Sound1.pl (h5 _ _ _) rfl), ?_⟩
                            conv => whnf
                            refine ifB_not ?_
                            conv => whnf
                            refine ifB_dec (fun w11 => ?_) (fun w11 => ?_)
                            · conv => whnf
                              refine .inl ⟨_, _, byX rfl (Sound1.pl (h5 _ _ _) rfl), ?_⟩
                              conv => whnf
                              refine ifB_not ?_
                              conv => whnf
                              refine ifB_dec (fun w12 => ?_) (fun w12 => ?_)
                              · conv => whnf
                                refine ⟨inK64 (by omega) (by omega), ?_⟩
                                conv => whnf
                                refine ifB_dec (fun w13 => ?_) (fun w13 => ?_)
                                · (exfalso; omega)
                                · conv => whnf
                                  refine .inl ⟨_, _, byX rfl (Sound1.pl (h10 _ ⟨rfl, rfl⟩) rfl), ?_⟩
                                  conv => whnf
                                  refine ⟨inK64 (by omega) (by omega), ?_⟩
                                  conv => whnf
                                  refine ifB_bne (fun w14 => ?_) (fun w14 => ?_)
                                  · (exfalso; omega)
                                  · conv => whnf
                                    refine ifB_dec (fun w15 => ?_) (fun w15 => ?_)
                                    · (exfalso; omega)
                                    · conv => whnf
                                      refine .inl ⟨_, _, byX rfl (p3' _ _ ⟨rfl, rfl, rfl, rfl, rfl⟩), ?_⟩
                                      conv => whnf
                                      refine .inl ⟨_, _, byX rfl (o3' _ _ ⟨rfl, rfl, rfl⟩), ?_⟩
                                      conv => whnf
                                      refine ⟨[], by kernel_rfl, ?_⟩
                                      conv => whnf
                                      refine ifB_beq (fun w16 => ?_) (fun w16 => ?_)
                                      · conv => whnf
                                        refine ifB_beq (fun w17 => ?_) (fun w17 => ?_)
                                        · conv => whnf
                                          refine ⟨⟨(by omega), (by omega)⟩, ?_⟩
                                          conv => whnf
                                          refine ⟨⟨(by omega), (by omega)⟩, ?_⟩
                                          conv => whnf
                                          refine ⟨?_, nofun⟩
                                          (exact vbE (beq_iff_eq.2 (by omega)))
                                        · (exfalso; omega)
                                      · (exfalso; omega)
                              · (exfalso; omega)
                            · (exfalso; omega)
                    · (exfalso; omega)
                · (exfalso; omega)
          · (exfalso; omega)
        · (exfalso; omega)
      · refine sound (d := 2) tok2 mixed2 Try.func3 (by kernel_rfl) (by kernel_rfl) ?_
        conv => whnf
        refine .inl ⟨_, _, byX rfl (Sound1.pl (h4) rfl), ?_⟩
        conv => whnf
        refine .inl ⟨_, _, byX rfl (Sound1.pl (h5 _ _ _) rfl), ?_⟩
        conv => whnf
        refine ifB_not ?_
        conv => whnf
        refine ifB_dec (fun w1 => ?_) (fun w1 => ?_)
        · conv => whnf
          refine .inl ⟨_, _, byX rfl (Sound1.pl (e6a) rfl), ?_⟩
          conv => whnf
          refine .inl ⟨_, _, byX rfl (Sound1.pl (e6b) rfl), ?_⟩
          conv => whnf
          refine .inl ⟨_, _, byX rfl (Sound1.pl (h5 _ _ _) rfl), ?_⟩
          conv => whnf
          refine ifB_not ?_
          conv => whnf
          refine ifB_dec (fun w2 => ?_) (fun w2 => ?_)
          · conv => whnf
            refine ⟨[(4, 8)], by kernel_rfl, ?_⟩
            conv => whnf
            refine .inl ⟨_, _, byX rfl (h7' _ _ ⟨rfl, rfl, rfl, rfl⟩), ?_⟩
            conv => whnf
            refine ⟨[], by kernel_rfl, ?_⟩
            conv => whnf
            refine ifB_bne (fun w3 => ?_) (fun w3 => ?_)
            · (exfalso; omega)
            · conv => whnf
              refine ifB_bne (fun w4 => ?_) (fun w4 => ?_)
              · (exfalso; omega)
              · conv => whnf
                refine ⟨⟨(by omega), (by omega)⟩, ?_⟩
                conv => whnf
                refine ⟨⟨(by omega), (by omega)⟩, ?_⟩
                conv => whnf
                refine .inl ⟨_, _, byX rfl (Sound1.pl (h5 _ _ _) rfl), ?_⟩
                conv => whnf
                refine ifB_not ?_
                conv => whnf
                refine ifB_dec (fun w5 => ?_) (fun w5 => ?_)
                · conv => whnf
                  refine ⟨⟨(by omega), (by omega)⟩, ?_⟩
                  conv => whnf
                  refine ifB_dec (fun w6 => ?_) (fun w6 => ?_)
                  · (exfalso; omega)
                  · conv => whnf
                    refine ⟨inK64 (by omega) (by omega), ?_⟩
                    conv => whnf
                    refine ⟨[], by kernel_rfl, ?_⟩
                    conv => whnf
                    refine ⟨⟨(by omega), (by omega)⟩, ?_⟩
                    conv => whnf
                    refine ⟨inK64 (by omega) (by omega), ?_⟩
                    conv => whnf
                    refine ⟨⟨(by omega), (by omega)⟩, ?_⟩
                    conv => whnf
                    refine ⟨inK64 (by omega) (by omega), ?_⟩
                    conv => whnf
                    refine .inl ⟨_, _, byX rfl (Sound1.pl (h8 _ ⟨rfl, rfl⟩) rfl), ?_⟩
                    conv => whnf
                    refine .inl ⟨_, _, byX rfl (Sound1.pl (h5 _ _ _) rfl), ?_⟩
                    conv => whnf
                    refine ifB_not ?_
                    conv => whnf
                    refine ifB_dec (fun w7 => ?_) (fun w7 => ?_)
                    · conv => whnf
                      refine ifB_dec (fun w8 => ?_) (fun w8 => ?_)
                      · (exfalso; omega)
                      · conv => whnf
                        refine ifB_dec (fun w9 => ?_) (fun w9 => ?_)
                        · (exfalso; omega)
                        · conv => whnf
                          refine ifB_dec (fun w10 => ?_) (fun w10 => ?_)
                          · (exfalso; omega)
                          · conv => whnf
                            refine .inl ⟨_, _, byX rfl (Sound1.pl (e9a) rfl), ?_⟩
                            conv => whnf
                            refine .inl ⟨_, _, byX rfl (Sound1.pl (e9b) rfl), ?_⟩
                            conv => whnf
                            refine .inl ⟨_, _, byX rfl (Sound1.pl (h5 _ _ _) rfl), ?_⟩
                            conv => whnf
                            refine ifB_not ?_
                            conv => whnf
                            refine ifB_dec (fun w11 => ?_) (fun w11 => ?_)
                            · conv => whnf
                              refine .inl ⟨_, _, byX rfl (Sound1.pl (h5 _ _ _) rfl), ?_⟩
                              conv => whnf
                              refine ifB_not ?_
                              conv => whnf
                              refine ifB_dec (fun w12 => ?_) (fun w12 => ?_)
                              · conv => whnf
                                refine ⟨inK64 (by omega) (by omega), ?_⟩
                                conv => whnf
                                refine ifB_dec (fun w13 => ?_) (fun w13 => ?_)
                                · (exfalso; omega)
                                · conv => whnf
                                  refine .inl ⟨_, _, byX rfl (Sound1.pl (h10 _ ⟨rfl, rfl⟩) rfl), ?_⟩
                                  conv => whnf
                                  refine ⟨inK64 (by omega) (by omega), ?_⟩
                                  conv => whnf
                                  refine ifB_bne (fun w14 => ?_) (fun w14 => ?_)
                                  · (exfalso; omega)
                                  · conv => whnf
                                    refine ifB_dec (fun w15 => ?_) (fun w15 => ?_)
                                    · conv => whnf
                                      refine ⟨?_, nofun⟩
                                      (rfl)
                                    · (exfalso; omega)
                              · (exfalso; omega)
                            · (exfalso; omega)
                    · (exfalso; omega)
                · (exfalso; omega)
          · (exfalso; omega)
        · (exfalso; omega)
    · have d5 := d4 (by omega)
      have ef : dropF [a, b] D = ((0, 0), 12) := by unfold dropF; rw [if_pos d1, if_pos (by omega)]
      simp only [ef] at h8
      change ∀ f : Nat → List AV, _ → SP 8 _ (.tuple [.agg [i64 0, i64 0], i64 12]) _ at h8
      by_cases hab : a + b ≤ 1000
      · obtain ⟨⟨p, p1, p2, p3⟩, ⟨o, o1, o2, o3⟩⟩ := hs hab
        have p3' := S11s p3
        have o3' := S11o o3
        refine sound (d := 2) tok2 mixed2 Try.func3 (by kernel_rfl) (by kernel_rfl) ?_
        conv => whnf
        refine .inl ⟨_, _, byX rfl (Sound1.pl (h4) rfl), ?_⟩
        conv => whnf
        refine .inl ⟨_, _, byX rfl (Sound1.pl (h5 _ _ _) rfl), ?_⟩
        conv => whnf
        refine ifB_not ?_
        conv => whnf
        refine ifB_dec (fun w1 => ?_) (fun w1 => ?_)
        · conv => whnf
          refine .inl ⟨_, _, byX rfl (Sound1.pl (e6a) rfl), ?_⟩
          conv => whnf
          refine .inl ⟨_, _, byX rfl (Sound1.pl (e6b) rfl), ?_⟩
          conv => whnf
          refine .inl ⟨_, _, byX rfl (Sound1.pl (h5 _ _ _) rfl), ?_⟩
          conv => whnf
          refine ifB_not ?_
          conv => whnf
          refine ifB_dec (fun w2 => ?_) (fun w2 => ?_)
          · conv => whnf
            refine ⟨[(4, 8)], by kernel_rfl, ?_⟩
            conv => whnf
            refine .inl ⟨_, _, byX rfl (h7' _ _ ⟨rfl, rfl, rfl, rfl⟩), ?_⟩
            conv => whnf
            refine ⟨[], by kernel_rfl, ?_⟩
            conv => whnf
            refine ifB_bne (fun w3 => ?_) (fun w3 => ?_)
            · (exfalso; omega)
            · conv => whnf
              refine ifB_bne (fun w4 => ?_) (fun w4 => ?_)
              · (exfalso; omega)
              · conv => whnf
                refine ⟨⟨(by omega), (by omega)⟩, ?_⟩
                conv => whnf
                refine ⟨⟨(by omega), (by omega)⟩, ?_⟩
                conv => whnf
                refine .inl ⟨_, _, byX rfl (Sound1.pl (h5 _ _ _) rfl), ?_⟩
                conv => whnf
                refine ifB_not ?_
                conv => whnf
                refine ifB_dec (fun w5 => ?_) (fun w5 => ?_)
                · conv => whnf
                  refine ⟨⟨(by omega), (by omega)⟩, ?_⟩
                  conv => whnf
                  refine ifB_dec (fun w6 => ?_) (fun w6 => ?_)
                  · (exfalso; omega)
                  · conv => whnf
                    refine ⟨inK64 (by omega) (by omega), ?_⟩
                    conv => whnf
                    refine ⟨[], by kernel_rfl, ?_⟩
                    conv => whnf
                    refine ⟨⟨(by omega), (by omega)⟩, ?_⟩
                    conv => whnf
                    refine ⟨inK64 (by omega) (by omega), ?_⟩
                    conv => whnf
                    refine ⟨⟨(by omega), (by omega)⟩, ?_⟩
                    conv => whnf
                    refine ⟨inK64 (by omega) (by omega), ?_⟩
                    conv => whnf
                    refine .inl ⟨_, _, byX rfl (Sound1.pl (h8 _ ⟨rfl, rfl⟩) rfl), ?_⟩
                    conv => whnf
                    refine ifB_dec (fun w7 => ?_) (fun w7 => ?_)
                    · (exfalso; omega)
                    · conv => whnf
                      refine .inl ⟨_, _, byX rfl (Sound1.pl (h10 _ ⟨rfl, rfl⟩) rfl), ?_⟩
                      conv => whnf
                      refine ⟨inK64 (by omega) (by omega), ?_⟩
                      conv => whnf
                      refine ifB_bne (fun w8 => ?_) (fun w8 => ?_)
                      · (exfalso; omega)
                      · conv => whnf
                        refine ifB_dec (fun w9 => ?_) (fun w9 => ?_)
                        · (exfalso; omega)
                        · conv => whnf
                          refine .inl ⟨_, _, byX rfl (p3' _ _ ⟨rfl, rfl, rfl, rfl, rfl⟩), ?_⟩
                          conv => whnf
                          refine .inl ⟨_, _, byX rfl (o3' _ _ ⟨rfl, rfl, rfl⟩), ?_⟩
                          conv => whnf
                          refine ⟨[], by kernel_rfl, ?_⟩
                          conv => whnf
                          refine ifB_beq (fun w10 => ?_) (fun w10 => ?_)
                          · conv => whnf
                            refine ifB_beq (fun w11 => ?_) (fun w11 => ?_)
                            · conv => whnf
                              refine ⟨⟨(by omega), (by omega)⟩, ?_⟩
                              conv => whnf
                              refine ⟨⟨(by omega), (by omega)⟩, ?_⟩
                              conv => whnf
                              refine ⟨?_, nofun⟩
                              (exact vbE (beq_iff_eq.2 (by omega)))
                            · (exfalso; omega)
                          · (exfalso; omega)
                · (exfalso; omega)
          · (exfalso; omega)
        · (exfalso; omega)
      · refine sound (d := 2) tok2 mixed2 Try.func3 (by kernel_rfl) (by kernel_rfl) ?_
        conv => whnf
        refine .inl ⟨_, _, byX rfl (Sound1.pl (h4) rfl), ?_⟩
        conv => whnf
        refine .inl ⟨_, _, byX rfl (Sound1.pl (h5 _ _ _) rfl), ?_⟩
        conv => whnf
        refine ifB_not ?_
        conv => whnf
        refine ifB_dec (fun w1 => ?_) (fun w1 => ?_)
        · conv => whnf
          refine .inl ⟨_, _, byX rfl (Sound1.pl (e6a) rfl), ?_⟩
          conv => whnf
          refine .inl ⟨_, _, byX rfl (Sound1.pl (e6b) rfl), ?_⟩
          conv => whnf
          refine .inl ⟨_, _, byX rfl (Sound1.pl (h5 _ _ _) rfl), ?_⟩
          conv => whnf
          refine ifB_not ?_
          conv => whnf
          refine ifB_dec (fun w2 => ?_) (fun w2 => ?_)
          · conv => whnf
            refine ⟨[(4, 8)], by kernel_rfl, ?_⟩
            conv => whnf
            refine .inl ⟨_, _, byX rfl (h7' _ _ ⟨rfl, rfl, rfl, rfl⟩), ?_⟩
            conv => whnf
            refine ⟨[], by kernel_rfl, ?_⟩
            conv => whnf
            refine ifB_bne (fun w3 => ?_) (fun w3 => ?_)
            · (exfalso; omega)
            · conv => whnf
              refine ifB_bne (fun w4 => ?_) (fun w4 => ?_)
              · (exfalso; omega)
              · conv => whnf
                refine ⟨⟨(by omega), (by omega)⟩, ?_⟩
                conv => whnf
                refine ⟨⟨(by omega), (by omega)⟩, ?_⟩
                conv => whnf
                refine .inl ⟨_, _, byX rfl (Sound1.pl (h5 _ _ _) rfl), ?_⟩
                conv => whnf
                refine ifB_not ?_
                conv => whnf
                refine ifB_dec (fun w5 => ?_) (fun w5 => ?_)
                · conv => whnf
                  refine ⟨⟨(by omega), (by omega)⟩, ?_⟩
                  conv => whnf
                  refine ifB_dec (fun w6 => ?_) (fun w6 => ?_)
                  · (exfalso; omega)
                  · conv => whnf
                    refine ⟨inK64 (by omega) (by omega), ?_⟩
                    conv => whnf
                    refine ⟨[], by kernel_rfl, ?_⟩
                    conv => whnf
                    refine ⟨⟨(by omega), (by omega)⟩, ?_⟩
                    conv => whnf
                    refine ⟨inK64 (by omega) (by omega), ?_⟩
                    conv => whnf
                    refine ⟨⟨(by omega), (by omega)⟩, ?_⟩
                    conv => whnf
                    refine ⟨inK64 (by omega) (by omega), ?_⟩
                    conv => whnf
                    refine .inl ⟨_, _, byX rfl (Sound1.pl (h8 _ ⟨rfl, rfl⟩) rfl), ?_⟩
                    conv => whnf
                    refine ifB_dec (fun w7 => ?_) (fun w7 => ?_)
                    · (exfalso; omega)
                    · conv => whnf
                      refine .inl ⟨_, _, byX rfl (Sound1.pl (h10 _ ⟨rfl, rfl⟩) rfl), ?_⟩
                      conv => whnf
                      refine ⟨inK64 (by omega) (by omega), ?_⟩
                      conv => whnf
                      refine ifB_bne (fun w8 => ?_) (fun w8 => ?_)
                      · (exfalso; omega)
                      · conv => whnf
                        refine ifB_dec (fun w9 => ?_) (fun w9 => ?_)
                        · conv => whnf
                          refine ⟨?_, nofun⟩
                          (rfl)
                        · (exfalso; omega)
                · (exfalso; omega)
          · (exfalso; omega)
        · (exfalso; omega)
theorem S3 (H a b D : Int) : SP 3 [.agg [i64 H, i64 a, i64 b, i64 D]] (vb true) false := by
  have h4 := S4
  have e5H := S5 H 0 1000000
  by_cases hH : 0 ≤ H ∧ H ≤ 1000000
  · rw [decide_eq_true hH] at e5H
    have e6a := S6 a
    unfold rE at e6a
    by_cases ha : 1 ≤ a ∧ a ≤ 1000
    · rw [if_pos ha] at e6a
      have e6b := S6 b
      unfold rE at e6b
      by_cases hb : 1 ≤ b ∧ b ≤ 1000
      · rw [if_pos hb] at e6b
        have e5D := S5 D 0 10000
        by_cases hD : 0 ≤ D ∧ D ≤ 10000
        · exact S3ok H a b D hH ha hb hD
        · rw [decide_eq_false hD] at e5D
          refine sound (d := 2) tok2 mixed2 Try.func3 (by kernel_rfl) (by kernel_rfl) ?_
          conv => whnf
          refine .inl ⟨_, _, byX rfl (Sound1.pl (h4) rfl), ?_⟩
          conv => whnf
          refine .inl ⟨_, _, byX rfl (Sound1.pl (e5H) rfl), ?_⟩
          conv => whnf
          refine .inl ⟨_, _, byX rfl (Sound1.pl (e6a) rfl), ?_⟩
          conv => whnf
          refine .inl ⟨_, _, byX rfl (Sound1.pl (e6b) rfl), ?_⟩
          conv => whnf
          refine .inl ⟨_, _, byX rfl (Sound1.pl (e5D) rfl), ?_⟩
          conv => whnf
          refine ⟨?_, nofun⟩
          (rfl)
      · rw [if_neg hb] at e6b
        refine sound (d := 2) tok2 mixed2 Try.func3 (by kernel_rfl) (by kernel_rfl) ?_
        conv => whnf
        refine .inl ⟨_, _, byX rfl (Sound1.pl (h4) rfl), ?_⟩
        conv => whnf
        refine .inl ⟨_, _, byX rfl (Sound1.pl (e5H) rfl), ?_⟩
        conv => whnf
        refine .inl ⟨_, _, byX rfl (Sound1.pl (e6a) rfl), ?_⟩
        conv => whnf
        refine .inl ⟨_, _, byX rfl (Sound1.pl (e6b) rfl), ?_⟩
        conv => whnf
        refine ⟨?_, nofun⟩
        (rfl)
    · rw [if_neg ha] at e6a
      refine sound (d := 2) tok2 mixed2 Try.func3 (by kernel_rfl) (by kernel_rfl) ?_
      conv => whnf
      refine .inl ⟨_, _, byX rfl (Sound1.pl (h4) rfl), ?_⟩
      conv => whnf
      refine .inl ⟨_, _, byX rfl (Sound1.pl (e5H) rfl), ?_⟩
      conv => whnf
      refine .inl ⟨_, _, byX rfl (Sound1.pl (e6a) rfl), ?_⟩
      conv => whnf
      refine ⟨?_, nofun⟩
      (rfl)
  · rw [decide_eq_false hH] at e5H
    refine sound (d := 2) tok2 mixed2 Try.func3 (by kernel_rfl) (by kernel_rfl) ?_
    conv => whnf
    refine .inl ⟨_, _, byX rfl (Sound1.pl (h4) rfl), ?_⟩
    conv => whnf
    refine .inl ⟨_, _, byX rfl (Sound1.pl (e5H) rfl), ?_⟩
    conv => whnf
    refine ⟨?_, nofun⟩
    (rfl)
end Go.Tr

/- The end of a law's proof: what every law shares; further openings of arguments. Conditions: none. -/
namespace Go.Tr
open Go Go.Proofs Go.RowKit Go.WideShapes Go.ChangeShapes
section
variable {H : Type} {enc : TypeId × Value → H} {P : Program}
theorem post_of_below {f : Func} {s : ChangeSpec} {apart fresh handsOn again : Bool} {W W' : World} {args : Array Value} {v : Value} {ds gs : List (DataW H)} {before pa pv : List MemPlace}
    (hW : DataW.Whole enc P f.params.toList s.vars apart W args.toList ds gs before)
    (hres : ∀ (b : Nat) (sp : Nat → Bool) (hd : Bool), DataW.TrodAll enc P W' b sp hd f.resultTypes.toList (v.resultList f.resultTypes.size) (s.fn H (ds ++ gs)).results [])
    (hargs : ∀ sp : Nat → Bool, (∀ p ∈ before, sp p.block = true) → DataW.TrodAll enc P W' 0 sp true f.params.toList args.toList (s.fn H (ds ++ gs)).args pa)
    (hvars : ∀ sp : Nat → Bool, (∀ p ∈ before, sp p.block = true) → DataW.TrodVars enc P W' sp s.vars (s.fn H (ds ++ gs)).vars pv)
    (hps : before = pa ++ pv) (hb : Below W.heap.size W W')
    (hok : ∀ (j : Nat) (t : TypeId) (r : Value), f.resultTypes[j]? = some t → (v.resultList f.resultTypes.size)[j]? = some r → Value.okWide P W' .any 0 t r) :
    s.post enc P f apart fresh handsOn again W args v W' := by
  have hlt : ∀ p ∈ before, p.block < W.heap.size := fun p hp => hW.lt p hp
  have hold : ∀ p ∈ before, (fun b => decide (b < W.heap.size)) p.block = true := fun p hp => by simpa using hlt p hp
  refine ⟨ds, gs, before, [], pa, pv, hW, hres _ _ _, hargs _ hold, hvars _ hold, World.keptBut_mono (fun p hp => ⟨hp, ?_⟩) (hb.frame (· ∈ before)), fun _ => ?_⟩
  · rw [hps, List.mem_append] at hp
    exact Or.inr hp
  · obtain ⟨_, _, _, _, _, hz, hn⟩ := hW
    refine ⟨hok, _, _, ([] ++ pa) ++ pv, ⟨[] ++ pa, pv, trodAll_append (hargs _ (fun _ _ => rfl)) (hres _ _ _), hvars _ (fun _ _ => rfl), rfl, ?_, ?_⟩, ?_⟩
    · intro b off hp
      have hin : MemPlace.cell b off ∈ before := by rw [hps]; simpa using hp
      rw [hb.frozen (hlt _ hin)]
      exact hz b off hin
    · intro ha
      have := hn ha
      rw [hps] at this
      simpa using this
    · intro p hp _
      rw [hps]
      simpa using hp
end

set_option maxRecDepth 20000
theorem cells3 : Try.prog.cellsOf 3 = 1 := by kernel_rfl
theorem ints_open {x : AV} (h : TyA Try.prog 4 45 x) : ∃ l : List Int, AVE 5 x (ints l) ∧ l.length ≤ 9223372036854775807 ∧ ∀ a ∈ l, inK .i64 a := by
  simp only [TyA, Try.underlying45] at h
  unfold TyC at h
  simp only [Try.underlying45] at h
  obtain ⟨len, f, e, hl, hf⟩ := h
  cases e
  obtain ⟨l, n1, n2, n3⟩ := list_open (g := fun n : Int => [i64 n]) (p := fun n => inK .i64 n) 0 (fun i hi => int_open Try.underlying3 (hf i hi))
  rw [cells3]
  exact ⟨l, n3 4, by rw [n1]; exact hl, n2⟩
theorem pair_open {t : TypeId} {fs : Array Field} (hu : Try.prog.underlying t = some (.struct fs)) (hf : fs.toList.map (·.type) = [3, 3]) {x : AV} (h : TyA Try.prog 4 t x) : ∃ a b : Int, AVE 5 x (.agg [i64 a, i64 b]) ∧ inK .i64 a ∧ inK .i64 b := by
  simp only [TyA, hu] at h
  obtain ⟨xs, rfl, h⟩ := h
  unfold TyC at h
  simp only [hu] at h
  obtain ⟨ps, rfl, h⟩ := h
  generalize fs.toList = L at hf h
  match L with
  | [] => simp at hf
  | [_] => simp at hf
  | _ :: _ :: _ :: _ => simp at hf
  | [f, g] =>
    simp only [List.map_cons, List.map_nil, List.cons.injEq, and_true] at hf
    obtain ⟨p, q, rfl, h1, h2⟩ := all2_2 h
    rw [hf.1] at h1
    rw [hf.2] at h2
    obtain ⟨a, rfl, ha⟩ := int_open Try.underlying3 h1
    obtain ⟨b, rfl, hb⟩ := int_open Try.underlying3 h2
    exact ⟨a, b, ave2 a b, ha, hb⟩
theorem range_open {x : AV} (h : TyA Try.prog 4 42 x) : ∃ a b : Int, AVE 5 x (.agg [i64 a, i64 b]) ∧ inK .i64 a ∧ inK .i64 b := pair_open Try.underlying42 rfl h
end Go.Tr

namespace Go.Proofs.Ytfcagapficjffaa
open Go.ChangeShapes Go.WideShapes Go.ChangeAt Go.RowKit Go.Tr
theorem Try.own : ownKnob Try.prog.godebug = none := by kernel_rfl
theorem Try.laidOut : laidOutB Try.prog = true := by kernel_rfl
end Go.Proofs.Ytfcagapficjffaa

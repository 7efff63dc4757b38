/- Contracts of chapter 5: flows at a head, points of runaway. Conditions: none. -/
import Derived.Test.YtgbdlkajmmjahaaGreatTr12
set_option linter.unusedSectionVars false
set_option linter.unnecessarySimpa false
set_option linter.unusedVariables false
set_option linter.unusedSimpArgs false

-- seat YtgbdlkajmmjahaaGreat
namespace Go.Tr
open Go Go.Proofs
set_option maxRecDepth 20000
set_option maxHeartbeats 8000000

theorem S91 (h : Int) : SP 91 [i64 h] (lnA (hdL h)) false := by
 refine sound (d := 2) tok2 mixed2 Tryz.func91 (by kernel_rfl) (by kernel_rfl) ?_
 (conv => whnf); refine ⟨?_, nofun⟩
 (first | contradiction | exact ave_ln (l := hdL h))
theorem S31 (h : Int) : SP 31 [i64 h] (lnA (hdL h)) false := by
 refine sound (d := 2) tok2 mixed2 Tryz.func31 (by kernel_rfl) (by kernel_rfl) ?_
 (conv => whnf); refine ⟨?_, nofun⟩
 (first | contradiction | exact ave_ln (l := hdL h))
def zrL : Ln := (0, 0, 1, 0)
theorem zrL_ok : LnOk zrL := by unfold LnOk zrL; decide
theorem S28 : SP 28 [] (lnA zrL) false := by
 refine sound (d := 2) tok2 mixed2 Tryz.func28 (by kernel_rfl) (by kernel_rfl) ?_
 (conv => whnf); refine ⟨?_, nofun⟩
 (first | contradiction | exact ave_ln (l := zrL))
def flE (t : List MRow) (f : Int × Int) (h : Int) : Int := if ocE t f ≠ 0 then ocE t f else szE h
theorem flE_ok {t : List MRow} {f : Int × Int} {h : Int} (g : flE t f h = 0) : ocE t f = 0 ∧ szE h = 0 := by
 unfold flE at g
 by_cases h1 : ocE t f = 0
 ·rw [if_neg (not_not_intro h1)] at g; exact ⟨h1, g⟩
 ·rw [if_pos h1] at g; exact absurd g h1
theorem S27 (t : List MRow) (ht : Fit t) (f : Int × Int) (hf : FrI f) : SP 27 [tblA t, gaF f] (.tuple [sps (if ocE t f = 0 then slL (crvQ t f) zrL else []), i64 (if ocE t f = 0 then slE (crvQ t f) zrL else ocE t f)]) false := by
 have h74 := S74 t ht f hf
 by_cases h1 : ocE t f = 0
 ·obtain ⟨hT, _, hO⟩ := ocE_ok h1
  have h79 := S79c hT hO zrL_ok
  unfold ocL at h74
  rw [if_pos h1, h1] at h74
  rw [if_pos h1, if_pos h1]
  refine sound (d := 2) tok2 mixed2 Tryz.func27 (by kernel_rfl) (by kernel_rfl) ?_
  (conv => whnf); refine .inl ⟨_, _, byX rfl (h74), ?_⟩
  (conv => whnf); refine .inl ⟨_, _, byX rfl (h79), ?_⟩
  (conv => whnf); refine ⟨?_, nofun⟩
  exact ave_tup2 ⟨rfl, rfl, fun _ _ => rfl⟩ rfl
 ·rw [if_neg h1, if_neg h1]
  refine sound (d := 2) tok2 mixed2 Tryz.func27 (by kernel_rfl) (by kernel_rfl) ?_
  (conv => whnf); refine .inl ⟨_, _, byX rfl (h74), ?_⟩
  (conv => whnf); refine ifB_bne (fun w1 => ?_) (fun w1 => ?_)
  ·(conv => whnf); refine ⟨?_, nofun⟩
   exact ave_tup2 rfl rfl
  ·(exfalso; omega)
def flQ (t : List MRow) (f : Int × Int) (h : Int) : List Rat := fls (onS (crvQ t f) (hdL h))
def flR (L : List Rat) : List Rat := if allR L = true then flo1 L else []
set_option maxHeartbeats 16000000 in
theorem S26 (t : List MRow) (ht : Fit t) (f : Int × Int) (hf : FrI f) (h : Int) : SP 26 [tblA t, gaF f, i64 h] (.tuple [frs (if flE t f h = 0 then flR (flQ t f h) else []), i64 (if flE t f h = 0 then smRE (flQ t f h) else flE t f h)]) false := by
 have h74 := S74 t ht f hf
 have h77 := fun a => @S77_1 a
 have h76 := @S76_2 (ocE t f) (szE h)
 rw [first2] at h76
 change ∀ {f' : Nat → List AV}, _ → SP 76 _ (i64 (flE t f h)) false at h76
 by_cases h0 : flE t f h = 0
 ·obtain ⟨h1, h2⟩ := flE_ok h0
  obtain ⟨hT, _, hO⟩ := ocE_ok h1
  have hl := hdL_ok h2
  have hcv := crv_ok hT hO
  have h91 := S91 h
  have h90 := S90 (crvN t f) (hdL h) hcv hl
  have hLn := onL_len hcv (hdL h)
  have hLb := onL_ok hcv hl
  have hQ : (onL (crvN t f) (hdL h)).map (fun n => (nmQ n).2.1) = flQ t f h := by
   unfold flQ fls
   rw [← crv_map hT hO, ← onL_map hcv, List.map_map]; rfl
  generalize onL (crvN t f) (hdL h) = L at *
  generalize flQ t f h = Q at *
  have hQl : Q.length = L.length := by rw [← hQ, List.length_map]
  have hQg : ∀ k, k < L.length → Q.getD k 0 = (nmQ (L.getD k n0)).2.1 := fun k hk => by rw [← hQ]; exact getD_mapG _ L k n0 0 hk
  have c92 := fun (k : Nat) (hk : k < L.length) => S92p (L.getD k n0).1.2.1 (L.getD k n0).2 (by have := (hLb _ (getD_memG (d := n0) hk)); have := this.d; have := (hLb _ (getD_memG (d := n0) hk)).q; omega) (by have := (hLb _ (getD_memG (d := n0) hk)).d; omega)
  rw [h0] at h76
  unfold ocL at h74
  rw [if_pos h1] at h74
  rw [if_pos h0, if_pos h0]
  refine sound (d := 5) tok2 mixed2 Tryz.func26 (by kernel_rfl) (by kernel_rfl) ?_
  (conv => whnf); refine .inl ⟨_, _, byX rfl (h74), ?_⟩
  (conv => whnf); refine .inl ⟨_, _, byX rfl (Sound1.pl (h77 _ rfl) rfl), ?_⟩
  (conv => whnf); refine .inl ⟨_, _, byX rfl (Sound1.pl (h76 ⟨rfl, rfl⟩) rfl), ?_⟩
  (conv => whnf); refine .inl ⟨_, _, byX rfl (Sound1.pl (h91) rfl), ?_⟩
  (conv => whnf); refine .inl ⟨_, _, byX rfl (h90), ?_⟩
  (conv => whnf); refine ⟨[.slot 10 2], [10, 33, 34, 35], fun st mq => ∃ (k : Nat) (F0 : Nat → List AV) (F1 : Nat → List AV) (F2 : Nat → List AV) (F3 : Nat → List AV), (k ≤ L.length) ∧ (∀ j, j < k → smR (Q.getD j 0)) ∧ st = ⟨[(10, .oslice 4 0 0 k none), (33, nms L), (34, i64 L.length), (35, i64 k)], ⟨[⟨1, 1, F0, 0, false, true, false⟩, ⟨2, 1, F1, 0, false, true, false⟩, ⟨1, 1, F2, 0, false, true, false⟩, ⟨1, 2, F3, 0, false, true, false⟩, ⟨2, k, fun i => fqC (Q.getD i 0), 0, false, true, false⟩], [], none, 0⟩, []⟩ ∧ mq = L.length - k,
   ⟨_, _, ⟨0, _, _, _, _, by omega, fun j h => absurd h (Nat.not_lt_zero j), rfl, rfl⟩, ⟨⟨.inl rfl, rfl, rfl, rfl⟩, ⟨⟨rfl, rfl, rfl, rfl, fun _ => rfl, fun _ _ => .inl rfl⟩, ⟨⟨rfl, rfl, rfl, rfl, fun _ => rfl, fun _ _ => .inl rfl⟩, ⟨⟨rfl, rfl, rfl, rfl, fun _ => rfl, fun _ _ => .inl rfl⟩, ⟨⟨rfl, rfl, rfl, rfl, fun _ => rfl, fun _ _ => .inl rfl⟩, ⟨⟨rfl, rfl, rfl, rfl, fun _ => rfl, fun i h => .inl (absurd h (Nat.not_lt_zero i))⟩, trivial⟩⟩⟩⟩⟩, trivial⟩⟩, ?_⟩
  rintro s0 m0 ⟨k, F0, F1, F2, F3, hk, hs, rfl, hmeas⟩
  by_cases hlt : k < L.length
  ·have c1 := c92 k hlt
   change SP 92 _ (.tuple [gaF (okR (nmQ (L.getD k n0)).2.1), i64 (if smR (nmQ (L.getD k n0)).2.1 then 0 else 8)]) false at c1
   rw [← hQg k hlt] at c1
   by_cases g : smR (Q.getD k 0)
   ·unfold okR at c1
    rw [if_pos g, if_pos g] at c1
    conv => whnf
    (conv => whnf); refine ifB_dec (fun w1 => ?_) (fun w1 => ?_)
    ·conv => whnf
     (conv => whnf); refine ⟨⟨(by omega), (by omega)⟩, ?_⟩
     conv => whnf
     (conv => whnf); refine ⟨⟨(by omega), (by omega)⟩, ?_⟩
     conv => whnf
     (conv => whnf); refine .inl ⟨_, _, byX rfl (Sound1.pl (c1) rfl), ?_⟩
     conv => whnf
     (conv => whnf); refine .inl ?_
     conv => whnf
     (conv => whnf); refine ⟨(by show _ * (16 + 1) ≤ _; omega), ?_⟩
     conv => whnf
     (conv => whnf); refine ⟨inK64 (by omega) (by omega), ?_⟩
     conv => whnf
     (conv => whnf); refine ⟨_, _, ⟨⟨k + 1, _, _, _, _, by omega, (fun j hj => by by_cases e : j = k; (rw [e]; exact g); exact hs j (by omega)), rfl, rfl⟩, by omega⟩, ⟨⟨.inl rfl, rfl, rfl, rfl⟩, ⟨⟨rfl, rfl, rfl, rfl, fun _ => rfl, fun _ _ => .inl rfl⟩, ⟨⟨rfl, rfl, rfl, rfl, fun _ => rfl, fun _ _ => .inl rfl⟩, ⟨⟨rfl, rfl, rfl, rfl, fun _ => rfl, fun _ _ => .inl rfl⟩, ⟨⟨rfl, rfl, rfl, rfl, fun _ => rfl, fun _ _ => .inl rfl⟩, ⟨⟨rfl, rfl, rfl, rfl, fun _ => rfl, fun i hi => .inl (extG fqC (m := 2) (fun _ => rfl) (fun i => Q.getD i 0) k i hi)⟩, trivial⟩⟩⟩⟩⟩, trivial⟩⟩
    ·(exfalso; omega)
   ·rw [if_neg g] at c1
    have ha := allR_no (L := Q) (by omega) g
    unfold flR smRE
    rw [ha]
    conv => whnf
    (conv => whnf); refine ifB_dec (fun w1 => ?_) (fun w1 => ?_)
    ·conv => whnf
     (conv => whnf); refine ⟨⟨(by omega), (by omega)⟩, ?_⟩
     conv => whnf
     (conv => whnf); refine ⟨⟨(by omega), (by omega)⟩, ?_⟩
     conv => whnf
     (conv => whnf); refine .inl ⟨_, _, byX rfl (Sound1.pl (c1) rfl), ?_⟩
     conv => whnf
     (conv => whnf); refine ⟨?_, nofun⟩
     exact ave_tup2 rfl rfl
    ·(exfalso; omega)
  ·obtain rfl : k = L.length := by omega
   have ha := allR_yes (L := Q) (by rw [hQl]; exact hs)
   have hcmp : ∀ b : List Rat, b.Perm Q → ∀ i j, SP 94 [gaF (frI (b.getD i 0)), gaF (frI (b.getD j 0))] (i64 (cmpR (b.getD i 0) (b.getD j 0))) false := fun b hb i j => by
    have h1 : ∀ i, smR (b.getD i 0) := fun i => by
     by_cases hi : i < b.length
     ·exact of_decide_eq_true (List.all_eq_true.1 ha _ (hb.subset (getD_memG hi)))
     ·rw [List.getD_eq_getElem?_getD, List.getElem?_eq_none (by omega)]; show smR 0; unfold smR; decide
    exact S94 _ _ (h1 i) (h1 j)
   unfold flR smRE
   rw [ha, if_pos rfl, if_pos rfl]
   have hON := hQl
   generalize L.length = n at *
   have hu := u64_in hLn
   obtain ⟨rl, h153⟩ := S153 n hLn
   conv => whnf
   (conv => whnf); refine ifB_dec (fun w1 => ?_) (fun w1 => ?_)
   ·(exfalso; omega)
   ·conv => whnf
    (conv => whnf); refine .inr (.inl ⟨[], ?_⟩)
    conv => whnf
    (conv => whnf); refine ⟨by assumption, ?_⟩
    conv => whnf
    (conv => whnf); refine .inl ⟨_, _, byX rfl (Sound1.pl (h153) rfl), ?_⟩
    conv => whnf
    (conv => whnf); refine .inr (.inl ⟨[], ?_⟩)
    conv => whnf
    (conv => whnf); refine ⟨[.forget [0, 1, 2, 3, 4, 5, 6, 7, 8, 9, 10, 11, 12, 13, 14, 15, 16, 17, 18, 19, 20, 21, 22, 23, 25, 26, 27, 28, 29, 30, 31, 32, 33, 34, 35, 36, 37, 38, 39, 40, 41, 42, 43, 44, 45, 46, 47, 48, 49, 50, 51, 52, 53, 54, 55, 56, 57, 58, 59, 60, 61, 62, 63, 64, 65, 66, 67, 68, 69, 70, 71, 72, 73, 74, 75, 76, 77, 78, 79, 80, 81, 82, 83, 84, 85, 86, 87, 88, 89, 90, 91, 92, 93, 94, 95, 96, 97, 98, 99, 100, 101, 102, 103, 104, 105, 106, 107, 108, 109, 110, 111, 112, 113, 114, 115, 116, 117, 118, 119, 120, 121, 122, 123, 124, 125, 126, 127, 128, 129, 130, 131, 132, 133, 134, 135, 136, 137, 138, 139, 140, 141, 142, 143, 144, 145, 146, 147, 148, 149, 150, 151, 152, 153, 154, 155, 156, 157, 158, 159, 160, 161, 162, 163, 164, 165, 166, 167, 168, 169, 170, 171, 172, 173, 174, 175, 176, 177, 178, 179, 180, 181, 182, 183, 184, 185, 186, 187, 188, 189, 190, 191, 192, 193, 194, 195, 196, 197, 198, 199, 200, 201, 202, 203, 204, 205, 206, 207, 208, 209, 210, 211, 212, 213, 214, 215, 216, 217, 218, 219, 220, 221, 222, 223, 224, 225, 226, 227, 228, 229, 230, 231, 232, 233, 234, 235, 236, 237, 238, 239, 240, 241, 242, 243, 244, 245, 246, 247, 248, 249, 250, 251, 252, 253, 254, 255, 256, 257, 258, 259, 260, 261, 262, 263, 264, 265, 266, 267, 268, 269, 270, 271, 272, 273, 274, 275, 276, 277, 278, 279, 280, 281, 282, 283, 284, 285, 286, 287, 288, 289, 290, 291, 292, 293, 294, 295, 296, 297, 298, 299]], [0, 1, 2, 3, 4], fun st mq => ∃ (F0 : Nat → List AV) (F1 : Nat → List AV) (F2 : Nat → List AV) (F3 : Nat → List AV), st = ⟨[(0, .oslice 4 0 0 n none), (1, i64 0), (2, i64 n), (3, i64 rl), (4, .func (.func 94) 0 [])], ⟨[⟨1, 1, F0, 0, false, true, false⟩, ⟨2, 1, F1, 0, false, true, false⟩, ⟨1, 1, F2, 0, false, true, false⟩, ⟨1, 2, F3, 0, false, true, false⟩, ⟨2, n, fun i => fqC (Q.getD i (0 : Rat)), 0, false, true, false⟩], [], none, 0⟩, [(24, .oslice 4 0 0 n none)]⟩ ∧ mq = 0,
     ⟨_, _, ⟨_, _, _, _, rfl, rfl⟩, ⟨⟨.inl rfl, rfl, rfl, rfl⟩, ⟨⟨rfl, rfl, rfl, rfl, fun _ => rfl, fun _ _ => .inl rfl⟩, ⟨⟨rfl, rfl, rfl, rfl, fun _ => rfl, fun _ _ => .inl rfl⟩, ⟨⟨rfl, rfl, rfl, rfl, fun _ => rfl, fun _ _ => .inl rfl⟩, ⟨⟨rfl, rfl, rfl, rfl, fun _ => rfl, fun _ _ => .inl rfl⟩, ⟨⟨rfl, rfl, rfl, rfl, fun _ => rfl, fun _ _ => .inl rfl⟩, trivial⟩⟩⟩⟩⟩, trivial⟩⟩, ?_⟩
    rintro s0 m0 ⟨F0, F1, F2, F3, rfl, hmeas⟩
    conv => whnf
    conv => whnf
    (conv => whnf); refine ⟨inK64 (by omega) (by omega), ?_⟩
    conv => whnf
    conv => whnf
    (conv => whnf); refine ifB_dec (fun w2 => ?_) (fun w2 => ?_)
    ·conv => whnf
     conv => whnf
     (conv => whnf); refine .inr (.inl ⟨[], ?_⟩)
     conv => whnf
     conv => whnf
     (conv => whnf); refine ⟨inK64 (by omega) (by omega), ?_⟩
     conv => whnf
     conv => whnf
     (conv => whnf); refine ⟨[.forget [0, 1, 2, 3, 4, 5, 6, 7, 8, 9, 10, 11, 12, 13, 14, 15, 16, 17, 18, 19, 20, 21, 22, 23, 24, 25, 26, 27, 28, 29, 30, 31, 32, 33, 34, 35, 36, 37, 38, 39, 40, 41, 42, 43, 44, 45, 46, 47, 48, 49, 50, 51, 52, 53, 54, 55, 56, 57, 58, 59, 60, 61, 62, 63, 64, 65, 66, 67, 68, 69, 70, 71, 72, 73, 74, 75, 76, 77, 78, 79, 80, 81, 82, 83, 84, 85, 86, 87, 88, 89, 90, 91, 92, 93, 94, 95, 96, 97, 98, 99, 100, 101, 102, 103, 104, 105, 106, 107, 108, 109, 110, 111, 112, 113, 114, 115, 116, 117, 118, 119, 120, 121, 122, 123, 124, 125, 126, 127, 128, 129, 130, 131, 132, 133, 134, 135, 136, 137, 138, 139, 140, 141, 142, 143, 144, 145, 146, 147, 148, 149, 150, 151, 152, 153, 154, 155, 156, 157, 158, 159, 160, 161, 162, 163, 164, 165, 166, 167, 168, 169, 170, 171, 173, 174, 175, 176, 177, 178, 179, 180, 181, 182, 183, 184, 185, 186, 187, 188, 189, 190, 191, 192, 193, 194, 195, 196, 197, 198, 199, 200, 201, 202, 203, 204, 205, 206, 207, 208, 209, 210, 211, 212, 213, 214, 215, 216, 217, 218, 219, 220, 221, 222, 223, 224, 225, 226, 227, 228, 229, 230, 231, 232, 233, 234, 235, 236, 237, 238, 239, 240, 241, 242, 243, 244, 245, 246, 247, 248, 249, 250, 251, 252, 253, 254, 255, 256, 257, 258, 259, 260, 261, 262, 263, 264, 265, 266, 267, 268, 269, 270, 271, 272, 273, 274, 275, 276, 277, 278, 279, 280, 281, 282, 283, 284, 285, 286, 287, 288, 289, 290, 291, 292, 293, 294, 295, 296, 297, 298, 299]], [0, 1, 2, 3, 8], fun st mq => ∃ (i : Nat) (a : List Rat) (F0 : Nat → List AV) (F1 : Nat → List AV) (F2 : Nat → List AV) (F3 : Nat → List AV), (1 ≤ i) ∧ (i ≤ n ∨ i = 1) ∧ (a.length = n) ∧ (a.Perm Q) ∧ (SortG leR (0 : Rat) a i) ∧ st = ⟨[(0, .oslice 4 0 0 n none), (1, i64 0), (2, i64 n), (3, .func (.func 94) 0 []), (8, i64 i)], ⟨[⟨1, 1, F0, 0, false, true, false⟩, ⟨2, 1, F1, 0, false, true, false⟩, ⟨1, 1, F2, 0, false, true, false⟩, ⟨1, 2, F3, 0, false, true, false⟩, ⟨2, n, fun i => fqC (a.getD i (0 : Rat)), 0, false, true, false⟩], [], none, 0⟩, [(172, .oslice 4 0 0 n none)]⟩ ∧ mq = n - i,
      ⟨_, _, ⟨1, Q, _, _, _, _, by omega, by omega, hON, List.Perm.refl _, fun p q h1 h2 => by omega, rfl, rfl⟩, ⟨⟨.inl rfl, rfl, rfl, rfl⟩, ⟨⟨rfl, rfl, rfl, rfl, fun _ => rfl, fun _ _ => .inl rfl⟩, ⟨⟨rfl, rfl, rfl, rfl, fun _ => rfl, fun _ _ => .inl rfl⟩, ⟨⟨rfl, rfl, rfl, rfl, fun _ => rfl, fun _ _ => .inl rfl⟩, ⟨⟨rfl, rfl, rfl, rfl, fun _ => rfl, fun _ _ => .inl rfl⟩, ⟨⟨rfl, rfl, rfl, rfl, fun _ => rfl, fun _ _ => .inl rfl⟩, trivial⟩⟩⟩⟩⟩, trivial⟩⟩, ?_⟩
     rintro s0 m0 ⟨i, a, F0, F1, F2, F3, hi1, hi2, hal, hp, hs, rfl, hmeas⟩
     by_cases hil : i < n
     ·conv => whnf
      conv => whnf
      conv => whnf
      (conv => whnf); refine ifB_dec (fun w3 => ?_) (fun w3 => ?_)
      ·conv => whnf
       conv => whnf
       conv => whnf
       (conv => whnf); refine ⟨[], [0, 1, 2, 3, 8, 9], fun st mq => ∃ (j : Nat) (z : Int) (b : List Rat) (F0 : Nat → List AV) (F1 : Nat → List AV) (F2 : Nat → List AV) (F3 : Nat → List AV), (z = (j : Int)) ∧ (j ≤ i) ∧ (b.length = n) ∧ (b.Perm Q) ∧ (SinkG leR (0 : Rat) b j (i + 1)) ∧ st = ⟨[(0, .oslice 4 0 0 n none), (1, i64 0), (2, i64 n), (3, .func (.func 94) 0 []), (8, i64 i), (9, i64 z)], ⟨[⟨1, 1, F0, 0, false, true, false⟩, ⟨2, 1, F1, 0, false, true, false⟩, ⟨1, 1, F2, 0, false, true, false⟩, ⟨1, 2, F3, 0, false, true, false⟩, ⟨2, n, fun i => fqC (b.getD i (0 : Rat)), 0, false, true, false⟩], [], none, 0⟩, [(172, .oslice 4 0 0 n none)]⟩ ∧ mq = j,
        ⟨_, _, ⟨i, (i : Int), a, _, _, _, _, rfl, by omega, hal, hp, sinkG_start hs, rfl, rfl⟩, ⟨⟨.inl rfl, rfl, rfl, rfl⟩, ⟨⟨rfl, rfl, rfl, rfl, fun _ => rfl, fun _ _ => .inl rfl⟩, ⟨⟨rfl, rfl, rfl, rfl, fun _ => rfl, fun _ _ => .inl rfl⟩, ⟨⟨rfl, rfl, rfl, rfl, fun _ => rfl, fun _ _ => .inl rfl⟩, ⟨⟨rfl, rfl, rfl, rfl, fun _ => rfl, fun _ _ => .inl rfl⟩, ⟨⟨rfl, rfl, rfl, rfl, fun _ => rfl, fun _ _ => .inl rfl⟩, trivial⟩⟩⟩⟩⟩, trivial⟩⟩, ?_⟩
       rintro s0 m0 ⟨j, z, b, F0, F1, F2, F3, hz, hj, hbl, hpb, hsb, rfl, hmeas⟩
       subst hz
       have hcm := hcmp b hpb
       by_cases hj0 : j = 0
       ·subst hj0
        conv => whnf
        conv => whnf
        conv => whnf
        conv => whnf
        (conv => whnf); refine ⟨[], by kernel_rfl, ?_⟩
        conv => whnf
        conv => whnf
        conv => whnf
        conv => whnf
        (conv => whnf); refine ⟨inK64 (by omega) (by omega), ?_⟩
        conv => whnf
        conv => whnf
        conv => whnf
        conv => whnf
        (conv => whnf); refine ⟨_, _, ⟨⟨i + 1, b, _, _, _, _, by omega, by omega, hbl, hpb, sinkG_end leR_tr hsb (.inl rfl), rfl, rfl⟩, by omega⟩, ⟨⟨.inl rfl, rfl, rfl, rfl⟩, ⟨⟨rfl, rfl, rfl, rfl, fun _ => rfl, fun _ _ => .inl rfl⟩, ⟨⟨rfl, rfl, rfl, rfl, fun _ => rfl, fun _ _ => .inl rfl⟩, ⟨⟨rfl, rfl, rfl, rfl, fun _ => rfl, fun _ _ => .inl rfl⟩, ⟨⟨rfl, rfl, rfl, rfl, fun _ => rfl, fun _ _ => .inl rfl⟩, ⟨⟨rfl, rfl, rfl, rfl, fun _ => rfl, fun _ _ => .inl rfl⟩, trivial⟩⟩⟩⟩⟩, trivial⟩⟩
       ·obtain ⟨j, rfl⟩ : ∃ k, j = k + 1 := ⟨j - 1, by omega⟩
        have e1 : (((j + 1 : Nat) : Int) - 1).toNat = j := by omega
        have hr1 := fun x : Nat => rowG (n := 2) (fun e => fqC e) (fun _ => rfl) (0 : Rat) b ((j + 1 : Nat) : Int).toNat x (b.getD (0 + (((j + 1 : Nat) : Int) - 1).toNat) (0 : Rat)) (by omega)
        have hr2 := fun x : Nat => rowG (n := 2) (fun e => fqC e) (fun _ => rfl) (0 : Rat) (b.set ((j + 1 : Nat) : Int).toNat (b.getD (0 + (((j + 1 : Nat) : Int) - 1).toNat) (0 : Rat))) (((j + 1 : Nat) : Int) - 1).toNat x (b.getD (0 + ((j + 1 : Nat) : Int).toNat) (0 : Rat)) (by rw [List.length_set]; omega)
        have hsw : ∀ x, fqC ((swapG (0 : Rat) b (j + 1)).getD x (0 : Rat)) = fqC (((b.set ((j + 1 : Nat) : Int).toNat (b.getD (0 + (((j + 1 : Nat) : Int) - 1).toNat) (0 : Rat))).set (((j + 1 : Nat) : Int) - 1).toNat (b.getD (0 + ((j + 1 : Nat) : Int).toNat) (0 : Rat))).getD x (0 : Rat)) := fun x => by
         rw [e1, Nat.zero_add, Nat.zero_add]; rfl
        conv => whnf
        conv => whnf
        conv => whnf
        conv => whnf
        (conv => whnf); refine ⟨[], by kernel_rfl, ?_⟩
        conv => whnf
        conv => whnf
        conv => whnf
        conv => whnf
        (conv => whnf); refine ifB_dec (fun w4 => ?_) (fun w4 => ?_)
        ·conv => whnf
         conv => whnf
         conv => whnf
         conv => whnf
         (conv => whnf); refine ⟨⟨(by omega), (by omega)⟩, ?_⟩
         conv => whnf
         conv => whnf
         conv => whnf
         conv => whnf
         (conv => whnf); refine ⟨inK64 (by omega) (by omega), ?_⟩
         conv => whnf
         conv => whnf
         conv => whnf
         conv => whnf
         (conv => whnf); refine ⟨⟨(by omega), (by omega)⟩, ?_⟩
         conv => whnf
         conv => whnf
         conv => whnf
         conv => whnf
         (conv => whnf); refine .inl ⟨_, _, byX rfl (Sound1.pl (hcm _ _) rfl), ?_⟩
         conv => whnf
         conv => whnf
         conv => whnf
         conv => whnf
         (conv => whnf); refine ifB_dec (fun w5 => ?_) (fun w5 => ?_)
         ·conv => whnf
          conv => whnf
          conv => whnf
          conv => whnf
          (conv => whnf); refine ⟨[], by kernel_rfl, ?_⟩
          conv => whnf
          conv => whnf
          conv => whnf
          conv => whnf
          (conv => whnf); refine ⟨inK64 (by omega) (by omega), ?_⟩
          conv => whnf
          conv => whnf
          conv => whnf
          conv => whnf
          (conv => whnf); refine ⟨inK64 (by omega) (by omega), ?_⟩
          conv => whnf
          conv => whnf
          conv => whnf
          conv => whnf
          (conv => whnf); refine ⟨⟨(by omega), (by omega)⟩, ?_⟩
          conv => whnf
          conv => whnf
          conv => whnf
          conv => whnf
          (conv => whnf); refine ⟨⟨(by omega), (by omega)⟩, ?_⟩
          conv => whnf
          conv => whnf
          conv => whnf
          conv => whnf
          (conv => whnf); refine ⟨⟨(by omega), (by omega)⟩, ?_⟩
          refine ⟨_, fun i _ => hr1 i, ?_⟩
          conv => whnf
          conv => whnf
          conv => whnf
          conv => whnf
          (conv => whnf); refine ⟨⟨(by omega), (by omega)⟩, ?_⟩
          refine ⟨_, fun i _ => hr2 i, ?_⟩
          conv => whnf
          conv => whnf
          conv => whnf
          conv => whnf
          (conv => whnf); refine ⟨inK64 (by omega) (by omega), ?_⟩
          have hlt : cmpR (b.getD (j + 1) (0 : Rat)) (b.getD (j + 1 - 1) (0 : Rat)) < 0 := by
           have e : cmpR (b.getD (0 + ((j + 1 : Nat) : Int).toNat) (0 : Rat)) (b.getD (0 + (((j + 1 : Nat) : Int) - 1).toNat) (0 : Rat)) < 0 := by assumption
           rw [e1, Nat.zero_add, Nat.zero_add] at e
           exact e
          conv => whnf
          conv => whnf
          conv => whnf
          conv => whnf
          (conv => whnf); refine ⟨_, _, ⟨⟨j, ((j + 1 : Nat) : Int) - 1, swapG (0 : Rat) b (j + 1), _, _, _, _, by omega, by omega, (by rw [swapG_len]; exact hbl), (swapG_perm (by omega)).trans hpb, sinkG_swap (by omega) (by omega) hsb (leR_of hlt), rfl, rfl⟩, by omega⟩, ⟨⟨.inl rfl, rfl, rfl, rfl⟩, ⟨⟨rfl, rfl, rfl, rfl, fun _ => rfl, fun _ _ => .inl rfl⟩, ⟨⟨rfl, rfl, rfl, rfl, fun _ => rfl, fun _ _ => .inl rfl⟩, ⟨⟨rfl, rfl, rfl, rfl, fun _ => rfl, fun _ _ => .inl rfl⟩, ⟨⟨rfl, rfl, rfl, rfl, fun _ => rfl, fun _ _ => .inl rfl⟩, ⟨⟨rfl, rfl, rfl, rfl, fun _ => rfl, fun x _ => .inl (hsw x)⟩, trivial⟩⟩⟩⟩⟩, trivial⟩⟩
         ·conv => whnf
          conv => whnf
          conv => whnf
          conv => whnf
          (conv => whnf); refine ⟨inK64 (by omega) (by omega), ?_⟩
          have hge : ¬ cmpR (b.getD (j + 1) (0 : Rat)) (b.getD (j + 1 - 1) (0 : Rat)) < 0 := by
           have e : ¬ cmpR (b.getD (0 + ((j + 1 : Nat) : Int).toNat) (0 : Rat)) (b.getD (0 + (((j + 1 : Nat) : Int) - 1).toNat) (0 : Rat)) < 0 := by assumption
           rw [e1, Nat.zero_add, Nat.zero_add] at e
           exact e
          conv => whnf
          conv => whnf
          conv => whnf
          conv => whnf
          (conv => whnf); refine ⟨_, _, ⟨⟨i + 1, b, _, _, _, _, by omega, by omega, hbl, hpb, sinkG_end leR_tr hsb (.inr (geR_of hge)), rfl, rfl⟩, by omega⟩, ⟨⟨.inl rfl, rfl, rfl, rfl⟩, ⟨⟨rfl, rfl, rfl, rfl, fun _ => rfl, fun _ _ => .inl rfl⟩, ⟨⟨rfl, rfl, rfl, rfl, fun _ => rfl, fun _ _ => .inl rfl⟩, ⟨⟨rfl, rfl, rfl, rfl, fun _ => rfl, fun _ _ => .inl rfl⟩, ⟨⟨rfl, rfl, rfl, rfl, fun _ => rfl, fun _ _ => .inl rfl⟩, ⟨⟨rfl, rfl, rfl, rfl, fun _ => rfl, fun _ _ => .inl rfl⟩, trivial⟩⟩⟩⟩⟩, trivial⟩⟩
        ·(exfalso; omega)
      ·(exfalso; omega)
     ·have hsa : SortG leR (0 : Rat) a a.length := fun p q h1 h2 => hs p q h1 (by omega)
      have hG := flo1_sort hp (sortG_pair hsa)
      rw [← hG]
      subst hal
      conv => whnf
      conv => whnf
      conv => whnf
      (conv => whnf); refine ifB_dec (fun w3 => ?_) (fun w3 => ?_)
      ·(exfalso; omega)
      ·conv => whnf
       conv => whnf
       conv => whnf
       (conv => whnf); refine .inr (.inl ⟨[], ?_⟩)
       conv => whnf
       conv => whnf
       conv => whnf
       (conv => whnf); refine ifB_dec (fun w4 => ?_) (fun w4 => ?_)
       ·conv => whnf
        conv => whnf
        conv => whnf
        (conv => whnf); refine ⟨?_, nofun⟩
        rw [compL_one (by omega)]
        exact ave_tup2 ⟨rfl, rfl, fun _ _ => rfl⟩ rfl
       ·conv => whnf
        conv => whnf
        conv => whnf
        (conv => whnf); refine ⟨[.forget [0, 1, 2, 3, 4, 5, 6, 7, 8, 9, 10, 11, 12, 13, 14, 15, 16, 17, 18, 19, 20, 21, 22, 23, 24, 25, 26, 27, 28, 29, 30, 31, 32, 33, 34, 35, 36, 37, 38, 39, 40, 41, 42, 43, 44, 45, 46, 47, 48, 49, 50, 51, 52, 53, 54, 55, 56, 57, 58, 59, 60, 61, 62, 63, 64, 65, 66, 67, 68, 69, 70, 71, 72, 73, 74, 75, 76, 77, 78, 79, 80, 81, 82, 83, 84, 85, 86, 87, 88, 89, 90, 91, 92, 93, 94, 95, 96, 97, 98, 99, 100, 101, 102, 103, 104, 105, 106, 107, 108, 109, 110, 111, 112, 113, 114, 115, 116, 117, 118, 119, 120, 121, 122, 123, 124, 125, 126, 127, 128, 129, 130, 131, 132, 133, 134, 135, 136, 137, 138, 139, 140, 141, 142, 143, 144, 145, 146, 147, 148, 149, 150, 151, 152, 153, 154, 155, 156, 157, 158, 159, 160, 161, 162, 163, 164, 165, 166, 167, 168, 169, 170, 171, 172, 173, 174, 175, 176, 177, 178, 179, 180, 181, 182, 183, 184, 185, 186, 187, 188, 189, 190, 191, 192, 193, 194, 195, 196, 197, 198, 199, 200, 201, 202, 203, 204, 205, 206, 207, 208, 209, 210, 211, 212, 213, 214, 215, 216, 217, 218, 219, 220, 221, 222, 223, 224, 225, 226, 227, 228, 229, 230, 231, 232, 233, 234, 235, 236, 237, 238, 239, 240, 241, 242, 243, 244, 245, 246, 247, 248, 249, 250, 251, 252, 253, 254, 255, 256, 257, 258, 259, 260, 261, 262, 263, 264, 265, 266, 267, 268, 269, 270, 271, 272, 273, 274, 275, 276, 277, 278, 279, 280, 281, 282, 283, 284, 285, 286, 287, 288, 289, 290, 291, 292, 293, 294, 295, 296, 297, 298, 299]], [0, 3], fun st mq => ∃ (k : Nat) (F0 : Nat → List AV) (F1 : Nat → List AV) (F2 : Nat → List AV) (F3 : Nat → List AV), (1 ≤ k) ∧ (k ≤ a.length) ∧ (compL (a.take k) = a.take k) ∧ st = ⟨[(0, .oslice 4 0 0 a.length none), (3, i64 k)], ⟨[⟨1, 1, F0, 0, false, true, false⟩, ⟨2, 1, F1, 0, false, true, false⟩, ⟨1, 1, F2, 0, false, true, false⟩, ⟨1, 2, F3, 0, false, true, false⟩, ⟨2, a.length, fun i => fqC (a.getD i (0 : Rat)), 0, false, true, false⟩], [], none, 0⟩, []⟩ ∧ mq = a.length - k,
         ⟨_, _, ⟨1, _, _, _, _, by omega, by omega, compL_one (by rw [List.length_take]; omega), rfl, rfl⟩, ⟨⟨.inl rfl, rfl, rfl, rfl⟩, ⟨⟨rfl, rfl, rfl, rfl, fun _ => rfl, fun _ _ => .inl rfl⟩, ⟨⟨rfl, rfl, rfl, rfl, fun _ => rfl, fun _ _ => .inl rfl⟩, ⟨⟨rfl, rfl, rfl, rfl, fun _ => rfl, fun _ _ => .inl rfl⟩, ⟨⟨rfl, rfl, rfl, rfl, fun _ => rfl, fun _ _ => .inl rfl⟩, ⟨⟨rfl, rfl, rfl, rfl, fun _ => rfl, fun _ _ => .inl rfl⟩, trivial⟩⟩⟩⟩⟩, trivial⟩⟩, ?_⟩
        rintro s0 m0 ⟨k, F0, F1, F2, F3, hk1, hk2, hc, rfl, hmeas⟩
        have ek : ((k : Int) - 1).toNat = k - 1 := by omega
        by_cases hlt : k < a.length
        ·have hv0 := fq_veq (a.getD (0 + (k : Int).toNat) (0 : Rat)) (a.getD (0 + ((k : Int) - 1).toNat) (0 : Rat))
         have hz : 0 ≤ (k : Int) ∧ (k : Int) ≤ (a.length : Int) ∧ ((0 : Nat) : Int) + (a.length : Int) ≤ (a.length : Int) := ⟨by omega, by omega, by omega⟩
         by_cases he : a.getD k (0 : Rat) = a.getD (k - 1) (0 : Rat)
         ·have hv := hv0.2 (by rw [ek, Nat.zero_add, Nat.zero_add]; exact he)
          conv => whnf
          conv => whnf
          conv => whnf
          conv => whnf
          (conv => whnf); refine ifB_dec (fun w5 => ?_) (fun w5 => ?_)
          ·conv => whnf
           conv => whnf
           conv => whnf
           conv => whnf
           (conv => whnf); refine ⟨[], by kernel_rfl, ?_⟩
           conv => whnf
           conv => whnf
           conv => whnf
           conv => whnf
           (conv => whnf); refine ⟨⟨(by omega), (by omega)⟩, ?_⟩
           conv => whnf
           conv => whnf
           conv => whnf
           conv => whnf
           (conv => whnf); refine ⟨inK64 (by omega) (by omega), ?_⟩
           conv => whnf
           conv => whnf
           conv => whnf
           conv => whnf
           (conv => whnf); refine ⟨⟨(by omega), (by omega)⟩, ?_⟩
           conv => whnf
           conv => whnf
           conv => whnf
           conv => whnf
           (conv => whnf); refine ifB_veq2 (fun w6 => ?_) (fun w6 => ?_)
           ·conv => whnf
            conv => whnf
            conv => whnf
            conv => whnf
            (conv => whnf); refine ⟨by assumption, ?_⟩
            conv => whnf
            conv => whnf
            conv => whnf
            conv => whnf
            (conv => whnf); refine ⟨[], [0, 3, 4, 5], fun st mq => ∃ (k1 : Nat) (q : Nat) (a1 : List Rat) (F0 : Nat → List AV) (F1 : Nat → List AV) (F2 : Nat → List AV) (F3 : Nat → List AV), (1 ≤ q) ∧ (CmpI (0 : Rat) a a1 k1 (k + q)) ∧ st = ⟨[(0, .oslice 4 0 0 a.length none), (3, i64 k1), (4, .oslice 4 0 (0 + (k : Int).toNat) ((a.length : Int) - (k : Int)).toNat none), (5, i64 q)], ⟨[⟨1, 1, F0, 0, false, true, false⟩, ⟨2, 1, F1, 0, false, true, false⟩, ⟨1, 1, F2, 0, false, true, false⟩, ⟨1, 2, F3, 0, false, true, false⟩, ⟨2, a.length, fun i => fqC (a1.getD i (0 : Rat)), 0, false, true, false⟩], [], none, 0⟩, []⟩ ∧ mq = a.length - k - q,
             ⟨_, _, ⟨k, 1, a, _, _, _, _, by omega, cmpI_start hk1 hlt hc he, rfl, rfl⟩, ⟨⟨.inl rfl, rfl, rfl, rfl⟩, ⟨⟨rfl, rfl, rfl, rfl, fun _ => rfl, fun _ _ => .inl rfl⟩, ⟨⟨rfl, rfl, rfl, rfl, fun _ => rfl, fun _ _ => .inl rfl⟩, ⟨⟨rfl, rfl, rfl, rfl, fun _ => rfl, fun _ _ => .inl rfl⟩, ⟨⟨rfl, rfl, rfl, rfl, fun _ => rfl, fun _ _ => .inl rfl⟩, ⟨⟨rfl, rfl, rfl, rfl, fun _ => rfl, fun _ _ => .inl rfl⟩, trivial⟩⟩⟩⟩⟩, trivial⟩⟩, ?_⟩
            rintro s0 m0 ⟨k1, q, a1, F0, F1, F2, F3, hq, hI, rfl, hmeas⟩
            have hkp := hI.kp
            have hal1 := hI.len
            by_cases hlt2 : k + q < a.length
            ·have hv20 := fq_veq (a1.getD (0 + (k : Int).toNat + (q : Int).toNat) (0 : Rat)) (a1.getD (0 + (k : Int).toNat + ((q : Int) - 1).toNat) (0 : Rat))
             have ep : 0 + (k : Int).toNat + ((q : Int) - 1).toNat = k + q - 1 := by omega
             have eq0 : 0 + (k : Int).toNat + (q : Int).toNat = k + q := by omega
             by_cases he2 : a1.getD (k + q) (0 : Rat) = a1.getD (k + q - 1) (0 : Rat)
             ·have hv2 := hv20.2 (by rw [ep, eq0]; exact he2)
              conv => whnf
              conv => whnf
              conv => whnf
              conv => whnf
              conv => whnf
              (conv => whnf); refine ifB_dec (fun w7 => ?_) (fun w7 => ?_)
              ·conv => whnf
               conv => whnf
               conv => whnf
               conv => whnf
               conv => whnf
               (conv => whnf); refine ⟨[], by kernel_rfl, ?_⟩
               conv => whnf
               conv => whnf
               conv => whnf
               conv => whnf
               conv => whnf
               (conv => whnf); refine ⟨⟨(by omega), (by omega)⟩, ?_⟩
               conv => whnf
               conv => whnf
               conv => whnf
               conv => whnf
               conv => whnf
               (conv => whnf); refine ⟨inK64 (by omega) (by omega), ?_⟩
               conv => whnf
               conv => whnf
               conv => whnf
               conv => whnf
               conv => whnf
               (conv => whnf); refine ⟨⟨(by omega), (by omega)⟩, ?_⟩
               conv => whnf
               conv => whnf
               conv => whnf
               conv => whnf
               conv => whnf
               (conv => whnf); refine ifB_not ?_
               conv => whnf
               conv => whnf
               conv => whnf
               conv => whnf
               conv => whnf
               (conv => whnf); refine ifB_veq2 (fun w8 => ?_) (fun w8 => ?_)
               ·conv => whnf
                conv => whnf
                conv => whnf
                conv => whnf
                conv => whnf
                (conv => whnf); refine ⟨inK64 (by omega) (by omega), ?_⟩
                conv => whnf
                conv => whnf
                conv => whnf
                conv => whnf
                conv => whnf
                (conv => whnf); refine ⟨_, _, ⟨⟨k1, q + 1, a1, _, _, _, _, by omega, hI.same hlt2 he2, rfl, rfl⟩, by omega⟩, ⟨⟨.inl rfl, rfl, rfl, rfl⟩, ⟨⟨rfl, rfl, rfl, rfl, fun _ => rfl, fun _ _ => .inl rfl⟩, ⟨⟨rfl, rfl, rfl, rfl, fun _ => rfl, fun _ _ => .inl rfl⟩, ⟨⟨rfl, rfl, rfl, rfl, fun _ => rfl, fun _ _ => .inl rfl⟩, ⟨⟨rfl, rfl, rfl, rfl, fun _ => rfl, fun _ _ => .inl rfl⟩, ⟨⟨rfl, rfl, rfl, rfl, fun _ => rfl, fun _ _ => .inl rfl⟩, trivial⟩⟩⟩⟩⟩, trivial⟩⟩
               ·(exfalso; omega)
              ·(exfalso; omega)
             ·have hv2 := mt hv20.1 (by rw [ep, eq0]; exact he2)
              have hrow := fun i : Nat => rowG (n := 2) (fun e => fqC e) (fun _ => rfl) (0 : Rat) a1 (k1 : Int).toNat i (a1.getD (0 + (k : Int).toNat + (q : Int).toNat) (0 : Rat)) (by omega)
              conv => whnf
              conv => whnf
              conv => whnf
              conv => whnf
              conv => whnf
              (conv => whnf); refine ifB_dec (fun w7 => ?_) (fun w7 => ?_)
              ·conv => whnf
               conv => whnf
               conv => whnf
               conv => whnf
               conv => whnf
               (conv => whnf); refine ⟨[], by kernel_rfl, ?_⟩
               conv => whnf
               conv => whnf
               conv => whnf
               conv => whnf
               conv => whnf
               (conv => whnf); refine ⟨⟨(by omega), (by omega)⟩, ?_⟩
               conv => whnf
               conv => whnf
               conv => whnf
               conv => whnf
               conv => whnf
               (conv => whnf); refine ⟨inK64 (by omega) (by omega), ?_⟩
               conv => whnf
               conv => whnf
               conv => whnf
               conv => whnf
               conv => whnf
               (conv => whnf); refine ⟨⟨(by omega), (by omega)⟩, ?_⟩
               conv => whnf
               conv => whnf
               conv => whnf
               conv => whnf
               conv => whnf
               (conv => whnf); refine ifB_not ?_
               conv => whnf
               conv => whnf
               conv => whnf
               conv => whnf
               conv => whnf
               (conv => whnf); refine ifB_veq2 (fun w8 => ?_) (fun w8 => ?_)
               ·(exfalso; omega)
               ·conv => whnf
                conv => whnf
                conv => whnf
                conv => whnf
                conv => whnf
                (conv => whnf); refine ⟨⟨(by omega), (by omega)⟩, ?_⟩
                conv => whnf
                conv => whnf
                conv => whnf
                conv => whnf
                conv => whnf
                (conv => whnf); refine ⟨⟨(by omega), (by omega)⟩, ?_⟩
                refine ⟨_, fun i _ => hrow i, ?_⟩
                conv => whnf
                conv => whnf
                conv => whnf
                conv => whnf
                conv => whnf
                (conv => whnf); refine ⟨inK64 (by omega) (by omega), ?_⟩
                conv => whnf
                conv => whnf
                conv => whnf
                conv => whnf
                conv => whnf
                (conv => whnf); refine ⟨inK64 (by omega) (by omega), ?_⟩
                conv => whnf
                conv => whnf
                conv => whnf
                conv => whnf
                conv => whnf
                (conv => whnf); refine ⟨_, _, ⟨⟨k1 + 1, q + 1, a1.set k1 (a1.getD (0 + (k : Int).toNat + (q : Int).toNat) (0 : Rat)), _, _, _, _, by omega, (by rw [eq0]; exact hI.put hlt2 he2), rfl, rfl⟩, by omega⟩, ⟨⟨.inl rfl, rfl, rfl, rfl⟩, ⟨⟨rfl, rfl, rfl, rfl, fun _ => rfl, fun _ _ => .inl rfl⟩, ⟨⟨rfl, rfl, rfl, rfl, fun _ => rfl, fun _ _ => .inl rfl⟩, ⟨⟨rfl, rfl, rfl, rfl, fun _ => rfl, fun _ _ => .inl rfl⟩, ⟨⟨rfl, rfl, rfl, rfl, fun _ => rfl, fun _ _ => .inl rfl⟩, ⟨⟨rfl, rfl, rfl, rfl, fun _ => rfl, fun _ _ => .inl rfl⟩, trivial⟩⟩⟩⟩⟩, trivial⟩⟩
              ·(exfalso; omega)
            ·have hf := hI.fin hlt2
             have hz2 : 0 ≤ (k1 : Int) ∧ (k1 : Int) ≤ (a.length : Int) ∧ ((0 : Nat) : Int) + (a.length : Int) ≤ (a.length : Int) := ⟨by omega, by omega, by omega⟩
             have hz3 : 0 ≤ (0 : Int) ∧ (0 : Int) ≤ (k1 : Int) ∧ ((0 : Nat) : Int) + (k1 : Int) ≤ (a.length : Int) := ⟨by omega, by omega, by omega⟩
             conv => whnf
             conv => whnf
             conv => whnf
             conv => whnf
             conv => whnf
             (conv => whnf); refine ifB_dec (fun w7 => ?_) (fun w7 => ?_)
             ·(exfalso; omega)
             ·conv => whnf
              conv => whnf
              conv => whnf
              conv => whnf
              conv => whnf
              (conv => whnf); refine ⟨by assumption, ?_⟩
              conv => whnf
              conv => whnf
              conv => whnf
              conv => whnf
              conv => whnf
              (conv => whnf); refine ⟨by assumption, ?_⟩
              conv => whnf
              conv => whnf
              conv => whnf
              conv => whnf
              conv => whnf
              (conv => whnf); refine ⟨?_, nofun⟩
              exact (ave_tup2 ⟨rfl, (by have := hf.1; omega), fun i hi => (if_neg (by omega)).trans (congrArg (fun e => fqC e) (hf.2 i (by omega)))⟩ rfl)
           ·(exfalso; omega)
          ·(exfalso; omega)
         ·have hv := mt hv0.1 (by rw [ek, Nat.zero_add, Nat.zero_add]; exact he)
          conv => whnf
          conv => whnf
          conv => whnf
          conv => whnf
          (conv => whnf); refine ifB_dec (fun w5 => ?_) (fun w5 => ?_)
          ·conv => whnf
           conv => whnf
           conv => whnf
           conv => whnf
           (conv => whnf); refine ⟨[], by kernel_rfl, ?_⟩
           conv => whnf
           conv => whnf
           conv => whnf
           conv => whnf
           (conv => whnf); refine ⟨⟨(by omega), (by omega)⟩, ?_⟩
           conv => whnf
           conv => whnf
           conv => whnf
           conv => whnf
           (conv => whnf); refine ⟨inK64 (by omega) (by omega), ?_⟩
           conv => whnf
           conv => whnf
           conv => whnf
           conv => whnf
           (conv => whnf); refine ⟨⟨(by omega), (by omega)⟩, ?_⟩
           conv => whnf
           conv => whnf
           conv => whnf
           conv => whnf
           (conv => whnf); refine ifB_veq2 (fun w6 => ?_) (fun w6 => ?_)
           ·(exfalso; omega)
           ·conv => whnf
            conv => whnf
            conv => whnf
            conv => whnf
            (conv => whnf); refine ⟨inK64 (by omega) (by omega), ?_⟩
            conv => whnf
            conv => whnf
            conv => whnf
            conv => whnf
            (conv => whnf); refine ⟨_, _, ⟨⟨k + 1, _, _, _, _, by omega, by omega, comp_go hk1 hlt hc he, rfl, rfl⟩, by omega⟩, ⟨⟨.inl rfl, rfl, rfl, rfl⟩, ⟨⟨rfl, rfl, rfl, rfl, fun _ => rfl, fun _ _ => .inl rfl⟩, ⟨⟨rfl, rfl, rfl, rfl, fun _ => rfl, fun _ _ => .inl rfl⟩, ⟨⟨rfl, rfl, rfl, rfl, fun _ => rfl, fun _ _ => .inl rfl⟩, ⟨⟨rfl, rfl, rfl, rfl, fun _ => rfl, fun _ _ => .inl rfl⟩, ⟨⟨rfl, rfl, rfl, rfl, fun _ => rfl, fun _ _ => .inl rfl⟩, trivial⟩⟩⟩⟩⟩, trivial⟩⟩
          ·(exfalso; omega)
        ·obtain rfl : k = a.length := by omega
         rw [List.take_length] at hc
         rw [hc]
         conv => whnf
         conv => whnf
         conv => whnf
         conv => whnf
         (conv => whnf); refine ifB_dec (fun w5 => ?_) (fun w5 => ?_)
         ·(exfalso; omega)
         ·conv => whnf
          conv => whnf
          conv => whnf
          conv => whnf
          (conv => whnf); refine ⟨?_, nofun⟩
          exact (ave_tup2 ⟨rfl, rfl, fun _ _ => rfl⟩ rfl)
    ·(exfalso; omega)
 ·rw [if_neg h0, if_neg h0]
  refine sound (d := 2) tok2 mixed2 Tryz.func26 (by kernel_rfl) (by kernel_rfl) ?_
  (conv => whnf); refine .inl ⟨_, _, byX rfl (h74), ?_⟩
  (conv => whnf); refine .inl ⟨_, _, byX rfl (Sound1.pl (h77 _ rfl) rfl), ?_⟩
  (conv => whnf); refine .inl ⟨_, _, byX rfl (Sound1.pl (h76 ⟨rfl, rfl⟩) rfl), ?_⟩
  (conv => whnf); refine ifB_bne (fun w1 => ?_) (fun w1 => ?_)
  ·(conv => whnf); refine ⟨?_, nofun⟩
   exact ave_tup2 rfl rfl
  ·(exfalso; omega)
end Go.Tr

/- Plain laws of chapter 5: turned tables, their curves and flows; lines with a factor. Conditions: none. -/
import Derived.Test.YtgbdlkajmmjahaaGreatTr11
import Derived.Test.YtgbdlkajmmjahaaGreatTr06
import Derived.ProofKit
set_option linter.unusedSectionVars false
set_option linter.unnecessarySimpa false
set_option linter.unusedVariables false
set_option linter.unusedSimpArgs false

-- seat YtgbdlkajmmjahaaGreat
namespace Go.Tr
open Go Go.Proofs
set_option maxRecDepth 20000
set_option maxHeartbeats 8000000

theorem fstE_zero {f : Nat → Int} : ∀ {n k : Nat}, (∀ i, k ≤ i → i < k + n → f i = 0) → fstE f n k = (0, 0)
 | 0, k, _ => rfl
 | n + 1, k, h => by
  rw [fstE, h k (Nat.le_refl _) (by omega), if_neg (by decide)]
  exact fstE_zero fun i h1 h2 => h i (by omega) (by omega)
theorem chkM_ok {t : List MRow} (h : TblOk t) : (chkM t).2 = 0 := by
 have hn := h.n
 have hnp := h.np
 have hA : ∀ i, i < t.length → rowA t i = 0 := fun i hi => by
  have h1 := h.op i hi
  have h2 := h.len i hi
  unfold rowA
  rw [if_neg (not_not_intro h1), if_neg (by omega), if_neg (by omega)]
  have hz : ∀ k, 0 ≤ k → k < 0 + (t.getD i r0).ps.length → pntE ((t.getD i r0).ps.getD k p0) = 0 := fun k _ hk => if_pos (h.pts i k hi (by omega))
  unfold pntsE
  rw [fstE_zero hz]
 have hX : ∀ i, i < t.length → rowX t i = 0 := fun i hi => by
  unfold rowX
  rw [hA i hi, if_neg (by decide)]
  unfold rowO
  by_cases e : i = 0
  ·rw [if_pos e]
  ·have ho := h.ord (i - 1) (by omega)
   rw [show i - 1 + 1 = i by omega] at ho
   rw [if_neg e, if_neg (by omega), if_neg (by omega)]
 have hS : ∀ i, i + 1 < t.length → stripE t i = 0 := fun i hi => by
  unfold stripE
  rw [fstE_zero fun k _ hk => by
   have := h.len i (by omega)
   have ha := h.ar i k hi (by omega)
   unfold quadE
   rw [if_neg (by omega), if_neg (by omega)]]
 unfold chkM
 rw [if_neg (by omega), if_neg (by omega), fstE_zero fun i _ hi => hX i (by omega), if_neg (by decide), fstE_zero fun i _ hi => hS i (by omega)]
theorem trn_len (t : List MRow) : (trn t).length = t.length := List.length_map ..
theorem trn_get {t : List MRow} {i : Nat} (h : i < t.length) : (trn t).getD i r0 = mpR ngP (t.getD i r0) := getD_mapG _ t i r0 r0 h
theorem trn_o {t : List MRow} {i : Nat} (h : i < t.length) : ((trn t).getD i r0).o = (t.getD i r0).o := by rw [trn_get h]; rfl
theorem trn_ps {t : List MRow} {i : Nat} (h : i < t.length) : ((trn t).getD i r0).ps = (t.getD i r0).ps.map ngP := by rw [trn_get h]; rfl
theorem trn_np {t : List MRow} (h : 0 < t.length) : npT (trn t) = npT t := by unfold npT; rw [trn_ps h, List.length_map]
theorem trn_pt {t : List MRow} {i k : Nat} (h : i < t.length) (hk : k < (t.getD i r0).ps.length) : ptT (trn t) i k = ngP (ptT t i k) := by
 unfold ptT
 rw [trn_ps h]
 exact getD_mapG ngP _ k p0 p0 hk
theorem turn_ng (a b c : P3) : turnI (ngP a) (ngP b) (ngP c) = turnI a b c := by
 unfold turnI ngP
 dsimp only
 grind
theorem TblOk.trn {t : List MRow} (h : TblOk t) : TblOk (trn t) := by
 have hn := h.n
 have hnp := trn_np (t := t) (by omega)
 refine ⟨by rw [trn_len]; exact hn, by rw [hnp]; exact h.np, fun i hi => ?_, fun i hi => ?_, fun i hi => ?_, fun i k hi hk => ?_, fun i k hi hk => ?_⟩
 ·rw [trn_len] at hi
  rw [trn_ps hi, List.length_map, hnp]; exact h.len i hi
 ·rw [trn_len] at hi
  rw [trn_o hi]; exact h.op i hi
 ·rw [trn_len] at hi
  rw [trn_o hi, trn_o (by omega)]; exact h.ord i hi
 ·rw [trn_len] at hi
  rw [hnp] at hk
  rw [trn_pt hi (by have := h.len i hi; omega)]
  have := h.pts i k hi hk
  unfold ngP
  dsimp only
  omega
 ·rw [trn_len] at hi
  rw [hnp] at hk
  have l1 := h.len i (by omega)
  have l2 := h.len (i + 1) hi
  have ha := h.ar i k hi hk
  unfold tri1 tri2 at *
  rw [trn_pt (by omega) (by omega), trn_pt (by omega) (by omega), trn_pt hi (by omega), trn_pt hi (by omega), turn_ng, turn_ng]
  exact ha
theorem trn_rwI {t : List MRow} {f : Int × Int} : ∀ n i, rwI (trn t) f n i = rwI t f n i
 | 0, _ => rfl
 | n + 1, i => by
  unfold rwI
  rw [trn_len, trn_rwI n (i + 1)]
  by_cases h : i + 2 < t.length
  ·rw [trn_o (by omega)]
  ·rw [if_neg (fun e => h e.1), if_neg (fun e => h e.1)]
theorem trn_rwK {t : List MRow} {f : Int × Int} : rwK (trn t) f = rwK t f := by unfold rwK; rw [trn_rwI, trn_len]
theorem OpOk.trn {t : List MRow} {f : Int × Int} (hn : 2 ≤ t.length) (h : OpOk t f) : OpOk (trn t) f :=
  ⟨h.den, by rw [trn_o (by omega)]; exact h.lo, by rw [trn_len, trn_o (by omega)]; exact h.hi⟩
def ngQ (q : Q3) : Q3 := (-q.1, -q.2.1, q.2.2)
theorem ngQ_inj {p q : Q3} (h : ngQ p = ngQ q) : p = q := by
 have h1 : -p.1 = -q.1 := congrArg Prod.fst h
 have h2 : -p.2.1 = -q.2.1 := congrArg (fun x => x.2.1) h
 have h3 : p.2.2 = q.2.2 := congrArg (fun x => x.2.2) h
 exact Prod.ext (by grind) (Prod.ext (by grind) h3)
theorem mix_ng (a b : P3) (part : Rat) : mixQ (ptQ (ngP a)) (ptQ (ngP b)) part = ngQ (mixQ (ptQ a) (ptQ b) part) := by
 unfold mixQ ptQ ngP ngQ mix1
 dsimp only
 push_cast
 refine Prod.ext ?_ (Prod.ext ?_ rfl)
 ·dsimp only; grind
 ·dsimp only; grind
theorem mix_ngQ (a b : Q3) (part : Rat) : mixQ (ngQ a) (ngQ b) part = ngQ (mixQ a b part) := by
 unfold mixQ ngQ mix1
 dsimp only
 refine Prod.ext ?_ (Prod.ext ?_ rfl)
 ·dsimp only; grind
 ·dsimp only; grind
theorem rawQ_ng (A B : List P3) (part : Rat) : ∀ k, k ≤ A.length → k ≤ B.length → rawQ (A.map ngP) (B.map ngP) part k = (rawQ A B part k).map ngQ
 | 0, _, _ => rfl
 | k + 1, h1, h2 => by
  unfold rawQ
  rw [rawQ_ng A B part k (by omega) (by omega), List.map_append, List.map_cons, getD_mapG ngP A k p0 p0 (by omega), getD_mapG ngP B k p0 p0 (by omega), mix_ng, List.length_map]
  by_cases h : k + 1 < A.length
  ·rw [if_pos h, if_pos h, getD_mapG ngP A (k + 1) p0 p0 h, mix_ng]; rfl
  ·rw [if_neg h, if_neg h]; rfl
theorem crvQ_trn {t : List MRow} {f : Int × Int} (hT : TblOk t) (hO : OpOk t f) : crvQ (trn t) f = (crvQ t f).map ngQ := by
 have hK := rwK_ok hT hO
 have hl := crv_len hT hO
 have e1 : crvA (trn t) f = (crvA t f).map ngP := by unfold crvA; rw [trn_rwK, trn_ps (by omega)]
 have e2 : crvB (trn t) f = (crvB t f).map ngP := by unfold crvB; rw [trn_rwK, trn_ps (by omega)]
 have e3 : crvP (trn t) f = crvP t f := by unfold crvP; rw [trn_rwK, trn_o (by omega)]
 have e4 : crvD (trn t) f = crvD t f := by unfold crvD; rw [trn_rwK, trn_o (by omega), trn_o (by omega)]
 unfold crvQ
 rw [e1, e2, e3, e4, List.length_map, rawQ_ng _ _ _ _ (Nat.le_refl _) (by omega), compL_map ngQ _ (fun a _ b _ e => ngQ_inj e)]
theorem side_ng (h : Int) (q : Q3) : sideQ (hdL (-h)) (ngQ q) = -sideQ (hdL h) q := by
 unfold sideQ hdL ngQ
 dsimp only
 push_cast
 grind
theorem sgR_neg (x : Rat) : sgR (-x) = -sgR x := by
 have h1 := sgR_cases x
 have h2 := sgR_cases (-x)
 rcases h1 with ⟨a, e⟩ | ⟨a, e⟩ | ⟨a, e⟩ <;> rcases h2 with ⟨b, g⟩ | ⟨b, g⟩ | ⟨b, g⟩ <;> rw [e, g] <;> first | rfl | (exfalso; grind)
theorem onQ_ng (Q : List Q3) (h : Int) : ∀ k, k ≤ Q.length → onQ (Q.map ngQ) (hdL (-h)) k = (onQ Q (hdL h) k).map ngQ
 | 0, _ => rfl
 | k + 1, hk => by
  unfold onQ
  rw [onQ_ng Q h k (by omega), List.map_append, List.map_append, getD_mapG ngQ Q k q0 q0 (by omega), side_ng, List.length_map]
  congr 1
  congr 1
  ·by_cases g : sideQ (hdL h) (Q.getD k q0) = 0
   ·rw [if_pos g, if_pos (by rw [g]; rfl)]; rfl
   ·rw [if_neg g, if_neg (fun e => g (by grind))]; rfl
  ·by_cases g2 : k + 1 < Q.length
   ·rw [getD_mapG ngQ Q (k + 1) q0 q0 g2, side_ng, sgR_neg, sgR_neg, Int.neg_mul_neg, mix_ngQ]
    have e : -sideQ (hdL h) (Q.getD k q0) / (-sideQ (hdL h) (Q.getD k q0) - -sideQ (hdL h) (Q.getD (k + 1) q0)) = sideQ (hdL h) (Q.getD k q0) / (sideQ (hdL h) (Q.getD k q0) - sideQ (hdL h) (Q.getD (k + 1) q0)) := by
     rw [← div_neg_neg (sideQ (hdL h) (Q.getD k q0))]
     congr 1
     grind
    rw [e]
    by_cases g3 : k + 1 < Q.length ∧ sgR (sideQ (hdL h) (Q.getD k q0)) * sgR (sideQ (hdL h) (Q.getD (k + 1) q0)) < 0
    ·rw [if_pos g3, if_pos g3]; rfl
    ·rw [if_neg g3, if_neg g3]; rfl
   ·rw [if_neg (fun e => g2 e.1), if_neg (fun e => g2 e.1)]; rfl
theorem flQ_trn {t : List MRow} {f : Int × Int} (hT : TblOk t) (hO : OpOk t f) (h : Int) : flQ (trn t) f (-h) = (flQ t f h).map (fun x => -x) := by
 unfold flQ onS
 rw [crvQ_trn hT hO, List.length_map, onQ_ng _ _ _ (Nat.le_refl _)]
 unfold fls
 rw [List.map_map, List.map_map]; rfl
theorem smR_neg (x : Rat) : smR (-x) ↔ smR x := by
 unfold smR
 rw [Rat.neg_num, Rat.neg_den]
 omega
theorem allR_neg (L : List Rat) : allR (L.map fun x => -x) = allR L := by
 unfold allR
 rw [List.all_map]
 congr 1
 funext x
 exact decide_eq_decide.2 (smR_neg x)
theorem flo1_neg (L : List Rat) : flo1 (L.map fun x => -x) = ((flo1 L).map fun x => -x).reverse := by
 refine sorted_ext (lt := ltR) rlt_irr (fun _ _ _ => rlt_tr) (putAll_sorted (lt := ltR) (fun _ _ _ => rlt_tr) rlt_tri _) ?_ fun x => ?_
 ·rw [List.pairwise_reverse, List.pairwise_map]
  refine List.Pairwise.imp ?_ (putAll_sorted (lt := ltR) (fun _ _ _ => rlt_tr) rlt_tri L)
  intro a b hab
  show -b < -a
  have hab : a < b := hab
  grind
 ·show x ∈ flo1 _ ↔ _
  rw [flo1_mem, List.mem_reverse, List.mem_map, List.mem_map]
  constructor
  ·rintro ⟨y, hy, e⟩; exact ⟨y, (flo1_mem _ _).2 hy, e⟩
  ·rintro ⟨y, hy, e⟩; exact ⟨y, (flo1_mem _ _).1 hy, e⟩
theorem flR_neg (L : List Rat) : flR (L.map fun x => -x) = ((flR L).map fun x => -x).reverse := by
 unfold flR
 rw [allR_neg, flo1_neg]
 split
 ·rfl
 ·rfl
theorem onQ_scale {Q : List Q3} {l m : Ln} {c : Rat} (hc : 0 < c) (hs : ∀ q, sideQ l q = c * sideQ m q) : ∀ k, onQ Q l k = onQ Q m k
 | 0 => rfl
 | k + 1 => by
  have hsg : ∀ x : Rat, sgR (c * x) = sgR x := fun x => by
   have h1 := sgR_cases x
   have h2 := sgR_cases (c * x)
   have hp : 0 < x → 0 < c * x := fun h => Rat.mul_pos hc h
   have hn : x < 0 → c * x < 0 := fun h => by
    have := Rat.mul_pos hc (show 0 < -x by grind)
    grind
   rcases h1 with ⟨a, e⟩ | ⟨a, e⟩ | ⟨a, e⟩ <;> rcases h2 with ⟨b, g⟩ | ⟨b, g⟩ | ⟨b, g⟩ <;> rw [e, g]
   ·have := hn a; grind
   ·have := hn a; grind
   ·subst a; grind
   ·subst a; grind
   ·have := hp a; grind
   ·have := hp a; grind
  have hz : ∀ x : Rat, c * x = 0 ↔ x = 0 := fun x => by
   constructor
   ·intro h
    rcases Rat.mul_eq_zero.1 h with h | h
    ·rw [h] at hc; exact absurd hc (rlt_irr _)
    ·exact h
   ·intro h; rw [h, Rat.mul_zero]
  have hd : ∀ x y : Rat, c * x / (c * x - c * y) = x / (x - y) := fun x y => by
   have e : c * x - c * y = c * (x - y) := by grind
   rw [e, Rat.div_def, Rat.div_def]
   by_cases h : x - y = 0
   ·rw [h, Rat.mul_zero, Rat.inv_zero, Rat.mul_zero, Rat.mul_zero]
   ·have h1 := Rat.mul_inv_cancel (x - y) h
    have h2 := Rat.mul_inv_cancel (c * (x - y)) (fun e => h ((hz _).1 e))
    have hc0 : c ≠ 0 := fun e => by rw [e] at hc; exact rlt_irr _ hc
    have h3 := Rat.mul_inv_cancel c hc0
    grind
  unfold onQ
  rw [onQ_scale hc hs k, hs, hs, hsg, hsg, hd]
  congr 2
  by_cases g : sideQ m (Q.getD k q0) = 0
  ·rw [if_pos g, if_pos ((hz _).2 g)]
  ·rw [if_neg g, if_neg (fun e => g ((hz _).1 e))]
theorem side_100 (h : Int) (m : Int) (q : Q3) : sideQ (wtL (h, 0, m)) q = 100 * sideQ (hdL h) q := by
 unfold sideQ wtL hdL
 dsimp only
 rw [Int.zero_mul]
 push_cast
 grind
theorem onS_flat (Q : List Q3) (h m : Int) : onS Q (wtL (h, 0, m)) = onS Q (hdL h) := onQ_scale (by decide) (fun q => side_100 h m q) _
end Go.Tr

/- The law of waterways: MachineWaterways. Conditions: none. -/
-- seat YtgbdlkajmmjahaaGreat
namespace Go.Tr
open Go Go.Proofs
set_option maxRecDepth 20000
set_option maxHeartbeats 8000000

theorem fit_trn {t : List MRow} (h : Fit t) : Fit (trn t) := by
 refine ⟨by rw [trn_len]; exact h.1, fun i => ?_⟩
 by_cases hi : i < t.length
 ·rw [trn_ps hi, List.length_map]; exact h.2 i
 ·have e : (trn t).getD i r0 = r0 := by rw [List.getD_eq_getElem?_getD, List.getElem?_eq_none (by rw [trn_len]; omega)]; rfl
  rw [e]; decide
theorem ocE_trn {t : List MRow} {f : Int × Int} (h : ocE t f = 0) : ocE (trn t) f = 0 := by
 obtain ⟨hT, hl, hO⟩ := ocE_ok h
 have hn := hT.n
 unfold ocE
 rw [chkM_ok hT.trn, if_neg (by decide)]
 have hO2 := hO.trn (by omega)
 unfold opE
 rw [if_pos hl, if_pos hO2.den.2, if_pos ⟨hO2.lo, hO2.hi⟩]
theorem slL_flat (Q : List Q3) (h m : Int) : slL Q (wtL (h, 0, m)) = slL Q (hdL h) ∧ slE Q (wtL (h, 0, m)) = slE Q (hdL h) := by
 unfold slL slE spL
 rw [onS_flat]
 exact ⟨rfl, rfl⟩
theorem slL_len (Q : List Q3) (l : Ln) (h : Q.length ≤ 12) : (slL Q l).length ≤ 24 := Nat.le_trans (smL_len _) (spL_len h)
theorem rev_get {F FF : List Rat} (h : FF = (F.map fun x => -x).reverse) : FF.length = F.length ∧ ∀ k, k < F.length → FF.getD (F.length - 1 - k) 0 = -(F.getD k 0) := by
 subst h
 refine ⟨by rw [List.length_reverse, List.length_map], fun k hk => ?_⟩
 have h1 : F.length - 1 - k < (F.map fun x => -x).length := by rw [List.length_map]; omega
 rw [List.getD_eq_getElem?_getD, List.getElem?_reverse h1, List.length_map, show F.length - 1 - (F.length - 1 - k) = k by omega, List.getElem?_map, List.getD_eq_getElem?_getD, List.getElem?_eq_getElem hk]
 rfl
theorem fl_len (L : List Q3) : (fls L).length = L.length := by unfold fls; rw [List.length_map]
theorem putL_lenR (l : List Rat) (x : Rat) : (putL ltR l x).length ≤ l.length + 1 := by
 induction l with
 | nil => simp [putL]
 | cons y l ih =>
  unfold putL
  split
  ·simpa using ih
  ·split <;> simp
theorem flo1_len (L : List Rat) : (flo1 L).length ≤ L.length := by
 unfold flo1
 induction L using snoc_ind with
 | h0 => exact Nat.le_refl _
 | hs l x ih =>
  rw [putAll_snoc]
  have := putL_lenR (putAll ltR l) x
  rw [List.length_append]
  simp
  omega
set_option maxHeartbeats 16000000 in
theorem S7 (t : List MRow) (h1 : t.length ≤ 9223372036854775807) (f : Int × Int) (hf : FrI f) (w : Int × Int × Int) : SP 7 [tblA t, gaF f, wtA w] (vb true) false := by
 have h14 := S14
 have h15 := S15 t h1
 by_cases hw : fewT t = true
 ·rw [hw] at h15
  have ht := few_fit hw
  have h17 := S17 t ht
  have h18 := S18 t ht f hf
  have h19 := S19 w
  by_cases h0 : ocE t f = 0
  ·rw [h0] at h18
   by_cases hw0 : waE w = 0
   ·rw [hw0] at h19
    obtain ⟨hT, _, hO⟩ := ocE_ok h0
    have hb := waE_ok hw0
    have hnb := (wtL_ok hw0).2
    have hnp := Int.mul_nonneg hb.2.1.1 (show 0 ≤ w.2.2 by omega)
    have hql := crvQ_len hT hO
    have hsz : szE w.1 = 0 := if_pos hb.1
    -- the flat waterway and the head
    have k16 := S16 t ht f hf (w.1, 0, w.2.2)
    have e16 : wlE t f (w.1, 0, w.2.2) = 0 := by
     unfold wlE
     rw [h0, if_neg (by decide)]
     exact if_pos ⟨hb.1, ⟨Int.le_refl _, by show (0 : Int) ≤ 20; decide⟩, hb.2.2⟩
    rw [if_pos e16, if_pos e16, (slL_flat _ _ _).1, (slL_flat _ _ _).2] at k16
    have k33 := S33 t ht f hf (hdL w.1)
    have e33 : soE t f (hdL w.1) = 0 := by
     unfold soE
     rw [h0, if_neg (by decide)]
     unfold lnE hdL
     dsimp only
     rw [if_pos (by omega), if_neg (by omega)]
    rw [if_pos e33, if_pos e33] at k33
    have k31 := S31 w.1
    have k24 := S24 (slL (crvQ t f) (hdL w.1)) (by have := slL_len (crvQ t f) (hdL w.1) hql; omega)
    -- flows
    have k26 := S26 t ht f hf w.1
    have e26 : flE t f w.1 = 0 := by unfold flE; rw [h0, if_neg (by decide)]; exact hsz
    rw [if_pos e26, if_pos e26] at k26
    have k35 := S35 t ht (by have := h0; unfold ocE at this; by_cases g : (chkM t).2 = 0; exact g; rw [if_pos g] at this; exact absurd this g)
    have j26 := S26 (trn t) (fit_trn ht) f hf (-w.1)
    have e27 : flE (trn t) f (-w.1) = 0 := by
     unfold flE
     rw [ocE_trn h0, if_neg (by decide)]
     unfold szE
     rw [if_pos (by omega)]
    rw [if_pos e27, if_pos e27, flQ_trn hT hO, flR_neg] at j26
    have eE : smRE ((flQ t f w.1).map fun x => -x) = smRE (flQ t f w.1) := by unfold smRE; rw [allR_neg]
    rw [eE] at j26
    have hFs : ∀ x ∈ flR (flQ t f w.1), smR x := fun x hx => by
     unfold flR at hx
     by_cases g : allR (flQ t f w.1) = true
     ·rw [if_pos g] at hx
      exact of_decide_eq_true (List.all_eq_true.1 g x ((flo1_mem _ _).1 hx))
     ·rw [if_neg g] at hx; cases hx
    have hFl : (flR (flQ t f w.1)).length ≤ 1000 := by
     unfold flR
     split
     ·have a1 := flo1_len (flQ t f w.1)
      have a2 : (flQ t f w.1).length = (onS (crvQ t f) (hdL w.1)).length := fl_len _
      have a3 := onQ_len (crvQ t f) (hdL w.1) (crvQ t f).length
      have a4 : (onS (crvQ t f) (hdL w.1)).length ≤ 2 * (crvQ t f).length := a3
      omega
     ·exact Nat.zero_le _
    obtain ⟨FF, hFF⟩ : ∃ FF, FF = ((flR (flQ t f w.1)).map fun x => -x).reverse := ⟨_, rfl⟩
    rw [← hFF] at j26
    obtain ⟨r1, r2⟩ := rev_get hFF
    generalize flR (flQ t f w.1) = F at *
    generalize smRE (flQ t f w.1) = E at *
    generalize trn t = t2 at *
    have hnk : inK .i64 (w.2.1 * w.2.2) := inK_of (by omega)
    -- the loop over the flows
    have l36 := fun x => S36 x (-1000000000) 1000000000
    by_cases hn20 : w.2.1 * w.2.2 ≤ 20
    ·have m16 := S16 t ht f hf w
     have f16 : wlE t f w = 0 := by unfold wlE; rw [h0, if_neg (by decide)]; exact hw0
     rw [if_pos f16, if_pos f16] at m16
     have n16 := S16 t ht f hf (w.1, w.2.1 * w.2.2, 1)
     have g16 : wlE t f (w.1, w.2.1 * w.2.2, 1) = 0 := by
      unfold wlE
      rw [h0, if_neg (by decide)]
      exact if_pos ⟨hb.1, ⟨hnp, hn20⟩, by show (1 : Int) ≤ 1 ∧ (1 : Int) ≤ 5; decide⟩
     have eW : wtL (w.1, w.2.1 * w.2.2, 1) = wtL w := by unfold wtL; dsimp only; rw [Int.mul_one]
     rw [if_pos g16, if_pos g16, eW] at n16
     have m24 := S24 (slL (crvQ t f) (wtL w)) (by have := slL_len (crvQ t f) (wtL w) hql; omega)
     refine sound (d := 2) tok2 mixed2 Tryz.func7 (by kernel_rfl) (by kernel_rfl) ?_
     (conv => whnf); refine .inl ⟨_, _, byX rfl (Sound1.pl (h14) rfl), ?_⟩
     (conv => whnf); refine .inl ⟨_, _, byX rfl (Sound1.pl (h15) rfl), ?_⟩
     (conv => whnf); refine .inl ⟨_, _, byX rfl (Sound1.pl (h18) rfl), ?_⟩
     (conv => whnf); refine .inl ⟨_, _, byX rfl (Sound1.pl (h19) rfl), ?_⟩
     (conv => whnf); refine ⟨[], by kernel_rfl, ?_⟩
     (conv => whnf); refine .inl ⟨_, _, byX rfl (h17), ?_⟩
     (conv => whnf); refine .inl ⟨_, _, byX rfl (k16), ?_⟩
     (conv => whnf); refine ⟨[], by kernel_rfl, ?_⟩
     (conv => whnf); refine .inl ⟨_, _, byX rfl (h17), ?_⟩
     (conv => whnf); refine .inl ⟨_, _, byX rfl (Sound1.pl (k31) rfl), ?_⟩
     (conv => whnf); refine .inl ⟨_, _, byX rfl (k33), ?_⟩
     (conv => whnf); refine ifB_bne (fun w1 => ?_) (fun w1 => ?_)
     ·(exfalso; omega)
     ·(conv => whnf); refine .inl ⟨_, _, byX rfl (Sound1.pl (k24) rfl), ?_⟩
      (conv => whnf); refine ⟨inK64 (by omega) (by omega), ?_⟩
      (conv => whnf); refine ifB_dec (fun w2 => ?_) (fun w2 => ?_)
      ·(conv => whnf); refine ⟨[], by kernel_rfl, ?_⟩
       (conv => whnf); refine .inl ⟨_, _, byX rfl (h17), ?_⟩
       (conv => whnf); refine .inl ⟨_, _, byX rfl (m16), ?_⟩
       (conv => whnf); refine ⟨[], by kernel_rfl, ?_⟩
       (conv => whnf); refine .inl ⟨_, _, byX rfl (h17), ?_⟩
       (conv => whnf); refine .inl ⟨_, _, byX rfl (n16), ?_⟩
       (conv => whnf); refine ifB_bne (fun w3 => ?_) (fun w3 => ?_)
       ·(exfalso; omega)
       ·(conv => whnf); refine .inl ⟨_, _, byX rfl (Sound1.pl (m24) rfl), ?_⟩
        (conv => whnf); refine ⟨[], by kernel_rfl, ?_⟩
        (conv => whnf); refine .inl ⟨_, _, byX rfl (h17), ?_⟩
        (conv => whnf); refine .inl ⟨_, _, byX rfl (k26), ?_⟩
        (conv => whnf); refine .inl ⟨_, _, byX rfl (h17), ?_⟩
        (conv => whnf); refine .inl ⟨_, _, byX rfl (k35), ?_⟩
        (conv => whnf); refine ⟨inK64 (by omega) (by omega), ?_⟩
        (conv => whnf); refine .inl ⟨_, _, byX rfl (j26), ?_⟩
        (conv => whnf); refine ifB_bne (fun w4 => ?_) (fun w4 => ?_)
        ·(exfalso; omega)
        ·(conv => whnf); refine ifB_bne (fun w5 => ?_) (fun w5 => ?_)
         ·(exfalso; omega)
         ·(conv => whnf); refine ⟨[], [16, 20, 22], fun st mq => ∃ (k : Nat) (F0 : Nat → List AV) (F1 : Nat → List AV) (F2 : Nat → List AV) (F3 : Nat → List AV), (k ≤ F.length) ∧ st = ⟨[(16, frs F), (20, frs FF), (22, i64 k)], ⟨[⟨1, 1, F0, 0, false, true, false⟩, ⟨2, 1, F1, 0, false, true, false⟩, ⟨3, 1, F2, 0, false, true, false⟩, ⟨1, 1, F3, 0, false, true, false⟩], [], none, 0⟩, []⟩ ∧ mq = F.length - k,
           ⟨_, _, ⟨0, _, _, _, _, by omega, rfl, rfl⟩, ⟨⟨.inl rfl, rfl, rfl, rfl⟩, ⟨⟨rfl, rfl, rfl, rfl, fun _ => rfl, fun _ _ => .inl rfl⟩, ⟨⟨rfl, rfl, rfl, rfl, fun _ => rfl, fun _ _ => .inl rfl⟩, ⟨⟨rfl, rfl, rfl, rfl, fun _ => rfl, fun _ _ => .inl rfl⟩, ⟨⟨rfl, rfl, rfl, rfl, fun _ => rfl, fun _ _ => .inl rfl⟩, trivial⟩⟩⟩⟩, trivial⟩⟩, ?_⟩
          rintro s0 m0 ⟨k, F0, F1, F2, F3, hk, rfl, hmeas⟩
          by_cases hlt : k < F.length
          ·have hs := hFs _ (getD_memG (d := (0 : Rat)) hlt)
           have hr := r2 k hlt
           have ek : ((FF.length : Int) - 1 - (k : Int)).toNat = F.length - 1 - k := by omega
           have hv1 : (frI (FF.getD ((FF.length : Int) - 1 - (k : Int)).toNat 0)).1 = -(frI (F.getD (k : Int).toNat 0)).1 := by
            rw [ek, hr]; exact Rat.neg_num _
           have hv2 : (frI (FF.getD ((FF.length : Int) - 1 - (k : Int)).toNat 0)).2 = (frI (F.getD (k : Int).toNat 0)).2 := by
            rw [ek, hr]
            show (((-(F.getD k 0)).den : Nat) : Int) = ((F.getD k 0).den : Nat)
            rw [Rat.neg_den]
           have hb : -1000000000 ≤ (frI (F.getD (k : Int).toNat 0)).1 ∧ (frI (F.getD (k : Int).toNat 0)).1 ≤ 1000000000 := hs.1
           conv => whnf
           (conv => whnf); refine ifB_dec (fun w6 => ?_) (fun w6 => ?_)
           ·conv => whnf
            (conv => whnf); refine ⟨[], by kernel_rfl, ?_⟩
            conv => whnf
            (conv => whnf); refine ⟨⟨(by omega), (by omega)⟩, ?_⟩
            conv => whnf
            (conv => whnf); refine .inl ⟨_, _, byX rfl (Sound1.pl (l36 _) rfl), ?_⟩
            conv => whnf
            (conv => whnf); refine ifB_not ?_
            conv => whnf
            (conv => whnf); refine ifB_dec (fun w7 => ?_) (fun w7 => ?_)
            ·conv => whnf
             (conv => whnf); refine ⟨inK64 (by omega) (by omega), ?_⟩
             conv => whnf
             (conv => whnf); refine ⟨inK64 (by omega) (by omega), ?_⟩
             conv => whnf
             (conv => whnf); refine ⟨⟨(by omega), (by omega)⟩, ?_⟩
             conv => whnf
             (conv => whnf); refine ⟨⟨(by omega), (by omega)⟩, ?_⟩
             conv => whnf
             (conv => whnf); refine ⟨inK64 (by omega) (by omega), ?_⟩
             conv => whnf
             (conv => whnf); refine ⟨⟨(by omega), (by omega)⟩, ?_⟩
             conv => whnf
             (conv => whnf); refine ifB_not ?_
             conv => whnf
             (conv => whnf); refine ifB_veq2 (fun w8 => ?_) (fun w8 => ?_)
             ·conv => whnf
              (conv => whnf); refine ⟨inK64 (by omega) (by omega), ?_⟩
              conv => whnf
              (conv => whnf); refine ⟨_, _, ⟨⟨k + 1, _, _, _, _, by omega, rfl, rfl⟩, by omega⟩, ⟨⟨.inl rfl, rfl, rfl, rfl⟩, ⟨⟨rfl, rfl, rfl, rfl, fun _ => rfl, fun _ _ => .inl rfl⟩, ⟨⟨rfl, rfl, rfl, rfl, fun _ => rfl, fun _ _ => .inl rfl⟩, ⟨⟨rfl, rfl, rfl, rfl, fun _ => rfl, fun _ _ => .inl rfl⟩, ⟨⟨rfl, rfl, rfl, rfl, fun _ => rfl, fun _ _ => .inl rfl⟩, trivial⟩⟩⟩⟩, trivial⟩⟩
             ·(exfalso; omega)
            ·(exfalso; omega)
           ·(exfalso; omega)
          ·conv => whnf
           (conv => whnf); refine ifB_dec (fun w6 => ?_) (fun w6 => ?_)
           ·(exfalso; omega)
           ·conv => whnf
            (conv => whnf); refine ⟨?_, nofun⟩
            (first | contradiction | omega | rfl)
      ·(exfalso; omega)
    ·refine sound (d := 2) tok2 mixed2 Tryz.func7 (by kernel_rfl) (by kernel_rfl) ?_
     (conv => whnf); refine .inl ⟨_, _, byX rfl (Sound1.pl (h14) rfl), ?_⟩
     (conv => whnf); refine .inl ⟨_, _, byX rfl (Sound1.pl (h15) rfl), ?_⟩
     (conv => whnf); refine .inl ⟨_, _, byX rfl (Sound1.pl (h18) rfl), ?_⟩
     (conv => whnf); refine .inl ⟨_, _, byX rfl (Sound1.pl (h19) rfl), ?_⟩
     (conv => whnf); refine ⟨[], by kernel_rfl, ?_⟩
     (conv => whnf); refine .inl ⟨_, _, byX rfl (h17), ?_⟩
     (conv => whnf); refine .inl ⟨_, _, byX rfl (k16), ?_⟩
     (conv => whnf); refine ⟨[], by kernel_rfl, ?_⟩
     (conv => whnf); refine .inl ⟨_, _, byX rfl (h17), ?_⟩
     (conv => whnf); refine .inl ⟨_, _, byX rfl (Sound1.pl (k31) rfl), ?_⟩
     (conv => whnf); refine .inl ⟨_, _, byX rfl (k33), ?_⟩
     (conv => whnf); refine ifB_bne (fun w1 => ?_) (fun w1 => ?_)
     ·(exfalso; omega)
     ·(conv => whnf); refine .inl ⟨_, _, byX rfl (Sound1.pl (k24) rfl), ?_⟩
      (conv => whnf); refine ⟨inK64 (by omega) (by omega), ?_⟩
      (conv => whnf); refine ifB_dec (fun w2 => ?_) (fun w2 => ?_)
      ·(exfalso; omega)
      ·(conv => whnf); refine ⟨[], by kernel_rfl, ?_⟩
       (conv => whnf); refine .inl ⟨_, _, byX rfl (h17), ?_⟩
       (conv => whnf); refine .inl ⟨_, _, byX rfl (k26), ?_⟩
       (conv => whnf); refine .inl ⟨_, _, byX rfl (h17), ?_⟩
       (conv => whnf); refine .inl ⟨_, _, byX rfl (k35), ?_⟩
       (conv => whnf); refine ⟨inK64 (by omega) (by omega), ?_⟩
       (conv => whnf); refine .inl ⟨_, _, byX rfl (j26), ?_⟩
       (conv => whnf); refine ifB_bne (fun w3 => ?_) (fun w3 => ?_)
       ·(exfalso; omega)
       ·(conv => whnf); refine ifB_bne (fun w4 => ?_) (fun w4 => ?_)
        ·(exfalso; omega)
        ·(conv => whnf); refine ⟨[], [16, 20, 22], fun st mq => ∃ (k : Nat) (F0 : Nat → List AV) (F1 : Nat → List AV) (F2 : Nat → List AV) (F3 : Nat → List AV), (k ≤ F.length) ∧ st = ⟨[(16, frs F), (20, frs FF), (22, i64 k)], ⟨[⟨1, 1, F0, 0, false, true, false⟩, ⟨2, 1, F1, 0, false, true, false⟩, ⟨3, 1, F2, 0, false, true, false⟩, ⟨1, 1, F3, 0, false, true, false⟩], [], none, 0⟩, []⟩ ∧ mq = F.length - k,
          ⟨_, _, ⟨0, _, _, _, _, by omega, rfl, rfl⟩, ⟨⟨.inl rfl, rfl, rfl, rfl⟩, ⟨⟨rfl, rfl, rfl, rfl, fun _ => rfl, fun _ _ => .inl rfl⟩, ⟨⟨rfl, rfl, rfl, rfl, fun _ => rfl, fun _ _ => .inl rfl⟩, ⟨⟨rfl, rfl, rfl, rfl, fun _ => rfl, fun _ _ => .inl rfl⟩, ⟨⟨rfl, rfl, rfl, rfl, fun _ => rfl, fun _ _ => .inl rfl⟩, trivial⟩⟩⟩⟩, trivial⟩⟩, ?_⟩
         rintro s0 m0 ⟨k, F0, F1, F2, F3, hk, rfl, hmeas⟩
         by_cases hlt : k < F.length
         ·have hs := hFs _ (getD_memG (d := (0 : Rat)) hlt)
          have hr := r2 k hlt
          have ek : ((FF.length : Int) - 1 - (k : Int)).toNat = F.length - 1 - k := by omega
          have hv1 : (frI (FF.getD ((FF.length : Int) - 1 - (k : Int)).toNat 0)).1 = -(frI (F.getD (k : Int).toNat 0)).1 := by
           rw [ek, hr]; exact Rat.neg_num _
          have hv2 : (frI (FF.getD ((FF.length : Int) - 1 - (k : Int)).toNat 0)).2 = (frI (F.getD (k : Int).toNat 0)).2 := by
           rw [ek, hr]
           show (((-(F.getD k 0)).den : Nat) : Int) = ((F.getD k 0).den : Nat)
           rw [Rat.neg_den]
          have hb : -1000000000 ≤ (frI (F.getD (k : Int).toNat 0)).1 ∧ (frI (F.getD (k : Int).toNat 0)).1 ≤ 1000000000 := hs.1
          conv => whnf
          (conv => whnf); refine ifB_dec (fun w5 => ?_) (fun w5 => ?_)
          ·conv => whnf
           (conv => whnf); refine ⟨[], by kernel_rfl, ?_⟩
           conv => whnf
           (conv => whnf); refine ⟨⟨(by omega), (by omega)⟩, ?_⟩
           conv => whnf
           (conv => whnf); refine .inl ⟨_, _, byX rfl (Sound1.pl (l36 _) rfl), ?_⟩
           conv => whnf
           (conv => whnf); refine ifB_not ?_
           conv => whnf
           (conv => whnf); refine ifB_dec (fun w6 => ?_) (fun w6 => ?_)
           ·conv => whnf
            (conv => whnf); refine ⟨inK64 (by omega) (by omega), ?_⟩
            conv => whnf
            (conv => whnf); refine ⟨inK64 (by omega) (by omega), ?_⟩
            conv => whnf
            (conv => whnf); refine ⟨⟨(by omega), (by omega)⟩, ?_⟩
            conv => whnf
            (conv => whnf); refine ⟨⟨(by omega), (by omega)⟩, ?_⟩
            conv => whnf
            (conv => whnf); refine ⟨inK64 (by omega) (by omega), ?_⟩
            conv => whnf
            (conv => whnf); refine ⟨⟨(by omega), (by omega)⟩, ?_⟩
            conv => whnf
            (conv => whnf); refine ifB_not ?_
            conv => whnf
            (conv => whnf); refine ifB_veq2 (fun w7 => ?_) (fun w7 => ?_)
            ·conv => whnf
             (conv => whnf); refine ⟨inK64 (by omega) (by omega), ?_⟩
             conv => whnf
             (conv => whnf); refine ⟨_, _, ⟨⟨k + 1, _, _, _, _, by omega, rfl, rfl⟩, by omega⟩, ⟨⟨.inl rfl, rfl, rfl, rfl⟩, ⟨⟨rfl, rfl, rfl, rfl, fun _ => rfl, fun _ _ => .inl rfl⟩, ⟨⟨rfl, rfl, rfl, rfl, fun _ => rfl, fun _ _ => .inl rfl⟩, ⟨⟨rfl, rfl, rfl, rfl, fun _ => rfl, fun _ _ => .inl rfl⟩, ⟨⟨rfl, rfl, rfl, rfl, fun _ => rfl, fun _ _ => .inl rfl⟩, trivial⟩⟩⟩⟩, trivial⟩⟩
            ·(exfalso; omega)
           ·(exfalso; omega)
          ·(exfalso; omega)
         ·conv => whnf
          (conv => whnf); refine ifB_dec (fun w5 => ?_) (fun w5 => ?_)
          ·(exfalso; omega)
          ·conv => whnf
           (conv => whnf); refine ⟨?_, nofun⟩
           (first | contradiction | omega | rfl)
   ·refine sound (d := 2) tok2 mixed2 Tryz.func7 (by kernel_rfl) (by kernel_rfl) ?_
    (conv => whnf); refine .inl ⟨_, _, byX rfl (Sound1.pl (h14) rfl), ?_⟩
    (conv => whnf); refine .inl ⟨_, _, byX rfl (Sound1.pl (h15) rfl), ?_⟩
    (conv => whnf); refine .inl ⟨_, _, byX rfl (Sound1.pl (h18) rfl), ?_⟩
    (conv => whnf); refine .inl ⟨_, _, byX rfl (Sound1.pl (h19) rfl), ?_⟩
    (conv => whnf); refine ifB_bne (fun w1 => ?_) (fun w1 => ?_)
    ·(conv => whnf); refine ⟨?_, nofun⟩
     (first | contradiction | rfl | omega)
    ·(exfalso; omega)
  ·refine sound (d := 2) tok2 mixed2 Tryz.func7 (by kernel_rfl) (by kernel_rfl) ?_
   (conv => whnf); refine .inl ⟨_, _, byX rfl (Sound1.pl (h14) rfl), ?_⟩
   (conv => whnf); refine .inl ⟨_, _, byX rfl (Sound1.pl (h15) rfl), ?_⟩
   (conv => whnf); refine .inl ⟨_, _, byX rfl (Sound1.pl (h18) rfl), ?_⟩
   (conv => whnf); refine ifB_bne (fun w1 => ?_) (fun w1 => ?_)
   ·(conv => whnf); refine ⟨?_, nofun⟩
    (first | contradiction | rfl | omega)
   ·(exfalso; omega)
 ·have hw2 : fewT t = false := by cases h : fewT t <;> simp_all
  rw [hw2] at h15
  refine sound (d := 2) tok2 mixed2 Tryz.func7 (by kernel_rfl) (by kernel_rfl) ?_
  (conv => whnf); refine .inl ⟨_, _, byX rfl (Sound1.pl (h14) rfl), ?_⟩
  (conv => whnf); refine .inl ⟨_, _, byX rfl (Sound1.pl (h15) rfl), ?_⟩
  (conv => whnf); refine ⟨?_, nofun⟩
  (first | contradiction | rfl | omega)
end Go.Tr

/- The opening of a law: what an argument reads as, as abstract values, with its shape. Conditions: types of numbers, truth values, strings, slices, structs and arrays. -/
namespace Go.Tr
open Go Go.RowKit

def V2 (P : Program) (w : World) (q : Nat → Prop) : List AV → List Value → Prop
 | [], [] => True
 | x :: xs, v :: vs => (VT P w q x v ∧ v.oneCell' = true) ∧ V2 P w q xs vs
 | _, _ => False

def All2 {α β : Type} (p : α → β → Prop) : List α → List β → Prop
 | [], [] => True
 | x :: xs, y :: ys => p x y ∧ All2 p xs ys
 | _, _ => False

def TyC (P : Program) : Nat → TypeId → List AV → Prop
 | 0, _, _ => True
 | m + 1, t, xs => match P.underlying t with
  | some .bool => ∃ b, xs = [.val (.bool b)]
  | some (.int k) => ∃ n, xs = [.val (.int k n)] ∧ inK k n
  | some .string => ∃ s : ByteArray, xs = [.val (.string s)] ∧ s.size ≤ 9223372036854775807
  | some (.slice e) => ∃ len f, xs = [.rslice (P.cellsOf e) len f] ∧ len ≤ 9223372036854775807 ∧ ∀ i, i < len → TyC P m e (f i)
  | some (.struct fs) => ∃ ps : List (List AV), xs = ps.flatten ∧ All2 (fun f p => TyC P m f.type p) fs.toList ps
  | some (.array n e) => ∃ ps : List (List AV), xs = ps.flatten ∧ ps.length = n ∧ ∀ p ∈ ps, TyC P m e p
  | _ => False

def layF (P : Program) (g : TypeId → Bool) : List Field → Nat → Nat → Bool
 | [], off, tot => Nat.beq off tot
 | f :: r, off, tot => Nat.beq f.offset off && g f.type && layF P g r (off + P.cellsOf f.type) tot

def lay (P : Program) : Nat → TypeId → Bool
 | 0, _ => false
 | m + 1, t => match P.underlying t with
  | some .bool | some (.int _) | some .string => true
  | some (.slice e) => Nat.blt 0 (P.cellsOf e) && lay P m e
  | some (.struct fs) => layF P (lay P m) fs.toList 0 (P.cellsOf t)
  | some (.array n e) => Nat.beq (P.cellsOf t) (n * P.cellsOf e) && lay P m e
  | _ => false

section
variable {H : Type} {enc : TypeId × Value → H} {P : Program} {w : World} {spare : Nat → Bool} {held : Bool} {q : Nat → Prop}

theorem V2_len : ∀ {xs : List AV} {vs : List Value}, V2 P w q xs vs → xs.length = vs.length
 | [], [], _ => rfl
 | x :: xs, v :: vs, h => by simp [V2_len h.2]
 | [], _ :: _, h => h.elim
 | _ :: _, [], h => h.elim

theorem V2_append : ∀ {xs : List AV} {vs : List Value} {ys : List AV} {us : List Value}, V2 P w q xs vs → V2 P w q ys us → V2 P w q (xs ++ ys) (vs ++ us)
 | [], [], _, _, _, h => h
 | _ :: _, _ :: _, _, _, h, h' => ⟨h.1, V2_append h.2 h'⟩
 | [], _ :: _, _, _, h, _ => h.elim
 | _ :: _, [], _, _, h, _ => h.elim

theorem V2_get : ∀ {xs : List AV} {vs : List Value}, V2 P w q xs vs → ∀ (i : Nat) x, xs[i]? = some x → VT P w q x (vs.getD i undef) ∧ (vs.getD i undef).oneCell' = true
 | [], [], _, i, x, hx => by simp at hx
 | y :: ys, v :: vs, h, 0, x, hx => by
  simp at hx
  subst hx
  simpa using h.1
 | y :: ys, v :: vs, h, i + 1, x, hx => by
  have := V2_get h.2 i x (by simpa using hx)
  simpa using this
 | [], _ :: _, h, _, _, _ => h.elim
 | _ :: _, [], h, _, _, _ => h.elim

theorem mapM_cons_some {α β : Type} {f : α → Option β} {a : α} {l : List α} {r : List β} (h : (a :: l).mapM f = some r) : ∃ b bs, f a = some b ∧ l.mapM f = some bs ∧ r = b :: bs := by
 rw [List.mapM_cons] at h
 cases ha : f a with
 | none => simp [ha] at h
 | some b =>
  cases hl : l.mapM f with
  | none => simp [ha, hl] at h
  | some bs => simp [ha, hl] at h; exact ⟨b, bs, rfl, rfl, h.symm⟩

theorem mapM_get {α β : Type} {f : α → Option β} : ∀ {l : List α} {r : List β}, l.mapM f = some r → r.length = l.length ∧ ∀ (i : Nat) x, l[i]? = some x → ∃ y, f x = some y ∧ r[i]? = some y
 | [], r, h => by simp at h; subst h; exact ⟨rfl, fun i x hx => by simp at hx⟩
 | a :: l, r, h => by
  obtain ⟨b, bs, h1, h2, rfl⟩ := mapM_cons_some h
  obtain ⟨g1, g2⟩ := mapM_get h2
  refine ⟨by simp [g1], fun i x hx => ?_⟩
  cases i with
  | zero => simp at hx; subst hx; exact ⟨b, h1, rfl⟩
  | succ i => simpa using g2 i x (by simpa using hx)

theorem cells_some {a : Addr} {n : Nat} {cs : List Value} (h : w.cells? 0 a n = some cs) : cs.length = n ∧ ∀ j, j < n → w.cell? (a.add j) = some (cs.getD j undef) := by
 unfold World.cells? at h
 rw [if_pos (Nat.zero_le _)] at h
 obtain ⟨h1, h2⟩ := mapM_get h
 refine ⟨by simpa using h1, fun j hj => ?_⟩
 obtain ⟨y, h3, h4⟩ := h2 j j (by simp [hj])
 rw [h3, List.getD_eq_getElem?_getD, h4]
 rfl

theorem cell_spot {a : Addr} {v : Value} (h : w.cell? a = some v) : a.spot = none ∧ a.block < w.heap.size := by
 unfold World.cell? at h
 split at h
 ·rename_i c t fr hb
  refine ⟨?_, ?_⟩
  ·cases hs : a.spot with
   | none => rfl
   | some s => simp [hs] at h
  ·exact (Array.getElem?_eq_some_iff.1 hb).1
 ·cases h

theorem addr_add2 (blk off u j : Nat) : ((⟨blk, off, none⟩ : Addr).add u).add j = ⟨blk, off + (u + j), none⟩ := by
 unfold Addr.add
 by_cases h1 : u = 0
 ·subst h1
  by_cases h2 : j = 0
  ·subst h2; rfl
  ·simp [h2]
 ·by_cases h2 : j = 0
  ·subst h2; simp [h1]
  ·simp [h1, h2, Nat.add_assoc]

theorem fields_av {g : TypeId → List Value → Option (DataW H × List MemPlace)} {T : TypeId → List AV → Prop} {ly : TypeId → Bool}
  (ih : ∀ t, ly t = true → ∀ cs x, g t cs = some x → ∃ xs, V2 P w q xs cs ∧ T t xs) (cs : List Value) : ∀ (fs : List Field) (off : Nat) (r : List (DataW H × List MemPlace)), layF P ly fs off cs.length = true →
  (fs.mapM fun f => g f.type ((cs.drop f.offset).take (P.cellsOf f.type))) = some r → ∃ ps : List (List AV), V2 P w q ps.flatten (cs.drop off) ∧ All2 (fun f p => T f.type p) fs ps
 | [], off, r, hl, h => by
  have := Nat.eq_of_beq_eq_true hl
  subst this
  exact ⟨[], by simp [V2], trivial⟩
 | f :: fs, off, r, hl, h => by
  simp only [layF, Bool.and_eq_true] at hl
  obtain ⟨⟨h1, h2⟩, h3⟩ := hl
  have e := Nat.eq_of_beq_eq_true h1
  obtain ⟨b, bs, g1, g2, rfl⟩ := mapM_cons_some h
  obtain ⟨p, p1, p2⟩ := ih _ h2 _ _ g1
  obtain ⟨ps, r1, r2⟩ := fields_av ih cs fs _ _ h3 g2
  refine ⟨p :: ps, ?_, p2, r2⟩
  rw [List.flatten_cons]
  have : cs.drop off = (cs.drop f.offset).take (P.cellsOf f.type) ++ cs.drop (off + P.cellsOf f.type) := by
   rw [e, ← List.drop_drop]
   exact (List.take_append_drop _ _).symm
  rw [this]
  exact V2_append p1 r1

theorem items_av {g : List Value → Option (DataW H × List MemPlace)} {T : List AV → Prop} (ih : ∀ cs x, g cs = some x → ∃ xs, V2 P w q xs cs ∧ T xs) (cs : List Value) (s n : Nat) (hn : cs.length = n * s)
  (h : ∀ i, i < n → ∃ x, g ((cs.drop (i * s)).take s) = some x) : ∀ (k i : Nat), i + k = n → ∃ ps : List (List AV), V2 P w q ps.flatten (cs.drop (i * s)) ∧ ps.length = k ∧ ∀ p ∈ ps, T p
 | 0, i, hi => by
  have : i = n := by omega
  subst this
  refine ⟨[], ?_, rfl, nofun⟩
  rw [List.drop_eq_nil_of_le (by omega)]
  exact trivial
 | k + 1, i, hi => by
  obtain ⟨x, hx⟩ := h i (by omega)
  obtain ⟨p, p1, p2⟩ := ih _ _ hx
  obtain ⟨ps, r1, r2, r3⟩ := items_av ih cs s n hn h k (i + 1) (by omega)
  refine ⟨p :: ps, ?_, by simp [r2], fun y hy => ?_⟩
  ·rw [List.flatten_cons]
   have : cs.drop (i * s) = (cs.drop (i * s)).take s ++ cs.drop ((i + 1) * s) := by
    rw [Nat.succ_mul, ← List.drop_drop]
    exact (List.take_append_drop _ _).symm
   rw [this]
   exact V2_append p1 r1
  ·rcases List.mem_cons.1 hy with rfl | hy
   ·exact p2
   ·exact r3 y hy

theorem trod_av (hq : ∀ b, b < w.heap.size → q b) : ∀ (m : Nat) (t : TypeId), lay P m t = true → ∀ (fuel : Nat) (cs : List Value) (x : DataW H × List MemPlace), DataW.trod enc P w 0 spare held fuel t cs = some x → ∃ xs, V2 P w q xs cs ∧ TyC P m t xs
 | 0, t, hl, _, _, _, _ => by simp [lay] at hl
 | m + 1, t, hl, 0, cs, x, h => by simp [DataW.trod] at h
 | m + 1, t, hl, fuel + 1, cs, x, h => by
  unfold lay at hl
  unfold TyC
  unfold DataW.trod at h
  cases hu : P.underlying t with
  | none => simp [hu] at hl
  | some d =>
   simp only [hu] at hl h ⊢
   cases d with
   | bool =>
    split at h <;> first | (cases h; done) | (rename_i e; cases e; done) | skip
    cases h
    exact ⟨[.val (.bool _)], ⟨⟨.val _, rfl⟩, trivial⟩, _, rfl⟩
   | int k =>
    split at h <;> first | (cases h; done) | (rename_i e; cases e; done) | skip
    rename_i e
    cases e
    split at h
    ·rename_i hk
     obtain ⟨rfl, hw⟩ := hk
     simp only [Lit.wf, Bool.and_eq_true, decide_eq_true_eq] at hw
     exact ⟨[.val (.int _ _)], ⟨⟨.val _, rfl⟩, trivial⟩, _, rfl, hw⟩
    ·cases h
   | string =>
    split at h <;> first | (cases h; done) | (rename_i e; cases e; done) | skip
    split at h
    ·rename_i hs
     exact ⟨[.val (.string _)], ⟨⟨.val _, rfl⟩, trivial⟩, _, rfl, hs⟩
    ·cases h
   | slice e =>
    simp only [Bool.and_eq_true] at hl
    split at h <;> first | (cases h; done) | (rename_i e; cases e; done) | skip
    ·exact ⟨[.rslice (P.cellsOf e) 0 fun _ => []], ⟨⟨.rslice0 _ _ _ _, rfl⟩, trivial⟩, _, _, rfl, by omega, fun i hi => absurd hi (Nat.not_lt_zero i)⟩
    ·rename_i e0 a len cap e1
     cases e1
     split at h
     case isFalse => cases h
     rename_i hb
     have hes : 0 < P.cellsOf e := Nat.le_of_ble_eq_true hl.1
     cases hM : (List.range len).mapM fun i => (w.cells? 0 (a.add (i * P.cellsOf e)) (P.cellsOf e)).bind (DataW.trod enc P w 0 spare held fuel e) with
     | none => rw [hM] at h; cases h
     | some elems =>
      obtain ⟨_, g2⟩ := mapM_get hM
      have hx : ∀ i, ∃ xs : List AV, i < len → ∃ cs, (cs.length = P.cellsOf e ∧ ∀ j, j < P.cellsOf e → w.cell? ((a.add (i * P.cellsOf e)).add j) = some (cs.getD j undef)) ∧ V2 P w q xs cs ∧ TyC P m e xs := fun i => by
       by_cases hi : i < len
       ·obtain ⟨y, y1, _⟩ := g2 i i (by simp [hi])
        cases hc : w.cells? 0 (a.add (i * P.cellsOf e)) (P.cellsOf e) with
        | none => rw [hc] at y1; cases y1
        | some cs1 =>
         rw [hc] at y1
         obtain ⟨xs, x1, x2⟩ := trod_av hq m e hl.2 _ _ _ y1
         exact ⟨xs, fun _ => ⟨cs1, cells_some hc, x1, x2⟩⟩
       ·exact ⟨[], fun h => absurd h hi⟩
      have hf := fun i => (Classical.choose_spec (hx i))
      generalize hF : (fun i => Classical.choose (hx i)) = F
      have hf : ∀ i, i < len → ∃ cs, (cs.length = P.cellsOf e ∧ ∀ j, j < P.cellsOf e → w.cell? ((a.add (i * P.cellsOf e)).add j) = some (cs.getD j undef)) ∧ V2 P w q (F i) cs ∧ TyC P m e (F i) := fun i hi => by
       have := Classical.choose_spec (hx i) hi
       rw [← hF]
       exact this
      refine ⟨[.rslice (P.cellsOf e) len F], ⟨⟨?_, rfl⟩, trivial⟩, len, F, rfl, ?_, fun i hi => ?_⟩
      ·rcases Nat.eq_zero_or_pos len with rfl | hp
       ·exact .rslice0 _ _ _ _
       ·obtain ⟨cs0, c1, _, _⟩ := hf 0 hp
        have hc0 := c1.2 0 hes
        have e0 : ((a.add (0 * P.cellsOf e)).add 0) = a := by simp [Addr.add]
        rw [e0] at hc0
        obtain ⟨s1, s2⟩ := cell_spot hc0
        obtain ⟨blk, off, spot⟩ := a
        simp only at s1 s2
        subst s1
        have hG : ∀ i, ∃ cs : List Value, i < len → (cs.length = P.cellsOf e ∧ ∀ j, j < P.cellsOf e → w.cell? (((⟨blk, off, none⟩ : Addr).add (i * P.cellsOf e)).add j) = some (cs.getD j undef)) ∧ V2 P w q (F i) cs := fun i => by
         by_cases hi : i < len
         ·obtain ⟨cs, c1, c2, _⟩ := hf i hi
          exact ⟨cs, fun _ => ⟨c1, c2⟩⟩
         ·exact ⟨[], fun h => absurd h hi⟩
        refine .rslice _ _ _ blk off cap (fun i j => (Classical.choose (hG i)).getD j undef) hb.2.1 (hq _ s2) (fun i hi => ?_) (fun i j hi hj => ?_) (fun i j x hi hx => ?_)
        ·obtain ⟨c1, c2⟩ := Classical.choose_spec (hG i) hi
         rw [V2_len c2, c1.1]
        ·obtain ⟨c1, c2⟩ := Classical.choose_spec (hG i) hi
         have hc := c1.2 j hj
         have ea : ((⟨blk, off, none⟩ : Addr).add (i * P.cellsOf e)).add j = ⟨blk, off + (i * P.cellsOf e + j), none⟩ := by
          exact addr_add2 blk off _ j
         rw [ea] at hc
         refine ⟨hc, ?_⟩
         have hlt : j < (F i).length := by rw [V2_len c2, c1.1]; exact hj
         exact (V2_get c2 j _ (List.getElem?_eq_getElem hlt)).2
        ·obtain ⟨c1, c2⟩ := Classical.choose_spec (hG i) hi
         exact (V2_get c2 j x hx).1
      ·have := hb.2.2
       unfold maxLen at this
       omega
      ·obtain ⟨_, _, _, h3⟩ := hf i hi
       exact h3
   | struct fs =>
    replace h : (if cs.length = P.cellsOf t then (fs.toList.mapM fun f => DataW.trod enc P w 0 spare held fuel f.type ((cs.drop f.offset).take (P.cellsOf f.type))).map fun xs => (.agg (xs.map (·.1)), xs.flatMap (·.2)) else none) = some x := h
    split at h
    case isFalse => cases h
    rename_i hc
    cases hM : fs.toList.mapM fun f => DataW.trod enc P w 0 spare held fuel f.type ((cs.drop f.offset).take (P.cellsOf f.type)) with
    | none => rw [hM] at h; cases h
    | some r =>
     obtain ⟨ps, p1, p2⟩ := fields_av (T := TyC P m) (ly := lay P m) (fun t ht cs x hx => trod_av hq m t ht fuel cs x hx) cs fs.toList 0 r (by rw [hc]; exact hl) hM
     exact ⟨ps.flatten, by simpa using p1, ps, rfl, p2⟩
   | array n e =>
    simp only [Bool.and_eq_true] at hl
    replace h : (if cs.length = P.cellsOf t then ((List.range n).mapM fun i => DataW.trod enc P w 0 spare held fuel e ((cs.drop (i * P.cellsOf e)).take (P.cellsOf e))).map fun xs => (.agg (xs.map (·.1)), xs.flatMap (·.2)) else none) = some x := h
    split at h
    case isFalse => cases h
    rename_i hc
    cases hM : (List.range n).mapM fun i => DataW.trod enc P w 0 spare held fuel e ((cs.drop (i * P.cellsOf e)).take (P.cellsOf e)) with
    | none => rw [hM] at h; cases h
    | some r =>
     obtain ⟨_, g2⟩ := mapM_get hM
     obtain ⟨ps, p1, p2, p3⟩ := items_av (T := TyC P m e) (fun cs x hx => trod_av hq m e hl.2 fuel cs x hx) cs (P.cellsOf e) n (by rw [hc]; exact Nat.eq_of_beq_eq_true hl.1)
      (fun i hi => by obtain ⟨y, y1, _⟩ := g2 i i (by simp [hi]); exact ⟨y, y1⟩) n 0 (by omega)
     exact ⟨ps.flatten, by simpa using p1, ps, rfl, p2, p3⟩
   | _ => simp at hl

def TyA (P : Program) (m : Nat) (t : TypeId) (x : AV) : Prop :=
 match P.underlying t with
 | some (.struct _) | some (.array _ _) => ∃ xs, x = .agg xs ∧ TyC P m t xs
 | _ => TyC P m t [x]

theorem open_av {r : Reach} {b0 : Nat} {t : TypeId} {v : Value} {d : DataW H} {ps : List MemPlace} {m : Nat} (hl : lay P m t = true) (hq : ∀ b, b < w.heap.size → q b)
  (hv : Value.okWide P w r b0 t v) (hd : DataW.Trod enc P w 0 spare held t v d ps) : ∃ x, VT P w q x v ∧ TyA P m t x := by
 obtain ⟨fuel, hf⟩ := hd
 obtain ⟨xs, h1, h2⟩ := trod_av hq m t hl fuel _ _ hf
 have agg : ∀ cs, v = .agg cs → VT P w q (.agg xs) v := by
  rintro cs rfl
  have hlen := V2_len h1
  refine .agg xs cs (by rw [hlen]; simp [Value.cells]) (fun u hu => ?_) (fun i x hx => ?_)
  ·obtain ⟨i, hi, rfl⟩ := List.getElem_of_mem hu
   have hx : i < xs.length := by rw [hlen]; simpa [Value.cells] using hi
   have := (V2_get h1 i _ (List.getElem?_eq_getElem hx)).2
   have hi' : i < cs.size := by simpa using hi
   simpa [Value.cells, List.getD_eq_getElem?_getD, hi'] using this
  ·have := (V2_get h1 i x hx).1
   simpa [Value.cells, List.getD_eq_getElem?_getD, Array.getD_eq_getD_getElem?] using this
 have one : ∀ u, v.cells.toList = [u] → v = u → ∃ x, VT P w q x v ∧ TyC P m t [x] := by
  rintro u e rfl
  rw [e] at h1
  match xs, h1, h2 with
  | [x], h1, h2 => exact ⟨x, h1.1.1, h2⟩
 unfold TyA
 unfold Value.okWide at hv
 split
 ·rename_i fs hu
  simp only [hu] at hv
  obtain ⟨cs, e, _, _⟩ := hv
  exact ⟨_, agg cs e, xs, rfl, h2⟩
 ·rename_i n e hu
  simp only [hu] at hv
  obtain ⟨cs, e, _, _⟩ := hv
  exact ⟨_, agg cs e, xs, rfl, h2⟩
 ·rename_i n1 n2
  have hc : Cell.okWide P w r b0 t v := by
   split at hv
   ·rename_i hu; exact absurd hu (n1 _)
   ·rename_i hu; exact absurd hu (n2 _ _)
   ·exact hv
  cases v with
  | agg cs =>
   simp only [Cell.okWide] at hc
   split at hc <;> first | (rename_i e _; cases e; done) | (rename_i e; cases e; done) | (simp [Cell.ok] at hc)
  | tuple cs =>
   simp only [Cell.okWide] at hc
   split at hc <;> first | (rename_i e _; cases e; done) | (rename_i e; cases e; done) | (simp [Cell.ok] at hc)
  | _ => exact one _ rfl rfl
end
end Go.Tr
